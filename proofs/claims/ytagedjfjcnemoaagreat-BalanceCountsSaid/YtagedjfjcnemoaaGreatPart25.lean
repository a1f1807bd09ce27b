/-
  A part of the proof that a law answers true: lemmas of a symbolic walk, plain functions, or contracts of the functions walked (Rm, Rn, Ro, Rp, Rq, Rr, Rt, Sx29, Sx46). Conditions: none.
-/
import Derived.Test.YtagedjfjcnemoaaGreatPart24
import Derived.Test.YtagedjfjcnemoaaGreatPart07
import Derived.Test.YtagedjfjcnemoaaGreatPart11
import Derived.Deep.Slices
import Derived.ChangeArms
import Derived.SizedLaws
set_option maxRecDepth 100000
set_option linter.unusedVariables false
set_option linter.unusedSimpArgs false
namespace Go.Proofs
open Go.Sx

theorem plF_take {α : Type} [DecidableEq α] {l : List α} {x : α} {i : Nat} (h : i < l.length) (hn : ∀ y ∈ l.take i, y ≠ x) (he : l[i] = x) : plF l x = i := by
  have hm : x ∈ l := he ▸ List.getElem_mem h
  have h1 : l = l.take i ++ x :: l.drop (i + 1) := by rw [← he, ← List.drop_eq_getElem_cons h, List.take_append_drop]
  unfold plF
  rw [if_pos hm]
  have h2 : l.idxOf x = i := by
    rw [h1, List.idxOf_append, if_neg (fun hx => hn x hx rfl)]
    simp
    omega
  rw [h2]

theorem plF_none {α : Type} [DecidableEq α] {l : List α} {x : α} (hn : ∀ y ∈ l, y ≠ x) : plF l x = -1 := by
  unfold plF
  rw [if_neg (fun hx => hn x hx rfl)]

end Go.Proofs

namespace Go.Proofs
open Go.Sx

end Go.Proofs

namespace Go.Proofs
open Go.Sx

end Go.Proofs

namespace Go.Proofs
open Go.Sx

end Go.Proofs

namespace Go.Proofs
open Go.Sx

end Go.Proofs

namespace Go.Proofs
open Go.Sx

end Go.Proofs

namespace Go.Proofs
open Go.Sx


end Go.Proofs

namespace Go
namespace Sx
open Go.Deep Go.ChangeShapes Go.WideShapes

end Sx
end Go

namespace Go
namespace Sx
open Go.Deep Go.ChangeShapes Go.WideShapes

structure AllI (P : Program) (t n : Nat) : Prop where
  cells : P.cellsOf t = n
  op : ∀ {H : Type} {enc : TypeId × Value → H} {w : World} {held : Bool} {fuel : Nat} {cs : List Value} {x : DataW H × List MemPlace}, DataW.trod enc P w 0 (fun _ => true) held fuel t cs = some x →
    cs.length = n ∧ ∃ V : Nat → Int, ∀ j, j < n → cs[j]? = some (.int .i64 (V j))

theorem allI_int {P : Program} {t : Nat} (h : P.underlying t = some (.int .i64)) (hc : P.cellsOf t = 1) : AllI P t 1 where
  cells := hc
  op := by
    intro H enc w held fuel cs x hx
    obtain ⟨n, rfl, _, _⟩ := DataW.trod_int h hx
    exact ⟨rfl, fun _ => n, fun j hj => by obtain rfl : j = 0 := by omega
                                           rfl⟩

def AllFs (P : Program) : List Field → Nat → Nat → Prop
  | [], j, n => j = n
  | f :: r, j, n => ∃ m, f.offset = j ∧ AllI P f.type m ∧ AllFs P r (j + m) n

theorem allFs_get {P : Program} {H : Type} {enc : TypeId × Value → H} {w : World} {held : Bool} {fuel n : Nat} {cs : List Value} (hl : cs.length = n) : ∀ {fs : List Field} {j : Nat}, AllFs P fs j n →
    (∀ f ∈ fs, ∃ x, DataW.trod enc P w 0 (fun _ => true) held fuel f.type ((cs.drop f.offset).take (P.cellsOf f.type)) = some x) →
    ∃ V : Nat → Int, ∀ i, j ≤ i → i < n → cs[i]? = some (.int .i64 (V i))
  | [], j, h, _ => ⟨fun _ => 0, fun i h1 h2 => by have h : j = n := h; omega⟩
  | f :: r, j, ⟨m, ho, hA, hr⟩, hx => by
    obtain ⟨V2, hV2⟩ := allFs_get hl hr fun g hg => hx g (List.mem_cons_of_mem _ hg)
    obtain ⟨x, hx⟩ := hx f (List.mem_cons_self ..)
    rw [ho, hA.cells] at hx
    obtain ⟨_, V1, hV1⟩ := hA.op hx
    refine ⟨fun i => if i < j + m then V1 (i - j) else V2 i, fun i h1 h2 => ?_⟩
    by_cases hi : i < j + m
    · dsimp only
      rw [if_pos hi]
      have := hV1 (i - j) (by omega)
      rw [List.getElem?_take, if_pos (by omega), List.getElem?_drop] at this
      rw [← this]; congr 1; omega
    · dsimp only
      rw [if_neg hi]
      exact hV2 i (by omega) h2

theorem allI_struct {P : Program} {t n : Nat} {fs : Array Field} (h : P.underlying t = some (.struct fs)) (hc : P.cellsOf t = n) (hF : AllFs P fs.toList 0 n) : AllI P t n where
  cells := hc
  op := by
    intro H enc w held fuel cs x hx
    obtain ⟨xs, k, _, _, hl, hxl, hff⟩ := DataW.trod_struct h hx
    rw [hc] at hl
    obtain ⟨V, hV⟩ := allFs_get hl hF fun f hf => by
      obtain ⟨i, hi⟩ := List.mem_iff_getElem?.1 hf
      have := hff i f (by simpa using hi)
      have hlt : i < xs.length := by rw [hxl]; have := (List.getElem?_eq_some_iff.1 hi).1; simpa using this
      rw [List.getElem?_eq_getElem hlt] at this
      exact ⟨_, this⟩
    exact ⟨hl, V, fun j hj => hV j (Nat.zero_le _) hj⟩

theorem open_slI {H : Type} {enc : TypeId × Value → H} {P : Program} {w : World} {held : Bool} {t e n fuel : Nat} {cs : List Value} {x : DataW H × List MemPlace}
    (ht : P.underlying t = some (.slice e)) (he : AllI P e n) (hpos : 0 < n) (hby : 1 ≤ P.bytesOf e) (hw : ∀ y ∈ x.1.weights P t, y ≤ reachBytes)
    (h : DataW.trod enc P w 0 (fun _ => true) held fuel t cs = some x) :
    (∃ a, cs = [.slice a 0 0]) ∨ ∃ (b off len cap : Nat) (V : Nat → Nat → Int), cs = [.slice (some ⟨b, off, none⟩) len cap] ∧ len ≤ cap ∧ len ≤ reachBytes ∧ b < w.heap.size ∧
      ∀ i, i < len → ∀ j, j < n → w.cell? ⟨b, off + (i * n + j), none⟩ = some (.int .i64 (V i j)) := by
  rcases open_slice ht h with ⟨h0, _⟩ | ⟨a, len, cap, m, n', D, Pl, rfl, hb, hl, hm, hmm, hxx, hx⟩
  · exact .inl ⟨none, h0⟩
  simp only [if_true] at hmm
  subst hmm
  rcases Nat.eq_zero_or_pos m with rfl | hcp
  · have : len = 0 := by omega
    subst this
    exact .inl ⟨some a, rfl⟩
  right
  have hle : len ≤ reachBytes := by
    subst hxx
    have := hw ((len + (m - len)) * P.bytesOf e) (by simp [DataW.weights, ht])
    have h2 : len * 1 ≤ (len + (m - len)) * P.bytesOf e := Nat.mul_le_mul (by omega) hby
    omega
  have each : ∀ i, i < m → ∃ V : Nat → Int, ∀ j, j < n → w.cell? (a.add (i * n + j)) = some (.int .i64 (V j)) := by
    intro i hi
    obtain ⟨cs', g1, g2⟩ := hx i hi
    rw [he.cells] at g1
    obtain ⟨_, hlen, hcell⟩ := World.cells?_some g1
    obtain ⟨_, V, hV⟩ := he.op g2
    refine ⟨V, fun j hj => ?_⟩
    have hc := hcell j hj
    rw [hV j hj, add_add] at hc
    exact hc
  obtain ⟨V, hV⟩ := choose_lt (α := Nat → Int) (p := fun i f => ∀ j, j < n → w.cell? (a.add (i * n + j)) = some (.int .i64 (f j))) each
  have h00 := hV 0 hcp 0 hpos
  obtain ⟨b, off, spot⟩ := a
  have hs : spot = none := by simpa [Addr.add] using World.cell?_spot h00
  subst hs
  refine ⟨b, off, len, m, V, rfl, hl, hle, ?_, fun i hi j hj => ?_⟩
  · have h00' : w.cell? ⟨b, off, none⟩ = some (.int .i64 (V 0 0)) := by simpa [Addr.add] using h00
    rcases Nat.lt_or_ge b w.heap.size with hlt | hge
    · exact hlt
    · simp [World.cell?, Array.getElem?_eq_none hge] at h00'
  · have := hV i (by omega) j hj
    rwa [add_plain] at this

theorem satO_cameR {ρ : Asg} {w : World} {k : Nat} {A : Arr} (hl : A.xs.length ≤ (ρ k).cap) (h : ∀ i x, A.xs[i]? = some x → ∀ j c, (A.enc x)[j]? = some c → ∃ v, w.cell? (adr ρ k (i * A.sz + j)) = some v ∧ c.rel ρ v) :
    SatO ρ w k false (.arr A) where
  wf := hl
  at_ i j c hc := by
    rw [Sx.arr_cell?] at hc
    cases hx : A.xs[i]? with
    | none => rw [hx] at hc; cases hc
    | some x => rw [hx] at hc; exact h i x hx j c hc
  room h := by cases h
  off0 h := by cases h
  keys Φ h := by cases h

theorem key_sl {α : Type} {H : Type} {enc : TypeId × Value → H} {P : Program} {w : World} {held : Bool} {t e n fuel : Nat} {a : Value} {x : DataW H × List MemPlace} (f : α → List Int) (hf : ∀ x, (f x).length = n) (mk : (Nat → Int) → α)
    (hmk : ∀ V j z, (f (mk V))[j]? = some z → j < n ∧ z = V j)
    (ht : P.underlying t = some (.slice e)) (he : AllI P e n) (hpos : 0 < n) (hby : 1 ≤ P.bytesOf e) (hw : ∀ y ∈ x.1.weights P t, y ≤ reachBytes)
    (h : DataW.trod enc P w 0 (fun _ => true) held fuel t [a] = some x) (k : Nat) :
    ∃ (xs : List α) (r : Rg), xs.length ≤ reachBytes ∧ ∀ ρ : Asg, ρ k = r → (SC.s k 0 xs.length n).rel ρ a ∧ SatO ρ w k false (.arr (aRec n f hf xs)) ∧ (0 < r.cap → r.blk < w.heap.size) := by
  rcases open_slI ht he hpos hby hw h with ⟨a0, ha⟩ | ⟨bb, off, len, cap, V, ha, hle, hlr, hblk, hcell⟩
  · simp at ha; subst ha
    exact ⟨[], ⟨0, 0, 0⟩, Nat.zero_le _, fun ρ hρ => ⟨⟨a0, by rw [hρ]; rfl, by rw [hρ]; exact Nat.le_refl _, fun h => by rw [hρ] at h; cases h⟩, satO_cameR (Nat.zero_le _) (fun i x hx => by cases hx), fun h => by cases h⟩⟩
  · simp at ha; subst ha
    have hlen : ((List.range len).map fun i => mk (V i)).length = len := by simp
    refine ⟨(List.range len).map fun i => mk (V i), ⟨bb, off, cap⟩, by rw [hlen]; exact hlr, fun ρ hρ => ⟨?_, satO_cameR ?_ ?_, fun _ => hblk⟩⟩
    · rw [hlen]
      exact ⟨_, by rw [hρ]; rfl, by rw [hρ]; show 0 + len ≤ cap; omega, fun _ => by simp [adr, hρ]⟩
    · show ((List.range len).map fun i => mk (V i)).length ≤ _
      rw [hlen, hρ]; exact hle
    · intro i x hx j c hc
      have hx : ((List.range len).map fun i => mk (V i))[i]? = some x := hx
      rw [List.getElem?_map] at hx
      obtain ⟨i', hi', rfl⟩ := Option.map_eq_some_iff.1 hx
      obtain ⟨hil, hie⟩ := List.getElem?_eq_some_iff.1 hi'
      have hil : i < len := by simpa using hil
      have hie : i' = i := by simpa using hie.symm
      subst hie
      have hc : (encI (f (mk (V i'))))[j]? = some c := hc
      obtain ⟨z, hz, rfl⟩ := encI_get hc
      obtain ⟨hj, rfl⟩ := hmk (V i') j z hz
      show ∃ v, w.cell? (adr ρ k (i' * n + j)) = some v ∧ _
      rw [show adr ρ k (i' * n + j) = ⟨bb, off + (i' * n + j), none⟩ from by simp [adr, hρ]]
      exact ⟨_, hcell i' hil j hj, rfl⟩

end Sx
end Go

