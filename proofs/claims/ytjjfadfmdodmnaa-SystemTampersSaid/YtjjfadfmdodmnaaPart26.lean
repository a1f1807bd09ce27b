/-
  A part of the proof that a law of dryweightlaw03 answers true: lemmas of a symbolic walk, plain functions, or contracts of the functions walked (Sx29, Wo, Wp, Wq, Wr, Zt, Sx38, Zu, Sx31, Xd). Conditions: none.
-/
import Derived.Test.YtjjfadfmdodmnaaPart07
import Derived.Test.YtjjfadfmdodmnaaPart13
import Derived.Deep.Slices
import Derived.ChangeArms
import Derived.Test.YtjjfadfmdodmnaaPart09
import Derived.Test.YtjjfadfmdodmnaaPart23
import Derived.Test.YtjjfadfmdodmnaaPart24
import Derived.Test.YtjjfadfmdodmnaaPart25
import Derived.Test.YtjjfadfmdodmnaaRows
import Derived.Test.YtjjfadfmdodmnaaChecked
import Derived.WideKeyArgs
import Derived.Carry
import Derived.Handed
import Derived.RowKit
import Derived.JoinedOf
import Derived.ChangeSame
import Derived.Test.YtjjfadfmdodmnaaPart22
import Derived.WideKeyRuns
import Derived.Test.YtjjfadfmdodmnaaPart17
set_option maxRecDepth 100000
set_option linter.unusedVariables false
set_option linter.unusedSimpArgs false
namespace Go
namespace Sx
open Go.Deep Go.ChangeShapes Go.WideShapes

/-! ### A slice that came in, whose elements are structs of integers -/

def oneFs (P : Program) : List Field → Bool
  | [] => true
  | f :: r => Nat.beq (P.cellsOf f.type) 1 && oneFs P r

theorem intFs_get {P : Program} : ∀ {fs : List Field} {j i : Nat} {f : Field}, intFs P fs j = true → fs[i]? = some f → f.offset = j + i ∧ P.underlying f.type = some (.int .i64)
  | [], _, _, _, _, h => by simp at h
  | g :: r, j, i, f, h, hi => by
    simp only [intFs, Bool.and_eq_true] at h
    obtain ⟨_, h2, h3, h4⟩ := h
    cases i with
    | zero => simp at hi; subst hi; exact ⟨by simpa using h2, isI64_eq h3⟩
    | succ i =>
      have := intFs_get h4 (by simpa using hi)
      exact ⟨by omega, this.2⟩

theorem oneFs_get {P : Program} : ∀ {fs : List Field} {i : Nat} {f : Field}, oneFs P fs = true → fs[i]? = some f → P.cellsOf f.type = 1
  | [], _, _, _, h => by simp at h
  | g :: r, i, f, h, hi => by
    simp only [oneFs, Bool.and_eq_true] at h
    cases i with
    | zero => simp at hi; subst hi; exact Nat.eq_of_beq_eq_true h.1
    | succ i => exact oneFs_get h.2 (by simpa using hi)

theorem open_structs {H : Type} {enc : TypeId × Value → H} {P : Program} {w : World} {held : Bool} {t e n fuel : Nat} {fs : Array Field} {cs : List Value} {x : DataW H × List MemPlace}
    (ht : P.underlying t = some (.slice e)) (he : P.underlying e = some (.struct fs)) (ce : P.cellsOf e = n) (hf : intFs P fs.toList 0 = true) (h1 : oneFs P fs.toList = true) (hn : fs.toList.length = n) (hpos : 0 < n)
    (h : DataW.trod enc P w 0 (fun _ => true) held fuel t cs = some x) :
    (∃ a, cs = [.slice a 0 0]) ∨ ∃ (b off len cap : Nat) (V : Nat → Nat → Int), cs = [.slice (some ⟨b, off, none⟩) len cap] ∧ len ≤ cap ∧ b < w.heap.size ∧
      ∀ i, i < len → ∀ j, j < n → w.cell? ⟨b, off + (i * n + j), none⟩ = some (.int .i64 (V i j)) := by
  rcases open_slice ht h with ⟨h0, _⟩ | ⟨a, len, cap, m, n', D, Pl, rfl, hb, hl, hm, hmm, _, hx⟩
  · exact .inl ⟨none, h0⟩
  simp only [if_true] at hmm
  subst hmm
  rcases Nat.eq_zero_or_pos m with rfl | hcp
  · have : len = 0 := by omega
    subst this
    exact .inl ⟨some a, rfl⟩
  right
  have each : ∀ i, i < m → ∃ V : Nat → Int, ∀ j, j < n → w.cell? (a.add (i * n + j)) = some (.int .i64 (V j)) := by
    intro i hi
    obtain ⟨cs', g1, g2⟩ := hx i hi
    rw [ce] at g1
    obtain ⟨_, hlen, hcell⟩ := World.cells?_some g1
    obtain ⟨xs, k, hk, _, _, hxl, hff⟩ := DataW.trod_struct he g2
    refine choose_lt (α := Int) (p := fun j v => w.cell? (a.add (i * n + j)) = some (.int .i64 v)) fun j hj => ?_
    obtain ⟨f, hfj⟩ : ∃ f, fs.toList[j]? = some f := ⟨fs.toList[j]'(by omega), List.getElem?_eq_getElem _⟩
    obtain ⟨ho, hu⟩ := intFs_get hf hfj
    have hc1 := oneFs_get h1 hfj
    have hff := hff j f (by simpa using hfj)
    have hjx : j < xs.length := by rw [hxl]; simpa [← hn] using hj
    rw [hc1, List.getElem?_eq_getElem hjx] at hff
    obtain ⟨v, hv, _, _⟩ := DataW.trod_int hu hff
    refine ⟨v, ?_⟩
    have hc := hcell j hj
    have hjc : j < cs'.length := by omega
    rw [ho, Nat.zero_add, List.drop_eq_getElem_cons hjc] at hv
    simp only [List.take_succ_cons, List.take_zero, List.cons.injEq, and_true] at hv
    rw [List.getElem?_eq_getElem hjc, hv, add_add] at hc
    exact hc
  obtain ⟨V, hV⟩ := choose_lt (α := Nat → Int) (p := fun i f => ∀ j, j < n → w.cell? (a.add (i * n + j)) = some (.int .i64 (f j))) each
  have h00 := hV 0 hcp 0 hpos
  obtain ⟨b, off, spot⟩ := a
  have hs : spot = none := by simpa [Addr.add] using World.cell?_spot h00
  subst hs
  refine ⟨b, off, len, m, V, rfl, hl, ?_, fun i hi j hj => ?_⟩
  · have h00' : w.cell? ⟨b, off, none⟩ = some (.int .i64 (V 0 0)) := by simpa [Addr.add] using h00
    rcases Nat.lt_or_ge b w.heap.size with hlt | hge
    · exact hlt
    · simp [World.cell?, Array.getElem?_eq_none hge] at h00'
  · have := hV i (by omega) j hj
    rwa [add_plain] at this

end Sx
end Go

namespace Go.Proofs
open Go.Sx Go.ChangeShapes Go.WideShapes Go.RowKit

theorem below_of {W W' : World} (h : Frm W W' []) : Below W.heap.size W { W' with tape := W.tape } :=
  ⟨h.io.1, rfl, h.io.2, h.size, fun k hk => h.same k hk (by simp)⟩

theorem satO_came {ρ : Asg} {w : World} {k : Nat} {A : Arr} (hl : A.xs.length ≤ (ρ k).cap) (h : ∀ i x, A.xs[i]? = some x → ∀ j c, (A.enc x)[j]? = some c → ∃ v, w.cell? (adr ρ k (i * A.sz + j)) = some v ∧ c.rel ρ v) :
    SatO ρ w k false (.arr A) where
  wf := hl
  at_ i j c hc := by
    rw [Sx.arr_cell?] at hc
    cases hx : A.xs[i]? with
    | none => rw [hx] at hc; cases hc
    | some x => rw [hx] at hc; exact h i x hx j c hc
  room h := by cases h
  off0 h := by cases h
  keys Φ h := by cases h


theorem A_own : ownKnob Try.prog.godebug = none := by kernel_rfl
theorem A_laidOut : laidOutB Try.prog = true := fact_laid
theorem A_undSys : Try.prog.underlying 25 = some (.struct (Try.prog.fieldsOf 25)) := by kernel_rfl
theorem A_fldSys : ∃ f0 f1, Try.prog.fieldsOf 25 = #[f0, f1] ∧ f0.type = 22 ∧ f0.offset = 0 ∧ f1.type = 23 ∧ f1.offset = 1 := ⟨(Try.prog.fieldsOf 25)[0]!, (Try.prog.fieldsOf 25)[1]!, by kernel_rfl, by kernel_rfl, by kernel_rfl, by kernel_rfl, by kernel_rfl⟩
theorem A_undSpans : Try.prog.underlying 22 = some (.slice 33) := by kernel_rfl
theorem A_undLinks : Try.prog.underlying 23 = some (.slice 27) := by kernel_rfl
theorem A_undSpan : Try.prog.underlying 33 = some (.struct (Try.prog.fieldsOf 33)) := by kernel_rfl
theorem A_undLink : Try.prog.underlying 27 = some (.struct (Try.prog.fieldsOf 27)) := by kernel_rfl
theorem A_undBool : Try.prog.underlying 4 = some .bool := by kernel_rfl

/-- A system that came in: two lists. -/
theorem open_sys {H : Type} {enc : TypeId × Value → H} {w : World} {v : Value} {d : DataW H} {p : List MemPlace} (hok : ∃ cs, v = .agg cs ∧ cs.size = Try.prog.cellsOf 25)
    (h : DataW.Trod enc Try.prog w 0 (fun _ => true) true 25 v d p) (k0 k1 : Nat) :
    ∃ (bs : List (Int × Int)) (ls : List Lnk) (r0 r1 : Rg), ∀ ρ : Asg, ρ k0 = r0 → ρ k1 = r1 →
      (SV.agg [.s k0 0 bs.length 2, .s k1 0 ls.length 4]).rel ρ v ∧ SatO ρ w k0 false (.arr (aSpan bs)) ∧ SatO ρ w k1 false (.arr (aLink ls)) ∧ (0 < r0.cap → r0.blk < w.heap.size) ∧ (0 < r1.cap → r1.blk < w.heap.size) := by
  obtain ⟨cs, rfl, hcs⟩ := hok
  obtain ⟨fuel, hf⟩ := h
  obtain ⟨xs, n, _, _, hl, hxl, hff⟩ := DataW.trod_struct A_undSys hf
  obtain ⟨f0, f1, hfs, ht0, ho0, ht1, ho1⟩ := A_fldSys
  have hc2 : Try.prog.cellsOf 25 = 2 := by kernel_rfl
  have c22 : Try.prog.cellsOf 22 = 1 := by kernel_rfl
  have c23 : Try.prog.cellsOf 23 = 1 := by kernel_rfl
  rw [hc2] at hcs
  obtain ⟨a, b, rfl⟩ : ∃ a b, cs = #[a, b] := by
    obtain ⟨l⟩ := cs
    match l, hcs with
    | [a, b], _ => exact ⟨a, b, rfl⟩
  rw [hfs] at hff hxl
  have h0 := hff 0 f0 rfl
  have h1 := hff 1 f1 rfl
  rw [ht0, ho0, c22, List.getElem?_eq_getElem (by rw [hxl]; show 0 < 2; decide)] at h0
  rw [ht1, ho1, c23, List.getElem?_eq_getElem (by rw [hxl]; show 1 < 2; decide)] at h1
  have h0 : DataW.trod enc Try.prog w 0 (fun _ => true) true n 22 [a] = _ := h0
  have h1 : DataW.trod enc Try.prog w 0 (fun _ => true) true n 23 [b] = _ := h1
  have key0 : ∃ (bs : List (Int × Int)) (r0 : Rg), ∀ ρ : Asg, ρ k0 = r0 → (SC.s k0 0 bs.length 2).rel ρ a ∧ SatO ρ w k0 false (.arr (aSpan bs)) ∧ (0 < r0.cap → r0.blk < w.heap.size) := by
    rcases open_structs A_undSpans A_undSpan (by kernel_rfl : Try.prog.cellsOf 33 = 2) (by kernel_rfl) (by kernel_rfl) (by kernel_rfl) (by decide) h0 with ⟨a0, ha⟩ | ⟨bb, off, len, cap, V, ha, hle, hblk, hcell⟩
    · simp at ha; subst ha
      refine ⟨[], ⟨0, 0, 0⟩, fun ρ hρ => ⟨⟨a0, by rw [hρ]; rfl, by rw [hρ]; exact Nat.le_refl _, fun h => by rw [hρ] at h; cases h⟩, satO_came (Nat.zero_le _) (fun i x hx => by cases hx), fun h => by cases h⟩⟩
    · simp at ha; subst ha
      have hlen : ((List.range len).map fun i => (V i 0, V i 1)).length = len := by simp
      refine ⟨(List.range len).map fun i => (V i 0, V i 1), ⟨bb, off, cap⟩, fun ρ hρ => ⟨?_, satO_came ?_ ?_, fun _ => hblk⟩⟩
      · rw [hlen]
        exact ⟨_, by rw [hρ]; rfl, by rw [hρ]; show 0 + len ≤ cap; omega, fun _ => by simp [adr, hρ]⟩
      · show ((List.range len).map fun i => (V i 0, V i 1)).length ≤ _
        rw [hlen, hρ]; exact hle
      · intro i x hx j c hc
        have hx : ((List.range len).map fun i => (V i 0, V i 1))[i]? = some x := hx
        rw [List.getElem?_map] at hx
        obtain ⟨i', hi', rfl⟩ := Option.map_eq_some_iff.1 hx
        obtain ⟨hil, hie⟩ := List.getElem?_eq_some_iff.1 hi'
        have hil : i < len := by simpa using hil
        have hie : i' = i := by simpa using hie.symm
        subst hie
        have hc : [SC.v (.int .i64 (V i' 0)), SC.v (.int .i64 (V i' 1))][j]? = some c := hc
        show ∃ v, w.cell? (adr ρ k0 (i' * 2 + j)) = some v ∧ _
        rw [show adr ρ k0 (i' * 2 + j) = ⟨bb, off + (i' * 2 + j), none⟩ from by simp [adr, hρ]]
        match j, hc with
        | 0, hc => simp at hc; subst hc; exact ⟨_, hcell i' hil 0 (by decide), rfl⟩
        | 1, hc => simp at hc; subst hc; exact ⟨_, hcell i' hil 1 (by decide), rfl⟩
  have key1 : ∃ (ls : List Lnk) (r1 : Rg), ∀ ρ : Asg, ρ k1 = r1 → (SC.s k1 0 ls.length 4).rel ρ b ∧ SatO ρ w k1 false (.arr (aLink ls)) ∧ (0 < r1.cap → r1.blk < w.heap.size) := by
    rcases open_structs A_undLinks A_undLink (by kernel_rfl : Try.prog.cellsOf 27 = 4) (by kernel_rfl) (by kernel_rfl) (by kernel_rfl) (by decide) h1 with ⟨a0, ha⟩ | ⟨bb, off, len, cap, V, ha, hle, hblk, hcell⟩
    · simp at ha; subst ha
      refine ⟨[], ⟨0, 0, 0⟩, fun ρ hρ => ⟨⟨a0, by rw [hρ]; rfl, by rw [hρ]; exact Nat.le_refl _, fun h => by rw [hρ] at h; cases h⟩, satO_came (Nat.zero_le _) (fun i x hx => by cases hx), fun h => by cases h⟩⟩
    · simp at ha; subst ha
      have hlen : ((List.range len).map fun i => (⟨V i 0, V i 1, V i 2, V i 3⟩ : Lnk)).length = len := by simp
      refine ⟨(List.range len).map fun i => (⟨V i 0, V i 1, V i 2, V i 3⟩ : Lnk), ⟨bb, off, cap⟩, fun ρ hρ => ⟨?_, satO_came ?_ ?_, fun _ => hblk⟩⟩
      · rw [hlen]
        exact ⟨_, by rw [hρ]; rfl, by rw [hρ]; show 0 + len ≤ cap; omega, fun _ => by simp [adr, hρ]⟩
      · show ((List.range len).map fun i => (⟨V i 0, V i 1, V i 2, V i 3⟩ : Lnk)).length ≤ _
        rw [hlen, hρ]; exact hle
      · intro i x hx j c hc
        have hx : ((List.range len).map fun i => (⟨V i 0, V i 1, V i 2, V i 3⟩ : Lnk))[i]? = some x := hx
        rw [List.getElem?_map] at hx
        obtain ⟨i', hi', rfl⟩ := Option.map_eq_some_iff.1 hx
        obtain ⟨hil, hie⟩ := List.getElem?_eq_some_iff.1 hi'
        have hil : i < len := by simpa using hil
        have hie : i' = i := by simpa using hie.symm
        subst hie
        have hc : [SC.v (.int .i64 (V i' 0)), SC.v (.int .i64 (V i' 1)), SC.v (.int .i64 (V i' 2)), SC.v (.int .i64 (V i' 3))][j]? = some c := hc
        show ∃ v, w.cell? (adr ρ k1 (i' * 4 + j)) = some v ∧ _
        rw [show adr ρ k1 (i' * 4 + j) = ⟨bb, off + (i' * 4 + j), none⟩ from by simp [adr, hρ]]
        match j, hc with
        | 0, hc => simp at hc; subst hc; exact ⟨_, hcell i' hil 0 (by decide), rfl⟩
        | 1, hc => simp at hc; subst hc; exact ⟨_, hcell i' hil 1 (by decide), rfl⟩
        | 2, hc => simp at hc; subst hc; exact ⟨_, hcell i' hil 2 (by decide), rfl⟩
        | 3, hc => simp at hc; subst hc; exact ⟨_, hcell i' hil 3 (by decide), rfl⟩
  obtain ⟨bs, r0, hk0⟩ := key0
  obtain ⟨ls, r1, hk1⟩ := key1
  refine ⟨bs, ls, r0, r1, fun ρ e0 e1 => ⟨⟨#[a, b], rfl, (hk0 ρ e0).1, (hk1 ρ e1).1, trivial⟩, (hk0 ρ e0).2.1, (hk1 ρ e1).2.1, (hk0 ρ e0).2.2, (hk1 ρ e1).2.2⟩⟩


end Go.Proofs

namespace Go.Proofs
open Go.Sx Go.ChangeShapes Go.WideShapes Go.RowKit Go.Deep

/-! ### Arguments that came in -/

/-- A value that came in, as the walk sees it: a symbolic value over regions that are not the callee's own. -/
def Came (w : World) (v : Value) (sv : SV) (H : Heap) (ks : List (Nat × Rg)) : Prop := ∀ ρ : Asg, (∀ p ∈ ks, ρ p.1 = p.2) →
  sv.rel ρ v ∧ ∀ e ∈ H, e.2.1 = false ∧ SatO ρ w e.1 false e.2.2 ∧ (0 < e.2.2.room (ρ e.1) → (ρ e.1).blk < w.heap.size)

def CameAll (w : World) (vs : List Value) (svs : List SV) (H : Heap) (ks : List (Nat × Rg)) : Prop := ∀ ρ : Asg, (∀ p ∈ ks, ρ p.1 = p.2) →
  relVs ρ svs vs ∧ ∀ e ∈ H, e.2.1 = false ∧ SatO ρ w e.1 false e.2.2 ∧ (0 < e.2.2.room (ρ e.1) → (ρ e.1).blk < w.heap.size)

theorem cameAll_nil (w : World) : CameAll w [] [] [] [] := fun _ _ => ⟨trivial, fun e he => by cases he⟩

theorem cameAll_cons {w : World} {v : Value} {vs : List Value} {sv : SV} {svs : List SV} {H H' : Heap} {ks ks' : List (Nat × Rg)} (h : Came w v sv H ks) (h' : CameAll w vs svs H' ks') : CameAll w (v :: vs) (sv :: svs) (H ++ H') (ks ++ ks') := by
  intro ρ hρ
  obtain ⟨h1, h2⟩ := h ρ fun p hp => hρ p (List.mem_append.2 (.inl hp))
  obtain ⟨h3, h4⟩ := h' ρ fun p hp => hρ p (List.mem_append.2 (.inr hp))
  refine ⟨⟨h1, h3⟩, fun e he => ?_⟩
  rcases List.mem_append.1 he with he | he
  · exact h2 e he
  · exact h4 e he

def asgOf : List (Nat × Rg) → Asg
  | [], _ => ⟨0, 0, 0⟩
  | (k, r) :: t, j => if j = k then r else asgOf t j

theorem asgOf_ok : ∀ {ks : List (Nat × Rg)}, (ks.map (·.1)).Nodup → ∀ p ∈ ks, asgOf ks p.1 = p.2
  | [], _, p, hp => by cases hp
  | (k, r) :: t, hn, p, hp => by
    simp only [List.map_cons, List.nodup_cons] at hn
    rcases List.mem_cons.1 hp with rfl | hq
    · simp [asgOf]
    · have hne : p.1 ≠ k := fun he => hn.1 (he ▸ List.mem_map_of_mem hq)
      simp only [asgOf, if_neg hne]
      exact asgOf_ok hn.2 p hq

theorem look_mem : ∀ {H : Heap} {k : Nat} {x : Bool × SO}, Sx.look H k = some x → (k, x) ∈ H
  | [], _, _, h => by cases h
  | (j, o) :: r, k, x, h => by
    rw [look_cons] at h
    by_cases hk : k = j
    · rw [if_pos hk] at h
      rw [← Option.some.inj h, hk]; exact List.mem_cons_self ..
    · rw [if_neg hk] at h
      exact List.mem_cons_of_mem _ (look_mem h)

theorem came_sat {w : World} {vs : List Value} {svs : List SV} {H : Heap} {ks : List (Nat × Rg)} (h : CameAll w vs svs H ks) (hn : (ks.map (·.1)).Nodup) :
    ∃ ρ : Asg, relVs ρ svs vs ∧ SatH w (ownB ρ H) ρ H w := by
  obtain ⟨h1, h2⟩ := h (asgOf ks) (asgOf_ok hn)
  refine ⟨asgOf ks, h1, Frm.refl _ _, ?_, ?_, ?_, ?_⟩
  · intro k own o hk
    obtain ⟨h3, h4, _⟩ := h2 _ (look_mem hk)
    have h3 : own = false := h3
    subst h3; exact h4
  · intro k k' o own' o' _ hk
    have := (h2 _ (look_mem hk)).1; cases this
  · intro k o hk
    have := (h2 _ (look_mem hk)).1; cases this
  · intro k own o hk hp
    exact (h2 _ (look_mem hk)).2.2 hp

theorem came_sys {base : Nat} {H : Type} {enc : TypeId × Value → H} {w : World} {v : Value} {d : DataW H} {p : List MemPlace} (hok : Value.okWide Try.prog w .any base 25 v)
    (h : DataW.Trod enc Try.prog w 0 (fun _ => true) true 25 v d p) (k0 k1 : Nat) :
    ∃ (bs : List (Int × Int)) (ls : List Lnk) (r0 r1 : Rg), Came w v (.agg [.s k0 0 bs.length 2, .s k1 0 ls.length 4]) [(k0, false, .arr (aSpan bs)), (k1, false, .arr (aLink ls))] [(k0, r0), (k1, r1)] := by
  obtain ⟨bs, ls, r0, r1, hopen⟩ := open_sys (okWide_struct A_undSys hok) h k0 k1
  refine ⟨bs, ls, r0, r1, fun ρ hρ => ?_⟩
  have e0 := hρ (k0, r0) (by simp)
  have e1 := hρ (k1, r1) (by simp)
  obtain ⟨h1, h2, h3, h4, h5⟩ := hopen ρ e0 e1
  refine ⟨h1, fun e he => ?_⟩
  rcases List.mem_cons.1 he with rfl | he
  · refine ⟨rfl, h2, fun hp => ?_⟩
    rw [e0] at hp ⊢
    refine h4 (Nat.pos_of_ne_zero fun h => ?_)
    simp only [SO.room, h, Nat.zero_mul] at hp; cases hp
  · rcases List.mem_cons.1 he with rfl | he
    · refine ⟨rfl, h3, fun hp => ?_⟩
      rw [e1] at hp ⊢
      refine h5 (Nat.pos_of_ne_zero fun h => ?_)
      simp only [SO.room, h, Nat.zero_mul] at hp; cases hp
    · cases he

theorem flat_ints {P : Program} {H : Type} {enc : TypeId × Value → H} {w : World} {cs : List Value} {fuel n : Nat} {held : Bool} {e : TypeId} {fs : Array Field} {x : DataW H × List MemPlace} (he : P.underlying e = some (.struct fs)) (hf : intFs P fs.toList 0 = true) (h1 : oneFs P fs.toList = true) (hn : fs.toList.length = n)
    (hc : cs.length = n) (h : DataW.trod enc P w 0 (fun _ => true) held fuel e cs = some x) : ∃ V : Nat → Int, ∀ j, j < n → cs[j]? = some (.int .i64 (V j)) := by
  obtain ⟨xs, k, hk, _, _, hxl, hff⟩ := DataW.trod_struct he h
  refine choose_lt (α := Int) (p := fun j v => cs[j]? = some (.int .i64 v)) fun j hj => ?_
  obtain ⟨f, hfj⟩ : ∃ f, fs.toList[j]? = some f := ⟨fs.toList[j]'(by omega), List.getElem?_eq_getElem _⟩
  obtain ⟨ho, hu⟩ := intFs_get hf hfj
  have hc1 := oneFs_get h1 hfj
  have hff := hff j f (by simpa using hfj)
  have hjx : j < xs.length := by rw [hxl]; simpa [← hn] using hj
  rw [hc1, List.getElem?_eq_getElem hjx] at hff
  obtain ⟨v, hv, _, _⟩ := DataW.trod_int hu hff
  refine ⟨v, ?_⟩
  have hjc : j < cs.length := by omega
  rw [ho, Nat.zero_add, List.drop_eq_getElem_cons hjc] at hv
  simp only [List.take_succ_cons, List.take_zero, List.cons.injEq, and_true] at hv
  rw [List.getElem?_eq_getElem hjc, hv]

/-! ### Behind the call -/

abbrev A_reads : List Nat := [25, 3, 27, 5, 47, 23, 38, 97, 115]

theorem A_read : ∀ t ∈ A_reads, Try.prog.readableRec t = true ∧ t < Try.prog.types.size := by
  have h : (A_reads.all fun t => Try.prog.readableRec t && decide (t < Try.prog.types.size)) = true := by kernel_rfl
  intro t ht
  have := List.all_eq_true.1 h t ht
  simpa using this

theorem trodAll_keep {H : Type} {enc : TypeId × Value → H} {W W' : World} (hfrm : Frm W W' []) : ∀ {ts : List TypeId} {vs : List Value} {ds : List (DataW H)} {p : List MemPlace}, (∀ t ∈ ts, Try.prog.readableRec t = true ∧ t < Try.prog.types.size) →
    DataW.TrodAll enc Try.prog W 0 (fun _ => true) true ts vs ds p → (∀ x ∈ p, x.block < W.heap.size) → DataW.TrodAll enc Try.prog { W' with tape := W.tape } 0 (fun b => decide (b < W.heap.size)) true ts vs ds p
  | [], vs, ds, p, _, h, _ => by
    obtain ⟨rfl, rfl, rfl⟩ := trodAll_nil h
    exact trodAll_mk0
  | t :: ts, vs, ds, p, hr, h, hlt => by
    obtain ⟨v, vs', d, ds', p1, p2, rfl, rfl, rfl, hd, hrest⟩ := trodAll_cons h
    have ht := hr t (List.mem_cons_self ..)
    refine ⟨p1, p2, ?_, ?_, rfl⟩
    · exact Below.trod A_laidOut ht.1 ht.2 hd (below_of hfrm) fun x hx => hlt x (List.mem_append.2 (.inl hx))
    · exact trodAll_keep hfrm (fun t ht => hr t (List.mem_cons_of_mem _ ht)) hrest fun x hx => hlt x (List.mem_append.2 (.inr hx))

end Go.Proofs

namespace Go.Proofs
open Go.Sx Go.ChangeShapes Go.WideShapes Go.RowKit Go.Deep

theorem A_undTerms : Try.prog.underlying 47 = some (.slice 59) := by kernel_rfl
theorem A_undTerm : Try.prog.underlying 59 = some (.struct (Try.prog.fieldsOf 59)) := by kernel_rfl
theorem A_undInt : Try.prog.underlying 3 = some (.int .i64) := by kernel_rfl

/-- A list that came in: of rows of integers, `n` each. -/
theorem came_rows {base : Nat} {H : Type} {enc : TypeId × Value → H} {w : World} {v : Value} {d : DataW H} {p : List MemPlace} {t e : TypeId} {n : Nat} (A : Arr) (mk : (Nat → Int) → A.α) (ht : Try.prog.underlying t = some (.slice e)) (hA : A.sz = n) (hok : Value.okWide Try.prog w .any base t v)
    (hE : ∀ cs : List Value, DataW.Trod enc Try.prog w 0 (fun _ => true) true t v d p → v.cells.toList = cs → (∃ a, cs = [.slice a 0 0]) ∨ ∃ (b off len cap : Nat) (V : Nat → Nat → Int), cs = [.slice (some ⟨b, off, none⟩) len cap] ∧ len ≤ cap ∧ b < w.heap.size ∧
      ∀ i, i < len → ∀ j, j < n → w.cell? ⟨b, off + (i * n + j), none⟩ = some (.int .i64 (V i j)))
    (hmk : ∀ V j c, (A.enc (mk V))[j]? = some c → j < n ∧ c = .v (.int .i64 (V j)))
    (h : DataW.Trod enc Try.prog w 0 (fun _ => true) true t v d p) (k : Nat) :
    ∃ (xs : List A.α) (r : Rg), Came w v (.c (.s k 0 xs.length A.sz)) [(k, false, .arr (A.setXs xs))] [(k, r)] := by
  subst hA
  obtain ⟨a0, l0, c0, rfl⟩ := okWide_slice ht hok
  rcases hE _ h rfl with ⟨a, ha⟩ | ⟨bb, off, len, cap, V, ha, hle, hblk, hcell⟩
  · simp [Value.cells] at ha
    obtain ⟨rfl, rfl, rfl⟩ := ha
    refine ⟨[], ⟨0, 0, 0⟩, fun ρ hρ => ?_⟩
    have e0 : ρ k = ⟨0, 0, 0⟩ := hρ (k, ⟨0, 0, 0⟩) (by simp)
    refine ⟨⟨a0, by rw [e0]; rfl, by rw [e0]; exact Nat.le_refl _, fun h => by rw [e0] at h; cases h⟩, fun e he => ?_⟩
    simp only [List.mem_singleton] at he
    subst he
    exact ⟨rfl, satO_came (Nat.zero_le _) (fun i x hx => by cases hx), fun hp => by simp only [SO.room, e0, Nat.zero_mul] at hp; cases hp⟩
  · simp [Value.cells] at ha
    obtain ⟨rfl, rfl, rfl⟩ := ha
    have hlen : ((List.range l0).map fun i => mk (V i)).length = l0 := by simp
    refine ⟨(List.range l0).map fun i => mk (V i), ⟨bb, off, c0⟩, fun ρ hρ => ?_⟩
    have e0 : ρ k = ⟨bb, off, c0⟩ := hρ (k, ⟨bb, off, c0⟩) (by simp)
    refine ⟨?_, fun e he => ?_⟩
    · rw [hlen]
      exact ⟨_, by rw [e0]; rfl, by rw [e0]; show 0 + l0 ≤ c0; omega, fun _ => by simp [adr, e0]⟩
    · simp only [List.mem_singleton] at he
      subst he
      refine ⟨rfl, satO_came ?_ ?_, fun _ => by rw [e0]; exact hblk⟩
      · show ((List.range l0).map fun i => mk (V i)).length ≤ _
        rw [hlen, e0]; exact hle
      · intro i x hx j c hc
        have hx : ((List.range l0).map fun i => mk (V i))[i]? = some x := hx
        rw [List.getElem?_map] at hx
        obtain ⟨i', hi', rfl⟩ := Option.map_eq_some_iff.1 hx
        obtain ⟨hil, hie⟩ := List.getElem?_eq_some_iff.1 hi'
        have hil : i < l0 := by simpa using hil
        have hie : i' = i := by simpa using hie.symm
        subst hie
        obtain ⟨hj, rfl⟩ := hmk (V i') j c hc
        show ∃ v, w.cell? (adr ρ k (i' * A.sz + j)) = some v ∧ _
        rw [show adr ρ k (i' * A.sz + j) = ⟨bb, off + (i' * A.sz + j), none⟩ from by simp [adr, e0]]
        exact ⟨_, hcell i' hil j hj, rfl⟩

theorem came_terms {base : Nat} {H : Type} {enc : TypeId × Value → H} {w : World} {v : Value} {d : DataW H} {p : List MemPlace} (hok : Value.okWide Try.prog w .any base 47 v) (h : DataW.Trod enc Try.prog w 0 (fun _ => true) true 47 v d p) (k : Nat) :
    ∃ (xs : List (Int × Int)) (r : Rg), Came w v (.c (.s k 0 xs.length 2)) [(k, false, .arr (aSpan xs))] [(k, r)] := by
  refine came_rows (n := 2) (aSpan []) (fun V => (V 0, V 1)) A_undTerms rfl hok (fun cs h hcs => ?_) ?_ h k
  · obtain ⟨fuel, hf⟩ := h
    rw [hcs] at hf
    exact open_structs A_undTerms A_undTerm (by kernel_rfl : Try.prog.cellsOf 59 = 2) (by kernel_rfl) (by kernel_rfl) (by kernel_rfl) (by decide) hf
  · intro V j c hc
    have hc : [SC.v (.int .i64 (V 0)), SC.v (.int .i64 (V 1))][j]? = some c := hc
    match j, hc with
    | 0, hc => simp at hc; exact ⟨by decide, hc.symm⟩
    | 1, hc => simp at hc; exact ⟨by decide, hc.symm⟩

end Go.Proofs

namespace Go.Proofs
open Go.Sx Go.ChangeShapes Go.WideShapes Go.RowKit Go.Deep

end Go.Proofs

namespace Go.Proofs
open Go.Sx Go.ChangeShapes Go.WideShapes Go.RowKit Go.Deep

instance : Inhabited Stp := ⟨⟨false, 0, none, 0, 0, []⟩⟩

end Go.Proofs

namespace Go
namespace Sx

/-! ### A list without one of its rows: `append(x[:k:k], x[k+1:]...)` -/

def slCK (B : Tabs) (t : TypeId) (x y z : SV) (H : Heap) (K : Eff → Prop) : Prop :=
  match lookT B.T t, x, y, z with
  | some ⟨.slice el, _, _, _⟩, .c (.s k 0 len sz), .c (.v (.int _ n)), .c (.v (.int _ m)) => (match lookT B.T el with
    | some ti => bif Nat.beq ti.size sz then ∃ h : Nat, n = (h : Int) ∧ m = (h : Int) ∧ h ≤ len ∧ K ⟨.c (.cut k h sz), [], [], []⟩ else False
    | none => False)
  | _, _, _, _ => False

theorem slC_step {cx : Cx} {B : Tabs} (hB : TabsOK cx.P B) {o : Oper} {e : Env} {H : Heap} {nx : Nat} {K : Eff → Prop} {t : TypeId} {x y z : Operand} (ho : o.op = .slice t x none (some y) (some z))
    (h : slCK B t (ev e x) (ev e y) (ev e z) H K) : ∃ F, CallOK cx o e H nx F ∧ K F := by
  have hx : x ∈ o.op.operands.toList := by simp [ho, Op.operands]
  have hy : y ∈ o.op.operands.toList := by simp [ho, Op.operands]
  have hz : z ∈ o.op.operands.toList := by simp [ho, Op.operands]
  unfold slCK at h
  split at h
  · rename_i el s0 b0 z0 k len sz kn n km m ht hex hey hez
    split at h
    · rename_i ti hti
      obtain ⟨hb, hh, rfl, rfl, hle, hK⟩ := bif_and h
      have hb := Nat.eq_of_beq_eq_true hb
      refine ⟨_, ⟨?_, fun j hj => by cases hj⟩, hK⟩
      intro ρ s a w hs hr hk hnew hdst KK Q hKK
      have hx0 := hs.env
      have hx1 := reads_fit hx (fun t ht => by rw [← hr t ht]; exact hs.env t)
      have hxb := reads_below hx (n := s.nx) (fun t ht => by rw [← hr t ht]; exact hs.bnd.env t)
      have hy1 := reads_fit hy (fun t ht => by rw [← hr t ht]; exact hs.env t)
      have hz1 := reads_fit hz (fun t ht => by rw [← hr t ht]; exact hs.env t)
      rw [hex] at hx1 hxb; rw [hey] at hy1; rw [hez] at hz1
      simp only [SV.rel, SC.rel, Nat.sub_zero, Nat.zero_mul, Nat.zero_add] at hx1 hy1 hz1
      obtain ⟨ad, hxv, hcap, had⟩ := hx1
      have hszr := run_sizeOf hB hti w
      have h3 : hh ≤ (ρ k).cap := by omega
      have hrun : (execOp a.eval o).run cx.P w = .ok (.value (.slice (if hh = 0 then ad else ad.map (·.add (0 * ti.size))) hh hh)) w := by
        have hbnd : (Instr.sliceBounds true len (ρ k).cap none (some (Value.int kn (hh : Int))) (some (Value.int km (hh : Int)))).run cx.P w = .ok (0, hh, hh) w := by
          simp [Instr.sliceBounds, Instr.sliceBound, asIntOf, h3]
        simp [execOp, ho, hxv, hy1, hz1, Instr.sliceAt, und_slice hB ht, Instr.slice, run_underlying (und_slice hB ht), hbnd, hszr]
      refine wpIn_of_value (by simp [ho]) hrun (hKK ρ _ _ ?_ (fun j _ => rfl))
      refine hs.putO hdst ?_ ?_
      · simp only [SV.rel, SC.rel]
        refine ⟨_, rfl, h3, fun hpos => ?_⟩
        rw [had hpos]
        split <;> simp [adr, Addr.add]
      · rw [SV.below_c] at hxb ⊢
        intro j hj
        exact hxb j (by simpa [SC.nms] using hj)
    · exact h.elim
  · exact h.elim

def appCutK (B : Tabs) (A : Arr) (t t' : TypeId) (x y : SV) (H : Heap) (nx : Nat) (K : Eff → Prop) : Prop :=
  match lookT B.T t, lookT B.T t', x, y with
  | some ⟨.slice el, _, _, _⟩, some ⟨.slice _, _, _, _⟩, .c (.cut k hh sz), .c (.s k' st m sz') => (match lookT B.T el with
    | some ti => bif (Nat.beq ti.size sz && Nat.beq sz sz') && (Nat.ble 1 sz && (Nat.beq sz A.sz && Nat.beq k k')) then (match look H k with
      | some (true, .arr A0) => (A0 = A ∧ hh ≤ A.xs.length ∧ st + m ≤ A.xs.length ∧ (hh + m) * (ti.bytes + 1) ≤ 140737488355328) ∧
          K ⟨.c (.s (nx + 1) 0 (hh + m) sz), [k], [(nx + 1, true, .arr (A.setXs ((A.xs.take hh).take hh ++ (A.xs.drop st).take m))), (nx, false, .cells []), (nx, true, .arr (A.setXs (A.xs.take hh))), (k, false, .cells [])], [nx, nx + 1]⟩
      | _ => False) else False
    | none => False)
  | _, _, _, _ => False

theorem appCut_step {cx : Cx} {B : Tabs} (hB : TabsOK cx.P B) {o : Oper} {e : Env} {H : Heap} {nx : Nat} {K : Eff → Prop} {c : Call} {x y : Operand} {t t' : TypeId} (A : Arr)
    (hone : ∀ x, allOne (A.enc x) = true) (ho : o.op = .call c) (hc : c.callee = .builtin .append) (hca : c.args = #[x, y]) (hct : c.argTypes = #[t, t'])
    (h : appCutK B A t t' (ev e x) (ev e y) H nx K) : ∃ F, CallOK cx o e H nx F ∧ K F := by
  have hx : x ∈ o.op.operands.toList := by simp [ho, Op.operands, Call.operands, hc, hca]
  have hy : y ∈ o.op.operands.toList := by simp [ho, Op.operands, Call.operands, hc, hca]
  unfold appCutK at h
  split at h
  · rename_i el s0 b0 z0 el' s1 b1 z1 k hh sz k' st m sz' ht ht' hex hey
    split at h
    · rename_i ti hti
      obtain ⟨hb, hq⟩ := bif_and h
      clear h
      simp only [Bool.and_eq_true] at hb
      obtain ⟨⟨hb1, hb2⟩, hb3, hb4, hb5⟩ := hb
      have hb1 := Nat.eq_of_beq_eq_true hb1
      have hb2 := Nat.eq_of_beq_eq_true hb2
      have hb3 := Nat.le_of_ble_eq_true hb3
      have hb4 := Nat.eq_of_beq_eq_true hb4
      have hkk := Nat.eq_of_beq_eq_true hb5
      subst hkk
      split at hq
      · rename_i A0 hlk
        obtain ⟨⟨rfl, h1, h2, h3⟩, hK⟩ := hq
        refine ⟨_, ⟨?_, ?_⟩, hK⟩
        rotate_left
        · intro j hj
          simp only [List.mem_cons, List.not_mem_nil, or_false] at hj
          simp only [List.length_cons, List.length_nil]
          omega
        intro ρ s a w hs hr hk hnew hdst KK Q hKK
        obtain ⟨hfr, hlt, hn0⟩ := hnew nx (by simp)
        obtain ⟨hfr', hlt', hn0'⟩ := hnew (nx + 1) (by simp)
        have hl1 : look s.H k = some (true, .arr A0) := by rw [hk k (by simp)]; exact hlk
        have hfit : ∀ z, z ∈ o.op.operands.toList → (ev e z).rel ρ (a.eval z) := fun z hz => reads_fit hz (fun t ht => by rw [← hr t ht]; exact hs.env t)
        have hx1 := hfit x hx
        have hy1 := hfit y hy
        rw [hex] at hx1; rw [hey] at hy1
        simp only [SV.rel, SC.rel, Nat.zero_mul] at hx1
        obtain ⟨ad, hxv, hcap, had⟩ := hx1
        have hs1 := hs.heap.reg k true _ hl1
        have hoff := hs1.off0 rfl
        have hroom := fun n hn => hs1.room rfl (by simp) n hn
        simp only [SO.room] at hroom
        have hkne : k ≠ nx := (hfr.heap k true _ hl1).1
        have hnmf : ∀ {r : Rg} {j : Nat}, (SO.arr A0).uses [j] = true → upd ρ nx r j = ρ j := fun hj => upd_ne (by rintro rfl; have := (hfr.heap k true _ hl1).2; rw [hj] at this; cases this)
        have hrelf : ∀ {r : Rg} {xx : A0.α} {j : Nat} {cc : SC} {v : Value}, (A0.enc xx)[j]? = some cc → cc.rel ρ v → cc.rel (upd ρ nx r) v := fun hj hcc =>
          SC.rel_agree (fun n hn => hnmf (anyMem_iff.2 ⟨n, A0.hn _ _ (List.mem_of_getElem? hj) n hn, by simp⟩)) hcc
        have hbelow : (SO.arr (A0.setXs (A0.xs.take hh))).below s.nx := fun j hj => (hs.bnd.heap k true _ hl1).2 j hj
        have hmul : hh * A0.sz ≤ (ρ k).cap * A0.sz := Nat.mul_le_mul_right _ (by omega)
        have hsat := hs.retake (n := 0) (cap := hh) (vs := []) (o' := .arr (A0.setXs (A0.xs.take hh))) hl1 hfr hlt hn0
          (by simp [SO.room, Arr.setXs]; exact hmul) (fun _ => rfl) hbelow ?_
        · simp only [setCells] at hsat
          have hfr2 : Fresh (nx + 1) { s with H := (nx, true, .arr (A0.setXs (A0.xs.take hh))) :: (k, false, .cells []) :: s.H } := ⟨hfr'.env, hfr'.mks, fun j own q hj => by
            simp only [look_cons] at hj
            by_cases hjn : j = nx
            · rw [if_pos hjn] at hj; cases hj
              exact ⟨by omega, (hfr'.heap k true _ hl1).2⟩
            · rw [if_neg hjn] at hj
              by_cases hjk : j = k
              · rw [if_pos hjk] at hj; cases hj
                exact ⟨by rw [hjk]; exact (hfr'.heap k true _ hl1).1, by simp [SO.uses, usesL]⟩
              · rw [if_neg hjk] at hj; exact hfr'.heap j own q hj⟩
          have hsrc : SatO (upd ρ nx ⟨(ρ k).blk, (ρ k).off, hh⟩) w k true (.arr ((A0.setXs (A0.xs.take hh)).setXs A0.xs)) := hs1.asg (upd_ne hkne) (fun j hj => hnmf hj)
          refine app_core (ow := true) (k := nx) (k' := k) hB (A0.setXs (A0.xs.take hh)) A0.xs hone ho hc hca hct ht ht' hti hb1 hb2 hb3 hb4 hsat (by simp [look_cons]) hsrc ?_ h2 h3 ?_ ?_ hfr2 hlt' hn0' hdst ?_
          · show hh ≤ (A0.xs.take hh).length
            rw [List.length_take]; omega
          · simp only [SC.rel, upd_eq, Nat.sub_zero, Nat.zero_mul, Nat.zero_add]
            refine ⟨ad, hxv, Nat.le_refl _, fun hpos => ?_⟩
            rw [had (by omega)]
            simp [adr, upd_eq]
          · exact SC.rel_agree (fun j hj => by
              simp [SC.nms] at hj
              rw [hj]; exact upd_ne hkne) hy1
          · intro ρ' a' w' hf hag
            refine hKK ρ' a' w' hf (fun j hj => ?_)
            simp only [List.mem_cons, List.not_mem_nil, or_false, not_or] at hj
            rw [hag j (by simpa using hj.2), upd_ne hj.1]
        · refine ⟨by simp only [SO.wf, Arr.setXs, upd_eq, List.length_take]; omega, ?_, ?_, fun _ => by rw [upd_eq]; exact hoff, fun _ h => by cases h⟩
          · intro i' j cc hcc
            rw [setXs_cell] at hcc
            cases hxx : (A0.xs.take hh)[i']? with
            | none => simp [hxx] at hcc
            | some xx =>
              simp only [hxx, Option.bind_some] at hcc
              have hi : i' < hh := by have := (List.getElem?_eq_some_iff.1 hxx).1; rw [List.length_take] at this; omega
              rw [List.getElem?_take, if_pos hi] at hxx
              obtain ⟨v, hv, hvr⟩ := hs1.at_ i' j cc (by simp only [SO.cell?, hxx]; exact hcc)
              exact ⟨v, by simpa [adr, hoff, SO.sz, upd_eq, Arr.setXs, setCells] using hv, hrelf hcc hvr⟩
          · intro _ _ n hn
            simp only [SO.room, Arr.setXs, upd_eq] at hn
            have := hroom n (by omega)
            simpa [adr, upd_eq, hoff, setCells] using this
      · exact hq.elim
    · exact h.elim
  · exact h.elim

end Sx
end Go

namespace Go.Proofs
open Go.Sx

theorem and_mask (n : Int) : bitsV .and .i64 n 1073741823 = some (n % 1073741824) := by
  unfold bitsV
  simp only [Option.some.injEq]
  have e1 : (BitVec.ofInt IntKind.i64.bits n &&& BitVec.ofInt IntKind.i64.bits 1073741823).toNat = (n % 18446744073709551616).toNat % 1073741824 := by
    rw [BitVec.toNat_and, BitVec.toNat_ofInt, BitVec.toNat_ofInt]
    show (n % 18446744073709551616).toNat &&& 1073741823 = _
    exact Nat.and_two_pow_sub_one_eq_mod _ 30
  rw [e1, IntKind.wrap_i64]
  omega

theorem shr_30 (n : Int) : n.fdiv (2 ^ min (30 : Int).toNat IntKind.i64.bits) = n / 1073741824 := by
  rw [Int.fdiv_eq_ediv_of_nonneg _ (by decide)]
  rfl

theorem equal_t (xs ys : List Int) (hx : xs.length ≤ 1000000) : Triple Try.prog 147 [.c (.s 0 0 xs.length 1), .c (.s 1 0 ys.length 1)] [(0, false, .arr (aInt xs)), (1, false, .arr (aInt ys))] 2 (bv (decide (xs = ys))) [] := by
  obtain ⟨R, hR⟩ : ∃ R, R = decide (xs = ys) := ⟨_, rfl⟩
  rw [← hR]
  refine triple_of tB_ok Try.func147 rfl Try.call147 rfl ?_
  intro ρ w hH
  conv => whnf
  refine ⟨fun hc => ?_, fun hc => ?_⟩
  · have hne : xs.length ≠ ys.length := by
      have : ((xs.length : Int) != ys.length) = true := hc
      intro he; rw [he] at this; simp at this
    have e : R = false := by rw [hR]; exact decide_eq_false (fun h => hne (by rw [h]))
    rw [e]
    conv => whnf
    repeat' (first | exact trivial | exact rfl | refine And.intro ?_ ?_ | ((conv => whnf); first | exact trivial | exact rfl | refine And.intro ?_ ?_ | omega))
  have hl : xs.length = ys.length := by
    have : ((xs.length : Int) != ys.length) = false := hc
    simp at this; omega
  conv => whnf
  refine loop_step tB_ok (G := Nat) 0 [] (fun i => [(13, iv .i64 i)]) (fun _ => []) (fun i => i ≤ xs.length ∧ xs.take i = ys.take i) (fun i => xs.length - i) ?_
  conv => whnf
  refine ⟨⟨0, ⟨Nat.zero_le _, rfl⟩, ?_⟩, ?_⟩
  · conv => whnf
    repeat' (first | exact trivial | exact rfl | refine And.intro ?_ ?_ | ((conv => whnf); first | exact trivial | exact rfl | refine And.intro ?_ ?_ | omega))
  intro i hi ρ1 t1 hρ1
  obtain ⟨hi, hn⟩ := hi
  conv => whnf
  refine ⟨fun hc => ?_, fun hc => ?_⟩
  · have hlt : i < xs.length := by simpa using hc
    have hly : i < ys.length := by omega
    conv => whnf
    refine ⟨i, rfl, hlt, hlt, ?_⟩
    conv => whnf
    refine ⟨i, rfl, hly, hly, ?_⟩
    conv => whnf
    refine ⟨fun hc => ?_, fun hc => ?_⟩
    · have hne : xs[i] ≠ ys[i] := by
        have : (xs[i] != ys[i]) = true := hc
        simpa using this
      have e : R = false := by
        rw [hR]
        refine decide_eq_false fun h => hne ?_
        subst h; rfl
      rw [e]
      conv => whnf
      repeat' (first | exact trivial | exact rfl | refine And.intro ?_ ?_ | ((conv => whnf); first | exact trivial | exact rfl | refine And.intro ?_ ?_ | omega))
    · have he : xs[i] = ys[i] := by
        have : (xs[i] != ys[i]) = false := hc
        simpa using this
      conv => whnf
      refine ⟨(i : Int) + 1, wrapId (z := (i : Int) + 1) ⟨by omega, by omega⟩, ?_⟩
      refine ⟨i + 1, ⟨hlt, by rw [take_snoc hlt, take_snoc hly, hn, he]⟩, by show xs.length - (i + 1) < xs.length - i; omega, ?_⟩
      conv => whnf
      refine ⟨rfl, ?_⟩
      conv => whnf
      repeat' (first | exact trivial | exact rfl | refine And.intro ?_ ?_ | ((conv => whnf); first | exact trivial | exact rfl | refine And.intro ?_ ?_ | omega))
  have hie : i = xs.length := by simp at hc; omega
  rw [hie, List.take_length, hl, List.take_length] at hn
  have e : R = true := by rw [hR]; exact decide_eq_true hn
  rw [e]
  conv => whnf
  repeat' (first | exact trivial | exact rfl | refine And.intro ?_ ?_ | ((conv => whnf); first | exact trivial | exact rfl | refine And.intro ?_ ?_ | omega))

theorem add_t (p x : Int) (got : List Int) (C : Int) (hp : p < got.length) (hC : 0 ≤ C ∧ C ≤ 1152921504606846976) (hg : ∀ y ∈ got, -C ≤ y ∧ y ≤ C) (hx : -68719476736 ≤ x ∧ x ≤ 68719476736) :
    Triple Try.prog 146 [iv .i64 p, iv .i64 x, .c (.p 0 0 0 0)] [(0, false, .cells [.s 1 0 got.length 1]), (1, true, .arr (aInt got))] 2 (.tup []) [(1, true, .arr (aInt (gotP p x got)))] := by
  obtain ⟨R, hR⟩ : ∃ R, R = gotP p x got := ⟨_, rfl⟩
  rw [← hR]
  unfold gotP at hR
  refine triple_of tB_ok Try.func146 rfl Try.call146 rfl ?_
  intro ρ w hH
  conv => whnf
  refine ⟨fun hc => ?_, fun hc => ?_⟩
  · have hc : 0 ≤ p := of_decide_eq_true (show decide (0 ≤ p) = true from hc)
    rw [if_neg (by omega)] at hR
    obtain ⟨v, hv⟩ : ∃ v : Nat, p = (v : Int) := ⟨p.toNat, by omega⟩
    have hvl : v < got.length := by omega
    have hb := hg _ (List.getElem_mem hvl)
    obtain ⟨u, hu⟩ : ∃ u, u = got[v] + x := ⟨_, rfl⟩
    rw [hv, Int.toNat_natCast, getD_of hvl, ← hu] at hR
    conv => whnf
    refine ⟨v, hv, hvl, hvl, ?_⟩
    conv => whnf
    refine ⟨u, (congrArg IntKind.i64.wrap (show got[v] + x = u from hu.symm)).trans (wrapId ⟨by omega, by omega⟩), ?_⟩
    conv => whnf
    refine ⟨v, hv, hvl, hvl, u, rfl, ?_⟩
    conv => whnf
    rw [hR]
    repeat' (first | exact trivial | exact rfl | refine And.intro ?_ ?_ | ((conv => whnf); first | exact trivial | exact rfl | refine And.intro ?_ ?_ | omega))
  · have hc : p < 0 := by have := of_decide_eq_false (show decide (0 ≤ p) = false from hc); omega
    rw [if_pos hc] at hR
    conv => whnf
    rw [hR]
    repeat' (first | exact trivial | exact rfl | refine And.intro ?_ ?_ | ((conv => whnf); first | exact trivial | exact rfl | refine And.intro ?_ ?_ | omega))

end Go.Proofs

namespace Go
namespace Sx

/-! ### A set of rows of integers that the call makes: a map, by structs, to bools, all of which are true -/

theorem aggI_inj {a b : List Int} (h : aggI a = aggI b) : a = b := by
  unfold aggI at h
  simp only [Value.agg.injEq] at h
  have h2 : a.map (Value.int .i64) = b.map (Value.int .i64) := by
    have := congrArg Array.toList h
    simpa using this
  exact (List.map_inj_right (fun x y hxy => by cases hxy; rfl)).1 h2

theorem run_checkKey_ints {P : Program} {t : TypeId} (em : Bool) (m : Nat) (hu : P.underlying t = some (.struct (P.fieldsOf t))) (hf : intFs P (P.fieldsOf t).toList 0 = true) (xs : List Int) (hn : xs.length = (P.fieldsOf t).toList.length) (w : World) :
    (Instr.checkKey em (m + 1 + 1) t (aggI xs)).run P w = .ok () w := by
  rw [Instr.checkKey]
  unfold aggI
  simp only [Sem.run_bind, run_underlying hu, Result.andThen_ok]
  rw [← Array.forIn_toList]
  have hj : xs.length = 0 + (P.fieldsOf t).toList.length := by omega
  clear hn hu
  generalize (P.fieldsOf t).toList = L at hf hj
  generalize (0 : Nat) = j at hf hj
  induction L generalizing j with
  | nil => simp
  | cons f L ih =>
    simp only [intFs, Bool.and_eq_true] at hf
    obtain ⟨h1, h2, h3, h4⟩ := hf
    have h1 : f.name ≠ "_" := by simpa using h1
    have h2 : f.offset = j := by simpa using h2
    have h3 := isI64_eq h3
    simp only [List.length_cons] at hj
    have hjx : j < xs.length := by omega
    have hp := run_part_int (P := P) (t := f.type) (cs := (xs.map (Value.int .i64)).toArray) (off := j) (v := .int .i64 xs[j]) w h3 (by simp [hjx])
    have hc : (Instr.checkKey em (m + 1) f.type (.int .i64 xs[j])).run P w = .ok () w := by simp [Instr.checkKey, run_underlying h3]
    have := ih (j + 1) h4 (by omega)
    simp only [List.forIn_cons, if_pos h1, Sem.run_bind, h2, hp, Result.andThen_ok, hc, Sem.run_pure]
    exact this

theorem sameBits_ints (m : Nat) (xs : List Int) : Instr.sameBits (m + 1) (aggI xs) (aggI xs) = true := by
  unfold aggI
  simp only [Instr.sameBits, Bool.and_eq_true, beq_self_eq_true, true_and]
  have : ∀ l : List Int, ((l.map (Value.int .i64)).zip (l.map (Value.int .i64))).all (fun (x, y) => Instr.sameBits m x y) = true := by
    intro l
    induction l with
    | nil => rfl
    | cons a l ih =>
      simp only [List.map_cons, List.zip_cons_cons, List.all_cons, ih, Bool.and_true]
      cases m <;> simp [Instr.sameBits]
  simpa using this xs

theorem findAsking_ints {P : Program} {t n : Nat} {L : List (Nat × Nat)} (hE : EqOK P L) (hm : (t, n) ∈ L) (ks : List Int) (hk : ks.length = n) (w : World) : ∀ (l : List MapEntry) (i : Nat), (∀ e ∈ l, ∃ ks' : List Int, ks'.length = n ∧ e.key = aggI ks') →
    ((Instr.findAsking t (aggI ks) l i).run P w = .ok none w ∧ ∀ e ∈ l, e.key ≠ aggI ks) ∨
    (∃ j e, (Instr.findAsking t (aggI ks) l i).run P w = .ok (some (i + j, e.val)) w ∧ l[j]? = some e ∧ e.key = aggI ks)
  | [], i, _ => .inl ⟨by simp [Instr.findAsking], by simp⟩
  | e :: l, i, h => by
    obtain ⟨ks', hl, he⟩ := h e (by simp)
    have heq := (hE t n hm ks ks' hk hl w (.tmp 0) (.tmp 0)).2.2
    rw [← he] at heq
    by_cases hkk : ks = ks'
    · refine .inr ⟨0, e, ?_, rfl, by rw [he, hkk]⟩
      have hb : (ks == ks') = true := by simpa using hkk
      simp [Instr.findAsking, Sem.run_bind, heq, hb]
    · have hb : (ks == ks') = false := by simpa using hkk
      have hne : e.key ≠ aggI ks := by rw [he]; intro h; exact hkk (aggI_inj h).symm
      have hrun : (Instr.findAsking t (aggI ks) (e :: l) i).run P w = (Instr.findAsking t (aggI ks) l (i + 1)).run P w := by
        simp [Instr.findAsking, Sem.run_bind, heq, hb]
      rcases findAsking_ints hE hm ks hk w l (i + 1) (fun e he => h e (by simp [he])) with ⟨h1, h2⟩ | ⟨j, e', h1, h2, h3⟩
      · refine .inl ⟨by rw [hrun, h1], fun e' he' => ?_⟩
        rcases List.mem_cons.1 he' with rfl | he'
        · exact hne
        · exact h2 e' he'
      · exact .inr ⟨j + 1, e', by rw [hrun, h1, show i + 1 + j = i + (j + 1) from by omega], by simpa using h2, h3⟩

def SetKObj (n : Nat) (S : List (List Int)) (x : Obj) : Prop :=
  ∃ es clock, x = .map es clock ∧ (∀ e ∈ es.toList, ∃ ks, ks ∈ S ∧ e.key = aggI ks ∧ e.val = .bool true) ∧ (∀ ks ∈ S, ∃ e ∈ es.toList, e.key = aggI ks) ∧ ∀ ks ∈ S, ks.length = n

def setK (n : Nat) (S : List (List Int)) : SO := .raw (SetKObj n S)

theorem mkmapS_step {cx : Cx} {o : Oper} {e : Env} {H : Heap} {nx : Nat} {K : Eff → Prop} {t : TypeId} (n : Nat) (ho : o.op = .makeMap t none)
    (h : K ⟨.c (.m nx), [], [(nx, true, setK n [])], [nx]⟩) : ∃ F, CallOK cx o e H nx F ∧ K F := by
  refine ⟨_, ⟨loc_new (by simp [ho]) (by rw [SV.below_c]; intro j hj; simp [SC.nms] at hj; omega) ?_ ?_, fun j hj => by simp at hj; subst hj; simp⟩, h⟩
  · intro n _ j hj
    simp [setK, SO.uses] at hj
  · intro ρ a w _ _
    refine ⟨.map (some w.heap.size), .map #[] 0, 0, ?_, ?_, ?_⟩
    · simp only [execOp, ho, Sem.run_bind, Option.mapM_none]
      rfl
    · simp only [SV.rel, SC.rel, upd_eq]
    · refine ⟨trivial, (fun i j c hc => by simp [setK, SO.cell?] at hc), (fun _ hx => absurd rfl (hx _)), (fun _ => by rw [upd_eq]), (fun Ψ hΨ => ?_)⟩
      cases hΨ
      rw [upd_eq]
      exact ⟨_, push_new w _, #[], 0, rfl, by simp, by simp, by simp⟩

def intsSC : List SC → Option (List Int)
  | [] => some []
  | .v (.int .i64 z) :: r => match intsSC r with
    | some l => some (z :: l)
    | none => none
  | _ :: _ => none

theorem intsSC_rel {ρ : Asg} : ∀ {l : List SC} {ks : List Int} {vs : List Value}, intsSC l = some ks → relL ρ l vs → vs = ks.map (Value.int .i64)
  | [], ks, vs, h, hr => by
    cases h
    cases vs with
    | nil => rfl
    | cons v vs => exact hr.elim
  | c :: r, ks, [], _, hr => hr.elim
  | c :: r, ks, v :: vs, h, hr => by
    cases c with
    | v x =>
      cases x with
      | int k z =>
        cases k <;> simp only [intsSC] at h <;> try (cases h; done)
        cases hl : intsSC r with
        | none => rw [hl] at h; cases h
        | some l =>
          rw [hl] at h
          cases h
          have h1 : v = .int .i64 z := hr.1
          rw [h1, intsSC_rel hl hr.2]; rfl
      | _ => simp [intsSC] at h
    | _ => simp [intsSC] at h

def lookupSK (B : Tabs) (et0 : TypeId) (kt0 n : Nat) (t : TypeId) (x y : SV) (H : Heap) (K : Eff → Prop) : Prop :=
  match lookT B.T t, x, y with
  | some ⟨.map kt et, _, _, _⟩, .c (.m k), .agg l => (match look H k, intsSC l with
    | some (true, .raw Φ), some ks => bif Nat.beq et et0 && (Nat.beq kt kt0 && Nat.beq (lenL ks) n) then
        ∃ S, Φ = SetKObj n S ∧ K ⟨.c (.v (.bool (decide (ks ∈ S)))), [k], [], []⟩ else False
    | _, _ => False)
  | _, _, _ => False
where lenL : List Int → Nat
  | [] => 0
  | _ :: r => lenL r + 1

theorem lenL_eq (l : List Int) : lookupSK.lenL l = l.length := by induction l <;> simp [lookupSK.lenL, *]

theorem lookupS_step {cx : Cx} {B : Tabs} (hB : TabsOK cx.P B) {o : Oper} {e : Env} {H : Heap} {nx : Nat} {K : Eff → Prop} {t : TypeId} {x y : Operand} (et0 : TypeId) (kt0 n : Nat) (hz0 : ∀ w, (zeroValue et0).run cx.P w = .ok (.bool false) w)
    (hu : cx.P.underlying kt0 = some (.struct (cx.P.fieldsOf kt0))) (hf : intFs cx.P (cx.P.fieldsOf kt0).toList 0 = true) (hfn : (cx.P.fieldsOf kt0).toList.length = n) (hE : (kt0, n) ∈ B.E) (ho : o.op = .lookup t x y false)
    (h : lookupSK B et0 kt0 n t (ev e x) (ev e y) H K) : ∃ F, CallOK cx o e H nx F ∧ K F := by
  have hx : x ∈ o.op.operands.toList := by simp [ho, Op.operands]
  have hy : y ∈ o.op.operands.toList := by simp [ho, Op.operands]
  unfold lookupSK at h
  split at h
  · rename_i kt et s0 b0 z0 k l ht hex hey
    split at h
    · rename_i Φ ks hlk hks
      obtain ⟨he0, S, rfl, hK⟩ := bif_and h
      simp only [Bool.and_eq_true] at he0
      obtain ⟨he0, he1, he2⟩ := he0
      have he0 := Nat.eq_of_beq_eq_true he0
      have he1 := Nat.eq_of_beq_eq_true he1
      have he2 := Nat.eq_of_beq_eq_true he2
      rw [lenL_eq] at he2
      subst he0; subst he1
      refine ⟨_, ⟨?_, fun j hj => by cases hj⟩, hK⟩
      intro ρ s a w hs hr hk _ hdst KK Q hKK
      have hl1 : look s.H k = some (true, .raw (SetKObj n S)) := by rw [hk k (by simp)]; exact hlk
      have hx1 := reads_fit hx (fun t ht => by rw [← hr t ht]; exact hs.env t)
      have hy1 := reads_fit hy (fun t ht => by rw [← hr t ht]; exact hs.env t)
      rw [hex] at hx1; rw [hey] at hy1
      simp only [SV.rel, SC.rel] at hx1 hy1
      obtain ⟨cs, hycs, hyr⟩ := hy1
      have hcs : cs = (ks.map (Value.int .i64)).toArray := by have := intsSC_rel hks hyr; rw [← this]
      have hya : a.eval y = aggI ks := by rw [hycs, hcs]; rfl
      obtain ⟨ob, hob, es, clock, rfl, hes, hS, hSn⟩ := (hs.heap.reg k true _ hl1).keys _ rfl
      have hall : ∀ x ∈ es.toList, ∃ ks' : List Int, ks'.length = n ∧ x.key = aggI ks' := fun x hx => by obtain ⟨ks', h1, h2, _⟩ := hes x hx; exact ⟨ks', hSn _ h1, h2⟩
      have hchk := fun em => run_checkKey_ints (P := cx.P) em 9998 hu hf ks (by omega) w
      have hwide : (match cx.P.underlying kt with | some (.array _ _) | some (.struct _) => true | _ => false) = true := by rw [hu]
      have hrun : (execOp a.eval o).run cx.P w = .ok (.value (.bool (decide (ks ∈ S)))) w := by
        rcases findAsking_ints hB.E hE ks he2 w es.toList 0 hall with ⟨h1, h2⟩ | ⟨j, e', h1, h2, h3⟩
        · have hn : ks ∉ S := fun hn => by obtain ⟨e', he, hk'⟩ := hS ks hn; exact h2 e' he hk'
          simp only [execOp, ho, Instr.lookup, hx1, hya, Sem.run_bind, run_underlying (und_map hB ht), Result.andThen_ok, MapKept.run_getObj_map hob, Sem.run_pure,
            hchk, run_findKey_eq w hwide, h1, hz0]
          simp [hn]
        · have hm := List.mem_of_getElem? h2
          obtain ⟨ks', g1, g2, g3⟩ := hes e' hm
          have hn : ks ∈ S := by rw [aggI_inj (h3.symm.trans g2)]; exact g1
          simp only [execOp, ho, Instr.lookup, hx1, hya, Sem.run_bind, run_underlying (und_map hB ht), Result.andThen_ok, MapKept.run_getObj_map hob, Sem.run_pure,
            hchk, run_findKey_eq w hwide, h1, g3]
          simp [hn]
      refine wpIn_of_value (by simp [ho]) hrun (hKK ρ _ w ?_ (fun _ _ => rfl))
      exact hs.putO hdst rfl (by rw [SV.below_c]; intro j hj; cases hj)
    · exact h.elim
  · exact h.elim

def mapUpSK (B : Tabs) (kt0 n : Nat) (t : TypeId) (x y z : SV) (H : Heap) (K : Eff → Prop) : Prop :=
  match lookT B.T t, x, y with
  | some ⟨.map kt _, _, _, _⟩, .c (.m k), .agg l => (match look H k, intsSC l with
    | some (true, .raw Φ), some ks => bif truS z && (Nat.beq kt kt0 && Nat.beq (lookupSK.lenL ks) n) then
        ∃ S, Φ = SetKObj n S ∧ K ⟨.c .junk, [k], [(k, true, setK n (S ++ [ks]))], []⟩ else False
    | _, _ => False)
  | _, _, _ => False

theorem mapUpS_step {cx : Cx} {B : Tabs} (hB : TabsOK cx.P B) {o : Oper} {e : Env} {H : Heap} {nx : Nat} {K : Eff → Prop} {t : TypeId} {x y z : Operand} (kt0 n : Nat)
    (hu : cx.P.underlying kt0 = some (.struct (cx.P.fieldsOf kt0))) (hf : intFs cx.P (cx.P.fieldsOf kt0).toList 0 = true) (hfn : (cx.P.fieldsOf kt0).toList.length = n) (hE : (kt0, n) ∈ B.E) (ho : o.op = .mapUpdate t x y z)
    (h : mapUpSK B kt0 n t (ev e x) (ev e y) (ev e z) H K) : ∃ F, CallOK cx o e H nx F ∧ K F := by
  have hx : x ∈ o.op.operands.toList := by simp [ho, Op.operands]
  have hy : y ∈ o.op.operands.toList := by simp [ho, Op.operands]
  have hz : z ∈ o.op.operands.toList := by simp [ho, Op.operands]
  unfold mapUpSK at h
  split at h
  · rename_i kt et s0 b0 z0 k l ht hex hey
    split at h
    · rename_i Φ ks hlk hks
      obtain ⟨he0, S, rfl, hK⟩ := bif_and h
      simp only [Bool.and_eq_true] at he0
      obtain ⟨htr, he1, he2⟩ := he0
      have he1 := Nat.eq_of_beq_eq_true he1
      have he2 := Nat.eq_of_beq_eq_true he2
      rw [lenL_eq] at he2
      subst he1
      refine ⟨_, ⟨?_, fun j hj => by cases hj⟩, hK⟩
      intro ρ s a w hs hr hk _ hdst KK Q hKK
      have hl1 : look s.H k = some (true, .raw (SetKObj n S)) := by rw [hk k (by simp)]; exact hlk
      have hx1 := reads_fit hx (fun t ht => by rw [← hr t ht]; exact hs.env t)
      have hy1 := reads_fit hy (fun t ht => by rw [← hr t ht]; exact hs.env t)
      have hz1 := reads_fit hz (fun t ht => by rw [← hr t ht]; exact hs.env t)
      rw [hex] at hx1; rw [hey] at hy1
      simp only [SV.rel, SC.rel] at hx1 hy1
      have hz1 := truS_rel htr hz1
      obtain ⟨cs, hycs, hyr⟩ := hy1
      have hcs : cs = (ks.map (Value.int .i64)).toArray := by have := intsSC_rel hks hyr; rw [← this]
      have hya : a.eval y = aggI ks := by rw [hycs, hcs]; rfl
      obtain ⟨ob, hob, es, clock, rfl, hes, hS, hSn⟩ := (hs.heap.reg k true _ hl1).keys _ rfl
      have hall : ∀ x ∈ es.toList, ∃ ks' : List Int, ks'.length = n ∧ x.key = aggI ks' := fun x hx => by obtain ⟨ks', h1, h2, _⟩ := hes x hx; exact ⟨ks', hSn _ h1, h2⟩
      have hchk := fun em => run_checkKey_ints (P := cx.P) em 9998 hu hf ks (by omega) w
      have hwide : (match cx.P.underlying kt with | some (.array _ _) | some (.struct _) => true | _ => false) = true := by rw [hu]
      have hlenS : ∀ x ∈ S ++ [ks], x.length = n := by
        intro x hx
        rcases List.mem_append.1 hx with hx | hx
        · exact hSn x hx
        · simp at hx; rw [hx]; exact he2
      have hrun : ∃ es' clock', (execOp a.eval o).run cx.P w = .ok .skip (w.putObj (ρ k).blk (.map es' clock')) ∧ SetKObj n (S ++ [ks]) (.map es' clock') := by
        rcases findAsking_ints hB.E hE ks he2 w es.toList 0 hall with ⟨h1, h2⟩ | ⟨j, e', h1, h2, h3⟩
        · refine ⟨es.push { key := aggI ks, val := .bool true, born := clock }, clock + 1, ?_, _, _, rfl, ?_, ?_, hlenS⟩
          · simp only [execOp, ho, Instr.mapUpdate, hx1, hya, hz1, Sem.run_bind, run_underlying (und_map hB ht), Result.andThen_ok, MapKept.run_getObj_map hob, Sem.run_pure,
              hchk, run_findKey_eq w hwide, h1, MapKept.run_setObj_map _ hob]
            rfl
          · intro e' he
            simp only [Array.toList_push, List.mem_append, List.mem_singleton] at he
            rcases he with he | rfl
            · obtain ⟨ks', g1, g2, g3⟩ := hes e' he
              exact ⟨ks', by simp [g1], g2, g3⟩
            · exact ⟨ks, by simp, rfl, rfl⟩
          · intro x hx
            rcases List.mem_append.1 hx with hx | hx
            · obtain ⟨e', he, hk'⟩ := hS x hx
              exact ⟨e', by simp only [Array.toList_push, List.mem_append]; exact .inl he, hk'⟩
            · simp at hx
              exact ⟨_, by simp only [Array.toList_push, List.mem_append, List.mem_singleton]; exact .inr rfl, by rw [hx]⟩
        · have hm := List.mem_of_getElem? h2
          have h2' : es[j]? = some e' := by simpa using h2
          have hstay : (Instr.keyThatStays (aggI ks) (aggI ks)).run cx.P w = .ok (aggI ks) w := by
            unfold Instr.keyThatStays
            rw [if_pos (sameBits_ints 9999 ks)]; rfl
          refine ⟨es.modify j fun e => { e with key := aggI ks, val := .bool true }, clock, ?_, _, _, rfl, ?_, ?_, hlenS⟩
          · simp only [execOp, ho, Instr.mapUpdate, hx1, hya, hz1, Sem.run_bind, run_underlying (und_map hB ht), Result.andThen_ok, MapKept.run_getObj_map hob, Sem.run_pure,
              hchk, run_findKey_eq w hwide, h1, Nat.zero_add, h2', Option.map_some, Option.getD_some, h3, hstay, MapKept.run_setObj_map _ hob]
            rfl
          · intro e1 he
            obtain ⟨i, hi⟩ := List.mem_iff_getElem?.1 he
            simp only [Array.getElem?_toList, Array.getElem?_modify] at hi
            by_cases hij : j = i
            · rw [if_pos hij] at hi
              obtain ⟨e2, h4, rfl⟩ := Option.map_eq_some_iff.1 hi
              exact ⟨ks, by simp, rfl, rfl⟩
            · rw [if_neg hij] at hi
              obtain ⟨ks', g1, g2, g3⟩ := hes e1 (List.mem_of_getElem? (i := i) (by simpa using hi))
              exact ⟨ks', by simp [g1], g2, g3⟩
          · intro x hx
            have hk := MapKept.modify_keys (es := es) j (fun e => { e with key := aggI ks, val := .bool true }) (fun e he => by rw [h2'] at he; cases he; exact h3.symm)
            have e1 : ∀ l : List MapEntry, (∃ e ∈ l, e.key = aggI x) ↔ aggI x ∈ l.map (·.key) := fun l => by simp [List.mem_map]
            rw [e1, hk, ← e1]
            rcases List.mem_append.1 hx with hx | hx
            · exact hS x hx
            · simp at hx
              exact ⟨e', hm, by rw [h3, hx]⟩
      obtain ⟨es', clock', hrun, hset⟩ := hrun
      have hs' := hs.setObj hl1 (.map es' clock') hset
      refine wpIn_of_skip (by simp [ho]) hrun (hKK ρ _ _ ?_ (fun _ _ => rfl))
      exact hs'.putO (sv := .c .junk) hdst trivial (by rw [SV.below_c]; intro j hj; cases hj)
    · exact h.elim
  · exact h.elim

end Sx
end Go

namespace Go.Proofs
open Go.Sx

abbrev encL (l : Lnk) : List Int := [l.f, l.t, l.m, l.i]

theorem A_keyU : Try.prog.underlying 27 = some (.struct (Try.prog.fieldsOf 27)) := by kernel_rfl
theorem A_keyF : intFs Try.prog (Try.prog.fieldsOf 27).toList 0 = true := by kernel_rfl
theorem A_keyN : (Try.prog.fieldsOf 27).toList.length = 4 := by kernel_rfl
theorem A_keyE : ((27 : Nat), 4) ∈ tB.E := by simp [tB]

theorem linksRound (S : List (List Int)) (l : Lnk) : RoundT Try.prog Try.f143.ntmps [(3, .c (.p 1 0 0 0))] #[8]
    (rfA Try.f143) (rfB Try.f143) [svL l]
    [(1, true, .cells [.m 2]), (2, true, setK 4 S)] 3
    [(1, true, .cells [.m 2]), (2, true, setK 4 (S ++ [encL l]))] := by
  refine round_of tB_ok rfl ?_
  intro Φ Φ' ρ w
  conv => whnf
  refine ⟨rfl, ?_⟩
  conv => whnf
  refine mapUpS_step tB_ok 27 4 A_keyU A_keyF A_keyN A_keyE rfl ?_
  conv => whnf
  refine ⟨S, rfl, ?_⟩
  conv => whnf
  refine ⟨rfl, ?_⟩
  conv => whnf
  repeat' (first | exact trivial | exact rfl | refine And.intro ?_ ?_ | ((conv => whnf); first | exact trivial | exact rfl | refine And.intro ?_ ?_ | omega))

theorem links_t (bs : List (Int × Int)) (ls : List Lnk) (hb : bs.length ≤ 1000) (hB : BoxB bs) (hl : ls.length ≤ 100000) : Triple Try.prog 143 [sysA bs.length ls.length] (sysH bs ls) 2 (.c (.m 2)) [(2, true, setK 4 ((allF bs ls).map encL))] := by
  refine triple_of tB_ok Try.func143 rfl Try.call143 rfl ?_
  intro ρ w hH
  conv => whnf
  refine mkmapS_step 4 rfl ?_
  conv => whnf
  refine call_step (all_t bs ls) rfl rfl ?_
  conv => whnf
  refine ⟨(by repeat' (first | exact trivial | exact rfl | refine And.intro ?_ ?_ | ((conv => whnf); first | exact trivial | exact rfl | refine And.intro ?_ ?_ | omega))), (by repeat' (first | exact trivial | exact rfl | refine And.intro ?_ ?_ | ((conv => whnf); first | exact trivial | exact rfl | refine And.intro ?_ ?_ | omega))), ?_⟩
  conv => whnf
  refine range_step (asg := rfA Try.f143) (body := rfB Try.f143) tB_ok rfl Try.func138 rfl Try.call138 rfl ?_
  conv => whnf
  intro fo d l T0 ρ1 hT hE hl1
  have hA : ∀ i sv, (i, sv) ∈ [(3, SV.c (.p 4 0 0 0))] → sv.rel ρ1 (T0.getD i undef) := by
    intro i sv hm
    rcases List.mem_cons.1 hm with he | hm
    · cases he; exact hE 3
    · cases hm
  clear hE
  conv => whnf
  refine loop_step tB_ok (G := Nat × List (List Int)) 0 [] (fun g => [(10, iv .i64 g.1)]) (fun g => [(4, true, .cells [.m 3]), (3, true, setK 4 g.2), (7, true, recO fo T0 #[8] (rfA Try.f143) (rfB Try.f143) d)])
    (fun g => g.1 ≤ bs.length ∧ g.2 = (boxLinks 0 (bs.take g.1)).map encL) (fun g => bs.length - g.1) ?_
  conv => whnf
  refine ⟨⟨(0, []), ⟨Nat.zero_le _, rfl⟩, ?_⟩, ?_⟩
  · conv => whnf
    repeat' (first | exact trivial | exact rfl | refine And.intro ?_ ?_ | ((conv => whnf); first | exact trivial | exact rfl | refine And.intro ?_ ?_ | omega))
  rintro ⟨i, S⟩ ⟨hi, hS⟩ ρ2 t2 hρ2
  have hi : i ≤ bs.length := hi
  have hS : S = (boxLinks 0 (bs.take i)).map encL := hS
  have hρ2 : ∀ k, k < 8 → ρ2 k = ρ1 k := hρ2
  dsimp only
  conv => whnf
  refine ⟨fun hc => ?_, fun hc => ?_⟩
  · conv => whnf
    have h : i < bs.length := by simpa using hc
    have hst := congrArg (List.map encL) (boxLinks_take h)
    rw [List.map_append, List.map_append, ← hS] at hst
    refine ⟨i, rfl, h, h, ?_⟩
    conv => whnf
    refine yield_step (fn := fo) (d := d) [(3, .c (.p 4 0 0 0))] 7 (linksRound S ⟨-1, i, bs[i].2, 0⟩) hT (relSt_agree hA rfl hρ2) ((congrArg Rg.blk (hρ2 7 (by omega))).trans hl1) rfl rfl rfl rfl ?_
    conv => whnf
    refine ⟨(by repeat' (first | exact trivial | exact rfl | refine And.intro ?_ ?_ | ((conv => whnf); first | exact trivial | exact rfl | refine And.intro ?_ ?_ | omega))), (by repeat' (first | exact trivial | exact rfl | refine And.intro ?_ ?_ | ((conv => whnf); first | exact trivial | exact rfl | refine And.intro ?_ ?_ | omega))), ?_⟩
    conv => whnf
    refine ⟨-bs[i].1, ?_, ?_⟩
    · have := (hB bs[i] (List.getElem_mem h)).1
      show IntKind.i64.wrap (0 - bs[i].1) = -bs[i].1
      rw [wrapId ⟨by omega, by omega⟩]; omega
    conv => whnf
    refine yield_step (fn := fo) (d := d) [(3, .c (.p 4 0 0 0))] 7 (linksRound (S ++ [encL ⟨-1, i, bs[i].2, 0⟩]) ⟨i, -1, -bs[i].1, 0⟩) hT (relSt_agree hA rfl hρ2) ((congrArg Rg.blk (hρ2 7 (by omega))).trans hl1) rfl rfl rfl rfl ?_
    conv => whnf
    refine ⟨(by repeat' (first | exact trivial | exact rfl | refine And.intro ?_ ?_ | ((conv => whnf); first | exact trivial | exact rfl | refine And.intro ?_ ?_ | omega))), (by repeat' (first | exact trivial | exact rfl | refine And.intro ?_ ?_ | ((conv => whnf); first | exact trivial | exact rfl | refine And.intro ?_ ?_ | omega))), ?_⟩
    conv => whnf
    refine ⟨_, wrapId ⟨by omega, by omega⟩, ?_⟩
    refine ⟨(i + 1, (S ++ [encL ⟨-1, i, bs[i].2, 0⟩]) ++ [encL ⟨i, -1, -bs[i].1, 0⟩]), ⟨h, hst.symm⟩, by show bs.length - (i + 1) < bs.length - i; omega, ?_⟩
    conv => whnf
    refine ⟨rfl, ?_⟩
    conv => whnf
    repeat' (first | exact trivial | exact rfl | refine And.intro ?_ ?_ | ((conv => whnf); first | exact trivial | exact rfl | refine And.intro ?_ ?_ | omega))
  have hie : i = bs.length := by simp at hc; omega
  rw [hie, List.take_length] at hS
  conv => whnf
  refine loop_step tB_ok (G := Nat × List (List Int)) 0 [] (fun g => [(36, iv .i64 g.1)]) (fun g => [(4, true, .cells [.m 3]), (3, true, setK 4 g.2), (7, true, recO fo T0 #[8] (rfA Try.f143) (rfB Try.f143) d)])
    (fun g => g.1 ≤ ls.length ∧ g.2 = S ++ (ls.take g.1).map encL) (fun g => ls.length - g.1) ?_
  conv => whnf
  refine ⟨⟨(0, S), ⟨Nat.zero_le _, by simp⟩, ?_⟩, ?_⟩
  · conv => whnf
    repeat' (first | exact trivial | exact rfl | refine And.intro ?_ ?_ | ((conv => whnf); first | exact trivial | exact rfl | refine And.intro ?_ ?_ | omega))
  rintro ⟨j, S2⟩ ⟨hj, hS2⟩ ρ3 t3 hρ3
  have hj : j ≤ ls.length := hj
  have hS2 : S2 = S ++ (ls.take j).map encL := hS2
  have hρ3 : ∀ k, k < 8 → ρ3 k = ρ1 k := hρ3
  dsimp only
  conv => whnf
  refine ⟨fun hc => ?_, fun hc => ?_⟩
  · conv => whnf
    have h : j < ls.length := by simpa using hc
    have hst : S2 ++ [encL ls[j]] = S ++ (ls.take (j + 1)).map encL := by rw [hS2, List.append_assoc, take_snoc h, List.map_append]; rfl
    refine ⟨j, rfl, h, h, ?_⟩
    conv => whnf
    refine yield_step (fn := fo) (d := d) [(3, .c (.p 4 0 0 0))] 7 (linksRound S2 ls[j]) hT (relSt_agree hA rfl hρ3) ((congrArg Rg.blk (hρ3 7 (by omega))).trans hl1) rfl rfl rfl rfl ?_
    conv => whnf
    refine ⟨(by repeat' (first | exact trivial | exact rfl | refine And.intro ?_ ?_ | ((conv => whnf); first | exact trivial | exact rfl | refine And.intro ?_ ?_ | omega))), (by repeat' (first | exact trivial | exact rfl | refine And.intro ?_ ?_ | ((conv => whnf); first | exact trivial | exact rfl | refine And.intro ?_ ?_ | omega))), ?_⟩
    conv => whnf
    refine ⟨_, wrapId ⟨by omega, by omega⟩, ?_⟩
    refine ⟨(j + 1, S2 ++ [encL ls[j]]), ⟨h, hst⟩, by show ls.length - (j + 1) < ls.length - j; omega, ?_⟩
    conv => whnf
    refine ⟨rfl, ?_⟩
    conv => whnf
    repeat' (first | exact trivial | exact rfl | refine And.intro ?_ ?_ | ((conv => whnf); first | exact trivial | exact rfl | refine And.intro ?_ ?_ | omega))
  have hje : j = ls.length := by simp at hc; omega
  rw [hje, List.take_length, hS, ← List.map_append] at hS2
  have hS2 : S2 = (allF bs ls).map encL := hS2
  subst hS2
  conv => whnf
  refine ⟨rfl, ?_⟩
  conv => whnf
  refine ⟨fun _ h => h, ?_⟩
  conv => whnf
  repeat' (first | exact trivial | exact rfl | refine And.intro ?_ ?_ | ((conv => whnf); first | exact trivial | exact rfl | refine And.intro ?_ ?_ | omega))

theorem encL_mem (arcs : List Lnk) (c : Lnk) : encL c ∈ arcs.map encL ↔ c ∈ arcs := by
  rw [List.mem_map]
  constructor
  · rintro ⟨l, hl, he⟩
    have : l = c := by
      cases l; cases c
      simp only [encL, List.cons.injEq, and_true] at he
      simp [he]
    rw [← this]; exact hl
  · exact fun h => ⟨c, h, rfl⟩

end Go.Proofs

