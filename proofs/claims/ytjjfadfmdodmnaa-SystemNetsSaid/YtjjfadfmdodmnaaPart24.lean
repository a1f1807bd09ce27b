/-
  A part of the proof that a law of dryweightlaw03 answers true: lemmas of a symbolic walk, plain functions, or contracts of the functions walked (Sx29, Wo, Wp, Wq, Wr, Zt). Conditions: none.
-/
import Derived.Test.YtjjfadfmdodmnaaPart07
import Derived.Test.YtjjfadfmdodmnaaPart13
import Derived.Deep.Slices
import Derived.ChangeArms
import Derived.Test.YtjjfadfmdodmnaaPart09
import Derived.Test.YtjjfadfmdodmnaaPart21
import Derived.Test.YtjjfadfmdodmnaaPart22
import Derived.Test.YtjjfadfmdodmnaaPart23
import Derived.Test.YtjjfadfmdodmnaaRows
import Derived.Test.YtjjfadfmdodmnaaChecked
import Derived.WideKeyArgs
import Derived.Carry
import Derived.Handed
import Derived.RowKit
import Derived.JoinedOf
import Derived.ChangeSame
import Derived.Test.YtjjfadfmdodmnaaPart20
set_option maxRecDepth 100000
set_option linter.unusedVariables false
set_option linter.unusedSimpArgs false
namespace Go
namespace Sx
open Go.Deep Go.ChangeShapes Go.WideShapes

/-! ### A slice that came in, whose elements are structs of integers -/

def oneFs (P : Program) : List Field → Bool
  | [] => true
  | f :: r => Nat.beq (P.cellsOf f.type) 1 && oneFs P r

theorem intFs_get {P : Program} : ∀ {fs : List Field} {j i : Nat} {f : Field}, intFs P fs j = true → fs[i]? = some f → f.offset = j + i ∧ P.underlying f.type = some (.int .i64)
  | [], _, _, _, _, h => by simp at h
  | g :: r, j, i, f, h, hi => by
    simp only [intFs, Bool.and_eq_true] at h
    obtain ⟨_, h2, h3, h4⟩ := h
    cases i with
    | zero => simp at hi; subst hi; exact ⟨by simpa using h2, isI64_eq h3⟩
    | succ i =>
      have := intFs_get h4 (by simpa using hi)
      exact ⟨by omega, this.2⟩

theorem oneFs_get {P : Program} : ∀ {fs : List Field} {i : Nat} {f : Field}, oneFs P fs = true → fs[i]? = some f → P.cellsOf f.type = 1
  | [], _, _, _, h => by simp at h
  | g :: r, i, f, h, hi => by
    simp only [oneFs, Bool.and_eq_true] at h
    cases i with
    | zero => simp at hi; subst hi; exact Nat.eq_of_beq_eq_true h.1
    | succ i => exact oneFs_get h.2 (by simpa using hi)

theorem open_structs {H : Type} {enc : TypeId × Value → H} {P : Program} {w : World} {held : Bool} {t e n fuel : Nat} {fs : Array Field} {cs : List Value} {x : DataW H × List MemPlace}
    (ht : P.underlying t = some (.slice e)) (he : P.underlying e = some (.struct fs)) (ce : P.cellsOf e = n) (hf : intFs P fs.toList 0 = true) (h1 : oneFs P fs.toList = true) (hn : fs.toList.length = n) (hpos : 0 < n)
    (h : DataW.trod enc P w 0 (fun _ => true) held fuel t cs = some x) :
    (∃ a, cs = [.slice a 0 0]) ∨ ∃ (b off len cap : Nat) (V : Nat → Nat → Int), cs = [.slice (some ⟨b, off, none⟩) len cap] ∧ len ≤ cap ∧ b < w.heap.size ∧
      ∀ i, i < len → ∀ j, j < n → w.cell? ⟨b, off + (i * n + j), none⟩ = some (.int .i64 (V i j)) := by
  rcases open_slice ht h with ⟨h0, _⟩ | ⟨a, len, cap, m, n', D, Pl, rfl, hb, hl, hm, hmm, _, hx⟩
  · exact .inl ⟨none, h0⟩
  simp only [if_true] at hmm
  subst hmm
  rcases Nat.eq_zero_or_pos m with rfl | hcp
  · have : len = 0 := by omega
    subst this
    exact .inl ⟨some a, rfl⟩
  right
  have each : ∀ i, i < m → ∃ V : Nat → Int, ∀ j, j < n → w.cell? (a.add (i * n + j)) = some (.int .i64 (V j)) := by
    intro i hi
    obtain ⟨cs', g1, g2⟩ := hx i hi
    rw [ce] at g1
    obtain ⟨_, hlen, hcell⟩ := World.cells?_some g1
    obtain ⟨xs, k, hk, _, _, hxl, hff⟩ := DataW.trod_struct he g2
    refine choose_lt (α := Int) (p := fun j v => w.cell? (a.add (i * n + j)) = some (.int .i64 v)) fun j hj => ?_
    obtain ⟨f, hfj⟩ : ∃ f, fs.toList[j]? = some f := ⟨fs.toList[j]'(by omega), List.getElem?_eq_getElem _⟩
    obtain ⟨ho, hu⟩ := intFs_get hf hfj
    have hc1 := oneFs_get h1 hfj
    have hff := hff j f (by simpa using hfj)
    have hjx : j < xs.length := by rw [hxl]; simpa [← hn] using hj
    rw [hc1, List.getElem?_eq_getElem hjx] at hff
    obtain ⟨v, hv, _, _⟩ := DataW.trod_int hu hff
    refine ⟨v, ?_⟩
    have hc := hcell j hj
    have hjc : j < cs'.length := by omega
    rw [ho, Nat.zero_add, List.drop_eq_getElem_cons hjc] at hv
    simp only [List.take_succ_cons, List.take_zero, List.cons.injEq, and_true] at hv
    rw [List.getElem?_eq_getElem hjc, hv, add_add] at hc
    exact hc
  obtain ⟨V, hV⟩ := choose_lt (α := Nat → Int) (p := fun i f => ∀ j, j < n → w.cell? (a.add (i * n + j)) = some (.int .i64 (f j))) each
  have h00 := hV 0 hcp 0 hpos
  obtain ⟨b, off, spot⟩ := a
  have hs : spot = none := by simpa [Addr.add] using World.cell?_spot h00
  subst hs
  refine ⟨b, off, len, m, V, rfl, hl, ?_, fun i hi j hj => ?_⟩
  · have h00' : w.cell? ⟨b, off, none⟩ = some (.int .i64 (V 0 0)) := by simpa [Addr.add] using h00
    rcases Nat.lt_or_ge b w.heap.size with hlt | hge
    · exact hlt
    · simp [World.cell?, Array.getElem?_eq_none hge] at h00'
  · have := hV i (by omega) j hj
    rwa [add_plain] at this

end Sx
end Go

namespace Go.Proofs
open Go.Sx Go.ChangeShapes Go.WideShapes Go.RowKit

theorem below_of {W W' : World} (h : Frm W W' []) : Below W.heap.size W { W' with tape := W.tape } :=
  ⟨h.io.1, rfl, h.io.2, h.size, fun k hk => h.same k hk (by simp)⟩

theorem satO_came {ρ : Asg} {w : World} {k : Nat} {A : Arr} (hl : A.xs.length ≤ (ρ k).cap) (h : ∀ i x, A.xs[i]? = some x → ∀ j c, (A.enc x)[j]? = some c → ∃ v, w.cell? (adr ρ k (i * A.sz + j)) = some v ∧ c.rel ρ v) :
    SatO ρ w k false (.arr A) where
  wf := hl
  at_ i j c hc := by
    rw [Sx.arr_cell?] at hc
    cases hx : A.xs[i]? with
    | none => rw [hx] at hc; cases hc
    | some x => rw [hx] at hc; exact h i x hx j c hc
  room h := by cases h
  off0 h := by cases h
  keys Φ h := by cases h


theorem A_own : ownKnob Try.prog.godebug = none := by kernel_rfl
theorem A_laidOut : laidOutB Try.prog = true := fact_laid
theorem A_undSys : Try.prog.underlying 25 = some (.struct (Try.prog.fieldsOf 25)) := by kernel_rfl
theorem A_fldSys : ∃ f0 f1, Try.prog.fieldsOf 25 = #[f0, f1] ∧ f0.type = 22 ∧ f0.offset = 0 ∧ f1.type = 23 ∧ f1.offset = 1 := ⟨(Try.prog.fieldsOf 25)[0]!, (Try.prog.fieldsOf 25)[1]!, by kernel_rfl, by kernel_rfl, by kernel_rfl, by kernel_rfl, by kernel_rfl⟩
theorem A_undSpans : Try.prog.underlying 22 = some (.slice 33) := by kernel_rfl
theorem A_undLinks : Try.prog.underlying 23 = some (.slice 27) := by kernel_rfl
theorem A_undSpan : Try.prog.underlying 33 = some (.struct (Try.prog.fieldsOf 33)) := by kernel_rfl
theorem A_undLink : Try.prog.underlying 27 = some (.struct (Try.prog.fieldsOf 27)) := by kernel_rfl
theorem A_undBool : Try.prog.underlying 4 = some .bool := by kernel_rfl

/-- A system that came in: two lists. -/
theorem open_sys {H : Type} {enc : TypeId × Value → H} {w : World} {v : Value} {d : DataW H} {p : List MemPlace} (hok : ∃ cs, v = .agg cs ∧ cs.size = Try.prog.cellsOf 25)
    (h : DataW.Trod enc Try.prog w 0 (fun _ => true) true 25 v d p) (k0 k1 : Nat) :
    ∃ (bs : List (Int × Int)) (ls : List Lnk) (r0 r1 : Rg), ∀ ρ : Asg, ρ k0 = r0 → ρ k1 = r1 →
      (SV.agg [.s k0 0 bs.length 2, .s k1 0 ls.length 4]).rel ρ v ∧ SatO ρ w k0 false (.arr (aSpan bs)) ∧ SatO ρ w k1 false (.arr (aLink ls)) ∧ (0 < r0.cap → r0.blk < w.heap.size) ∧ (0 < r1.cap → r1.blk < w.heap.size) := by
  obtain ⟨cs, rfl, hcs⟩ := hok
  obtain ⟨fuel, hf⟩ := h
  obtain ⟨xs, n, _, _, hl, hxl, hff⟩ := DataW.trod_struct A_undSys hf
  obtain ⟨f0, f1, hfs, ht0, ho0, ht1, ho1⟩ := A_fldSys
  have hc2 : Try.prog.cellsOf 25 = 2 := by kernel_rfl
  have c22 : Try.prog.cellsOf 22 = 1 := by kernel_rfl
  have c23 : Try.prog.cellsOf 23 = 1 := by kernel_rfl
  rw [hc2] at hcs
  obtain ⟨a, b, rfl⟩ : ∃ a b, cs = #[a, b] := by
    obtain ⟨l⟩ := cs
    match l, hcs with
    | [a, b], _ => exact ⟨a, b, rfl⟩
  rw [hfs] at hff hxl
  have h0 := hff 0 f0 rfl
  have h1 := hff 1 f1 rfl
  rw [ht0, ho0, c22, List.getElem?_eq_getElem (by rw [hxl]; show 0 < 2; decide)] at h0
  rw [ht1, ho1, c23, List.getElem?_eq_getElem (by rw [hxl]; show 1 < 2; decide)] at h1
  have h0 : DataW.trod enc Try.prog w 0 (fun _ => true) true n 22 [a] = _ := h0
  have h1 : DataW.trod enc Try.prog w 0 (fun _ => true) true n 23 [b] = _ := h1
  have key0 : ∃ (bs : List (Int × Int)) (r0 : Rg), ∀ ρ : Asg, ρ k0 = r0 → (SC.s k0 0 bs.length 2).rel ρ a ∧ SatO ρ w k0 false (.arr (aSpan bs)) ∧ (0 < r0.cap → r0.blk < w.heap.size) := by
    rcases open_structs A_undSpans A_undSpan (by kernel_rfl : Try.prog.cellsOf 33 = 2) (by kernel_rfl) (by kernel_rfl) (by kernel_rfl) (by decide) h0 with ⟨a0, ha⟩ | ⟨bb, off, len, cap, V, ha, hle, hblk, hcell⟩
    · simp at ha; subst ha
      refine ⟨[], ⟨0, 0, 0⟩, fun ρ hρ => ⟨⟨a0, by rw [hρ]; rfl, by rw [hρ]; exact Nat.le_refl _, fun h => by rw [hρ] at h; cases h⟩, satO_came (Nat.zero_le _) (fun i x hx => by cases hx), fun h => by cases h⟩⟩
    · simp at ha; subst ha
      have hlen : ((List.range len).map fun i => (V i 0, V i 1)).length = len := by simp
      refine ⟨(List.range len).map fun i => (V i 0, V i 1), ⟨bb, off, cap⟩, fun ρ hρ => ⟨?_, satO_came ?_ ?_, fun _ => hblk⟩⟩
      · rw [hlen]
        exact ⟨_, by rw [hρ]; rfl, by rw [hρ]; show 0 + len ≤ cap; omega, fun _ => by simp [adr, hρ]⟩
      · show ((List.range len).map fun i => (V i 0, V i 1)).length ≤ _
        rw [hlen, hρ]; exact hle
      · intro i x hx j c hc
        have hx : ((List.range len).map fun i => (V i 0, V i 1))[i]? = some x := hx
        rw [List.getElem?_map] at hx
        obtain ⟨i', hi', rfl⟩ := Option.map_eq_some_iff.1 hx
        obtain ⟨hil, hie⟩ := List.getElem?_eq_some_iff.1 hi'
        have hil : i < len := by simpa using hil
        have hie : i' = i := by simpa using hie.symm
        subst hie
        have hc : [SC.v (.int .i64 (V i' 0)), SC.v (.int .i64 (V i' 1))][j]? = some c := hc
        show ∃ v, w.cell? (adr ρ k0 (i' * 2 + j)) = some v ∧ _
        rw [show adr ρ k0 (i' * 2 + j) = ⟨bb, off + (i' * 2 + j), none⟩ from by simp [adr, hρ]]
        match j, hc with
        | 0, hc => simp at hc; subst hc; exact ⟨_, hcell i' hil 0 (by decide), rfl⟩
        | 1, hc => simp at hc; subst hc; exact ⟨_, hcell i' hil 1 (by decide), rfl⟩
  have key1 : ∃ (ls : List Lnk) (r1 : Rg), ∀ ρ : Asg, ρ k1 = r1 → (SC.s k1 0 ls.length 4).rel ρ b ∧ SatO ρ w k1 false (.arr (aLink ls)) ∧ (0 < r1.cap → r1.blk < w.heap.size) := by
    rcases open_structs A_undLinks A_undLink (by kernel_rfl : Try.prog.cellsOf 27 = 4) (by kernel_rfl) (by kernel_rfl) (by kernel_rfl) (by decide) h1 with ⟨a0, ha⟩ | ⟨bb, off, len, cap, V, ha, hle, hblk, hcell⟩
    · simp at ha; subst ha
      refine ⟨[], ⟨0, 0, 0⟩, fun ρ hρ => ⟨⟨a0, by rw [hρ]; rfl, by rw [hρ]; exact Nat.le_refl _, fun h => by rw [hρ] at h; cases h⟩, satO_came (Nat.zero_le _) (fun i x hx => by cases hx), fun h => by cases h⟩⟩
    · simp at ha; subst ha
      have hlen : ((List.range len).map fun i => (⟨V i 0, V i 1, V i 2, V i 3⟩ : Lnk)).length = len := by simp
      refine ⟨(List.range len).map fun i => (⟨V i 0, V i 1, V i 2, V i 3⟩ : Lnk), ⟨bb, off, cap⟩, fun ρ hρ => ⟨?_, satO_came ?_ ?_, fun _ => hblk⟩⟩
      · rw [hlen]
        exact ⟨_, by rw [hρ]; rfl, by rw [hρ]; show 0 + len ≤ cap; omega, fun _ => by simp [adr, hρ]⟩
      · show ((List.range len).map fun i => (⟨V i 0, V i 1, V i 2, V i 3⟩ : Lnk)).length ≤ _
        rw [hlen, hρ]; exact hle
      · intro i x hx j c hc
        have hx : ((List.range len).map fun i => (⟨V i 0, V i 1, V i 2, V i 3⟩ : Lnk))[i]? = some x := hx
        rw [List.getElem?_map] at hx
        obtain ⟨i', hi', rfl⟩ := Option.map_eq_some_iff.1 hx
        obtain ⟨hil, hie⟩ := List.getElem?_eq_some_iff.1 hi'
        have hil : i < len := by simpa using hil
        have hie : i' = i := by simpa using hie.symm
        subst hie
        have hc : [SC.v (.int .i64 (V i' 0)), SC.v (.int .i64 (V i' 1)), SC.v (.int .i64 (V i' 2)), SC.v (.int .i64 (V i' 3))][j]? = some c := hc
        show ∃ v, w.cell? (adr ρ k1 (i' * 4 + j)) = some v ∧ _
        rw [show adr ρ k1 (i' * 4 + j) = ⟨bb, off + (i' * 4 + j), none⟩ from by simp [adr, hρ]]
        match j, hc with
        | 0, hc => simp at hc; subst hc; exact ⟨_, hcell i' hil 0 (by decide), rfl⟩
        | 1, hc => simp at hc; subst hc; exact ⟨_, hcell i' hil 1 (by decide), rfl⟩
        | 2, hc => simp at hc; subst hc; exact ⟨_, hcell i' hil 2 (by decide), rfl⟩
        | 3, hc => simp at hc; subst hc; exact ⟨_, hcell i' hil 3 (by decide), rfl⟩
  obtain ⟨bs, r0, hk0⟩ := key0
  obtain ⟨ls, r1, hk1⟩ := key1
  refine ⟨bs, ls, r0, r1, fun ρ e0 e1 => ⟨⟨#[a, b], rfl, (hk0 ρ e0).1, (hk1 ρ e1).1, trivial⟩, (hk0 ρ e0).2.1, (hk1 ρ e1).2.1, (hk0 ρ e0).2.2, (hk1 ρ e1).2.2⟩⟩


end Go.Proofs

namespace Go.Proofs
open Go.Sx Go.ChangeShapes Go.WideShapes Go.RowKit Go.Deep

/-! ### Arguments that came in -/

/-- A value that came in, as the walk sees it: a symbolic value over regions that are not the callee's own. -/
def Came (w : World) (v : Value) (sv : SV) (H : Heap) (ks : List (Nat × Rg)) : Prop := ∀ ρ : Asg, (∀ p ∈ ks, ρ p.1 = p.2) →
  sv.rel ρ v ∧ ∀ e ∈ H, e.2.1 = false ∧ SatO ρ w e.1 false e.2.2 ∧ (0 < e.2.2.room (ρ e.1) → (ρ e.1).blk < w.heap.size)

def CameAll (w : World) (vs : List Value) (svs : List SV) (H : Heap) (ks : List (Nat × Rg)) : Prop := ∀ ρ : Asg, (∀ p ∈ ks, ρ p.1 = p.2) →
  relVs ρ svs vs ∧ ∀ e ∈ H, e.2.1 = false ∧ SatO ρ w e.1 false e.2.2 ∧ (0 < e.2.2.room (ρ e.1) → (ρ e.1).blk < w.heap.size)

theorem cameAll_nil (w : World) : CameAll w [] [] [] [] := fun _ _ => ⟨trivial, fun e he => by cases he⟩

theorem cameAll_cons {w : World} {v : Value} {vs : List Value} {sv : SV} {svs : List SV} {H H' : Heap} {ks ks' : List (Nat × Rg)} (h : Came w v sv H ks) (h' : CameAll w vs svs H' ks') : CameAll w (v :: vs) (sv :: svs) (H ++ H') (ks ++ ks') := by
  intro ρ hρ
  obtain ⟨h1, h2⟩ := h ρ fun p hp => hρ p (List.mem_append.2 (.inl hp))
  obtain ⟨h3, h4⟩ := h' ρ fun p hp => hρ p (List.mem_append.2 (.inr hp))
  refine ⟨⟨h1, h3⟩, fun e he => ?_⟩
  rcases List.mem_append.1 he with he | he
  · exact h2 e he
  · exact h4 e he

def asgOf : List (Nat × Rg) → Asg
  | [], _ => ⟨0, 0, 0⟩
  | (k, r) :: t, j => if j = k then r else asgOf t j

theorem asgOf_ok : ∀ {ks : List (Nat × Rg)}, (ks.map (·.1)).Nodup → ∀ p ∈ ks, asgOf ks p.1 = p.2
  | [], _, p, hp => by cases hp
  | (k, r) :: t, hn, p, hp => by
    simp only [List.map_cons, List.nodup_cons] at hn
    rcases List.mem_cons.1 hp with rfl | hq
    · simp [asgOf]
    · have hne : p.1 ≠ k := fun he => hn.1 (he ▸ List.mem_map_of_mem hq)
      simp only [asgOf, if_neg hne]
      exact asgOf_ok hn.2 p hq

theorem look_mem : ∀ {H : Heap} {k : Nat} {x : Bool × SO}, Sx.look H k = some x → (k, x) ∈ H
  | [], _, _, h => by cases h
  | (j, o) :: r, k, x, h => by
    rw [look_cons] at h
    by_cases hk : k = j
    · rw [if_pos hk] at h
      rw [← Option.some.inj h, hk]; exact List.mem_cons_self ..
    · rw [if_neg hk] at h
      exact List.mem_cons_of_mem _ (look_mem h)

theorem came_sat {w : World} {vs : List Value} {svs : List SV} {H : Heap} {ks : List (Nat × Rg)} (h : CameAll w vs svs H ks) (hn : (ks.map (·.1)).Nodup) :
    ∃ ρ : Asg, relVs ρ svs vs ∧ SatH w (ownB ρ H) ρ H w := by
  obtain ⟨h1, h2⟩ := h (asgOf ks) (asgOf_ok hn)
  refine ⟨asgOf ks, h1, Frm.refl _ _, ?_, ?_, ?_, ?_⟩
  · intro k own o hk
    obtain ⟨h3, h4, _⟩ := h2 _ (look_mem hk)
    have h3 : own = false := h3
    subst h3; exact h4
  · intro k k' o own' o' _ hk
    have := (h2 _ (look_mem hk)).1; cases this
  · intro k o hk
    have := (h2 _ (look_mem hk)).1; cases this
  · intro k own o hk hp
    exact (h2 _ (look_mem hk)).2.2 hp

theorem came_sys {base : Nat} {H : Type} {enc : TypeId × Value → H} {w : World} {v : Value} {d : DataW H} {p : List MemPlace} (hok : Value.okWide Try.prog w .any base 25 v)
    (h : DataW.Trod enc Try.prog w 0 (fun _ => true) true 25 v d p) (k0 k1 : Nat) :
    ∃ (bs : List (Int × Int)) (ls : List Lnk) (r0 r1 : Rg), Came w v (.agg [.s k0 0 bs.length 2, .s k1 0 ls.length 4]) [(k0, false, .arr (aSpan bs)), (k1, false, .arr (aLink ls))] [(k0, r0), (k1, r1)] := by
  obtain ⟨bs, ls, r0, r1, hopen⟩ := open_sys (okWide_struct A_undSys hok) h k0 k1
  refine ⟨bs, ls, r0, r1, fun ρ hρ => ?_⟩
  have e0 := hρ (k0, r0) (by simp)
  have e1 := hρ (k1, r1) (by simp)
  obtain ⟨h1, h2, h3, h4, h5⟩ := hopen ρ e0 e1
  refine ⟨h1, fun e he => ?_⟩
  rcases List.mem_cons.1 he with rfl | he
  · refine ⟨rfl, h2, fun hp => ?_⟩
    rw [e0] at hp ⊢
    refine h4 (Nat.pos_of_ne_zero fun h => ?_)
    simp only [SO.room, h, Nat.zero_mul] at hp; cases hp
  · rcases List.mem_cons.1 he with rfl | he
    · refine ⟨rfl, h3, fun hp => ?_⟩
      rw [e1] at hp ⊢
      refine h5 (Nat.pos_of_ne_zero fun h => ?_)
      simp only [SO.room, h, Nat.zero_mul] at hp; cases hp
    · cases he

/-! ### Behind the call -/

abbrev A_reads : List Nat := [25, 3, 27, 5, 47, 23, 38, 97, 115]

theorem A_read : ∀ t ∈ A_reads, Try.prog.readableRec t = true ∧ t < Try.prog.types.size := by
  have h : (A_reads.all fun t => Try.prog.readableRec t && decide (t < Try.prog.types.size)) = true := by kernel_rfl
  intro t ht
  have := List.all_eq_true.1 h t ht
  simpa using this

theorem trodAll_keep {H : Type} {enc : TypeId × Value → H} {W W' : World} (hfrm : Frm W W' []) : ∀ {ts : List TypeId} {vs : List Value} {ds : List (DataW H)} {p : List MemPlace}, (∀ t ∈ ts, Try.prog.readableRec t = true ∧ t < Try.prog.types.size) →
    DataW.TrodAll enc Try.prog W 0 (fun _ => true) true ts vs ds p → (∀ x ∈ p, x.block < W.heap.size) → DataW.TrodAll enc Try.prog { W' with tape := W.tape } 0 (fun b => decide (b < W.heap.size)) true ts vs ds p
  | [], vs, ds, p, _, h, _ => by
    obtain ⟨rfl, rfl, rfl⟩ := trodAll_nil h
    exact trodAll_mk0
  | t :: ts, vs, ds, p, hr, h, hlt => by
    obtain ⟨v, vs', d, ds', p1, p2, rfl, rfl, rfl, hd, hrest⟩ := trodAll_cons h
    have ht := hr t (List.mem_cons_self ..)
    refine ⟨p1, p2, ?_, ?_, rfl⟩
    · exact Below.trod A_laidOut ht.1 ht.2 hd (below_of hfrm) fun x hx => hlt x (List.mem_append.2 (.inl hx))
    · exact trodAll_keep hfrm (fun t ht => hr t (List.mem_cons_of_mem _ ht)) hrest fun x hx => hlt x (List.mem_append.2 (.inr hx))

end Go.Proofs

namespace Go.Proofs
open Go.Sx Go.ChangeShapes Go.WideShapes Go.RowKit Go.Deep

theorem A_undInt : Try.prog.underlying 3 = some (.int .i64) := by kernel_rfl

end Go.Proofs

namespace Go.Proofs
open Go.Sx Go.ChangeShapes Go.WideShapes Go.RowKit Go.Deep

end Go.Proofs

namespace Go.Proofs
open Go.Sx Go.ChangeShapes Go.WideShapes Go.RowKit Go.Deep

theorem A_undSteps : Try.prog.underlying 97 = some (.slice 99) := by kernel_rfl
theorem A_undStep : Try.prog.underlying 99 = some (.struct (Try.prog.fieldsOf 99)) := by kernel_rfl
theorem A_fldStep : ∃ f0 f1 f2, Try.prog.fieldsOf 99 = #[f0, f1, f2] ∧ (f0.type = 4 ∧ f0.offset = 0) ∧ (f1.type = 3 ∧ f1.offset = 1) ∧ f2.type = 23 ∧ f2.offset = 2 :=
  ⟨(Try.prog.fieldsOf 99)[0]!, (Try.prog.fieldsOf 99)[1]!, (Try.prog.fieldsOf 99)[2]!, by kernel_rfl, ⟨by kernel_rfl, by kernel_rfl⟩, ⟨by kernel_rfl, by kernel_rfl⟩, by kernel_rfl, by kernel_rfl⟩

instance : Inhabited Stp := ⟨⟨false, 0, none, 0, 0, []⟩⟩

theorem came_step1 {H : Type} {enc : TypeId × Value → H} {w : World} {n : Nat} {cs : List Value} {x : DataW H × List MemPlace} (hl : cs.length = 3) (h : DataW.trod enc Try.prog w 0 (fun _ => true) true n 99 cs = some x) :
    ∃ s : Stp, cs = [.bool s.tk, .int .i64 s.id, .slice s.a s.n s.c] ∧ StepIn w s := by
  match cs, hl with
  | [a, b, c], _ =>
    obtain ⟨xs, m, _, _, _, hxl, hff⟩ := DataW.trod_struct A_undStep h
    obtain ⟨f0, f1, f2, hfs, ⟨t0, o0⟩, ⟨t1, o1⟩, t2, o2⟩ := A_fldStep
    rw [hfs] at hff hxl
    have hxl : xs.length = 3 := hxl
    have h0 := hff 0 f0 rfl
    have h1 := hff 1 f1 rfl
    have h2 := hff 2 f2 rfl
    have c0 : Try.prog.cellsOf 4 = 1 := by kernel_rfl
    have c1 : Try.prog.cellsOf 3 = 1 := by kernel_rfl
    have c2 : Try.prog.cellsOf 23 = 1 := by kernel_rfl
    rw [t0, o0, c0, List.getElem?_eq_getElem (by omega)] at h0
    rw [t1, o1, c1, List.getElem?_eq_getElem (by omega)] at h1
    rw [t2, o2, c2, List.getElem?_eq_getElem (by omega)] at h2
    have h0 : DataW.trod enc Try.prog w 0 (fun _ => true) true m 4 [a] = _ := h0
    have h1 : DataW.trod enc Try.prog w 0 (fun _ => true) true m 3 [b] = _ := h1
    have h2 : DataW.trod enc Try.prog w 0 (fun _ => true) true m 23 [c] = _ := h2
    obtain ⟨tk, e0, _⟩ := DataW.trod_bool A_undBool h0
    obtain ⟨id, e1, _⟩ := DataW.trod_int A_undInt h1
    simp only [List.cons.injEq, and_true] at e0 e1
    subst e0 e1
    rcases open_structs A_undLinks A_undLink (by kernel_rfl : Try.prog.cellsOf 27 = 4) (by kernel_rfl) (by kernel_rfl) (by kernel_rfl) (by decide) h2 with ⟨a0, ha⟩ | ⟨bb, off, len, cap, V, ha, hle, hblk, hcell⟩
    · simp only [List.cons.injEq, and_true] at ha
      subst ha
      exact ⟨⟨tk, id, a0, 0, 0, []⟩, rfl, ⟨0, 0, 0⟩, (fun h => by cases h), Nat.le_refl _, rfl, fun i j c hc => by cases hc⟩
    · simp only [List.cons.injEq, and_true] at ha
      subst ha
      have hlen : ((List.range len).map fun i => (⟨V i 0, V i 1, V i 2, V i 3⟩ : Lnk)).length = len := by simp
      refine ⟨⟨tk, id, some ⟨bb, off, none⟩, len, cap, (List.range len).map fun i => (⟨V i 0, V i 1, V i 2, V i 3⟩ : Lnk)⟩, rfl, ⟨bb, off, cap⟩, fun _ => hblk, by rw [hlen]; exact hle, by rw [hlen]; simp, fun i j c hc => ?_⟩
      rw [Sx.arr_cell?] at hc
      have hc : (((List.range len).map fun i => (⟨V i 0, V i 1, V i 2, V i 3⟩ : Lnk))[i]?).bind (fun x => ([SC.v (.int .i64 x.f), SC.v (.int .i64 x.t), SC.v (.int .i64 x.m), SC.v (.int .i64 x.i)] : List SC)[j]?) = some c := hc
      rw [List.getElem?_map] at hc
      cases hr : (List.range len)[i]? with
      | none => rw [hr] at hc; cases hc
      | some i' =>
        obtain ⟨hil, hie⟩ := List.getElem?_eq_some_iff.1 hr
        have hil : i < len := by simpa using hil
        have hie : i' = i := by simpa using hie.symm
        subst hie
        rw [hr] at hc
        have hc : ([SC.v (.int .i64 (V i' 0)), SC.v (.int .i64 (V i' 1)), SC.v (.int .i64 (V i' 2)), SC.v (.int .i64 (V i' 3))] : List SC)[j]? = some c := hc
        match j, hc with
        | 0, hc => simp at hc; subst hc; exact ⟨_, hcell i' hil 0 (by decide), fun _ => rfl⟩
        | 1, hc => simp at hc; subst hc; exact ⟨_, hcell i' hil 1 (by decide), fun _ => rfl⟩
        | 2, hc => simp at hc; subst hc; exact ⟨_, hcell i' hil 2 (by decide), fun _ => rfl⟩
        | 3, hc => simp at hc; subst hc; exact ⟨_, hcell i' hil 3 (by decide), fun _ => rfl⟩

theorem came_steps {base : Nat} {H : Type} {enc : TypeId × Value → H} {w : World} {v : Value} {d : DataW H} {p : List MemPlace} (hok : Value.okWide Try.prog w .any base 97 v) (h : DataW.Trod enc Try.prog w 0 (fun _ => true) true 97 v d p) (k : Nat) :
    ∃ (xs : List Stp) (r : Rg), Came w v (.c (.s k 0 xs.length 3)) [(k, false, .arr (aStepN [] (baseRows xs)))] [(k, r)] ∧ ∀ x ∈ xs, StepIn w x := by
  obtain ⟨a0, l0, c0, rfl⟩ := okWide_slice A_undSteps hok
  obtain ⟨fuel, hf⟩ := h
  have none_ : l0 = 0 → c0 = 0 → ∃ (xs : List Stp) (r : Rg), Came w (.slice a0 l0 c0) (.c (.s k 0 xs.length 3)) [(k, false, .arr (aStepN [] (baseRows xs)))] [(k, r)] ∧ ∀ x ∈ xs, StepIn w x := by
    rintro rfl rfl
    refine ⟨[], ⟨0, 0, 0⟩, fun ρ hρ => ?_, fun x hx => by cases hx⟩
    have e0 : ρ k = ⟨0, 0, 0⟩ := hρ (k, ⟨0, 0, 0⟩) (by simp)
    refine ⟨⟨a0, by rw [e0]; rfl, by rw [e0]; exact Nat.le_refl _, fun h => by rw [e0] at h; cases h⟩, fun e he => ?_⟩
    simp only [List.mem_singleton] at he
    subst he
    exact ⟨rfl, satO_came (Nat.zero_le _) (fun i x hx => by cases hx), fun hp => by simp only [SO.room, e0, Nat.zero_mul] at hp; cases hp⟩
  rcases open_slice A_undSteps hf with ⟨h0, _⟩ | ⟨a, len, cap, m, n', D, Pl, he, hb, hl, hm, hmm, _, hx⟩
  · have h0 : [Value.slice a0 l0 c0] = [.slice none 0 0] := h0
    simp only [List.cons.injEq, Value.slice.injEq, and_true] at h0
    exact none_ h0.2.1 h0.2.2
  have he : [Value.slice a0 l0 c0] = [.slice (some a) len cap] := he
  simp only [List.cons.injEq, Value.slice.injEq, and_true] at he
  obtain ⟨rfl, rfl, rfl⟩ := he
  simp only [if_true] at hmm
  rw [hmm] at hx
  rcases Nat.eq_zero_or_pos c0 with hc | hcp
  · exact none_ (by omega) hc
  have ce : Try.prog.cellsOf 99 = 3 := by kernel_rfl
  have each : ∀ i, i < c0 → ∃ s : Stp, (w.cell? (a.add (i * 3 + 0)) = some (.bool s.tk) ∧ w.cell? (a.add (i * 3 + 1)) = some (.int .i64 s.id) ∧ w.cell? (a.add (i * 3 + 2)) = some (.slice s.a s.n s.c)) ∧ StepIn w s := by
    intro i hi
    obtain ⟨cs', g1, g2⟩ := hx i hi
    rw [ce] at g1
    obtain ⟨_, hlen, hcell⟩ := World.cells?_some g1
    obtain ⟨s, rfl, hs⟩ := came_step1 hlen g2
    have q0 := hcell 0 (by decide)
    have q1 := hcell 1 (by decide)
    have q2 := hcell 2 (by decide)
    rw [add_add] at q0 q1 q2
    exact ⟨s, ⟨q0, q1, q2⟩, hs⟩
  obtain ⟨X, hX⟩ := choose_lt (α := Stp) (p := fun i s => (w.cell? (a.add (i * 3 + 0)) = some (.bool s.tk) ∧ w.cell? (a.add (i * 3 + 1)) = some (.int .i64 s.id) ∧ w.cell? (a.add (i * 3 + 2)) = some (.slice s.a s.n s.c)) ∧ StepIn w s) each
  have h00 := (hX 0 hcp).1.1
  obtain ⟨b, off, spot⟩ := a
  have hs : spot = none := by simpa [Addr.add] using World.cell?_spot h00
  subst hs
  have hblk : b < w.heap.size := by
    rcases Nat.lt_or_ge b w.heap.size with hlt | hge
    · exact hlt
    · simp [Addr.add, World.cell?, Array.getElem?_eq_none hge] at h00
  have hlen : ((List.range l0).map X).length = l0 := by simp
  refine ⟨(List.range l0).map X, ⟨b, off, c0⟩, fun ρ hρ => ?_, fun x hx => ?_⟩
  · have e0 : ρ k = ⟨b, off, c0⟩ := hρ (k, ⟨b, off, c0⟩) (by simp)
    refine ⟨?_, fun e he => ?_⟩
    · rw [hlen]
      exact ⟨_, by rw [e0]; rfl, by rw [e0]; show 0 + l0 ≤ c0; omega, fun _ => by simp [adr, e0]⟩
    · simp only [List.mem_singleton] at he
      subst he
      refine ⟨rfl, satO_came ?_ ?_, fun _ => by rw [e0]; exact hblk⟩
      · show (baseRows ((List.range l0).map X)).length ≤ _
        rw [baseRows, List.length_map, hlen, e0]; exact hl
      · intro i x hx j c hc
        have hx : (baseRows ((List.range l0).map X))[i]? = some x := hx
        rw [baseRows, List.getElem?_map, List.getElem?_map] at hx
        cases hr : (List.range l0)[i]? with
        | none => rw [hr] at hx; cases hx
        | some i' =>
          obtain ⟨hil, hie⟩ := List.getElem?_eq_some_iff.1 hr
          have hil : i < l0 := by simpa using hil
          have hie : i' = i := by simpa using hie.symm
          subst hie
          rw [hr] at hx
          have hx : baseRow (X i') = x := Option.some.inj hx
          subst hx
          have hc : ([SC.v (.bool (X i').tk), .v (.int .i64 (X i').id), .v (.slice (X i').a (X i').n (X i').c)] : List SC)[j]? = some c := hc
          obtain ⟨⟨q0, q1, q2⟩, _⟩ := hX i' (by omega)
          show ∃ v, w.cell? (adr ρ k (i' * 3 + j)) = some v ∧ _
          rw [show adr ρ k (i' * 3 + j) = (⟨b, off, none⟩ : Addr).add (i' * 3 + j) from by simp [adr, e0, Addr.add]]
          match j, hc with
          | 0, hc => simp at hc; subst hc; exact ⟨_, q0, rfl⟩
          | 1, hc => simp at hc; subst hc; exact ⟨_, q1, rfl⟩
          | 2, hc => simp at hc; subst hc; exact ⟨_, q2, rfl⟩
  · obtain ⟨i, hi, rfl⟩ := List.mem_map.1 hx
    exact (hX i (by have := List.mem_range.1 hi; omega)).2

end Go.Proofs

