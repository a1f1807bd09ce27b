/-
  A part of the proof that a law of dryweightlaw03 answers true: lemmas of a symbolic walk, plain functions, or contracts of the functions walked (Sx24, Wa, Sx25, Wb, Wc, Wd, Pm3, Sx26, Sx27). Conditions: none.
-/
import Derived.Test.YtjjfadfmdodmnaaPart10
import Derived.Sort.Grow
import Derived.Test.YtjjfadfmdodmnaaPart11
import Derived.Test.YtjjfadfmdodmnaaPart12
import Derived.MapKept
set_option maxRecDepth 100000
set_option linter.unusedVariables false
set_option linter.unusedSimpArgs false
namespace Go
namespace Sx

/-! ### Contracts of the library that rewrite a list of integers in place -/

/-- An own list has been rewritten in its place; whatever else was there is as it was. -/
theorem SatH.rewrite {ρ : Asg} {w w' : World} {xs ys : List Int} (h : SatH w (ownB ρ [(0, true, .arr (aInt xs))]) ρ [(0, true, .arr (aInt xs))] w) (hsz : w.heap.size ≤ w'.heap.size)
    (hl : ys.length ≤ (ρ 0).cap) (hother : ∀ b, b < w.heap.size → b ≠ (ρ 0).blk → w'.heap[b]? = w.heap[b]?)
    (hc : ∀ j (x : Int), ys[j]? = some x → w'.cell? (adr ρ 0 j) = some (.int .i64 x)) (hr : ∀ n, n < (ρ 0).cap → (∃ v, w'.cell? (adr ρ 0 n) = some v) ∧ w'.frozen? (adr ρ 0 n) = false)
    (h0 : (ρ 0).cap = 0 → w'.heap[(ρ 0).blk]? = w.heap[(ρ 0).blk]?) (hio : w'.os = w.os ∧ w'.output = w.output := by exact ⟨rfl, rfl⟩)
    (hq : w'.tape = w.tape ∧ w.drawn ≤ w'.drawn := by first | exact ⟨rfl, Nat.le_refl _⟩ | exact ⟨rfl, Nat.le_add_right _ _⟩ | exact ⟨(setCells_quiet _ _ _ _).1, Nat.le_of_eq (setCells_quiet _ _ _ _).2.symm⟩ | exact ⟨(setCells_quiet _ _ _ _).1, by rw [(setCells_quiet _ _ _ _).2]; exact Nat.le_add_right _ _⟩) :
    SatH w (ownB ρ [(0, true, .arr (aInt xs))]) ρ [(0, true, .arr (aInt ys))] w' := by
  have hl0 : look [(0, true, SO.arr (aInt xs))] 0 = some (true, .arr (aInt xs)) := rfl
  have hs := h.reg 0 true _ hl0
  have hone : ∀ k own o, look [(0, true, SO.arr (aInt ys))] k = some (own, o) → k = 0 ∧ own = true ∧ o = .arr (aInt ys) := by
    intro k own o hk
    rw [look_cons] at hk
    by_cases hk0 : k = 0
    · rw [if_pos hk0] at hk; simp at hk; exact ⟨hk0, hk.1, hk.2.symm⟩
    · rw [if_neg hk0] at hk; simp [look] at hk
  have hroom : ∀ (zs : List Int) (r : Rg), (SO.arr (aInt zs)).room r = r.cap := fun zs r => Nat.mul_one _
  have hM : ∀ b, b ∉ ownB ρ [(0, true, SO.arr (aInt xs))] → b = (ρ 0).blk → (ρ 0).cap = 0 := by
    intro b hb he
    refine Nat.eq_zero_of_not_pos fun hp => hb ?_
    exact mem_ownB.2 ⟨0, _, List.mem_cons_self .., by rw [hroom]; exact hp, he⟩
  refine ⟨⟨hsz, fun b hb hm => ?_, hio, hq⟩, ?_, ?_, ?_, ?_⟩
  · by_cases he : b = (ρ 0).blk
    · rw [he]; exact h0 (hM b hm he)
    · exact hother b hb he
  · intro k own o hk
    obtain ⟨rfl, rfl, rfl⟩ := hone k own o hk
    refine ⟨hl, ?_, ?_, fun _ => hs.off0 rfl, fun _ h => by cases h⟩
    · intro i j c hcc
      rw [arr_cell?] at hcc
      have hcc : (ys[i]?).bind (fun x => [SC.v (.int .i64 x)][j]?) = some c := hcc
      cases hx : ys[i]? with
      | none => rw [hx] at hcc; cases hcc
      | some x =>
        rw [hx] at hcc
        simp only [Option.bind_some] at hcc
        cases j with
        | zero =>
          simp at hcc; subst hcc
          exact ⟨_, by have := hc i x hx; simpa [SO.sz, aInt] using this, rfl⟩
        | succ j => simp at hcc
    · intro _ _ n hn
      rw [hroom] at hn
      exact hr n hn
  · intro k k' o own' o' hne hk hk'
    obtain ⟨rfl, _, _⟩ := hone k true o hk
    obtain ⟨rfl, _, _⟩ := hone k' own' o' hk'
    exact absurd rfl hne
  · intro k o hk hp
    obtain ⟨rfl, _, rfl⟩ := hone k true o hk
    exact h.fresh 0 _ hl0 (by rw [hroom] at hp ⊢; exact hp)
  · intro k own o hk hp
    obtain ⟨rfl, _, rfl⟩ := hone k own o hk
    exact Nat.lt_of_lt_of_le (h.valid 0 true _ hl0 (by rw [hroom] at hp ⊢; exact hp)) hsz

/-- What a slice of an own list of integers is, as a value. -/
theorem own_slice {ρ : Asg} {w : World} {xs : List Int} {vals : Array Value} (hv : relVs ρ [.c (.s 0 0 xs.length 1)] vals.toList) (h : SatH w (ownB ρ [(0, true, .arr (aInt xs))]) ρ [(0, true, .arr (aInt xs))] w) :
    ∃ a, vals = #[.slice a xs.length (ρ 0).cap] ∧ xs.length ≤ (ρ 0).cap ∧ (0 < (ρ 0).cap → a = some ⟨(ρ 0).blk, 0, none⟩ ∧ (ρ 0).blk < w.heap.size) ∧
      (∀ j, j < xs.length → w.cell? ⟨(ρ 0).blk, 0 + j, none⟩ = some (.int .i64 (xs.getD j 0))) ∧ ∀ n, n < (ρ 0).cap → (∃ v, w.cell? (adr ρ 0 n) = some v) ∧ w.frozen? (adr ρ 0 n) = false := by
  have hl0 : look [(0, true, SO.arr (aInt xs))] 0 = some (true, .arr (aInt xs)) := rfl
  have hs := h.reg 0 true _ hl0
  have hoff := hs.off0 rfl
  have hroom : ∀ (zs : List Int) (r : Rg), (SO.arr (aInt zs)).room r = r.cap := fun zs r => Nat.mul_one _
  match hvl : vals.toList, hv with
  | [v], hv =>
    obtain ⟨⟨a, rfl, hcap, ha⟩, _⟩ := hv
    simp only [Nat.sub_zero, Nat.zero_mul, Nat.zero_add] at hvl hcap ha
    refine ⟨a, Array.toList_inj.1 (by simpa using hvl), hcap, fun hp => ⟨by rw [ha hp]; simp [adr, hoff], h.valid 0 true _ hl0 (by rw [hroom]; exact hp)⟩, ?_, fun n hn => hs.room rfl (by simp) n (by rw [hroom]; exact hn)⟩
    intro j hj
    obtain ⟨v, hv, hr⟩ := hs.at_ j 0 (.v (.int .i64 xs[j])) (by
      rw [arr_cell?]
      show (xs[j]?).bind _ = _
      rw [List.getElem?_eq_getElem hj]; rfl)
    have hr : v = .int .i64 xs[j] := hr
    rw [List.getD_eq_getElem?_getD, List.getElem?_eq_getElem hj]
    have e : j * (SO.arr (aInt xs)).sz + 0 = j := by show j * 1 + 0 = j; omega
    rw [e] at hv
    simpa [adr, hoff, hr] using hv

end Sx
end Go

namespace Go.Proofs
open Go.Sx Go.Sort Go.RowKit

abbrev sortI (xs : List Int) : List Int := xs.mergeSort fun x y => decide (x ≤ y)

theorem sort_t (xs : List Int) (h : xs.length ≤ 1000000) : Triple Try.prog 129 [.c (.s 0 0 xs.length 1)] [(0, true, .arr (aInt xs))] 1 (.tup []) [(0, true, .arr (aInt (sortI xs)))] where
  enter := Try.call129
  h ρ w vals hv hH := by
    obtain ⟨a, rfl, hcap, ha, hcells, hroom⟩ := own_slice hv hH
    have hlen : (sortI xs).length = xs.length := List.length_mergeSort _
    rcases Nat.eq_zero_or_pos xs.length with h0 | hpos
    · have hx := List.length_eq_zero_iff.1 h0
      subst hx
      refine (Try.slices_Sort_int_none a (ρ 0).cap w).mono ?_
      rintro e w' ⟨rfl, rfl⟩
      refine ⟨ρ, _, fun _ _ => rfl, rfl, undef_rel, ?_⟩
      have : sortI [] = [] := List.length_eq_zero_iff.1 hlen
      rw [this]; exact hH
    · obtain ⟨rfl, hblk⟩ := ha (by omega)
      have hHo : Holds (Value.int .i64) w (ρ 0).blk 0 xs.toArray := by
        intro j hj
        have hj : j < xs.length := by simpa using hj
        have hoff : (ρ 0).off = 0 := (hH.reg 0 true _ (rfl : Sx.look [(0, true, SO.arr (aInt xs))] 0 = _)).off0 rfl
        refine ⟨?_, ?_⟩
        · rw [hcells j hj]
          congr 2
          simp [hj]
        · have := (hroom j (by omega)).2
          simpa [adr, hoff] using this
      refine (Try.slices_Sort_int (ρ 0).blk 0 (ρ 0).cap xs w hHo hblk (by omega)).mono ?_
      rintro e w' ⟨rfl, n, os, rfl⟩
      refine ⟨ρ, _, fun _ _ => rfl, rfl, undef_rel, ?_⟩
      have hoff : (ρ 0).off = 0 := (hH.reg 0 true _ (rfl : Sx.look [(0, true, SO.arr (aInt xs))] 0 = _)).off0 rfl
      have hblk2 : (ρ 0).blk < (putRow (Value.int .i64) (Sort.ahead w n) (ρ 0).blk 0 (sortI xs).toArray).heap.size := by rw [size_putRow]; exact hblk
      have hHo2 : Holds (Value.int .i64) (Sort.ahead w n) (ρ 0).blk 0 xs.toArray := hHo
      refine hH.rewrite ?_ (by rw [hlen]; exact hcap) ?_ ?_ ?_ (fun h => by omega)
      · simp only [grow, Array.size_append, size_putRow]
        show w.heap.size ≤ w.heap.size + _
        omega
      · intro b hb hne
        show ((putRow (Value.int .i64) (Sort.ahead w n) (ρ 0).blk 0 (sortI xs).toArray).heap ++ os)[b]? = _
        rw [Array.getElem?_append_left (by rw [size_putRow]; exact hb)]
        simp only [putRow, mapBlock, Array.getElem?_modify]
        rw [if_neg (Ne.symm hne)]; rfl
      · intro j x hx
        have hj : j < (sortI xs).length := (List.getElem?_eq_some_iff.1 hx).1
        have e := cell?_putRow (Value.int .i64) (Sort.ahead w n) (ρ 0).blk 0 xs.toArray (sortI xs).toArray hHo2 (by simp) j (by simpa using hj)
        rw [show adr ρ 0 j = ⟨(ρ 0).blk, 0 + j, none⟩ from by simp [adr, hoff]]
        rw [cell?_grow _ _ _ hblk2, e]
        obtain ⟨_, rfl⟩ := List.getElem?_eq_some_iff.1 hx
        have hjj : (sortI xs)[j]? = some (sortI xs)[j] := List.getElem?_eq_getElem hj
        congr 2
        simp [hjj]
      · intro m hm
        rw [show adr ρ 0 m = ⟨(ρ 0).blk, 0 + m, none⟩ from by simp [adr, hoff]]
        rw [cell?_grow _ _ _ hblk2, frozen?_grow _ _ _ hblk2, frozen?_putRow]
        have hr := hroom m hm
        rw [show adr ρ 0 m = ⟨(ρ 0).blk, 0 + m, none⟩ from by simp [adr, hoff]] at hr
        refine ⟨?_, hr.2⟩
        by_cases hml : m < xs.length
        · exact ⟨_, cell?_putRow (Value.int .i64) (Sort.ahead w n) (ρ 0).blk 0 xs.toArray (sortI xs).toArray hHo2 (by simp) m (by simpa [hlen] using hml)⟩
        · rw [cell?_putRow_other _ _ _ _ _ _ (.inr (.inr (by simp; omega)))]
          exact hr.1

abbrev compI (xs : List Int) : List Int := Lib.compact xs

theorem compI_len (xs : List Int) : (compI xs).length ≤ xs.length := by
  simp only [compI, Lib.compact, Lib.compactUpTo, List.length_map]
  exact Nat.le_trans (List.length_filter_le _ _) (by simp)

theorem compact_t (xs : List Int) (h : xs.length ≤ 1000000) : Triple Try.prog 130 [.c (.s 0 0 xs.length 1)] [(0, true, .arr (aInt xs))] 1 (.c (.s 0 0 (compI xs).length 1)) [(0, true, .arr (aInt (compI xs)))] where
  enter := Try.call130
  h ρ w vals hv hH := by
    obtain ⟨a, rfl, hcap, ha, hcells, hroom⟩ := own_slice hv hH
    have hlen := compI_len xs
    rcases Nat.eq_zero_or_pos xs.length with h0 | hpos
    · have hx := List.length_eq_zero_iff.1 h0
      subst hx
      refine (Try.slices_Compact_int_empty a (ρ 0).cap w).mono ?_
      rintro e w' ⟨rfl, rfl⟩
      refine ⟨ρ, _, fun _ _ => rfl, rfl, ⟨a, rfl, by omega, fun hp => ?_⟩, ?_⟩
      · obtain ⟨h1, _⟩ := ha hp
        have hoff : (ρ 0).off = 0 := (hH.reg 0 true _ (rfl : Sx.look [(0, true, SO.arr (aInt []))] 0 = _)).off0 rfl
        rw [h1]; simp [adr, hoff]
      · exact hH
    · obtain ⟨rfl, hblk⟩ := ha (by omega)
      have hoff : (ρ 0).off = 0 := (hH.reg 0 true _ (rfl : Sx.look [(0, true, SO.arr (aInt xs))] 0 = _)).off0 rfl
      refine (Try.slices_Compact_int_cells (ρ 0).blk 0 xs.length (ρ 0).cap xs w (Nat.le_refl _) (by omega) hcap hcells (fun j hj => by
        have := (hroom j (by omega)).2
        simpa [adr, hoff] using this)).mono ?_
      rintro e w' ⟨rfl, q, rfl⟩
      rw [List.take_length]
      refine ⟨ρ, _, fun _ _ => rfl, rfl, ⟨_, rfl, by omega, fun _ => by simp [adr, hoff]⟩, ?_⟩
      have hvl : ((compI xs ++ List.replicate (xs.length - (compI xs).length) 0).map (Value.int .i64)).length = xs.length := by simp; omega
      have hcell := setCells_cell (w.drewN q) (ρ 0).blk 0 ((compI xs ++ List.replicate (xs.length - (compI xs).length) 0).map (Value.int .i64)) (fun j hj => by
        rw [hvl] at hj
        have := (hroom j (by omega)).1
        simpa [adr, hoff] using this)
      rw [setCells_kit]
      refine hH.rewrite ?_ (by omega) ?_ ?_ ?_ (fun h => by omega) (setCells_io _ _ _ _)
      · rw [setCells_size]; exact Nat.le_refl _
      · intro b hb hne
        rw [setCells_other _ _ _ _ hne]; rfl
      · intro j x hx
        have hj : j < (compI xs).length := (List.getElem?_eq_some_iff.1 hx).1
        rw [show adr ρ 0 j = ⟨(ρ 0).blk, j, none⟩ from by simp [adr, hoff], hcell, if_pos ⟨by omega, by omega⟩]
        simp only [Nat.sub_zero, List.getElem?_map]
        rw [List.getElem?_append_left hj, hx]; rfl
      · intro m hm
        rw [show adr ρ 0 m = ⟨(ρ 0).blk, m, none⟩ from by simp [adr, hoff]]
        have hr := hroom m hm
        rw [show adr ρ 0 m = ⟨(ρ 0).blk, m, none⟩ from by simp [adr, hoff]] at hr
        refine ⟨?_, by rw [setCells_frozen]; exact hr.2⟩
        rw [hcell]
        by_cases hml : m < xs.length
        · rw [if_pos ⟨by omega, by omega⟩]
          exact ⟨_, List.getElem?_eq_getElem (by rw [hvl]; omega)⟩
        · rw [if_neg (by omega)]; exact hr.1

end Go.Proofs

namespace Go
namespace Sx

/-! ### clear of a slice: what was cleared is forgotten -/

theorem cut_arr {cx : Cx} {ρ : Asg} {s : St} {a : Act} {w : World} {k st : Nat} {A : Arr} {vs : List Value} (hs : Sat cx ρ s a w) (hl : look s.H k = some (true, .arr A))
    (hst : st ≤ A.xs.length) (hle : st * A.sz + vs.length ≤ A.xs.length * A.sz) (h1 : ∀ v ∈ vs, (∀ xs, v ≠ .agg xs) ∧ (∀ xs, v ≠ .tuple xs)) :
    (∀ P, (storeCells (adr ρ k (st * A.sz)) vs 0).run P w = .ok () (setCells w (ρ k).blk (st * A.sz) vs)) ∧
    Sat cx ρ { s with H := (k, true, .arr (A.setXs (A.xs.take st))) :: s.H } a (setCells w (ρ k).blk (st * A.sz) vs) := by
  have hso := hs.heap.reg k true _ hl
  have hoff := hso.off0 rfl
  have hwf := hso.wf
  simp only [SO.wf] at hwf
  have hroom := fun n hn => hso.room rfl (by simp) n hn
  simp only [SO.room] at hroom
  have hm1 : A.xs.length * A.sz ≤ (ρ k).cap * A.sz := Nat.mul_le_mul_right _ (by omega)
  have hadr : adr ρ k (st * A.sz) = ⟨(ρ k).blk, st * A.sz, none⟩ := by simp [adr, hoff]
  refine ⟨fun P => ?_, ?_⟩
  · rw [hadr]
    have := run_storeCells (P := P) (b := (ρ k).blk) (n := st * A.sz) vs 0 w (fun j hj => by
      have := hroom (st * A.sz + j) (by omega)
      simp only [adr, hoff, Nat.zero_add] at this
      simpa using this) h1
    simpa using this
  have hvs : (ρ k).cap * A.sz = 0 → vs = [] := fun h0 => List.length_eq_zero_iff.1 (by omega)
  have hdj : ∀ j own' p, look s.H j = some (own', p) → j ≠ k → 0 < p.room (ρ j) → 0 < (ρ k).cap * A.sz → (ρ j).blk ≠ (ρ k).blk := fun j own' p hj hjk hpr hr =>
    Ne.symm (hs.heap.apart k j _ own' p (Ne.symm hjk) hl hj (by simpa [SO.room] using hr) hpr)
  have hcell : ∀ n, (setCells w (ρ k).blk (st * A.sz) vs).cell? (adr ρ k n) = if st * A.sz ≤ n ∧ n < st * A.sz + vs.length then vs[n - st * A.sz]? else w.cell? (adr ρ k n) := by
    intro n
    have := setCells_cell w (ρ k).blk (st * A.sz) vs (fun j hj => by
      have := (hroom (st * A.sz + j) (by omega)).1
      simpa [adr, hoff] using this) n
    simpa [adr, hoff] using this
  have hnew : SatO ρ (setCells w (ρ k).blk (st * A.sz) vs) k true (.arr (A.setXs (A.xs.take st))) := by
    refine ⟨?_, ?_, ?_, fun _ => hoff, fun _ h => by cases h⟩
    · simp only [SO.wf, Arr.setXs, List.length_take]; omega
    · intro i j c hc
      rw [setXs_cell] at hc
      show ∃ v, (setCells w (ρ k).blk (st * A.sz) vs).cell? (adr ρ k (i * A.sz + j)) = some v ∧ _
      cases hx : (A.xs.take st)[i]? with
      | none => simp [hx] at hc
      | some x =>
        simp only [hx, Option.bind_some] at hc
        have hj : j < A.sz := by have := (List.getElem?_eq_some_iff.1 hc).1; rwa [A.hl] at this
        have hi : i < st := by have := (List.getElem?_eq_some_iff.1 hx).1; rw [List.length_take] at this; omega
        rw [List.getElem?_take, if_pos hi] at hx
        have := Nat.mul_le_mul_right A.sz (show i + 1 ≤ st from hi)
        rw [Nat.add_mul] at this
        rw [hcell, if_neg (by omega)]
        exact hso.at_ i j c (by simp only [SO.cell?, hx]; exact hc)
    · intro _ _ n hn
      have hn : n < (ρ k).cap * A.sz := by simpa [SO.room, Arr.setXs] using hn
      have := hroom n hn
      rw [hcell]
      refine ⟨?_, by rw [setCells_frozen]; exact this.2⟩
      by_cases hin : st * A.sz ≤ n ∧ n < st * A.sz + vs.length
      · rw [if_pos hin]; exact ⟨vs[n - st * A.sz]'(by omega), by rw [List.getElem?_eq_getElem]⟩
      · rw [if_neg hin]; exact this.1
  have hr2 : (SO.arr (A.setXs (A.xs.take st))).room (ρ k) = (ρ k).cap * A.sz := rfl
  exact { size := hs.size, defers := hs.defers, env := hs.env
          heap := hs.heap.cons (fun j own q _ _ => ⟨rfl, fun _ _ => rfl⟩) (by rw [setCells_size]; exact Nat.le_refl _)
            (by
              by_cases hr : 0 < (ρ k).cap * A.sz
              · exact hs.heap.frmSet hl (by simpa [SO.room] using hr) _ _
              · rw [hvs (by omega)]; exact hs.heap.frm)
            (fun b _ hb => setCells_other _ _ _ _ hb)
            (fun j own' q hj hjk hq hr => hdj j own' q hj hjk hq (by rwa [hr2] at hr))
            (fun j own' q hj hjk hq => by
              by_cases hr : 0 < (ρ k).cap * A.sz
              · exact setCells_other _ _ _ _ (hdj j own' q hj hjk hq hr)
              · rw [hvs (by omega)]; rfl)
            hnew (fun _ hr => hs.heap.fresh k _ hl (by rw [hr2] at hr; simpa [SO.room] using hr))
            (fun hr => by rw [setCells_size]; exact hs.heap.valid k true _ hl (by rw [hr2] at hr; simpa [SO.room] using hr))
          bnd := hs.bnd.cons (hs.bnd.heap k true _ hl).1 (fun j hj => (hs.bnd.heap k true _ hl).2 j hj), base := hs.base, keep := hs.keep, n0 := hs.n0 }

def clearK (B : Tabs) (t : TypeId) (x : SV) (H : Heap) (K : Eff → Prop) : Prop :=
  match lookT B.T t, x with
  | some ⟨.slice el, _, _, _⟩, .c (.s k st len sz) => (match lookT B.T el with
    | some ti => bif Nat.beq ti.size sz && Nat.ble 1 sz && allOne (ti.zero.map cC) then (match look H k with
      | some (true, .arr A) => (sz = A.sz ∧ st + len ≤ A.xs.length) ∧ K ⟨.tup [], [k], [(k, true, .arr (A.setXs (A.xs.take st)))], []⟩
      | _ => False) else False
    | none => False)
  | _, _ => False

theorem zeroCells_one {z : Array Value} {n : Nat} (h : ∀ v ∈ z.toList, (∀ xs, v ≠ .agg xs) ∧ (∀ xs, v ≠ .tuple xs)) (hz : 0 < z.size) :
    ∀ v ∈ (Builtin.zeroCells z n).toList, (∀ xs, v ≠ .agg xs) ∧ (∀ xs, v ≠ .tuple xs) := by
  intro v hv
  simp only [Builtin.zeroCells, Array.toList_map, List.mem_map] at hv
  obtain ⟨i, _, rfl⟩ := hv
  have hm : i % z.size < z.size := Nat.mod_lt _ hz
  rw [getElem!_pos z _ hm]
  exact h _ (by simp)

theorem clear_step {cx : Cx} {B : Tabs} (hB : TabsOK cx.P B) {o : Oper} {e : Env} {H : Heap} {nx : Nat} {K : Eff → Prop} {c : Call} {x : Operand} {t : TypeId}
    (ho : o.op = .call c) (hc : c.callee = .builtin .clear) (hca : c.args = #[x]) (hct : c.argTypes = #[t])
    (h : clearK B t (ev e x) H K) : ∃ F, CallOK cx o e H nx F ∧ K F := by
  have hx : x ∈ o.op.operands.toList := by simp [ho, Op.operands, Call.operands, hc, hca]
  unfold clearK at h
  split at h
  · rename_i el s0 b0 z0 k st len sz ht hex
    split at h
    · rename_i ti hti
      obtain ⟨hb, h⟩ := bif_and h
      simp only [Bool.and_eq_true] at hb
      obtain ⟨⟨hb1, hb2⟩, hb3⟩ := hb
      have hb1 := Nat.eq_of_beq_eq_true hb1
      have hb2 := Nat.le_of_ble_eq_true hb2
      split at h
      · rename_i A hlk
        obtain ⟨⟨hsz, hle⟩, hK⟩ := h
        refine ⟨_, ⟨?_, fun j hj => by cases hj⟩, hK⟩
        intro ρ s a w hs hr hk _ hdst KK Q hKK
        have hl1 : look s.H k = some (true, .arr A) := by rw [hk k (by simp)]; exact hlk
        have hx1 := reads_fit hx (fun t ht => by rw [← hr t ht]; exact hs.env t)
        rw [hex] at hx1
        simp only [SV.rel, SC.rel] at hx1
        obtain ⟨ad, hxv, hcap, had⟩ := hx1
        obtain ⟨i, z, hi, hz, hisz, hiby, hzz⟩ := ti_parts hB hti
        have hzs : z.cells.size = A.sz := by
          have := congrArg List.length hzz
          rw [hB.zsz el ti hti, hb1, hsz] at this
          simpa using this
        have hone : ∀ v ∈ z.cells.toList, (∀ xs, v ≠ .agg xs) ∧ (∀ xs, v ≠ .tuple xs) := by
          intro v hv
          rw [hzz] at hv
          have := allOne_mem hb3 (List.mem_map_of_mem hv)
          exact (one_cells (ρ := ρ) this (cC_rel ρ v)).2
        have hvl : (Builtin.zeroCells z.cells len).toList.length = len * A.sz := by simp [Builtin.zeroCells, hzs]
        have hmul : st * A.sz + len * A.sz ≤ A.xs.length * A.sz := by rw [← Nat.add_mul]; exact Nat.mul_le_mul_right _ hle
        obtain ⟨hst, hsat⟩ := cut_arr (st := st) (vs := (Builtin.zeroCells z.cells len).toList) hs hl1 (by omega) (by rw [hvl]; exact hmul) (zeroCells_one hone (by omega))
        have hrun : (execOp a.eval o).run cx.P w = .ok (.value (.tuple #[])) (setCells w (ρ k).blk (st * A.sz) (Builtin.zeroCells z.cells len).toList) := by
          have hrun0 := run_builtin (P := cx.P) ho hc a w
          rw [hca, hct] at hrun0
          rw [hrun0]
          have hzv : (zeroValue el).run cx.P w = .ok z w := by simp [zeroValue, typeInfo, hi, hz]
          simp only [List.map_toArray, List.map_cons, List.map_nil, builtin, Builtin.clear_, hxv]
          rcases Nat.eq_zero_or_pos len with h0 | hpos
          · subst h0
            have e0 : (Builtin.zeroCells z.cells 0).toList = [] := by simp [Builtin.zeroCells]
            rw [e0]
            cases ad <;> simp [run_underlying (und_slice hB ht), setCells]
          · rw [had (by omega), hsz]
            obtain ⟨l', rfl⟩ : ∃ l', len = l' + 1 := ⟨len - 1, by omega⟩
            simp [run_underlying (und_slice hB ht), hzv, hst]
        refine wpIn_of_value (by simp [ho]) hrun (hKK ρ _ _ ?_ (fun _ _ => rfl))
        exact hsat.putO hdst undef_rel undef_below
      · exact h.elim
    · exact h.elim
  · exact h.elim

end Sx
end Go

namespace Go.Proofs
open Go.Sx

def idsP (ls : List Lnk) : List Int := (ls.filter fun l => decide (0 < l.i)).map (·.i)
def idsF (ls : List Lnk) : List Int := compI (sortI (idsP ls))

theorem idsP_len (ls : List Lnk) : (idsP ls).length ≤ ls.length := by
  unfold idsP; rw [List.length_map]; exact List.length_filter_le _ _

theorem idsP_take {ls : List Lnk} {i : Nat} (h : i < ls.length) : idsP (ls.take (i + 1)) = idsP (ls.take i) ++ (if decide (0 < ls[i].i) then [ls[i].i] else []) := by
  unfold idsP
  rw [filter_take_succ h, List.map_append]
  by_cases hc : 0 < ls[i].i <;> simp [hc]

theorem ids_t (ls : List Lnk) (h : ls.length ≤ 100000) : Triple Try.prog 85 [.c (.s 0 0 ls.length 4)] [(0, false, .arr (aLink ls))] 1 (.c (.s 1 0 (idsF ls).length 1)) [(1, true, .arr (aInt (idsF ls)))] := by
  refine triple_of tB_ok Try.func85 rfl Try.call85 rfl ?_
  intro ρ w hH
  conv => whnf
  have hp := idsP_len
  refine loop_step tB_ok (G := Nat) 1 [] (fun i => [(8, iv .i64 i), (3, .c (.s 1 0 (idsP (ls.take i)).length 1))]) (fun i => [(1, true, .arr (aInt (idsP (ls.take i))))]) (fun i => i ≤ ls.length) (fun i => ls.length - i) ?_
  conv => whnf
  refine ⟨⟨0, Nat.zero_le _, ?_⟩, ?_⟩
  · conv => whnf
    repeat' (first | exact trivial | exact rfl | refine And.intro ?_ ?_ | ((conv => whnf); first | exact trivial | exact rfl | refine And.intro ?_ ?_ | omega))
  intro i hi ρ1 t1 hρ1
  conv => whnf
  have hpi : (idsP (ls.take i)).length ≤ 100000 := by have := hp (ls.take i); rw [List.length_take] at this; omega
  refine ⟨fun hc => ?_, fun hc => ?_⟩
  · have hc : i < ls.length := by simpa using hc
    have hlt := hc
    have e := idsP_take hc
    conv => whnf
    refine ⟨i, rfl, hc, hc, ?_⟩
    conv => whnf
    refine ⟨fun hc => ?_, fun hc => ?_⟩
    · have hc : 0 < ls[i].i := by simpa using (show decide (0 < ls[i].i) = true from hc)
      rw [if_pos (by simpa using hc)] at e
      conv => whnf
      refine bs_step tB_ok (aInt [ls[i].i]) rfl rfl ?_
      conv => whnf
      refine ⟨⟨rfl, rfl, trivial⟩, ?_⟩
      conv => whnf
      refine app_step tB_ok (aInt (idsP (ls.take i))) [ls[i].i] (fun _ => rfl) rfl rfl rfl rfl ?_
      conv => whnf
      refine ⟨⟨rfl, rfl, Nat.le_refl _, Nat.le_refl _, by show ((idsP (ls.take i)).length + 1) * 9 ≤ _; omega⟩, ?_⟩
      conv => whnf
      refine ⟨_, wrapId ⟨by omega, by omega⟩, ?_⟩
      refine ⟨i + 1, hlt, by show ls.length - (i + 1) < ls.length - i; omega, ?_⟩
      conv => whnf
      refine ⟨rfl, ?_⟩
      conv => whnf
      repeat' (first | exact trivial | exact rfl | refine And.intro ?_ ?_ | ((conv => whnf); first | exact trivial | exact rfl | refine And.intro ?_ ?_ | omega))
      · rw [e]; simp
      · exact congrArg aInt (app1.trans e.symm)
    · have hc : ¬ 0 < ls[i].i := by simpa using (show decide (0 < ls[i].i) = false from hc)
      rw [if_neg (by simpa using hc), List.append_nil] at e
      conv => whnf
      refine ⟨_, wrapId ⟨by omega, by omega⟩, ?_⟩
      refine ⟨i + 1, hlt, by show ls.length - (i + 1) < ls.length - i; omega, ?_⟩
      conv => whnf
      refine ⟨rfl, ?_⟩
      conv => whnf
      repeat' (first | exact trivial | exact rfl | refine And.intro ?_ ?_ | ((conv => whnf); first | exact trivial | exact rfl | refine And.intro ?_ ?_ | omega))
      · rw [e]
      · exact congrArg aInt e.symm
  · have hi2 : i = ls.length := by simp at hc; omega
    subst hi2
    rw [List.take_length] at hpi
    have et : ls.take ls.length = ls := List.take_length
    conv => whnf
    refine call_step (sort_t (idsP (ls.take ls.length)) (by rw [et]; omega)) rfl rfl ?_
    conv => whnf
    refine ⟨(by repeat' (first | exact trivial | exact rfl | refine And.intro ?_ ?_ | ((conv => whnf); first | exact trivial | exact rfl | refine And.intro ?_ ?_ | omega))), (by repeat' (first | exact trivial | exact rfl | refine And.intro ?_ ?_ | ((conv => whnf); first | exact trivial | exact rfl | refine And.intro ?_ ?_ | omega))), ?_⟩
    conv => whnf
    have hs : (sortI (idsP (ls.take ls.length))).length = (idsP (ls.take ls.length)).length := List.length_mergeSort _
    have ct := compact_t (sortI (idsP (ls.take ls.length))) (by rw [hs, et]; omega)
    rw [hs] at ct
    refine call_step ct rfl rfl ?_
    conv => whnf
    refine ⟨(by repeat' (first | exact trivial | exact rfl | refine And.intro ?_ ?_ | ((conv => whnf); first | exact trivial | exact rfl | refine And.intro ?_ ?_ | omega))), (by repeat' (first | exact trivial | exact rfl | refine And.intro ?_ ?_ | ((conv => whnf); first | exact trivial | exact rfl | refine And.intro ?_ ?_ | omega))), ?_⟩
    conv => whnf
    have eF : compI (sortI (idsP (ls.take ls.length))) = idsF ls := by rw [et]; rfl
    repeat' (first | exact trivial | exact rfl | refine And.intro ?_ ?_ | ((conv => whnf); first | exact trivial | exact rfl | refine And.intro ?_ ?_ | omega))
    · rw [eF]
    · exact congrArg aInt eF

end Go.Proofs

namespace Go.Proofs
open Go.Sx

theorem needs1_t (bs : List (Int × Int)) (ls : List Lnk) (a b now id : Int) (hs : SysOK bs ls) (ha : a < bs.length) (hb : b < bs.length) :
    Triple Try.prog 86 [iv .i64 id, .c (.p 1 0 0 0), .c (.p 2 0 0 0), .c (.p 3 0 0 0), .c (.p 4 0 0 0)]
      [(1, false, .cells [.p 5 0 0 0]), (2, false, .cells [.v (.int .i64 a)]), (3, false, .cells [.v (.int .i64 b)]), (4, false, .cells [.v (.int .i64 now)]), (5, false, netC 6 7 bs.length ls.length), (6, false, .arr (aSpan bs)), (7, false, .arr (aLink ls))] 8
      (bv (decide (mostF bs.length (graphF bs ls id) a b ≤ now))) [] := by
  refine triple_of tB_ok Try.func86 rfl Try.call86 rfl ?_
  intro ρ w hH
  conv => whnf
  have hnb := hs.nb
  have hnl := hs.nl
  have hgl := graphF_len hs id
  refine call_step (graphOf_t bs ls id (by omega) hs.boxB (by omega)) rfl rfl ?_
  conv => whnf
  refine ⟨(by repeat' (first | exact trivial | exact rfl | refine And.intro ?_ ?_ | ((conv => whnf); first | exact trivial | exact rfl | refine And.intro ?_ ?_ | omega))), (by repeat' (first | exact trivial | exact rfl | refine And.intro ?_ ?_ | ((conv => whnf); first | exact trivial | exact rfl | refine And.intro ?_ ?_ | omega))), ?_⟩
  conv => whnf
  refine call_step (most_t bs.length (graphF bs ls id) a b (by omega) (by omega) (graphF_ok hs id) ha hb) rfl rfl ?_
  conv => whnf
  refine ⟨(by repeat' (first | exact trivial | exact rfl | refine And.intro ?_ ?_ | ((conv => whnf); first | exact trivial | exact rfl | refine And.intro ?_ ?_ | omega))), (by repeat' (first | exact trivial | exact rfl | refine And.intro ?_ ?_ | ((conv => whnf); first | exact trivial | exact rfl | refine And.intro ?_ ?_ | omega))), ?_⟩
  conv => whnf
  repeat' (first | exact trivial | exact rfl | refine And.intro ?_ ?_ | ((conv => whnf); first | exact trivial | exact rfl | refine And.intro ?_ ?_ | omega))

abbrev hxNeeds (bs : List (Int × Int)) (ls : List Lnk) (a b now : Int) : Heap := [(1, false, .cells [.p 5 0 0 0]), (2, false, .cells [.v (.int .i64 a)]), (3, false, .cells [.v (.int .i64 b)]), (4, false, .cells [.v (.int .i64 now)]), (5, false, netC 6 7 bs.length ls.length), (6, false, .arr (aSpan bs)), (7, false, .arr (aLink ls))]
theorem indexNeeds_t
    (bs : List (Int × Int)) (ls : List Lnk) (a b now : Int) (hs : SysOK bs ls) (ha : a < bs.length) (hb : b < bs.length)
    (xs : List Int) (hx : xs.length ≤ 100000) :
    Triple Try.prog 128 [.c (.s 0 0 xs.length 1), .c (.f 86 [1, 2, 3, 4])]
      ((0, false, .arr (aInt xs)) :: hxNeeds bs ls a b now)
      8 (iv .i64 (idxF (fun id => decide (mostF bs.length (graphF bs ls id) a b ≤ now)) 0 xs)) [] := by
  refine triple_of tB_ok Try.func128 rfl Try.call128 rfl ?_
  intro ρ w hH
  conv => whnf
  refine loop_step tB_ok (G := Nat) 0 [] (fun i => [(8, iv .i64 i)]) (fun i => []) (fun i => i ≤ xs.length ∧ ∀ x ∈ xs.take i, (fun id => decide (mostF bs.length (graphF bs ls id) a b ≤ now)) x = false) (fun i => xs.length - i) ?_
  conv => whnf
  refine ⟨⟨0, ⟨Nat.zero_le _, by simp⟩, ?_⟩, ?_⟩
  · conv => whnf
    repeat' (first | exact trivial | exact rfl | refine And.intro ?_ ?_ | ((conv => whnf); first | exact trivial | exact rfl | refine And.intro ?_ ?_ | omega))
  intro i hi ρ1 t1 hρ1
  obtain ⟨hi, hn⟩ := hi
  conv => whnf
  refine ⟨fun hc => ?_, fun hc => ?_⟩
  · have hc : i < xs.length := by simpa using hc
    have hlt := hc
    conv => whnf
    refine ⟨i, rfl, hc, hc, ?_⟩
    conv => whnf
    refine call_step (needs1_t bs ls a b now xs[i] hs ha hb) rfl rfl ?_
    conv => whnf
    refine ⟨(by repeat' (first | exact trivial | exact rfl | refine And.intro ?_ ?_ | ((conv => whnf); first | exact trivial | exact rfl | refine And.intro ?_ ?_ | omega))), (by repeat' (first | exact trivial | exact rfl | refine And.intro ?_ ?_ | ((conv => whnf); first | exact trivial | exact rfl | refine And.intro ?_ ?_ | omega))), ?_⟩
    conv => whnf
    refine ⟨fun hc => ?_, fun hc => ?_⟩
    · conv => whnf
      refine ⟨?_, trivial⟩
      show (i : Int) = idxF (fun id => decide (mostF bs.length (graphF bs ls id) a b ≤ now)) 0 xs
      rw [idxF_at (k := i) hlt hn hc, Nat.zero_add]
    · conv => whnf
      refine ⟨_, wrapId ⟨by omega, by omega⟩, ?_⟩
      refine ⟨i + 1, ⟨by omega, ?_⟩, by show xs.length - (i + 1) < xs.length - i; omega, ?_⟩
      · intro x hxx
        rw [take_snoc hlt] at hxx
        rcases List.mem_append.1 hxx with hxx | hxx
        · exact hn x hxx
        · simp only [List.mem_singleton] at hxx; rw [hxx]; exact hc
      conv => whnf
      refine ⟨rfl, ?_⟩
      conv => whnf
      repeat' (first | exact trivial | exact rfl | refine And.intro ?_ ?_ | ((conv => whnf); first | exact trivial | exact rfl | refine And.intro ?_ ?_ | omega))
  · have hi2 : i = xs.length := by simp at hc; omega
    subst hi2
    rw [List.take_length] at hn
    conv => whnf
    refine ⟨?_, trivial⟩
    show (-1 : Int) = idxF (fun id => decide (mostF bs.length (graphF bs ls id) a b ≤ now)) 0 xs
    rw [idxF_none hn]

theorem deleteNeeds_t
    (bs : List (Int × Int)) (ls : List Lnk) (a b now : Int) (hs : SysOK bs ls) (ha : a < bs.length) (hb : b < bs.length)
    (xs : List Int) (hx : xs.length ≤ 100000) :
    Triple Try.prog 84 [.c (.s 0 0 xs.length 1), .c (.f 86 [1, 2, 3, 4])]
      ((0, true, .arr (aInt xs)) :: hxNeeds bs ls a b now)
      8 (.c (.s 0 0 (xs.filter fun x => !(fun id => decide (mostF bs.length (graphF bs ls id) a b ≤ now)) x).length 1)) [(0, true, .arr (aInt (xs.filter fun x => !(fun id => decide (mostF bs.length (graphF bs ls id) a b ≤ now)) x)))] := by
  refine triple_of tB_ok Try.func84 rfl Try.call84 rfl ?_
  intro ρ w hH
  conv => whnf
  refine call_step (indexNeeds_t bs ls a b now hs ha hb xs hx) rfl rfl ?_
  conv => whnf
  refine ⟨(by repeat' (first | exact trivial | exact rfl | refine And.intro ?_ ?_ | ((conv => whnf); first | exact trivial | exact rfl | refine And.intro ?_ ?_ | omega))), (by repeat' (first | exact trivial | exact rfl | refine And.intro ?_ ?_ | ((conv => whnf); first | exact trivial | exact rfl | refine And.intro ?_ ?_ | omega))), ?_⟩
  generalize hp : (fun id => decide (mostF bs.length (graphF bs ls id) a b ≤ now)) = p
  have hdel : ∀ x, (fun id => decide (mostF bs.length (graphF bs ls id) a b ≤ now)) x = p x := fun x => by rw [hp]
  rcases idxF_cases p xs with ⟨hi, hn⟩ | ⟨k, hk, hi, hn, hpk⟩
  · rw [hi]
    conv => whnf
    refine ⟨fun hc => ?_, fun hc => ?_⟩
    · conv => whnf
      have e : (xs.filter fun x => !p x) = xs := List.filter_eq_self.2 fun x hx => by rw [hn x hx]; rfl
      rw [e]
      repeat' (first | exact trivial | exact rfl | refine And.intro ?_ ?_ | ((conv => whnf); first | exact trivial | exact rfl | refine And.intro ?_ ?_ | omega))
    · simp at hc
  rw [hi]
  conv => whnf
  refine ⟨fun hc => ?_, fun hc => ?_⟩
  · exact absurd hc (by simp)
  conv => whnf
  refine ⟨_, wrapId ⟨by omega, by omega⟩, ?_⟩
  have hst := delC_start hk hn hpk
  have hkl : (xs.take k).length = k := by simp; omega
  refine loop_step tB_ok (G := Nat × Nat × List Int) 0 [] (fun g => [(6, iv .i64 g.1), (5, iv .i64 g.2.1)]) (fun g => [(0, true, .arr (aInt g.2.2))]) (fun g => (k < g.1 ∧ g.1 ≤ xs.length ∧ g.2.1 < g.1) ∧ g.2.1 = (delL p xs g.1).length ∧ g.2.2 = delC p xs g.1) (fun g => xs.length - g.1) ?_
  conv => whnf
  refine ⟨⟨(k + 1, k, xs), ⟨⟨Nat.lt_succ_self k, hk, Nat.lt_succ_self k⟩, by rw [hst.1, hkl], hst.2.symm⟩, ?_⟩, ?_⟩
  · conv => whnf
    repeat' (first | exact trivial | exact rfl | refine And.intro ?_ ?_ | ((conv => whnf); first | exact trivial | exact rfl | refine And.intro ?_ ?_ | omega))
  rintro ⟨j, k2, C⟩ ⟨⟨hj1, hj2, hj3⟩, hk2e, hCe⟩ ρ1 t1 hρ1
  have hj1 : k < j := hj1
  have hj2 : j ≤ xs.length := hj2
  have hj3 : k2 < j := hj3
  have hk2e : k2 = (delL p xs j).length := hk2e
  have hCe : C = delC p xs j := hCe
  have hCl : C.length = xs.length := by rw [hCe]; exact delC_length p xs j hj2
  have hno : ∀ (h : j < xs.length), p xs[j] = false → k2 + 1 = (delL p xs (j + 1)).length ∧ C.set k2 xs[j] = delC p xs (j + 1) := fun h hp =>
    ⟨by rw [delL_no h hp, hk2e]; simp, by rw [hk2e, hCe]; exact delC_no h hp⟩
  have hyes : ∀ (h : j < xs.length), p xs[j] = true → k2 = (delL p xs (j + 1)).length ∧ C = delC p xs (j + 1) := fun h hp =>
    ⟨by rw [delL_yes h hp]; exact hk2e, by rw [hCe]; exact (delC_yes h hp).symm⟩
  have hgt : ∀ i, j ≤ i → C[i]? = xs[i]? := fun i hi => by rw [hCe]; exact delC_get p xs j i (by omega)
  have hend : j = xs.length → C.take k2 = xs.filter fun x => !p x := fun h => by rw [hCe, hk2e, h]; exact delC_end p xs
  clear hk2e hCe
  conv => whnf
  refine ⟨fun hc => ?_, fun hc => ?_⟩
  · have hc : j < xs.length := by simpa using hc
    have hlt := hc
    have hcl : j < C.length := by omega
    have hget : C[j] = xs[j] := by
      have := hgt j (by omega)
      rw [List.getElem?_eq_getElem hcl, List.getElem?_eq_getElem hlt] at this
      exact Option.some.inj this
    have hpv : (fun id => decide (mostF bs.length (graphF bs ls id) a b ≤ now)) C[j] = p xs[j] := by rw [hdel, hget]
    have hkl2 : k2 < C.length := by omega
    refine ⟨j, rfl, hc, hcl, ?_⟩
    conv => whnf
    refine call_step (needs1_t bs ls a b now C[j] hs ha hb) rfl rfl ?_
    conv => whnf
    refine ⟨(by repeat' (first | exact trivial | exact rfl | refine And.intro ?_ ?_ | ((conv => whnf); first | exact trivial | exact rfl | refine And.intro ?_ ?_ | omega))), (by repeat' (first | exact trivial | exact rfl | refine And.intro ?_ ?_ | ((conv => whnf); first | exact trivial | exact rfl | refine And.intro ?_ ?_ | omega))), ?_⟩
    conv => whnf
    refine ⟨fun hc => ?_, fun hc => ?_⟩
    · have hpj : p xs[j] = false := by rw [← hpv]; simpa using hc
      obtain ⟨hl1, e2⟩ := hno hlt hpj
      conv => whnf
      refine ⟨k2, rfl, by omega, hkl2, C[j], rfl, ?_⟩
      conv => whnf
      refine ⟨_, wrapId ⟨by omega, by omega⟩, ?_⟩
      conv => whnf
      refine ⟨_, wrapId ⟨by omega, by omega⟩, ?_⟩
      refine ⟨(j + 1, k2 + 1, C.set k2 C[j]), ⟨⟨by show k < j + 1; omega, hlt, by show k2 + 1 < j + 1; omega⟩, hl1, ?_⟩, by show xs.length - (j + 1) < xs.length - j; omega, ?_⟩
      · rw [hget]; exact e2
      conv => whnf
      refine ⟨rfl, ?_⟩
      conv => whnf
      repeat' (first | exact trivial | exact rfl | refine And.intro ?_ ?_ | ((conv => whnf); first | exact trivial | exact rfl | refine And.intro ?_ ?_ | omega))
    · have hpj : p xs[j] = true := by rw [← hpv]; simpa using hc
      obtain ⟨hl1, e2⟩ := hyes hlt hpj
      conv => whnf
      refine ⟨_, wrapId ⟨by omega, by omega⟩, ?_⟩
      refine ⟨(j + 1, k2, C), ⟨⟨by show k < j + 1; omega, hlt, by show k2 < j + 1; omega⟩, hl1, e2⟩, by show xs.length - (j + 1) < xs.length - j; omega, ?_⟩
      conv => whnf
      refine ⟨rfl, ?_⟩
      conv => whnf
      repeat' (first | exact trivial | exact rfl | refine And.intro ?_ ?_ | ((conv => whnf); first | exact trivial | exact rfl | refine And.intro ?_ ?_ | omega))
  · have hj4 : j = xs.length := by simp at hc; omega
    have he := hend hj4
    have hfl : (xs.filter fun x => !p x).length = k2 := by rw [← he, List.length_take]; omega
    conv => whnf
    refine ⟨Nat.le_refl _, k2, rfl, by omega, ?_⟩
    conv => whnf
    refine clear_step tB_ok rfl rfl rfl rfl ?_
    conv => whnf
    refine ⟨⟨rfl, ?_⟩, ?_⟩
    · show addN 0 _ + subN xs.length _ ≤ C.length
      rw [addN_eq, subN_eq]; omega
    conv => whnf
    refine ⟨k2, rfl, by omega, ?_⟩
    conv => whnf
    refine ⟨Nat.zero_le _, ?_⟩
    conv => whnf
    repeat' (first | exact trivial | exact rfl | refine And.intro ?_ ?_ | ((conv => whnf); first | exact trivial | exact rfl | refine And.intro ?_ ?_ | omega))
    · rw [subN_eq]; omega
    · rw [addN_eq, Nat.zero_add]; exact congrArg aInt he

theorem needs_t (bs : List (Int × Int)) (ls : List Lnk) (a b : Int) (hs : SysOK bs ls) (ha : a < bs.length) (hb : b < bs.length) (hpa : withinF a (-1) (bs.length - 1) = true) (hpb : withinF b (-1) (bs.length - 1) = true) :
    Triple Try.prog 23 [.c (.p 0 0 0 0), iv .i64 a, iv .i64 b] (netH bs ls) 3 (.tup [.inl (.s 3 0 ((idsF ls).filter fun id => !decide (mostF bs.length (graphF bs ls id) a b ≤ mostF bs.length (graphF bs ls 0) a b)).length 1), .inl (.v (.int .i64 0))])
      [(3, true, .arr (aInt ((idsF ls).filter fun id => !decide (mostF bs.length (graphF bs ls id) a b ≤ mostF bs.length (graphF bs ls 0) a b))))] := by
  refine triple_of tB_ok Try.func23 rfl Try.call23 rfl ?_
  intro ρ w hH
  conv => whnf
  have hnb := hs.nb
  have hnl := hs.nl
  have hgl := graphF_len hs 0
  refine call_step (isPlace_t bs ls a (by omega)) rfl rfl ?_
  conv => whnf
  refine ⟨(by repeat' (first | exact trivial | exact rfl | refine And.intro ?_ ?_ | ((conv => whnf); first | exact trivial | exact rfl | refine And.intro ?_ ?_ | omega))), (by repeat' (first | exact trivial | exact rfl | refine And.intro ?_ ?_ | ((conv => whnf); first | exact trivial | exact rfl | refine And.intro ?_ ?_ | omega))), ?_⟩
  conv => whnf
  rw [hpa]
  refine ⟨fun hc => ?_, fun hc => ?_⟩
  · cases hc
  conv => whnf
  refine call_step (isPlace_t bs ls b (by omega)) rfl rfl ?_
  conv => whnf
  refine ⟨(by repeat' (first | exact trivial | exact rfl | refine And.intro ?_ ?_ | ((conv => whnf); first | exact trivial | exact rfl | refine And.intro ?_ ?_ | omega))), (by repeat' (first | exact trivial | exact rfl | refine And.intro ?_ ?_ | ((conv => whnf); first | exact trivial | exact rfl | refine And.intro ?_ ?_ | omega))), ?_⟩
  conv => whnf
  rw [hpb]
  refine ⟨fun hc => ?_, fun hc => ?_⟩
  · cases hc
  conv => whnf
  refine call_step (graphOf_t bs ls 0 (by omega) hs.boxB (by omega)) rfl rfl ?_
  conv => whnf
  refine ⟨(by repeat' (first | exact trivial | exact rfl | refine And.intro ?_ ?_ | ((conv => whnf); first | exact trivial | exact rfl | refine And.intro ?_ ?_ | omega))), (by repeat' (first | exact trivial | exact rfl | refine And.intro ?_ ?_ | ((conv => whnf); first | exact trivial | exact rfl | refine And.intro ?_ ?_ | omega))), ?_⟩
  conv => whnf
  refine call_step (most_t bs.length (graphF bs ls 0) a b (by omega) (by omega) (graphF_ok hs 0) ha hb) rfl rfl ?_
  conv => whnf
  refine ⟨(by repeat' (first | exact trivial | exact rfl | refine And.intro ?_ ?_ | ((conv => whnf); first | exact trivial | exact rfl | refine And.intro ?_ ?_ | omega))), (by repeat' (first | exact trivial | exact rfl | refine And.intro ?_ ?_ | ((conv => whnf); first | exact trivial | exact rfl | refine And.intro ?_ ?_ | omega))), ?_⟩
  conv => whnf
  refine call_step (ids_t ls (by omega)) rfl rfl ?_
  conv => whnf
  refine ⟨(by repeat' (first | exact trivial | exact rfl | refine And.intro ?_ ?_ | ((conv => whnf); first | exact trivial | exact rfl | refine And.intro ?_ ?_ | omega))), (by repeat' (first | exact trivial | exact rfl | refine And.intro ?_ ?_ | ((conv => whnf); first | exact trivial | exact rfl | refine And.intro ?_ ?_ | omega))), ?_⟩
  conv => whnf
  refine call_step (deleteNeeds_t bs ls a b (mostF bs.length (graphF bs ls 0) a b) hs ha hb (idsF ls) (by have := compI_len (sortI (idsP ls)); have h2 : (sortI (idsP ls)).length = (idsP ls).length := List.length_mergeSort _; have h3 := idsP_len ls; unfold idsF; omega)) rfl rfl ?_
  conv => whnf
  refine ⟨(by repeat' (first | exact trivial | exact rfl | refine And.intro ?_ ?_ | ((conv => whnf); first | exact trivial | exact rfl | refine And.intro ?_ ?_ | omega))), (by repeat' (first | exact trivial | exact rfl | refine And.intro ?_ ?_ | ((conv => whnf); first | exact trivial | exact rfl | refine And.intro ?_ ?_ | omega))), ?_⟩
  conv => whnf
  repeat' (first | exact trivial | exact rfl | refine And.intro ?_ ?_ | ((conv => whnf); first | exact trivial | exact rfl | refine And.intro ?_ ?_ | omega))

end Go.Proofs

namespace Go.Proofs
open Go.Sx

theorem shortF_tok (n : Nat) (rev : Nat → Bool) (arcs : List Lnk) (src : Nat) (hok : ∀ l ∈ arcs, ArcOK n l) : Tok n ((n + 3 : Nat) * (67108864 * arcs.length)) (shortF n rev arcs src).1 := by
  have key : ∀ (k : Nat) (B : Int) (T : Tr), Tok n B T → Tok n (B + (k + 1 : Nat) * (67108864 * arcs.length)) (roundsF n rev arcs k T).1 := by
    intro k
    induction k with
    | zero => intro B T h; exact (Tok.pass hok (h.ch (-1))).mono (by simp)
    | succ k ih =>
      intro B T h
      have e : ((k + 1 + 1 : Nat) : Int) * (67108864 * arcs.length) = (67108864 * arcs.length) + ((k + 1 : Nat) : Int) * (67108864 * arcs.length) := by
        rw [show ((k + 1 + 1 : Nat) : Int) = 1 + ((k + 1 : Nat) : Int) by omega, Int.add_mul, Int.one_mul]
      have hp : 0 ≤ ((k + 1 : Nat) : Int) * (67108864 * arcs.length) := Int.mul_nonneg (by omega) (by omega)
      simp only [roundsF]
      split
      · refine (Tok.pass hok (h.ch (-1))).mono ?_
        rw [e]; omega
      · refine (ih _ _ (Tok.pass hok (h.ch (-1)))).mono ?_
        rw [e]; omega
  exact (key (n + 2) 0 _ (Tok.start n src)).mono (by rw [Int.zero_add]; exact Int.le_refl _)

theorem mostF_bd (n : Nat) (arcs : List Lnk) (a b : Int) (hn : n ≤ 1000) (hl : arcs.length ≤ 10000) (hok : ∀ l ∈ arcs, ArcOK n l) : -700000000000000 ≤ mostF n arcs a b ∧ mostF n arcs a b ≤ 700000000000000 := by
  have h := shortF_tok n noRev arcs (plc n a) hok
  have hb : ((n + 3 : Nat) : Int) * (67108864 * arcs.length) ≤ 1003 * (67108864 * 10000) := Int.mul_le_mul (by omega) (by omega) (by omega) (by omega)
  unfold mostF
  by_cases hi : plc n b < (shortF n noRev arcs (plc n a)).1.sum.length
  · rw [List.getD_eq_getElem?_getD, List.getElem?_eq_getElem hi]
    have := h.bd _ (List.getElem_mem hi)
    simp only [Option.getD_some]
    omega
  · rw [List.getD_eq_getElem?_getD, List.getElem?_eq_none (by omega)]
    simp

theorem range_t (bs : List (Int × Int)) (ls : List Lnk) (a b : Int) (hs : SysOK bs ls) (ha : a < bs.length) (hb : b < bs.length) (hpa : withinF a (-1) (bs.length - 1) = true) (hpb : withinF b (-1) (bs.length - 1) = true)
    (lo hi : Int) (hlo : lo = - mostF bs.length (graphF bs ls 0) b a) (hhi : hi = mostF bs.length (graphF bs ls 0) a b) :
    Triple Try.prog 21 [.c (.p 0 0 0 0), iv .i64 a, iv .i64 b] (netH bs ls) 3 (.tup [.inr [.v (.int .i64 lo), .v (.int .i64 hi)], .inl (.v (.int .i64 0))]) [] := by
  refine triple_of tB_ok Try.func21 rfl Try.call21 rfl ?_
  intro ρ w hH
  conv => whnf
  have hnb := hs.nb
  have hnl := hs.nl
  have hgl := graphF_len hs 0
  have hmb := mostF_bd bs.length (graphF bs ls 0) b a (by omega) (by omega) (graphF_ok hs 0)
  refine call_step (isPlace_t bs ls a (by omega)) rfl rfl ?_
  conv => whnf
  refine ⟨(by repeat' (first | exact trivial | exact rfl | refine And.intro ?_ ?_ | ((conv => whnf); first | exact trivial | exact rfl | refine And.intro ?_ ?_ | omega))), (by repeat' (first | exact trivial | exact rfl | refine And.intro ?_ ?_ | ((conv => whnf); first | exact trivial | exact rfl | refine And.intro ?_ ?_ | omega))), ?_⟩
  conv => whnf
  rw [hpa]
  refine ⟨fun hc => ?_, fun hc => ?_⟩
  · cases hc
  conv => whnf
  refine call_step (isPlace_t bs ls b (by omega)) rfl rfl ?_
  conv => whnf
  refine ⟨(by repeat' (first | exact trivial | exact rfl | refine And.intro ?_ ?_ | ((conv => whnf); first | exact trivial | exact rfl | refine And.intro ?_ ?_ | omega))), (by repeat' (first | exact trivial | exact rfl | refine And.intro ?_ ?_ | ((conv => whnf); first | exact trivial | exact rfl | refine And.intro ?_ ?_ | omega))), ?_⟩
  conv => whnf
  rw [hpb]
  refine ⟨fun hc => ?_, fun hc => ?_⟩
  · cases hc
  conv => whnf
  refine call_step (graphOf_t bs ls 0 (by omega) hs.boxB (by omega)) rfl rfl ?_
  conv => whnf
  refine ⟨(by repeat' (first | exact trivial | exact rfl | refine And.intro ?_ ?_ | ((conv => whnf); first | exact trivial | exact rfl | refine And.intro ?_ ?_ | omega))), (by repeat' (first | exact trivial | exact rfl | refine And.intro ?_ ?_ | ((conv => whnf); first | exact trivial | exact rfl | refine And.intro ?_ ?_ | omega))), ?_⟩
  conv => whnf
  refine call_step (most_t bs.length (graphF bs ls 0) b a (by omega) (by omega) (graphF_ok hs 0) hb ha) rfl rfl ?_
  conv => whnf
  refine ⟨(by repeat' (first | exact trivial | exact rfl | refine And.intro ?_ ?_ | ((conv => whnf); first | exact trivial | exact rfl | refine And.intro ?_ ?_ | omega))), (by repeat' (first | exact trivial | exact rfl | refine And.intro ?_ ?_ | ((conv => whnf); first | exact trivial | exact rfl | refine And.intro ?_ ?_ | omega))), ?_⟩
  conv => whnf
  refine ⟨_, wrapId ⟨by omega, by omega⟩, ?_⟩
  conv => whnf
  refine call_step (most_t bs.length (graphF bs ls 0) a b (by omega) (by omega) (graphF_ok hs 0) ha hb) rfl rfl ?_
  conv => whnf
  refine ⟨(by repeat' (first | exact trivial | exact rfl | refine And.intro ?_ ?_ | ((conv => whnf); first | exact trivial | exact rfl | refine And.intro ?_ ?_ | omega))), (by repeat' (first | exact trivial | exact rfl | refine And.intro ?_ ?_ | ((conv => whnf); first | exact trivial | exact rfl | refine And.intro ?_ ?_ | omega))), ?_⟩
  conv => whnf
  repeat' (first | exact trivial | exact rfl | refine And.intro ?_ ?_ | ((conv => whnf); first | exact trivial | exact rfl | refine And.intro ?_ ?_ | omega))

end Go.Proofs

/-
  The plain functions that the program's functions of chapter 3 compute, part 3: the greatest value of a form. Where the program would go astray the plain function says none. Conditions: none; definitions and plain lemmas.
-/
namespace Go
namespace Proofs

def inI (x : Int) : Bool := decide (-9223372036854775808 ≤ x) && decide (x ≤ 9223372036854775807)

theorem inI_iff {x : Int} : inI x = true ↔ -9223372036854775808 ≤ x ∧ x ≤ 9223372036854775807 := by simp [inI]

/-- What is still to be brought to each place, and to the origin. -/
def needL (by' : List Int) : List Int := by' ++ [-by'.sum]

/-- The place before one, by the arc over which it was reached. -/
def befF (n : Nat) (arcs : List Lnk) (k : Nat) : Option Nat := (arcs[k / 2]?).map fun l => if k % 2 = 0 then plc n l.f else plc n l.t

/-- The arcs from a place back to the start. -/
def stepsF (n : Nat) (arcs : List Lnk) (last : List Int) (src : Nat) : Nat → Nat → Option (List Nat)
  | 0, _ => none
  | f + 1, p => if p = src then some [] else match last[p]? with
    | some k => if 0 ≤ k then (match befF n arcs k.toNat with
      | some q => (stepsF n arcs last src f q).map (k.toNat :: ·)
      | none => none) else none
    | none => none

/-- How much can be carried along a path. -/
def amtF (flow : List Int) : List Nat → Int → Int
  | [], a => a
  | k :: r, a => amtF flow r (if k % 2 = 1 then min a (flow.getD (k / 2) 0) else a)

/-- Carrying so much along a path. -/
def addF (a : Int) : List Nat → List Int → Option (List Int)
  | [], flow => some flow
  | k :: r, flow =>
    let d := a * (1 - 2 * ((k % 2 : Nat) : Int))
    if inI d && inI (flow.getD (k / 2) 0 + d) then addF a r (flow.set (k / 2) (flow.getD (k / 2) 0 + d)) else none

/-- The nearest place, of the first ones, that needs something. -/
def pickF (need sum : List Int) : Nat → Int
  | 0 => -1
  | i + 1 => if 0 < need.getD i 0 && (pickF need sum i == -1 || decide (sum.getD i 0 < sum.getD (pickF need sum i).toNat 0)) then (i : Int) else pickF need sum i

/-- Carrying from one place until nothing is left there; true if no place needs anything. -/
def innerF (n : Nat) (arcs : List Lnk) (src : Nat) : Nat → List Int → List Int → Option (Bool × List Int × List Int)
  | 0, _, _ => none
  | f + 1, need, flow =>
    if need.getD src 0 < 0 then
      let T := (shortF n (flowRev flow) arcs src).1
      let to := pickF need T.sum (n + 1)
      if to = -1 then some (true, need, flow) else
      match stepsF n arcs T.last src (n + 2) to.toNat with
      | none => none
      | some ks =>
        let a := amtF flow ks (min (-need.getD src 0) (need.getD to.toNat 0))
        match addF a ks flow with
        | none => none
        | some flow' =>
          let need1 := need.set src (need.getD src 0 + a)
          if inI (-need.getD src 0) && (inI (need.getD src 0 + a) && inI (need1.getD to.toNat 0 - a)) then
            innerF n arcs src f (need1.set to.toNat (need1.getD to.toNat 0 - a)) flow'
          else none
    else some (false, need, flow)

def outerF (n : Nat) (arcs : List Lnk) (fuel : Nat) : Nat → Nat → List Int → List Int → Option (List Int)
  | 0, _, _, flow => some flow
  | m + 1, i, need, flow => match innerF n arcs i fuel need flow with
    | none => none
    | some (true, _, flow') => some flow'
    | some (false, need', flow') => outerF n arcs fuel m (i + 1) need' flow'

/-- What is carried over which link. -/
def usesF : List Lnk → List Int → List (Lnk × Int)
  | l :: r, x :: s => if 0 < x then (l, x) :: usesF r s else usesF r s
  | _, _ => []

def valF : List Int → List Int → Int → Option Int
  | x :: r, y :: s, a => if inI (x * y) && inI (a + x * y) then valF r s (a + x * y) else none
  | [], _, a => some a
  | _ :: _, [], _ => none

/-- The greatest value of a form by its coefficients: the value, the proof, the point. -/
def bestF (n : Nat) (arcs : List Lnk) (fuel : Nat) (by' : List Int) : Option (Int × List (Lnk × Int) × List Int) :=
  match outerF n arcs fuel (n + 1) 0 (needL by') (List.replicate arcs.length 0) with
  | none => none
  | some flow =>
    let pt := (shortF n (flowRev flow) arcs n).1.sum.take n
    match valF by' pt 0 with
    | none => none
    | some v => some (v, usesF arcs flow, pt)

end Proofs
end Go

namespace Go
namespace Sx

/-! ### A set of integers that the call makes: a map to bools, all of which are true -/

def SetObj (S : List Int) (x : Obj) : Prop :=
  ∃ es clock, x = .map es clock ∧ (∀ e ∈ es.toList, (∃ n, e.key = .int .i64 n) ∧ e.val = .bool true) ∧ ∀ n, (∃ e ∈ es.toList, e.key = .int .i64 n) ↔ n ∈ S

def setO (S : List Int) : SO := .raw (SetObj S)

theorem und_map {P : Program} {B : Tabs} (hB : TabsOK P B) {t kt et s0 b0 : Nat} {z0 : List Value} (h : lookT B.T t = some ⟨.map kt et, s0, b0, z0⟩) : P.underlying t = some (.map kt et) := by
  obtain ⟨i, d, z, hi, hd, hz, hk, hs, hb, hzz⟩ := tiOf_parts (hB.T.get h)
  cases d <;> simp [kdOf] at hk
  rw [hd, hk.1, hk.2]

theorem und_int {P : Program} {B : Tabs} (hB : TabsOK P B) {t s0 b0 : Nat} {k : IntKind} {z0 : List Value} (h : lookT B.T t = some ⟨.int k, s0, b0, z0⟩) : P.underlying t = some (.int k) := by
  obtain ⟨i, d, z, hi, hd, hz, hk, hs, hb, hzz⟩ := tiOf_parts (hB.T.get h)
  cases d <;> simp [kdOf] at hk
  rw [hd, hk]

theorem mkmap_step {cx : Cx} {o : Oper} {e : Env} {H : Heap} {nx : Nat} {K : Eff → Prop} {t : TypeId} (ho : o.op = .makeMap t none)
    (h : K ⟨.c (.m nx), [], [(nx, true, setO [])], [nx]⟩) : ∃ F, CallOK cx o e H nx F ∧ K F := by
  refine ⟨_, ⟨loc_new (by simp [ho]) (by rw [SV.below_c]; intro j hj; simp [SC.nms] at hj; omega) ?_ ?_, fun j hj => by simp at hj; subst hj; simp⟩, h⟩
  · intro n _ j hj
    simp [setO, SO.uses] at hj
  · intro ρ a w _ _
    refine ⟨.map (some w.heap.size), .map #[] 0, 0, ?_, ?_, ?_⟩
    · simp only [execOp, ho, Sem.run_bind, Option.mapM_none]
      rfl
    · simp only [SV.rel, SC.rel, upd_eq]
    · refine ⟨trivial, (fun i j c hc => by simp [setO, SO.cell?] at hc), (fun _ hx => absurd rfl (hx _)), (fun _ => by rw [upd_eq]), (fun Ψ hΨ => ?_)⟩
      cases hΨ
      rw [upd_eq]
      exact ⟨_, push_new w _, #[], 0, rfl, by simp, by simp⟩

def lookupK (B : Tabs) (et0 : TypeId) (t : TypeId) (x y : SV) (H : Heap) (K : Eff → Prop) : Prop :=
  match lookT B.T t, x, y with
  | some ⟨.map kt et, _, _, _⟩, .c (.m k), .c (.v (.int .i64 n)) => (match lookT B.T kt, look H k with
    | some ⟨.int .i64, _, _, _⟩, some (true, .raw Φ) => bif Nat.beq et et0 then
        ∃ S, Φ = SetObj S ∧ K ⟨.c (.v (.bool (decide (n ∈ S)))), [k], [], []⟩ else False
    | _, _ => False)
  | _, _, _ => False

theorem lookup_step {cx : Cx} {B : Tabs} (hB : TabsOK cx.P B) {o : Oper} {e : Env} {H : Heap} {nx : Nat} {K : Eff → Prop} {t : TypeId} {x y : Operand} (et0 : TypeId) (hz0 : ∀ w, (zeroValue et0).run cx.P w = .ok (.bool false) w) (ho : o.op = .lookup t x y false)
    (h : lookupK B et0 t (ev e x) (ev e y) H K) : ∃ F, CallOK cx o e H nx F ∧ K F := by
  have hx : x ∈ o.op.operands.toList := by simp [ho, Op.operands]
  have hy : y ∈ o.op.operands.toList := by simp [ho, Op.operands]
  unfold lookupK at h
  split at h
  · rename_i kt et s0 b0 z0 k n ht hex hey
    split at h
    · rename_i s1 b1 z1 Φ hkt hlk
      obtain ⟨he0, S, rfl, hK⟩ := bif_and h
      have he0 := Nat.eq_of_beq_eq_true he0
      subst he0
      refine ⟨_, ⟨?_, fun j hj => by cases hj⟩, hK⟩
      intro ρ s a w hs hr hk _ hdst KK Q hKK
      have hl1 : look s.H k = some (true, .raw (SetObj S)) := by rw [hk k (by simp)]; exact hlk
      have hx1 := reads_fit hx (fun t ht => by rw [← hr t ht]; exact hs.env t)
      have hy1 := reads_fit hy (fun t ht => by rw [← hr t ht]; exact hs.env t)
      rw [hex] at hx1; rw [hey] at hy1
      simp only [SV.rel, SC.rel] at hx1 hy1
      obtain ⟨ob, hob, es, clock, rfl, hes, hS⟩ := (hs.heap.reg k true _ hl1).keys _ rfl
      have hkey : MapKept.IsKey (.int .i64) (.int .i64 n) := rfl
      have hall : ∀ x ∈ es.toList, MapKept.IsKey (.int .i64) x.key := fun x hx => by obtain ⟨⟨m, hm⟩, _⟩ := hes x hx; rw [hm]; rfl
      have hrun : (execOp a.eval o).run cx.P w = .ok (.value (.bool (decide (n ∈ S)))) w := by
        rcases MapKept.findNow_spec hkey es.toList 0 hall with ⟨h1, h2⟩ | ⟨j, e', h1, h2, h3⟩
        · have hn : n ∉ S := fun hn => by obtain ⟨e', he, hk'⟩ := (hS n).2 hn; exact h2 e' he hk'
          simp only [execOp, ho, Instr.lookup, hx1, hy1, Sem.run_bind, run_underlying (und_map hB ht), Result.andThen_ok, MapKept.run_getObj_map hob, Sem.run_pure,
            MapKept.run_checkKey (und_int hB hkt) hkey, MapKept.run_findKey (und_int hB hkt) h1, hz0]
          simp [hn]
        · have hm := List.mem_of_getElem? h2
          have hn : n ∈ S := (hS n).1 ⟨e', hm, h3⟩
          simp only [execOp, ho, Instr.lookup, hx1, hy1, Sem.run_bind, run_underlying (und_map hB ht), Result.andThen_ok, MapKept.run_getObj_map hob, Sem.run_pure,
            MapKept.run_checkKey (und_int hB hkt) hkey, MapKept.run_findKey (und_int hB hkt) h1, (hes e' hm).2]
          simp [hn]
      refine wpIn_of_value (by simp [ho]) hrun (hKK ρ _ w ?_ (fun _ _ => rfl))
      exact hs.putO hdst rfl (by rw [SV.below_c]; intro j hj; cases hj)
    · exact h.elim
  · exact h.elim

def truS : SV → Bool
  | .c (.b true) => true
  | .c (.v (.bool true)) => true
  | _ => false

theorem truS_rel {ρ : Asg} {z : SV} {v : Value} (h : truS z = true) (hr : z.rel ρ v) : v = .bool true := by
  unfold truS at h
  split at h
  · exact hr
  · exact hr
  · cases h

def mapUpK (B : Tabs) (t : TypeId) (x y z : SV) (H : Heap) (K : Eff → Prop) : Prop :=
  match lookT B.T t, x, y with
  | some ⟨.map kt _, _, _, _⟩, .c (.m k), .c (.v (.int .i64 n)) => (match lookT B.T kt, look H k with
    | some ⟨.int .i64, _, _, _⟩, some (true, .raw Φ) => bif truS z then
        ∃ S, Φ = SetObj S ∧ K ⟨.c .junk, [k], [(k, true, setO (n :: S))], []⟩ else False
    | _, _ => False)
  | _, _, _ => False

theorem mapUp_step {cx : Cx} {B : Tabs} (hB : TabsOK cx.P B) {o : Oper} {e : Env} {H : Heap} {nx : Nat} {K : Eff → Prop} {t : TypeId} {x y z : Operand} (ho : o.op = .mapUpdate t x y z)
    (h : mapUpK B t (ev e x) (ev e y) (ev e z) H K) : ∃ F, CallOK cx o e H nx F ∧ K F := by
  have hx : x ∈ o.op.operands.toList := by simp [ho, Op.operands]
  have hy : y ∈ o.op.operands.toList := by simp [ho, Op.operands]
  have hz : z ∈ o.op.operands.toList := by simp [ho, Op.operands]
  unfold mapUpK at h
  split at h
  · rename_i kt et s0 b0 z0 k n ht hex hey
    split at h
    · rename_i s1 b1 z1 Φ hkt hlk
      obtain ⟨htr, S, rfl, hK⟩ := bif_and h
      refine ⟨_, ⟨?_, fun j hj => by cases hj⟩, hK⟩
      intro ρ s a w hs hr hk _ hdst KK Q hKK
      have hl1 : look s.H k = some (true, .raw (SetObj S)) := by rw [hk k (by simp)]; exact hlk
      have hx1 := reads_fit hx (fun t ht => by rw [← hr t ht]; exact hs.env t)
      have hy1 := reads_fit hy (fun t ht => by rw [← hr t ht]; exact hs.env t)
      have hz1 := reads_fit hz (fun t ht => by rw [← hr t ht]; exact hs.env t)
      rw [hex] at hx1; rw [hey] at hy1
      simp only [SV.rel, SC.rel] at hx1 hy1
      have hz1 := truS_rel htr hz1
      obtain ⟨ob, hob, es, clock, rfl, hes, hS⟩ := (hs.heap.reg k true _ hl1).keys _ rfl
      have hkey : MapKept.IsKey (.int .i64) (.int .i64 n) := rfl
      have hall : ∀ x ∈ es.toList, MapKept.IsKey (.int .i64) x.key := fun x hx => by obtain ⟨⟨m, hm⟩, _⟩ := hes x hx; rw [hm]; rfl
      have hrun : ∃ es' clock', (execOp a.eval o).run cx.P w = .ok .skip (w.putObj (ρ k).blk (.map es' clock')) ∧ SetObj (n :: S) (.map es' clock') := by
        rcases MapKept.findNow_spec hkey es.toList 0 hall with ⟨h1, h2⟩ | ⟨j, e', h1, h2, h3⟩
        · refine ⟨es.push { key := .int .i64 n, val := .bool true, born := clock }, clock + 1, ?_, _, _, rfl, ?_, ?_⟩
          · simp only [execOp, ho, Instr.mapUpdate, hx1, hy1, hz1, Sem.run_bind, run_underlying (und_map hB ht), Result.andThen_ok, MapKept.run_getObj_map hob, Sem.run_pure,
              MapKept.run_checkKey (und_int hB hkt) hkey, MapKept.run_findKey (und_int hB hkt) h1, MapKept.run_setObj_map _ hob]
            rfl
          · intro e' he
            simp only [Array.toList_push, List.mem_append, List.mem_singleton] at he
            rcases he with he | rfl
            · exact hes e' he
            · exact ⟨⟨n, rfl⟩, rfl⟩
          · intro m
            simp only [Array.toList_push, List.mem_append, List.mem_singleton]
            rw [List.mem_cons, ← hS m]
            constructor
            · rintro ⟨e', he | rfl, hk'⟩
              · exact .inr ⟨e', he, hk'⟩
              · simp at hk'; exact .inl hk'.symm
            · rintro (rfl | ⟨e', he, hk'⟩)
              · exact ⟨_, .inr rfl, rfl⟩
              · exact ⟨e', .inl he, hk'⟩
        · have hm := List.mem_of_getElem? h2
          have hn : n ∈ S := (hS n).1 ⟨e', hm, h3⟩
          have h2' : es[j]? = some e' := by simpa using h2
          refine ⟨es.modify j fun e => { e with key := .int .i64 n, val := .bool true }, clock, ?_, _, _, rfl, ?_, ?_⟩
          · simp only [execOp, ho, Instr.mapUpdate, hx1, hy1, hz1, Sem.run_bind, run_underlying (und_map hB ht), Result.andThen_ok, MapKept.run_getObj_map hob, Sem.run_pure,
              MapKept.run_checkKey (und_int hB hkt) hkey, MapKept.run_findKey (und_int hB hkt) h1, Nat.zero_add, h2', Option.map_some, Option.getD_some, h3, MapKept.run_keyThatStays hkey, MapKept.run_setObj_map _ hob]
            rfl
          · intro e1 he
            obtain ⟨i, hi⟩ := List.mem_iff_getElem?.1 he
            simp only [Array.getElem?_toList, Array.getElem?_modify] at hi
            by_cases hij : j = i
            · rw [if_pos hij] at hi
              obtain ⟨e2, h4, rfl⟩ := Option.map_eq_some_iff.1 hi
              exact ⟨⟨n, rfl⟩, rfl⟩
            · rw [if_neg hij] at hi
              exact hes e1 (List.mem_of_getElem? (i := i) (by simpa using hi))
          · intro m
            have hk := MapKept.modify_keys (es := es) j (fun e => { e with key := .int .i64 n, val := .bool true }) (fun e he => by rw [h2'] at he; cases he; exact h3.symm)
            have e1 : ∀ l : List MapEntry, (∃ e ∈ l, e.key = .int .i64 m) ↔ Value.int .i64 m ∈ l.map (·.key) := fun l => by simp [List.mem_map]
            rw [e1, hk, ← e1, hS m, List.mem_cons]
            constructor
            · exact .inr
            · rintro (rfl | h)
              · exact hn
              · exact h
      obtain ⟨es', clock', hrun, hset⟩ := hrun
      have hs' := hs.setObj hl1 (.map es' clock') hset
      refine wpIn_of_skip (by simp [ho]) hrun (hKK ρ _ _ ?_ (fun _ _ => rfl))
      exact hs'.putO (sv := .c .junk) hdst trivial (by rw [SV.below_c]; intro j hj; cases hj)
    · exact h.elim
  · exact h.elim

end Sx
end Go

namespace Go
namespace Sx

/-! ### A slice of an own list that is cut at its end: `x[:h:h]` -/

def sl3K (B : Tabs) (t : TypeId) (x y z : SV) (H : Heap) (nx : Nat) (K : Eff → Prop) : Prop :=
  match lookT B.T t, x, y, z with
  | some ⟨.slice el, _, _, _⟩, .c (.s k 0 len sz), .c (.v (.int _ n)), .c (.v (.int _ m)) => (match lookT B.T el with
    | some ti => bif Nat.beq ti.size sz then (match look H k with
      | some (true, .arr A) => ∃ h : Nat, n = (h : Int) ∧ m = (h : Int) ∧ h ≤ len ∧ sz = A.sz ∧
          K ⟨.c (.s nx 0 h sz), [k], [(nx, true, .arr (A.setXs (A.xs.take h))), (k, false, .cells [])], [nx]⟩
      | _ => False) else False
    | none => False)
  | _, _, _, _ => False

theorem sl3_step {cx : Cx} {B : Tabs} (hB : TabsOK cx.P B) {o : Oper} {e : Env} {H : Heap} {nx : Nat} {K : Eff → Prop} {t : TypeId} {x y z : Operand} (ho : o.op = .slice t x none (some y) (some z))
    (h : sl3K B t (ev e x) (ev e y) (ev e z) H nx K) : ∃ F, CallOK cx o e H nx F ∧ K F := by
  have hx : x ∈ o.op.operands.toList := by simp [ho, Op.operands]
  have hy : y ∈ o.op.operands.toList := by simp [ho, Op.operands]
  have hz : z ∈ o.op.operands.toList := by simp [ho, Op.operands]
  unfold sl3K at h
  split at h
  · rename_i el s0 b0 z0 k len sz kn n km m ht hex hey hez
    split at h
    · rename_i ti hti
      obtain ⟨hb, h⟩ := bif_and h
      have hb := Nat.eq_of_beq_eq_true hb
      split at h
      · rename_i A hlk
        obtain ⟨hh, rfl, rfl, hle, hsz, hK⟩ := h
        refine ⟨_, ⟨?_, fun j hj => by simp at hj; subst hj; simp⟩, hK⟩
        intro ρ s a w hs hr hk hnew hdst KK Q hKK
        obtain ⟨hfr, hlt, hn0⟩ := hnew nx (by simp)
        have hl1 : look s.H k = some (true, .arr A) := by rw [hk k (by simp)]; exact hlk
        have hx1 := reads_fit hx (fun t ht => by rw [← hr t ht]; exact hs.env t)
        have hy1 := reads_fit hy (fun t ht => by rw [← hr t ht]; exact hs.env t)
        have hz1 := reads_fit hz (fun t ht => by rw [← hr t ht]; exact hs.env t)
        rw [hex] at hx1; rw [hey] at hy1; rw [hez] at hz1
        simp only [SV.rel, SC.rel, Nat.sub_zero, Nat.zero_mul, Nat.zero_add] at hx1 hy1 hz1
        obtain ⟨ad, hxv, hcap, had⟩ := hx1
        have hs1 := hs.heap.reg k true _ hl1
        have hoff := hs1.off0 rfl
        have hroom := fun n hn => hs1.room rfl (by simp) n hn
        simp only [SO.room] at hroom
        have hnmf : ∀ {r : Rg} {j : Nat}, (SO.arr A).uses [j] = true → upd ρ nx r j = ρ j := fun hj => upd_ne (by rintro rfl; have := (hfr.heap k true _ hl1).2; rw [hj] at this; cases this)
        have hrelf : ∀ {r : Rg} {xx : A.α} {j : Nat} {cc : SC} {v : Value}, (A.enc xx)[j]? = some cc → cc.rel ρ v → cc.rel (upd ρ nx r) v := fun hj hcc =>
          SC.rel_agree (fun n hn => hnmf (anyMem_iff.2 ⟨n, A.hn _ _ (List.mem_of_getElem? hj) n hn, by simp⟩)) hcc
        have hszr := run_sizeOf hB hti w
        have hrun : (execOp a.eval o).run cx.P w = .ok (.value (.slice (if hh = 0 then ad else ad.map (·.add (0 * ti.size))) hh hh)) w := by
          have h3 : hh ≤ (ρ k).cap := by omega
          have hbnd : (Instr.sliceBounds true len (ρ k).cap none (some (Value.int kn (hh : Int))) (some (Value.int km (hh : Int)))).run cx.P w = .ok (0, hh, hh) w := by
            simp [Instr.sliceBounds, Instr.sliceBound, asIntOf, h3]
          simp [execOp, ho, hxv, hy1, hz1, Instr.sliceAt, und_slice hB ht, Instr.slice, run_underlying (und_slice hB ht), hbnd, hszr]
        refine wpIn_of_value (by simp [ho]) hrun (hKK (upd ρ nx ⟨(ρ k).blk, (ρ k).off, hh⟩) _ _ ?_ (fun j hj => upd_ne (by simpa using hj)))
        have hbelow : (SO.arr (A.setXs (A.xs.take hh))).below s.nx := fun j hj => (hs.bnd.heap k true _ hl1).2 j hj
        have hmul : hh * A.sz ≤ (ρ k).cap * A.sz := Nat.mul_le_mul_right _ (by omega)
        have hsat := hs.retake (n := 0) (cap := hh) (vs := []) (o' := .arr (A.setXs (A.xs.take hh))) hl1 hfr hlt hn0
          (by simp [SO.room, Arr.setXs]; exact hmul) (fun _ => rfl) hbelow ?_
        · refine hsat.putO hdst ?_ (by rw [SV.below_c]; intro j hj; simp [SC.nms] at hj; subst hj; exact hlt)
          simp only [SV.rel, SC.rel, upd_eq, Nat.sub_zero, Nat.zero_mul, Nat.zero_add]
          refine ⟨_, rfl, Nat.le_refl _, fun hpos => ?_⟩
          rw [if_neg (by omega), had (by omega)]
          simp [adr, upd_eq, Addr.add]
        · refine ⟨by simp only [SO.wf, Arr.setXs, upd_eq, List.length_take]; omega, ?_, ?_, fun _ => by rw [upd_eq]; exact hoff, fun _ h => by cases h⟩
          · intro i' j cc hcc
            rw [setXs_cell] at hcc
            cases hxx : (A.xs.take hh)[i']? with
            | none => simp [hxx] at hcc
            | some xx =>
              simp only [hxx, Option.bind_some] at hcc
              have hi : i' < hh := by have := (List.getElem?_eq_some_iff.1 hxx).1; rw [List.length_take] at this; omega
              rw [List.getElem?_take, if_pos hi] at hxx
              obtain ⟨v, hv, hvr⟩ := hs1.at_ i' j cc (by simp only [SO.cell?, hxx]; exact hcc)
              exact ⟨v, by simpa [adr, hoff, SO.sz, upd_eq, Arr.setXs, setCells] using hv, hrelf hcc hvr⟩
          · intro _ _ n hn
            simp only [SO.room, Arr.setXs, upd_eq] at hn
            have := hroom n (by omega)
            simpa [adr, upd_eq, hoff, setCells] using this
      · exact h.elim
    · exact h.elim
  · exact h.elim

end Sx
end Go

