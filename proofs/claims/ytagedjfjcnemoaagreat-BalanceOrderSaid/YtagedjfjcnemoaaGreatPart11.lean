/-
  A part of the proof that a law answers true: lemmas of a symbolic walk, plain functions, or contracts of the functions walked (Sx35, Sx36, Sx37, Sx24, Sx25, Sx26, Sx27, Sx38, Sx39, Sx40, Sx41, Wa, Wb, Wc, Wd, Pm3, We, Wf, Pm4). Conditions: none.
-/
import Derived.Test.YtagedjfjcnemoaaGreatPart10
import Derived.Sort.Grow
import Derived.MapKept
import Derived.Shelf.SlSortCmp.InsertionK
import Derived.Sort.AssemblyPlain
import Derived.Lib.SlicesCompact
set_option maxRecDepth 100000
set_option linter.unusedVariables false
set_option linter.unusedSimpArgs false
namespace Go
namespace Sx

def pfxO (m : Nat) : SO → SO
  | .arr a => .arr (a.setXs (a.xs.take m))
  | o => o

theorem pfxO_room (m : Nat) (o : SO) (r : Rg) : (pfxO m o).room r = o.room r := by cases o <;> rfl
theorem pfxO_sz (m : Nat) (o : SO) : (pfxO m o).sz = o.sz := by cases o <;> rfl

theorem pfxO_cell {m : Nat} {o : SO} {i j : Nat} {c : SC} (h : (pfxO m o).cell? i j = some c) : o.cell? i j = some c := by
  cases o with
  | arr a =>
    simp only [pfxO] at h
    rw [arr_cell?] at h ⊢
    have e : (a.setXs (a.xs.take m)).xs[i]? = (a.xs.take m)[i]? := rfl
    rw [e] at h
    cases hx : (a.xs.take m)[i]? with
    | none => rw [hx] at h; cases h
    | some x =>
      rw [hx] at h
      have : a.xs[i]? = some x := by
        rw [List.getElem?_take] at hx
        split at hx
        · exact hx
        · cases hx
      rw [this]; exact h
  | _ => exact h

theorem pfxO_sat {ρ : Asg} {w : World} {k m : Nat} {o : SO} {own : Bool} (h : SatO ρ w k own o) : SatO ρ w k own (pfxO m o) where
  wf := by
    have := h.wf
    cases o with
    | arr a => simp only [pfxO, SO.wf, Arr.setXs] at *; simp; omega
    | _ => exact this
  at_ i j c hc := by
    rw [pfxO_sz]
    exact h.at_ i j c (pfxO_cell hc)
  room ho hm n hn := by
    rw [pfxO_room] at hn
    refine h.room ho (fun Φ hΦ => ?_) n hn
    subst hΦ
    exact hm Φ rfl
  off0 := h.off0
  keys Φ hΦ := by
    cases o with
    | arr a => cases hΦ
    | cells l => cases hΦ
    | raw Ψ => exact h.keys Φ hΦ

theorem ownB_pfx {ρ : Asg} {k m : Nat} {own : Bool} {o : SO} {H : Heap} : ∀ {H1 : Heap}, ownB ρ (H1 ++ (k, own, pfxO m o) :: H) = ownB ρ (H1 ++ (k, own, o) :: H)
  | [] => by simp only [List.nil_append, ownB, pfxO_room]
  | (j, ow, q) :: r => by simp only [List.cons_append, ownB, ownB_pfx (H1 := r)]

theorem look_pfx {ρ : Asg} {w : World} {k m : Nat} {own : Bool} {o : SO} {H : Heap} : ∀ {H1 : Heap} {j : Nat} {own' : Bool} {q : SO}, look (H1 ++ (k, own, pfxO m o) :: H) j = some (own', q) →
    ∃ q', look (H1 ++ (k, own, o) :: H) j = some (own', q') ∧ (∀ r, q.room r = q'.room r) ∧ ∀ (own'' : Bool), SatO ρ w j own'' q' → SatO ρ w j own'' q
  | [], j, own', q, hl => by
    rw [List.nil_append, look_cons] at hl ⊢
    by_cases hj : j = k
    · rw [if_pos hj] at hl ⊢
      cases hl
      exact ⟨o, rfl, fun r => pfxO_room m o r, fun _ hs => pfxO_sat hs⟩
    · rw [if_neg hj] at hl ⊢
      exact ⟨q, hl, fun _ => rfl, fun _ hs => hs⟩
  | (i, x) :: r, j, own', q, hl => by
    rw [List.cons_append, look_cons] at hl ⊢
    by_cases hj : j = i
    · rw [if_pos hj] at hl ⊢
      exact ⟨q, hl, fun _ => rfl, fun _ hs => hs⟩
    · rw [if_neg hj] at hl ⊢
      exact look_pfx (H1 := r) hl

theorem satH_pfx {w0 : World} {M : List Nat} {ρ : Asg} {k m : Nat} {own : Bool} {o : SO} {H1 H : Heap} {w : World} (h : SatH w0 M ρ (H1 ++ (k, own, o) :: H) w) : SatH w0 M ρ (H1 ++ (k, own, pfxO m o) :: H) w := by
  refine ⟨h.frm, ?_, ?_, ?_, ?_⟩
  · intro j own' q hl
    obtain ⟨q', h1, h2, h3⟩ := look_pfx (ρ := ρ) (w := w) hl
    exact h3 _ (h.reg j own' q' h1)
  · intro j j' q own' q' hne hl hl' hr hr'
    obtain ⟨p, h1, h2, _⟩ := look_pfx (ρ := ρ) (w := w) hl
    obtain ⟨p', h1', h2', _⟩ := look_pfx (ρ := ρ) (w := w) hl'
    rw [h2] at hr
    rw [h2'] at hr'
    exact h.apart j j' p own' p' hne h1 h1' hr hr'
  · intro j q hl hr
    obtain ⟨p, h1, h2, _⟩ := look_pfx (ρ := ρ) (w := w) hl
    rw [h2] at hr
    exact h.fresh j p h1 hr
  · intro j own' q hl hr
    obtain ⟨p, h1, h2, _⟩ := look_pfx (ρ := ρ) (w := w) hl
    rw [h2] at hr
    exact h.valid j own' p h1 hr

theorem Triple.pfx {P : Program} {f : FuncId} {args : List SV} {k : Nat} {own : Bool} (m : Nat) {o : SO} {H1 H : Heap} {np : Nat} {r : SV} {post : Heap} (h : Triple P f args (H1 ++ (k, own, pfxO m o) :: H) np r post) :
    Triple P f args (H1 ++ (k, own, o) :: H) np r post where
  enter := h.enter
  h ρ w vals hv hH := by
    have h2 : SatH w (ownB ρ (H1 ++ (k, own, pfxO m o) :: H)) ρ (H1 ++ (k, own, pfxO m o) :: H) w := by rw [ownB_pfx]; exact satH_pfx hH
    have := h.h ρ w vals hv h2
    rw [ownB_pfx] at this
    exact this

end Sx
end Go

namespace Go
namespace Sx

theorem ownB_nil {ρ : Asg} {k : Nat} {r : Rg} {o : SO} : ∀ {H : Heap}, (∀ j ∈ keys H, j < k) → ownB (upd ρ k r) (H ++ [(k, false, o)]) = ownB ρ H
  | [], _ => by simp [ownB]
  | (j, own, q) :: t, h => by
    have hj : j ≠ k := Nat.ne_of_lt (h j (by simp [keys]))
    simp only [List.cons_append, ownB, upd_ne hj]
    rw [ownB_nil (H := t) (fun i hi => h i (by simp [keys, hi]))]

theorem satH_nil {w0 : World} {M : List Nat} {ρ : Asg} {k : Nat} {o : SO} {H : Heap} {w : World} (ho : nilO o) (hk : ∀ j ∈ nmsH H, j < k) (h : SatH w0 M ρ H w) :
    SatH w0 M (upd ρ k ⟨0, 0, 0⟩) (H ++ [(k, false, o)]) w := by
  have hold : ∀ {j own q}, look H j = some (own, q) → j ≠ k ∧ ∀ i, q.uses [i] = true → upd ρ k ⟨0, 0, 0⟩ i = ρ i := fun {j own q} hl => by
    have hn := look_nms hl
    exact ⟨Nat.ne_of_lt (hk j hn.1), fun i hi => upd_ne (Nat.ne_of_lt (hk i (hn.2 i (SO.uses_nms.1 hi))))⟩
  have hnil := satO_nil (ρ := upd ρ k ⟨0, 0, 0⟩) (w := w) (k := k) (own := false) ho upd_eq
  have key : ∀ {j own q}, look (H ++ [(k, false, o)]) j = some (own, q) → (look H j = some (own, q)) ∨ (j = k ∧ own = false ∧ q = o) := fun {j own q} hl => by
    rw [look_append] at hl
    cases hh : look H j with
    | some x => rw [hh] at hl; exact .inl hl
    | none =>
      rw [hh] at hl
      simp only [Option.none_or] at hl
      rw [look_cons] at hl
      by_cases hj : j = k
      · rw [if_pos hj] at hl; cases hl; exact .inr ⟨hj, rfl, rfl⟩
      · rw [if_neg hj] at hl; cases hl
  refine ⟨h.frm, ?_, ?_, ?_, ?_⟩
  · intro j own q hl
    rcases key hl with hl | ⟨rfl, rfl, rfl⟩
    · obtain ⟨h1, h2⟩ := hold hl
      exact (h.reg j own q hl).asg (upd_ne h1) h2
    · exact hnil.1
  · intro j j' q own' q' hne hl hl' hr hr'
    rcases key hl with hl | ⟨_, hf, _⟩
    · rcases key hl' with hl' | ⟨rfl, rfl, rfl⟩
      · have h1 := (hold hl).1
        have h2 := (hold hl').1
        rw [upd_ne h1] at hr ⊢
        rw [upd_ne h2] at hr' ⊢
        exact h.apart j j' q own' q' hne hl hl' hr hr'
      · rw [hnil.2] at hr'; omega
    · cases hf
  · intro j q hl hr
    rcases key hl with hl | ⟨_, hf, _⟩
    · rw [upd_ne (hold hl).1] at hr ⊢
      exact h.fresh j q hl hr
    · cases hf
  · intro j own q hl hr
    rcases key hl with hl | ⟨rfl, rfl, rfl⟩
    · rw [upd_ne (hold hl).1] at hr ⊢
      exact h.valid j own q hl hr
    · rw [hnil.2] at hr; omega

theorem Triple.nilK {P : Program} {f : FuncId} {args args' : List SV} {k : Nat} {o : SO} {H : Heap} {np : Nat} {r : SV} {post : Heap} (h : Triple P f args (H ++ [(k, false, o)]) np r post) (ho : nilO o) (hnp : np = k + 1)
    (hk : allLt k (nmsH H) = true) (hargs : ∀ ρ vals, relVs ρ args' vals → relVs (upd ρ k ⟨0, 0, 0⟩) args vals) : Triple P f args' H k r post where
  enter := h.enter
  h ρ w vals hv hH := by
    have hk := allLt_iff.1 hk
    have hkeys : ∀ j ∈ keys H, j < k := fun j hj => by
      obtain ⟨x, hx⟩ := look_of_keys hj
      exact hk j (look_nms hx).1
    have e := ownB_nil (ρ := ρ) (r := ⟨0, 0, 0⟩) (o := o) hkeys
    have hH1 : SatH w (ownB (upd ρ k ⟨0, 0, 0⟩) (H ++ [(k, false, o)])) (upd ρ k ⟨0, 0, 0⟩) (H ++ [(k, false, o)]) w := by
      rw [e]; exact satH_nil ho hk hH
    refine (h.h _ w vals (hargs ρ _ hv) hH1).mono ?_
    rintro en w' ⟨ρ', v, h1, h2, h3, h4⟩
    rw [e] at h4
    exact ⟨ρ', v, fun j hj => by rw [h1 j (by omega), upd_ne (by omega)], h2, h3, h4⟩

end Sx
end Go

namespace Go
namespace Sx

end Sx
end Go

namespace Go
namespace Sx

theorem SatH.rewrite {ρ : Asg} {w w' : World} {xs ys : List Int} (h : SatH w (ownB ρ [(0, true, .arr (aInt xs))]) ρ [(0, true, .arr (aInt xs))] w) (hsz : w.heap.size ≤ w'.heap.size)
    (hl : ys.length ≤ (ρ 0).cap) (hother : ∀ b, b < w.heap.size → b ≠ (ρ 0).blk → w'.heap[b]? = w.heap[b]?)
    (hc : ∀ j (x : Int), ys[j]? = some x → w'.cell? (adr ρ 0 j) = some (.int .i64 x)) (hr : ∀ n, n < (ρ 0).cap → (∃ v, w'.cell? (adr ρ 0 n) = some v) ∧ w'.frozen? (adr ρ 0 n) = false)
    (h0 : (ρ 0).cap = 0 → w'.heap[(ρ 0).blk]? = w.heap[(ρ 0).blk]?) (hio : w'.os = w.os ∧ w'.output = w.output := by exact ⟨rfl, rfl⟩)
    (hq : w'.tape = w.tape ∧ w.drawn ≤ w'.drawn := by first | exact ⟨rfl, Nat.le_refl _⟩ | exact ⟨rfl, Nat.le_add_right _ _⟩ | exact ⟨(setCells_quiet _ _ _ _).1, Nat.le_of_eq (setCells_quiet _ _ _ _).2.symm⟩ | exact ⟨(setCells_quiet _ _ _ _).1, by rw [(setCells_quiet _ _ _ _).2]; exact Nat.le_add_right _ _⟩) :
    SatH w (ownB ρ [(0, true, .arr (aInt xs))]) ρ [(0, true, .arr (aInt ys))] w' := by
  have hl0 : look [(0, true, SO.arr (aInt xs))] 0 = some (true, .arr (aInt xs)) := rfl
  have hs := h.reg 0 true _ hl0
  have hone : ∀ k own o, look [(0, true, SO.arr (aInt ys))] k = some (own, o) → k = 0 ∧ own = true ∧ o = .arr (aInt ys) := by
    intro k own o hk
    rw [look_cons] at hk
    by_cases hk0 : k = 0
    · rw [if_pos hk0] at hk; simp at hk; exact ⟨hk0, hk.1, hk.2.symm⟩
    · rw [if_neg hk0] at hk; simp [look] at hk
  have hroom : ∀ (zs : List Int) (r : Rg), (SO.arr (aInt zs)).room r = r.cap := fun zs r => Nat.mul_one _
  have hM : ∀ b, b ∉ ownB ρ [(0, true, SO.arr (aInt xs))] → b = (ρ 0).blk → (ρ 0).cap = 0 := by
    intro b hb he
    refine Nat.eq_zero_of_not_pos fun hp => hb ?_
    exact mem_ownB.2 ⟨0, _, List.mem_cons_self .., by rw [hroom]; exact hp, he⟩
  refine ⟨⟨hsz, fun b hb hm => ?_, hio, hq⟩, ?_, ?_, ?_, ?_⟩
  · by_cases he : b = (ρ 0).blk
    · rw [he]; exact h0 (hM b hm he)
    · exact hother b hb he
  · intro k own o hk
    obtain ⟨rfl, rfl, rfl⟩ := hone k own o hk
    refine ⟨hl, ?_, ?_, fun _ => hs.off0 rfl, fun _ h => by cases h⟩
    · intro i j c hcc
      rw [arr_cell?] at hcc
      have hcc : (ys[i]?).bind (fun x => [SC.v (.int .i64 x)][j]?) = some c := hcc
      cases hx : ys[i]? with
      | none => rw [hx] at hcc; cases hcc
      | some x =>
        rw [hx] at hcc
        simp only [Option.bind_some] at hcc
        cases j with
        | zero =>
          simp at hcc; subst hcc
          exact ⟨_, by have := hc i x hx; simpa [SO.sz, aInt] using this, rfl⟩
        | succ j => simp at hcc
    · intro _ _ n hn
      rw [hroom] at hn
      exact hr n hn
  · intro k k' o own' o' hne hk hk'
    obtain ⟨rfl, _, _⟩ := hone k true o hk
    obtain ⟨rfl, _, _⟩ := hone k' own' o' hk'
    exact absurd rfl hne
  · intro k o hk hp
    obtain ⟨rfl, _, rfl⟩ := hone k true o hk
    exact h.fresh 0 _ hl0 (by rw [hroom] at hp ⊢; exact hp)
  · intro k own o hk hp
    obtain ⟨rfl, _, rfl⟩ := hone k own o hk
    exact Nat.lt_of_lt_of_le (h.valid 0 true _ hl0 (by rw [hroom] at hp ⊢; exact hp)) hsz

theorem own_slice {ρ : Asg} {w : World} {xs : List Int} {vals : Array Value} (hv : relVs ρ [.c (.s 0 0 xs.length 1)] vals.toList) (h : SatH w (ownB ρ [(0, true, .arr (aInt xs))]) ρ [(0, true, .arr (aInt xs))] w) :
    ∃ a, vals = #[.slice a xs.length (ρ 0).cap] ∧ xs.length ≤ (ρ 0).cap ∧ (0 < (ρ 0).cap → a = some ⟨(ρ 0).blk, 0, none⟩ ∧ (ρ 0).blk < w.heap.size) ∧
      (∀ j, j < xs.length → w.cell? ⟨(ρ 0).blk, 0 + j, none⟩ = some (.int .i64 (xs.getD j 0))) ∧ ∀ n, n < (ρ 0).cap → (∃ v, w.cell? (adr ρ 0 n) = some v) ∧ w.frozen? (adr ρ 0 n) = false := by
  have hl0 : look [(0, true, SO.arr (aInt xs))] 0 = some (true, .arr (aInt xs)) := rfl
  have hs := h.reg 0 true _ hl0
  have hoff := hs.off0 rfl
  have hroom : ∀ (zs : List Int) (r : Rg), (SO.arr (aInt zs)).room r = r.cap := fun zs r => Nat.mul_one _
  match hvl : vals.toList, hv with
  | [v], hv =>
    obtain ⟨⟨a, rfl, hcap, ha⟩, _⟩ := hv
    simp only [Nat.sub_zero, Nat.zero_mul, Nat.zero_add] at hvl hcap ha
    refine ⟨a, Array.toList_inj.1 (by simpa using hvl), hcap, fun hp => ⟨by rw [ha hp]; simp [adr, hoff], h.valid 0 true _ hl0 (by rw [hroom]; exact hp)⟩, ?_, fun n hn => hs.room rfl (by simp) n (by rw [hroom]; exact hn)⟩
    intro j hj
    obtain ⟨v, hv, hr⟩ := hs.at_ j 0 (.v (.int .i64 xs[j])) (by
      rw [arr_cell?]
      show (xs[j]?).bind _ = _
      rw [List.getElem?_eq_getElem hj]; rfl)
    have hr : v = .int .i64 xs[j] := hr
    rw [List.getD_eq_getElem?_getD, List.getElem?_eq_getElem hj]
    have e : j * (SO.arr (aInt xs)).sz + 0 = j := by show j * 1 + 0 = j; omega
    rw [e] at hv
    simpa [adr, hoff, hr] using hv

end Sx
end Go

namespace Go
namespace Sx

theorem cut_arr {cx : Cx} {ρ : Asg} {s : St} {a : Act} {w : World} {k st : Nat} {A : Arr} {vs : List Value} (hs : Sat cx ρ s a w) (hl : look s.H k = some (true, .arr A))
    (hst : st ≤ A.xs.length) (hle : st * A.sz + vs.length ≤ A.xs.length * A.sz) (h1 : ∀ v ∈ vs, (∀ xs, v ≠ .agg xs) ∧ (∀ xs, v ≠ .tuple xs)) :
    (∀ P, (storeCells (adr ρ k (st * A.sz)) vs 0).run P w = .ok () (setCells w (ρ k).blk (st * A.sz) vs)) ∧
    Sat cx ρ { s with H := (k, true, .arr (A.setXs (A.xs.take st))) :: s.H } a (setCells w (ρ k).blk (st * A.sz) vs) := by
  have hso := hs.heap.reg k true _ hl
  have hoff := hso.off0 rfl
  have hwf := hso.wf
  simp only [SO.wf] at hwf
  have hroom := fun n hn => hso.room rfl (by simp) n hn
  simp only [SO.room] at hroom
  have hm1 : A.xs.length * A.sz ≤ (ρ k).cap * A.sz := Nat.mul_le_mul_right _ (by omega)
  have hadr : adr ρ k (st * A.sz) = ⟨(ρ k).blk, st * A.sz, none⟩ := by simp [adr, hoff]
  refine ⟨fun P => ?_, ?_⟩
  · rw [hadr]
    have := run_storeCells (P := P) (b := (ρ k).blk) (n := st * A.sz) vs 0 w (fun j hj => by
      have := hroom (st * A.sz + j) (by omega)
      simp only [adr, hoff, Nat.zero_add] at this
      simpa using this) h1
    simpa using this
  have hvs : (ρ k).cap * A.sz = 0 → vs = [] := fun h0 => List.length_eq_zero_iff.1 (by omega)
  have hdj : ∀ j own' p, look s.H j = some (own', p) → j ≠ k → 0 < p.room (ρ j) → 0 < (ρ k).cap * A.sz → (ρ j).blk ≠ (ρ k).blk := fun j own' p hj hjk hpr hr =>
    Ne.symm (hs.heap.apart k j _ own' p (Ne.symm hjk) hl hj (by simpa [SO.room] using hr) hpr)
  have hcell : ∀ n, (setCells w (ρ k).blk (st * A.sz) vs).cell? (adr ρ k n) = if st * A.sz ≤ n ∧ n < st * A.sz + vs.length then vs[n - st * A.sz]? else w.cell? (adr ρ k n) := by
    intro n
    have := setCells_cell w (ρ k).blk (st * A.sz) vs (fun j hj => by
      have := (hroom (st * A.sz + j) (by omega)).1
      simpa [adr, hoff] using this) n
    simpa [adr, hoff] using this
  have hnew : SatO ρ (setCells w (ρ k).blk (st * A.sz) vs) k true (.arr (A.setXs (A.xs.take st))) := by
    refine ⟨?_, ?_, ?_, fun _ => hoff, fun _ h => by cases h⟩
    · simp only [SO.wf, Arr.setXs, List.length_take]; omega
    · intro i j c hc
      rw [setXs_cell] at hc
      show ∃ v, (setCells w (ρ k).blk (st * A.sz) vs).cell? (adr ρ k (i * A.sz + j)) = some v ∧ _
      cases hx : (A.xs.take st)[i]? with
      | none => simp [hx] at hc
      | some x =>
        simp only [hx, Option.bind_some] at hc
        have hj : j < A.sz := by have := (List.getElem?_eq_some_iff.1 hc).1; rwa [A.hl] at this
        have hi : i < st := by have := (List.getElem?_eq_some_iff.1 hx).1; rw [List.length_take] at this; omega
        rw [List.getElem?_take, if_pos hi] at hx
        have := Nat.mul_le_mul_right A.sz (show i + 1 ≤ st from hi)
        rw [Nat.add_mul] at this
        rw [hcell, if_neg (by omega)]
        exact hso.at_ i j c (by simp only [SO.cell?, hx]; exact hc)
    · intro _ _ n hn
      have hn : n < (ρ k).cap * A.sz := by simpa [SO.room, Arr.setXs] using hn
      have := hroom n hn
      rw [hcell]
      refine ⟨?_, by rw [setCells_frozen]; exact this.2⟩
      by_cases hin : st * A.sz ≤ n ∧ n < st * A.sz + vs.length
      · rw [if_pos hin]; exact ⟨vs[n - st * A.sz]'(by omega), by rw [List.getElem?_eq_getElem]⟩
      · rw [if_neg hin]; exact this.1
  have hr2 : (SO.arr (A.setXs (A.xs.take st))).room (ρ k) = (ρ k).cap * A.sz := rfl
  exact { size := hs.size, defers := hs.defers, env := hs.env
          heap := hs.heap.cons (fun j own q _ _ => ⟨rfl, fun _ _ => rfl⟩) (by rw [setCells_size]; exact Nat.le_refl _)
            (by
              by_cases hr : 0 < (ρ k).cap * A.sz
              · exact hs.heap.frmSet hl (by simpa [SO.room] using hr) _ _
              · rw [hvs (by omega)]; exact hs.heap.frm)
            (fun b _ hb => setCells_other _ _ _ _ hb)
            (fun j own' q hj hjk hq hr => hdj j own' q hj hjk hq (by rwa [hr2] at hr))
            (fun j own' q hj hjk hq => by
              by_cases hr : 0 < (ρ k).cap * A.sz
              · exact setCells_other _ _ _ _ (hdj j own' q hj hjk hq hr)
              · rw [hvs (by omega)]; rfl)
            hnew (fun _ hr => hs.heap.fresh k _ hl (by rw [hr2] at hr; simpa [SO.room] using hr))
            (fun hr => by rw [setCells_size]; exact hs.heap.valid k true _ hl (by rw [hr2] at hr; simpa [SO.room] using hr))
          bnd := hs.bnd.cons (hs.bnd.heap k true _ hl).1 (fun j hj => (hs.bnd.heap k true _ hl).2 j hj), base := hs.base, keep := hs.keep, n0 := hs.n0 }

def clearK (B : Tabs) (t : TypeId) (x : SV) (H : Heap) (K : Eff → Prop) : Prop :=
  match lookT B.T t, x with
  | some ⟨.slice el, _, _, _⟩, .c (.s k st len sz) => (match lookT B.T el with
    | some ti => bif Nat.beq ti.size sz && Nat.ble 1 sz && allOne (ti.zero.map cC) then (match look H k with
      | some (true, .arr A) => (sz = A.sz ∧ st + len ≤ A.xs.length) ∧ K ⟨.tup [], [k], [(k, true, .arr (A.setXs (A.xs.take st)))], []⟩
      | _ => False) else False
    | none => False)
  | _, _ => False

theorem zeroCells_one {z : Array Value} {n : Nat} (h : ∀ v ∈ z.toList, (∀ xs, v ≠ .agg xs) ∧ (∀ xs, v ≠ .tuple xs)) (hz : 0 < z.size) :
    ∀ v ∈ (Builtin.zeroCells z n).toList, (∀ xs, v ≠ .agg xs) ∧ (∀ xs, v ≠ .tuple xs) := by
  intro v hv
  simp only [Builtin.zeroCells, Array.toList_map, List.mem_map] at hv
  obtain ⟨i, _, rfl⟩ := hv
  have hm : i % z.size < z.size := Nat.mod_lt _ hz
  rw [getElem!_pos z _ hm]
  exact h _ (by simp)

theorem clear_step {cx : Cx} {B : Tabs} (hB : TabsOK cx.P B) {o : Oper} {e : Env} {H : Heap} {nx : Nat} {K : Eff → Prop} {c : Call} {x : Operand} {t : TypeId}
    (ho : o.op = .call c) (hc : c.callee = .builtin .clear) (hca : c.args = #[x]) (hct : c.argTypes = #[t])
    (h : clearK B t (ev e x) H K) : ∃ F, CallOK cx o e H nx F ∧ K F := by
  have hx : x ∈ o.op.operands.toList := by simp [ho, Op.operands, Call.operands, hc, hca]
  unfold clearK at h
  split at h
  · rename_i el s0 b0 z0 k st len sz ht hex
    split at h
    · rename_i ti hti
      obtain ⟨hb, h⟩ := bif_and h
      simp only [Bool.and_eq_true] at hb
      obtain ⟨⟨hb1, hb2⟩, hb3⟩ := hb
      have hb1 := Nat.eq_of_beq_eq_true hb1
      have hb2 := Nat.le_of_ble_eq_true hb2
      split at h
      · rename_i A hlk
        obtain ⟨⟨hsz, hle⟩, hK⟩ := h
        refine ⟨_, ⟨?_, fun j hj => by cases hj⟩, hK⟩
        intro ρ s a w hs hr hk _ hdst KK Q hKK
        have hl1 : look s.H k = some (true, .arr A) := by rw [hk k (by simp)]; exact hlk
        have hx1 := reads_fit hx (fun t ht => by rw [← hr t ht]; exact hs.env t)
        rw [hex] at hx1
        simp only [SV.rel, SC.rel] at hx1
        obtain ⟨ad, hxv, hcap, had⟩ := hx1
        obtain ⟨i, z, hi, hz, hisz, hiby, hzz⟩ := ti_parts hB hti
        have hzs : z.cells.size = A.sz := by
          have := congrArg List.length hzz
          rw [hB.zsz el ti hti, hb1, hsz] at this
          simpa using this
        have hone : ∀ v ∈ z.cells.toList, (∀ xs, v ≠ .agg xs) ∧ (∀ xs, v ≠ .tuple xs) := by
          intro v hv
          rw [hzz] at hv
          have := allOne_mem hb3 (List.mem_map_of_mem hv)
          exact (one_cells (ρ := ρ) this (cC_rel ρ v)).2
        have hvl : (Builtin.zeroCells z.cells len).toList.length = len * A.sz := by simp [Builtin.zeroCells, hzs]
        have hmul : st * A.sz + len * A.sz ≤ A.xs.length * A.sz := by rw [← Nat.add_mul]; exact Nat.mul_le_mul_right _ hle
        obtain ⟨hst, hsat⟩ := cut_arr (st := st) (vs := (Builtin.zeroCells z.cells len).toList) hs hl1 (by omega) (by rw [hvl]; exact hmul) (zeroCells_one hone (by omega))
        have hrun : (execOp a.eval o).run cx.P w = .ok (.value (.tuple #[])) (setCells w (ρ k).blk (st * A.sz) (Builtin.zeroCells z.cells len).toList) := by
          have hrun0 := run_builtin (P := cx.P) ho hc a w
          rw [hca, hct] at hrun0
          rw [hrun0]
          have hzv : (zeroValue el).run cx.P w = .ok z w := by simp [zeroValue, typeInfo, hi, hz]
          simp only [List.map_toArray, List.map_cons, List.map_nil, builtin, Builtin.clear_, hxv]
          rcases Nat.eq_zero_or_pos len with h0 | hpos
          · subst h0
            have e0 : (Builtin.zeroCells z.cells 0).toList = [] := by simp [Builtin.zeroCells]
            rw [e0]
            cases ad <;> simp [run_underlying (und_slice hB ht), setCells]
          · rw [had (by omega), hsz]
            obtain ⟨l', rfl⟩ : ∃ l', len = l' + 1 := ⟨len - 1, by omega⟩
            simp [run_underlying (und_slice hB ht), hzv, hst]
        refine wpIn_of_value (by simp [ho]) hrun (hKK ρ _ _ ?_ (fun _ _ => rfl))
        exact hsat.putO hdst undef_rel undef_below
      · exact h.elim
    · exact h.elim
  · exact h.elim

end Sx
end Go

namespace Go
namespace Sx

def SetObj (S : List Int) (x : Obj) : Prop :=
  ∃ es clock, x = .map es clock ∧ (∀ e ∈ es.toList, (∃ n, e.key = .int .i64 n) ∧ e.val = .bool true) ∧ ∀ n, (∃ e ∈ es.toList, e.key = .int .i64 n) ↔ n ∈ S

def setO (S : List Int) : SO := .raw (SetObj S)

theorem und_map {P : Program} {B : Tabs} (hB : TabsOK P B) {t kt et s0 b0 : Nat} {z0 : List Value} (h : lookT B.T t = some ⟨.map kt et, s0, b0, z0⟩) : P.underlying t = some (.map kt et) := by
  obtain ⟨i, d, z, hi, hd, hz, hk, hs, hb, hzz⟩ := tiOf_parts (hB.T.get h)
  cases d <;> simp [kdOf] at hk
  rw [hd, hk.1, hk.2]

theorem und_int {P : Program} {B : Tabs} (hB : TabsOK P B) {t s0 b0 : Nat} {k : IntKind} {z0 : List Value} (h : lookT B.T t = some ⟨.int k, s0, b0, z0⟩) : P.underlying t = some (.int k) := by
  obtain ⟨i, d, z, hi, hd, hz, hk, hs, hb, hzz⟩ := tiOf_parts (hB.T.get h)
  cases d <;> simp [kdOf] at hk
  rw [hd, hk]

theorem mkmap_step {cx : Cx} {o : Oper} {e : Env} {H : Heap} {nx : Nat} {K : Eff → Prop} {t : TypeId} (ho : o.op = .makeMap t none)
    (h : K ⟨.c (.m nx), [], [(nx, true, setO [])], [nx]⟩) : ∃ F, CallOK cx o e H nx F ∧ K F := by
  refine ⟨_, ⟨loc_new (by simp [ho]) (by rw [SV.below_c]; intro j hj; simp [SC.nms] at hj; omega) ?_ ?_, fun j hj => by simp at hj; subst hj; simp⟩, h⟩
  · intro n _ j hj
    simp [setO, SO.uses] at hj
  · intro ρ a w _ _
    refine ⟨.map (some w.heap.size), .map #[] 0, 0, ?_, ?_, ?_⟩
    · simp only [execOp, ho, Sem.run_bind, Option.mapM_none]
      rfl
    · simp only [SV.rel, SC.rel, upd_eq]
    · refine ⟨trivial, (fun i j c hc => by simp [setO, SO.cell?] at hc), (fun _ hx => absurd rfl (hx _)), (fun _ => by rw [upd_eq]), (fun Ψ hΨ => ?_)⟩
      cases hΨ
      rw [upd_eq]
      exact ⟨_, push_new w _, #[], 0, rfl, by simp, by simp⟩

def lookupK (B : Tabs) (et0 : TypeId) (t : TypeId) (x y : SV) (H : Heap) (K : Eff → Prop) : Prop :=
  match lookT B.T t, x, y with
  | some ⟨.map kt et, _, _, _⟩, .c (.m k), .c (.v (.int .i64 n)) => (match lookT B.T kt, look H k with
    | some ⟨.int .i64, _, _, _⟩, some (true, .raw Φ) => bif Nat.beq et et0 then
        ∃ S, Φ = SetObj S ∧ K ⟨.c (.v (.bool (decide (n ∈ S)))), [k], [], []⟩ else False
    | _, _ => False)
  | _, _, _ => False

theorem lookup_step {cx : Cx} {B : Tabs} (hB : TabsOK cx.P B) {o : Oper} {e : Env} {H : Heap} {nx : Nat} {K : Eff → Prop} {t : TypeId} {x y : Operand} (et0 : TypeId) (hz0 : ∀ w, (zeroValue et0).run cx.P w = .ok (.bool false) w) (ho : o.op = .lookup t x y false)
    (h : lookupK B et0 t (ev e x) (ev e y) H K) : ∃ F, CallOK cx o e H nx F ∧ K F := by
  have hx : x ∈ o.op.operands.toList := by simp [ho, Op.operands]
  have hy : y ∈ o.op.operands.toList := by simp [ho, Op.operands]
  unfold lookupK at h
  split at h
  · rename_i kt et s0 b0 z0 k n ht hex hey
    split at h
    · rename_i s1 b1 z1 Φ hkt hlk
      obtain ⟨he0, S, rfl, hK⟩ := bif_and h
      have he0 := Nat.eq_of_beq_eq_true he0
      subst he0
      refine ⟨_, ⟨?_, fun j hj => by cases hj⟩, hK⟩
      intro ρ s a w hs hr hk _ hdst KK Q hKK
      have hl1 : look s.H k = some (true, .raw (SetObj S)) := by rw [hk k (by simp)]; exact hlk
      have hx1 := reads_fit hx (fun t ht => by rw [← hr t ht]; exact hs.env t)
      have hy1 := reads_fit hy (fun t ht => by rw [← hr t ht]; exact hs.env t)
      rw [hex] at hx1; rw [hey] at hy1
      simp only [SV.rel, SC.rel] at hx1 hy1
      obtain ⟨ob, hob, es, clock, rfl, hes, hS⟩ := (hs.heap.reg k true _ hl1).keys _ rfl
      have hkey : MapKept.IsKey (.int .i64) (.int .i64 n) := rfl
      have hall : ∀ x ∈ es.toList, MapKept.IsKey (.int .i64) x.key := fun x hx => by obtain ⟨⟨m, hm⟩, _⟩ := hes x hx; rw [hm]; rfl
      have hrun : (execOp a.eval o).run cx.P w = .ok (.value (.bool (decide (n ∈ S)))) w := by
        rcases MapKept.findNow_spec hkey es.toList 0 hall with ⟨h1, h2⟩ | ⟨j, e', h1, h2, h3⟩
        · have hn : n ∉ S := fun hn => by obtain ⟨e', he, hk'⟩ := (hS n).2 hn; exact h2 e' he hk'
          simp only [execOp, ho, Instr.lookup, hx1, hy1, Sem.run_bind, run_underlying (und_map hB ht), Result.andThen_ok, MapKept.run_getObj_map hob, Sem.run_pure,
            MapKept.run_checkKey (und_int hB hkt) hkey, MapKept.run_findKey (und_int hB hkt) h1, hz0]
          simp [hn]
        · have hm := List.mem_of_getElem? h2
          have hn : n ∈ S := (hS n).1 ⟨e', hm, h3⟩
          simp only [execOp, ho, Instr.lookup, hx1, hy1, Sem.run_bind, run_underlying (und_map hB ht), Result.andThen_ok, MapKept.run_getObj_map hob, Sem.run_pure,
            MapKept.run_checkKey (und_int hB hkt) hkey, MapKept.run_findKey (und_int hB hkt) h1, (hes e' hm).2]
          simp [hn]
      refine wpIn_of_value (by simp [ho]) hrun (hKK ρ _ w ?_ (fun _ _ => rfl))
      exact hs.putO hdst rfl (by rw [SV.below_c]; intro j hj; cases hj)
    · exact h.elim
  · exact h.elim

def truS : SV → Bool
  | .c (.b true) => true
  | .c (.v (.bool true)) => true
  | _ => false

theorem truS_rel {ρ : Asg} {z : SV} {v : Value} (h : truS z = true) (hr : z.rel ρ v) : v = .bool true := by
  unfold truS at h
  split at h
  · exact hr
  · exact hr
  · cases h

def mapUpK (B : Tabs) (t : TypeId) (x y z : SV) (H : Heap) (K : Eff → Prop) : Prop :=
  match lookT B.T t, x, y with
  | some ⟨.map kt _, _, _, _⟩, .c (.m k), .c (.v (.int .i64 n)) => (match lookT B.T kt, look H k with
    | some ⟨.int .i64, _, _, _⟩, some (true, .raw Φ) => bif truS z then
        ∃ S, Φ = SetObj S ∧ K ⟨.c .junk, [k], [(k, true, setO (n :: S))], []⟩ else False
    | _, _ => False)
  | _, _, _ => False

theorem mapUp_step {cx : Cx} {B : Tabs} (hB : TabsOK cx.P B) {o : Oper} {e : Env} {H : Heap} {nx : Nat} {K : Eff → Prop} {t : TypeId} {x y z : Operand} (ho : o.op = .mapUpdate t x y z)
    (h : mapUpK B t (ev e x) (ev e y) (ev e z) H K) : ∃ F, CallOK cx o e H nx F ∧ K F := by
  have hx : x ∈ o.op.operands.toList := by simp [ho, Op.operands]
  have hy : y ∈ o.op.operands.toList := by simp [ho, Op.operands]
  have hz : z ∈ o.op.operands.toList := by simp [ho, Op.operands]
  unfold mapUpK at h
  split at h
  · rename_i kt et s0 b0 z0 k n ht hex hey
    split at h
    · rename_i s1 b1 z1 Φ hkt hlk
      obtain ⟨htr, S, rfl, hK⟩ := bif_and h
      refine ⟨_, ⟨?_, fun j hj => by cases hj⟩, hK⟩
      intro ρ s a w hs hr hk _ hdst KK Q hKK
      have hl1 : look s.H k = some (true, .raw (SetObj S)) := by rw [hk k (by simp)]; exact hlk
      have hx1 := reads_fit hx (fun t ht => by rw [← hr t ht]; exact hs.env t)
      have hy1 := reads_fit hy (fun t ht => by rw [← hr t ht]; exact hs.env t)
      have hz1 := reads_fit hz (fun t ht => by rw [← hr t ht]; exact hs.env t)
      rw [hex] at hx1; rw [hey] at hy1
      simp only [SV.rel, SC.rel] at hx1 hy1
      have hz1 := truS_rel htr hz1
      obtain ⟨ob, hob, es, clock, rfl, hes, hS⟩ := (hs.heap.reg k true _ hl1).keys _ rfl
      have hkey : MapKept.IsKey (.int .i64) (.int .i64 n) := rfl
      have hall : ∀ x ∈ es.toList, MapKept.IsKey (.int .i64) x.key := fun x hx => by obtain ⟨⟨m, hm⟩, _⟩ := hes x hx; rw [hm]; rfl
      have hrun : ∃ es' clock', (execOp a.eval o).run cx.P w = .ok .skip (w.putObj (ρ k).blk (.map es' clock')) ∧ SetObj (n :: S) (.map es' clock') := by
        rcases MapKept.findNow_spec hkey es.toList 0 hall with ⟨h1, h2⟩ | ⟨j, e', h1, h2, h3⟩
        · refine ⟨es.push { key := .int .i64 n, val := .bool true, born := clock }, clock + 1, ?_, _, _, rfl, ?_, ?_⟩
          · simp only [execOp, ho, Instr.mapUpdate, hx1, hy1, hz1, Sem.run_bind, run_underlying (und_map hB ht), Result.andThen_ok, MapKept.run_getObj_map hob, Sem.run_pure,
              MapKept.run_checkKey (und_int hB hkt) hkey, MapKept.run_findKey (und_int hB hkt) h1, MapKept.run_setObj_map _ hob]
            rfl
          · intro e' he
            simp only [Array.toList_push, List.mem_append, List.mem_singleton] at he
            rcases he with he | rfl
            · exact hes e' he
            · exact ⟨⟨n, rfl⟩, rfl⟩
          · intro m
            simp only [Array.toList_push, List.mem_append, List.mem_singleton]
            rw [List.mem_cons, ← hS m]
            constructor
            · rintro ⟨e', he | rfl, hk'⟩
              · exact .inr ⟨e', he, hk'⟩
              · simp at hk'; exact .inl hk'.symm
            · rintro (rfl | ⟨e', he, hk'⟩)
              · exact ⟨_, .inr rfl, rfl⟩
              · exact ⟨e', .inl he, hk'⟩
        · have hm := List.mem_of_getElem? h2
          have hn : n ∈ S := (hS n).1 ⟨e', hm, h3⟩
          have h2' : es[j]? = some e' := by simpa using h2
          refine ⟨es.modify j fun e => { e with key := .int .i64 n, val := .bool true }, clock, ?_, _, _, rfl, ?_, ?_⟩
          · simp only [execOp, ho, Instr.mapUpdate, hx1, hy1, hz1, Sem.run_bind, run_underlying (und_map hB ht), Result.andThen_ok, MapKept.run_getObj_map hob, Sem.run_pure,
              MapKept.run_checkKey (und_int hB hkt) hkey, MapKept.run_findKey (und_int hB hkt) h1, Nat.zero_add, h2', Option.map_some, Option.getD_some, h3, MapKept.run_keyThatStays hkey, MapKept.run_setObj_map _ hob]
            rfl
          · intro e1 he
            obtain ⟨i, hi⟩ := List.mem_iff_getElem?.1 he
            simp only [Array.getElem?_toList, Array.getElem?_modify] at hi
            by_cases hij : j = i
            · rw [if_pos hij] at hi
              obtain ⟨e2, h4, rfl⟩ := Option.map_eq_some_iff.1 hi
              exact ⟨⟨n, rfl⟩, rfl⟩
            · rw [if_neg hij] at hi
              exact hes e1 (List.mem_of_getElem? (i := i) (by simpa using hi))
          · intro m
            have hk := MapKept.modify_keys (es := es) j (fun e => { e with key := .int .i64 n, val := .bool true }) (fun e he => by rw [h2'] at he; cases he; exact h3.symm)
            have e1 : ∀ l : List MapEntry, (∃ e ∈ l, e.key = .int .i64 m) ↔ Value.int .i64 m ∈ l.map (·.key) := fun l => by simp [List.mem_map]
            rw [e1, hk, ← e1, hS m, List.mem_cons]
            constructor
            · exact .inr
            · rintro (rfl | h)
              · exact hn
              · exact h
      obtain ⟨es', clock', hrun, hset⟩ := hrun
      have hs' := hs.setObj hl1 (.map es' clock') hset
      refine wpIn_of_skip (by simp [ho]) hrun (hKK ρ _ _ ?_ (fun _ _ => rfl))
      exact hs'.putO (sv := .c .junk) hdst trivial (by rw [SV.below_c]; intro j hj; cases hj)
    · exact h.elim
  · exact h.elim

end Sx
end Go

namespace Go
namespace Sx

end Sx
end Go

namespace Go
namespace Sx

end Sx
end Go

namespace Go
namespace Sx

end Sx
end Go

namespace Go
namespace Sx
open Go.Sort Go.RowKit Go.Proofs Go.Lib

def encI (l : List Int) : List SC := l.map fun z => .v (.int .i64 z)

theorem encI_get {l : List Int} {j : Nat} {c : SC} (h : (encI l)[j]? = some c) : ∃ z, l[j]? = some z ∧ c = .v (.int .i64 z) := by
  unfold encI at h
  rw [List.getElem?_map] at h
  obtain ⟨z, h1, h2⟩ := Option.map_eq_some_iff.1 h
  exact ⟨z, h1, h2.symm⟩

def aRec {α : Type} (n : Nat) (f : α → List Int) (hf : ∀ x, (f x).length = n) (xs : List α) : Arr :=
  ⟨α, n, fun x => encI (f x), [], fun x => by rw [encI, List.length_map, hf], (by
    intro x c hc k hk
    obtain ⟨z, _, rfl⟩ := List.mem_map.1 hc
    cases hk), xs⟩

def encV {α : Type} (f : α → List Int) (x : α) : List Value := (f x).map (Value.int .i64)

theorem grow_of_frm {w w' : World} (h : Frm w w' []) : ∃ q os', w' = grow (w.drewN q) os' := by
  refine ⟨w'.drawn - w.drawn, w'.heap.extract w.heap.size w'.heap.size, ?_⟩
  have h1 : w'.heap = w.heap ++ w'.heap.extract w.heap.size w'.heap.size := by
    refine Array.ext_getElem? fun i => ?_
    rw [Array.getElem?_append]
    by_cases hi : i < w.heap.size
    · rw [if_pos hi]; exact h.same i hi (by simp)
    · rw [if_neg hi, Array.getElem?_extract]
      by_cases hj : i - w.heap.size < min w'.heap.size w'.heap.size - w.heap.size
      · rw [if_pos hj]; congr 1; omega
      · rw [if_neg hj]
        exact Array.getElem?_eq_none (by omega)
  have h2 : w'.drawn = w.drawn + (w'.drawn - w.drawn) := by have := h.quiet.2; omega
  have h3 := h.quiet.1
  have h4 := h.io.1
  have h5 := h.io.2
  cases w'
  cases w
  simp only [grow, World.drewN, World.mk.injEq] at *
  exact ⟨h1, h3, h2, h4, h5⟩

theorem holdsK_of {α : Type} [Inhabited α] {n : Nat} {f : α → List Int} {hf : ∀ x, (f x).length = n} {xs : List α} {ρ : Asg} {w : World} (hs : SatO ρ w 0 true (.arr (aRec n f hf xs))) :
    HoldsK (encV f) n w (ρ 0).blk 0 xs.toArray := by
  intro t ht
  rw [size_flatK] at ht
  have ht' : t < xs.length * n := by simpa using ht
  have hn : 0 < n := by
    rcases Nat.eq_zero_or_pos n with h | h
    · subst h; simp at ht'
    · exact h
  have hoff := hs.off0 rfl
  have hi : t / n < xs.length := Nat.div_lt_of_lt_mul (by rw [Nat.mul_comm]; exact ht')
  have hj : t % n < (f xs[t / n]).length := by rw [hf]; exact Nat.mod_lt _ hn
  obtain ⟨v, hv, hr⟩ := hs.at_ (t / n) (t % n) (.v (.int .i64 (f xs[t / n])[t % n])) (by
    rw [arr_cell?]
    show (xs[t / n]?).bind _ = _
    rw [List.getElem?_eq_getElem hi]
    show (encI (f xs[t / n]))[t % n]? = _
    unfold encI
    rw [List.getElem?_map, List.getElem?_eq_getElem hj]; rfl)
  have e : t / n * (SO.arr (aRec n f hf xs)).sz + t % n = t := Nat.div_add_mod' t n
  rw [e] at hv
  have hr : v = .int .i64 (f xs[t / n])[t % n] := hr
  have hw : xs.length ≤ (ρ 0).cap := hs.wf
  have hroom := hs.room rfl (by simp) t (by
    show t < (ρ 0).cap * n
    exact Nat.lt_of_lt_of_le ht' (Nat.mul_le_mul_right _ hw))
  have ha : (⟨(ρ 0).blk, 0 + t, none⟩ : Addr) = adr ρ 0 t := by simp [adr, hoff]
  rw [ha]
  refine ⟨?_, hroom.2⟩
  rw [hv, hr, get_flatK _ _ _ _ ht]
  have e2 : xs.toArray[t / n]! = xs[t / n] := by simp [hi]
  rw [e2]
  have hl : t % n < (encV f xs[t / n]).length := by rw [encV, List.length_map]; exact hj
  show _ = some ((encV f xs[t / n])[t % n]!)
  rw [getElem!_pos (encV f xs[t / n]) (t % n) hl]
  simp [encV]

theorem cmpLays_of {α : Type} [Inhabited α] {P : Program} {g : FuncId} {n : Nat} {f : α → List Int} {hf : ∀ x, (f x).length = n} {cf : α → α → Int} {HC : Heap} {np : Nat} {caps : List SV} {xs : List α} {ρ : Asg} {w : World} {cb : Array Value}
    (hn : 0 < n) (hT : ∀ x y, Triple P g ([.agg (encI (f x)), .agg (encI (f y))] ++ caps) HC np (.c (.v (.int .i64 (cf x y)))) [])
    (hHC : ∀ p ∈ HC, p.2.1 = false ∧ p.1 ≠ 0) (hcb : relVs ρ caps cb.toList) (hcap : 0 < (ρ 0).cap)
    (h : SatH w (ownB ρ ((0, true, .arr (aRec n f hf xs)) :: HC)) ρ ((0, true, .arr (aRec n f hf xs)) :: HC) w) : CmpLays P g cb (encV f) n cf (ρ 0).blk 0 xs.length w := by
  have hHC0 := hHC
  have hHC : ∀ k own o, look HC k = some (own, o) → own = false ∧ k ≠ 0 := fun k own o hk => hHC _ (look_mem hk)
  intro m os dk hs x y
  have hl0 : look ((0, true, SO.arr (aRec n f hf xs)) :: HC) 0 = some (true, .arr (aRec n f hf xs)) := by rw [look_cons, if_pos rfl]
  have hroom0 : 0 < (SO.arr (aRec n f hf xs)).room (ρ 0) := Nat.mul_pos hcap hn
  have hb0 := h.valid 0 true _ hl0 hroom0
  have hlk : ∀ k own o, look HC k = some (own, o) → look ((0, true, SO.arr (aRec n f hf xs)) :: HC) k = some (own, o) := fun k own o hk => by
    rw [look_cons, if_neg (hHC k own o hk).2]; exact hk
  have hsame : ∀ b, b < w.heap.size → b ≠ (ρ 0).blk → (sortWorldK (encV f) n w (ρ 0).blk 0 m dk os).heap[b]? = w.heap[b]? := by
    intro b hb hne
    show ((putRow id (Sort.ahead w m) (ρ 0).blk 0 (flatK (encV f) n dk)).heap ++ os)[b]? = _
    rw [Array.getElem?_append_left (by rw [size_putRow]; exact hb)]
    simp only [putRow, mapBlock, Array.getElem?_modify]
    rw [if_neg (Ne.symm hne)]; rfl
  have hsz : w.heap.size ≤ (sortWorldK (encV f) n w (ρ 0).blk 0 m dk os).heap.size := by
    show _ ≤ ((putRow id (Sort.ahead w m) (ρ 0).blk 0 (flatK (encV f) n dk)).heap ++ os).size
    rw [Array.size_append, size_putRow]
    show w.heap.size ≤ w.heap.size + _
    omega
  generalize sortWorldK (encV f) n w (ρ 0).blk 0 m dk os = W at *
  have hM : ownB ρ HC = [] := by
    refine List.eq_nil_iff_forall_not_mem.2 fun b hb => ?_
    obtain ⟨k, o, hk, _, _⟩ := mem_ownB.1 hb
    cases (hHC0 _ hk).1
  have hsat : SatH W (ownB ρ HC) ρ HC W := {
    frm := Frm.refl W _
    reg := fun k own o hk => (h.reg k own o (hlk k own o hk)).world fun hr => by
      have hne := h.apart 0 k _ own o (Ne.symm (hHC k own o hk).2) hl0 (hlk k own o hk) hroom0 hr
      exact hsame _ (h.valid k own o (hlk k own o hk) hr) (Ne.symm hne)
    apart := fun k k' o own' o' _ hk _ _ _ => by have := (hHC k true o hk).1; cases this
    fresh := fun k o hk _ => by have := (hHC k true o hk).1; cases this
    valid := fun k own o hk hr => Nat.lt_of_lt_of_le (h.valid k own o (hlk k own o hk) hr) hsz }
  have hrel : relVs ρ ([.agg (encI (f x)), .agg (encI (f y))] ++ caps) (#[Value.agg (encV f x).toArray, .agg (encV f y).toArray] ++ cb).toList := by
    have hrl : ∀ l : List Int, relL ρ (encI l) (l.map (Value.int .i64)) := by
      intro l
      induction l with
      | nil => trivial
      | cons z l ih => exact ⟨rfl, ih⟩
    rw [Array.toList_append]
    exact ⟨⟨_, rfl, hrl _⟩, ⟨_, rfl, hrl _⟩, hcb⟩
  refine ((hT x y).h ρ W _ hrel hsat).mono ?_
  rintro e w' ⟨ρ', v, _, rfl, hv, hw'⟩
  have hv : v = .int .i64 (cf x y) := hv
  refine ⟨by rw [hv], ?_⟩
  rw [hM] at hw'
  exact grow_of_frm hw'.frm

end Sx
end Go

namespace Go
namespace Sx
open Go.Sort Go.RowKit Go.Proofs Go.Lib

theorem SatH.rewriteR {α : Type} {n : Nat} {f : α → List Int} {hf : ∀ x, (f x).length = n} {ρ : Asg} {w w' : World} {xs ys : List α} {HC : Heap}
    (h : SatH w (ownB ρ ((0, true, .arr (aRec n f hf xs)) :: HC)) ρ ((0, true, .arr (aRec n f hf xs)) :: HC) w) (hsz : w.heap.size ≤ w'.heap.size)
    (hl : ys.length ≤ (ρ 0).cap) (hother : ∀ b, b < w.heap.size → b ≠ (ρ 0).blk → w'.heap[b]? = w.heap[b]?)
    (hc : ∀ i (x : α), ys[i]? = some x → ∀ j (z : Int), (f x)[j]? = some z → w'.cell? (adr ρ 0 (i * n + j)) = some (.int .i64 z))
    (hr : ∀ m, m < (ρ 0).cap * n → (∃ v, w'.cell? (adr ρ 0 m) = some v) ∧ w'.frozen? (adr ρ 0 m) = false)
    (h0 : (ρ 0).cap * n = 0 → w'.heap[(ρ 0).blk]? = w.heap[(ρ 0).blk]?) (hio : w'.os = w.os ∧ w'.output = w.output := by exact ⟨rfl, rfl⟩)
    (hq : w'.tape = w.tape ∧ w.drawn ≤ w'.drawn := by first | exact ⟨rfl, Nat.le_refl _⟩ | exact ⟨rfl, Nat.le_add_right _ _⟩) :
    SatH w (ownB ρ ((0, true, .arr (aRec n f hf xs)) :: HC)) ρ [(0, true, .arr (aRec n f hf ys))] w' := by
  have hl0 : look ((0, true, SO.arr (aRec n f hf xs)) :: HC) 0 = some (true, .arr (aRec n f hf xs)) := by rw [look_cons, if_pos rfl]
  have hs := h.reg 0 true _ hl0
  have hone : ∀ k own o, look [(0, true, SO.arr (aRec n f hf ys))] k = some (own, o) → k = 0 ∧ own = true ∧ o = .arr (aRec n f hf ys) := by
    intro k own o hk
    rw [look_cons] at hk
    by_cases hk0 : k = 0
    · rw [if_pos hk0] at hk; simp at hk; exact ⟨hk0, hk.1, hk.2.symm⟩
    · rw [if_neg hk0] at hk; simp [look] at hk
  have hroom : ∀ (zs : List α) (r : Rg), (SO.arr (aRec n f hf zs)).room r = r.cap * n := fun zs r => rfl
  have hM : ∀ b, b ∉ ownB ρ ((0, true, SO.arr (aRec n f hf xs)) :: HC) → b = (ρ 0).blk → (ρ 0).cap * n = 0 := by
    intro b hb he
    refine Nat.eq_zero_of_not_pos fun hp => hb ?_
    exact mem_ownB.2 ⟨0, _, List.mem_cons_self .., by rw [hroom]; exact hp, he⟩
  refine ⟨⟨hsz, fun b hb hm => ?_, hio, hq⟩, ?_, ?_, ?_, ?_⟩
  · by_cases he : b = (ρ 0).blk
    · rw [he]; exact h0 (hM b hm he)
    · exact hother b hb he
  · intro k own o hk
    obtain ⟨rfl, rfl, rfl⟩ := hone k own o hk
    refine ⟨hl, ?_, ?_, fun _ => hs.off0 rfl, fun _ h => by cases h⟩
    · intro i j c hcc
      rw [arr_cell?] at hcc
      have hcc : (ys[i]?).bind (fun x => (encI (f x))[j]?) = some c := hcc
      cases hx : ys[i]? with
      | none => rw [hx] at hcc; cases hcc
      | some x =>
        rw [hx] at hcc
        simp only [Option.bind_some] at hcc
        obtain ⟨z, hz, rfl⟩ := encI_get hcc
        exact ⟨_, hc i x hx j z hz, rfl⟩
    · intro _ _ m hm
      rw [hroom] at hm
      exact hr m hm
  · intro k k' o own' o' hne hk hk'
    obtain ⟨rfl, _, _⟩ := hone k true o hk
    obtain ⟨rfl, _, _⟩ := hone k' own' o' hk'
    exact absurd rfl hne
  · intro k o hk hp
    obtain ⟨rfl, _, rfl⟩ := hone k true o hk
    exact h.fresh 0 _ hl0 (by rw [hroom] at hp ⊢; exact hp)
  · intro k own o hk hp
    obtain ⟨rfl, _, rfl⟩ := hone k own o hk
    exact Nat.lt_of_lt_of_le (h.valid 0 true _ hl0 (by rw [hroom] at hp ⊢; exact hp)) hsz

def pdqL {α : Type} [Inhabited α] (cf : α → α → Int) (xs : List α) : List α := (pdq (ltOf cf) xs.toArray 0 xs.length (Lib.bitLen xs.length) true true).toList

theorem pdqL_size {α : Type} [Inhabited α] {cf : α → α → Int} (hO : SWO (ltOf cf)) (xs : List α) :
    (pdq (ltOf cf) xs.toArray 0 xs.length (Lib.bitLen xs.length) true true).size = xs.length ∧ (pdqL cf xs).Perm xs ∧
    ∀ i j, i < j → j < xs.length → ltOf cf (pdqL cf xs)[j]! (pdqL cf xs)[i]! = false := by
  obtain ⟨⟨h1, _, h3⟩, h4⟩ := pdq_sorts (ltOf cf) hO xs.toArray 0 xs.length (Lib.bitLen xs.length) true true (Nat.zero_le _) (by simp) (.inl rfl)
  have h1 : (pdq (ltOf cf) xs.toArray 0 xs.length (Lib.bitLen xs.length) true true).size = xs.length := by simpa using h1
  refine ⟨h1, ?_, ?_⟩
  · unfold pdqL
    have e1 : ∀ a : Array α, a.size = xs.length → (a.extract 0 xs.length).toList = a.toList := fun a ha => by rw [← ha]; simp
    rw [e1 _ h1, e1 _ (by simp)] at h3
    exact h3
  · intro i j hij hj
    have := h4 i j (Nat.zero_le _) hij hj
    unfold pdqL
    rw [Array.getElem!_toList, Array.getElem!_toList]
    exact this

theorem pdqL_len {α : Type} [Inhabited α] {cf : α → α → Int} (hO : SWO (ltOf cf)) (xs : List α) : (pdqL cf xs).length = xs.length := (pdqL_size hO xs).2.1.length_eq

theorem relCaps (ρ : Asg) : ∀ cs : List Nat, relVs ρ (cs.map fun k => SV.c (.p k 0 0 0)) (cs.map fun k => Value.pointer (some (adr ρ k 0)))
  | [] => trivial
  | k :: r => ⟨by simp [SV.rel, SC.rel], relCaps ρ r⟩

theorem sortF_of {α : Type} [Inhabited α] {P : Program} {F g : FuncId} {n : Nat} {f : α → List Int} (hf : ∀ x, (f x).length = n) {cf : α → α → Int} (hO : SWO (ltOf cf)) {HC : Heap} {np : Nat} (cs : List Nat) (xs : List α)
    (hn : 0 < n) (hx : xs.length ≤ 1000000) (enter : ∀ args w, (callFunc F args).run P w = .ok (.enter F args) w)
    (hcon : ∀ (cb : Array Value) (blk off cap : Nat) (d : Array α) (w : World), CmpLays P g cb (encV f) n cf blk off d.size w → HoldsK (encV f) n w blk off d → blk < w.heap.size → d.size < 4611686018427387904 →
      Calls P F #[.slice (some ⟨blk, off, none⟩) d.size cap, .func (.func g) #[] cb] w fun e w' => e = .returned (.tuple #[]) ∧ ∃ m os, w' = sortWorldK (encV f) n w blk off m (pdq (ltOf cf) d 0 d.size (Lib.bitLen d.size) true true) os)
    (hnone : ∀ (p : Option Addr) (cap : Nat) (fv : Value) (w : World), Calls P F #[.slice p 0 cap, fv] w fun e w' => e = .returned (.tuple #[]) ∧ w' = w)
    (hT : ∀ x y, Triple P g ([.agg (encI (f x)), .agg (encI (f y))] ++ cs.map fun k => SV.c (.p k 0 0 0)) HC np (.c (.v (.int .i64 (cf x y)))) [])
    (hHC : ∀ p ∈ HC, p.2.1 = false ∧ p.1 ≠ 0) :
    Triple P F [.c (.s 0 0 xs.length n), .c (.f g cs)] ((0, true, .arr (aRec n f hf xs)) :: HC) np (.tup []) [(0, true, .arr (aRec n f hf (pdqL cf xs)))] where
  enter := enter
  h ρ w vals hv hH := by
    have hl0 : look ((0, true, SO.arr (aRec n f hf xs)) :: HC) 0 = some (true, .arr (aRec n f hf xs)) := by rw [look_cons, if_pos rfl]
    have hs := hH.reg 0 true _ hl0
    have hoff := hs.off0 rfl
    have hlen := pdqL_len hO xs
    match hvl : vals.toList, hv with
    | [v, u], hv =>
      obtain ⟨⟨a, rfl, hcap, ha⟩, hu, _⟩ := hv
      have hu : u = .func (.func g) #[] (cs.map fun k => Value.pointer (some (adr ρ k 0))).toArray := hu
      subst hu
      simp only [Nat.sub_zero, Nat.zero_mul, Nat.zero_add] at hvl hcap ha
      have hvals : vals = #[.slice a xs.length (ρ 0).cap, .func (.func g) #[] (cs.map fun k => Value.pointer (some (adr ρ k 0))).toArray] := Array.toList_inj.1 (by simpa using hvl)
      subst hvals
      have hroom := fun m hm => hs.room rfl (by simp) m hm
      have hroom : ∀ m, m < (ρ 0).cap * n → (∃ v, w.cell? (adr ρ 0 m) = some v) ∧ w.frozen? (adr ρ 0 m) = false := hroom
      rcases Nat.eq_zero_or_pos xs.length with h0 | hpos
      · have hx0 := List.length_eq_zero_iff.1 h0
        subst hx0
        refine (hnone a (ρ 0).cap _ w).mono ?_
        rintro e w' ⟨rfl, rfl⟩
        refine ⟨ρ, _, fun _ _ => rfl, rfl, undef_rel, ?_⟩
        have e0 : pdqL cf ([] : List α) = [] := List.length_eq_zero_iff.1 hlen
        rw [e0]
        exact hH.rewriteR (Nat.le_refl _) (Nat.zero_le _) (fun _ _ _ => rfl) (fun i x hx => by simp at hx) hroom (fun _ => rfl)
      · have hcp : 0 < (ρ 0).cap := by omega
        have had := ha hcp
        subst had
        have hblk : (ρ 0).blk < w.heap.size := hH.valid 0 true _ hl0 (Nat.mul_pos hcp hn)
        have hHo := holdsK_of hs
        have hrelC : relVs ρ (cs.map fun k => SV.c (.p k 0 0 0)) (cs.map fun k => Value.pointer (some (adr ρ k 0))).toArray.toList := by
          exact relCaps ρ cs
        have hcl := cmpLays_of hn hT hHC hrelC hcp hH
        have ead : (some (adr ρ 0 0) : Option Addr) = some ⟨(ρ 0).blk, 0, none⟩ := by simp [adr, hoff]
        rw [ead]
        have hcc := hcon (cs.map fun k => Value.pointer (some (adr ρ k 0))).toArray (ρ 0).blk 0 (ρ 0).cap xs.toArray w (by simpa using hcl) hHo hblk (by simp; omega)
        simp only [List.size_toArray] at hcc
        refine hcc.mono ?_
        rintro e w' ⟨rfl, m, os, rfl⟩
        refine ⟨ρ, _, fun _ _ => rfl, rfl, undef_rel, ?_⟩
        obtain ⟨hsz, _, _⟩ := pdqL_size hO xs
        have hd : pdqL cf xs = (pdq (ltOf cf) xs.toArray 0 xs.length (Lib.bitLen xs.length) true true).toList := rfl
        generalize pdq (ltOf cf) xs.toArray 0 xs.length (Lib.bitLen xs.length) true true = d' at *
        rw [hd]
        have hdl : d'.toList.length = xs.length := by simpa using hsz
        have hHo1 : Holds id (Sort.ahead w m) (ρ 0).blk 0 (flatK (encV f) n xs.toArray) := hHo
        have hfs : (flatK (encV f) n d').size = (flatK (encV f) n xs.toArray).size := by rw [size_flatK, size_flatK, hsz]; simp
        have hblk2 : (ρ 0).blk < (putRowK (encV f) n (Sort.ahead w m) (ρ 0).blk 0 d').heap.size := by
          show _ < (putRow _ _ _ _ _).heap.size
          rw [size_putRow]; exact hblk
        refine hH.rewriteR ?_ (by rw [hdl]; exact hcap) ?_ ?_ ?_ (fun h => absurd h (Nat.ne_of_gt (Nat.mul_pos hcp hn)))
        · show w.heap.size ≤ ((putRow id (Sort.ahead w m) (ρ 0).blk 0 (flatK (encV f) n d')).heap ++ os).size
          rw [Array.size_append, size_putRow]
          show w.heap.size ≤ w.heap.size + _
          omega
        · intro b hb hne
          show ((putRow id (Sort.ahead w m) (ρ 0).blk 0 (flatK (encV f) n d')).heap ++ os)[b]? = _
          rw [Array.getElem?_append_left (by rw [size_putRow]; exact hb)]
          simp only [putRow, mapBlock, Array.getElem?_modify]
          rw [if_neg (Ne.symm hne)]; rfl
        · intro i x hx j z hz
          have hi : i < d'.size := by
            have := (List.getElem?_eq_some_iff.1 hx).1; simpa using this
          have hj : j < n := by rw [← hf x]; exact (List.getElem?_eq_some_iff.1 hz).1
          have hlt : i * n + j < d'.size * n := by
            have := Nat.mul_le_mul_right n (show i + 1 ≤ d'.size from hi); rw [Nat.add_mul, Nat.one_mul] at this; omega
          have e := cell?_putRow id (Sort.ahead w m) (ρ 0).blk 0 (flatK (encV f) n xs.toArray) (flatK (encV f) n d') hHo1 hfs (i * n + j) (by rw [size_flatK]; exact hlt)
          rw [show adr ρ 0 (i * n + j) = ⟨(ρ 0).blk, 0 + (i * n + j), none⟩ from by simp [adr, hoff]]
          show (grow (putRowK (encV f) n (Sort.ahead w m) (ρ 0).blk 0 d') os).cell? _ = _
          rw [cell?_grow _ _ _ hblk2]
          show (putRow id (Sort.ahead w m) (ρ 0).blk 0 (flatK (encV f) n d')).cell? _ = _
          rw [e, get_flatK _ _ _ _ hlt]
          have e1 : (i * n + j) / n = i := (blk_iff n i _ hn).1 ⟨by omega, by omega⟩
          have e2 : (i * n + j) % n = j := by rw [Nat.mod_eq_sub_div_mul, e1]; omega
          rw [e1, e2]
          have e3 : d'[i]! = x := by
            have hx2 : d'[i]? = some x := by simpa using hx
            obtain ⟨h1, h2⟩ := Array.getElem?_eq_some_iff.1 hx2
            rw [getElem!_pos d' i h1]; exact h2
          rw [e3]
          have hjl : j < (encV f x).length := by rw [encV, List.length_map, hf]; exact hj
          show some ((encV f x)[j]!) = _
          rw [getElem!_pos (encV f x) j hjl]
          obtain ⟨hjj, hjz⟩ := List.getElem?_eq_some_iff.1 hz
          congr 1
          rw [← hjz]
          exact List.getElem_map ..
        · intro t ht
          have hr := hroom t ht
          rw [show adr ρ 0 t = ⟨(ρ 0).blk, 0 + t, none⟩ from by simp [adr, hoff]] at hr ⊢
          show (∃ v, (grow (putRowK (encV f) n (Sort.ahead w m) (ρ 0).blk 0 d') os).cell? _ = some v) ∧ (grow (putRowK (encV f) n (Sort.ahead w m) (ρ 0).blk 0 d') os).frozen? _ = false
          rw [cell?_grow _ _ _ hblk2, frozen?_grow _ _ _ hblk2]
          show (∃ v, (putRow id (Sort.ahead w m) (ρ 0).blk 0 (flatK (encV f) n d')).cell? _ = some v) ∧ (putRow id (Sort.ahead w m) (ρ 0).blk 0 (flatK (encV f) n d')).frozen? _ = false
          rw [frozen?_putRow]
          refine ⟨?_, hr.2⟩
          by_cases htl : t < d'.size * n
          · exact ⟨_, cell?_putRow id (Sort.ahead w m) (ρ 0).blk 0 (flatK (encV f) n xs.toArray) (flatK (encV f) n d') hHo1 hfs t (by rw [size_flatK]; exact htl)⟩
          · rw [cell?_putRow_other _ _ _ _ _ _ (.inr (.inr (by rw [size_flatK]; simp only [Nat.zero_add]; omega)))]
            exact hr.1

end Sx
end Go

namespace Go.Proofs
open Go.Sx Go.Sort Go.RowKit

end Go.Proofs

namespace Go.Proofs
open Go.Sx

end Go.Proofs

namespace Go.Proofs
open Go.Sx

end Go.Proofs

namespace Go.Proofs
open Go.Sx

theorem shortF_tok (n : Nat) (rev : Nat → Bool) (arcs : List Lnk) (src : Nat) (hok : ∀ l ∈ arcs, ArcOK n l) : Tok n ((n + 3 : Nat) * (67108864 * arcs.length)) (shortF n rev arcs src).1 := by
  have key : ∀ (k : Nat) (B : Int) (T : Tr), Tok n B T → Tok n (B + (k + 1 : Nat) * (67108864 * arcs.length)) (roundsF n rev arcs k T).1 := by
    intro k
    induction k with
    | zero => intro B T h; exact (Tok.pass hok (h.ch (-1))).mono (by simp)
    | succ k ih =>
      intro B T h
      have e : ((k + 1 + 1 : Nat) : Int) * (67108864 * arcs.length) = (67108864 * arcs.length) + ((k + 1 : Nat) : Int) * (67108864 * arcs.length) := by
        rw [show ((k + 1 + 1 : Nat) : Int) = 1 + ((k + 1 : Nat) : Int) by omega, Int.add_mul, Int.one_mul]
      have hp : 0 ≤ ((k + 1 : Nat) : Int) * (67108864 * arcs.length) := Int.mul_nonneg (by omega) (by omega)
      simp only [roundsF]
      split
      · refine (Tok.pass hok (h.ch (-1))).mono ?_
        rw [e]; omega
      · refine (ih _ _ (Tok.pass hok (h.ch (-1)))).mono ?_
        rw [e]; omega
  exact (key (n + 2) 0 _ (Tok.start n src)).mono (by rw [Int.zero_add]; exact Int.le_refl _)

theorem mostF_bd (n : Nat) (arcs : List Lnk) (a b : Int) (hn : n ≤ 1000) (hl : arcs.length ≤ 10000) (hok : ∀ l ∈ arcs, ArcOK n l) : -700000000000000 ≤ mostF n arcs a b ∧ mostF n arcs a b ≤ 700000000000000 := by
  have h := shortF_tok n noRev arcs (plc n a) hok
  have hb : ((n + 3 : Nat) : Int) * (67108864 * arcs.length) ≤ 1003 * (67108864 * 10000) := Int.mul_le_mul (by omega) (by omega) (by omega) (by omega)
  unfold mostF
  by_cases hi : plc n b < (shortF n noRev arcs (plc n a)).1.sum.length
  · rw [List.getD_eq_getElem?_getD, List.getElem?_eq_getElem hi]
    have := h.bd _ (List.getElem_mem hi)
    simp only [Option.getD_some]
    omega
  · rw [List.getD_eq_getElem?_getD, List.getElem?_eq_none (by omega)]
    simp

theorem range_t (bs : List (Int × Int)) (ls : List Lnk) (a b : Int) (hs : SysOK bs ls) (ha : a < bs.length) (hb : b < bs.length) (hpa : withinF a (-1) (bs.length - 1) = true) (hpb : withinF b (-1) (bs.length - 1) = true)
    (lo hi : Int) (hlo : lo = - mostF bs.length (graphF bs ls 0) b a) (hhi : hi = mostF bs.length (graphF bs ls 0) a b) :
    Triple Tryz.prog 84 [.c (.p 0 0 0 0), iv .i64 a, iv .i64 b] (netH bs ls) 3 (.tup [.inr [.v (.int .i64 lo), .v (.int .i64 hi)], .inl (.v (.int .i64 0))]) [] := by
  refine triple_of tB_ok Tryz.func84 rfl Tryz.call84 rfl ?_
  intro ρ w hH
  conv=>whnf
  have hnb := hs.nb
  have hnl := hs.nl
  have hgl := graphF_len hs 0
  have hmb := mostF_bd bs.length (graphF bs ls 0) b a (by omega) (by omega) (graphF_ok hs 0)
  refine call_step (isPlace_t bs ls a (by omega)) rfl rfl ?_
  conv=>whnf
  refine ⟨?_, ?_, ?_⟩
  iterate 2 · repeat' (first | exact trivial | exact rfl | refine And.intro ?_ ?_ | ((conv=>whnf); first | exact trivial | exact rfl | refine And.intro ?_ ?_ | omega))
  conv=>whnf
  rw [hpa]
  refine ⟨fun hc => ?_, fun hc => ?_⟩
  · cases hc
  conv=>whnf
  refine call_step (isPlace_t bs ls b (by omega)) rfl rfl ?_
  conv=>whnf
  refine ⟨?_, ?_, ?_⟩
  iterate 2 · repeat' (first | exact trivial | exact rfl | refine And.intro ?_ ?_ | ((conv=>whnf); first | exact trivial | exact rfl | refine And.intro ?_ ?_ | omega))
  conv=>whnf
  rw [hpb]
  refine ⟨fun hc => ?_, fun hc => ?_⟩
  · cases hc
  conv=>whnf
  refine call_step (graphOf_t bs ls 0 (by omega) hs.boxB (by omega)) rfl rfl ?_
  conv=>whnf
  refine ⟨?_, ?_, ?_⟩
  iterate 2 · repeat' (first | exact trivial | exact rfl | refine And.intro ?_ ?_ | ((conv=>whnf); first | exact trivial | exact rfl | refine And.intro ?_ ?_ | omega))
  conv=>whnf
  refine call_step (most_t bs.length (graphF bs ls 0) b a (by omega) (by omega) (graphF_ok hs 0) hb ha) rfl rfl ?_
  conv=>whnf
  refine ⟨?_, ?_, ?_⟩
  iterate 2 · repeat' (first | exact trivial | exact rfl | refine And.intro ?_ ?_ | ((conv=>whnf); first | exact trivial | exact rfl | refine And.intro ?_ ?_ | omega))
  conv=>whnf
  refine ⟨_, wrapId ⟨by omega, by omega⟩, ?_⟩
  conv=>whnf
  refine call_step (most_t bs.length (graphF bs ls 0) a b (by omega) (by omega) (graphF_ok hs 0) ha hb) rfl rfl ?_
  conv=>whnf
  refine ⟨?_, ?_, ?_⟩
  iterate 2 · repeat' (first | exact trivial | exact rfl | refine And.intro ?_ ?_ | ((conv=>whnf); first | exact trivial | exact rfl | refine And.intro ?_ ?_ | omega))
  conv=>whnf
  repeat' (first | exact trivial | exact rfl | refine And.intro ?_ ?_ | ((conv=>whnf); first | exact trivial | exact rfl | refine And.intro ?_ ?_ | omega))

end Go.Proofs

/-
  The plain functions that the program's functions of chapter 3 compute, part 3: the greatest value of a form. Where the program would go astray the plain function says none. Conditions: none; definitions and plain lemmas.
-/
namespace Go
namespace Proofs

def befF (n : Nat) (arcs : List Lnk) (k : Nat) : Option Nat := (arcs[k / 2]?).map fun l => if k % 2 = 0 then plc n l.f else plc n l.t

end Proofs
end Go

namespace Go.Proofs
open Go.Sx

end Go.Proofs

namespace Go.Proofs
open Go.Sx

theorem befF_lt {n : Nat} {arcs : List Lnk} {k q : Nat} (h : befF n arcs k = some q) : k / 2 < arcs.length := by
  unfold befF at h
  cases hx : arcs[k / 2]? with
  | none => simp [hx] at h
  | some l => exact (List.getElem?_eq_some_iff.1 hx).1

theorem befF_eq {n : Nat} {arcs : List Lnk} {k q : Nat} (h : befF n arcs k = some q) (hlt : k / 2 < arcs.length) : q = if k % 2 = 0 then plc n arcs[k / 2].f else plc n arcs[k / 2].t := by
  unfold befF at h
  rw [List.getElem?_eq_getElem hlt] at h
  simpa using h.symm

theorem before_t (n : Nat) (arcs : List Lnk) (last : List Int) (p k q : Nat) (sm : List Int) (th : List Bool) (m : Nat) (hn : n ≤ 1000) (hm : last.length = m) (hp : last[p]? = some (k : Int)) (hkS : ¬ 9223372036854775807 < k) (hq : befF n arcs k = some q) :
    Triple Tryz.prog 261 [.c (.p 0 0 0 0), .agg [.s 2 0 m 1, .s 3 0 m 1, .s 4 0 m 1], iv .i64 p]
      [(0, false, .cells [.v (.int .i64 n), .s 1 0 arcs.length 4]), (1, false, .arr (aLink arcs)), (2, false, .arr (aInt sm)), (3, false, .arr (aBool th)), (4, false, .arr (aInt last))] 5 (iv .i64 q) [] := by
  refine triple_of tB_ok Tryz.func261 rfl Tryz.call261 rfl ?_
  intro ρ w hH
  conv=>whnf
  obtain ⟨hpl, hpe⟩ := List.getElem?_eq_some_iff.1 hp
  have hpm : p < m := by omega
  have hkl := befF_lt hq
  have hqe := befF_eq hq hkl
  have hdiv : IntKind.i64.wrap (Int.tdiv last[p] 2) = ((k / 2 : Nat) : Int) ∨ 9223372036854775807 < k := by
    rw [hpe]
    by_cases hk : 9223372036854775807 < k
    · exact .inr hk
    · exact .inl (wrapId (z := ((k / 2 : Nat) : Int)) ⟨by omega, by omega⟩)
  have hkB : ¬ 9223372036854775807 < k := hkS
  have hdiv := hdiv.resolve_right hkB
  have hmod : Int.tmod last[p] 2 = ((k % 2 : Nat) : Int) := by rw [hpe]; rfl
  obtain ⟨v, hv⟩ : ∃ v, v = last[p] := ⟨_, rfl⟩
  obtain ⟨j, hj⟩ : ∃ j, j = k / 2 := ⟨_, rfl⟩
  obtain ⟨b, hb⟩ : ∃ b, b = k % 2 := ⟨_, rfl⟩
  rw [← hj] at hdiv hkl
  rw [← hb] at hmod
  have hqe : q = if b = 0 then plc n arcs[j].f else plc n arcs[j].t := by subst hj hb; exact hqe
  refine ⟨p, rfl, hpm, hpl, ?_⟩
  conv=>whnf
  refine ⟨by decide, (j : Int), hdiv, ?_⟩
  conv=>whnf
  refine ⟨j, rfl, hkl, hkl, ?_⟩
  conv=>whnf
  refine ⟨p, rfl, hpm, hpl, ?_⟩
  conv=>whnf
  refine ⟨by decide, (b : Int), hmod, ?_⟩
  conv=>whnf
  refine ⟨fun hc => ?_, fun hc => ?_⟩
  · have hc : b = 0 := by have hc := of_decide_eq_true (show decide ((b : Int) = 0) = true by simpa using hc); omega
    rw [if_pos hc] at hqe
    conv=>whnf
    refine call_step (place_t n arcs arcs[j].f) rfl rfl ?_
    conv=>whnf
    refine ⟨?_, ?_, ?_⟩
    iterate 2 · repeat' (first | exact trivial | exact rfl | refine And.intro ?_ ?_ | ((conv=>whnf); first | exact trivial | exact rfl | refine And.intro ?_ ?_ | omega))
    conv=>whnf
    refine ⟨?_, trivial⟩
    exact congrArg _ hqe.symm
  · have hc : b ≠ 0 := by have hc := of_decide_eq_false (show decide ((b : Int) = 0) = false by simpa using hc); omega
    rw [if_neg hc] at hqe
    conv=>whnf
    refine call_step (place_t n arcs arcs[j].t) rfl rfl ?_
    conv=>whnf
    refine ⟨?_, ?_, ?_⟩
    iterate 2 · repeat' (first | exact trivial | exact rfl | refine And.intro ?_ ?_ | ((conv=>whnf); first | exact trivial | exact rfl | refine And.intro ?_ ?_ | omega))
    conv=>whnf
    refine ⟨?_, trivial⟩
    exact congrArg _ hqe.symm

end Go.Proofs

/-
  Plain lemmas, part 4: what is still to be brought to each place, as it is filled in. Conditions: none.
-/
namespace Go
namespace Proofs

end Proofs
end Go

