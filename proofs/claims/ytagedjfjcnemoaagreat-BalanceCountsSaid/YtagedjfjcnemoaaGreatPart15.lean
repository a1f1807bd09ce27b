/-
  A part of the proof that a law answers true: lemmas of a symbolic walk, plain functions, or contracts of the functions walked (B3, Pm26, Pm27, Pm28, B4, B5, B6, B7, B8, B9, Sx44, Sx31, Sx43). Conditions: none.
-/
import Derived.Test.YtagedjfjcnemoaaGreatPart14
import Derived.Test.YtagedjfjcnemoaaGreatPart11
import Derived.Test.YtagedjfjcnemoaaGreatPart07
import Derived.WideKeyRuns
set_option maxRecDepth 100000
set_option linter.unusedVariables false
set_option linter.unusedSimpArgs false
namespace Go.Proofs
open Go.Sx

abbrev SemR (r : Rd) (more : List Mom) (x : Thg → Int) (c : Mom → Int) : Prop := Sem r (objsF r) (momsF r more) x c

theorem Sem.congr {r : Rd} {more : List Mom} {x x' : Thg → Int} {c c' : Mom → Int} (h : SemR r more x c) (hx : ∀ o ∈ objsF r, x' o = x o) (hc : ∀ m ∈ momsF r more, c' m = c m) : SemR r more x' c' where
  obj o ho := by rw [hx o ho]; exact h.obj o ho
  mom m hm := by rw [hc m hm]; exact h.mom m hm
  sid m hm := by rw [hc m hm]; exact h.sid m hm
  wgh w hw := by
    rw [hx _ (objsF_mem.2 ⟨w, hw, rfl⟩), hc _ (momsF_mem.2 (.inl ⟨w, hw, rfl⟩))]; exact h.wgh w hw
  chk k hk := by rw [hc _ (momsF_mem.2 (.inr (.inl ⟨k, hk, rfl⟩)))]; exact h.chk k hk
  drf a ha b hb hab ht := by rw [hc a ha, hc b hb]; exact h.drf a ha b hb hab ht
  cvr o ho q hq hoq := by rw [hx o ho, hx q hq]; exact h.cvr o ho q hq hoq

theorem objsF_nodup (r : Rd) : (objsF r).Nodup := (distS_inc thgLt_ok _).nodup thgLt_ok.irr
theorem momsF_nodup (r : Rd) (more : List Mom) : (momsF r more).Nodup := (distS_inc momLt_ok _).nodup momLt_ok.irr

def pntF (r : Rd) (more : List Mom) (x : Thg → Int) (c : Mom → Int) : List Int := (objsF r).map x ++ (momsF r more).map c

theorem pntF_len (r : Rd) (more : List Mom) (x : Thg → Int) (c : Mom → Int) : (pntF r more x c).length = (objsF r).length + (momsF r more).length := by simp [pntF]

theorem pntF_obj {r : Rd} {more : List Mom} {x : Thg → Int} {c : Mom → Int} {o : Thg} (ho : o ∈ objsF r) : atF (pntF r more x c) (plF (objsF r) o) = x o := by
  obtain ⟨e, l⟩ := plF_mem ho
  have g := plF_get e
  rw [e]; unfold atF pntF
  rw [if_neg (by omega), Int.toNat_natCast, List.getD_eq_getElem?_getD, List.getElem?_append_left (by rw [List.length_map]; exact l), List.getElem?_map, g]; rfl

theorem pntF_mom {r : Rd} {more : List Mom} {x : Thg → Int} {c : Mom → Int} {m : Mom} (hm : m ∈ momsF r more) : atF (pntF r more x c) ((objsF r).length + plF (momsF r more) m) = c m := by
  obtain ⟨e, l⟩ := plF_mem hm
  have g := plF_get e
  rw [e]; unfold atF pntF
  rw [if_neg (by omega), show (((objsF r).length : Int) + ((momsF r more).idxOf m : Nat)).toNat = (objsF r).length + (momsF r more).idxOf m by omega, List.getD_eq_getElem?_getD, List.getElem?_append_right (by rw [List.length_map]; omega), List.length_map,
    Nat.add_sub_cancel_left, List.getElem?_map, g]; rfl

theorem sem_pnt {r : Rd} (h : RdOK r) {more : List Mom} (hm : ∀ m ∈ more, momOK r m = true) {x : Thg → Int} {c : Mom → Int} : SemR r more x c ↔ Pnt (boxR r more) (lnkR r more) (pntF r more x c) := by
  constructor
  · intro hS
    exact (pnt_sem h hm).2 ⟨pntF_len .., hS.congr (fun o ho => pntF_obj ho) (fun m hm => pntF_mom hm)⟩
  · intro hP
    exact Sem.congr ((pnt_sem h hm).1 hP).2 (fun o ho => (pntF_obj ho).symm) (fun m hm => (pntF_mom hm).symm)

theorem calm_sem {r : Rd} (h : RdOK r) {more : List Mom} (hl : more.length ≤ 2) (hm : ∀ m ∈ more, momOK r m = true) : Calm (boxR r more) (lnkR r more) 0 ↔ ∃ x c, SemR r more x c := by
  rw [calm_pnt (rd_sys h hl hm)]
  constructor
  · rintro ⟨p, hp⟩
    exact ⟨_, _, ((pnt_sem h hm).1 hp).2⟩
  · rintro ⟨x, c, hS⟩
    exact ⟨_, (sem_pnt h hm).1 hS⟩

inductive Var where
  | zero
  | obj (o : Thg)
  | mom (m : Mom)

def Var.val (x : Thg → Int) (c : Mom → Int) : Var → Int
  | .zero => 0
  | .obj o => x o
  | .mom m => c m

def Var.pl (r : Rd) (more : List Mom) : Var → Int
  | .zero => -1
  | .obj o => plF (objsF r) o
  | .mom m => (objsF r).length + plF (momsF r more) m

def Var.isIn (r : Rd) (more : List Mom) : Var → Prop
  | .zero => True
  | .obj o => o ∈ objsF r
  | .mom m => m ∈ momsF r more

theorem Var.bd {r : Rd} {more : List Mom} : ∀ {v : Var}, v.isIn r more → -1 ≤ v.pl r more ∧ v.pl r more < (boxR r more).length
  | .zero, _ => by simp only [Var.pl]; omega
  | .obj o, h => by
    obtain ⟨e, l⟩ := plF_mem (show o ∈ objsF r from h)
    rw [boxR_len]; simp only [Var.pl]; omega
  | .mom m, h => by
    obtain ⟨e, l⟩ := plF_mem (show m ∈ momsF r more from h)
    rw [boxR_len]; simp only [Var.pl]; omega

theorem Var.at_pnt {r : Rd} {more : List Mom} {x : Thg → Int} {c : Mom → Int} : ∀ {v : Var}, v.isIn r more → atF (pntF r more x c) (v.pl r more) = v.val x c
  | .zero, _ => rfl
  | .obj _, h => pntF_obj h
  | .mom _, h => pntF_mom h

theorem Var.val_at {r : Rd} {more : List Mom} {p : List Int} : ∀ {v : Var}, atF p (v.pl r more) = v.val (fun o => atF p (plF (objsF r) o)) (fun m => atF p ((objsF r).length + plF (momsF r more) m))
  | .zero => rfl
  | .obj _ => rfl
  | .mom _ => rfl

abbrev mostR (r : Rd) (more : List Mom) (a b : Int) : Int := mostF (boxR r more).length (graphF (boxR r more) (lnkR r more) 0) a b

theorem range_up {r : Rd} (h : RdOK r) {more : List Mom} (hl : more.length ≤ 2) (hm : ∀ m ∈ more, momOK r m = true) {a b : Var} (ha : a.isIn r more) (hb : b.isIn r more) {x : Thg → Int} {c : Mom → Int} (hS : SemR r more x c) :
    b.val x c - a.val x c ≤ mostR r more (a.pl r more) (b.pl r more) := by
  have := most_up (rd_sys h hl hm) ((sem_pnt h hm).1 hS) (Var.bd ha) (Var.bd hb)
  rw [Var.at_pnt ha, Var.at_pnt hb] at this
  exact this

theorem range_att {r : Rd} (h : RdOK r) {more : List Mom} (hl : more.length ≤ 2) (hm : ∀ m ∈ more, momOK r m = true) (hc : Calm (boxR r more) (lnkR r more) 0) {a b : Var} (ha : a.isIn r more) (hb : b.isIn r more) :
    ∃ x c, SemR r more x c ∧ b.val x c - a.val x c = mostR r more (a.pl r more) (b.pl r more) := by
  obtain ⟨p, hp, he⟩ := most_att2 (rd_sys h hl hm) hc (Var.bd ha) (Var.bd hb)
  exact ⟨_, _, ((pnt_sem h hm).1 hp).2, by rw [← Var.val_at, ← Var.val_at]; exact he⟩

theorem range_sem {r : Rd} (h : RdOK r) {more : List Mom} (hl : more.length ≤ 2) (hm : ∀ m ∈ more, momOK r m = true) (hc : Calm (boxR r more) (lnkR r more) 0) {a b : Var} (ha : a.isIn r more) (hb : b.isIn r more) :
    (∀ x c, SemR r more x c → -mostR r more (b.pl r more) (a.pl r more) ≤ b.val x c - a.val x c ∧ b.val x c - a.val x c ≤ mostR r more (a.pl r more) (b.pl r more)) ∧
    (∃ x c, SemR r more x c ∧ b.val x c - a.val x c = mostR r more (a.pl r more) (b.pl r more)) ∧ (∃ x c, SemR r more x c ∧ b.val x c - a.val x c = -mostR r more (b.pl r more) (a.pl r more)) := by
  refine ⟨fun x c hS => ?_, range_att h hl hm hc ha hb, ?_⟩
  · have h1 := range_up h hl hm ha hb hS
    have h2 := range_up h hl hm hb ha hS
    omega
  · obtain ⟨x, c, hS, he⟩ := range_att h hl hm hc hb ha
    exact ⟨x, c, hS, by omega⟩

instance (bs : List (Int × Int)) (ls : List Lnk) : Decidable (Calm bs ls 0) := inferInstanceAs (Decidable (_ = _))

def betweenF (bs : List (Int × Int)) (ls : List Lnk) (a b : Int) : (Int × Int) × Int :=
  if Calm bs ls 0 then ((-mostF bs.length (graphF bs ls 0) b a, mostF bs.length (graphF bs ls 0) a b), 0) else ((0, 0), 9)

def massV (r : Rd) (o : Thg) : (Int × Int) × Int := if o ∈ objsF r then betweenF (boxR r []) (lnkR r []) (-1) (plF (objsF r) o) else ((0, 0), 5)
def massF (r : Rd) (o : Thg) : (Int × Int) × Int := if checkR r = 0 then massV r o else ((0, 0), checkR r)
def lossF (r : Rd) (a b : Thg) : (Int × Int) × Int := if checkR r = 0 then (if a ∈ objsF r ∧ b ∈ objsF r then betweenF (boxR r []) (lnkR r []) (plF (objsF r) b) (plF (objsF r) a) else ((0, 0), 5)) else ((0, 0), checkR r)
def driftedF (r : Rd) (m : Mom) : (Int × Int) × Int :=
  if checkR r = 0 then (if momOK r m = true then betweenF (boxR r [m]) (lnkR r [m]) (-1) ((objsF r).length + plF (momsF r [m]) m) else ((0, 0), 1)) else ((0, 0), checkR r)
end Go.Proofs

/-
  Plain lemmas, part 26: readings in another order; capacities; which numbers there are. Conditions: none; definitions and plain lemmas.
-/
namespace Go
namespace Proofs

theorem cap_iff {bs : List Bal} {o : Thg} {v : Int} : ∀ {ws : List Wgh} {n : Int}, v ≤ ws.foldl (capStep bs o) n ↔ v ≤ n ∧ ∀ w ∈ ws, w.o = o → v ≤ (findD bs w.bal).cap
  | [], n => by simp
  | w :: r, n => by
    simp only [List.foldl_cons, List.mem_cons, forall_eq_or_imp]
    rw [cap_iff (ws := r)]
    unfold capStep
    cases hb : w.o == o with
    | true =>
      have hb : w.o = o := by simpa using hb
      simp only [cond_true]
      constructor
      · rintro ⟨h1, h2⟩; exact ⟨by omega, fun _ => by omega, h2⟩
      · rintro ⟨h1, h2, h3⟩; have := h2 hb; exact ⟨by omega, h3⟩
    | false =>
      have hb : w.o ≠ o := by simpa using hb
      simp only [cond_false]
      constructor
      · rintro ⟨h1, h2⟩; exact ⟨h1, fun h => absurd h hb, h2⟩
      · rintro ⟨h1, _, h3⟩; exact ⟨h1, h3⟩

theorem capF_iff {r : Rd} {o : Thg} {v : Int} : v ≤ capF r o ↔ v ≤ 10000000 ∧ ∀ w ∈ r.ws, w.o = o → v ≤ (findD r.bs w.bal).cap := cap_iff

theorem RdOK.cN {r : Rd} (h : RdOK r) : (r.cs.map Chk.id).Nodup := (List.nodup_append.1 h.ids).1
theorem RdOK.nN {r : Rd} (h : RdOK r) : (r.ns.map Ntc.id).Nodup := (List.nodup_append.1 (List.nodup_append.1 h.ids).2.1).1
theorem RdOK.wN {r : Rd} (h : RdOK r) : (r.ws.map Wgh.id).Nodup := (List.nodup_append.1 (List.nodup_append.1 h.ids).2.1).2.1

def allIds (r : Rd) : List Int := r.cs.map Chk.id ++ (r.ns.map Ntc.id ++ r.ws.map Wgh.id)
def idsR (r : Rd) : List Int := distS (fun a b : Int => decide (a < b)) (allIds r)

theorem intLt_ok : LtOK (fun a b : Int => decide (a < b)) where
  irr x := by simp
  tr x y z h1 h2 := by simp at *; omega
  tot x y h := by simp; omega

def lessR (r : Rd) (ids : List Int) : Rd := ⟨r.bs, r.cs.filter (fun c => !ids.contains c.id), r.ns.filter (fun n => !ids.contains n.id), r.ws.filter (fun w => !ids.contains w.id)⟩

theorem less_ok {r : Rd} (h : RdOK r) (ids : List Int) : RdOK (lessR r ids) where
  nb := h.nb
  nr := by
    have h1 := List.length_filter_le (fun c : Chk => !ids.contains c.id) r.cs
    have h2 := List.length_filter_le (fun n : Ntc => !ids.contains n.id) r.ns
    have h3 := List.length_filter_le (fun w : Wgh => !ids.contains w.id) r.ws
    have := h.nr
    show (r.cs.filter _).length + (r.ns.filter _).length + (r.ws.filter _).length ≤ 100
    omega
  bal := h.bal
  balN := h.balN
  chk c hc := h.chk c (List.mem_filter.1 hc).1
  ntc c hc := h.ntc c (List.mem_filter.1 hc).1
  wgh c hc := h.wgh c (List.mem_filter.1 hc).1
  ids := by
    refine List.Nodup.sublist ?_ h.ids
    exact (List.filter_sublist.map _).append ((List.filter_sublist.map _).append (List.filter_sublist.map _))

end Proofs
end Go

/-
  Plain lemmas, part 27: the elements of two lists by their numbers, each once; merging readings. Conditions: none; definitions and plain lemmas.
-/
namespace Go
namespace Proofs

def JoinOK {α : Type} (key : α → Int) (a b : List α) : Prop := ∀ x ∈ a ++ b, ∀ y ∈ a ++ b, key x = key y → x = y

instance {α : Type} [DecidableEq α] (key : α → Int) (a b : List α) : Decidable (JoinOK key a b) := inferInstanceAs (Decidable (∀ x ∈ a ++ b, ∀ y ∈ a ++ b, key x = key y → x = y))

end Proofs
end Go

/-
  Plain lemmas, part 28: what merging gives: valid, in either order, again. Conditions: none; definitions and plain lemmas.
-/
namespace Go
namespace Proofs

end Proofs
end Go

namespace Go.Proofs
open Go.Sx

def boxW (r : Rd) (w : Wgh) : List (Int × Int) := (boxR r [wMom w]).set (plF (objsF r) w.o).toNat (0, min (capF r w.o) (findD r.bs w.bal).cap)

theorem boxW_len (r : Rd) (w : Wgh) : (boxW r w).length = (boxR r [wMom w]).length := by simp [boxW]

theorem boxW_at {r : Rd} {w : Wgh} (ho : w.o ∈ objsF r) : (boxR r [wMom w])[(plF (objsF r) w.o).toNat]? = some (0, capF r w.o) ∧ (plF (objsF r) w.o).toNat < (boxR r [wMom w]).length := by
  obtain ⟨e, l⟩ := plF_mem ho
  have g := plF_get e
  rw [e, Int.toNat_natCast]
  refine ⟨?_, by rw [boxR_len]; omega⟩
  unfold boxR boxesR
  rw [List.getElem?_append_left (by rw [List.length_map]; exact l), List.getElem?_map, g]; rfl

theorem boxW_sys {r : Rd} (h : RdOK r) {w : Wgh} (ho : w.o ∈ objsF r) (hm : momOK r (wMom w) = true) : SysOK (boxW r w) (lnkR r [wMom w]) := by
  have hs := rd_sys h (more := [wMom w]) (by simp) (by simpa using hm)
  refine ⟨by rw [boxW_len]; exact hs.nb, hs.nl, fun b hb => ?_, fun l hl => by rw [boxW_len]; exact hs.lnk l hl⟩
  have hcap : 1 ≤ (findD r.bs w.bal).cap := by
    simp [momOK, wMom] at hm
    have := valid_bd (h.findD hm.1); omega
  have hc1 : 0 ≤ capF r w.o ∧ capF r w.o ≤ 10000000 := by
    have := hs.box _ (List.mem_of_getElem? (boxW_at ho).1)
    refine ⟨this.1, (capF_iff.1 (Int.le_refl _)).1⟩
  rcases List.mem_or_eq_of_mem_set hb with hb | rfl
  · exact hs.box b hb
  · dsimp only; omega

end Go.Proofs

namespace Go.Proofs
open Go.Sx

def rangeW (r : Rd) (w : Wgh) : Int × Int :=
  (-mostF (boxW r w).length (graphF (boxW r w) (lnkR r [wMom w]) 0) (plF (objsF r) w.o) ((objsF r).length + plF (momsF r [wMom w]) (wMom w)),
   mostF (boxW r w).length (graphF (boxW r w) (lnkR r [wMom w]) 0) ((objsF r).length + plF (momsF r [wMom w]) (wMom w)) (plF (objsF r) w.o))

def foreseeV (r : Rd) (w : Wgh) : (Int × Int) × Int :=
  if min 10000000 ((rangeW r w).2 + (findD r.bs w.bal).half) < max 0 ((rangeW r w).1 - (findD r.bs w.bal).half) then ((0, 0), 3)
  else ((max 0 ((rangeW r w).1 - (findD r.bs w.bal).half), min 10000000 ((rangeW r w).2 + (findD r.bs w.bal).half)), 0)

def foreseeF (r : Rd) (w : Wgh) : (Int × Int) × Int :=
  if checkR r = 0 then (if momOK r (wMom w) = true ∧ thgF w.o = true then (if w.o ∈ objsF r then (if Calm (boxW r w) (lnkR r [wMom w]) 0 then foreseeV r w else ((0, 0), 9)) else ((0, 0), 5)) else ((0, 0), 1)) else ((0, 0), checkR r)

end Go.Proofs

namespace Go.Proofs
open Go.Sx

def exSc : Bal := ⟨1, 2, -10, 10, 1, 1000⟩
def exGr : Thg := ⟨1, 1, 0, 1⟩
def exTa : Thg := ⟨1, 1, 0, 2⟩
def exR1 : Rd := ⟨[exSc], [], [], [⟨11, 1, 5, exGr, 500⟩]⟩
def exR2 : Rd := ⟨[exSc], [], [], [⟨11, 1, 5, exGr, 500⟩, ⟨13, 1, 5, exTa, 40⟩]⟩
def exR3 : Rd := ⟨[exSc], [⟨12, 1, 3, 100, 97⟩], [], [⟨11, 1, 5, exGr, 500⟩]⟩
def exR4 : Rd := ⟨[exSc], [⟨12, 1, 5, 100, 97⟩], [], [⟨11, 1, 5, exGr, 500⟩]⟩
def exR5 : Rd := ⟨[exSc], [⟨12, 1, 5, 100, 97⟩], [⟨14, 1, 0, 9, 4, 30⟩], [⟨11, 1, 5, exGr, 500⟩]⟩
def exR6 : Rd := ⟨[exSc], [⟨12, 1, 5, 100, 97⟩], [⟨14, 1, 0, 9, 6, 30⟩], [⟨11, 1, 5, exGr, 500⟩]⟩
theorem exT1 : massF exR1 exGr = ((488, 512), 0) := by decide +kernel
theorem exT2 : driftedF exR1 ⟨1, 5⟩ = ((-10, 10), 0) := by decide +kernel
theorem exT3 : foreseeF exR1 ⟨0, 1, 6, exGr, 0⟩ = ((495, 505), 0) := by decide +kernel
theorem exT4 : lossF exR2 exGr exTa = ((456, 464), 0) := by decide +kernel
theorem exT5 : driftedF exR3 ⟨1, 5⟩ = ((-1, 7), 0) := by decide +kernel
theorem exT6 : driftedF exR4 ⟨1, 5⟩ = ((1, 5), 0) := by decide +kernel
theorem exT7 : massF exR5 exGr = ((502, 507), 0) := by decide +kernel
theorem exT8 : massF exR6 exGr = ((0, 0), 9) := by decide +kernel
theorem exT10 : ((idsR exR5).filter fun i => !(decide (massV (lessR exR5 [i]) exGr = massF exR5 exGr))) = [11, 12, 14] := by decide +kernel
theorem exT11 : ((idsR exR6).filter fun i => decide (Calm (boxR (lessR exR6 [i]) []) (lnkR (lessR exR6 [i]) []) 0)) = [12, 14] := by decide +kernel

def ptV (pt : List Int) (i : Int) : Int := if i < 0 then 0 else pt.getD i.toNat 0

def badF (pt : List Int) (l : Lnk) : Bool :=
  (decide (l.f < 0) && decide (l.m < ptV pt l.t)) || ((decide (l.t < 0) && decide (ptV pt l.f < -l.m)) || (decide (0 ≤ l.f) && (decide (0 ≤ l.t) && decide (l.m < Go.IntKind.i64.wrap (ptV pt l.t - ptV pt l.f)))))

theorem find_two {α : Type} {p q : α → Bool} {a b : List α} (h1 : ∀ x ∈ a, p x = q x) (h2 : (∀ x ∈ a, q x = false) → ∀ x ∈ b, p x = q x) : (a ++ b).find? p = (a ++ b).find? q := by
  rw [List.find?_append, List.find?_append]
  have e : a.find? p = a.find? q := by
    clear h2
    induction a with
    | nil => rfl
    | cons x r ih =>
      rw [List.find?_cons, List.find?_cons, h1 x (by simp), ih fun y hy => h1 y (by simp [hy])]
  rw [e]
  cases hf : a.find? q with
  | some x => rfl
  | none =>
    have hn : ∀ x ∈ a, q x = false := fun x hx => by simpa using List.find?_eq_none.1 hf x hx
    have h3 := h2 hn
    clear h1 h2 e hf hn
    show b.find? p = b.find? q
    induction b with
    | nil => rfl
    | cons x r ih => rw [List.find?_cons, List.find?_cons, h3 x (by simp), ih fun y hy => h3 y (by simp [hy])]

theorem bad_one {pt : List Int} {l : Lnk} (hm : -33554432 ≤ l.m ∧ l.m ≤ 33554432) (h : (l.f < 0 ∧ 0 ≤ l.t) ∨ (l.t < 0 ∧ 0 ≤ l.f)) : badF pt l = violF pt l := by
  unfold badF violF valI ptV
  rcases h with ⟨h1, h2⟩ | ⟨h1, h2⟩
  · rw [if_neg (by omega), if_pos h1, if_neg (by omega), if_pos h1]
    simp only [decide_eq_true h1, decide_eq_false (show ¬ l.t < 0 by omega), decide_eq_false (show ¬ 0 ≤ l.f by omega), Bool.true_and, Bool.false_and, Bool.or_false]
    exact decide_eq_decide.2 (by omega)
  · rw [if_pos h1, if_neg (by omega), if_pos h1, if_neg (by omega)]
    simp only [decide_eq_true h1, decide_eq_false (show ¬ l.f < 0 by omega), decide_eq_false (show ¬ 0 ≤ l.t by omega), Bool.true_and, Bool.false_and, Bool.false_or, Bool.and_false, Bool.or_false]
    exact decide_eq_decide.2 (by omega)

theorem bad_two {pt : List Int} {l : Lnk} (h1 : 0 ≤ l.f) (h2 : 0 ≤ l.t) (ha : -16777216 ≤ pt.getD l.f.toNat 0 ∧ pt.getD l.f.toNat 0 ≤ 16777216) (hb : -16777216 ≤ pt.getD l.t.toNat 0 ∧ pt.getD l.t.toNat 0 ≤ 16777216) : badF pt l = violF pt l := by
  unfold badF violF valI ptV
  rw [if_neg (by omega), if_neg (by omega), if_neg (by omega), if_neg (by omega)]
  simp only [decide_eq_false (show ¬ l.f < 0 by omega), decide_eq_false (show ¬ l.t < 0 by omega), decide_eq_true h1, decide_eq_true h2, Bool.true_and, Bool.false_and, Bool.false_or]
  rw [wrapId ⟨by omega, by omega⟩]
  exact decide_eq_decide.2 (by omega)

theorem bad_find {bs : List (Int × Int)} {ls : List Lnk} {pt : List Int} (hs : SysOK bs ls) (hl : pt.length = bs.length) : (allF bs ls).find? (badF pt) = (allF bs ls).find? (violF pt) := by
  unfold allF
  refine find_two (fun l hlm => ?_) (fun hnone l hlm => ?_)
  · obtain ⟨i, b, hb, h | h⟩ := boxLinks_cases hlm
    · have := hs.box b (List.mem_of_getElem? hb)
      subst h
      exact bad_one (by dsimp only; omega) (.inl ⟨by dsimp only; omega, by dsimp only; omega⟩)
    · have := hs.box b (List.mem_of_getElem? hb)
      subst h
      exact bad_one (by dsimp only; omega) (.inr ⟨by dsimp only; omega, by dsimp only; omega⟩)
  · have hbox : ∀ v : Nat, v < bs.length → -16777216 ≤ pt.getD v 0 ∧ pt.getD v 0 ≤ 16777216 := by
      intro v hv
      obtain ⟨b1, b2⟩ := boxLinks_has (bs := bs) (v := 0) hv
      have hbx := hs.box _ (List.getElem_mem hv)
      have g1 := hnone _ b1
      have g2 := hnone _ b2
      rw [Nat.zero_add] at g1 g2
      unfold violF valI at g1 g2
      dsimp only at g1 g2
      rw [if_neg (by omega), if_pos (by omega), Int.toNat_natCast, decide_eq_false_iff_not] at g1
      rw [if_pos (by omega), if_neg (by omega), Int.toNat_natCast, decide_eq_false_iff_not] at g2
      omega
    obtain ⟨h1, h2, h3, h4, h5⟩ := properF_iff.1 (hs.lnk l hlm)
    by_cases hf : l.f < 0
    · exact bad_one (by omega) (.inl ⟨hf, by omega⟩)
    · by_cases ht : l.t < 0
      · exact bad_one (by omega) (.inr ⟨ht, by omega⟩)
      · exact bad_two (by omega) (by omega) (hbox _ (by omega)) (hbox _ (by omega))

end Go.Proofs

namespace Go.Proofs
open Go.Sx

def fitsF (r : Rd) (ma sh : List Int) : Int × Bool :=
  if checkR r = 0 ∧ ma.length = (objsF r).length ∧ sh.length = (momsF r []).length then (match (allF (boxR r []) (lnkR r [])).find? (badF (ma ++ sh)) with
    | some l => (l.i, false)
    | none => (0, true)) else (0, false)

theorem fits_len {r : Rd} {ma sh : List Int} (h1 : ma.length = (objsF r).length) (h2 : sh.length = (momsF r []).length) : (ma ++ sh).length = (boxR r []).length := by rw [boxR_len, List.length_append, h1, h2]

theorem fits_allows {r : Rd} (h : RdOK r) {ma sh : List Int} (h1 : ma.length = (objsF r).length) (h2 : sh.length = (momsF r []).length) :
    fitsF r ma sh = ((allowsF (boxR r []) (lnkR r []) (ma ++ sh)).1.i, (allowsF (boxR r []) (lnkR r []) (ma ++ sh)).2) := by
  have hl := fits_len h1 h2
  have hs := rd_sys h (more := []) (by simp) (by simp)
  unfold fitsF allowsF
  rw [if_pos ⟨checkR_ok.2 h, h1, h2⟩, if_pos hl, bad_find hs hl]
  cases (allF (boxR r []) (lnkR r [])).find? (violF (ma ++ sh)) with
  | some l => rfl
  | none => rfl

theorem fits_pnt {r : Rd} (h : RdOK r) {ma sh : List Int} (h1 : ma.length = (objsF r).length) (h2 : sh.length = (momsF r []).length) :
    (fitsF r ma sh).2 = true ↔ Pnt (boxR r []) (lnkR r []) (ma ++ sh) := by
  rw [fits_allows h h1 h2, pnt_allows (rd_sys h (more := []) (by simp) (by simp))]

theorem fits_sem {r : Rd} (h : RdOK r) {ma sh : List Int} (h1 : ma.length = (objsF r).length) (h2 : sh.length = (momsF r []).length) :
    (fitsF r ma sh).2 = true ↔ SemR r [] (fun o => atF ma (plF (objsF r) o)) (fun m => atF sh (plF (momsF r []) m)) := by
  rw [fits_pnt h h1 h2, pnt_sem h (more := []) (by simp)]
  have e1 : ∀ o ∈ objsF r, atF (ma ++ sh) (plF (objsF r) o) = atF ma (plF (objsF r) o) := by
    intro o ho
    obtain ⟨e, l⟩ := plF_mem ho
    rw [e]; unfold atF
    rw [if_neg (by omega), if_neg (by omega), Int.toNat_natCast, List.getD_eq_getElem?_getD, List.getD_eq_getElem?_getD, List.getElem?_append_left (by omega)]
  have e2 : ∀ m ∈ momsF r [], atF (ma ++ sh) ((objsF r).length + plF (momsF r []) m) = atF sh (plF (momsF r []) m) := by
    intro m hm
    obtain ⟨e, l⟩ := plF_mem hm
    rw [e]; unfold atF
    rw [if_neg (by omega), if_neg (by omega), Int.toNat_natCast, show (((objsF r).length : Int) + ((momsF r []).idxOf m : Nat)).toNat = ma.length + (momsF r []).idxOf m by omega, List.getD_eq_getElem?_getD, List.getD_eq_getElem?_getD,
      List.getElem?_append_right (by omega), Nat.add_sub_cancel_left]
  constructor
  · rintro ⟨_, hS⟩
    exact hS.congr (fun o ho => (e1 o ho).symm) (fun m hm => (e2 m hm).symm)
  · intro hS
    exact ⟨by rw [List.length_append, h1, h2], hS.congr e1 e2⟩

end Go.Proofs

namespace Go.Proofs
open Go.Sx

def possStep (m : Mom) (s : Int × Int × Bool) (n : Ntc) : Int × Int × Bool :=
  bif withinF m.tick n.wlo n.whi then (bif s.2.2 then (max s.1 n.slo, min s.2.1 n.shi, true) else (n.slo, n.shi, true)) else s

def possSide (b : Bal) (ns : List Ntc) (m : Mom) : Int × Int × Bool := ns.foldl (possStep m) (b.lo, b.hi, false)

structure Tiny (r : Rd) (b : Bal) : Prop where
  ok : RdOK r
  bs : r.bs = [b]
  lo : (objsF r).length ≤ 2
  lm : (momsF r []).length ≤ 2

theorem Tiny.find {r : Rd} {b : Bal} (h : Tiny r b) {id : Int} (hh : hasB r.bs id = true) : id = b.id ∧ findD r.bs id = b := by
  obtain ⟨x, hx, he, _, e⟩ := findB_some hh
  rw [h.bs] at hx
  simp at hx
  subst hx
  exact ⟨he.symm, e⟩

theorem poss_side {r : Rd} {b : Bal} (h : Tiny r b) {m : Mom} (hm : hasB r.bs m.bal = true) : (possSide b r.ns m).1 = (sideF r m).lo ∧ (possSide b r.ns m).2.1 = (sideF r m).hi := by
  obtain ⟨e1, e2⟩ := h.find hm
  rw [← side_eq, e2]
  have hn : ∀ n ∈ r.ns, n.bal = m.bal := fun n hn => by rw [e1]; exact (h.find (h.ok.n hn).1).1
  unfold possSide
  have gen : ∀ (ns : List Ntc) (s : Int × Int × Bool) (t : Sid), (∀ n ∈ ns, n.bal = m.bal) → s.1 = t.lo → s.2.1 = t.hi → s.2.2 = t.some →
      (ns.foldl (possStep m) s).1 = (ns.foldl (sideStepR m) t).lo ∧ (ns.foldl (possStep m) s).2.1 = (ns.foldl (sideStepR m) t).hi := by
    intro ns
    induction ns with
    | nil => intro s t _ h1 h2 _; exact ⟨h1, h2⟩
    | cons n q ih =>
      intro s t hq h1 h2 h3
      obtain ⟨s1, s2, s3⟩ := s
      try dsimp only at h1 h2 h3
      subst h1 h2 h3
      have hb : (n.bal == m.bal) = true := by simpa using hq n (by simp)
      refine ih _ _ (fun x hx => hq x (by simp [hx])) ?_ ?_ ?_
      all_goals
        unfold possStep sideStepR hitF
        rw [hb]
        cases withinF m.tick n.wlo n.whi with
        | false => rfl
        | true =>
          cases t.some with
          | false => rfl
          | true =>
            simp only [Bool.true_and, cond_true, Bool.not_true, Bool.false_or]
            try (cases hc : (decide (t.lo < n.slo) || (n.slo == t.lo && decide (n.id < t.loI))) <;> simp at hc ⊢ <;> omega)
            try (cases hc : (decide (n.shi < t.hi) || (n.shi == t.hi && decide (n.id < t.hiI))) <;> simp at hc ⊢ <;> omega)
  exact gen r.ns _ _ hn rfl rfl rfl

structure Poss (r : Rd) (b : Bal) (ma sh : List Int) : Prop where
  wgh : ∀ w ∈ r.ws, showsR b (atF ma (plF (objsF r) w.o)) (atF sh (plF (momsF r []) (wMom w))) w.shown = true
  chk : ∀ c ∈ r.cs, showsR b c.mass (atF sh (plF (momsF r []) (cMom c))) c.shown = true
  sid : ∀ (i : Nat) (m : Mom), (momsF r [])[i]? = some m → (possSide b r.ns m).1 ≤ sh.getD i 0 ∧ sh.getD i 0 ≤ (possSide b r.ns m).2.1
  drf : ∀ (j : Nat) (a c : Mom), (momsF r [])[j]? = some a → (momsF r [])[j + 1]? = some c → max (sh.getD (j + 1) 0 - sh.getD j 0) (sh.getD j 0 - sh.getD (j + 1) 0) ≤ b.dr * (c.tick - a.tick)
  cvr : ∀ (o q : Thg), (objsF r)[0]? = some o → (objsF r)[1]? = some q → o.lot = q.lot → o.bale = q.bale → o.smp = q.smp → o.st + 1 = q.st → ma.getD 1 0 ≤ ma.getD 0 0

theorem shows_iff {b : Bal} (hv : validF b = true) {mass shift shown : Int} (hs : 0 ≤ shown ∧ shown ≤ 10000000) : showsR b mass shift shown = true ↔ (0 ≤ mass ∧ mass ≤ b.cap) ∧ (-1000000 ≤ shift ∧ shift ≤ 1000000) ∧ mass - shift ≤ shown + b.half ∧ shift - mass ≤ b.half - shown := by
  unfold showsR canF withinF
  rw [hv]
  simp only [Bool.true_and, Bool.and_eq_true, decide_eq_true_eq]
  omega

theorem thg_st {o : Thg} (h : thgF o = true) : (1 ≤ o.st ∧ o.st ≤ 4) ∧ (o.st ≤ 2 → o.smp = 0) ∧ (3 ≤ o.st → 1 ≤ o.smp) := by
  unfold thgF withinF at h
  simp only [Bool.and_eq_true, decide_eq_true_eq] at h
  obtain ⟨_, _, h⟩ := h
  cases h1 : (o.st == 1 || o.st == 2) with
  | true =>
    rw [h1] at h
    simp at h1 h
    omega
  | false =>
    rw [h1] at h
    cases h2 : (o.st == 3 || o.st == 4) with
    | true =>
      rw [h2] at h
      simp at h2 h
      omega
    | false => rw [h2] at h; simp at h

theorem poss_sem {r : Rd} {b : Bal} (h : Tiny r b) {ma sh : List Int} : Poss r b ma sh ↔ SemR r [] (fun o => atF ma (plF (objsF r) o)) (fun m => atF sh (plF (momsF r []) m)) := by
  have hv : validF b = true := h.ok.bal b (by rw [h.bs]; simp)
  have hmI : Inc momLt (momsF r []) := distS_inc momLt_ok _
  have hoI : Inc thgLt (objsF r) := distS_inc thgLt_ok _
  have hmN := momsF_nodup r []
  have hoN := objsF_nodup r
  have atm : ∀ (j : Nat) (m : Mom), (momsF r [])[j]? = some m → atF sh (plF (momsF r []) m) = sh.getD j 0 := fun j m hj => by
    rw [plF_at hmN hj]; unfold atF; rw [if_neg (by omega), Int.toNat_natCast]
  have ato : ∀ (j : Nat) (m : Thg), (objsF r)[j]? = some m → atF ma (plF (objsF r) m) = ma.getD j 0 := fun j m hj => by
    rw [plF_at hoN hj]; unfold atF; rw [if_neg (by omega), Int.toNat_natCast]
  have hwO : ∀ w ∈ r.ws, w.o ∈ objsF r := fun w hw => objsF_mem.2 ⟨w, hw, rfl⟩
  have hwM : ∀ w ∈ r.ws, wMom w ∈ momsF r [] := fun w hw => momsF_mem.2 (.inl ⟨w, hw, rfl⟩)
  have hcM : ∀ c ∈ r.cs, cMom c ∈ momsF r [] := fun c hc => momsF_mem.2 (.inr (.inl ⟨c, hc, rfl⟩))
  have hmb : ∀ m ∈ momsF r [], hasB r.bs m.bal = true := fun m hm => by have := h.ok.mom (more := []) (by simp) hm; simp [momOK] at this; exact this.1
  have hob : ∀ o ∈ objsF r, thgF o = true := fun o ho => by
    obtain ⟨w, hw, rfl⟩ := objsF_mem.1 ho
    exact (h.ok.w hw).2.2.2.1
  constructor
  · intro hP
    have W := fun w hw => (shows_iff hv (h.ok.w hw).2.2.2.2).1 (hP.wgh w hw)
    have C := fun c hc => (shows_iff hv (h.ok.c hc).2.2.2.2).1 (hP.chk c hc)
    refine ⟨fun o ho => ?_, fun m hm => ?_, fun m hm => ?_, fun w hw => ?_, fun c hc => ?_, fun a ha c hc hac ht => ?_, fun o ho q hq hoq => ?_⟩
    · obtain ⟨w, hw, rfl⟩ := objsF_mem.1 ho
      have := W w hw
      have hcap := (valid_bd hv).2.2.2.2
      refine ⟨this.1.1, capF_iff.2 ⟨by omega, fun u hu hou => ?_⟩⟩
      rw [(h.find (h.ok.w hu).1).2]
      exact this.1.2
    · rcases momsF_mem.1 hm with ⟨w, hw, rfl⟩ | ⟨c, hc, rfl⟩ | h0
      · exact (W w hw).2.1
      · exact (C c hc).2.1
      · simp at h0
    · obtain ⟨i, hi⟩ := List.mem_iff_getElem?.1 hm
      have := hP.sid i m hi
      obtain ⟨e1, e2⟩ := poss_side h (hmb m hm)
      try dsimp only
      rw [atm i m hi, ← e1, ← e2]; exact this
    · rw [(h.find (h.ok.w hw).1).2]; exact (W w hw).2.2
    · have := (C c hc).2.2
      rw [(h.find (h.ok.c hc).1).2]
      try dsimp only
      omega
    · obtain ⟨i, hi⟩ := List.mem_iff_getElem?.1 ha
      obtain ⟨j, hj⟩ := List.mem_iff_getElem?.1 hc
      have hij : i < j := by
        rcases Nat.lt_trichotomy i j with hlt | rfl | hlt
        · exact hlt
        · rw [hi] at hj; cases hj; omega
        · have := inc_get hmI hlt hj hi
          simp [momLt] at this; omega
      have hl := h.lm
      have hjl := (List.getElem?_eq_some_iff.1 hj).1
      have hi0 : i = 0 := by omega
      have hj1 : j = 0 + 1 := by omega
      subst hi0 hj1
      have := hP.drf 0 a c hi hj
      rw [(h.find (hmb a ha)).2]
      try dsimp only
      rw [atm 0 a hi, atm (0 + 1) c hj]
      omega
    · obtain ⟨i, hi⟩ := List.mem_iff_getElem?.1 ho
      obtain ⟨k, hk⟩ := List.mem_iff_getElem?.1 hq
      have hlt : thgLt q o = true := by
        rcases hoq with ⟨h1, rfl⟩ | ⟨h1, rfl⟩ <;> (simp [thgLt]; omega)
      have hki : k < i := by
        rcases Nat.lt_trichotomy k i with hlt' | rfl | hlt'
        · exact hlt'
        · rw [hi] at hk; cases hk; rw [thgLt_ok.irr] at hlt; cases hlt
        · have := inc_get hoI hlt' hi hk
          have := thgLt_ok.tr _ _ _ this hlt
          rw [thgLt_ok.irr] at this; cases this
      have hl := h.lo
      have hil := (List.getElem?_eq_some_iff.1 hi).1
      have hk0 : k = 0 := by omega
      have hi1 : i = 1 := by omega
      subst hk0 hi1
      try dsimp only
      rw [ato 1 o hi, ato 0 q hk]
      refine hP.cvr q o hk hi ?_ ?_ ?_ ?_
      all_goals rcases hoq with ⟨h1, rfl⟩ | ⟨h1, rfl⟩ <;> first | rfl | (dsimp only; omega)
  · intro hS
    refine ⟨fun w hw => ?_, fun c hc => ?_, fun i m hi => ?_, fun j a c ha hc => ?_, fun o q ho hq h1 h2 h3 h4 => ?_⟩
    · refine (shows_iff hv (h.ok.w hw).2.2.2.2).2 ?_
      have g1 := hS.obj _ (hwO w hw)
      have g2 := hS.mom _ (hwM w hw)
      have g3 := hS.wgh w hw
      have g4 := (capF_iff.1 g1.2).2 w hw rfl
      rw [(h.find (h.ok.w hw).1).2] at g3 g4
      exact ⟨⟨g1.1, g4⟩, g2, g3⟩
    · refine (shows_iff hv (h.ok.c hc).2.2.2.2).2 ?_
      have g2 := hS.mom _ (hcM c hc)
      have g3 := hS.chk c hc
      have g4 := (h.ok.c hc).2.2.2.1
      rw [(h.find (h.ok.c hc).1).2] at g3 g4
      try dsimp only at g2 g3
      exact ⟨g4, g2, by omega, by omega⟩
    · have hm := List.mem_of_getElem? hi
      have := hS.sid m hm
      obtain ⟨e1, e2⟩ := poss_side h (hmb m hm)
      try dsimp only at this
      rw [atm i m hi, ← e1, ← e2] at this
      exact this
    · have am := List.mem_of_getElem? ha
      have cm := List.mem_of_getElem? hc
      have hlt := inc_get hmI (Nat.lt_succ_self j) ha hc
      have hb : a.bal = c.bal := by rw [(h.find (hmb a am)).1, (h.find (hmb c cm)).1]
      simp [momLt] at hlt
      have := hS.drf a am c cm hb (by omega)
      rw [(h.find (hmb a am)).2] at this
      try dsimp only at this
      rw [atm j a ha, atm (j + 1) c hc] at this
      omega
    · have om := List.mem_of_getElem? ho
      have qm := List.mem_of_getElem? hq
      have t1 := thg_st (hob o om)
      have t2 := thg_st (hob q qm)
      have hcase : (q.st = 2 ∧ o = { q with st := 1 }) ∨ (q.st = 4 ∧ o = { q with st := 3 }) := by
        have : o.st = 1 ∨ o.st = 3 := by omega
        rcases this with h5 | h5
        · refine .inl ⟨by omega, ?_⟩
          cases o; cases q
          dsimp only at h1 h2 h3 h5
          subst h1 h2 h3 h5
          rfl
        · refine .inr ⟨by omega, ?_⟩
          cases o; cases q
          dsimp only at h1 h2 h3 h5
          subst h1 h2 h3 h5
          rfl
      have := hS.cvr q qm o om hcase
      try dsimp only at this
      rw [ato 0 o ho, ato 1 q hq] at this
      exact this

end Go.Proofs

namespace Go.Proofs
open Go.Sx

structure Small (r : Rd) (b : Bal) : Prop where
  tiny : Tiny r b
  cap : b.cap ≤ 6
  lo : -2 ≤ b.lo
  hi : b.hi ≤ 2
  ns : ∀ n ∈ r.ns, -2 ≤ n.slo ∧ n.shi ≤ 2

structure InR (r : Rd) (ma sh : List Int) : Prop where
  lm : ma.length = (objsF r).length
  ls : sh.length = (momsF r []).length
  ma : ∀ x ∈ ma, 0 ≤ x ∧ x ≤ 6
  sh : ∀ x ∈ sh, -2 ≤ x ∧ x ≤ 2

theorem small_side {r : Rd} {b : Bal} (h : Small r b) {m : Mom} (hm : hasB r.bs m.bal = true) : -2 ≤ (sideF r m).lo ∧ (sideF r m).hi ≤ 2 := by
  have e := (h.tiny.find hm).2
  unfold sideF
  rw [e]
  have hns : ∀ n ∈ sortK Ntc.id r.ns, -2 ≤ n.slo ∧ n.shi ≤ 2 := fun n hn => h.ns n ((sortK_perm Ntc.id r.ns).mem_iff.1 hn)
  have gen : ∀ (ns : List Ntc) (s : Sid), (∀ n ∈ ns, -2 ≤ n.slo ∧ n.shi ≤ 2) → (-2 ≤ s.lo ∧ s.hi ≤ 2) → -2 ≤ (ns.foldl (sideStep m) s).lo ∧ (ns.foldl (sideStep m) s).hi ≤ 2 := by
    intro ns
    induction ns with
    | nil => intro s _ hs; exact hs
    | cons n q ih =>
      intro s hq hs
      refine ih _ (fun x hx => hq x (by simp [hx])) ?_
      have hn := hq n (by simp)
      unfold sideStep
      cases (n.bal == m.bal) && withinF m.tick n.wlo n.whi with
      | false => exact hs
      | true =>
        simp only [cond_true]
        cases !s.some || decide (s.lo < n.slo) <;> cases !s.some || decide (n.shi < s.hi) <;> simp only [cond_true, cond_false] <;> omega
  exact gen _ _ hns ⟨h.lo, h.hi⟩

theorem atF_map {α : Type} [DecidableEq α] {l : List α} {f : α → Int} {x : α} (h : x ∈ l) : atF (l.map f) (plF l x) = f x := by
  obtain ⟨e, _⟩ := plF_mem h
  have g := plF_get e
  rw [e]; unfold atF
  rw [if_neg (by omega), Int.toNat_natCast, List.getD_eq_getElem?_getD, List.getElem?_map, g]; rfl

theorem sem_inR {r : Rd} {b : Bal} (h : Small r b) {x : Thg → Int} {c : Mom → Int} (hS : SemR r [] x c) : InR r ((objsF r).map x) ((momsF r []).map c) ∧ Poss r b ((objsF r).map x) ((momsF r []).map c) := by
  have hr := h.tiny.ok
  refine ⟨⟨by simp, by simp, fun z hz => ?_, fun z hz => ?_⟩, (poss_sem h.tiny).2 (hS.congr (fun o ho => atF_map ho) (fun m hm => atF_map hm))⟩
  · obtain ⟨o, ho, rfl⟩ := List.mem_map.1 hz
    have := hS.obj o ho
    obtain ⟨w, hw, hwo⟩ := objsF_mem.1 ho
    have h2 := (capF_iff.1 this.2).2 w hw hwo
    rw [(h.tiny.find (hr.w hw).1).2] at h2
    have := h.cap
    omega
  · obtain ⟨m, hm, rfl⟩ := List.mem_map.1 hz
    have := hS.sid m hm
    have hb : hasB r.bs m.bal = true := by have := hr.mom (more := []) (by simp) hm; simp [momOK] at this; exact this.1
    have := small_side h hb
    omega

theorem count_none {r : Rd} {b : Bal} (h : Small r b) {o : Thg} (ho : o ∈ objsF r) (hn : ∀ ma sh, InR r ma sh → ¬ Poss r b ma sh) : massF r o = ((0, 0), 9) := by
  have hc : ¬ Calm (boxR r []) (lnkR r []) 0 := fun hc => by
    obtain ⟨x, c, hS⟩ := (calm_sem h.tiny.ok (by simp) (by simp)).1 hc
    obtain ⟨h1, h2⟩ := sem_inR h hS
    exact hn _ _ h1 h2
  unfold massF massV betweenF
  rw [if_pos (checkR_ok.2 h.tiny.ok), if_pos ho, if_neg hc]

theorem count_some {r : Rd} {b : Bal} (h : Small r b) {o : Thg} (ho : (objsF r)[0]? = some o) {least most : Int}
    (h1 : ∀ ma sh, InR r ma sh → Poss r b ma sh → least ≤ ma.getD 0 0 ∧ ma.getD 0 0 ≤ most) (h2 : ∃ ma sh, InR r ma sh ∧ Poss r b ma sh ∧ ma.getD 0 0 = least) (h3 : ∃ ma sh, InR r ma sh ∧ Poss r b ma sh ∧ ma.getD 0 0 = most) :
    massF r o = ((least, most), 0) := by
  have hr := h.tiny.ok
  have hom := List.mem_of_getElem? ho
  have pl0 : plF (objsF r) o = ((0 : Nat) : Int) := plF_at (objsF_nodup r) ho
  have at0 : ∀ ma : List Int, atF ma (plF (objsF r) o) = ma.getD 0 0 := fun ma => by rw [pl0]; rfl
  obtain ⟨m1, s1, i1, p1, v1⟩ := h2
  obtain ⟨m2, s2, i2, p2, v2⟩ := h3
  have S1 := (poss_sem h.tiny).1 p1
  have S2 := (poss_sem h.tiny).1 p2
  have hc := (calm_sem hr (more := []) (by simp) (by simp)).2 ⟨_, _, S1⟩
  obtain ⟨b1, ⟨x1, c1, t1, u1⟩, ⟨x2, c2, t2, u2⟩⟩ := range_sem hr (more := []) (by simp) (by simp) hc (a := .zero) (b := .obj o) trivial hom
  have g1 := b1 _ _ S1
  have g2 := b1 _ _ S2
  obtain ⟨j1, q1⟩ := sem_inR h t1
  obtain ⟨j2, q2⟩ := sem_inR h t2
  have f1 := h1 _ _ j1 q1
  have f2 := h1 _ _ j2 q2
  have e1 : ((objsF r).map x1).getD 0 0 = x1 o := by rw [← at0, atF_map hom]
  have e2 : ((objsF r).map x2).getD 0 0 = x2 o := by rw [← at0, atF_map hom]
  unfold massF massV betweenF
  rw [if_pos (checkR_ok.2 hr), if_pos hom, if_pos hc]
  simp only [Var.pl, Var.val, mostR, at0] at *
  refine congrArg (fun z => (z, (0 : Int))) (Prod.ext ?_ ?_)
  · show -_ = _
    omega
  · show _ = _
    omega

theorem poss_fits {r : Rd} {b : Bal} (h : Tiny r b) {ma sh : List Int} (h1 : ma.length = (objsF r).length) (h2 : sh.length = (momsF r []).length) : (fitsF r ma sh).2 = true ↔ Poss r b ma sh :=
  (fits_sem h.ok h1 h2).trans (poss_sem h).symm

end Go.Proofs

namespace Go
namespace Sx
open Go.Sort Go.RowKit Go.Proofs Go.Lib

def cmpI (a b : Int) : Int := if a < b then -1 else if b < a then 1 else 0
def orI : List Int → Int
  | [] => 0
  | x :: r => if x = 0 then orI r else x

theorem swo_of {α : Type} {cf : α → α → Int} {lt : α → α → Bool} (ok : LtOK lt) (h : ∀ x y, ltOf cf x y = lt x y) : SWO (ltOf cf) where
  irrefl x := by rw [h]; exact ok.irr x
  trans x y z h1 h2 := by rw [h] at *; exact ok.tr x y z h1 h2
  ntrans x y z h1 h2 := by
    rw [h] at *
    by_cases hxz : lt x z = true
    · exfalso
      by_cases e1 : x = y
      · subst e1; rw [hxz] at h2; cases h2
      by_cases e2 : y = z
      · subst e2; rw [hxz] at h1; cases h1
      rcases ok.tot x y e1 with h3 | h3
      · rw [h3] at h1; cases h1
      · rcases ok.tot y z e2 with h4 | h4
        · rw [h4] at h2; cases h2
        · have := ok.tr _ _ _ h4 h3
          have := ok.tr _ _ _ hxz this
          rw [ok.irr] at this; cases this
    · simpa using hxz

theorem swo_id {α : Type} {cf : α → α → Int} {key : α → Int} (h : ∀ x y, ltOf cf x y = idLt key x y) : SWO (ltOf cf) where
  irrefl x := by rw [h]; simp [idLt]
  trans x y z h1 h2 := by rw [h] at *; simp [idLt] at *; omega
  ntrans x y z h1 h2 := by rw [h] at *; simp [idLt] at *; omega

theorem pdqL_pair {α : Type} [Inhabited α] {cf : α → α → Int} (hO : SWO (ltOf cf)) (xs : List α) : (pdqL cf xs).Pairwise fun x y => ltOf cf y x = false := by
  obtain ⟨_, _, h⟩ := pdqL_size hO xs
  have hl := pdqL_len hO xs
  refine List.pairwise_iff_getElem.2 fun i j hi hj hij => ?_
  have := h i j hij (by omega)
  rw [getElem!_pos (pdqL cf xs) j hj, getElem!_pos (pdqL cf xs) i hi] at this
  exact this

theorem pdqL_perm {α : Type} [Inhabited α] {cf : α → α → Int} (hO : SWO (ltOf cf)) (xs : List α) : (pdqL cf xs).Perm xs := (pdqL_size hO xs).2.1

theorem pdqL_dist {α : Type} [Inhabited α] [DecidableEq α] {cf : α → α → Int} {lt : α → α → Bool} (ok : LtOK lt) (h : ∀ x y, ltOf cf x y = lt x y) (xs : List α) : compS (pdqL cf xs) = distS lt xs := by
  have hO := swo_of ok h
  refine distS_unique ok (compS_inc ok ((pdqL_pair hO xs).imp fun {a b} hab => by rw [← h]; exact hab)) fun z => ?_
  rw [compS_mem, (pdqL_perm hO xs).mem_iff]

theorem pdqL_le {α : Type} [Inhabited α] {cf : α → α → Int} {key : α → Int} (h : ∀ x y, ltOf cf x y = idLt key x y) (xs : List α) : (pdqL cf xs).Pairwise fun x y => key x ≤ key y :=
  (pdqL_pair (swo_id h) xs).imp fun {a b} hab => by rw [h] at hab; simp [idLt] at hab; exact hab

theorem pdqL_sort {α : Type} [Inhabited α] {cf : α → α → Int} {key : α → Int} (h : ∀ x y, ltOf cf x y = idLt key x y) {xs : List α} (hd : (xs.map key).Nodup) : pdqL cf xs = sortK key xs :=
  sortK_unique hd (pdqL_perm (swo_id h) xs) (pdqL_le h xs)

theorem cmp_id {α : Type} (key : α → Int) (x y : α) : ltOf (fun x y => cmpI (key x) (key y)) x y = idLt key x y := by
  unfold ltOf cmpI idLt
  refine decide_eq_decide.2 ?_
  dsimp only
  by_cases h : key x < key y
  · rw [if_pos h]; omega
  · rw [if_neg h]; split <;> omega

theorem cmp_thg (x y : Thg) : ltOf (fun x y : Thg => orI [cmpI x.lot y.lot, cmpI x.bale y.bale, cmpI x.smp y.smp, cmpI x.st y.st]) x y = thgLt x y := by
  unfold ltOf thgLt
  simp only [orI, cmpI]
  by_cases a1 : x.lot < y.lot
  · simp [a1]
  by_cases a2 : y.lot < x.lot
  · simp [a1, a2]; omega
  have a3 : x.lot = y.lot := by omega
  by_cases b1 : x.bale < y.bale
  · simp [a1, a2, a3, b1]
  by_cases b2 : y.bale < x.bale
  · simp [a1, a2, a3, b1, b2]; omega
  have b3 : x.bale = y.bale := by omega
  by_cases c1 : x.smp < y.smp
  · simp [a1, a2, a3, b1, b2, b3, c1]
  by_cases c2 : y.smp < x.smp
  · simp [a1, a2, a3, b1, b2, b3, c1, c2]; omega
  have c3 : x.smp = y.smp := by omega
  by_cases d1 : x.st < y.st
  · simp [a3, b3, c3, d1]
  by_cases d2 : y.st < x.st
  · simp [a3, b3, c3, d1, d2]
  have d3 : x.st = y.st := by omega
  simp [a3, b3, c3, d3]

theorem cmp_mom (x y : Mom) : ltOf (fun x y : Mom => orI [cmpI x.bal y.bal, cmpI x.tick y.tick]) x y = momLt x y := by
  unfold ltOf momLt
  simp only [orI, cmpI]
  by_cases a1 : x.bal < y.bal
  · simp [a1]
  by_cases a2 : y.bal < x.bal
  · simp [a1, a2]; omega
  have a3 : x.bal = y.bal := by omega
  by_cases d1 : x.tick < y.tick
  · simp [a3, d1]
  by_cases d2 : y.tick < x.tick
  · simp [a3, d1, d2]
  have d3 : x.tick = y.tick := by omega
  simp [a3, d3]

end Sx
end Go

namespace Go
namespace Sx

theorem aggI_inj {a b : List Int} (h : aggI a = aggI b) : a = b := by
  unfold aggI at h
  simp only [Value.agg.injEq] at h
  have h2 : a.map (Value.int .i64) = b.map (Value.int .i64) := by
    have := congrArg Array.toList h
    simpa using this
  exact (List.map_inj_right (fun x y hxy => by cases hxy; rfl)).1 h2

theorem run_checkKey_ints {P : Program} {t : TypeId} (em : Bool) (m : Nat) (hu : P.underlying t = some (.struct (P.fieldsOf t))) (hf : intFs P (P.fieldsOf t).toList 0 = true) (xs : List Int) (hn : xs.length = (P.fieldsOf t).toList.length) (w : World) :
    (Instr.checkKey em (m + 1 + 1) t (aggI xs)).run P w = .ok () w := by
  rw [Instr.checkKey]
  unfold aggI
  simp only [Sem.run_bind, run_underlying hu, Result.andThen_ok]
  rw [← Array.forIn_toList]
  have hj : xs.length = 0 + (P.fieldsOf t).toList.length := by omega
  clear hn hu
  generalize (P.fieldsOf t).toList = L at hf hj
  generalize (0 : Nat) = j at hf hj
  induction L generalizing j with
  | nil => simp
  | cons f L ih =>
    simp only [intFs, Bool.and_eq_true] at hf
    obtain ⟨h1, h2, h3, h4⟩ := hf
    have h1 : f.name ≠ "_" := by simpa using h1
    have h2 : f.offset = j := by simpa using h2
    have h3 := isI64_eq h3
    simp only [List.length_cons] at hj
    have hjx : j < xs.length := by omega
    have hp := run_part_int (P := P) (t := f.type) (cs := (xs.map (Value.int .i64)).toArray) (off := j) (v := .int .i64 xs[j]) w h3 (by simp [hjx])
    have hc : (Instr.checkKey em (m + 1) f.type (.int .i64 xs[j])).run P w = .ok () w := by simp [Instr.checkKey, run_underlying h3]
    have := ih (j + 1) h4 (by omega)
    simp only [List.forIn_cons, if_pos h1, Sem.run_bind, h2, hp, Result.andThen_ok, hc, Sem.run_pure]
    exact this

theorem findAsking_ints {P : Program} {t n : Nat} {L : List (Nat × Nat)} (hE : EqOK P L) (hm : (t, n) ∈ L) (ks : List Int) (hk : ks.length = n) (w : World) : ∀ (l : List MapEntry) (i : Nat), (∀ e ∈ l, ∃ ks' : List Int, ks'.length = n ∧ e.key = aggI ks') →
    ((Instr.findAsking t (aggI ks) l i).run P w = .ok none w ∧ ∀ e ∈ l, e.key ≠ aggI ks) ∨
    (∃ j e, (Instr.findAsking t (aggI ks) l i).run P w = .ok (some (i + j, e.val)) w ∧ l[j]? = some e ∧ e.key = aggI ks)
  | [], i, _ => .inl ⟨by simp [Instr.findAsking], by simp⟩
  | e :: l, i, h => by
    obtain ⟨ks', hl, he⟩ := h e (by simp)
    have heq := (hE t n hm ks ks' hk hl w (.tmp 0) (.tmp 0)).2.2
    rw [← he] at heq
    by_cases hkk : ks = ks'
    · refine .inr ⟨0, e, ?_, rfl, by rw [he, hkk]⟩
      have hb : (ks == ks') = true := by simpa using hkk
      simp [Instr.findAsking, Sem.run_bind, heq, hb]
    · have hb : (ks == ks') = false := by simpa using hkk
      have hne : e.key ≠ aggI ks := by rw [he]; intro h; exact hkk (aggI_inj h).symm
      have hrun : (Instr.findAsking t (aggI ks) (e :: l) i).run P w = (Instr.findAsking t (aggI ks) l (i + 1)).run P w := by
        simp [Instr.findAsking, Sem.run_bind, heq, hb]
      rcases findAsking_ints hE hm ks hk w l (i + 1) (fun e he => h e (by simp [he])) with ⟨h1, h2⟩ | ⟨j, e', h1, h2, h3⟩
      · refine .inl ⟨by rw [hrun, h1], fun e' he' => ?_⟩
        rcases List.mem_cons.1 he' with rfl | he'
        · exact hne
        · exact h2 e' he'
      · exact .inr ⟨j + 1, e', by rw [hrun, h1, show i + 1 + j = i + (j + 1) from by omega], by simpa using h2, h3⟩

def SetKObj (n : Nat) (S : List (List Int)) (x : Obj) : Prop :=
  ∃ es clock, x = .map es clock ∧ (∀ e ∈ es.toList, ∃ ks, ks ∈ S ∧ e.key = aggI ks ∧ e.val = .bool true) ∧ (∀ ks ∈ S, ∃ e ∈ es.toList, e.key = aggI ks) ∧ ∀ ks ∈ S, ks.length = n

def intsSC : List SC → Option (List Int)
  | [] => some []
  | .v (.int .i64 z) :: r => match intsSC r with
    | some l => some (z :: l)
    | none => none
  | _ :: _ => none

theorem intsSC_rel {ρ : Asg} : ∀ {l : List SC} {ks : List Int} {vs : List Value}, intsSC l = some ks → relL ρ l vs → vs = ks.map (Value.int .i64)
  | [], ks, vs, h, hr => by
    cases h
    cases vs with
    | nil => rfl
    | cons v vs => exact hr.elim
  | c :: r, ks, [], _, hr => hr.elim
  | c :: r, ks, v :: vs, h, hr => by
    cases c with
    | v x =>
      cases x with
      | int k z =>
        cases k <;> simp only [intsSC] at h <;> try (cases h; done)
        cases hl : intsSC r with
        | none => rw [hl] at h; cases h
        | some l =>
          rw [hl] at h
          cases h
          have h1 : v = .int .i64 z := hr.1
          rw [h1, intsSC_rel hl hr.2]; rfl
      | _ => simp [intsSC] at h
    | _ => simp [intsSC] at h

def lookupSK (B : Tabs) (et0 : TypeId) (kt0 n : Nat) (t : TypeId) (x y : SV) (H : Heap) (K : Eff → Prop) : Prop :=
  match lookT B.T t, x, y with
  | some ⟨.map kt et, _, _, _⟩, .c (.m k), .agg l => (match look H k, intsSC l with
    | some (true, .raw Φ), some ks => bif Nat.beq et et0 && (Nat.beq kt kt0 && Nat.beq (lenL ks) n) then
        ∃ S, Φ = SetKObj n S ∧ K ⟨.c (.v (.bool (decide (ks ∈ S)))), [k], [], []⟩ else False
    | _, _ => False)
  | _, _, _ => False
where lenL : List Int → Nat
  | [] => 0
  | _ :: r => lenL r + 1

theorem lenL_eq (l : List Int) : lookupSK.lenL l = l.length := by induction l <;> simp [lookupSK.lenL, *]

end Sx
end Go

namespace Go
namespace Sx

def encB (s : Bool) (l : List Int) : Value := bif s then aggI l else .int .i64 (l.headD 0)

structure KeyOK (P : Program) (kt : TypeId) (s : Bool) (n : Nat) : Prop where
  chk : ∀ (em : Bool) (ks : List Int) (w : World), ks.length = n → (Instr.checkKey em 10000 kt (encB s ks)).run P w = .ok () w
  find : ∀ (ks : List Int) (es : List MapEntry) (w : World), ks.length = n → (∀ e ∈ es, ∃ ks' : List Int, ks'.length = n ∧ e.key = encB s ks') →
    ((Instr.findKey kt (encB s ks) es).run P w = .ok none w ∧ ∀ e ∈ es, e.key ≠ encB s ks) ∨
    (∃ j e, (Instr.findKey kt (encB s ks) es).run P w = .ok (some (j, e.val)) w ∧ es[j]? = some e ∧ e.key = encB s ks)
  inj : ∀ ks ks' : List Int, ks.length = n → ks'.length = n → encB s ks = encB s ks' → ks = ks'

theorem keyOK_int {P : Program} {kt : TypeId} (h : P.underlying kt = some (.int .i64)) : KeyOK P kt false 1 where
  chk em ks w hk := MapKept.run_checkKey h (show MapKept.IsKey (.int .i64) (.int .i64 _) from rfl) em 9999
  find ks es w hk hes := by
    have hkey : MapKept.IsKey (.int .i64) (.int .i64 (ks.headD 0)) := rfl
    have hall : ∀ x ∈ es, MapKept.IsKey (.int .i64) x.key := fun x hx => by obtain ⟨ks', _, he⟩ := hes x hx; rw [he]; rfl
    rcases MapKept.findNow_spec hkey es 0 hall with ⟨h1, h2⟩ | ⟨j, e', h1, h2, h3⟩
    · exact .inl ⟨MapKept.run_findKey h h1, h2⟩
    · exact .inr ⟨j, e', by rw [Nat.zero_add] at h1; exact MapKept.run_findKey h h1, h2, h3⟩
  inj ks ks' h1 h2 he := by
    match ks, ks', h1, h2 with
    | [a], [b], _, _ =>
      have : (Value.int .i64 a) = .int .i64 b := he
      cases this; rfl

theorem keyOK_rec {P : Program} {kt n : Nat} {L : List (Nat × Nat)} (hE : EqOK P L) (hm : (kt, n) ∈ L)
    (hu : P.underlying kt = some (.struct (P.fieldsOf kt))) (hf : intFs P (P.fieldsOf kt).toList 0 = true) (hfn : (P.fieldsOf kt).toList.length = n) : KeyOK P kt true n where
  chk em ks w hk := run_checkKey_ints em 9998 hu hf ks (by omega) w
  find ks es w hk hes := by
    have hwide : (match P.underlying kt with | some (.array _ _) | some (.struct _) => true | _ => false) = true := by rw [hu]
    rw [run_findKey_eq w hwide]
    rcases findAsking_ints hE hm ks hk w es 0 hes with ⟨h1, h2⟩ | ⟨j, e', h1, h2, h3⟩
    · exact .inl ⟨h1, h2⟩
    · exact .inr ⟨j, e', by rw [Nat.zero_add] at h1; exact h1, h2, h3⟩
  inj ks ks' h1 h2 he := aggI_inj he

abbrev KVs : Type := List (List Int × List Int)

def DistK (S : KVs) : Prop := (S.map Prod.fst).Nodup

def KVObj (ks vs : Bool) (n : Nat) (S : KVs) (x : Obj) : Prop :=
  ∃ es clock, x = .map es clock ∧ es.toList.map (fun e => (e.key, e.val)) = S.map (fun p => (encB ks p.1, encB vs p.2)) ∧ (∀ p ∈ S, p.1.length = n) ∧ DistK S

def kvO (ks vs : Bool) (n : Nat) (S : KVs) : SO := .raw (KVObj ks vs n S)

def lookKV (S : KVs) (k z : List Int) : List Int × Bool := match S.find? (fun p => p.1 == k) with
  | some p => (p.2, true)
  | none => (z, false)

theorem mkmapKV_step {cx : Cx} {o : Oper} {e : Env} {H : Heap} {nx : Nat} {K : Eff → Prop} {t : TypeId} (ks vs : Bool) (n : Nat) (ho : o.op = .makeMap t none)
    (h : K ⟨.c (.m nx), [], [(nx, true, kvO ks vs n [])], [nx]⟩) : ∃ F, CallOK cx o e H nx F ∧ K F := by
  refine ⟨_, ⟨loc_new (by simp [ho]) (by rw [SV.below_c]; intro j hj; simp [SC.nms] at hj; omega) ?_ ?_, fun j hj => by simp at hj; subst hj; simp⟩, h⟩
  · intro n _ j hj
    simp [kvO, SO.uses] at hj
  · intro ρ a w _ _
    refine ⟨.map (some w.heap.size), .map #[] 0, 0, ?_, ?_, ?_⟩
    · simp only [execOp, ho, Sem.run_bind, Option.mapM_none]
      rfl
    · simp only [SV.rel, SC.rel, upd_eq]
    · refine ⟨trivial, (fun i j c hc => by simp [kvO, SO.cell?] at hc), (fun _ hx => absurd rfl (hx _)), (fun _ => by rw [upd_eq]), (fun Ψ hΨ => ?_)⟩
      cases hΨ
      rw [upd_eq]
      exact ⟨_, push_new w _, #[], 0, rfl, by simp, by simp, List.nodup_nil⟩

def intsSV (s : Bool) : SV → Option (List Int)
  | .c (.v (.int .i64 z)) => bif s then none else some [z]
  | .agg l => bif s then intsSC l else none
  | _ => none

theorem intsSV_rel {ρ : Asg} {s : Bool} {y : SV} {l : List Int} {v : Value} (h : intsSV s y = some l) (hr : y.rel ρ v) : v = encB s l := by
  unfold intsSV at h
  split at h
  · cases s with
    | true => cases h
    | false => cases h; exact hr
  · cases s with
    | false => cases h
    | true =>
      obtain ⟨xs, rfl, hx⟩ := hr
      have := intsSC_rel (show intsSC _ = some l from h) hx
      show Value.agg xs = .agg _
      congr 1
      exact Array.toList_inj.1 (by rw [this])
  · cases h

def svB (s : Bool) (l : List Int) : SV := bif s then .agg (encI l) else .c (.v (.int .i64 (l.headD 0)))
def sumB (s : Bool) (l : List Int) : Sum SC (List SC) := bif s then .inr (encI l) else .inl (.v (.int .i64 (l.headD 0)))

theorem relEncI (ρ : Asg) : ∀ l : List Int, relL ρ (encI l) (l.map (Value.int .i64))
  | [] => trivial
  | _ :: l => ⟨rfl, relEncI ρ l⟩

theorem svB_rel (ρ : Asg) (s : Bool) (l : List Int) : (svB s l).rel ρ (encB s l) := by
  cases s with
  | false => exact rfl
  | true => exact ⟨_, rfl, relEncI ρ l⟩

theorem usesL_encI (ks : List Nat) : ∀ l : List Int, usesL ks (encI l) = false
  | [] => rfl
  | _ :: l => usesL_encI ks l

theorem svB_uses (ks : List Nat) (s : Bool) (l : List Int) : (svB s l).uses ks = false := by
  cases s with
  | false => rfl
  | true => exact usesL_encI ks l

def lookKVK (B : Tabs) (kt0 et0 : TypeId) (ks vs : Bool) (n : Nat) (z0 : List Int) (ok : Bool) (t : TypeId) (x y : SV) (H : Heap) (K : Eff → Prop) : Prop :=
  match lookT B.T t, x, intsSV ks y with
  | some ⟨.map kt et, _, _, _⟩, .c (.m k), some l => (match look H k with
    | some (_, .raw Φ) => bif Nat.beq et et0 && (Nat.beq kt kt0 && Nat.beq (lookupSK.lenL l) n) then
        ∃ S v is, Φ = KVObj ks vs n S ∧ lookKV S l z0 = (v, is) ∧ K ⟨bif ok then .tup [sumB vs v, .inl (.v (.bool is))] else svB vs v, [k], [], []⟩ else False
    | _ => False)
  | _, _, _ => False

theorem kv_find {ks vs : Bool} {n : Nat} {S : KVs} {es : List MapEntry} {P : Program} {kt : TypeId} (hK : KeyOK P kt ks n) (h : es.map (fun e => (e.key, e.val)) = S.map (fun p => (encB ks p.1, encB vs p.2))) (hn : ∀ p ∈ S, p.1.length = n) :
    ∀ e ∈ es, ∃ ks' : List Int, ks'.length = n ∧ e.key = encB ks ks' := by
  intro e he
  have : (e.key, e.val) ∈ S.map (fun p => (encB ks p.1, encB vs p.2)) := by rw [← h]; exact List.mem_map.2 ⟨e, he, rfl⟩
  obtain ⟨p, hp, hpe⟩ := List.mem_map.1 this
  exact ⟨p.1, hn p hp, (congrArg Prod.fst hpe).symm⟩

theorem lookKV_get {S : KVs} {k z : List Int} {p : List Int × List Int} {j : Nat} (hd : DistK S) (h : S[j]? = some p) (hk : p.1 = k) : lookKV S k z = (p.2, true) := by
  unfold lookKV
  induction S generalizing j with
  | nil => simp at h
  | cons q S ih =>
    have hd' : q.1 ∉ S.map Prod.fst ∧ DistK S := by
      have := List.nodup_cons.1 (show (q.1 :: S.map Prod.fst).Nodup from hd); exact this
    cases j with
    | zero =>
      simp at h; subst h
      simp [hk]
    | succ j =>
      have h : S[j]? = some p := by simpa using h
      have hm : p.1 ∈ S.map Prod.fst := List.mem_map.2 ⟨p, List.mem_of_getElem? h, rfl⟩
      have hne : ¬ q.1 = k := fun e => hd'.1 (by rw [e, ← hk]; exact hm)
      have hb : (q.1 == k) = false := by simpa using hne
      rw [List.find?_cons_of_neg (by simp [hb])]
      exact ih hd'.2 h

theorem lookKV_none {S : KVs} {k z : List Int} (h : ∀ p ∈ S, p.1 ≠ k) : lookKV S k z = (z, false) := by
  unfold lookKV
  rw [List.find?_eq_none.2 (fun p hp => by simpa using h p hp)]

theorem lookKV_step {cx : Cx} {B : Tabs} (hB : TabsOK cx.P B) {o : Oper} {e : Env} {H : Heap} {nx : Nat} {K : Eff → Prop} {t : TypeId} {x y : Operand} {ok : Bool} (kt0 et0 : TypeId) (ks vs : Bool) (n : Nat) (z0 : List Int)
    (hK : KeyOK cx.P kt0 ks n) (hz0 : ∀ w, (zeroValue et0).run cx.P w = .ok (encB vs z0) w) (ho : o.op = .lookup t x y ok)
    (h : lookKVK B kt0 et0 ks vs n z0 ok t (ev e x) (ev e y) H K) : ∃ F, CallOK cx o e H nx F ∧ K F := by
  have hx : x ∈ o.op.operands.toList := by simp [ho, Op.operands]
  have hy : y ∈ o.op.operands.toList := by simp [ho, Op.operands]
  unfold lookKVK at h
  split at h
  · rename_i kt et s0 b0 zz k l ht hex hey
    split at h
    · rename_i own Φ hlk
      obtain ⟨he0, S, v, is, rfl, hlv, hKK0⟩ := bif_and h
      simp only [Bool.and_eq_true] at he0
      obtain ⟨he0, he1, he2⟩ := he0
      have he0 := Nat.eq_of_beq_eq_true he0
      have he1 := Nat.eq_of_beq_eq_true he1
      have he2 := Nat.eq_of_beq_eq_true he2
      rw [lenL_eq] at he2
      subst he0; subst he1
      refine ⟨_, ⟨?_, fun j hj => by cases hj⟩, hKK0⟩
      intro ρ s a w hs hr hk _ hdst KK Q hKK
      have hl1 : look s.H k = some (own, .raw (KVObj ks vs n S)) := by rw [hk k (by simp)]; exact hlk
      have hx1 := reads_fit hx (fun t ht => by rw [← hr t ht]; exact hs.env t)
      have hy1 := reads_fit hy (fun t ht => by rw [← hr t ht]; exact hs.env t)
      rw [hex] at hx1
      simp only [SV.rel, SC.rel] at hx1
      have hya : a.eval y = encB ks l := intsSV_rel hey hy1
      obtain ⟨ob, hob, es, clock, rfl, hes, hn, hd⟩ := (hs.heap.reg k own _ hl1).keys _ rfl
      have hall := kv_find hK hes hn
      have hrun : (execOp a.eval o).run cx.P w = .ok (.value (bif ok then .tuple #[encB vs v, .bool is] else encB vs v)) w := by
        rcases hK.find l es.toList w he2 hall with ⟨h1, h2⟩ | ⟨j, e', h1, h2, h3⟩
        · have hnone : lookKV S l z0 = (z0, false) := lookKV_none fun p hp hpl => by
            have : (encB ks p.1, encB vs p.2) ∈ es.toList.map (fun e => (e.key, e.val)) := by rw [hes]; exact List.mem_map.2 ⟨p, hp, rfl⟩
            obtain ⟨e', he', hee⟩ := List.mem_map.1 this
            exact h2 e' he' (by rw [← hpl]; exact congrArg Prod.fst hee)
          rw [hnone] at hlv
          cases hlv
          simp only [execOp, ho, Instr.lookup, hx1, hya, Sem.run_bind, run_underlying (und_map hB ht), Result.andThen_ok, MapKept.run_getObj_map hob, Sem.run_pure, hK.chk _ l w he2, h1, hz0]
          cases ok <;> simp
        · have h4 : (es.toList.map (fun e => (e.key, e.val)))[j]? = some (e'.key, e'.val) := by rw [List.getElem?_map, h2]; rfl
          rw [hes, List.getElem?_map] at h4
          obtain ⟨p, hp, hpe⟩ := Option.map_eq_some_iff.1 h4
          have hpk : p.1 = l := hK.inj _ _ (hn p (List.mem_of_getElem? hp)) he2 (by rw [← h3]; exact congrArg Prod.fst hpe)
          rw [lookKV_get hd hp hpk] at hlv
          cases hlv
          have hval : e'.val = encB vs p.2 := (congrArg Prod.snd hpe).symm
          simp only [execOp, ho, Instr.lookup, hx1, hya, Sem.run_bind, run_underlying (und_map hB ht), Result.andThen_ok, MapKept.run_getObj_map hob, Sem.run_pure, hK.chk _ l w he2, h1, hval]
          cases ok <;> simp
      refine wpIn_of_value (by simp [ho]) hrun (hKK ρ _ w ?_ (fun _ _ => rfl))
      refine hs.putO hdst ?_ ?_
      · cases ok with
        | false => exact svB_rel ρ vs v
        | true =>
          refine ⟨_, rfl, ?_⟩
          cases vs with
          | false => exact ⟨rfl, rfl, trivial⟩
          | true => exact ⟨⟨_, rfl, relEncI ρ v⟩, rfl, trivial⟩
      · intro j hj
        cases ok with
        | false => have := svB_uses [j] vs v; simp only [cond_false] at hj; rw [this] at hj; cases hj
        | true =>
          cases vs with
          | false => cases hj
          | true =>
            have h2 : usesT [j] [Sum.inr (encI v), .inl (.v (.bool is))] = true := hj
            simp only [usesT, usesL_encI, cond_false] at h2
            cases h2
    · exact h.elim
  · exact h.elim

def mapUpKVK (B : Tabs) (kt0 : TypeId) (ks vs : Bool) (n : Nat) (t : TypeId) (x y z : SV) (H : Heap) (K : Eff → Prop) : Prop :=
  match lookT B.T t, x, intsSV ks y, intsSV vs z with
  | some ⟨.map kt _, _, _, _⟩, .c (.m k), some l, some v => (match look H k with
    | some (true, .raw Φ) => bif Nat.beq kt kt0 && Nat.beq (lookupSK.lenL l) n then
        ∃ S, Φ = KVObj ks vs n S ∧ l ∉ S.map Prod.fst ∧ K ⟨.c .junk, [k], [(k, true, kvO ks vs n (S ++ [(l, v)]))], []⟩ else False
    | _ => False)
  | _, _, _, _ => False

theorem mapUpKV_step {cx : Cx} {B : Tabs} (hB : TabsOK cx.P B) {o : Oper} {e : Env} {H : Heap} {nx : Nat} {K : Eff → Prop} {t : TypeId} {x y z : Operand} (kt0 : TypeId) (ks vs : Bool) (n : Nat)
    (hK : KeyOK cx.P kt0 ks n) (ho : o.op = .mapUpdate t x y z)
    (h : mapUpKVK B kt0 ks vs n t (ev e x) (ev e y) (ev e z) H K) : ∃ F, CallOK cx o e H nx F ∧ K F := by
  have hx : x ∈ o.op.operands.toList := by simp [ho, Op.operands]
  have hy : y ∈ o.op.operands.toList := by simp [ho, Op.operands]
  have hz : z ∈ o.op.operands.toList := by simp [ho, Op.operands]
  unfold mapUpKVK at h
  split at h
  · rename_i kt et s0 b0 zz k l v ht hex hey hez
    split at h
    · rename_i Φ hlk
      obtain ⟨he0, S, rfl, hnew, hKK0⟩ := bif_and h
      simp only [Bool.and_eq_true] at he0
      obtain ⟨he1, he2⟩ := he0
      have he1 := Nat.eq_of_beq_eq_true he1
      have he2 := Nat.eq_of_beq_eq_true he2
      rw [lenL_eq] at he2
      subst he1
      refine ⟨_, ⟨?_, fun j hj => by cases hj⟩, hKK0⟩
      intro ρ s a w hs hr hk _ hdst KK Q hKK
      have hl1 : look s.H k = some (true, .raw (KVObj ks vs n S)) := by rw [hk k (by simp)]; exact hlk
      have hx1 := reads_fit hx (fun t ht => by rw [← hr t ht]; exact hs.env t)
      have hy1 := reads_fit hy (fun t ht => by rw [← hr t ht]; exact hs.env t)
      have hz1 := reads_fit hz (fun t ht => by rw [← hr t ht]; exact hs.env t)
      rw [hex] at hx1
      simp only [SV.rel, SC.rel] at hx1
      have hya : a.eval y = encB ks l := intsSV_rel hey hy1
      have hza : a.eval z = encB vs v := intsSV_rel hez hz1
      obtain ⟨ob, hob, es, clock, rfl, hes, hn, hd⟩ := (hs.heap.reg k true _ hl1).keys _ rfl
      have hall := kv_find hK hes hn
      have hrun : ∃ es' clock', (execOp a.eval o).run cx.P w = .ok .skip (w.putObj (ρ k).blk (.map es' clock')) ∧ KVObj ks vs n (S ++ [(l, v)]) (.map es' clock') := by
        rcases hK.find l es.toList w he2 hall with ⟨h1, h2⟩ | ⟨j, e', h1, h2, h3⟩
        · refine ⟨es.push { key := encB ks l, val := encB vs v, born := clock }, clock + 1, ?_, _, _, rfl, ?_, ?_, ?_⟩
          · simp only [execOp, ho, Instr.mapUpdate, hx1, hya, hza, Sem.run_bind, run_underlying (und_map hB ht), Result.andThen_ok, MapKept.run_getObj_map hob, Sem.run_pure,
              hK.chk _ l w he2, h1, MapKept.run_setObj_map _ hob]
            rfl
          · simp [hes]
          · intro p hp
            rcases List.mem_append.1 hp with hp | hp
            · exact hn p hp
            · simp at hp; rw [hp]; exact he2
          · unfold DistK
            rw [List.map_append]
            exact List.nodup_append.2 ⟨hd, by simp, fun a ha b hb => by simp at hb; rw [hb]; rintro rfl; exact hnew ha⟩
        · exfalso
          have h4 : (es.toList.map (fun e => (e.key, e.val)))[j]? = some (e'.key, e'.val) := by rw [List.getElem?_map, h2]; rfl
          rw [hes, List.getElem?_map] at h4
          obtain ⟨p, hp, hpe⟩ := Option.map_eq_some_iff.1 h4
          have hpk : p.1 = l := hK.inj _ _ (hn p (List.mem_of_getElem? hp)) he2 (by rw [← h3]; exact congrArg Prod.fst hpe)
          exact hnew (List.mem_map.2 ⟨p, List.mem_of_getElem? hp, hpk⟩)
      obtain ⟨es', clock', hrun, hset⟩ := hrun
      have hs' := hs.setObj hl1 (.map es' clock') hset
      refine wpIn_of_skip (by simp [ho]) hrun (hKK ρ _ _ ?_ (fun _ _ => rfl))
      exact hs'.putO (sv := .c .junk) hdst trivial (by rw [SV.below_c]; intro j hj; cases hj)
    · exact h.elim
  · exact h.elim

end Sx
end Go

