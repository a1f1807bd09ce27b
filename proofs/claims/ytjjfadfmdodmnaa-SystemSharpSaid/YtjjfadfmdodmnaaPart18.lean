/-
  A part of the proof that a law of dryweightlaw03 answers true: lemmas of a symbolic walk, plain functions, or contracts of the functions walked (Xk, Pm16, Xl, Xm, Xn, Xo, Xp, Xr, Pm17, Xs, Sx32, Sx33, Xe, Xf, Xg, Xh, Xi, Xu, Zd, Ze, Zf, Zg). Conditions: none.
-/
import Derived.Test.YtjjfadfmdodmnaaPart17
import Derived.Test.YtjjfadfmdodmnaaPart16
import Derived.Test.YtjjfadfmdodmnaaPart07
import Derived.Lib.AppendZeros
set_option maxRecDepth 100000
set_option linter.unusedVariables false
set_option linter.unusedSimpArgs false
namespace Go.Proofs
open Go.Sx

/-! ### Forms -/

def termOK (vars : Int) (t : Int × Int) : Bool := withinF t.1 0 (vars - 1) && withinF t.2 (-1024) 1024

theorem termOK_iff {vars : Int} {t : Int × Int} : termOK vars t = true ↔ (0 ≤ t.1 ∧ t.1 < vars) ∧ (-1024 ≤ t.2 ∧ t.2 ≤ 1024) := by
  simp only [termOK, withinF, Bool.and_eq_true, decide_eq_true_eq]
  omega

theorem formG_bad {vars : Int} : ∀ {form : List (Int × Int)} {seen : List Int} {e : Int}, (∃ t ∈ form, termOK vars t = false) → formG vars seen e form = 1
  | [], _, _, ⟨t, ht, _⟩ => by cases ht
  | t :: r, seen, e, ⟨x, hx, hb⟩ => by
    rw [formG]
    by_cases ht : (withinF t.1 0 (vars - 1) && withinF t.2 (-1024) 1024) = true
    · rw [if_pos ht]
      rcases List.mem_cons.1 hx with rfl | hx
      · have : termOK vars x = true := ht
        rw [this] at hb; cases hb
      · exact formG_bad ⟨x, hx, hb⟩
    · rw [if_neg ht]

theorem formG_six {vars : Int} : ∀ {form : List (Int × Int)} {seen : List Int}, (∀ t ∈ form, termOK vars t = true) → formG vars seen 6 form = 6
  | [], _, _ => rfl
  | t :: r, seen, h => by
    have ht : (withinF t.1 0 (vars - 1) && withinF t.2 (-1024) 1024) = true := h t (List.mem_cons_self ..)
    rw [formG, if_pos ht]
    split <;> exact formG_six fun t ht => h t (List.mem_cons_of_mem _ ht)

theorem formG_dup {vars : Int} : ∀ {form : List (Int × Int)} {seen : List Int} {e : Int}, (∀ t ∈ form, termOK vars t = true) → (∃ t ∈ form, t.1 ∈ seen) ∨ ¬ (form.map (·.1)).Nodup → formG vars seen e form = 6
  | [], _, _, _, h => by rcases h with ⟨t, ht, _⟩ | h; cases ht; exact absurd List.nodup_nil h
  | t :: r, seen, e, h, hd => by
    have ht : (withinF t.1 0 (vars - 1) && withinF t.2 (-1024) 1024) = true := h t (List.mem_cons_self ..)
    have hr : ∀ t ∈ r, termOK vars t = true := fun t ht => h t (List.mem_cons_of_mem _ ht)
    rw [formG, if_pos ht]
    by_cases hs : t.1 ∈ seen
    · rw [if_pos hs]; exact formG_six hr
    · rw [if_neg hs]
      refine formG_dup hr ?_
      rcases hd with ⟨x, hx, hxs⟩ | hd
      · rcases List.mem_cons.1 hx with rfl | hx
        · exact absurd hxs hs
        · exact .inl ⟨x, hx, List.mem_cons_of_mem _ hxs⟩
      · rw [List.map_cons, List.nodup_cons] at hd
        by_cases hm : t.1 ∈ r.map (·.1)
        · obtain ⟨x, hx, he⟩ := List.mem_map.1 hm
          exact .inl ⟨x, hx, by rw [he]; exact List.mem_cons_self ..⟩
        · exact .inr fun hn => hd ⟨hm, hn⟩

theorem formG_good {vars : Int} : ∀ {form : List (Int × Int)} {seen : List Int} {e : Int}, (∀ t ∈ form, termOK vars t = true) → (∀ t ∈ form, t.1 ∉ seen) → (form.map (·.1)).Nodup → formG vars seen e form = e
  | [], _, _, _, _, _ => rfl
  | t :: r, seen, e, h, hs, hn => by
    have ht : (withinF t.1 0 (vars - 1) && withinF t.2 (-1024) 1024) = true := h t (List.mem_cons_self ..)
    rw [List.map_cons, List.nodup_cons] at hn
    rw [formG, if_pos ht, if_neg (hs t (List.mem_cons_self ..))]
    refine formG_good (fun t ht => h t (List.mem_cons_of_mem _ ht)) (fun x hx hm => ?_) hn.2
    rcases List.mem_cons.1 hm with he | hm
    · exact hn.1 (he ▸ List.mem_map_of_mem hx)
    · exact hs x (List.mem_cons_of_mem _ hx) hm

/-- What a form is like that has no error. -/
theorem formF_ok {form : List (Int × Int)} {vars : Int} (h : formF form vars = 0) : form.length ≤ 240 ∧ (∀ t ∈ form, (0 ≤ t.1 ∧ t.1 < vars) ∧ (-1024 ≤ t.2 ∧ t.2 ≤ 1024)) ∧ (form.map (·.1)).Nodup := by
  unfold formF at h
  by_cases hl : 240 < form.length
  · rw [if_pos hl] at h; cases h
  rw [if_neg hl] at h
  have hg : ∀ t ∈ form, termOK vars t = true := by
    intro t ht
    by_cases hb : termOK vars t = true
    · exact hb
    · rw [formG_bad ⟨t, ht, by simpa using hb⟩] at h; cases h
  refine ⟨by omega, fun t ht => termOK_iff.1 (hg t ht), ?_⟩
  by_cases hd : (form.map (·.1)).Nodup
  · exact hd
  · rw [formG_dup hg (.inr hd)] at h; cases h

theorem formF_of {form : List (Int × Int)} {vars : Int} (hl : form.length ≤ 240) (hg : ∀ t ∈ form, (0 ≤ t.1 ∧ t.1 < vars) ∧ (-1024 ≤ t.2 ∧ t.2 ≤ 1024)) (hn : (form.map (·.1)).Nodup) : formF form vars = 0 := by
  unfold formF
  rw [if_neg (by omega)]
  exact formG_good (fun t ht => termOK_iff.2 (hg t ht)) (fun t _ h => by cases h) hn

end Go.Proofs

/-
  Plain lemmas, part 16: the value of a form at a point, its coefficients, and what uses of links show. Conditions: none; definitions and plain lemmas.
-/
namespace Go
namespace Proofs

/-- The value of a form at a point. -/
def valM : List (Int × Int) → List Int → Int
  | [], _ => 0
  | t :: r, pt => t.2 * pt.getD t.1.toNat 0 + valM r pt

theorem valM_snoc (pt : List Int) (t : Int × Int) : ∀ xs : List (Int × Int), valM (xs ++ [t]) pt = valM xs pt + t.2 * pt.getD t.1.toNat 0
  | [] => by simp [valM]
  | x :: xs => by
    simp only [List.cons_append, valM, valM_snoc pt t xs]
    omega

def useOK (arcs : List Lnk) (u : Lnk × Int) : Bool := decide (u.1 ∈ arcs) && (decide (1 ≤ u.2) && decide (u.2 ≤ 68719476736))

theorem useOK_iff {arcs : List Lnk} {u : Lnk × Int} : useOK arcs u = true ↔ u.1 ∈ arcs ∧ 1 ≤ u.2 ∧ u.2 ≤ 68719476736 := by simp [useOK]

/-- So much more at a place. -/
def gotP (p x : Int) (got : List Int) : List Int := if p < 0 then got else got.set p.toNat (got.getD p.toNat 0 + x)

theorem gotP_len (p x : Int) (got : List Int) : (gotP p x got).length = got.length := by
  unfold gotP; split <;> simp

/-- What uses of links bring to each place. -/
def gotF : List (Lnk × Int) → List Int → List Int
  | [], g => g
  | u :: r, g => gotF r (gotP u.1.f (-u.2) (gotP u.1.t u.2 g))

def costU : List (Lnk × Int) → Int
  | [] => 0
  | u :: r => u.2 * u.1.m + costU r

/-- Do uses of links show that a form with some coefficients is at most a number? -/
def showsF (arcs : List Lnk) (n : Nat) (by' : List Int) (us : List (Lnk × Int)) (most : Int) : Bool :=
  decide (us.length ≤ 2000) && (us.all (useOK arcs) && (decide (gotF us (List.replicate n 0) = by') && decide (costU us = most)))

theorem showsF_iff {arcs : List Lnk} {n : Nat} {by' : List Int} {us : List (Lnk × Int)} {most : Int} : showsF arcs n by' us most = true ↔
    us.length ≤ 2000 ∧ (∀ u ∈ us, useOK arcs u = true) ∧ gotF us (List.replicate n 0) = by' ∧ costU us = most := by simp [showsF]

/-! ### A flow's uses -/

theorem gotF_getD {n : Nat} {arcs : List Lnk} (v : Nat) (hv : v < n) : ∀ {us : List (Lnk × Int)} {g : List Int}, (∀ u ∈ us, ArcOK n u.1) → g.length = n →
    (gotF us g).length = n ∧ (gotF us g).getD v 0 = g.getD v 0 + netV n (us.map (·.1)) (us.map (·.2)) v
  | [], g, _, hg => ⟨hg, by simp [gotF, netV]⟩
  | u :: r, g, hok, hg => by
    obtain ⟨o1, o2, _⟩ := hok u (List.mem_cons_self ..)
    have hl1 : (gotP u.1.t u.2 g).length = n := by rw [gotP_len]; exact hg
    have hl2 : (gotP u.1.f (-u.2) (gotP u.1.t u.2 g)).length = n := by rw [gotP_len]; exact hl1
    obtain ⟨h1, h2⟩ := gotF_getD (arcs := arcs) v hv (us := r) (fun u hu => hok u (List.mem_cons_of_mem _ hu)) hl2
    refine ⟨h1, ?_⟩
    have key : ∀ (p x : Int) (g : List Int), -1 ≤ p ∧ p < n → g.length = n → (gotP p x g).getD v 0 = g.getD v 0 + x * ind (plc n p = v) := by
      intro p x g hp hg
      unfold gotP plc
      by_cases h0 : p < 0
      · rw [if_pos h0, if_pos h0, ind_false (by omega)]; simp
      · rw [if_neg h0, if_neg h0, getD_set (by omega)]
        by_cases h1 : v = p.toNat
        · rw [if_pos h1, ind_true h1.symm, h1]; simp
        · rw [if_neg h1, ind_false (fun h => h1 h.symm)]; simp
    show (gotF r (gotP u.1.f (-u.2) (gotP u.1.t u.2 g))).getD v 0 = g.getD v 0 + netV n (u.1 :: r.map (·.1)) (u.2 :: r.map (·.2)) v
    rw [h2, key _ _ _ o1 hl1, key _ _ _ o2 hg, netV, Int.mul_sub, Int.neg_mul]
    omega

theorem usesF_net (n v : Nat) : ∀ {arcs : List Lnk} {flow : List Int}, (∀ i, 0 ≤ flow.getD i 0) → arcs.length = flow.length →
    netV n ((usesF arcs flow).map (·.1)) ((usesF arcs flow).map (·.2)) v = netV n arcs flow v ∧ costU (usesF arcs flow) = costV arcs flow
  | [], flow, _, _ => by simp [usesF, netV, costU, costV]
  | l :: r, [], _, h => by simp at h
  | l :: r, x :: s, hp, hl => by
    obtain ⟨h1, h2⟩ := usesF_net n v (arcs := r) (flow := s) (fun i => by have := hp (i + 1); simpa using this) (by simpa using hl)
    have h0 := hp 0
    rw [List.getD_cons_zero] at h0
    simp only [usesF]
    by_cases hx : 0 < x
    · rw [if_pos hx]
      simp only [List.map_cons, netV, costU, costV, h1, h2]
      exact ⟨trivial, trivial⟩
    · have hx0 : x = 0 := by omega
      rw [if_neg hx, h1, h2, hx0]
      simp [netV, costV]

theorem usesF_mem {u : Lnk × Int} : ∀ {arcs : List Lnk} {flow : List Int}, u ∈ usesF arcs flow → u.1 ∈ arcs ∧ 1 ≤ u.2 ∧ ∃ i, flow.getD i 0 = u.2
  | [], flow, h => by simp [usesF] at h
  | l :: r, [], h => by simp [usesF] at h
  | l :: r, x :: s, h => by
    simp only [usesF] at h
    have hr : u ∈ usesF r s → u.1 ∈ l :: r ∧ 1 ≤ u.2 ∧ ∃ i, (x :: s).getD i 0 = u.2 := fun h => by
      obtain ⟨h1, h2, i, h3⟩ := usesF_mem h
      exact ⟨List.mem_cons_of_mem _ h1, h2, i + 1, by simpa using h3⟩
    split at h
    · rcases List.mem_cons.1 h with rfl | h
      · exact ⟨List.mem_cons_self .., by show 1 ≤ x; omega, 0, rfl⟩
      · exact hr h
    · exact hr h

/-- What the greatest value of a form comes with shows it. -/
theorem BestOK.shows {n : Nat} {arcs : List Lnk} {by' flow pt : List Int} {v S : Int} (h : BestOK n arcs by' flow pt v S) (hok : ∀ l ∈ arcs, ArcOK n l) (hbl : by'.length = n) (hS : S ≤ 68719476736) (ha : arcs.length ≤ 2000) :
    showsF arcs n by' (usesF arcs flow) v = true := by
  have hfp : ∀ i, 0 ≤ flow.getD i 0 := fun i => (h.fp i).1
  rw [showsF_iff]
  have hle := usesF_len arcs flow
  have hmem : ∀ u ∈ usesF arcs flow, ArcOK n u.1 := fun u hu => hok _ (usesF_mem hu).1
  refine ⟨by omega, fun u hu => ?_, ?_, ?_⟩
  · obtain ⟨h1, h2, i, h3⟩ := usesF_mem hu
    rw [useOK_iff]
    have := (h.fp i).2
    rw [h3] at this
    exact ⟨h1, h2, by omega⟩
  · refine List.ext_getElem ?_ fun v hv1 hv2 => ?_
    · by_cases h0 : n = 0
      · have hgl : ∀ {us : List (Lnk × Int)} {g : List Int}, (gotF us g).length = g.length := by
          intro us
          induction us with
          | nil => intro g; rfl
          | cons u r ih => intro g; rw [gotF, ih, gotP_len, gotP_len]
        rw [hgl, List.length_replicate, hbl]
      · rw [(gotF_getD (arcs := arcs) 0 (by omega) hmem List.length_replicate).1, hbl]
    · have hvn : v < n := by omega
      have h1 := (gotF_getD (arcs := arcs) v hvn hmem (g := List.replicate n 0) List.length_replicate).2
      rw [(usesF_net n v hfp h.fl.symm).1, h.net v hvn, List.getD_eq_getElem?_getD, List.getD_eq_getElem?_getD, List.getElem?_replicate, List.getElem?_eq_getElem hv1, List.getD_eq_getElem?_getD, List.getElem?_eq_getElem hv2] at h1
      rw [if_pos hvn] at h1
      simpa using h1
  · rw [(usesF_net n 0 hfp h.fl.symm).2, h.cost]

end Proofs
end Go

namespace Go.Proofs
open Go.Sx

theorem coefF_len (p : Int) : ∀ (form : List (Int × Int)) (out : List Int), (coefF p form out).length = out.length
  | [], out => rfl
  | t :: r, out => by rw [coefF, coefF_len p r]; simp

theorem coefF_bd {p C : Int} : ∀ {form : List (Int × Int)} {out : List Int}, (form.map (·.1)).Nodup → (∀ t ∈ form, (0 ≤ t.1 ∧ t.1 < out.length) ∧ (-C ≤ p * t.2 ∧ p * t.2 ≤ C)) →
    (∀ t ∈ form, out.getD t.1.toNat 0 = 0) → (∀ y ∈ out, -C ≤ y ∧ y ≤ C) → ∀ y ∈ coefF p form out, -C ≤ y ∧ y ≤ C
  | [], out, _, _, _, h => h
  | t :: r, out, hn, hb, hz, h => by
    rw [List.map_cons, List.nodup_cons] at hn
    obtain ⟨⟨h0, h1⟩, h2, h3⟩ := hb t (List.mem_cons_self ..)
    refine coefF_bd (form := r) hn.2 (fun x hx => ?_) (fun x hx => ?_) (fun y hy => ?_)
    · rw [List.length_set]; exact hb x (List.mem_cons_of_mem _ hx)
    · have hb2 := (hb x (List.mem_cons_of_mem _ hx)).1
      rw [getD_set (by omega), if_neg, hz x (List.mem_cons_of_mem _ hx)]
      intro he
      exact hn.1 (List.mem_map.2 ⟨x, hx, by omega⟩)
    · rcases List.mem_or_eq_of_mem_set hy with hy | rfl
      · exact h y hy
      · rw [hz t (List.mem_cons_self ..)]; omega

theorem dotI_set {x : Int} : ∀ {out pt : List Int} {k : Nat}, k < out.length → dotI (out.set k (out.getD k 0 + x)) pt = dotI out pt + x * pt.getD k 0
  | [], pt, k, h => by simp at h
  | a :: out, [], k, h => by cases k <;> simp [dotI]
  | a :: out, b :: pt, 0, h => by simp [dotI, Int.add_mul]; omega
  | a :: out, b :: pt, k + 1, h => by
    have := dotI_set (x := x) (out := out) (pt := pt) (k := k) (by simpa using h)
    simp only [List.set_cons_succ, dotI, List.getD_cons_succ, this]
    omega

/-- The value of a form by its coefficients. -/
theorem coefF_dot (p : Int) (pt : List Int) : ∀ {form : List (Int × Int)} {out : List Int}, (∀ t ∈ form, 0 ≤ t.1 ∧ t.1 < out.length) → dotI (coefF p form out) pt = dotI out pt + p * valM form pt
  | [], out, _ => by simp [coefF, valM]
  | t :: r, out, h => by
    obtain ⟨h0, h1⟩ := h t (List.mem_cons_self ..)
    rw [coefF, coefF_dot p pt (form := r) (fun x hx => by rw [List.length_set]; exact h x (List.mem_cons_of_mem _ hx)), dotI_set (by omega), valM, Int.mul_add, Int.mul_assoc]
    omega

theorem dotI_zero : ∀ (n : Nat) (pt : List Int), dotI (List.replicate n 0) pt = 0
  | 0, _ => rfl
  | n + 1, [] => rfl
  | n + 1, b :: pt => by rw [List.replicate_succ, dotI, dotI_zero n pt]; simp

theorem replicate_getD (n k : Nat) : (List.replicate n (0 : Int)).getD k 0 = 0 := by
  rw [List.getD_eq_getElem?_getD, List.getElem?_replicate]; split <;> rfl

theorem At_t (form : List (Int × Int)) (pt : List Int) (hfl : form.length ≤ 1000) (hf : ∀ t ∈ form, (0 ≤ t.1 ∧ t.1 < pt.length) ∧ (-1024 ≤ t.2 ∧ t.2 ≤ 1024)) (hp : ∀ x ∈ pt, -33554432 ≤ x ∧ x ≤ 33554432) :
    Triple Try.prog 73 [.c (.s 0 0 form.length 2), .c (.s 1 0 pt.length 1)] [(0, false, .arr (aSpan form)), (1, false, .arr (aInt pt))] 2 (iv .i64 (valM form pt)) [] := by
  refine triple_of tB_ok Try.func73 rfl Try.call73 rfl ?_
  intro ρ w hH
  conv => whnf
  refine loop_step tB_ok (G := Nat × Int) 0 [] (fun g => [(6, iv .i64 g.1), (5, iv .i64 g.2)]) (fun _ => []) (fun g => g.1 ≤ form.length ∧ g.2 = valM (form.take g.1) pt ∧ (-(34359738368 * (g.1 : Int)) ≤ g.2 ∧ g.2 ≤ 34359738368 * (g.1 : Int))) (fun g => form.length - g.1) ?_
  conv => whnf
  refine ⟨⟨(0, 0), ⟨Nat.zero_le _, rfl, ⟨by simp, by simp⟩⟩, ?_⟩, ?_⟩
  · conv => whnf
    repeat' (first | exact trivial | exact rfl | refine And.intro ?_ ?_ | ((conv => whnf); first | exact trivial | exact rfl | refine And.intro ?_ ?_ | omega))
  rintro ⟨i, s⟩ ⟨hi, hs, hb⟩ ρ1 t1 hρ1
  have hi : i ≤ form.length := hi
  have hs : s = valM (form.take i) pt := hs
  have hb : -(34359738368 * (i : Int)) ≤ s ∧ s ≤ 34359738368 * (i : Int) := hb
  dsimp only
  conv => whnf
  refine ⟨fun hc => ?_, fun hc => ?_⟩
  · have hlt : i < form.length := by simpa using hc
    obtain ⟨⟨hv0, hv1⟩, hc0, hc1⟩ := hf form[i] (List.getElem_mem hlt)
    obtain ⟨v, hve⟩ : ∃ v : Nat, form[i].1 = (v : Int) := ⟨form[i].1.toNat, by omega⟩
    have hvl : v < pt.length := by omega
    have hpv := hp pt[v] (List.getElem_mem hvl)
    obtain ⟨z, hz⟩ : ∃ z, z = form[i].2 * pt[v] := ⟨_, rfl⟩
    have hzb := mul_bd (C := 1024) (D := 33554432) ⟨hc0, hc1⟩ hpv
    rw [← hz] at hzb
    conv => whnf
    refine ⟨i, rfl, hlt, hlt, ?_⟩
    conv => whnf
    refine ⟨i, rfl, hlt, hlt, ?_⟩
    conv => whnf
    refine ⟨v, hve, hvl, hvl, ?_⟩
    conv => whnf
    refine ⟨z, (congrArg IntKind.i64.wrap hz.symm).trans (wrapId ⟨by omega, by omega⟩), ?_⟩
    conv => whnf
    refine ⟨s + z, wrapId (z := s + z) ⟨by omega, by omega⟩, ?_⟩
    conv => whnf
    refine ⟨(i : Int) + 1, wrapId (z := (i : Int) + 1) ⟨by omega, by omega⟩, ?_⟩
    refine ⟨(i + 1, s + z), ⟨hlt, ?_, ⟨by show -(34359738368 * ((i + 1 : Nat) : Int)) ≤ s + z; omega, by show s + z ≤ 34359738368 * ((i + 1 : Nat) : Int); omega⟩⟩, by show form.length - (i + 1) < form.length - i; omega, ?_⟩
    · show s + z = valM (form.take (i + 1)) pt
      rw [take_snoc hlt, valM_snoc, ← hs, hz, hve, Int.toNat_natCast, getD_of hvl]
    conv => whnf
    refine ⟨rfl, ?_⟩
    conv => whnf
    repeat' (first | exact trivial | exact rfl | refine And.intro ?_ ?_ | ((conv => whnf); first | exact trivial | exact rfl | refine And.intro ?_ ?_ | omega))
  have hie : i = form.length := by simp at hc; omega
  subst hie
  rw [List.take_length] at hs
  rw [← hs]
  conv => whnf
  repeat' (first | exact trivial | exact rfl | refine And.intro ?_ ?_ | ((conv => whnf); first | exact trivial | exact rfl | refine And.intro ?_ ?_ | omega))

end Go.Proofs

namespace Go.Proofs
open Go.Sx

end Go.Proofs

namespace Go.Proofs
open Go.Sx

end Go.Proofs

namespace Go.Proofs
open Go.Sx

theorem plc_at {n : Nat} {pt : List Int} {i : Int} (hl : pt.length = n) (hi : -1 ≤ i ∧ i < n) : pt.getD (plc n i) 0 = atF pt i := by
  unfold plc atF
  by_cases h : i < 0
  · rw [if_pos h, if_pos h, List.getD_eq_getElem?_getD, List.getElem?_eq_none (by omega)]; rfl
  · rw [if_neg h, if_neg h]

theorem box_arcs {bs : List (Int × Int)} {ls : List Lnk} (hs : SysOK bs ls) {v : Nat} (hv : v < bs.length) :
    (∃ l ∈ allF bs ls, plc bs.length l.f = bs.length ∧ plc bs.length l.t = v ∧ l.m ≤ 16777216) ∧ (∃ l ∈ allF bs ls, plc bs.length l.f = v ∧ plc bs.length l.t = bs.length ∧ l.m ≤ 16777216) := by
  have hb := boxLinks_has (bs := bs) (v := 0) hv
  rw [Nat.zero_add] at hb
  have hbx := hs.box _ (List.getElem_mem hv)
  refine ⟨⟨_, List.mem_append.2 (.inl hb.1), rfl, ?_, hbx.2.2⟩, ⟨_, List.mem_append.2 (.inl hb.2), ?_, rfl, by show -bs[v].1 ≤ 16777216; omega⟩⟩
  · simp only [plc]; rw [if_neg (by omega)]; omega
  · simp only [plc]; rw [if_neg (by omega)]; omega

theorem pot_bd {bs : List (Int × Int)} {ls : List Lnk} {pt : List Int} (hs : SysOK bs ls) (hl : pt.length = bs.length) (hp : PotL bs.length (fun v => pt.getD v 0) (allF bs ls)) : ∀ x ∈ pt, -16777216 ≤ x ∧ x ≤ 16777216 := by
  intro x hx
  obtain ⟨v, hv, rfl⟩ := List.mem_iff_getElem.1 hx
  obtain ⟨⟨l, hl1, a1, a2, a3⟩, ⟨m, hm1, b1, b2, b3⟩⟩ := box_arcs (ls := ls) hs (show v < bs.length by omega)
  have p1 : pt.getD (plc bs.length l.t) 0 ≤ pt.getD (plc bs.length l.f) 0 + l.m := hp l hl1
  have p2 : pt.getD (plc bs.length m.t) 0 ≤ pt.getD (plc bs.length m.f) 0 + m.m := hp m hm1
  have z : pt.getD bs.length 0 = 0 := by rw [List.getD_eq_getElem?_getD, List.getElem?_eq_none (by omega)]; rfl
  rw [a1, a2, z, getD_of hv] at p1
  rw [b1, b2, z, getD_of hv] at p2
  omega

/-- The allowed points are those that no link contradicts. -/
theorem allows_iff {bs : List (Int × Int)} {ls : List Lnk} {pt : List Int} (hs : SysOK bs ls) : (allowsF bs ls pt).2 = true ↔ pt.length = bs.length ∧ PotL bs.length (fun v => pt.getD v 0) (allF bs ls) := by
  unfold allowsF
  have hok := allF_ok hs
  by_cases hl : pt.length = bs.length
  · rw [if_pos hl]
    have hv : (∀ l ∈ allF bs ls, violF pt l = false) ↔ PotL bs.length (fun v => pt.getD v 0) (allF bs ls) := by
      constructor
      · intro h
        have hc : ∀ v, v < bs.length → -16777216 ≤ atF pt v ∧ atF pt v ≤ 16777216 := by
          intro v hv
          obtain ⟨h1, h2⟩ := boxLinks_has (bs := bs) (v := 0) hv
          have hbx := hs.box _ (List.getElem_mem hv)
          have g1 := h _ (List.mem_append.2 (.inl h1))
          have g2 := h _ (List.mem_append.2 (.inl h2))
          rw [Nat.zero_add] at g1 g2
          have e0 : valI pt (-1) = 0 := rfl
          have e1 : valI pt ((v : Nat) : Int) = max (-1099511627776) (min 1099511627776 (pt.getD v 0)) := by
            unfold valI; rw [if_neg (by omega), Int.toNat_natCast]
          have e2 : atF pt ((v : Nat) : Int) = pt.getD v 0 := by unfold atF; rw [if_neg (by omega), Int.toNat_natCast]
          have g1 : decide (bs[v].2 < valI pt ((v : Nat) : Int) - valI pt (-1)) = false := g1
          have g2 : decide (-bs[v].1 < valI pt (-1) - valI pt ((v : Nat) : Int)) = false := g2
          rw [e0, e1, decide_eq_false_iff_not] at g1 g2
          rw [e2]
          omega
        have hat : ∀ i : Int, -1 ≤ i ∧ i < bs.length → valI pt i = atF pt i := fun i hi => by
          refine valI_at ?_
          by_cases h0 : i < 0
          · unfold atF; rw [if_pos h0]; omega
          · have := hc i.toNat (by omega)
            rw [Int.toNat_of_nonneg (by omega)] at this
            omega
        intro l hl2
        obtain ⟨o1, o2, _⟩ := hok l hl2
        have g := h l hl2
        unfold violF at g
        rw [hat _ o1, hat _ o2] at g
        simp only [decide_eq_false_iff_not] at g
        show pt.getD (plc bs.length l.t) 0 ≤ pt.getD (plc bs.length l.f) 0 + l.m
        rw [plc_at hl o1, plc_at hl o2]
        omega
      · intro hp l hl2
        obtain ⟨o1, o2, _⟩ := hok l hl2
        have hb := pot_bd hs hl hp
        have hbd : ∀ i : Int, -1 ≤ i ∧ i < bs.length → valI pt i = atF pt i := fun i hi => by
          refine valI_at ?_
          unfold atF
          by_cases h0 : i < 0
          · rw [if_pos h0]; omega
          · rw [if_neg h0]
            have := hb _ (getD_mem (show i.toNat < pt.length by omega))
            omega
        have g : pt.getD (plc bs.length l.t) 0 ≤ pt.getD (plc bs.length l.f) 0 + l.m := hp l hl2
        rw [plc_at hl o1, plc_at hl o2] at g
        unfold violF
        rw [hbd _ o1, hbd _ o2, decide_eq_false_iff_not]
        omega
    rw [← hv]
    constructor
    · intro h
      refine ⟨hl, fun l hl2 => ?_⟩
      cases hf : (allF bs ls).find? (violF pt) with
      | none =>
        rw [List.find?_eq_none] at hf
        simpa using hf l hl2
      | some x => rw [hf] at h; cases h
    · intro h
      have : (allF bs ls).find? (violF pt) = none := List.find?_eq_none.2 fun l hl2 => by rw [h.2 l hl2]; simp
      rw [this]
  · rw [if_neg hl]
    exact ⟨fun h => by simp at h, fun h => absurd h.1 hl⟩

def checkBestF (bs : List (Int × Int)) (ls : List Lnk) (form : List (Int × Int)) (v : Int) (us : List (Lnk × Int)) (pt : List Int) : Int :=
  if checkF bs ls ≠ 0 then checkF bs ls else if formF form bs.length ≠ 0 then formF form bs.length else if (allowsF bs ls pt).2 = false then 8 else if valM form pt ≠ v then 8 else
  if showsF (allF bs ls) bs.length (coefF 1 form (List.replicate bs.length 0)) us v = false then 8 else 0

theorem formB_of {form : List (Int × Int)} {n : Nat} (h : formF form n = 0) {p : Int} (hp : -4294967296 ≤ p ∧ p ≤ 4294967296) : FormB n p form := by
  intro t ht
  obtain ⟨h1, h2⟩ := (formF_ok h).2.1 t ht
  have := mul_bd (C := 4294967296) (D := 1024) hp h2
  exact ⟨h1, by omega⟩

end Go.Proofs

namespace Go.Proofs
open Go.Sx

def negL (form : List (Int × Int)) : List (Int × Int) := form.map fun t => (t.1, -t.2)

theorem negL_len (form : List (Int × Int)) : (negL form).length = form.length := by simp [negL]

theorem formF_neg {form : List (Int × Int)} {n : Int} (h : formF form n = 0) : formF (negL form) n = 0 := by
  obtain ⟨h1, h2, h3⟩ := formF_ok h
  refine formF_of (by rw [negL_len]; exact h1) (fun t ht => ?_) ?_
  · obtain ⟨x, hx, rfl⟩ := List.mem_map.1 ht
    have := h2 x hx
    exact ⟨this.1, by show -1024 ≤ -x.2; omega, by show -x.2 ≤ 1024; omega⟩
  · rw [negL, List.map_map]; exact h3

theorem valM_neg (pt : List Int) : ∀ form : List (Int × Int), valM (negL form) pt = -valM form pt
  | [] => rfl
  | t :: r => by
    show -t.2 * pt.getD t.1.toNat 0 + valM (negL r) pt = -(t.2 * pt.getD t.1.toNat 0 + valM r pt)
    rw [valM_neg pt r, Int.neg_mul]; omega

theorem coefF_neg : ∀ (form : List (Int × Int)) (out : List Int), coefF 1 (negL form) out = coefF (-1) form out
  | [], out => rfl
  | t :: r, out => by
    show coefF 1 (negL r) (out.set t.1.toNat (out.getD t.1.toNat 0 + 1 * -t.2)) = coefF (-1) r (out.set t.1.toNat (out.getD t.1.toNat 0 + -1 * t.2))
    rw [coefF_neg r, Int.one_mul, Int.neg_mul, Int.one_mul]

/-- A system that does not contradict itself and is not too large. -/
structure NetW (bs : List (Int × Int)) (ls : List Lnk) : Prop where
  few : bs.length ≤ 14 ∧ ls.length ≤ 150
  sys : SysOK bs ls
  calm : Calm bs ls 0

theorem NetOK.w {bs : List (Int × Int)} {ls : List Lnk} (h : NetOK bs ls) : NetW bs ls := ⟨⟨h.few.1, by have := h.few; omega⟩, h.sys, h.calm⟩

theorem best_net {bs : List (Int × Int)} {ls : List Lnk} (h : NetW bs ls) {by' : List Int} {C : Int} (hbl : by'.length = bs.length) (hC : 0 ≤ C ∧ C ≤ 4294967296) (hbb : ∀ x ∈ by', -C ≤ x ∧ x ≤ C) :
    ∃ flow pt v, bestF bs.length (graphF bs ls 0) 68719476737 by' = some (v, usesF (allF bs ls) flow, pt) ∧ BestOK bs.length (allF bs ls) by' flow pt v (bs.length * C) ∧ bs.length * C ≤ 68719476736 := by
  have hf := h.few
  have hn : (bs.length : Int) * C ≤ 14 * 4294967296 := Int.mul_le_mul (by omega) hC.2 hC.1 (by omega)
  obtain ⟨q, hq⟩ := calm_pot h.sys h.calm
  have hok := allF_ok h.sys
  have hub := hub_graph bs ls 0
  have hq := hq 0
  rw [graphF_zero] at hub hq ⊢
  obtain ⟨flow, pt, v, h1, h2⟩ := best_gen (C := C) hok hub hq (fun v hv => box_arcs h.sys hv) hbl (by omega) hbb (by omega) (by omega)
  exact ⟨flow, pt, v, h1, h2, by omega⟩

theorem BestOK.bd {bs : List (Int × Int)} {ls : List Lnk} (h : NetW bs ls) {by' flow pt : List Int} {v S C : Int} (hb : BestOK bs.length (allF bs ls) by' flow pt v S) (hbl : by'.length = bs.length) (hC : 0 ≤ C ∧ C ≤ 4294967296) (hbb : ∀ x ∈ by', -C ≤ x ∧ x ≤ C) : -1152921504606846976 ≤ v ∧ v ≤ 1152921504606846976 := by
  have hpb := pot_bd h.sys hb.pl hb.pot
  have hf := h.few
  rw [← hb.val]
  have key : ∀ {x y : List Int}, (∀ z ∈ x, -C ≤ z ∧ z ≤ C) → (∀ z ∈ y, -16777216 ≤ z ∧ z ≤ 16777216) → -(x.length * (C * 16777216)) ≤ dotI x y ∧ dotI x y ≤ x.length * (C * 16777216) := by
    intro x
    induction x with
    | nil => intro y _ _; simp [dotI]
    | cons a x ih =>
      intro y hx hy
      have h0 : 0 ≤ C * 16777216 := by omega
      have hl : ((x.length + 1 : Nat) : Int) * (C * 16777216) = x.length * (C * 16777216) + C * 16777216 := by rw [Int.natCast_add, Int.add_mul]; simp
      have hl0 : 0 ≤ (x.length : Int) * (C * 16777216) := Int.mul_nonneg (by omega) h0
      rw [List.length_cons, hl]
      cases y with
      | nil => show -(_ + _) ≤ (0 : Int) ∧ (0 : Int) ≤ _; omega
      | cons b y =>
        have := ih (fun z hz => hx z (List.mem_cons_of_mem _ hz)) (fun z hz => hy z (List.mem_cons_of_mem _ hz))
        have hm := mul_bd (hx a (List.mem_cons_self ..)) (hy b (List.mem_cons_self ..))
        show _ ≤ a * b + dotI x y ∧ a * b + dotI x y ≤ _
        omega
  have := key hbb hpb
  have h2 : (by'.length : Int) * (C * 16777216) ≤ 14 * (4294967296 * 16777216) := Int.mul_le_mul (by omega) (by omega) (by omega) (by omega)
  omega

/-- The greatest and the least value of a form of a system that does not contradict itself. -/
theorem form_net {bs : List (Int × Int)} {ls : List Lnk} (h : NetW bs ls) {form : List (Int × Int)} (hf : formF form bs.length = 0) {p : Int} (hp : p = 1 ∨ p = -1) :
    (coefF p form (List.replicate bs.length 0)).length = bs.length ∧ (∀ x ∈ coefF p form (List.replicate bs.length 0), -1024 ≤ x ∧ x ≤ 1024) ∧
    ∃ flow pt v, bestF bs.length (graphF bs ls 0) 68719476737 (coefF p form (List.replicate bs.length 0)) = some (v, usesF (allF bs ls) flow, pt) ∧
      BestOK bs.length (allF bs ls) (coefF p form (List.replicate bs.length 0)) flow pt v (bs.length * 1024) ∧ (-1152921504606846976 ≤ v ∧ v ≤ 1152921504606846976) ∧
      showsF (allF bs ls) bs.length (coefF p form (List.replicate bs.length 0)) (usesF (allF bs ls) flow) v = true ∧ (allowsF bs ls pt).2 = true ∧ p * valM form pt = v ∧ (usesF (allF bs ls) flow).length ≤ 2000 ∧
      ∀ pt', (allowsF bs ls pt').2 = true → p * valM form pt' ≤ v := by
  obtain ⟨f1, f2, f3⟩ := formF_ok hf
  have hfew := h.few
  have hl : (coefF p form (List.replicate bs.length 0)).length = bs.length := by rw [coefF_len, List.length_replicate]
  have hb : ∀ x ∈ coefF p form (List.replicate bs.length 0), -1024 ≤ x ∧ x ≤ 1024 := by
    refine coefF_bd f3 (fun t ht => ⟨by rw [List.length_replicate]; exact (f2 t ht).1, ?_⟩) (fun t _ => replicate_getD _ _) (fun y hy => ?_)
    · have := (f2 t ht).2
      rcases hp with rfl | rfl <;> omega
    · obtain ⟨_, rfl⟩ := List.mem_replicate.1 hy; omega
  refine ⟨hl, hb, ?_⟩
  have hd : ∀ pt', dotI (coefF p form (List.replicate bs.length 0)) pt' = p * valM form pt' := fun pt' => by
    rw [coefF_dot p pt' (fun t ht => by rw [List.length_replicate]; exact (f2 t ht).1), dotI_zero]; omega
  generalize coefF p form (List.replicate bs.length 0) = cf at *
  obtain ⟨flow, pt, v, h1, h2, h3⟩ := best_net h (C := 1024) hl (by omega) hb
  have hal := allF_len bs ls
  have hus := usesF_len (allF bs ls) flow
  refine ⟨flow, pt, v, h1, h2, h2.bd h hl (by omega) hb, h2.shows (allF_ok h.sys) hl h3 (by omega), (allows_iff h.sys).2 ⟨h2.pl, h2.pot⟩, by rw [← hd, h2.val], by omega, fun pt' hpt' => ?_⟩
  obtain ⟨a1, a2⟩ := (allows_iff h.sys).1 hpt'
  rw [← hd]
  exact h2.most (allF_ok h.sys) hl a1 a2

theorem best_call {bs : List (Int × Int)} {ls : List Lnk} (h : NetW bs ls) {form : List (Int × Int)} (hf : formF form bs.length = 0) :
    ∃ v us pt, Triple Try.prog 28 [.c (.p 0 0 0 0), .c (.s 3 0 form.length 2)] ((3, false, .arr (aSpan form)) :: netH bs ls) 4
      (.tup [.inr [.v (.int .i64 v), .s 4 0 us.length 5, .s 5 0 pt.length 1], .inl (.v (.int .i64 0))]) [(4, true, .arr (aUse us)), (5, true, .arr (aInt pt))] ∧
      (-1152921504606846976 ≤ v ∧ v ≤ 1152921504606846976) ∧ us.length ≤ 2000 ∧ (allowsF bs ls pt).2 = true ∧ 1 * valM form pt = v ∧ ∀ pt', (allowsF bs ls pt').2 = true → 1 * valM form pt' ≤ v := by
  obtain ⟨f1, _, _⟩ := formF_ok hf
  obtain ⟨l1, b1, flow1, pt1, v1, hB1, hO1, hv1, hsh1, hal1, hval1, hul1, hm1⟩ := form_net h hf (p := 1) (.inl rfl)
  exact ⟨v1, _, pt1, Best_t bs ls form 68719476737 v1 (usesF (allF bs ls) flow1) pt1 _ h.sys (by omega) hf (formB_of hf (by omega)) rfl l1 (fun x hx => by have := b1 x hx; omega) hB1, hv1, hul1, hal1, hval1, hm1⟩

theorem least_call {bs : List (Int × Int)} {ls : List Lnk} (h : NetW bs ls) {form : List (Int × Int)} (hf : formF form bs.length = 0) :
    ∃ v us pt, Triple Try.prog 29 [.c (.p 0 0 0 0), .c (.s 3 0 form.length 2)] ((3, false, .arr (aSpan form)) :: netH bs ls) 4
      (.tup [.inr [.v (.int .i64 (-v)), .s 4 0 us.length 5, .s 5 0 pt.length 1], .inl (.v (.int .i64 0))]) [(4, true, .arr (aUse us)), (5, true, .arr (aInt pt))] ∧
      (-1152921504606846976 ≤ v ∧ v ≤ 1152921504606846976) ∧ us.length ≤ 2000 ∧ (allowsF bs ls pt).2 = true ∧ -1 * valM form pt = v ∧ ∀ pt', (allowsF bs ls pt').2 = true → -1 * valM form pt' ≤ v := by
  obtain ⟨f1, _, _⟩ := formF_ok hf
  obtain ⟨l1, b1, flow1, pt1, v1, hB1, hO1, hv1, hsh1, hal1, hval1, hul1, hm1⟩ := form_net h hf (p := -1) (.inr rfl)
  exact ⟨v1, _, pt1, Least_t bs ls form 68719476737 v1 (usesF (allF bs ls) flow1) pt1 _ h.sys (by omega) hf (formB_of hf (by omega)) rfl l1 (fun x hx => by have := b1 x hx; omega) hB1 (by omega), hv1, hul1, hal1, hval1, hm1⟩


end Go.Proofs

namespace Go.Proofs
open Go.Sx

theorem newErr_t (bs : List (Int × Int)) (ls : List Lnk) (hb : bs.length ≤ 1000000) (hl : ls.length ≤ 1000000) (hc : checkF bs ls ≠ 0) :
    Triple Try.prog 64 [sysA bs.length ls.length] (sysH bs ls) 2 (.tup [.inl (.v (.pointer none)), .inl (.v (.int .i64 (checkF bs ls)))]) [] := by
  have hce := conflictErr_t bs ls hb hl hc
  generalize checkF bs ls = c at *
  refine triple_of tB_ok Try.func64 rfl Try.call64 rfl ?_
  intro ρ w hH
  conv => whnf
  refine call_step hce rfl rfl ?_
  conv => whnf
  refine ⟨(by repeat' (first | exact trivial | exact rfl | refine And.intro ?_ ?_ | ((conv => whnf); first | exact trivial | exact rfl | refine And.intro ?_ ?_ | omega))), (by repeat' (first | exact trivial | exact rfl | refine And.intro ?_ ?_ | ((conv => whnf); first | exact trivial | exact rfl | refine And.intro ?_ ?_ | omega))), ?_⟩
  conv => whnf
  refine ⟨fun h2 => ?_, fun h2 => absurd (by simpa using (show (c != 0) = false from h2)) hc⟩
  conv => whnf
  repeat' (first | exact trivial | exact rfl | refine And.intro ?_ ?_ | ((conv => whnf); first | exact trivial | exact rfl | refine And.intro ?_ ?_ | omega))

theorem newClash_t (bs : List (Int × Int)) (ls : List Lnk) (hs : SysOK bs ls) (h : ¬ Calm bs ls 0) :
    Triple Try.prog 64 [sysA bs.length ls.length] (sysH bs ls) 2 (.tup [.inl (.v (.pointer none)), .inl (.v (.int .i64 9))]) [] := by
  obtain ⟨v, P, kk, M, hch, hv, hcy⟩ := cyc_of (graphF_ok hs 0) (Nat.le_refl _) h
  have hce := conflictYes_t bs ls v P kk M hs hch hcy
  refine triple_of tB_ok Try.func64 rfl Try.call64 rfl ?_
  intro ρ w hH
  conv => whnf
  refine call_step hce rfl rfl ?_
  conv => whnf
  refine ⟨(by repeat' (first | exact trivial | exact rfl | refine And.intro ?_ ?_ | ((conv => whnf); first | exact trivial | exact rfl | refine And.intro ?_ ?_ | omega))), (by repeat' (first | exact trivial | exact rfl | refine And.intro ?_ ?_ | ((conv => whnf); first | exact trivial | exact rfl | refine And.intro ?_ ?_ | omega))), ?_⟩
  conv => whnf
  refine ⟨fun hc => absurd hc (by simp), fun hc => ?_⟩
  conv => whnf
  repeat' (first | exact trivial | exact rfl | refine And.intro ?_ ?_ | ((conv => whnf); first | exact trivial | exact rfl | refine And.intro ?_ ?_ | omega))

theorem startYes_t (bs : List (Int × Int)) (ls : List Lnk) (h : NetOK bs ls) : Triple Try.prog 33 [sysA bs.length ls.length] (sysH bs ls) 2 (.tup [.inl (.p 2 0 0 0), .inl (.b true)])
      [(2, true, netC 3 4 bs.length ls.length), (3, true, .arr (aSpan bs)), (4, true, .arr (aLink ls))] := by
  refine triple_of tB_ok Try.func33 rfl Try.call33 rfl ?_
  intro ρ w hH
  conv => whnf
  have hf := h.few
  have hs := h.sys
  have hfe : fewF bs ls = true := by simp [fewF]; omega
  refine call_step (few_t bs ls) rfl rfl ?_
  conv => whnf
  refine ⟨(by repeat' (first | exact trivial | exact rfl | refine And.intro ?_ ?_ | ((conv => whnf); first | exact trivial | exact rfl | refine And.intro ?_ ?_ | omega))), (by repeat' (first | exact trivial | exact rfl | refine And.intro ?_ ?_ | ((conv => whnf); first | exact trivial | exact rfl | refine And.intro ?_ ?_ | omega))), ?_⟩
  conv => whnf
  rw [hfe]
  refine ⟨fun hc => absurd hc (by simp), fun hc => ?_⟩
  conv => whnf
  refine call_step (newNone_t bs ls hs h.calm) rfl rfl ?_
  conv => whnf
  refine ⟨(by repeat' (first | exact trivial | exact rfl | refine And.intro ?_ ?_ | ((conv => whnf); first | exact trivial | exact rfl | refine And.intro ?_ ?_ | omega))), (by repeat' (first | exact trivial | exact rfl | refine And.intro ?_ ?_ | ((conv => whnf); first | exact trivial | exact rfl | refine And.intro ?_ ?_ | omega))), ?_⟩
  conv => whnf
  refine ⟨fun hc => ?_, fun hc => absurd hc (by simp)⟩
  conv => whnf
  repeat' (first | exact trivial | exact rfl | refine And.intro ?_ ?_ | ((conv => whnf); first | exact trivial | exact rfl | refine And.intro ?_ ?_ | omega))

theorem startNo_t (bs : List (Int × Int)) (ls : List Lnk) (h : ¬ NetOK bs ls) : Triple Try.prog 33 [sysA bs.length ls.length] (sysH bs ls) 2 (.tup [.inl (.v (.pointer none)), .inl (.b false)]) [] := by
  refine triple_of tB_ok Try.func33 rfl Try.call33 rfl ?_
  intro ρ w hH
  conv => whnf
  refine call_step (few_t bs ls) rfl rfl ?_
  conv => whnf
  refine ⟨(by repeat' (first | exact trivial | exact rfl | refine And.intro ?_ ?_ | ((conv => whnf); first | exact trivial | exact rfl | refine And.intro ?_ ?_ | omega))), (by repeat' (first | exact trivial | exact rfl | refine And.intro ?_ ?_ | ((conv => whnf); first | exact trivial | exact rfl | refine And.intro ?_ ?_ | omega))), ?_⟩
  conv => whnf
  refine ⟨fun hc => ?_, fun hc => ?_⟩
  · conv => whnf
    repeat' (first | exact trivial | exact rfl | refine And.intro ?_ ?_ | ((conv => whnf); first | exact trivial | exact rfl | refine And.intro ?_ ?_ | omega))
  have hfe : fewF bs ls = true := by simpa using (show (!fewF bs ls) = false from hc)
  have hf : bs.length ≤ 14 ∧ ls.length ≤ 40 := by simpa [fewF] using hfe
  by_cases hck : checkF bs ls = 0
  · have hs := checkF_ok.1 hck
    have hcalm : ¬ Calm bs ls 0 := fun hcm => by
      refine h ⟨hf, hs, ?_⟩
      have h00 := few_calm hs hf 0
      rw [graphF_zero] at h00
      rw [h00]
      have hcb : clashB bs ls 0 = false := decide_eq_false (fun hn => hn hcm)
      rw [hcb]; rfl
    have hn := newClash_t bs ls hs hcalm
    conv => whnf
    refine call_step hn rfl rfl ?_
    conv => whnf
    refine ⟨(by repeat' (first | exact trivial | exact rfl | refine And.intro ?_ ?_ | ((conv => whnf); first | exact trivial | exact rfl | refine And.intro ?_ ?_ | omega))), (by repeat' (first | exact trivial | exact rfl | refine And.intro ?_ ?_ | ((conv => whnf); first | exact trivial | exact rfl | refine And.intro ?_ ?_ | omega))), ?_⟩
    conv => whnf
    refine ⟨fun hc => absurd hc (by simp), fun hc => ?_⟩
    conv => whnf
    repeat' (first | exact trivial | exact rfl | refine And.intro ?_ ?_ | ((conv => whnf); first | exact trivial | exact rfl | refine And.intro ?_ ?_ | omega))
  · have hn := newErr_t bs ls (by omega) (by omega) hck
    generalize checkF bs ls = c at *
    conv => whnf
    refine call_step hn rfl rfl ?_
    conv => whnf
    refine ⟨(by repeat' (first | exact trivial | exact rfl | refine And.intro ?_ ?_ | ((conv => whnf); first | exact trivial | exact rfl | refine And.intro ?_ ?_ | omega))), (by repeat' (first | exact trivial | exact rfl | refine And.intro ?_ ?_ | ((conv => whnf); first | exact trivial | exact rfl | refine And.intro ?_ ?_ | omega))), ?_⟩
    conv => whnf
    refine ⟨fun h2 => absurd (by simpa using (show (c == 0) = true from h2)) hck, fun h2 => ?_⟩
    conv => whnf
    repeat' (first | exact trivial | exact rfl | refine And.intro ?_ ?_ | ((conv => whnf); first | exact trivial | exact rfl | refine And.intro ?_ ?_ | omega))

def formedB (n : Nat) (form : List (Int × Int)) (M : Int) : Bool := decide (form.length ≤ n) && (form.all (fun t => decide ((0 ≤ t.1 ∧ t.1 < n) ∧ (-M ≤ t.2 ∧ t.2 ≤ M))) && decide (form.map (·.1)).Nodup)

theorem formedB_iff {n : Nat} {form : List (Int × Int)} {M : Int} : formedB n form M = true ↔ form.length ≤ n ∧ (∀ t ∈ form, (0 ≤ t.1 ∧ t.1 < n) ∧ (-M ≤ t.2 ∧ t.2 ≤ M)) ∧ (form.map (·.1)).Nodup := by
  simp [formedB]

theorem lawFormed_t (bs : List (Int × Int)) (ls : List Lnk) (form : List (Int × Int)) (M : Int) (hb : bs.length ≤ 1000000) (hM : 0 ≤ M ∧ M ≤ 1000000) :
    Triple Try.prog 34 [sysA bs.length ls.length, .c (.s 2 0 form.length 2), iv .i64 M] ((2, false, .arr (aSpan form)) :: sysH bs ls) 3 (bv (formedB bs.length form M)) [] := by
  have hR := @formedB_iff bs.length form M
  generalize formedB bs.length form M = R at *
  refine triple_of tB_ok Try.func34 rfl Try.call34 rfl ?_
  intro ρ w hH
  conv => whnf
  refine ⟨fun hc => ?_, fun hc => ?_⟩
  · have hc : bs.length < form.length := by have hc := of_decide_eq_true (show decide ((bs.length : Int) < form.length) = true from hc); omega
    have e : R = false := by rw [← Bool.not_eq_true, hR]; omega
    rw [e]
    conv => whnf
    repeat' (first | exact trivial | exact rfl | refine And.intro ?_ ?_ | ((conv => whnf); first | exact trivial | exact rfl | refine And.intro ?_ ?_ | omega))
  have hfl : ¬ bs.length < form.length := by have hc := of_decide_eq_false (show decide ((bs.length : Int) < form.length) = false from hc); omega
  conv => whnf
  refine loop_step tB_ok (G := Nat) 0 [] (fun i => [(7, iv .i64 i)]) (fun _ => []) (fun i => i ≤ form.length ∧ (∀ t ∈ form.take i, (0 ≤ t.1 ∧ t.1 < bs.length) ∧ (-M ≤ t.2 ∧ t.2 ≤ M)) ∧ ((form.take i).map (·.1)).Nodup) (fun i => form.length - i) ?_
  conv => whnf
  refine ⟨⟨0, ⟨Nat.zero_le _, by simp, by simp⟩, ?_⟩, ?_⟩
  · conv => whnf
    repeat' (first | exact trivial | exact rfl | refine And.intro ?_ ?_ | ((conv => whnf); first | exact trivial | exact rfl | refine And.intro ?_ ?_ | omega))
  intro i hi ρ1 t1 hρ1
  obtain ⟨hi, hg, hn⟩ := hi
  conv => whnf
  refine ⟨fun hc => ?_, fun hc => ?_⟩
  · have hlt : i < form.length := by simpa using hc
    have hbad : ¬ ((0 ≤ form[i].1 ∧ form[i].1 < bs.length) ∧ (-M ≤ form[i].2 ∧ form[i].2 ≤ M)) → R = false := fun h => by
      rw [← Bool.not_eq_true, hR]
      exact fun h2 => h (h2.2.1 _ (List.getElem_mem hlt))
    conv => whnf
    refine ⟨i, rfl, hlt, hlt, ?_⟩
    conv => whnf
    refine ⟨fun hc => ?_, fun hc => ?_⟩
    · have hc : form[i].1 < 0 := of_decide_eq_true (show decide (form[i].1 < 0) = true from hc)
      rw [hbad (by omega)]
      conv => whnf
      repeat' (first | exact trivial | exact rfl | refine And.intro ?_ ?_ | ((conv => whnf); first | exact trivial | exact rfl | refine And.intro ?_ ?_ | omega))
    have c1 : ¬ form[i].1 < 0 := of_decide_eq_false (show decide (form[i].1 < 0) = false from hc)
    conv => whnf
    refine ⟨i, rfl, hlt, hlt, ?_⟩
    conv => whnf
    refine ⟨fun hc => ?_, fun hc => ?_⟩
    · have hc : (bs.length : Int) ≤ form[i].1 := of_decide_eq_true (show decide ((bs.length : Int) ≤ form[i].1) = true from hc)
      rw [hbad (by omega)]
      conv => whnf
      repeat' (first | exact trivial | exact rfl | refine And.intro ?_ ?_ | ((conv => whnf); first | exact trivial | exact rfl | refine And.intro ?_ ?_ | omega))
    have c2 : ¬ (bs.length : Int) ≤ form[i].1 := of_decide_eq_false (show decide ((bs.length : Int) ≤ form[i].1) = false from hc)
    conv => whnf
    refine ⟨i, rfl, hlt, hlt, ?_⟩
    conv => whnf
    refine ⟨-M, (congrArg IntKind.i64.wrap (show (0 : Int) - M = -M by omega)).trans (wrapId ⟨by omega, by omega⟩), ?_⟩
    conv => whnf
    refine ⟨fun hc => ?_, fun hc => ?_⟩
    · have hc : form[i].2 < -M := of_decide_eq_true (show decide (form[i].2 < -M) = true from hc)
      rw [hbad (by omega)]
      conv => whnf
      repeat' (first | exact trivial | exact rfl | refine And.intro ?_ ?_ | ((conv => whnf); first | exact trivial | exact rfl | refine And.intro ?_ ?_ | omega))
    have c3 : ¬ form[i].2 < -M := of_decide_eq_false (show decide (form[i].2 < -M) = false from hc)
    conv => whnf
    refine ⟨i, rfl, hlt, hlt, ?_⟩
    conv => whnf
    refine ⟨fun hc => ?_, fun hc => ?_⟩
    · have hc : M < form[i].2 := of_decide_eq_true (show decide (M < form[i].2) = true from hc)
      rw [hbad (by omega)]
      conv => whnf
      repeat' (first | exact trivial | exact rfl | refine And.intro ?_ ?_ | ((conv => whnf); first | exact trivial | exact rfl | refine And.intro ?_ ?_ | omega))
    have c4 : ¬ M < form[i].2 := of_decide_eq_false (show decide (M < form[i].2) = false from hc)
    conv => whnf
    refine loop_step tB_ok (G := Nat) 2 [] (fun k => [(8, iv .i64 k)]) (fun _ => []) (fun k => k ≤ i ∧ ∀ t ∈ form.take k, t.1 ≠ form[i].1) (fun k => i - k) ?_
    conv => whnf
    refine ⟨⟨0, ⟨Nat.zero_le _, by simp⟩, ?_⟩, ?_⟩
    · conv => whnf
      repeat' (first | exact trivial | exact rfl | refine And.intro ?_ ?_ | ((conv => whnf); first | exact trivial | exact rfl | refine And.intro ?_ ?_ | omega))
    intro k hk ρ3 t3 hρ3
    obtain ⟨hk, hq⟩ := hk
    conv => whnf
    refine ⟨fun hc => ?_, fun hc => ?_⟩
    · have hkl : k < i := by simpa using hc
      have hkf : k < form.length := by omega
      conv => whnf
      refine ⟨k, rfl, hkf, hkf, ?_⟩
      conv => whnf
      refine ⟨i, rfl, hlt, hlt, ?_⟩
      conv => whnf
      refine ⟨fun hc => ?_, fun hc => ?_⟩
      · have he : form[k].1 = form[i].1 := by simpa using (show (form[k].1 == form[i].1) = true from hc)
        have e : R = false := by
          rw [← Bool.not_eq_true, hR]
          intro hnd
          have := (List.nodup_iff_pairwise_ne.1 hnd.2.2)
          rw [List.pairwise_iff_getElem] at this
          exact this k i (by simpa using hkf) (by simpa using hlt) hkl (by simpa using he)
        rw [e]
        conv => whnf
        repeat' (first | exact trivial | exact rfl | refine And.intro ?_ ?_ | ((conv => whnf); first | exact trivial | exact rfl | refine And.intro ?_ ?_ | omega))
      · have he : form[k].1 ≠ form[i].1 := by simpa using (show (form[k].1 == form[i].1) = false from hc)
        conv => whnf
        refine ⟨(k : Int) + 1, wrapId (z := (k : Int) + 1) ⟨by omega, by omega⟩, ?_⟩
        refine ⟨k + 1, ⟨hkl, fun t ht => ?_⟩, by show i - (k + 1) < i - k; omega, ?_⟩
        · rw [take_snoc hkf] at ht
          rcases List.mem_append.1 ht with ht | ht
          · exact hq t ht
          · simp at ht; rw [ht]; exact he
        conv => whnf
        refine ⟨rfl, ?_⟩
        conv => whnf
        repeat' (first | exact trivial | exact rfl | refine And.intro ?_ ?_ | ((conv => whnf); first | exact trivial | exact rfl | refine And.intro ?_ ?_ | omega))
    have hke : k = i := by simp at hc; omega
    subst hke
    conv => whnf
    refine ⟨(k : Int) + 1, wrapId (z := (k : Int) + 1) ⟨by omega, by omega⟩, ?_⟩
    refine ⟨k + 1, ⟨hlt, fun t ht => ?_, ?_⟩, by show form.length - (k + 1) < form.length - k; omega, ?_⟩
    · rw [take_snoc hlt] at ht
      rcases List.mem_append.1 ht with ht | ht
      · exact hg t ht
      · simp at ht; rw [ht]; omega
    · rw [take_snoc hlt, List.map_append, List.nodup_append]
      refine ⟨hn, by simp, fun x hx y hy => ?_⟩
      obtain ⟨t, ht, rfl⟩ := List.mem_map.1 hx
      simp at hy
      rw [hy]; exact hq t ht
    conv => whnf
    refine ⟨rfl, ?_⟩
    conv => whnf
    repeat' (first | exact trivial | exact rfl | refine And.intro ?_ ?_ | ((conv => whnf); first | exact trivial | exact rfl | refine And.intro ?_ ?_ | omega))
  have hie : i = form.length := by simp at hc; omega
  subst hie
  rw [List.take_length] at hn hg
  have e : R = true := hR.2 ⟨by omega, hg, hn⟩
  rw [e]
  conv => whnf
  repeat' (first | exact trivial | exact rfl | refine And.intro ?_ ?_ | ((conv => whnf); first | exact trivial | exact rfl | refine And.intro ?_ ?_ | omega))

end Go.Proofs

/-
  Plain lemmas, part 17: sums of forms. Conditions: none; definitions and plain lemmas.
-/
namespace Go
namespace Proofs

end Proofs
end Go

namespace Go.Proofs
open Go.Sx

theorem coefF_bd2 {p B C : Int} : ∀ {form : List (Int × Int)} {out : List Int}, (form.map (·.1)).Nodup → (∀ t ∈ form, (0 ≤ t.1 ∧ t.1 < out.length) ∧ (-C ≤ p * t.2 ∧ p * t.2 ≤ C)) →
    (∀ t ∈ form, -B ≤ out.getD t.1.toNat 0 ∧ out.getD t.1.toNat 0 ≤ B) → (∀ y ∈ out, -(B + C) ≤ y ∧ y ≤ B + C) → ∀ y ∈ coefF p form out, -(B + C) ≤ y ∧ y ≤ B + C
  | [], out, _, _, _, h => h
  | t :: r, out, hn, hb, hz, h => by
    rw [List.map_cons, List.nodup_cons] at hn
    obtain ⟨⟨h0, h1⟩, h2, h3⟩ := hb t (List.mem_cons_self ..)
    refine coefF_bd2 (form := r) hn.2 (fun x hx => ?_) (fun x hx => ?_) (fun y hy => ?_)
    · rw [List.length_set]; exact hb x (List.mem_cons_of_mem _ hx)
    · have hb2 := (hb x (List.mem_cons_of_mem _ hx)).1
      rw [getD_set (by omega), if_neg]
      · exact hz x (List.mem_cons_of_mem _ hx)
      intro he
      exact hn.1 (List.mem_map.2 ⟨x, hx, by omega⟩)
    · rcases List.mem_or_eq_of_mem_set hy with hy | rfl
      · exact h y hy
      · have := hz t (List.mem_cons_self ..); omega

theorem formedB_formF {n : Nat} {form : List (Int × Int)} {M : Int} (h : formedB n form M = true) (hM : M ≤ 1024) (hn : n ≤ 240) : formF form n = 0 := by
  obtain ⟨f1, f2, f3⟩ := formedB_iff.1 h
  exact formF_of (by omega) (fun t ht => by have := f2 t ht; omega) f3

end Go.Proofs

namespace Go
namespace Sx

/-! ### Making room where there is no slice yet: cap(nil), append(nil, make(..)...) -/

end Sx
end Go

namespace Go
namespace Sx

/-! ### A list of slices, written out -/

def inVs (k : Nat) (e : Env) : List (Nat × Operand) → Bool
  | [] => false
  | p :: r => bif (ev e p.2).uses [k] then true else inVs k e r

def allVs (e : Env) (ps : List (Nat × Operand)) : List Nat → Bool
  | [] => true
  | k :: r => bif inVs k e ps then allVs e ps r else false

theorem inVs_get {k : Nat} {e : Env} : ∀ {ps : List (Nat × Operand)}, inVs k e ps = true → ∃ p ∈ ps, (ev e p.2).uses [k] = true
  | [], h => by cases h
  | p :: r, h => by
    simp only [inVs] at h
    cases hu : (ev e p.2).uses [k] with
    | true => exact ⟨p, List.mem_cons_self .., hu⟩
    | false =>
      rw [hu] at h
      obtain ⟨q, hq, h2⟩ := inVs_get h
      exact ⟨q, List.mem_cons_of_mem _ hq, h2⟩

theorem allVs_get {e : Env} {ps : List (Nat × Operand)} : ∀ {l : List Nat} {k : Nat}, allVs e ps l = true → k ∈ l → ∃ p ∈ ps, (ev e p.2).uses [k] = true
  | [], _, _, h => by cases h
  | j :: r, k, h, hk => by
    simp only [allVs] at h
    cases hu : inVs j e ps with
    | false => rw [hu] at h; cases h
    | true =>
      rw [hu] at h
      rcases List.mem_cons.1 hk with rfl | hk
      · exact inVs_get hu
      · exact allVs_get h hk

def bsNK (B : Tabs) (A : Arr) (e : Env) (t : TypeId) (len : Nat) (ps : List (Nat × Operand)) (nx : Nat) (K : Eff → Prop) : Prop :=
  bif allVs e ps A.nm then bsK B A e t len ps nx K else False

theorem bsN_step {cx : Cx} {B : Tabs} (hB : TabsOK cx.P B) {o : Oper} {e : Env} {H : Heap} {nx : Nat} {K : Eff → Prop} {t : TypeId} {len : Nat} {parts : Array (Nat × Operand)} (A : Arr)
    (ho : o.op = .buildSlice t len parts) (h : bsNK B A e t len parts.toList nx K) : ∃ F, CallOK cx o e H nx F ∧ K F := by
  have hmem : ∀ p ∈ parts.toList, p.2 ∈ o.op.operands.toList := fun p hp => by
    simp [ho, Op.operands]; exact ⟨p.1, by simpa using hp⟩
  obtain ⟨hall, h⟩ := bif_and h
  unfold bsK at h
  split at h
  · rename_i el s0 b0 z0 ht
    split at h
    · rename_i ti hti
      split at h
      · rename_i l hl
        obtain ⟨hb, ⟨hlen, hent⟩, hK⟩ := bif_and h
        simp only [Bool.and_eq_true] at hb
        have hb1 := Nat.eq_of_beq_eq_true hb.1
        have hb2 := Nat.le_of_ble_eq_true hb.2.1
        have hb3 := Nat.le_of_ble_eq_true hb.2.2
        refine ⟨_, ⟨loc_new (by simp [ho]) below_s ?_ ?_, fun j hj => by simp at hj; subst hj; simp⟩, hK⟩
        · intro n' hn' j hj
          obtain ⟨k, hk, hjk⟩ := anyMem_iff.1 (show anyMem [j] A.nm = true from hj)
          simp only [List.mem_singleton] at hjk
          subst hjk
          obtain ⟨p, hp, hu⟩ := allVs_get hall hk
          exact (reads_below (hmem p hp) hn') k hu
        · intro ρ a w hr hfr
          obtain ⟨i, z, hi, hz, hisz, hiby, hzz⟩ := ti_parts hB hti
          have hr' : ∀ p ∈ parts.toList, (ev e p.2).rel (upd ρ nx ⟨w.heap.size, 0, len⟩) (a.eval p.2) := by
            intro p hp
            refine SV.rel_upd' (reads_fit (hmem p hp) hr) ?_
            have hm := hmem p hp
            cases hx : p.2 with
            | tmp t => rw [hx] at hm; exact hfr t hm
            | const v => exact evC_uses v _
            | global g => simp [ev, SV.uses, SC.uses, SC.nms, anyMem]
            | func g => simp [ev, SV.uses, SC.uses, SC.nms, anyMem]
          have hinit : ((Array.range (len * i.size)).map (z.cells[· % z.cells.size]!)).size = len * ti.size := by simp [hisz]
          obtain ⟨out, hout, hrel⟩ := fillR_ok (ρ := upd ρ nx ⟨w.heap.size, 0, len⟩) (a := a) (e := e) (sz := ti.size) parts.toList (junks (len * ti.size)) ((Array.range (len * i.size)).map (z.cells[· % z.cells.size]!)) l
            (by have := @junks_rel (upd ρ nx ⟨w.heap.size, 0, len⟩) ((Array.range (len * i.size)).map (z.cells[· % z.cells.size]!)).toList; rwa [Array.length_toList, hinit] at this) hr' hl
          have hlo := relL_length hrel
          have hrelA := entL_rel0 hent hrel
          have hlA := relL_length hrelA
          have hencl : ∀ xs : List A.α, (encAll A xs).length = xs.length * A.sz := by
            intro xs; induction xs with
            | nil => simp [encAll]
            | cons x r ih => simp only [encAll, List.length_append, ih, A.hl, List.length_cons, Nat.add_mul]; omega
          refine ⟨.slice (some ⟨w.heap.size, 0, none⟩) len len, .cells out el (0, 0), len, ?_, ?_, satO_new_arr (by omega) ?_ ?_⟩
          · have hsz : (sizeOf el).run cx.P w = .ok i.size w := by simp [sizeOf, typeInfo, hi]
            have hle : ¬ (len * i.size > 2 ^ 24) := by rw [hisz]; omega
            have h2 : (Array.map (fun x => (x.fst, a.eval x.snd)) parts).toList = parts.toList.map fun p => (p.1, a.eval p.2) := by simp
            simp only [execOp, ho, Instr.buildSlice, Sem.run_bind, run_underlying (und_slice hB ht), Result.andThen_ok, hsz, if_neg hle, h2]
            by_cases h0 : len * i.size = 0
            · have hl0 : len = 0 := by
                rcases Nat.mul_eq_zero.1 h0 with h | h
                · exact h
                · omega
              subst hl0
              simp only [Nat.zero_mul, if_true, Sem.run_pure, Result.andThen_ok]
              simp only [Nat.zero_mul] at hout
              rw [← hisz] at hout
              have e0 : (Array.map (fun x => (#[] : Array Value)[x % (#[] : Array Value).size]!) (Array.range 0)) = (Array.map (fun x => z.cells[x % z.cells.size]!) (Array.range 0)) := by simp
              simp only [e0, hout, Sem.run_bind, newRow, newObj, Sem.run, Result.andThen_ok, Sem.run_pure]
              rfl
            · have hzr : (zeroValue el).run cx.P w = .ok z w := by simp [zeroValue, typeInfo, hi, hz]
              rw [← hisz] at hout
              simp only [if_neg h0, Sem.run_bind, hzr, Result.andThen_ok, Sem.run_pure, hout, newRow, newObj, Sem.run]
              rfl
          · simp only [SV.rel, SC.rel, upd_eq, Nat.sub_zero, Nat.zero_mul, Nat.zero_add]
            exact ⟨_, rfl, Nat.le_refl _, fun _ => by simp [adr, upd_eq]⟩
          · rw [hencl] at hlA; rw [← hlen]; simpa using hlA.symm
          · intro i' xx hxx j d hd
            obtain ⟨v, hv, hvr⟩ := relL_get hrelA (encAll_get hxx hd)
            exact ⟨v, by simpa using hv, hvr⟩
      · exact h.elim
    · exact h.elim
  · exact h.elim

end Sx
end Go

namespace Go.Proofs
open Go.Sx

end Go.Proofs

namespace Go.Proofs
open Go.Sx

end Go.Proofs

namespace Go.Proofs
open Go.Sx

end Go.Proofs

namespace Go.Proofs
open Go.Sx

end Go.Proofs

namespace Go.Proofs
open Go.Sx

/-! ### Boxes -/

end Go.Proofs

namespace Go.Proofs
open Go.Sx

theorem treeW {bs : List (Int × Int)} {ls : List Lnk} (h : NetW bs ls) {a : Int} (ha : a < bs.length) :
    ∃ ts, Tree bs.length (graphF bs ls 0) (edgs bs.length noR 0 (graphF bs ls 0)) (plc bs.length a) (shortF bs.length noRev (graphF bs ls 0) (plc bs.length a)).1 ts :=
  (calm_tree h.sys h.calm 0 (plc_le ha)).2

/-- No numbers that no link contradicts have a greater difference. -/
theorem most_ge {bs : List (Int × Int)} {ls : List Lnk} (h : NetW bs ls) {q : Nat → Int} (hq : PotL bs.length q (graphF bs ls 0)) {a b : Int} (ha : a < bs.length) (hb : b < bs.length) :
    q (plc bs.length b) ≤ q (plc bs.length a) + mostF bs.length (graphF bs ls 0) a b := by
  obtain ⟨ts, hT⟩ := treeW h ha
  exact hT.low (potL_iff.1 hq) (plc_le hb)

theorem most_bdW {bs : List (Int × Int)} {ls : List Lnk} (h : NetW bs ls) (a b : Int) : -250000000000 ≤ mostF bs.length (graphF bs ls 0) a b ∧ mostF bs.length (graphF bs ls 0) a b ≤ 250000000000 := by
  have hl := allF_len bs ls
  have hf := h.few
  exact few_bd (src := plc bs.length a) hf.1 (show (graphF bs ls 0).length ≤ 200 by rw [graphF_zero]; omega) (graphF_ok h.sys 0) noRev _

theorem range_any {bs : List (Int × Int)} {ls : List Lnk} (h : NetW bs ls) (a b : Int) : ∃ lo hi e : Int,
    Triple Try.prog 21 [.c (.p 0 0 0 0), iv .i64 a, iv .i64 b] (netH bs ls) 3 (.tup [.inr [.v (.int .i64 lo), .v (.int .i64 hi)], .inl (.v (.int .i64 e))]) [] ∧
    ((e = 0 ∧ (-1 ≤ a ∧ a < bs.length) ∧ (-1 ≤ b ∧ b < bs.length) ∧ lo = -mostF bs.length (graphF bs ls 0) b a ∧ hi = mostF bs.length (graphF bs ls 0) a b) ∨
      (e = 1 ∧ lo = 0 ∧ hi = 0 ∧ ¬ ((-1 ≤ a ∧ a < bs.length) ∧ (-1 ≤ b ∧ b < bs.length)))) := by
  rcases both_places bs.length a b with ⟨ha, hb, h1, h2⟩ | ⟨h1, h2⟩
  · exact ⟨_, _, 0, range_t bs ls a b h.sys ha.2 hb.2 h1 h2 _ _ rfl rfl, .inl ⟨rfl, ha, hb, rfl, rfl⟩⟩
  · refine ⟨0, 0, 1, rangeErr_t bs ls a b h.sys h1, .inr ⟨rfl, rfl, rfl, fun hh => ?_⟩⟩
    have e1 : withinF a (-1) ((bs.length : Int) - 1) = true := by simp [withinF]; omega
    have e2 : withinF b (-1) ((bs.length : Int) - 1) = true := by simp [withinF]; omega
    rcases h1 with h1 | h1
    · rw [e1] at h1; cases h1
    · rw [e2] at h1; cases h1

end Go.Proofs

namespace Go.Proofs
open Go.Sx

end Go.Proofs

namespace Go.Proofs
open Go.Sx

end Go.Proofs

namespace Go.Proofs
open Go.Sx

end Go.Proofs

namespace Go.Proofs
open Go.Sx

theorem sysAt_t (pt : List Int) (i : Int) (hi : i < pt.length) : Triple Try.prog 152 [.c (.s 0 0 pt.length 1), iv .i64 i] [(0, false, .arr (aInt pt))] 1 (iv .i64 (atF pt i)) [] := by
  refine triple_of tB_ok Try.func152 rfl Try.call152 rfl ?_
  intro ρ w hH
  conv => whnf
  refine ⟨fun hc => ?_, fun hc => ?_⟩
  · have h : i < 0 := of_decide_eq_true (show decide (i < 0) = true from hc)
    conv => whnf
    refine ⟨?_, trivial⟩
    show (0 : Int) = atF pt i
    rw [atF, if_pos h]
  · have h : ¬ i < 0 := of_decide_eq_false (show decide (i < 0) = false from hc)
    obtain ⟨v, hv⟩ : ∃ v : Nat, i = (v : Int) := ⟨i.toNat, by omega⟩
    have hn : i.toNat < pt.length := by omega
    have hvl : v < pt.length := by omega
    conv => whnf
    refine ⟨v, hv, hvl, hvl, ?_⟩
    conv => whnf
    refine ⟨?_, trivial⟩
    show pt[v] = atF pt i
    rw [atF, if_neg h, getD_of hn]
    congr 1
    omega

theorem u64_wrap (x : Int) : IntKind.u64.wrap x = x % 18446744073709551616 := IntKind.wrap_u64 x

def holdsF (pt : List Int) (l : Lnk) : Bool := decide (atF pt l.t - atF pt l.f ≤ l.m)

theorem holds_t (l : Lnk) (pt : List Int) (hl : ArcOK pt.length l) (hp : ∀ x ∈ pt, -9223372036854775808 ≤ x ∧ x ≤ 9223372036854775807) :
    Triple Try.prog 145 [svL l, .c (.s 0 0 pt.length 1)] [(0, false, .arr (aInt pt))] 1 (bv (holdsF pt l)) [] := by
  obtain ⟨o1, o2, o3⟩ := hl
  have hb : ∀ i : Int, i < pt.length → -9223372036854775808 ≤ atF pt i ∧ atF pt i ≤ 9223372036854775807 := fun i hi => by
    unfold atF
    split
    · omega
    · exact hp _ (getD_mem (by omega))
  have ha1 := hb l.f o1.2
  have ha2 := hb l.t o2.2
  have hR : holdsF pt l = decide (atF pt l.t - atF pt l.f ≤ l.m) := rfl
  have t1 := sysAt_t pt l.f o1.2
  have t2 := sysAt_t pt l.t o2.2
  generalize holdsF pt l = R at *
  refine triple_of tB_ok Try.func145 rfl Try.call145 rfl ?_
  intro ρ w hH
  conv => whnf
  refine call_step t1 rfl rfl ?_
  conv => whnf
  refine ⟨(by repeat' (first | exact trivial | exact rfl | refine And.intro ?_ ?_ | ((conv => whnf); first | exact trivial | exact rfl | refine And.intro ?_ ?_ | omega))), (by repeat' (first | exact trivial | exact rfl | refine And.intro ?_ ?_ | ((conv => whnf); first | exact trivial | exact rfl | refine And.intro ?_ ?_ | omega))), ?_⟩
  conv => whnf
  refine call_step t2 rfl rfl ?_
  conv => whnf
  refine ⟨(by repeat' (first | exact trivial | exact rfl | refine And.intro ?_ ?_ | ((conv => whnf); first | exact trivial | exact rfl | refine And.intro ?_ ?_ | omega))), (by repeat' (first | exact trivial | exact rfl | refine And.intro ?_ ?_ | ((conv => whnf); first | exact trivial | exact rfl | refine And.intro ?_ ?_ | omega))), ?_⟩
  conv => whnf
  generalize atF pt l.f = a at *
  generalize atF pt l.t = b at *
  have w64 := u64_wrap
  obtain ⟨ua, hua⟩ : ∃ z, z = IntKind.u64.wrap a := ⟨_, rfl⟩
  obtain ⟨ub, hub⟩ : ∃ z, z = IntKind.u64.wrap b := ⟨_, rfl⟩
  have hua2 := hua
  have hub2 := hub
  rw [w64] at hua2 hub2
  refine ⟨fun hc => ?_, fun hc => ?_⟩
  · have c1 : b ≤ a := of_decide_eq_true (show decide (b ≤ a) = true from hc)
    conv => whnf
    refine ⟨fun hc => ?_, fun hc => ?_⟩
    · have c2 : 0 ≤ l.m := of_decide_eq_true (show decide (0 ≤ l.m) = true from hc)
      conv => whnf
      refine ⟨?_, trivial⟩
      show true = R
      rw [hR, eq_comm, decide_eq_true_eq]
      omega
    have c2 : ¬ 0 ≤ l.m := of_decide_eq_false (show decide (0 ≤ l.m) = false from hc)
    conv => whnf
    refine ⟨ua, hua.symm, ?_⟩
    conv => whnf
    refine ⟨ub, hub.symm, ?_⟩
    conv => whnf
    refine ⟨a - b, by rw [w64]; omega, ?_⟩
    conv => whnf
    refine ⟨-l.m, (congrArg IntKind.i64.wrap (show (0 : Int) - l.m = -l.m by omega)).trans (wrapId ⟨by omega, by omega⟩), ?_⟩
    conv => whnf
    refine ⟨-l.m, by rw [w64]; omega, ?_⟩
    conv => whnf
    refine ⟨?_, trivial⟩
    show decide (-l.m ≤ a - b) = R
    rw [hR]
    exact decide_eq_decide.2 (by omega)
  · have c1 : ¬ b ≤ a := of_decide_eq_false (show decide (b ≤ a) = false from hc)
    conv => whnf
    refine ⟨fun hc => ?_, fun hc => ?_⟩
    · have c2 : 0 ≤ l.m := of_decide_eq_true (show decide (0 ≤ l.m) = true from hc)
      conv => whnf
      refine ⟨ub, hub.symm, ?_⟩
      conv => whnf
      refine ⟨ua, hua.symm, ?_⟩
      conv => whnf
      refine ⟨b - a, by rw [w64]; omega, ?_⟩
      conv => whnf
      refine ⟨l.m, by rw [w64]; omega, ?_⟩
      conv => whnf
      refine ⟨?_, trivial⟩
      show decide (b - a ≤ l.m) = R
      exact hR.symm
    · have c2 : ¬ 0 ≤ l.m := of_decide_eq_false (show decide (0 ≤ l.m) = false from hc)
      conv => whnf
      refine ⟨?_, trivial⟩
      show false = R
      rw [hR, eq_comm, decide_eq_false_iff_not]
      omega

end Go.Proofs

