/-
  A part of the proof that a law of dryweightlaw03 answers true: lemmas of a symbolic walk, plain functions, or contracts of the functions walked (We, Wf, Pm4). Conditions: none.
-/
import Derived.Test.YtjjfadfmdodmnaaPart13
set_option maxRecDepth 100000
set_option linter.unusedVariables false
set_option linter.unusedSimpArgs false
namespace Go.Proofs
open Go.Sx

/-! ### Forms -/

def formG (vars : Int) : List Int → Int → List (Int × Int) → Int
  | _, e, [] => e
  | seen, e, t :: r => if withinF t.1 0 (vars - 1) && withinF t.2 (-1024) 1024 then formG vars (t.1 :: seen) (if t.1 ∈ seen then 6 else e) r else 1

def formF (form : List (Int × Int)) (vars : Int) : Int := if 240 < form.length then 2 else formG vars [] 0 form

theorem formed_t (form : List (Int × Int)) (vars : Int) (hl : form.length ≤ 100000) (hv : -1000000 ≤ vars ∧ vars ≤ 1000000) : Triple Try.prog 91 [.c (.s 0 0 form.length 2), iv .i64 vars] [(0, false, .arr (aSpan form))] 1 (iv .i64 (formF form vars)) [] := by
  refine triple_of tB_ok Try.func91 rfl Try.call91 rfl ?_
  intro ρ w hH
  conv => whnf
  refine ⟨fun hc => ?_, fun hc => ?_⟩
  · have hc : 240 < form.length := by have hc := of_decide_eq_true (show decide ((240 : Int) < form.length) = true from hc); omega
    conv => whnf
    refine ⟨?_, trivial⟩
    show (2 : Int) = formF form vars
    unfold formF
    rw [if_pos hc]
  have hc : ¬ 240 < form.length := by have hc := of_decide_eq_false (show decide ((240 : Int) < form.length) = false from hc); omega
  have hF : formF form vars = formG vars [] 0 form := by unfold formF; rw [if_neg hc]
  rw [hF]
  conv => whnf
  refine mkmap_step rfl ?_
  conv => whnf
  refine loop_step tB_ok (G := Nat × List Int × Int) 1 [] (fun g => [(15, iv .i64 g.1), (6, iv .i64 g.2.2)]) (fun g => [(1, true, setO g.2.1)]) (fun g => g.1 ≤ form.length ∧ formG vars [] 0 form = formG vars g.2.1 g.2.2 (form.drop g.1)) (fun g => form.length - g.1) ?_
  conv => whnf
  refine ⟨⟨(0, [], 0), ⟨Nat.zero_le _, rfl⟩, ?_⟩, ?_⟩
  · conv => whnf
    repeat' (first | exact trivial | exact rfl | refine And.intro ?_ ?_ | ((conv => whnf); first | exact trivial | exact rfl | refine And.intro ?_ ?_ | omega))
  rintro ⟨i, seen, e⟩ ⟨hi, hg⟩ ρ1 t1 hρ1
  have hi : i ≤ form.length := hi
  have hg : formG vars [] 0 form = formG vars seen e (form.drop i) := hg
  rw [hg]
  dsimp only
  conv => whnf
  refine ⟨fun hc => ?_, fun hc => ?_⟩
  · have hc : i < form.length := by simpa using hc
    have hlt := hc
    rw [List.drop_eq_getElem_cons hlt]
    conv => whnf
    refine ⟨i, rfl, hc, hc, ?_⟩
    conv => whnf
    refine ⟨_, wrapId ⟨by omega, by omega⟩, ?_⟩
    conv => whnf
    refine call_step (within_t form[i].1 0 (vars - 1)) rfl rfl ?_
    conv => whnf
    refine ⟨(by repeat' (first | exact trivial | exact rfl | refine And.intro ?_ ?_ | ((conv => whnf); first | exact trivial | exact rfl | refine And.intro ?_ ?_ | omega))), (by repeat' (first | exact trivial | exact rfl | refine And.intro ?_ ?_ | ((conv => whnf); first | exact trivial | exact rfl | refine And.intro ?_ ?_ | omega))), ?_⟩
    conv => whnf
    refine ⟨fun hc => ?_, fun hc => ?_⟩
    · have h1 : withinF form[i].1 0 (vars - 1) = false := by simpa using (show (!withinF form[i].1 0 (vars - 1)) = true from hc)
      conv => whnf
      refine ⟨?_, trivial⟩
      show (1 : Int) = formG vars seen e (form[i] :: form.drop (i + 1))
      simp [formG, h1]
    have h1 : withinF form[i].1 0 (vars - 1) = true := by simpa using (show (!withinF form[i].1 0 (vars - 1)) = false from hc)
    conv => whnf
    refine call_step (within_t form[i].2 (-1024) 1024) rfl rfl ?_
    conv => whnf
    refine ⟨(by repeat' (first | exact trivial | exact rfl | refine And.intro ?_ ?_ | ((conv => whnf); first | exact trivial | exact rfl | refine And.intro ?_ ?_ | omega))), (by repeat' (first | exact trivial | exact rfl | refine And.intro ?_ ?_ | ((conv => whnf); first | exact trivial | exact rfl | refine And.intro ?_ ?_ | omega))), ?_⟩
    conv => whnf
    refine ⟨fun hc => ?_, fun hc => ?_⟩
    · have h2 : withinF form[i].2 (-1024) 1024 = false := by simpa using (show (!withinF form[i].2 (-1024) 1024) = true from hc)
      conv => whnf
      refine ⟨?_, trivial⟩
      show (1 : Int) = formG vars seen e (form[i] :: form.drop (i + 1))
      simp [formG, h2]
    have h2 : withinF form[i].2 (-1024) 1024 = true := by simpa using (show (!withinF form[i].2 (-1024) 1024) = false from hc)
    have hn : formG vars seen e (form[i] :: form.drop (i + 1)) = formG vars (form[i].1 :: seen) (if form[i].1 ∈ seen then 6 else e) (form.drop (i + 1)) := by simp [formG, h1, h2]
    conv => whnf
    refine lookup_step tB_ok 4 zeroB_ok rfl ?_
    conv => whnf
    refine ⟨seen, rfl, ?_⟩
    conv => whnf
    refine ⟨fun hc => ?_, fun hc => ?_⟩
    · have hs : form[i].1 ∈ seen := of_decide_eq_true (show decide (form[i].1 ∈ seen) = true from hc)
      rw [if_pos hs] at hn
      conv => whnf
      refine mapUp_step tB_ok rfl ?_
      conv => whnf
      refine ⟨seen, rfl, ?_⟩
      conv => whnf
      refine ⟨_, wrapId ⟨by omega, by omega⟩, ?_⟩
      refine ⟨(i + 1, form[i].1 :: seen, 6), ⟨hlt, hn⟩, by show form.length - (i + 1) < form.length - i; omega, ?_⟩
      conv => whnf
      refine ⟨rfl, ?_⟩
      conv => whnf
      repeat' (first | exact trivial | exact rfl | refine And.intro ?_ ?_ | ((conv => whnf); first | exact trivial | exact rfl | refine And.intro ?_ ?_ | omega))
    · have hs : form[i].1 ∉ seen := of_decide_eq_false (show decide (form[i].1 ∈ seen) = false from hc)
      rw [if_neg hs] at hn
      conv => whnf
      refine mapUp_step tB_ok rfl ?_
      conv => whnf
      refine ⟨seen, rfl, ?_⟩
      conv => whnf
      refine ⟨_, wrapId ⟨by omega, by omega⟩, ?_⟩
      refine ⟨(i + 1, form[i].1 :: seen, e), ⟨hlt, hn⟩, by show form.length - (i + 1) < form.length - i; omega, ?_⟩
      conv => whnf
      refine ⟨rfl, ?_⟩
      conv => whnf
      repeat' (first | exact trivial | exact rfl | refine And.intro ?_ ?_ | ((conv => whnf); first | exact trivial | exact rfl | refine And.intro ?_ ?_ | omega))
  · have hi2 : i = form.length := by simp at hc; omega
    subst hi2
    rw [List.drop_length]
    conv => whnf
    repeat' (first | exact trivial | exact rfl | refine And.intro ?_ ?_ | ((conv => whnf); first | exact trivial | exact rfl | refine And.intro ?_ ?_ | omega))


/-! ### Coefficients -/

def coefF (p : Int) : List (Int × Int) → List Int → List Int
  | [], out => out
  | t :: r, out => coefF p r (out.set t.1.toNat (out.getD t.1.toNat 0 + p * t.2))

/-- Numbers of a form that a system with so many variables can take, a multiple of which is small. -/
def FormB (vars : Nat) (p : Int) (a : List (Int × Int)) : Prop := ∀ t ∈ a, (0 ≤ t.1 ∧ t.1 < vars) ∧ (-4503599627370496 ≤ p * t.2 ∧ p * t.2 ≤ 4503599627370496)

theorem set_bd {out : List Int} {B : Int} {v : Nat} {x : Int} (h : ∀ y ∈ out, -B ≤ y ∧ y ≤ B) (hx : -4503599627370496 ≤ x ∧ x ≤ 4503599627370496) (hv : v < out.length) :
    ∀ y ∈ out.set v (out.getD v 0 + x), -(B + 4503599627370496) ≤ y ∧ y ≤ B + 4503599627370496 := by
  intro y hy
  rcases List.mem_or_eq_of_mem_set hy with hy | rfl
  · have := h y hy; omega
  · have := h _ (getD_mem hv); omega

theorem coef_nil_t (vars : Nat) (a : List (Int × Int)) (p q : Int) (hv : vars ≤ 100000) (ha : a.length ≤ 1000) (hf : FormB vars p a) :
    Triple Try.prog 93 [iv .i64 vars, .c (.s 0 0 a.length 2), iv .i64 p, .c (.v (.slice none 0 0)), iv .i64 q] [(0, false, .arr (aSpan a))] 1
      (.c (.s 1 0 vars 1)) [(1, true, .arr (aInt (coefF p a (List.replicate vars 0))))] := by
  refine triple_of tB_ok Try.func93 rfl Try.call93 rfl ?_
  intro ρ w hH
  conv => whnf
  refine mks_step tB_ok (aInt (List.replicate vars 0)) rfl rfl ?_
  conv => whnf
  refine ⟨vars, ⟨List.length_replicate, rfl, rfl, by show vars * 9 ≤ _; omega, fun x hx => ?_⟩, ?_⟩
  · obtain ⟨_, rfl⟩ := List.mem_replicate.1 hx
    repeat' (first | exact trivial | exact rfl | refine And.intro ?_ ?_ | ((conv => whnf); first | exact trivial | exact rfl | refine And.intro ?_ ?_ | omega))
  conv => whnf
  refine loop_step tB_ok (G := Nat × List Int) 1 [] (fun g => [(20, iv .i64 g.1)]) (fun g => [(1, true, .arr (aInt g.2))]) (fun g => g.1 ≤ a.length ∧ g.2.length = vars ∧ (∀ y ∈ g.2, -(g.1 * 4503599627370496) ≤ y ∧ y ≤ g.1 * 4503599627370496) ∧ coefF p a (List.replicate vars 0) = coefF p (a.drop g.1) g.2) (fun g => a.length - g.1) ?_
  conv => whnf
  refine ⟨⟨(0, List.replicate vars 0), ⟨Nat.zero_le _, List.length_replicate, fun y hy => by obtain ⟨_, rfl⟩ := List.mem_replicate.1 hy; simp, rfl⟩, ?_⟩, ?_⟩
  · conv => whnf
    repeat' (first | exact trivial | exact rfl | refine And.intro ?_ ?_ | ((conv => whnf); first | exact trivial | exact rfl | refine And.intro ?_ ?_ | omega))
  rintro ⟨i, out⟩ ⟨hi, hol, hob, hg⟩ ρ1 t1 hρ1
  have hi : i ≤ a.length := hi
  have hol : out.length = vars := hol
  have hob : ∀ y ∈ out, -((i : Int) * 4503599627370496) ≤ y ∧ y ≤ (i : Int) * 4503599627370496 := hob
  have hg : coefF p a (List.replicate vars 0) = coefF p (a.drop i) out := hg
  rw [hg]
  dsimp only
  conv => whnf
  refine ⟨fun hc => ?_, fun hc => ?_⟩
  · have hc : i < a.length := by simpa using hc
    have hlt := hc
    obtain ⟨⟨hv0, hv1⟩, hb0, hb1⟩ := hf a[i] (List.getElem_mem hlt)
    obtain ⟨v, hve⟩ : ∃ v : Nat, a[i].1 = (v : Int) := ⟨a[i].1.toNat, by omega⟩
    have hvl : v < out.length := by omega
    have hov := hob _ (getD_mem hvl)
    rw [List.drop_eq_getElem_cons hlt]
    have hst : coefF p (a[i] :: a.drop (i + 1)) out = coefF p (a.drop (i + 1)) (out.set v (out.getD v 0 + p * a[i].2)) := by
      simp only [coefF]
      rw [show a[i].1.toNat = v from by omega]
    rw [hst]
    conv => whnf
    refine ⟨i, rfl, hc, hc, ?_⟩
    conv => whnf
    refine ⟨v, hve, by show v < vars; omega, hvl, ?_⟩
    conv => whnf
    obtain ⟨z, hz⟩ : ∃ z, z = p * a[i].2 := ⟨_, rfl⟩
    rw [← hz] at hb0 hb1
    refine ⟨z, (congrArg IntKind.i64.wrap hz.symm).trans (wrapId ⟨by omega, by omega⟩), ?_⟩
    have hge : out.getD v 0 = out[v] := by rw [List.getD_eq_getElem?_getD, List.getElem?_eq_getElem hvl]; rfl
    rw [hge] at hov
    have hset := set_bd (B := (i : Int) * 4503599627370496) hob ⟨hb0, hb1⟩ hvl
    rw [hge] at hset
    rw [← hz, hge]
    obtain ⟨u, hu⟩ : ∃ u, u = out[v] + z := ⟨_, rfl⟩
    rw [← hu] at hset ⊢
    conv => whnf
    refine ⟨u, (congrArg IntKind.i64.wrap (show out[v] + z = u from hu.symm)).trans (wrapId ⟨by omega, by omega⟩), ?_⟩
    conv => whnf
    refine ⟨v, hve, by show v < vars; omega, hvl, u, rfl, ?_⟩
    conv => whnf
    refine ⟨_, wrapId ⟨by omega, by omega⟩, ?_⟩
    refine ⟨(i + 1, out.set v u), ⟨hlt, by show (out.set v u).length = vars; rw [List.length_set]; exact hol, ?_, rfl⟩, by show a.length - (i + 1) < a.length - i; omega, ?_⟩
    · intro y hy
      have := hset y hy
      show -(((i + 1 : Nat) : Int) * 4503599627370496) ≤ y ∧ y ≤ ((i + 1 : Nat) : Int) * 4503599627370496
      omega
    conv => whnf
    refine ⟨rfl, ?_⟩
    conv => whnf
    repeat' (first | exact trivial | exact rfl | refine And.intro ?_ ?_ | ((conv => whnf); first | exact trivial | exact rfl | refine And.intro ?_ ?_ | omega))
  · have hi2 : i = a.length := by simp at hc; omega
    subst hi2
    rw [List.drop_length]
    conv => whnf
    refine loop_step tB_ok (G := Unit) 1 [] (fun g => [(38, iv .i64 0)]) (fun g => []) (fun g => True) (fun g => 0) ?_
    conv => whnf
    refine ⟨⟨(), trivial, ?_⟩, ?_⟩
    · conv => whnf
      repeat' (first | exact trivial | exact rfl | refine And.intro ?_ ?_ | ((conv => whnf); first | exact trivial | exact rfl | refine And.intro ?_ ?_ | omega))
    intro _ _ ρ2 t2 hρ2
    conv => whnf
    refine ⟨fun hc => ?_, fun hc => ?_⟩
    · simp at hc
    · conv => whnf
      repeat' (first | exact trivial | exact rfl | refine And.intro ?_ ?_ | ((conv => whnf); first | exact trivial | exact rfl | refine And.intro ?_ ?_ | omega))

end Go.Proofs

namespace Go.Proofs
open Go.Sx

def aUse (xs : List (Lnk × Int)) : Arr := ⟨Lnk × Int, 5, fun x => [.v (.int .i64 x.1.f), .v (.int .i64 x.1.t), .v (.int .i64 x.1.m), .v (.int .i64 x.1.i), .v (.int .i64 x.2)], [], fun _ => rfl, (by intro x c hc k hk; simp at hc; rcases hc with rfl | rfl | rfl | rfl | rfl <;> cases hk), xs⟩

theorem befF_lt {n : Nat} {arcs : List Lnk} {k q : Nat} (h : befF n arcs k = some q) : k / 2 < arcs.length := by
  unfold befF at h
  cases hx : arcs[k / 2]? with
  | none => simp [hx] at h
  | some l => exact (List.getElem?_eq_some_iff.1 hx).1

theorem befF_eq {n : Nat} {arcs : List Lnk} {k q : Nat} (h : befF n arcs k = some q) (hlt : k / 2 < arcs.length) : q = if k % 2 = 0 then plc n arcs[k / 2].f else plc n arcs[k / 2].t := by
  unfold befF at h
  rw [List.getElem?_eq_getElem hlt] at h
  simpa using h.symm

theorem before_t (n : Nat) (arcs : List Lnk) (last : List Int) (p k q : Nat) (sm : List Int) (th : List Bool) (m : Nat) (hn : n ≤ 1000) (hm : last.length = m) (hp : last[p]? = some (k : Int)) (hkS : ¬ 9223372036854775807 < k) (hq : befF n arcs k = some q) :
    Triple Try.prog 105 [.c (.p 0 0 0 0), .agg [.s 2 0 m 1, .s 3 0 m 1, .s 4 0 m 1], iv .i64 p]
      [(0, false, .cells [.v (.int .i64 n), .s 1 0 arcs.length 4]), (1, false, .arr (aLink arcs)), (2, false, .arr (aInt sm)), (3, false, .arr (aBool th)), (4, false, .arr (aInt last))] 5 (iv .i64 q) [] := by
  refine triple_of tB_ok Try.func105 rfl Try.call105 rfl ?_
  intro ρ w hH
  conv => whnf
  obtain ⟨hpl, hpe⟩ := List.getElem?_eq_some_iff.1 hp
  have hpm : p < m := by omega
  have hkl := befF_lt hq
  have hqe := befF_eq hq hkl
  have hdiv : IntKind.i64.wrap (Int.tdiv last[p] 2) = ((k / 2 : Nat) : Int) ∨ 9223372036854775807 < k := by
    rw [hpe]
    by_cases hk : 9223372036854775807 < k
    · exact .inr hk
    · exact .inl (wrapId (z := ((k / 2 : Nat) : Int)) ⟨by omega, by omega⟩)
  have hkB : ¬ 9223372036854775807 < k := hkS
  have hdiv := hdiv.resolve_right hkB
  have hmod : Int.tmod last[p] 2 = ((k % 2 : Nat) : Int) := by rw [hpe]; rfl
  obtain ⟨v, hv⟩ : ∃ v, v = last[p] := ⟨_, rfl⟩
  obtain ⟨j, hj⟩ : ∃ j, j = k / 2 := ⟨_, rfl⟩
  obtain ⟨b, hb⟩ : ∃ b, b = k % 2 := ⟨_, rfl⟩
  rw [← hj] at hdiv hkl
  rw [← hb] at hmod
  have hqe : q = if b = 0 then plc n arcs[j].f else plc n arcs[j].t := by subst hj hb; exact hqe
  refine ⟨p, rfl, hpm, hpl, ?_⟩
  conv => whnf
  refine ⟨by decide, (j : Int), hdiv, ?_⟩
  conv => whnf
  refine ⟨j, rfl, hkl, hkl, ?_⟩
  conv => whnf
  refine ⟨p, rfl, hpm, hpl, ?_⟩
  conv => whnf
  refine ⟨by decide, (b : Int), hmod, ?_⟩
  conv => whnf
  refine ⟨fun hc => ?_, fun hc => ?_⟩
  · have hc : b = 0 := by have hc := of_decide_eq_true (show decide ((b : Int) = 0) = true by simpa using hc); omega
    rw [if_pos hc] at hqe
    conv => whnf
    refine call_step (place_t n arcs arcs[j].f) rfl rfl ?_
    conv => whnf
    refine ⟨(by repeat' (first | exact trivial | exact rfl | refine And.intro ?_ ?_ | ((conv => whnf); first | exact trivial | exact rfl | refine And.intro ?_ ?_ | omega))), (by repeat' (first | exact trivial | exact rfl | refine And.intro ?_ ?_ | ((conv => whnf); first | exact trivial | exact rfl | refine And.intro ?_ ?_ | omega))), ?_⟩
    conv => whnf
    refine ⟨?_, trivial⟩
    exact congrArg _ hqe.symm
  · have hc : b ≠ 0 := by have hc := of_decide_eq_false (show decide ((b : Int) = 0) = false by simpa using hc); omega
    rw [if_neg hc] at hqe
    conv => whnf
    refine call_step (place_t n arcs arcs[j].t) rfl rfl ?_
    conv => whnf
    refine ⟨(by repeat' (first | exact trivial | exact rfl | refine And.intro ?_ ?_ | ((conv => whnf); first | exact trivial | exact rfl | refine And.intro ?_ ?_ | omega))), (by repeat' (first | exact trivial | exact rfl | refine And.intro ?_ ?_ | ((conv => whnf); first | exact trivial | exact rfl | refine And.intro ?_ ?_ | omega))), ?_⟩
    conv => whnf
    refine ⟨?_, trivial⟩
    exact congrArg _ hqe.symm

end Go.Proofs

/-
  Plain lemmas, part 4: what is still to be brought to each place, as it is filled in. Conditions: none.
-/
namespace Go
namespace Proofs

def needI (by' : List Int) (n i : Nat) : List Int := by'.take i ++ (List.replicate (n - i) 0 ++ [-(by'.take i).sum])

theorem needI_len {by' : List Int} {n i : Nat} (hb : by'.length = n) (hi : i ≤ n) : (needI by' n i).length = n + 1 := by
  simp [needI, hb]; omega

theorem needI_zero (by' : List Int) (n : Nat) : needI by' n 0 = List.replicate (n + 1) 0 := by
  simp [needI, List.replicate_succ']

theorem needI_end {by' : List Int} {n : Nat} (hb : by'.length = n) : needI by' n n = needL by' := by
  subst hb; simp [needI, needL]

theorem needI_step {by' : List Int} {n i : Nat} (hb : by'.length = n) (hi : i < n) (hlt : i < by'.length) :
    ((needI by' n i).set i by'[i]).length = n + 1 ∧ ((needI by' n i).set i by'[i])[n]? = some (-(by'.take i).sum) ∧ ((needI by' n i).set i by'[i]).set n (-(by'.take i).sum - by'[i]) = needI by' n (i + 1) := by
  have hA : (by'.take i).length = i := by simp; omega
  have e0 : (needI by' n i).set i by'[i] = (by'.take i ++ [by'[i]]) ++ (List.replicate (n - (i + 1)) 0 ++ [-(by'.take i).sum]) := by
    unfold needI
    rw [show n - i = (n - (i + 1)) + 1 from by omega, List.replicate_succ, List.cons_append, List.set_append_right _ _ (by omega), hA, Nat.sub_self, List.set_cons_zero, List.append_assoc, List.singleton_append]
  have hB : (by'.take i ++ [by'[i]]).length = i + 1 := by simp; omega
  have hT : by'.take (i + 1) = by'.take i ++ [by'[i]] := List.take_succ_eq_append_getElem hlt
  refine ⟨by rw [List.length_set]; exact needI_len hb (by omega), ?_, ?_⟩
  · rw [e0, List.getElem?_append_right (by omega), hB, List.getElem?_append_right (by simp)]
    simp
  · rw [e0]
    unfold needI
    rw [hT, List.set_append_right _ _ (by omega), hB, List.set_append_right _ _ (by simp)]
    have e1 : n - (i + 1) - (List.replicate (n - (i + 1)) (0 : Int)).length = 0 := by simp
    rw [e1, List.set_cons_zero, List.sum_append, List.sum_cons, List.sum_nil]
    congr 3
    omega

theorem sum_bd {C : Int} : ∀ (l : List Int), (∀ x ∈ l, -C ≤ x ∧ x ≤ C) → -(l.length * C) ≤ l.sum ∧ l.sum ≤ l.length * C
  | [], _ => by simp
  | x :: l, h => by
    have h1 := sum_bd l (fun y hy => h y (List.mem_cons_of_mem _ hy))
    have h2 := h x (List.mem_cons_self ..)
    simp only [List.sum_cons, List.length_cons]
    have e : ((l.length + 1 : Nat) : Int) * C = l.length * C + C := by rw [Int.natCast_add, Int.add_mul]; simp
    rw [e]; omega

theorem stepsF_cases {n : Nat} {arcs : List Lnk} {last : List Int} {src f p : Nat} {ks : List Nat} (h : stepsF n arcs last src f p = some ks) :
    (p = src ∧ ks = []) ∨ (p ≠ src ∧ ∃ k q r f', last[p]? = some ((k : Nat) : Int) ∧ befF n arcs k = some q ∧ stepsF n arcs last src f' q = some r ∧ ks = k :: r) := by
  cases f with
  | zero => cases h
  | succ f =>
    unfold stepsF at h
    split at h
    · rename_i hp; exact .inl ⟨hp, (Option.some.inj h).symm⟩
    · rename_i hp
      refine .inr ⟨hp, ?_⟩
      split at h
      · rename_i k hk
        split at h
        · rename_i hk0
          split at h
          · rename_i q hq
            obtain ⟨r, hr, rfl⟩ := Option.map_eq_some_iff.1 h
            exact ⟨k.toNat, q, r, f, by rw [hk, Int.toNat_of_nonneg hk0], hq, hr, rfl⟩
          · cases h
        · cases h
      · cases h

theorem usesF_snoc : ∀ (a : List Lnk) (b : List Int) (l : Lnk) (x : Int), a.length = b.length → usesF (a ++ [l]) (b ++ [x]) = usesF a b ++ (if 0 < x then [(l, x)] else [])
  | [], [], l, x, _ => by simp [usesF]
  | [], _ :: _, _, _, h => by simp at h
  | _ :: _, [], _, _, h => by simp at h
  | y :: a, z :: b, l, x, h => by
    have ih := usesF_snoc a b l x (by simpa using h)
    simp only [List.cons_append, usesF]
    by_cases hz : 0 < z
    · rw [if_pos hz, if_pos hz, ih]; rfl
    · rw [if_neg hz, if_neg hz, ih]

theorem usesF_take {a : List Lnk} {b : List Int} {m : Nat} (h : a.length = b.length) (hm : m < a.length) (hm' : m < b.length) :
    usesF (a.take (m + 1)) (b.take (m + 1)) = usesF (a.take m) (b.take m) ++ (if 0 < b[m] then [(a[m], b[m])] else []) := by
  rw [List.take_succ_eq_append_getElem hm, List.take_succ_eq_append_getElem hm']
  exact usesF_snoc _ _ _ _ (by simp; omega)

theorem usesF_len : ∀ (a : List Lnk) (b : List Int), (usesF a b).length ≤ a.length
  | [], b => by simp [usesF]
  | _ :: _, [] => by simp [usesF]
  | y :: a, z :: b => by
    have := usesF_len a b
    simp only [usesF]
    split <;> simp <;> omega

theorem addF_cases {a : Int} {k : Nat} {r : List Nat} {flow flow' : List Int} (h : addF a (k :: r) flow = some flow') :
    inI (a * (1 - 2 * ((k % 2 : Nat) : Int))) = true ∧ inI (flow.getD (k / 2) 0 + a * (1 - 2 * ((k % 2 : Nat) : Int))) = true ∧
      addF a r (flow.set (k / 2) (flow.getD (k / 2) 0 + a * (1 - 2 * ((k % 2 : Nat) : Int)))) = some flow' := by
  unfold addF at h
  dsimp only at h
  split at h
  · rename_i hb
    simp only [Bool.and_eq_true] at hb
    exact ⟨hb.1, hb.2, h⟩
  · cases h

theorem innerF_go {n : Nat} {arcs : List Lnk} {src f k : Nat} {need flow : List Int} {T : Tr} {x : Int} {R : Bool × List Int × List Int}
    (h : (if (k : Int) = -1 then some (true, need, flow) else
      match stepsF n arcs T.last src (n + 2) (k : Int).toNat with
      | none => none
      | some ks => match addF (amtF flow ks (min (-x) (need.getD (k : Int).toNat 0))) ks flow with
        | none => none
        | some flow' => if inI (-x) && (inI (x + amtF flow ks (min (-x) (need.getD (k : Int).toNat 0))) && inI ((need.set src (x + amtF flow ks (min (-x) (need.getD (k : Int).toNat 0)))).getD (k : Int).toNat 0 - amtF flow ks (min (-x) (need.getD (k : Int).toNat 0)))) then
            innerF n arcs src f ((need.set src (x + amtF flow ks (min (-x) (need.getD (k : Int).toNat 0)))).set (k : Int).toNat ((need.set src (x + amtF flow ks (min (-x) (need.getD (k : Int).toNat 0)))).getD (k : Int).toNat 0 - amtF flow ks (min (-x) (need.getD (k : Int).toNat 0)))) flow' else none) = some R) :
    ∃ ks a flow', stepsF n arcs T.last src (n + 2) k = some ks ∧ a = amtF flow ks (min (-x) (need.getD k 0)) ∧ addF a ks flow = some flow' ∧ inI (-x) = true ∧ inI (x + a) = true ∧ inI ((need.set src (x + a)).getD k 0 - a) = true ∧
      innerF n arcs src f ((need.set src (x + a)).set k ((need.set src (x + a)).getD k 0 - a)) flow' = some R := by
  rw [if_neg (by omega), Int.toNat_natCast] at h
  split at h
  · cases h
  · rename_i ks hks
    split at h
    · cases h
    · rename_i flow' hfl
      split at h
      · rename_i hb
        simp only [Bool.and_eq_true] at hb
        exact ⟨ks, _, flow', hks, rfl, hfl, hb.1, hb.2.1, hb.2.2, h⟩
      · cases h

end Proofs
end Go

