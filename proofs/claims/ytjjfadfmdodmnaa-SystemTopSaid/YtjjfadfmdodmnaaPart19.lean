/-
  A part of the proof that a law of dryweightlaw03 answers true: lemmas of a symbolic walk, plain functions, or contracts of the functions walked (Xm, Xn, Xo, Xw, Xx). Conditions: none.
-/
import Derived.Test.YtjjfadfmdodmnaaPart18
import Derived.Test.YtjjfadfmdodmnaaPart17
set_option maxRecDepth 100000
set_option linter.unusedVariables false
set_option linter.unusedSimpArgs false
namespace Go.Proofs
open Go.Sx

theorem refCoef_t (bs : List (Int × Int)) (ls : List Lnk) (a : List (Int × Int)) (p q : Int) (hv : bs.length ≤ 100000) (ha : a.length ≤ 1000) (hf : FormB bs.length p a) :
    Triple Try.prog 95 [sysA bs.length ls.length, iv .i64 p, .c (.s 2 0 a.length 2), iv .i64 q, .c (.v (.slice none 0 0))] ((2, false, .arr (aSpan a)) :: sysH bs ls) 3
      (.c (.s 3 0 bs.length 1)) [(3, true, .arr (aInt (coefF p a (List.replicate bs.length 0))))] := by
  refine triple_of tB_ok Try.func95 rfl Try.call95 rfl ?_
  intro ρ w hH
  conv => whnf
  refine mks_step tB_ok (aInt (List.replicate bs.length 0)) rfl rfl ?_
  conv => whnf
  refine ⟨bs.length, ⟨List.length_replicate, rfl, rfl, by show bs.length * 9 ≤ _; omega, fun x hx => ?_⟩, ?_⟩
  · obtain ⟨_, rfl⟩ := List.mem_replicate.1 hx
    repeat' (first | exact trivial | exact rfl | refine And.intro ?_ ?_ | ((conv => whnf); first | exact trivial | exact rfl | refine And.intro ?_ ?_ | omega))
  generalize hvars : bs.length = vars at *
  conv => whnf
  refine loop_step tB_ok (G := Nat × List Int) 0 [] (fun g => [(12, iv .i64 g.1)]) (fun g => [(4, true, .arr (aInt g.2))]) (fun g => g.1 ≤ a.length ∧ g.2.length = vars ∧ (∀ y ∈ g.2, -(g.1 * 4503599627370496) ≤ y ∧ y ≤ g.1 * 4503599627370496) ∧ coefF p a (List.replicate vars 0) = coefF p (a.drop g.1) g.2) (fun g => a.length - g.1) ?_
  conv => whnf
  refine ⟨⟨(0, List.replicate vars 0), ⟨Nat.zero_le _, List.length_replicate, fun y hy => by obtain ⟨_, rfl⟩ := List.mem_replicate.1 hy; simp, rfl⟩, ?_⟩, ?_⟩
  · conv => whnf
    repeat' (first | exact trivial | exact rfl | refine And.intro ?_ ?_ | ((conv => whnf); first | exact trivial | exact rfl | refine And.intro ?_ ?_ | omega))
  rintro ⟨i, out⟩ ⟨hi, hol, hob, hg⟩ ρ1 t1 hρ1
  have hi : i ≤ a.length := hi
  have hol : out.length = vars := hol
  have hob : ∀ y ∈ out, -((i : Int) * 4503599627370496) ≤ y ∧ y ≤ (i : Int) * 4503599627370496 := hob
  have hg : coefF p a (List.replicate vars 0) = coefF p (a.drop i) out := hg
  rw [hg]
  dsimp only
  conv => whnf
  refine ⟨fun hc => ?_, fun hc => ?_⟩
  · have hc : i < a.length := by simpa using hc
    have hlt := hc
    obtain ⟨⟨hv0, hv1⟩, hb0, hb1⟩ := hf a[i] (List.getElem_mem hlt)
    obtain ⟨v, hve⟩ : ∃ v : Nat, a[i].1 = (v : Int) := ⟨a[i].1.toNat, by omega⟩
    have hvl : v < out.length := by omega
    have hov := hob _ (getD_mem hvl)
    rw [List.drop_eq_getElem_cons hlt]
    have hst : coefF p (a[i] :: a.drop (i + 1)) out = coefF p (a.drop (i + 1)) (out.set v (out.getD v 0 + p * a[i].2)) := by
      simp only [coefF]
      rw [show a[i].1.toNat = v from by omega]
    rw [hst]
    conv => whnf
    refine ⟨i, rfl, hc, hc, ?_⟩
    conv => whnf
    refine ⟨i, rfl, hc, hc, ?_⟩
    conv => whnf
    refine ⟨v, hve, by show v < vars; omega, hvl, ?_⟩
    conv => whnf
    refine ⟨i, rfl, hc, hc, ?_⟩
    conv => whnf
    obtain ⟨z, hz⟩ : ∃ z, z = p * a[i].2 := ⟨_, rfl⟩
    rw [← hz] at hb0 hb1
    refine ⟨z, (congrArg IntKind.i64.wrap hz.symm).trans (wrapId ⟨by omega, by omega⟩), ?_⟩
    have hge : out.getD v 0 = out[v] := by rw [List.getD_eq_getElem?_getD, List.getElem?_eq_getElem hvl]; rfl
    rw [hge] at hov
    have hset := set_bd (B := (i : Int) * 4503599627370496) hob ⟨hb0, hb1⟩ hvl
    rw [hge] at hset
    rw [← hz, hge]
    obtain ⟨u, hu⟩ : ∃ u, u = out[v] + z := ⟨_, rfl⟩
    rw [← hu] at hset ⊢
    conv => whnf
    refine ⟨u, (congrArg IntKind.i64.wrap (show out[v] + z = u from hu.symm)).trans (wrapId ⟨by omega, by omega⟩), ?_⟩
    conv => whnf
    refine ⟨v, hve, by show v < vars; omega, hvl, u, rfl, ?_⟩
    conv => whnf
    refine ⟨(i : Int) + 1, wrapId (z := (i : Int) + 1) ⟨by omega, by omega⟩, ?_⟩
    refine ⟨(i + 1, out.set v u), ⟨hlt, by show (out.set v u).length = vars; rw [List.length_set]; exact hol, ?_, rfl⟩, by show a.length - (i + 1) < a.length - i; omega, ?_⟩
    · intro y hy
      have := hset y hy
      show -(((i + 1 : Nat) : Int) * 4503599627370496) ≤ y ∧ y ≤ ((i + 1 : Nat) : Int) * 4503599627370496
      omega
    conv => whnf
    refine ⟨rfl, ?_⟩
    conv => whnf
    repeat' (first | exact trivial | exact rfl | refine And.intro ?_ ?_ | ((conv => whnf); first | exact trivial | exact rfl | refine And.intro ?_ ?_ | omega))
  · have hi2 : i = a.length := by simp at hc; omega
    subst hi2
    rw [List.drop_length]
    conv => whnf
    refine loop_step tB_ok (G := Unit) 2 [] (fun g => [(13, iv .i64 0)]) (fun g => []) (fun g => True) (fun g => 0) ?_
    conv => whnf
    refine ⟨⟨(), trivial, ?_⟩, ?_⟩
    · conv => whnf
      repeat' (first | exact trivial | exact rfl | refine And.intro ?_ ?_ | ((conv => whnf); first | exact trivial | exact rfl | refine And.intro ?_ ?_ | omega))
    intro _ _ ρ2 t2 hρ2
    conv => whnf
    refine ⟨fun hc => ?_, fun hc => ?_⟩
    · simp at hc
    · conv => whnf
      repeat' (first | exact trivial | exact rfl | refine And.intro ?_ ?_ | ((conv => whnf); first | exact trivial | exact rfl | refine And.intro ?_ ?_ | omega))

end Go.Proofs

namespace Go.Proofs
open Go.Sx

theorem costU_split (us : List (Lnk × Int)) {i : Nat} (hlt : i < us.length) {high low q r zh zl : Int} (hcst : high * 262144 + low = costU (us.take i)) (ht : us[i].2 = 262144 * q + r) (hzh : zh = q * us[i].1.m) (hzl : zl = r * us[i].1.m) :
    (high + zh) * 262144 + (low + zl) = costU (us.take (i + 1)) := by
  rw [take_snoc hlt, costU_snoc, ← hcst, hzh, hzl, ht, Int.add_mul, Int.add_mul]
  have e1 : q * us[i].1.m * 262144 = 262144 * q * us[i].1.m := by rw [Int.mul_comm (q * us[i].1.m), Int.mul_assoc]
  omega

theorem shows_t (bs : List (Int × Int)) (ls : List Lnk) (by' : List Int) (us : List (Lnk × Int)) (most : Int) (hs : SysOK bs ls) (hbl : by'.length = bs.length) (hul : us.length ≤ 1000000) (hm : -9223372036854775808 ≤ most ∧ most ≤ 9223372036854775807) :
    Triple Try.prog 94 [sysA bs.length ls.length, .c (.s 2 0 bs.length 1), .c (.s 3 0 us.length 5), iv .i64 most] ((2, false, .arr (aInt by')) :: (3, false, .arr (aUse us)) :: sysH bs ls) 4 (bv (showsF (allF bs ls) bs.length by' us most)) [] := by
  have hR := @showsF_iff (allF bs ls) bs.length by' us most
  generalize showsF (allF bs ls) bs.length by' us most = R at *
  have hnb := hs.nb
  have hnl := hs.nl
  have hall := allF_ok hs
  have hal := allF_le hs
  refine triple_of tB_ok Try.func94 rfl Try.call94 rfl ?_
  intro ρ w hH
  conv => whnf
  refine ⟨fun hc => ?_, fun hc => ?_⟩
  · have hc : 2000 < us.length := by have hc := of_decide_eq_true (show decide ((2000 : Int) < us.length) = true from hc); omega
    have e : R = false := by rw [← Bool.not_eq_true, hR]; omega
    rw [e]
    conv => whnf
    repeat' (first | exact trivial | exact rfl | refine And.intro ?_ ?_ | ((conv => whnf); first | exact trivial | exact rfl | refine And.intro ?_ ?_ | omega))
  have hul : ¬ 2000 < us.length := by have hc := of_decide_eq_false (show decide ((2000 : Int) < us.length) = false from hc); omega
  conv => whnf
  refine call_step (refAll_t bs ls (by omega) hs.boxB (by omega)) rfl rfl ?_
  conv => whnf
  refine ⟨(by repeat' (first | exact trivial | exact rfl | refine And.intro ?_ ?_ | ((conv => whnf); first | exact trivial | exact rfl | refine And.intro ?_ ?_ | omega))), (by repeat' (first | exact trivial | exact rfl | refine And.intro ?_ ?_ | ((conv => whnf); first | exact trivial | exact rfl | refine And.intro ?_ ?_ | omega))), ?_⟩
  conv => whnf
  refine mks_step tB_ok (aInt (List.replicate bs.length 0)) rfl rfl ?_
  conv => whnf
  refine ⟨bs.length, ⟨List.length_replicate, rfl, rfl, by show bs.length * 9 ≤ _; omega, fun x hx => ?_⟩, ?_⟩
  · obtain ⟨_, rfl⟩ := List.mem_replicate.1 hx
    repeat' (first | exact trivial | exact rfl | refine And.intro ?_ ?_ | ((conv => whnf); first | exact trivial | exact rfl | refine And.intro ?_ ?_ | omega))
  generalize hn : bs.length = n at *
  generalize allF bs ls = arcs at *
  conv => whnf
  refine loop_step tB_ok (G := Nat × List Int × Int × Int) 0 [] (fun g => [(13, iv .i64 g.1), (11, iv .i64 g.2.2.1), (12, iv .i64 g.2.2.2)]) (fun g => [(6, true, .arr (aInt g.2.1))])
    (fun g => g.1 ≤ us.length ∧ g.2.1.length = n ∧ (∀ y ∈ g.2.1, -(g.1 * 137438953472) ≤ y ∧ y ≤ g.1 * 137438953472) ∧ (∀ u ∈ us.take g.1, useOK arcs u = true) ∧ gotF us (List.replicate n 0) = gotF (us.drop g.1) g.2.1 ∧ g.2.2.1 * 262144 + g.2.2.2 = costU (us.take g.1) ∧
      (-(8796093022208 * (g.1 : Int)) ≤ g.2.2.1 ∧ g.2.2.1 ≤ 8796093022208 * (g.1 : Int)) ∧ (-(8796093022208 * (g.1 : Int)) ≤ g.2.2.2 ∧ g.2.2.2 ≤ 8796093022208 * (g.1 : Int))) (fun g => us.length - g.1) ?_
  conv => whnf
  refine ⟨⟨(0, List.replicate n 0, 0, 0), ⟨Nat.zero_le _, List.length_replicate, fun y hy => by obtain ⟨_, rfl⟩ := List.mem_replicate.1 hy; simp, by simp, rfl, rfl, ⟨by simp, by simp⟩, ⟨by simp, by simp⟩⟩, ?_⟩, ?_⟩
  · conv => whnf
    repeat' (first | exact trivial | exact rfl | refine And.intro ?_ ?_ | ((conv => whnf); first | exact trivial | exact rfl | refine And.intro ?_ ?_ | omega))
  rintro ⟨i, got, high, low⟩ ⟨hi, hgl, hgb, hg, hgf, hcst, hhb, hlb⟩ ρ1 t1 hρ1
  have hi : i ≤ us.length := hi
  have hgl : got.length = n := hgl
  have hgb : ∀ y ∈ got, -((i : Int) * 137438953472) ≤ y ∧ y ≤ (i : Int) * 137438953472 := hgb
  have hg : ∀ u ∈ us.take i, useOK arcs u = true := hg
  have hgf : gotF us (List.replicate n 0) = gotF (us.drop i) got := hgf
  have hcst : high * 262144 + low = costU (us.take i) := hcst
  have hhb : -(8796093022208 * (i : Int)) ≤ high ∧ high ≤ 8796093022208 * (i : Int) := hhb
  have hlb : -(8796093022208 * (i : Int)) ≤ low ∧ low ≤ 8796093022208 * (i : Int) := hlb
  dsimp only
  conv => whnf
  refine ⟨fun hc => ?_, fun hc => ?_⟩
  · have hlt : i < us.length := by simpa using hc
    have hno : ¬ (us[i].1 ∈ arcs ∧ 1 ≤ us[i].2 ∧ us[i].2 ≤ 68719476736) → R = false := fun h => by
      rw [← Bool.not_eq_true, hR]
      exact fun h2 => h (useOK_iff.1 (h2.2.1 _ (List.getElem_mem hlt)))
    rw [List.drop_eq_getElem_cons hlt] at hgf
    conv => whnf
    refine ⟨i, rfl, hlt, hlt, ?_⟩
    conv => whnf
    refine call_step (known_t arcs us[i].1 (by omega)) rfl rfl ?_
    conv => whnf
    refine ⟨(by repeat' (first | exact trivial | exact rfl | refine And.intro ?_ ?_ | ((conv => whnf); first | exact trivial | exact rfl | refine And.intro ?_ ?_ | omega))), (by repeat' (first | exact trivial | exact rfl | refine And.intro ?_ ?_ | ((conv => whnf); first | exact trivial | exact rfl | refine And.intro ?_ ?_ | omega))), ?_⟩
    conv => whnf
    refine ⟨fun hc => ?_, fun hc => ?_⟩
    · have hk : us[i].1 ∉ arcs := by simpa using (show (!decide (us[i].1 ∈ arcs)) = true from hc)
      have e : R = false := hno fun h => hk h.1
      rw [e]
      conv => whnf
      repeat' (first | exact trivial | exact rfl | refine And.intro ?_ ?_ | ((conv => whnf); first | exact trivial | exact rfl | refine And.intro ?_ ?_ | omega))
    have hk : us[i].1 ∈ arcs := by simpa using (show (!decide (us[i].1 ∈ arcs)) = false from hc)
    conv => whnf
    refine ⟨fun hc => ?_, fun hc => ?_⟩
    · have hc : us[i].2 < 1 := of_decide_eq_true (show decide (us[i].2 < 1) = true from hc)
      have e : R = false := hno fun h => by omega
      rw [e]
      conv => whnf
      repeat' (first | exact trivial | exact rfl | refine And.intro ?_ ?_ | ((conv => whnf); first | exact trivial | exact rfl | refine And.intro ?_ ?_ | omega))
    have ht1 : ¬ us[i].2 < 1 := of_decide_eq_false (show decide (us[i].2 < 1) = false from hc)
    conv => whnf
    refine ⟨fun hc => ?_, fun hc => ?_⟩
    · have hc : 68719476736 < us[i].2 := of_decide_eq_true (show decide (68719476736 < us[i].2) = true from hc)
      have e : R = false := hno fun h => by omega
      rw [e]
      conv => whnf
      repeat' (first | exact trivial | exact rfl | refine And.intro ?_ ?_ | ((conv => whnf); first | exact trivial | exact rfl | refine And.intro ?_ ?_ | omega))
    have ht2 : ¬ 68719476736 < us[i].2 := of_decide_eq_false (show decide (68719476736 < us[i].2) = false from hc)
    have hok1 : useOK arcs us[i] = true := useOK_iff.2 ⟨hk, by omega, by omega⟩
    obtain ⟨o1, o2, hmb⟩ := hall _ hk
    have h1l : (gotP us[i].1.t us[i].2 got).length = n := by rw [gotP_len]; exact hgl
    have h1b : ∀ y ∈ gotP us[i].1.t us[i].2 got, -((i : Int) * 137438953472 + 68719476736) ≤ y ∧ y ≤ (i : Int) * 137438953472 + 68719476736 :=
      gotP_bd hgb (by omega) (by rw [hgl]; exact o2.2)
    rw [gotF] at hgf
    conv => whnf
    refine ⟨fun hc => ?_, fun hc => ?_⟩
    · have hf0 : 0 ≤ us[i].1.t := of_decide_eq_true (show decide (0 ≤ us[i].1.t) = true from hc)
      obtain ⟨v1, hv1⟩ : ∃ v : Nat, us[i].1.t = (v : Int) := ⟨us[i].1.t.toNat, by omega⟩
      have hv1l : v1 < got.length := by omega
      have hb1 := hgb _ (List.getElem_mem hv1l)
      obtain ⟨u1, hu1⟩ : ∃ u, u = got[v1] + us[i].2 := ⟨_, rfl⟩
      have h1e : gotP us[i].1.t us[i].2 got = got.set v1 u1 := by
        unfold gotP
        rw [if_neg (by omega), hv1, Int.toNat_natCast, getD_of hv1l, ← hu1]
      rw [h1e] at h1l h1b hgf
      conv => whnf
      refine ⟨v1, hv1, by show v1 < n; omega, hv1l, ?_⟩
      conv => whnf
      refine ⟨u1, (congrArg IntKind.i64.wrap (show got[v1] + us[i].2 = u1 from hu1.symm)).trans (wrapId ⟨by omega, by omega⟩), ?_⟩
      conv => whnf
      refine ⟨v1, hv1, by show v1 < n; omega, hv1l, u1, rfl, ?_⟩
      conv => whnf
      have h2l : (gotP us[i].1.f (-us[i].2) (got.set v1 u1)).length = n := by rw [gotP_len]; exact h1l
      have h2b : ∀ y ∈ gotP us[i].1.f (-us[i].2) (got.set v1 u1), -(((i + 1 : Nat) : Int) * 137438953472) ≤ y ∧ y ≤ ((i + 1 : Nat) : Int) * 137438953472 := fun y hy => by
        have := gotP_bd (C := 68719476736) h1b (show -68719476736 ≤ -us[i].2 ∧ -us[i].2 ≤ 68719476736 by omega) (by rw [h1l]; exact o1.2) y hy
        omega
      refine ⟨fun hc => ?_, fun hc => ?_⟩
      · have hf0 : 0 ≤ us[i].1.f := of_decide_eq_true (show decide (0 ≤ us[i].1.f) = true from hc)
        obtain ⟨v2, hv2⟩ : ∃ v : Nat, us[i].1.f = (v : Int) := ⟨us[i].1.f.toNat, by omega⟩
        have hv2l : v2 < (got.set v1 u1).length := by omega
        have hb2 := h1b _ (List.getElem_mem hv2l)
        obtain ⟨u2, hu2⟩ : ∃ u, u = (got.set v1 u1)[v2] - us[i].2 := ⟨_, rfl⟩
        have h2e : gotP us[i].1.f (-us[i].2) (got.set v1 u1) = (got.set v1 u1).set v2 u2 := by
          unfold gotP
          rw [if_neg (by omega), hv2, Int.toNat_natCast, getD_of hv2l, ← Int.sub_eq_add_neg, ← hu2]
        rw [h2e] at h2l h2b
        conv => whnf
        refine ⟨v2, hv2, by show v2 < n; omega, hv2l, ?_⟩
        conv => whnf
        refine ⟨u2, (congrArg IntKind.i64.wrap (show (got.set v1 u1)[v2] - us[i].2 = u2 from hu2.symm)).trans (wrapId ⟨by omega, by omega⟩), ?_⟩
        conv => whnf
        refine ⟨v2, hv2, by show v2 < n; omega, hv2l, u2, rfl, ?_⟩
        conv => whnf
        obtain ⟨qT, hqT⟩ : ∃ z, z = Int.tdiv us[i].2 262144 := ⟨_, rfl⟩
        obtain ⟨rT, hrT⟩ : ∃ z, z = Int.tmod us[i].2 262144 := ⟨_, rfl⟩
        have htq : us[i].2 = 262144 * qT + rT := by rw [hqT, hrT]; exact (Int.mul_tdiv_add_tmod us[i].2 262144).symm
        have htr1 : 0 ≤ rT := by rw [hrT]; exact Int.tmod_nonneg 262144 (by omega)
        have htr2 : rT < 262144 := by rw [hrT]; exact Int.tmod_lt_of_pos us[i].2 (by omega)
        have hqb : 0 ≤ qT ∧ qT ≤ 262144 := by omega
        refine ⟨by decide, qT, (congrArg IntKind.i64.wrap hqT.symm).trans (wrapId ⟨by omega, by omega⟩), ?_⟩
        conv => whnf
        obtain ⟨zh, hzh⟩ : ∃ z, z = qT * us[i].1.m := ⟨_, rfl⟩
        obtain ⟨zl, hzl⟩ : ∃ z, z = rT * us[i].1.m := ⟨_, rfl⟩
        have hzhb := mul_bd (x := qT) (C := 262144) (D := 33554432) ⟨by omega, hqb.2⟩ hmb
        have hzlb := mul_bd (x := rT) (C := 262144) (D := 33554432) ⟨by omega, by omega⟩ hmb
        rw [← hzh] at hzhb
        rw [← hzl] at hzlb
        refine ⟨zh, (congrArg IntKind.i64.wrap hzh.symm).trans (wrapId ⟨by omega, by omega⟩), ?_⟩
        conv => whnf
        refine ⟨high + zh, wrapId (z := high + zh) ⟨by omega, by omega⟩, ?_⟩
        conv => whnf
        refine ⟨by decide, rT, hrT.symm, ?_⟩
        conv => whnf
        refine ⟨zl, (congrArg IntKind.i64.wrap hzl.symm).trans (wrapId ⟨by omega, by omega⟩), ?_⟩
        conv => whnf
        refine ⟨low + zl, wrapId (z := low + zl) ⟨by omega, by omega⟩, ?_⟩
        conv => whnf
        refine ⟨(i : Int) + 1, wrapId (z := (i : Int) + 1) ⟨by omega, by omega⟩, ?_⟩
        refine ⟨(i + 1, ((got.set v1 u1).set v2 u2), high + zh, low + zl), ⟨hlt, h2l, h2b, fun u hu => ?_, by show gotF us (List.replicate n 0) = gotF (us.drop (i + 1)) ((got.set v1 u1).set v2 u2); rw [hgf, h2e], costU_split us hlt hcst htq hzh hzl, ⟨by show -(8796093022208 * ((i + 1 : Nat) : Int)) ≤ high + zh; omega, by show high + zh ≤ 8796093022208 * ((i + 1 : Nat) : Int); omega⟩, ⟨by show -(8796093022208 * ((i + 1 : Nat) : Int)) ≤ low + zl; omega, by show low + zl ≤ 8796093022208 * ((i + 1 : Nat) : Int); omega⟩⟩, by show us.length - (i + 1) < us.length - i; omega, ?_⟩
        · rw [take_snoc hlt] at hu
          rcases List.mem_append.1 hu with hu | hu
          · exact hg u hu
          · simp at hu; rw [hu]; exact hok1
        conv => whnf
        refine ⟨rfl, ?_⟩
        conv => whnf
        repeat' (first | exact trivial | exact rfl | refine And.intro ?_ ?_ | ((conv => whnf); first | exact trivial | exact rfl | refine And.intro ?_ ?_ | omega))
      · have hf0 : us[i].1.f < 0 := by have := of_decide_eq_false (show decide (0 ≤ us[i].1.f) = false from hc); omega
        have h2e : gotP us[i].1.f (-us[i].2) (got.set v1 u1) = (got.set v1 u1) := by unfold gotP; rw [if_pos hf0]
        rw [h2e] at h2l h2b
        conv => whnf
        obtain ⟨qT, hqT⟩ : ∃ z, z = Int.tdiv us[i].2 262144 := ⟨_, rfl⟩
        obtain ⟨rT, hrT⟩ : ∃ z, z = Int.tmod us[i].2 262144 := ⟨_, rfl⟩
        have htq : us[i].2 = 262144 * qT + rT := by rw [hqT, hrT]; exact (Int.mul_tdiv_add_tmod us[i].2 262144).symm
        have htr1 : 0 ≤ rT := by rw [hrT]; exact Int.tmod_nonneg 262144 (by omega)
        have htr2 : rT < 262144 := by rw [hrT]; exact Int.tmod_lt_of_pos us[i].2 (by omega)
        have hqb : 0 ≤ qT ∧ qT ≤ 262144 := by omega
        refine ⟨by decide, qT, (congrArg IntKind.i64.wrap hqT.symm).trans (wrapId ⟨by omega, by omega⟩), ?_⟩
        conv => whnf
        obtain ⟨zh, hzh⟩ : ∃ z, z = qT * us[i].1.m := ⟨_, rfl⟩
        obtain ⟨zl, hzl⟩ : ∃ z, z = rT * us[i].1.m := ⟨_, rfl⟩
        have hzhb := mul_bd (x := qT) (C := 262144) (D := 33554432) ⟨by omega, hqb.2⟩ hmb
        have hzlb := mul_bd (x := rT) (C := 262144) (D := 33554432) ⟨by omega, by omega⟩ hmb
        rw [← hzh] at hzhb
        rw [← hzl] at hzlb
        refine ⟨zh, (congrArg IntKind.i64.wrap hzh.symm).trans (wrapId ⟨by omega, by omega⟩), ?_⟩
        conv => whnf
        refine ⟨high + zh, wrapId (z := high + zh) ⟨by omega, by omega⟩, ?_⟩
        conv => whnf
        refine ⟨by decide, rT, hrT.symm, ?_⟩
        conv => whnf
        refine ⟨zl, (congrArg IntKind.i64.wrap hzl.symm).trans (wrapId ⟨by omega, by omega⟩), ?_⟩
        conv => whnf
        refine ⟨low + zl, wrapId (z := low + zl) ⟨by omega, by omega⟩, ?_⟩
        conv => whnf
        refine ⟨(i : Int) + 1, wrapId (z := (i : Int) + 1) ⟨by omega, by omega⟩, ?_⟩
        refine ⟨(i + 1, (got.set v1 u1), high + zh, low + zl), ⟨hlt, h2l, h2b, fun u hu => ?_, by show gotF us (List.replicate n 0) = gotF (us.drop (i + 1)) (got.set v1 u1); rw [hgf, h2e], costU_split us hlt hcst htq hzh hzl, ⟨by show -(8796093022208 * ((i + 1 : Nat) : Int)) ≤ high + zh; omega, by show high + zh ≤ 8796093022208 * ((i + 1 : Nat) : Int); omega⟩, ⟨by show -(8796093022208 * ((i + 1 : Nat) : Int)) ≤ low + zl; omega, by show low + zl ≤ 8796093022208 * ((i + 1 : Nat) : Int); omega⟩⟩, by show us.length - (i + 1) < us.length - i; omega, ?_⟩
        · rw [take_snoc hlt] at hu
          rcases List.mem_append.1 hu with hu | hu
          · exact hg u hu
          · simp at hu; rw [hu]; exact hok1
        conv => whnf
        refine ⟨rfl, ?_⟩
        conv => whnf
        repeat' (first | exact trivial | exact rfl | refine And.intro ?_ ?_ | ((conv => whnf); first | exact trivial | exact rfl | refine And.intro ?_ ?_ | omega))
    · have hf0 : us[i].1.t < 0 := by have := of_decide_eq_false (show decide (0 ≤ us[i].1.t) = false from hc); omega
      have h1e : gotP us[i].1.t us[i].2 got = got := by unfold gotP; rw [if_pos hf0]
      rw [h1e] at h1l h1b hgf
      conv => whnf
      have h2l : (gotP us[i].1.f (-us[i].2) got).length = n := by rw [gotP_len]; exact h1l
      have h2b : ∀ y ∈ gotP us[i].1.f (-us[i].2) got, -(((i + 1 : Nat) : Int) * 137438953472) ≤ y ∧ y ≤ ((i + 1 : Nat) : Int) * 137438953472 := fun y hy => by
        have := gotP_bd (C := 68719476736) h1b (show -68719476736 ≤ -us[i].2 ∧ -us[i].2 ≤ 68719476736 by omega) (by rw [h1l]; exact o1.2) y hy
        omega
      refine ⟨fun hc => ?_, fun hc => ?_⟩
      · have hf0 : 0 ≤ us[i].1.f := of_decide_eq_true (show decide (0 ≤ us[i].1.f) = true from hc)
        obtain ⟨v2, hv2⟩ : ∃ v : Nat, us[i].1.f = (v : Int) := ⟨us[i].1.f.toNat, by omega⟩
        have hv2l : v2 < got.length := by omega
        have hb2 := h1b _ (List.getElem_mem hv2l)
        obtain ⟨u2, hu2⟩ : ∃ u, u = got[v2] - us[i].2 := ⟨_, rfl⟩
        have h2e : gotP us[i].1.f (-us[i].2) got = got.set v2 u2 := by
          unfold gotP
          rw [if_neg (by omega), hv2, Int.toNat_natCast, getD_of hv2l, ← Int.sub_eq_add_neg, ← hu2]
        rw [h2e] at h2l h2b
        conv => whnf
        refine ⟨v2, hv2, by show v2 < n; omega, hv2l, ?_⟩
        conv => whnf
        refine ⟨u2, (congrArg IntKind.i64.wrap (show got[v2] - us[i].2 = u2 from hu2.symm)).trans (wrapId ⟨by omega, by omega⟩), ?_⟩
        conv => whnf
        refine ⟨v2, hv2, by show v2 < n; omega, hv2l, u2, rfl, ?_⟩
        conv => whnf
        obtain ⟨qT, hqT⟩ : ∃ z, z = Int.tdiv us[i].2 262144 := ⟨_, rfl⟩
        obtain ⟨rT, hrT⟩ : ∃ z, z = Int.tmod us[i].2 262144 := ⟨_, rfl⟩
        have htq : us[i].2 = 262144 * qT + rT := by rw [hqT, hrT]; exact (Int.mul_tdiv_add_tmod us[i].2 262144).symm
        have htr1 : 0 ≤ rT := by rw [hrT]; exact Int.tmod_nonneg 262144 (by omega)
        have htr2 : rT < 262144 := by rw [hrT]; exact Int.tmod_lt_of_pos us[i].2 (by omega)
        have hqb : 0 ≤ qT ∧ qT ≤ 262144 := by omega
        refine ⟨by decide, qT, (congrArg IntKind.i64.wrap hqT.symm).trans (wrapId ⟨by omega, by omega⟩), ?_⟩
        conv => whnf
        obtain ⟨zh, hzh⟩ : ∃ z, z = qT * us[i].1.m := ⟨_, rfl⟩
        obtain ⟨zl, hzl⟩ : ∃ z, z = rT * us[i].1.m := ⟨_, rfl⟩
        have hzhb := mul_bd (x := qT) (C := 262144) (D := 33554432) ⟨by omega, hqb.2⟩ hmb
        have hzlb := mul_bd (x := rT) (C := 262144) (D := 33554432) ⟨by omega, by omega⟩ hmb
        rw [← hzh] at hzhb
        rw [← hzl] at hzlb
        refine ⟨zh, (congrArg IntKind.i64.wrap hzh.symm).trans (wrapId ⟨by omega, by omega⟩), ?_⟩
        conv => whnf
        refine ⟨high + zh, wrapId (z := high + zh) ⟨by omega, by omega⟩, ?_⟩
        conv => whnf
        refine ⟨by decide, rT, hrT.symm, ?_⟩
        conv => whnf
        refine ⟨zl, (congrArg IntKind.i64.wrap hzl.symm).trans (wrapId ⟨by omega, by omega⟩), ?_⟩
        conv => whnf
        refine ⟨low + zl, wrapId (z := low + zl) ⟨by omega, by omega⟩, ?_⟩
        conv => whnf
        refine ⟨(i : Int) + 1, wrapId (z := (i : Int) + 1) ⟨by omega, by omega⟩, ?_⟩
        refine ⟨(i + 1, (got.set v2 u2), high + zh, low + zl), ⟨hlt, h2l, h2b, fun u hu => ?_, by show gotF us (List.replicate n 0) = gotF (us.drop (i + 1)) (got.set v2 u2); rw [hgf, h2e], costU_split us hlt hcst htq hzh hzl, ⟨by show -(8796093022208 * ((i + 1 : Nat) : Int)) ≤ high + zh; omega, by show high + zh ≤ 8796093022208 * ((i + 1 : Nat) : Int); omega⟩, ⟨by show -(8796093022208 * ((i + 1 : Nat) : Int)) ≤ low + zl; omega, by show low + zl ≤ 8796093022208 * ((i + 1 : Nat) : Int); omega⟩⟩, by show us.length - (i + 1) < us.length - i; omega, ?_⟩
        · rw [take_snoc hlt] at hu
          rcases List.mem_append.1 hu with hu | hu
          · exact hg u hu
          · simp at hu; rw [hu]; exact hok1
        conv => whnf
        refine ⟨rfl, ?_⟩
        conv => whnf
        repeat' (first | exact trivial | exact rfl | refine And.intro ?_ ?_ | ((conv => whnf); first | exact trivial | exact rfl | refine And.intro ?_ ?_ | omega))
      · have hf0 : us[i].1.f < 0 := by have := of_decide_eq_false (show decide (0 ≤ us[i].1.f) = false from hc); omega
        have h2e : gotP us[i].1.f (-us[i].2) got = got := by unfold gotP; rw [if_pos hf0]
        rw [h2e] at h2l h2b
        conv => whnf
        obtain ⟨qT, hqT⟩ : ∃ z, z = Int.tdiv us[i].2 262144 := ⟨_, rfl⟩
        obtain ⟨rT, hrT⟩ : ∃ z, z = Int.tmod us[i].2 262144 := ⟨_, rfl⟩
        have htq : us[i].2 = 262144 * qT + rT := by rw [hqT, hrT]; exact (Int.mul_tdiv_add_tmod us[i].2 262144).symm
        have htr1 : 0 ≤ rT := by rw [hrT]; exact Int.tmod_nonneg 262144 (by omega)
        have htr2 : rT < 262144 := by rw [hrT]; exact Int.tmod_lt_of_pos us[i].2 (by omega)
        have hqb : 0 ≤ qT ∧ qT ≤ 262144 := by omega
        refine ⟨by decide, qT, (congrArg IntKind.i64.wrap hqT.symm).trans (wrapId ⟨by omega, by omega⟩), ?_⟩
        conv => whnf
        obtain ⟨zh, hzh⟩ : ∃ z, z = qT * us[i].1.m := ⟨_, rfl⟩
        obtain ⟨zl, hzl⟩ : ∃ z, z = rT * us[i].1.m := ⟨_, rfl⟩
        have hzhb := mul_bd (x := qT) (C := 262144) (D := 33554432) ⟨by omega, hqb.2⟩ hmb
        have hzlb := mul_bd (x := rT) (C := 262144) (D := 33554432) ⟨by omega, by omega⟩ hmb
        rw [← hzh] at hzhb
        rw [← hzl] at hzlb
        refine ⟨zh, (congrArg IntKind.i64.wrap hzh.symm).trans (wrapId ⟨by omega, by omega⟩), ?_⟩
        conv => whnf
        refine ⟨high + zh, wrapId (z := high + zh) ⟨by omega, by omega⟩, ?_⟩
        conv => whnf
        refine ⟨by decide, rT, hrT.symm, ?_⟩
        conv => whnf
        refine ⟨zl, (congrArg IntKind.i64.wrap hzl.symm).trans (wrapId ⟨by omega, by omega⟩), ?_⟩
        conv => whnf
        refine ⟨low + zl, wrapId (z := low + zl) ⟨by omega, by omega⟩, ?_⟩
        conv => whnf
        refine ⟨(i : Int) + 1, wrapId (z := (i : Int) + 1) ⟨by omega, by omega⟩, ?_⟩
        refine ⟨(i + 1, got, high + zh, low + zl), ⟨hlt, h2l, h2b, fun u hu => ?_, by show gotF us (List.replicate n 0) = gotF (us.drop (i + 1)) got; rw [hgf, h2e], costU_split us hlt hcst htq hzh hzl, ⟨by show -(8796093022208 * ((i + 1 : Nat) : Int)) ≤ high + zh; omega, by show high + zh ≤ 8796093022208 * ((i + 1 : Nat) : Int); omega⟩, ⟨by show -(8796093022208 * ((i + 1 : Nat) : Int)) ≤ low + zl; omega, by show low + zl ≤ 8796093022208 * ((i + 1 : Nat) : Int); omega⟩⟩, by show us.length - (i + 1) < us.length - i; omega, ?_⟩
        · rw [take_snoc hlt] at hu
          rcases List.mem_append.1 hu with hu | hu
          · exact hg u hu
          · simp at hu; rw [hu]; exact hok1
        conv => whnf
        refine ⟨rfl, ?_⟩
        conv => whnf
        repeat' (first | exact trivial | exact rfl | refine And.intro ?_ ?_ | ((conv => whnf); first | exact trivial | exact rfl | refine And.intro ?_ ?_ | omega))
  have hie : i = us.length := by simp at hc; omega
  rw [hie, List.take_length] at hg hcst
  rw [hie, List.drop_length] at hgf
  have hgf : gotF us (List.replicate n 0) = got := hgf
  conv => whnf
  refine loop_step tB_ok (G := Nat) 2 [] (fun k => [(16, iv .i64 k)]) (fun _ => []) (fun k => k ≤ n ∧ got.take k = by'.take k) (fun k => n - k) ?_
  conv => whnf
  refine ⟨⟨0, ⟨Nat.zero_le _, by simp⟩, ?_⟩, ?_⟩
  · conv => whnf
    repeat' (first | exact trivial | exact rfl | refine And.intro ?_ ?_ | ((conv => whnf); first | exact trivial | exact rfl | refine And.intro ?_ ?_ | omega))
  intro k hk ρ2 t2 hρ2
  obtain ⟨hk, hq⟩ := hk
  conv => whnf
  refine ⟨fun hc => ?_, fun hc => ?_⟩
  · have hkn : k < n := by simpa using hc
    have hk1 : k < got.length := by omega
    have hk2 : k < by'.length := by omega
    conv => whnf
    refine ⟨k, rfl, by show k < n; omega, hk1, ?_⟩
    conv => whnf
    refine ⟨k, rfl, by show k < n; omega, hk2, ?_⟩
    conv => whnf
    refine ⟨fun hc => ?_, fun hc => ?_⟩
    · have hne : got[k] ≠ by'[k] := by simpa using (show (got[k] != by'[k]) = true from hc)
      have e : R = false := by
        rw [← Bool.not_eq_true, hR]
        intro h
        have h3 := h.2.2.1
        rw [hgf] at h3
        subst h3
        exact hne rfl
      rw [e]
      conv => whnf
      repeat' (first | exact trivial | exact rfl | refine And.intro ?_ ?_ | ((conv => whnf); first | exact trivial | exact rfl | refine And.intro ?_ ?_ | omega))
    · have heq : got[k] = by'[k] := by simpa using (show (got[k] != by'[k]) = false from hc)
      conv => whnf
      refine ⟨(k : Int) + 1, wrapId (z := (k : Int) + 1) ⟨by omega, by omega⟩, ?_⟩
      refine ⟨k + 1, ⟨hkn, by rw [take_snoc hk1, take_snoc hk2, hq, heq]⟩, by show n - (k + 1) < n - k; omega, ?_⟩
      conv => whnf
      refine ⟨rfl, ?_⟩
      conv => whnf
      repeat' (first | exact trivial | exact rfl | refine And.intro ?_ ?_ | ((conv => whnf); first | exact trivial | exact rfl | refine And.intro ?_ ?_ | omega))
  have hke : k = n := by simp at hc; omega
  subst hke
  have hgy : got = by' := by
    rw [List.take_of_length_le (by omega), List.take_of_length_le (by omega)] at hq
    exact hq
  conv => whnf
  refine call_step (same_t high low most (by omega) (by omega) hm) rfl rfl ?_
  conv => whnf
  refine ⟨(by repeat' (first | exact trivial | exact rfl | refine And.intro ?_ ?_ | ((conv => whnf); first | exact trivial | exact rfl | refine And.intro ?_ ?_ | omega))), (by repeat' (first | exact trivial | exact rfl | refine And.intro ?_ ?_ | ((conv => whnf); first | exact trivial | exact rfl | refine And.intro ?_ ?_ | omega))), ?_⟩
  conv => whnf
  refine ⟨?_, trivial⟩
  show decide (high * 262144 + low = most) = R
  rw [Bool.eq_iff_iff, hR, decide_eq_true_eq, hcst]
  exact ⟨fun h => ⟨by omega, hg, by rw [hgf, hgy], h⟩, fun h => h.2.2.2⟩

end Go.Proofs

namespace Go.Proofs
open Go.Sx

theorem plc_at {n : Nat} {pt : List Int} {i : Int} (hl : pt.length = n) (hi : -1 ≤ i ∧ i < n) : pt.getD (plc n i) 0 = atF pt i := by
  unfold plc atF
  by_cases h : i < 0
  · rw [if_pos h, if_pos h, List.getD_eq_getElem?_getD, List.getElem?_eq_none (by omega)]; rfl
  · rw [if_neg h, if_neg h]

theorem box_arcs {bs : List (Int × Int)} {ls : List Lnk} (hs : SysOK bs ls) {v : Nat} (hv : v < bs.length) :
    (∃ l ∈ allF bs ls, plc bs.length l.f = bs.length ∧ plc bs.length l.t = v ∧ l.m ≤ 16777216) ∧ (∃ l ∈ allF bs ls, plc bs.length l.f = v ∧ plc bs.length l.t = bs.length ∧ l.m ≤ 16777216) := by
  have hb := boxLinks_has (bs := bs) (v := 0) hv
  rw [Nat.zero_add] at hb
  have hbx := hs.box _ (List.getElem_mem hv)
  refine ⟨⟨_, List.mem_append.2 (.inl hb.1), rfl, ?_, hbx.2.2⟩, ⟨_, List.mem_append.2 (.inl hb.2), ?_, rfl, by show -bs[v].1 ≤ 16777216; omega⟩⟩
  · simp only [plc]; rw [if_neg (by omega)]; omega
  · simp only [plc]; rw [if_neg (by omega)]; omega

theorem pot_bd {bs : List (Int × Int)} {ls : List Lnk} {pt : List Int} (hs : SysOK bs ls) (hl : pt.length = bs.length) (hp : PotL bs.length (fun v => pt.getD v 0) (allF bs ls)) : ∀ x ∈ pt, -16777216 ≤ x ∧ x ≤ 16777216 := by
  intro x hx
  obtain ⟨v, hv, rfl⟩ := List.mem_iff_getElem.1 hx
  obtain ⟨⟨l, hl1, a1, a2, a3⟩, ⟨m, hm1, b1, b2, b3⟩⟩ := box_arcs (ls := ls) hs (show v < bs.length by omega)
  have p1 : pt.getD (plc bs.length l.t) 0 ≤ pt.getD (plc bs.length l.f) 0 + l.m := hp l hl1
  have p2 : pt.getD (plc bs.length m.t) 0 ≤ pt.getD (plc bs.length m.f) 0 + m.m := hp m hm1
  have z : pt.getD bs.length 0 = 0 := by rw [List.getD_eq_getElem?_getD, List.getElem?_eq_none (by omega)]; rfl
  rw [a1, a2, z, getD_of hv] at p1
  rw [b1, b2, z, getD_of hv] at p2
  omega

/-- The allowed points are those that no link contradicts. -/
theorem allows_iff {bs : List (Int × Int)} {ls : List Lnk} {pt : List Int} (hs : SysOK bs ls) : (allowsF bs ls pt).2 = true ↔ pt.length = bs.length ∧ PotL bs.length (fun v => pt.getD v 0) (allF bs ls) := by
  unfold allowsF
  have hok := allF_ok hs
  by_cases hl : pt.length = bs.length
  · rw [if_pos hl]
    have hv : (∀ l ∈ allF bs ls, violF pt l = false) ↔ PotL bs.length (fun v => pt.getD v 0) (allF bs ls) := by
      constructor
      · intro h
        have hc : ∀ v, v < bs.length → -16777216 ≤ atF pt v ∧ atF pt v ≤ 16777216 := by
          intro v hv
          obtain ⟨h1, h2⟩ := boxLinks_has (bs := bs) (v := 0) hv
          have hbx := hs.box _ (List.getElem_mem hv)
          have g1 := h _ (List.mem_append.2 (.inl h1))
          have g2 := h _ (List.mem_append.2 (.inl h2))
          rw [Nat.zero_add] at g1 g2
          have e0 : valI pt (-1) = 0 := rfl
          have e1 : valI pt ((v : Nat) : Int) = max (-1099511627776) (min 1099511627776 (pt.getD v 0)) := by
            unfold valI; rw [if_neg (by omega), Int.toNat_natCast]
          have e2 : atF pt ((v : Nat) : Int) = pt.getD v 0 := by unfold atF; rw [if_neg (by omega), Int.toNat_natCast]
          have g1 : decide (bs[v].2 < valI pt ((v : Nat) : Int) - valI pt (-1)) = false := g1
          have g2 : decide (-bs[v].1 < valI pt (-1) - valI pt ((v : Nat) : Int)) = false := g2
          rw [e0, e1, decide_eq_false_iff_not] at g1 g2
          rw [e2]
          omega
        have hat : ∀ i : Int, -1 ≤ i ∧ i < bs.length → valI pt i = atF pt i := fun i hi => by
          refine valI_at ?_
          by_cases h0 : i < 0
          · unfold atF; rw [if_pos h0]; omega
          · have := hc i.toNat (by omega)
            rw [Int.toNat_of_nonneg (by omega)] at this
            omega
        intro l hl2
        obtain ⟨o1, o2, _⟩ := hok l hl2
        have g := h l hl2
        unfold violF at g
        rw [hat _ o1, hat _ o2] at g
        simp only [decide_eq_false_iff_not] at g
        show pt.getD (plc bs.length l.t) 0 ≤ pt.getD (plc bs.length l.f) 0 + l.m
        rw [plc_at hl o1, plc_at hl o2]
        omega
      · intro hp l hl2
        obtain ⟨o1, o2, _⟩ := hok l hl2
        have hb := pot_bd hs hl hp
        have hbd : ∀ i : Int, -1 ≤ i ∧ i < bs.length → valI pt i = atF pt i := fun i hi => by
          refine valI_at ?_
          unfold atF
          by_cases h0 : i < 0
          · rw [if_pos h0]; omega
          · rw [if_neg h0]
            have := hb _ (getD_mem (show i.toNat < pt.length by omega))
            omega
        have g : pt.getD (plc bs.length l.t) 0 ≤ pt.getD (plc bs.length l.f) 0 + l.m := hp l hl2
        rw [plc_at hl o1, plc_at hl o2] at g
        unfold violF
        rw [hbd _ o1, hbd _ o2, decide_eq_false_iff_not]
        omega
    rw [← hv]
    constructor
    · intro h
      refine ⟨hl, fun l hl2 => ?_⟩
      cases hf : (allF bs ls).find? (violF pt) with
      | none =>
        rw [List.find?_eq_none] at hf
        simpa using hf l hl2
      | some x => rw [hf] at h; cases h
    · intro h
      have : (allF bs ls).find? (violF pt) = none := List.find?_eq_none.2 fun l hl2 => by rw [h.2 l hl2]; simp
      rw [this]
  · rw [if_neg hl]
    exact ⟨fun h => by simp at h, fun h => absurd h.1 hl⟩

def checkBestF (bs : List (Int × Int)) (ls : List Lnk) (form : List (Int × Int)) (v : Int) (us : List (Lnk × Int)) (pt : List Int) : Int :=
  if checkF bs ls ≠ 0 then checkF bs ls else if formF form bs.length ≠ 0 then formF form bs.length else if (allowsF bs ls pt).2 = false then 8 else if valM form pt ≠ v then 8 else
  if showsF (allF bs ls) bs.length (coefF 1 form (List.replicate bs.length 0)) us v = false then 8 else 0

theorem formB_of {form : List (Int × Int)} {n : Nat} (h : formF form n = 0) {p : Int} (hp : -4294967296 ≤ p ∧ p ≤ 4294967296) : FormB n p form := by
  intro t ht
  obtain ⟨h1, h2⟩ := (formF_ok h).2.1 t ht
  have := mul_bd (C := 4294967296) (D := 1024) hp h2
  exact ⟨h1, by omega⟩

theorem refCheckBest_t (bs : List (Int × Int)) (ls : List Lnk) (form : List (Int × Int)) (v : Int) (us : List (Lnk × Int)) (pt : List Int) (hb : bs.length ≤ 1000000) (hl : ls.length ≤ 1000000) (hfl : form.length ≤ 1000000) (hul : us.length ≤ 1000000) (hpl : pt.length ≤ 1000000) (hv : -9223372036854775808 ≤ v ∧ v ≤ 9223372036854775807) :
    Triple Try.prog 31 [sysA bs.length ls.length, .c (.s 2 0 form.length 2), .agg [.v (.int .i64 v), .s 3 0 us.length 5, .s 4 0 pt.length 1]]
      ((2, false, .arr (aSpan form)) :: (3, false, .arr (aUse us)) :: (4, false, .arr (aInt pt)) :: sysH bs ls) 5 (iv .i64 (checkBestF bs ls form v us pt)) [] := by
  have hF : checkBestF bs ls form v us pt = if checkF bs ls ≠ 0 then checkF bs ls else if formF form bs.length ≠ 0 then formF form bs.length else if (allowsF bs ls pt).2 = false then 8 else if valM form pt ≠ v then 8 else
    if showsF (allF bs ls) bs.length (coefF 1 form (List.replicate bs.length 0)) us v = false then 8 else 0 := rfl
  generalize checkBestF bs ls form v us pt = R at *
  refine triple_of tB_ok Try.func31 rfl Try.call31 rfl ?_
  intro ρ w hH
  conv => whnf
  refine call_step (refCheck_t bs ls hb hl) rfl rfl ?_
  conv => whnf
  refine ⟨(by repeat' (first | exact trivial | exact rfl | refine And.intro ?_ ?_ | ((conv => whnf); first | exact trivial | exact rfl | refine And.intro ?_ ?_ | omega))), (by repeat' (first | exact trivial | exact rfl | refine And.intro ?_ ?_ | ((conv => whnf); first | exact trivial | exact rfl | refine And.intro ?_ ?_ | omega))), ?_⟩
  conv => whnf
  by_cases hck : checkF bs ls = 0
  · rw [if_neg (by simpa using hck)] at hF
    have hs := checkF_ok.1 hck
    have hnb := hs.nb
    have hnl := hs.nl
    rw [hck]
    refine ⟨fun hc => absurd hc (by simp), fun hc => ?_⟩
    conv => whnf
    refine call_step (refForm_t bs ls form (by omega) (by omega)) rfl rfl ?_
    conv => whnf
    refine ⟨(by repeat' (first | exact trivial | exact rfl | refine And.intro ?_ ?_ | ((conv => whnf); first | exact trivial | exact rfl | refine And.intro ?_ ?_ | omega))), (by repeat' (first | exact trivial | exact rfl | refine And.intro ?_ ?_ | ((conv => whnf); first | exact trivial | exact rfl | refine And.intro ?_ ?_ | omega))), ?_⟩
    conv => whnf
    by_cases hfo : formF form bs.length = 0
    · rw [if_neg (by simpa using hfo)] at hF
      obtain ⟨f1, f2, f3⟩ := formF_ok hfo
      rw [hfo]
      refine ⟨fun hc => absurd hc (by simp), fun hc => ?_⟩
      conv => whnf
      refine call_step (refAllows_t bs ls pt hs (by omega)) rfl rfl ?_
      conv => whnf
      refine ⟨(by repeat' (first | exact trivial | exact rfl | refine And.intro ?_ ?_ | ((conv => whnf); first | exact trivial | exact rfl | refine And.intro ?_ ?_ | omega))), (by repeat' (first | exact trivial | exact rfl | refine And.intro ?_ ?_ | ((conv => whnf); first | exact trivial | exact rfl | refine And.intro ?_ ?_ | omega))), ?_⟩
      conv => whnf
      refine ⟨fun hc => ?_, fun hc => ?_⟩
      · have ha : (allowsF bs ls pt).2 = false := by simpa using (show (!(allowsF bs ls pt).2) = true from hc)
        rw [if_pos ha] at hF
        rw [hF]
        conv => whnf
        repeat' (first | exact trivial | exact rfl | refine And.intro ?_ ?_ | ((conv => whnf); first | exact trivial | exact rfl | refine And.intro ?_ ?_ | omega))
      have ha : (allowsF bs ls pt).2 = true := by simpa using (show (!(allowsF bs ls pt).2) = false from hc)
      rw [if_neg (by rw [ha]; simp)] at hF
      obtain ⟨hptl, hptp⟩ := (allows_iff hs).1 ha
      have hptb := pot_bd hs hptl hptp
      conv => whnf
      refine call_step (At_t form pt (by omega) (by rw [hptl]; exact f2) (fun x hx => by have := hptb x hx; omega)) rfl rfl ?_
      conv => whnf
      refine ⟨(by repeat' (first | exact trivial | exact rfl | refine And.intro ?_ ?_ | ((conv => whnf); first | exact trivial | exact rfl | refine And.intro ?_ ?_ | omega))), (by repeat' (first | exact trivial | exact rfl | refine And.intro ?_ ?_ | ((conv => whnf); first | exact trivial | exact rfl | refine And.intro ?_ ?_ | omega))), ?_⟩
      conv => whnf
      refine ⟨fun hc => ?_, fun hc => ?_⟩
      · have he : valM form pt ≠ v := by simpa using (show (valM form pt != v) = true from hc)
        rw [if_pos he] at hF
        rw [hF]
        conv => whnf
        repeat' (first | exact trivial | exact rfl | refine And.intro ?_ ?_ | ((conv => whnf); first | exact trivial | exact rfl | refine And.intro ?_ ?_ | omega))
      have he : valM form pt = v := by simpa using (show (valM form pt != v) = false from hc)
      rw [if_neg (by simpa using he)] at hF
      conv => whnf
      refine call_step (refCoef_t bs ls form 1 0 (by omega) (by omega) (formB_of hfo (by omega))) rfl rfl ?_
      conv => whnf
      refine ⟨(by repeat' (first | exact trivial | exact rfl | refine And.intro ?_ ?_ | ((conv => whnf); first | exact trivial | exact rfl | refine And.intro ?_ ?_ | omega))), (by repeat' (first | exact trivial | exact rfl | refine And.intro ?_ ?_ | ((conv => whnf); first | exact trivial | exact rfl | refine And.intro ?_ ?_ | omega))), ?_⟩
      conv => whnf
      have hcl : (coefF 1 form (List.replicate bs.length 0)).length = bs.length := by rw [coefF_len, List.length_replicate]
      generalize coefF 1 form (List.replicate bs.length 0) = cf at *
      refine call_step (shows_t bs ls cf us v hs hcl hul hv) rfl rfl ?_
      conv => whnf
      refine ⟨(by repeat' (first | exact trivial | exact rfl | refine And.intro ?_ ?_ | ((conv => whnf); first | exact trivial | exact rfl | refine And.intro ?_ ?_ | omega))), (by repeat' (first | exact trivial | exact rfl | refine And.intro ?_ ?_ | ((conv => whnf); first | exact trivial | exact rfl | refine And.intro ?_ ?_ | omega))), ?_⟩
      conv => whnf
      refine ⟨fun hc => ?_, fun hc => ?_⟩
      · have hsh : showsF (allF bs ls) bs.length cf us v = false := by simpa using (show (!showsF (allF bs ls) bs.length cf us v) = true from hc)
        rw [if_pos hsh] at hF
        rw [hF]
        conv => whnf
        repeat' (first | exact trivial | exact rfl | refine And.intro ?_ ?_ | ((conv => whnf); first | exact trivial | exact rfl | refine And.intro ?_ ?_ | omega))
      · have hsh : showsF (allF bs ls) bs.length cf us v = true := by simpa using (show (!showsF (allF bs ls) bs.length cf us v) = false from hc)
        rw [if_neg (by rw [hsh]; simp)] at hF
        rw [hF]
        conv => whnf
        repeat' (first | exact trivial | exact rfl | refine And.intro ?_ ?_ | ((conv => whnf); first | exact trivial | exact rfl | refine And.intro ?_ ?_ | omega))
    · rw [if_pos (by simpa using hfo)] at hF
      rw [hF]
      generalize formF form bs.length = c at *
      refine ⟨fun hcc => ?_, fun hcc => ?_⟩
      · conv => whnf
        repeat' (first | exact trivial | exact rfl | refine And.intro ?_ ?_ | ((conv => whnf); first | exact trivial | exact rfl | refine And.intro ?_ ?_ | omega))
      · exact absurd (by simpa using hcc) hfo
  · rw [if_pos (by simpa using hck)] at hF
    rw [hF]
    generalize checkF bs ls = c at *
    refine ⟨fun hcc => ?_, fun hcc => ?_⟩
    · conv => whnf
      repeat' (first | exact trivial | exact rfl | refine And.intro ?_ ?_ | ((conv => whnf); first | exact trivial | exact rfl | refine And.intro ?_ ?_ | omega))
    · exact absurd (by simpa using hcc) hck

end Go.Proofs

namespace Go.Proofs
open Go.Sx

theorem gcd_tmod (a b : Int) : Int.gcd b (Int.tmod a b) = Int.gcd a b := by
  unfold Int.gcd
  rw [Int.natAbs_tmod, Nat.gcd_comm, ← Nat.gcd_rec, Nat.gcd_comm]

theorem common_t (a b : Int) (ha : -4611686018427387904 ≤ a ∧ a ≤ 4611686018427387904) (hb : -4611686018427387904 ≤ b ∧ b ≤ 4611686018427387904) : Triple Try.prog 117 [iv .i64 a, iv .i64 b] [] 0 (iv .i64 (Int.gcd a b)) [] := by
  refine triple_of tB_ok Try.func117 rfl Try.call117 rfl ?_
  intro ρ w hH
  conv => whnf
  refine loop_step tB_ok (G := Int × Int) 0 [] (fun g => [(0, iv .i64 g.1), (1, iv .i64 g.2)]) (fun _ => []) (fun g => (-4611686018427387904 ≤ g.1 ∧ g.1 ≤ 4611686018427387904) ∧ (-4611686018427387904 ≤ g.2 ∧ g.2 ≤ 4611686018427387904) ∧ Int.gcd g.1 g.2 = Int.gcd a b) (fun g => g.2.natAbs) ?_
  conv => whnf
  refine ⟨⟨(a, b), ⟨ha, hb, rfl⟩, ?_⟩, ?_⟩
  · conv => whnf
    repeat' (first | exact trivial | exact rfl | refine And.intro ?_ ?_ | ((conv => whnf); first | exact trivial | exact rfl | refine And.intro ?_ ?_ | omega))
  rintro ⟨x, y⟩ ⟨hx, hy, hg⟩ ρ1 t1 hρ1
  have hx : -4611686018427387904 ≤ x ∧ x ≤ 4611686018427387904 := hx
  have hy : -4611686018427387904 ≤ y ∧ y ≤ 4611686018427387904 := hy
  have hg : Int.gcd x y = Int.gcd a b := hg
  dsimp only
  conv => whnf
  refine ⟨fun hc => ?_, fun hc => ?_⟩
  · have hy0 : y ≠ 0 := by simpa using (show (y != 0) = true from hc)
    have hna : (Int.tmod x y).natAbs = x.natAbs % y.natAbs := Int.natAbs_tmod x y
    have hlt : (Int.tmod x y).natAbs < y.natAbs := by rw [hna]; exact Nat.mod_lt _ (by omega)
    have hnn : 0 ≤ x → 0 ≤ Int.tmod x y := fun h => Int.tmod_nonneg y h
    have hgg := gcd_tmod x y
    obtain ⟨r, hr⟩ : ∃ r, Int.tmod x y = r := ⟨_, rfl⟩
    rw [hr] at hlt hnn hgg
    conv => whnf
    refine ⟨hy0, r, hr, ?_⟩
    conv => whnf
    refine ⟨(y, r), ⟨hy, ⟨by omega, by omega⟩, by show Int.gcd y r = Int.gcd a b; rw [hgg, hg]⟩, hlt, ?_⟩
    conv => whnf
    refine ⟨rfl, ?_⟩
    conv => whnf
    repeat' (first | exact trivial | exact rfl | refine And.intro ?_ ?_ | ((conv => whnf); first | exact trivial | exact rfl | refine And.intro ?_ ?_ | omega))
  · have hy0 : y = 0 := by simpa using (show (y != 0) = false from hc)
    have hres : ((Int.gcd a b : Nat) : Int) = x.natAbs := by rw [← hg, hy0, Int.gcd_zero_right]
    rw [hres]
    conv => whnf
    refine ⟨-x, (congrArg IntKind.i64.wrap (show (0 : Int) - x = -x by omega)).trans (wrapId ⟨by omega, by omega⟩), ?_⟩
    conv => whnf
    refine ⟨?_, trivial⟩
    show max x (-x) = (x.natAbs : Int)
    omega

theorem refGcd_t (a b : Int) (ha : 0 ≤ a ∧ a ≤ 4611686018427387904) (hb : 0 ≤ b ∧ b ≤ 4611686018427387904) : Triple Try.prog 120 [iv .i64 a, iv .i64 b] [] 0 (iv .i64 (Int.gcd a b)) [] := by
  refine triple_of tB_ok Try.func120 rfl Try.call120 rfl ?_
  intro ρ w hH
  conv => whnf
  refine loop_step tB_ok (G := Int × Int) 0 [] (fun g => [(0, iv .i64 g.1), (1, iv .i64 g.2)]) (fun _ => []) (fun g => (0 ≤ g.1 ∧ g.1 ≤ 4611686018427387904) ∧ (0 ≤ g.2 ∧ g.2 ≤ 4611686018427387904) ∧ Int.gcd g.1 g.2 = Int.gcd a b) (fun g => g.2.natAbs) ?_
  conv => whnf
  refine ⟨⟨(a, b), ⟨ha, hb, rfl⟩, ?_⟩, ?_⟩
  · conv => whnf
    repeat' (first | exact trivial | exact rfl | refine And.intro ?_ ?_ | ((conv => whnf); first | exact trivial | exact rfl | refine And.intro ?_ ?_ | omega))
  rintro ⟨x, y⟩ ⟨hx, hy, hg⟩ ρ1 t1 hρ1
  have hx : 0 ≤ x ∧ x ≤ 4611686018427387904 := hx
  have hy : 0 ≤ y ∧ y ≤ 4611686018427387904 := hy
  have hg : Int.gcd x y = Int.gcd a b := hg
  dsimp only
  conv => whnf
  refine ⟨fun hc => ?_, fun hc => ?_⟩
  · have hy0 : y ≠ 0 := by simpa using (show (y != 0) = true from hc)
    have hna : (Int.tmod x y).natAbs = x.natAbs % y.natAbs := Int.natAbs_tmod x y
    have hlt : (Int.tmod x y).natAbs < y.natAbs := by rw [hna]; exact Nat.mod_lt _ (by omega)
    have hnn : 0 ≤ x → 0 ≤ Int.tmod x y := fun h => Int.tmod_nonneg y h
    have hgg := gcd_tmod x y
    obtain ⟨r, hr⟩ : ∃ r, Int.tmod x y = r := ⟨_, rfl⟩
    rw [hr] at hlt hnn hgg
    conv => whnf
    refine ⟨hy0, r, hr, ?_⟩
    conv => whnf
    refine ⟨(y, r), ⟨hy, ⟨by omega, by omega⟩, by show Int.gcd y r = Int.gcd a b; rw [hgg, hg]⟩, hlt, ?_⟩
    conv => whnf
    refine ⟨rfl, ?_⟩
    conv => whnf
    repeat' (first | exact trivial | exact rfl | refine And.intro ?_ ?_ | ((conv => whnf); first | exact trivial | exact rfl | refine And.intro ?_ ?_ | omega))
  · have hy0 : y = 0 := by simpa using (show (y != 0) = false from hc)
    have hres : ((Int.gcd a b : Nat) : Int) = x.natAbs := by rw [← hg, hy0, Int.gcd_zero_right]
    rw [hres]
    conv => whnf
    refine ⟨?_, trivial⟩
    show x = (x.natAbs : Int)
    omega

end Go.Proofs

namespace Go.Proofs
open Go.Sx

theorem value_sys_t (form : List (Int × Int)) (pt : List Int) (hfl : form.length ≤ 1000) (hf : ∀ t ∈ form, (0 ≤ t.1 ∧ t.1 < pt.length) ∧ (-1024 ≤ t.2 ∧ t.2 ≤ 1024)) (hp : ∀ x ∈ pt, -33554432 ≤ x ∧ x ≤ 33554432) :
    Triple Try.prog 116 [.c (.s 0 0 form.length 2), .c (.s 1 0 pt.length 1)] [(0, false, .arr (aSpan form)), (1, false, .arr (aInt pt))] 2 (iv .i64 (valM form pt)) [] := by
  refine triple_of tB_ok Try.func116 rfl Try.call116 rfl ?_
  intro ρ w hH
  conv => whnf
  refine loop_step tB_ok (G := Nat × Int) 0 [] (fun g => [(10, iv .i64 g.1), (5, iv .i64 g.2)]) (fun _ => []) (fun g => g.1 ≤ form.length ∧ g.2 = valM (form.take g.1) pt ∧ (-(34359738368 * (g.1 : Int)) ≤ g.2 ∧ g.2 ≤ 34359738368 * (g.1 : Int))) (fun g => form.length - g.1) ?_
  conv => whnf
  refine ⟨⟨(0, 0), ⟨Nat.zero_le _, rfl, ⟨by simp, by simp⟩⟩, ?_⟩, ?_⟩
  · conv => whnf
    repeat' (first | exact trivial | exact rfl | refine And.intro ?_ ?_ | ((conv => whnf); first | exact trivial | exact rfl | refine And.intro ?_ ?_ | omega))
  rintro ⟨i, s⟩ ⟨hi, hs, hb⟩ ρ1 t1 hρ1
  have hi : i ≤ form.length := hi
  have hs : s = valM (form.take i) pt := hs
  have hb : -(34359738368 * (i : Int)) ≤ s ∧ s ≤ 34359738368 * (i : Int) := hb
  dsimp only
  conv => whnf
  refine ⟨fun hc => ?_, fun hc => ?_⟩
  · have hlt : i < form.length := by simpa using hc
    obtain ⟨⟨hv0, hv1⟩, hc0, hc1⟩ := hf form[i] (List.getElem_mem hlt)
    obtain ⟨v, hve⟩ : ∃ v : Nat, form[i].1 = (v : Int) := ⟨form[i].1.toNat, by omega⟩
    have hvl : v < pt.length := by omega
    have hpv := hp pt[v] (List.getElem_mem hvl)
    obtain ⟨z, hz⟩ : ∃ z, z = form[i].2 * pt[v] := ⟨_, rfl⟩
    have hzb := mul_bd (C := 1024) (D := 33554432) ⟨hc0, hc1⟩ hpv
    rw [← hz] at hzb
    conv => whnf
    refine ⟨i, rfl, hlt, hlt, ?_⟩
    conv => whnf
    refine ⟨v, hve, hvl, hvl, ?_⟩
    conv => whnf
    refine ⟨z, (congrArg IntKind.i64.wrap hz.symm).trans (wrapId ⟨by omega, by omega⟩), ?_⟩
    conv => whnf
    refine ⟨s + z, wrapId (z := s + z) ⟨by omega, by omega⟩, ?_⟩
    conv => whnf
    refine ⟨(i : Int) + 1, wrapId (z := (i : Int) + 1) ⟨by omega, by omega⟩, ?_⟩
    refine ⟨(i + 1, s + z), ⟨hlt, ?_, ⟨by show -(34359738368 * ((i + 1 : Nat) : Int)) ≤ s + z; omega, by show s + z ≤ 34359738368 * ((i + 1 : Nat) : Int); omega⟩⟩, by show form.length - (i + 1) < form.length - i; omega, ?_⟩
    · show s + z = valM (form.take (i + 1)) pt
      rw [take_snoc hlt, valM_snoc, ← hs, hz, hve, Int.toNat_natCast, getD_of hvl]
    conv => whnf
    refine ⟨rfl, ?_⟩
    conv => whnf
    repeat' (first | exact trivial | exact rfl | refine And.intro ?_ ?_ | ((conv => whnf); first | exact trivial | exact rfl | refine And.intro ?_ ?_ | omega))
  have hie : i = form.length := by simp at hc; omega
  subst hie
  rw [List.take_length] at hs
  rw [← hs]
  conv => whnf
  repeat' (first | exact trivial | exact rfl | refine And.intro ?_ ?_ | ((conv => whnf); first | exact trivial | exact rfl | refine And.intro ?_ ?_ | omega))

theorem coef2_t (vars : Nat) (a b : List (Int × Int)) (p q : Int) (hv : vars ≤ 100000) (ha : a.length ≤ 240) (hb : b.length ≤ 240) (hfa : FormB vars p a) (hfb : FormB vars q b) :
    Triple Try.prog 93 [iv .i64 vars, .c (.s 0 0 a.length 2), iv .i64 p, .c (.s 1 0 b.length 2), iv .i64 q] [(0, false, .arr (aSpan a)), (1, false, .arr (aSpan b))] 2
      (.c (.s 2 0 vars 1)) [(2, true, .arr (aInt (coefF q b (coefF p a (List.replicate vars 0)))))] := by
  have hzb : ∀ y ∈ List.replicate vars (0 : Int), -0 ≤ y ∧ y ≤ 0 := fun y hy => by obtain ⟨_, rfl⟩ := List.mem_replicate.1 hy; omega
  refine triple_of tB_ok Try.func93 rfl Try.call93 rfl ?_
  intro ρ w hH
  conv => whnf
  refine mks_step tB_ok (aInt (List.replicate vars 0)) rfl rfl ?_
  conv => whnf
  refine ⟨vars, ⟨List.length_replicate, rfl, rfl, by show vars * 9 ≤ _; omega, fun x hx => ?_⟩, ?_⟩
  · obtain ⟨_, rfl⟩ := List.mem_replicate.1 hx
    repeat' (first | exact trivial | exact rfl | refine And.intro ?_ ?_ | ((conv => whnf); first | exact trivial | exact rfl | refine And.intro ?_ ?_ | omega))
  conv => whnf
  refine loop_step tB_ok (G := Nat × List Int) 0 [] (fun e => [(20, iv .i64 e.1)]) (fun e => [(2, true, .arr (aInt e.2))]) (fun e => e.1 ≤ a.length ∧ e.2.length = vars ∧ (∀ y ∈ e.2, -((((e.1 : Nat) : Int) + 0) * 4503599627370496) ≤ y ∧ y ≤ (((e.1 : Nat) : Int) + 0) * 4503599627370496) ∧ coefF (p) a (List.replicate vars 0) = coefF (p) (a.drop e.1) e.2) (fun e => a.length - e.1) ?_
  conv => whnf
  refine ⟨⟨(0, (List.replicate vars 0)), ⟨Nat.zero_le _, List.length_replicate, fun y hy => by have := hzb y hy; show -((((0 : Nat) : Int) + 0) * 4503599627370496) ≤ y ∧ y ≤ (((0 : Nat) : Int) + 0) * 4503599627370496; omega, rfl⟩, ?_⟩, ?_⟩
  · conv => whnf
    repeat' (first | exact trivial | exact rfl | refine And.intro ?_ ?_ | ((conv => whnf); first | exact trivial | exact rfl | refine And.intro ?_ ?_ | omega))
  rintro ⟨j, out⟩ ⟨hj, outl, outb, outg⟩ ρ20 t20 hρ20
  have hj : j ≤ a.length := hj
  have outl : out.length = vars := outl
  have outb : ∀ y ∈ out, -(((j : Int) + 0) * 4503599627370496) ≤ y ∧ y ≤ ((j : Int) + 0) * 4503599627370496 := outb
  have outg : coefF (p) a (List.replicate vars 0) = coefF (p) (a.drop j) out := outg
  dsimp only
  conv => whnf
  refine ⟨fun hc => ?_, fun hc => ?_⟩
  · have hlt : j < a.length := by simpa using hc
    obtain ⟨⟨hv0, hv1⟩, hb0, hb1⟩ := hfa a[j] (List.getElem_mem hlt)
    obtain ⟨v, hve⟩ : ∃ v : Nat, a[j].1 = (v : Int) := ⟨a[j].1.toNat, by omega⟩
    have hvl : v < out.length := by omega
    have hov := outb _ (List.getElem_mem hvl)
    obtain ⟨z, hz⟩ : ∃ z, z = p * a[j].2 := ⟨_, rfl⟩
    have hzp : (p) * a[j].2 = z := by first | exact hz.symm | rw [hz, Int.neg_mul]
    rw [hzp] at hb0 hb1
    obtain ⟨u, hu⟩ : ∃ u, u = out[v] + z := ⟨_, rfl⟩
    rw [List.drop_eq_getElem_cons hlt] at outg
    have hst : coefF (p) (a[j] :: a.drop (j + 1)) out = coefF (p) (a.drop (j + 1)) (out.set v u) := by
      simp only [coefF]
      rw [show a[j].1.toNat = v from by omega, getD_of hvl, hzp, show out[v] + z = u from by omega]
    conv => whnf
    refine ⟨j, rfl, hlt, hlt, ?_⟩
    conv => whnf
    refine ⟨v, hve, by show v < vars; omega, hvl, ?_⟩
    conv => whnf
    refine ⟨z, (congrArg IntKind.i64.wrap hz.symm).trans (wrapId ⟨by omega, by omega⟩), ?_⟩
    conv => whnf
    refine ⟨u, (congrArg IntKind.i64.wrap (show out[v] + z = u from hu.symm)).trans (wrapId ⟨by omega, by omega⟩), ?_⟩
    conv => whnf
    refine ⟨v, hve, by show v < vars; omega, hvl, u, rfl, ?_⟩
    conv => whnf
    refine ⟨(j : Int) + 1, wrapId (z := (j : Int) + 1) ⟨by omega, by omega⟩, ?_⟩
    refine ⟨(j + 1, out.set v u), ⟨hlt, by show (out.set v u).length = vars; rw [List.length_set]; exact outl, ?_, by show coefF (p) a (List.replicate vars 0) = coefF (p) (a.drop (j + 1)) (out.set v u); rw [outg, hst]⟩, by show a.length - (j + 1) < a.length - j; omega, ?_⟩
    · intro y hy
      show -((((j + 1 : Nat) : Int) + 0) * 4503599627370496) ≤ y ∧ y ≤ (((j + 1 : Nat) : Int) + 0) * 4503599627370496
      rcases List.mem_or_eq_of_mem_set hy with hy | rfl
      · have := outb y hy; omega
      · omega
    conv => whnf
    refine ⟨rfl, ?_⟩
    conv => whnf
    repeat' (first | exact trivial | exact rfl | refine And.intro ?_ ?_ | ((conv => whnf); first | exact trivial | exact rfl | refine And.intro ?_ ?_ | omega))
  have hje : j = a.length := by simp at hc; omega
  rw [hje] at outb
  rw [hje, List.drop_length] at outg
  have outg : coefF (p) a (List.replicate vars 0) = out := outg
  rw [hje]
  clear hje hc hj
  conv => whnf
  refine loop_step tB_ok (G := Nat × List Int) 0 [] (fun e => [(38, iv .i64 e.1)]) (fun e => [(2, true, .arr (aInt e.2))]) (fun e => e.1 ≤ b.length ∧ e.2.length = vars ∧ (∀ y ∈ e.2, -((((e.1 : Nat) : Int) + (a.length : Int)) * 4503599627370496) ≤ y ∧ y ≤ (((e.1 : Nat) : Int) + (a.length : Int)) * 4503599627370496) ∧ coefF (q) b out = coefF (q) (b.drop e.1) e.2) (fun e => b.length - e.1) ?_
  conv => whnf
  refine ⟨⟨(0, out), ⟨Nat.zero_le _, outl, fun y hy => by have := outb y hy; show -((((0 : Nat) : Int) + (a.length : Int)) * 4503599627370496) ≤ y ∧ y ≤ (((0 : Nat) : Int) + (a.length : Int)) * 4503599627370496; omega, rfl⟩, ?_⟩, ?_⟩
  · conv => whnf
    repeat' (first | exact trivial | exact rfl | refine And.intro ?_ ?_ | ((conv => whnf); first | exact trivial | exact rfl | refine And.intro ?_ ?_ | omega))
  rintro ⟨j, sum⟩ ⟨hj, suml, sumb, sumg⟩ ρ38 t38 hρ38
  have hj : j ≤ b.length := hj
  have suml : sum.length = vars := suml
  have sumb : ∀ y ∈ sum, -(((j : Int) + (a.length : Int)) * 4503599627370496) ≤ y ∧ y ≤ ((j : Int) + (a.length : Int)) * 4503599627370496 := sumb
  have sumg : coefF (q) b out = coefF (q) (b.drop j) sum := sumg
  dsimp only
  conv => whnf
  refine ⟨fun hc => ?_, fun hc => ?_⟩
  · have hlt : j < b.length := by simpa using hc
    obtain ⟨⟨hv0, hv1⟩, hb0, hb1⟩ := hfb b[j] (List.getElem_mem hlt)
    obtain ⟨v, hve⟩ : ∃ v : Nat, b[j].1 = (v : Int) := ⟨b[j].1.toNat, by omega⟩
    have hvl : v < sum.length := by omega
    have hov := sumb _ (List.getElem_mem hvl)
    obtain ⟨z, hz⟩ : ∃ z, z = q * b[j].2 := ⟨_, rfl⟩
    have hzp : (q) * b[j].2 = z := by first | exact hz.symm | rw [hz, Int.neg_mul]
    rw [hzp] at hb0 hb1
    obtain ⟨u, hu⟩ : ∃ u, u = sum[v] + z := ⟨_, rfl⟩
    rw [List.drop_eq_getElem_cons hlt] at sumg
    have hst : coefF (q) (b[j] :: b.drop (j + 1)) sum = coefF (q) (b.drop (j + 1)) (sum.set v u) := by
      simp only [coefF]
      rw [show b[j].1.toNat = v from by omega, getD_of hvl, hzp, show sum[v] + z = u from by omega]
    conv => whnf
    refine ⟨j, rfl, hlt, hlt, ?_⟩
    conv => whnf
    refine ⟨v, hve, by show v < vars; omega, hvl, ?_⟩
    conv => whnf
    refine ⟨z, (congrArg IntKind.i64.wrap hz.symm).trans (wrapId ⟨by omega, by omega⟩), ?_⟩
    conv => whnf
    refine ⟨u, (congrArg IntKind.i64.wrap (show sum[v] + z = u from hu.symm)).trans (wrapId ⟨by omega, by omega⟩), ?_⟩
    conv => whnf
    refine ⟨v, hve, by show v < vars; omega, hvl, u, rfl, ?_⟩
    conv => whnf
    refine ⟨(j : Int) + 1, wrapId (z := (j : Int) + 1) ⟨by omega, by omega⟩, ?_⟩
    refine ⟨(j + 1, sum.set v u), ⟨hlt, by show (sum.set v u).length = vars; rw [List.length_set]; exact suml, ?_, by show coefF (q) b out = coefF (q) (b.drop (j + 1)) (sum.set v u); rw [sumg, hst]⟩, by show b.length - (j + 1) < b.length - j; omega, ?_⟩
    · intro y hy
      show -((((j + 1 : Nat) : Int) + (a.length : Int)) * 4503599627370496) ≤ y ∧ y ≤ (((j + 1 : Nat) : Int) + (a.length : Int)) * 4503599627370496
      rcases List.mem_or_eq_of_mem_set hy with hy | rfl
      · have := sumb y hy; omega
      · omega
    conv => whnf
    refine ⟨rfl, ?_⟩
    conv => whnf
    repeat' (first | exact trivial | exact rfl | refine And.intro ?_ ?_ | ((conv => whnf); first | exact trivial | exact rfl | refine And.intro ?_ ?_ | omega))
  have hje : j = b.length := by simp at hc; omega
  rw [hje] at sumb
  rw [hje, List.drop_length] at sumg
  have sumg : coefF (q) b out = sum := sumg
  rw [hje]
  clear hje hc hj
  conv => whnf
  rw [outg, sumg]
  repeat' (first | exact trivial | exact rfl | refine And.intro ?_ ?_ | ((conv => whnf); first | exact trivial | exact rfl | refine And.intro ?_ ?_ | omega))

theorem refCoef2_t (bs : List (Int × Int)) (ls : List Lnk) (a b : List (Int × Int)) (p q : Int) (hv : bs.length ≤ 100000) (ha : a.length ≤ 240) (hb : b.length ≤ 240) (hfa : FormB bs.length p a) (hfb : FormB bs.length (-q) b) :
    Triple Try.prog 95 [sysA bs.length ls.length, iv .i64 p, .c (.s 2 0 a.length 2), iv .i64 q, .c (.s 3 0 b.length 2)] ((2, false, .arr (aSpan a)) :: (3, false, .arr (aSpan b)) :: sysH bs ls) 4
      (.c (.s 4 0 bs.length 1)) [(4, true, .arr (aInt (coefF (-q) b (coefF p a (List.replicate bs.length 0)))))] := by
  refine triple_of tB_ok Try.func95 rfl Try.call95 rfl ?_
  intro ρ w hH
  conv => whnf
  refine mks_step tB_ok (aInt (List.replicate bs.length 0)) rfl rfl ?_
  conv => whnf
  refine ⟨bs.length, ⟨List.length_replicate, rfl, rfl, by show bs.length * 9 ≤ _; omega, fun x hx => ?_⟩, ?_⟩
  · obtain ⟨_, rfl⟩ := List.mem_replicate.1 hx
    repeat' (first | exact trivial | exact rfl | refine And.intro ?_ ?_ | ((conv => whnf); first | exact trivial | exact rfl | refine And.intro ?_ ?_ | omega))
  generalize hvars : bs.length = vars at *
  have hzb : ∀ y ∈ List.replicate vars (0 : Int), -0 ≤ y ∧ y ≤ 0 := fun y hy => by obtain ⟨_, rfl⟩ := List.mem_replicate.1 hy; omega
  conv => whnf
  refine loop_step tB_ok (G := Nat × List Int) 0 [] (fun e => [(12, iv .i64 e.1)]) (fun e => [(5, true, .arr (aInt e.2))]) (fun e => e.1 ≤ a.length ∧ e.2.length = vars ∧ (∀ y ∈ e.2, -((((e.1 : Nat) : Int) + 0) * 4503599627370496) ≤ y ∧ y ≤ (((e.1 : Nat) : Int) + 0) * 4503599627370496) ∧ coefF (p) a (List.replicate vars 0) = coefF (p) (a.drop e.1) e.2) (fun e => a.length - e.1) ?_
  conv => whnf
  refine ⟨⟨(0, (List.replicate vars 0)), ⟨Nat.zero_le _, List.length_replicate, fun y hy => by have := hzb y hy; show -((((0 : Nat) : Int) + 0) * 4503599627370496) ≤ y ∧ y ≤ (((0 : Nat) : Int) + 0) * 4503599627370496; omega, rfl⟩, ?_⟩, ?_⟩
  · conv => whnf
    repeat' (first | exact trivial | exact rfl | refine And.intro ?_ ?_ | ((conv => whnf); first | exact trivial | exact rfl | refine And.intro ?_ ?_ | omega))
  rintro ⟨j, out⟩ ⟨hj, outl, outb, outg⟩ ρ12 t12 hρ12
  have hj : j ≤ a.length := hj
  have outl : out.length = vars := outl
  have outb : ∀ y ∈ out, -(((j : Int) + 0) * 4503599627370496) ≤ y ∧ y ≤ ((j : Int) + 0) * 4503599627370496 := outb
  have outg : coefF (p) a (List.replicate vars 0) = coefF (p) (a.drop j) out := outg
  dsimp only
  conv => whnf
  refine ⟨fun hc => ?_, fun hc => ?_⟩
  · have hlt : j < a.length := by simpa using hc
    obtain ⟨⟨hv0, hv1⟩, hb0, hb1⟩ := hfa a[j] (List.getElem_mem hlt)
    obtain ⟨v, hve⟩ : ∃ v : Nat, a[j].1 = (v : Int) := ⟨a[j].1.toNat, by omega⟩
    have hvl : v < out.length := by omega
    have hov := outb _ (List.getElem_mem hvl)
    obtain ⟨z, hz⟩ : ∃ z, z = p * a[j].2 := ⟨_, rfl⟩
    have hzp : (p) * a[j].2 = z := by first | exact hz.symm | rw [hz, Int.neg_mul]
    rw [hzp] at hb0 hb1
    obtain ⟨u, hu⟩ : ∃ u, u = out[v] + z := ⟨_, rfl⟩
    rw [List.drop_eq_getElem_cons hlt] at outg
    have hst : coefF (p) (a[j] :: a.drop (j + 1)) out = coefF (p) (a.drop (j + 1)) (out.set v u) := by
      simp only [coefF]
      rw [show a[j].1.toNat = v from by omega, getD_of hvl, hzp, show out[v] + z = u from by omega]
    conv => whnf
    refine ⟨j, rfl, hlt, hlt, ?_⟩
    conv => whnf
    refine ⟨j, rfl, hlt, hlt, ?_⟩
    conv => whnf
    refine ⟨v, hve, by show v < vars; omega, hvl, ?_⟩
    conv => whnf
    refine ⟨j, rfl, hlt, hlt, ?_⟩
    conv => whnf
    refine ⟨z, (congrArg IntKind.i64.wrap hz.symm).trans (wrapId ⟨by omega, by omega⟩), ?_⟩
    conv => whnf
    refine ⟨u, (congrArg IntKind.i64.wrap (show out[v] + z = u from hu.symm)).trans (wrapId ⟨by omega, by omega⟩), ?_⟩
    conv => whnf
    refine ⟨v, hve, by show v < vars; omega, hvl, u, rfl, ?_⟩
    conv => whnf
    refine ⟨(j : Int) + 1, wrapId (z := (j : Int) + 1) ⟨by omega, by omega⟩, ?_⟩
    refine ⟨(j + 1, out.set v u), ⟨hlt, by show (out.set v u).length = vars; rw [List.length_set]; exact outl, ?_, by show coefF (p) a (List.replicate vars 0) = coefF (p) (a.drop (j + 1)) (out.set v u); rw [outg, hst]⟩, by show a.length - (j + 1) < a.length - j; omega, ?_⟩
    · intro y hy
      show -((((j + 1 : Nat) : Int) + 0) * 4503599627370496) ≤ y ∧ y ≤ (((j + 1 : Nat) : Int) + 0) * 4503599627370496
      rcases List.mem_or_eq_of_mem_set hy with hy | rfl
      · have := outb y hy; omega
      · omega
    conv => whnf
    refine ⟨rfl, ?_⟩
    conv => whnf
    repeat' (first | exact trivial | exact rfl | refine And.intro ?_ ?_ | ((conv => whnf); first | exact trivial | exact rfl | refine And.intro ?_ ?_ | omega))
  have hje : j = a.length := by simp at hc; omega
  rw [hje] at outb
  rw [hje, List.drop_length] at outg
  have outg : coefF (p) a (List.replicate vars 0) = out := outg
  rw [hje]
  clear hje hc hj
  conv => whnf
  refine loop_step tB_ok (G := Nat × List Int) 0 [] (fun e => [(13, iv .i64 e.1)]) (fun e => [(5, true, .arr (aInt e.2))]) (fun e => e.1 ≤ b.length ∧ e.2.length = vars ∧ (∀ y ∈ e.2, -((((e.1 : Nat) : Int) + (a.length : Int)) * 4503599627370496) ≤ y ∧ y ≤ (((e.1 : Nat) : Int) + (a.length : Int)) * 4503599627370496) ∧ coefF (-q) b out = coefF (-q) (b.drop e.1) e.2) (fun e => b.length - e.1) ?_
  conv => whnf
  refine ⟨⟨(0, out), ⟨Nat.zero_le _, outl, fun y hy => by have := outb y hy; show -((((0 : Nat) : Int) + (a.length : Int)) * 4503599627370496) ≤ y ∧ y ≤ (((0 : Nat) : Int) + (a.length : Int)) * 4503599627370496; omega, rfl⟩, ?_⟩, ?_⟩
  · conv => whnf
    repeat' (first | exact trivial | exact rfl | refine And.intro ?_ ?_ | ((conv => whnf); first | exact trivial | exact rfl | refine And.intro ?_ ?_ | omega))
  rintro ⟨j, sum⟩ ⟨hj, suml, sumb, sumg⟩ ρ13 t13 hρ13
  have hj : j ≤ b.length := hj
  have suml : sum.length = vars := suml
  have sumb : ∀ y ∈ sum, -(((j : Int) + (a.length : Int)) * 4503599627370496) ≤ y ∧ y ≤ ((j : Int) + (a.length : Int)) * 4503599627370496 := sumb
  have sumg : coefF (-q) b out = coefF (-q) (b.drop j) sum := sumg
  dsimp only
  conv => whnf
  refine ⟨fun hc => ?_, fun hc => ?_⟩
  · have hlt : j < b.length := by simpa using hc
    obtain ⟨⟨hv0, hv1⟩, hb0, hb1⟩ := hfb b[j] (List.getElem_mem hlt)
    obtain ⟨v, hve⟩ : ∃ v : Nat, b[j].1 = (v : Int) := ⟨b[j].1.toNat, by omega⟩
    have hvl : v < sum.length := by omega
    have hov := sumb _ (List.getElem_mem hvl)
    obtain ⟨z, hz⟩ : ∃ z, z = q * b[j].2 := ⟨_, rfl⟩
    have hzp : (-q) * b[j].2 = -z := by first | exact hz.symm | rw [hz, Int.neg_mul]
    rw [hzp] at hb0 hb1
    obtain ⟨u, hu⟩ : ∃ u, u = sum[v] - z := ⟨_, rfl⟩
    rw [List.drop_eq_getElem_cons hlt] at sumg
    have hst : coefF (-q) (b[j] :: b.drop (j + 1)) sum = coefF (-q) (b.drop (j + 1)) (sum.set v u) := by
      simp only [coefF]
      rw [show b[j].1.toNat = v from by omega, getD_of hvl, hzp, show sum[v] + -z = u from by omega]
    conv => whnf
    refine ⟨j, rfl, hlt, hlt, ?_⟩
    conv => whnf
    refine ⟨j, rfl, hlt, hlt, ?_⟩
    conv => whnf
    refine ⟨v, hve, by show v < vars; omega, hvl, ?_⟩
    conv => whnf
    refine ⟨j, rfl, hlt, hlt, ?_⟩
    conv => whnf
    refine ⟨z, (congrArg IntKind.i64.wrap hz.symm).trans (wrapId ⟨by omega, by omega⟩), ?_⟩
    conv => whnf
    refine ⟨u, (congrArg IntKind.i64.wrap (show sum[v] - z = u from hu.symm)).trans (wrapId ⟨by omega, by omega⟩), ?_⟩
    conv => whnf
    refine ⟨v, hve, by show v < vars; omega, hvl, u, rfl, ?_⟩
    conv => whnf
    refine ⟨(j : Int) + 1, wrapId (z := (j : Int) + 1) ⟨by omega, by omega⟩, ?_⟩
    refine ⟨(j + 1, sum.set v u), ⟨hlt, by show (sum.set v u).length = vars; rw [List.length_set]; exact suml, ?_, by show coefF (-q) b out = coefF (-q) (b.drop (j + 1)) (sum.set v u); rw [sumg, hst]⟩, by show b.length - (j + 1) < b.length - j; omega, ?_⟩
    · intro y hy
      show -((((j + 1 : Nat) : Int) + (a.length : Int)) * 4503599627370496) ≤ y ∧ y ≤ (((j + 1 : Nat) : Int) + (a.length : Int)) * 4503599627370496
      rcases List.mem_or_eq_of_mem_set hy with hy | rfl
      · have := sumb y hy; omega
      · omega
    conv => whnf
    refine ⟨rfl, ?_⟩
    conv => whnf
    repeat' (first | exact trivial | exact rfl | refine And.intro ?_ ?_ | ((conv => whnf); first | exact trivial | exact rfl | refine And.intro ?_ ?_ | omega))
  have hje : j = b.length := by simp at hc; omega
  rw [hje] at sumb
  rw [hje, List.drop_length] at sumg
  have sumg : coefF (-q) b out = sum := sumg
  rw [hje]
  clear hje hc hj
  conv => whnf
  rw [outg, sumg]
  repeat' (first | exact trivial | exact rfl | refine And.intro ?_ ?_ | ((conv => whnf); first | exact trivial | exact rfl | refine And.intro ?_ ?_ | omega))

end Go.Proofs

