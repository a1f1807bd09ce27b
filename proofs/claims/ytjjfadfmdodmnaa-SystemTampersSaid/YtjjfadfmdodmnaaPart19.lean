/-
  A part of the proof that a law of dryweightlaw03 answers true: lemmas of a symbolic walk, plain functions, or contracts of the functions walked (Xm, Xn, Xo, Xp, Xr, Pm17, Xs, Sx32, Sx33, Xe, Xf, Xg, Xh, Xi, Xu, Zd, Ze, Zf, Zg). Conditions: none.
-/
import Derived.Test.YtjjfadfmdodmnaaPart18
import Derived.Test.YtjjfadfmdodmnaaPart17
import Derived.Test.YtjjfadfmdodmnaaPart07
import Derived.Lib.AppendZeros
set_option maxRecDepth 100000
set_option linter.unusedVariables false
set_option linter.unusedSimpArgs false
namespace Go.Proofs
open Go.Sx

theorem refCoef_t (bs : List (Int × Int)) (ls : List Lnk) (a : List (Int × Int)) (p q : Int) (hv : bs.length ≤ 100000) (ha : a.length ≤ 1000) (hf : FormB bs.length p a) :
    Triple Try.prog 95 [sysA bs.length ls.length, iv .i64 p, .c (.s 2 0 a.length 2), iv .i64 q, .c (.v (.slice none 0 0))] ((2, false, .arr (aSpan a)) :: sysH bs ls) 3
      (.c (.s 3 0 bs.length 1)) [(3, true, .arr (aInt (coefF p a (List.replicate bs.length 0))))] := by
  refine triple_of tB_ok Try.func95 rfl Try.call95 rfl ?_
  intro ρ w hH
  conv => whnf
  refine mks_step tB_ok (aInt (List.replicate bs.length 0)) rfl rfl ?_
  conv => whnf
  refine ⟨bs.length, ⟨List.length_replicate, rfl, rfl, by show bs.length * 9 ≤ _; omega, fun x hx => ?_⟩, ?_⟩
  · obtain ⟨_, rfl⟩ := List.mem_replicate.1 hx
    repeat' (first | exact trivial | exact rfl | refine And.intro ?_ ?_ | ((conv => whnf); first | exact trivial | exact rfl | refine And.intro ?_ ?_ | omega))
  generalize hvars : bs.length = vars at *
  conv => whnf
  refine loop_step tB_ok (G := Nat × List Int) 0 [] (fun g => [(12, iv .i64 g.1)]) (fun g => [(4, true, .arr (aInt g.2))]) (fun g => g.1 ≤ a.length ∧ g.2.length = vars ∧ (∀ y ∈ g.2, -(g.1 * 4503599627370496) ≤ y ∧ y ≤ g.1 * 4503599627370496) ∧ coefF p a (List.replicate vars 0) = coefF p (a.drop g.1) g.2) (fun g => a.length - g.1) ?_
  conv => whnf
  refine ⟨⟨(0, List.replicate vars 0), ⟨Nat.zero_le _, List.length_replicate, fun y hy => by obtain ⟨_, rfl⟩ := List.mem_replicate.1 hy; simp, rfl⟩, ?_⟩, ?_⟩
  · conv => whnf
    repeat' (first | exact trivial | exact rfl | refine And.intro ?_ ?_ | ((conv => whnf); first | exact trivial | exact rfl | refine And.intro ?_ ?_ | omega))
  rintro ⟨i, out⟩ ⟨hi, hol, hob, hg⟩ ρ1 t1 hρ1
  have hi : i ≤ a.length := hi
  have hol : out.length = vars := hol
  have hob : ∀ y ∈ out, -((i : Int) * 4503599627370496) ≤ y ∧ y ≤ (i : Int) * 4503599627370496 := hob
  have hg : coefF p a (List.replicate vars 0) = coefF p (a.drop i) out := hg
  rw [hg]
  dsimp only
  conv => whnf
  refine ⟨fun hc => ?_, fun hc => ?_⟩
  · have hc : i < a.length := by simpa using hc
    have hlt := hc
    obtain ⟨⟨hv0, hv1⟩, hb0, hb1⟩ := hf a[i] (List.getElem_mem hlt)
    obtain ⟨v, hve⟩ : ∃ v : Nat, a[i].1 = (v : Int) := ⟨a[i].1.toNat, by omega⟩
    have hvl : v < out.length := by omega
    have hov := hob _ (getD_mem hvl)
    rw [List.drop_eq_getElem_cons hlt]
    have hst : coefF p (a[i] :: a.drop (i + 1)) out = coefF p (a.drop (i + 1)) (out.set v (out.getD v 0 + p * a[i].2)) := by
      simp only [coefF]
      rw [show a[i].1.toNat = v from by omega]
    rw [hst]
    conv => whnf
    refine ⟨i, rfl, hc, hc, ?_⟩
    conv => whnf
    refine ⟨i, rfl, hc, hc, ?_⟩
    conv => whnf
    refine ⟨v, hve, by show v < vars; omega, hvl, ?_⟩
    conv => whnf
    refine ⟨i, rfl, hc, hc, ?_⟩
    conv => whnf
    obtain ⟨z, hz⟩ : ∃ z, z = p * a[i].2 := ⟨_, rfl⟩
    rw [← hz] at hb0 hb1
    refine ⟨z, (congrArg IntKind.i64.wrap hz.symm).trans (wrapId ⟨by omega, by omega⟩), ?_⟩
    have hge : out.getD v 0 = out[v] := by rw [List.getD_eq_getElem?_getD, List.getElem?_eq_getElem hvl]; rfl
    rw [hge] at hov
    have hset := set_bd (B := (i : Int) * 4503599627370496) hob ⟨hb0, hb1⟩ hvl
    rw [hge] at hset
    rw [← hz, hge]
    obtain ⟨u, hu⟩ : ∃ u, u = out[v] + z := ⟨_, rfl⟩
    rw [← hu] at hset ⊢
    conv => whnf
    refine ⟨u, (congrArg IntKind.i64.wrap (show out[v] + z = u from hu.symm)).trans (wrapId ⟨by omega, by omega⟩), ?_⟩
    conv => whnf
    refine ⟨v, hve, by show v < vars; omega, hvl, u, rfl, ?_⟩
    conv => whnf
    refine ⟨(i : Int) + 1, wrapId (z := (i : Int) + 1) ⟨by omega, by omega⟩, ?_⟩
    refine ⟨(i + 1, out.set v u), ⟨hlt, by show (out.set v u).length = vars; rw [List.length_set]; exact hol, ?_, rfl⟩, by show a.length - (i + 1) < a.length - i; omega, ?_⟩
    · intro y hy
      have := hset y hy
      show -(((i + 1 : Nat) : Int) * 4503599627370496) ≤ y ∧ y ≤ ((i + 1 : Nat) : Int) * 4503599627370496
      omega
    conv => whnf
    refine ⟨rfl, ?_⟩
    conv => whnf
    repeat' (first | exact trivial | exact rfl | refine And.intro ?_ ?_ | ((conv => whnf); first | exact trivial | exact rfl | refine And.intro ?_ ?_ | omega))
  · have hi2 : i = a.length := by simp at hc; omega
    subst hi2
    rw [List.drop_length]
    conv => whnf
    refine loop_step tB_ok (G := Unit) 2 [] (fun g => [(13, iv .i64 0)]) (fun g => []) (fun g => True) (fun g => 0) ?_
    conv => whnf
    refine ⟨⟨(), trivial, ?_⟩, ?_⟩
    · conv => whnf
      repeat' (first | exact trivial | exact rfl | refine And.intro ?_ ?_ | ((conv => whnf); first | exact trivial | exact rfl | refine And.intro ?_ ?_ | omega))
    intro _ _ ρ2 t2 hρ2
    conv => whnf
    refine ⟨fun hc => ?_, fun hc => ?_⟩
    · simp at hc
    · conv => whnf
      repeat' (first | exact trivial | exact rfl | refine And.intro ?_ ?_ | ((conv => whnf); first | exact trivial | exact rfl | refine And.intro ?_ ?_ | omega))

end Go.Proofs

namespace Go.Proofs
open Go.Sx

theorem costU_split (us : List (Lnk × Int)) {i : Nat} (hlt : i < us.length) {high low q r zh zl : Int} (hcst : high * 262144 + low = costU (us.take i)) (ht : us[i].2 = 262144 * q + r) (hzh : zh = q * us[i].1.m) (hzl : zl = r * us[i].1.m) :
    (high + zh) * 262144 + (low + zl) = costU (us.take (i + 1)) := by
  rw [take_snoc hlt, costU_snoc, ← hcst, hzh, hzl, ht, Int.add_mul, Int.add_mul]
  have e1 : q * us[i].1.m * 262144 = 262144 * q * us[i].1.m := by rw [Int.mul_comm (q * us[i].1.m), Int.mul_assoc]
  omega

theorem shows_t (bs : List (Int × Int)) (ls : List Lnk) (by' : List Int) (us : List (Lnk × Int)) (most : Int) (hs : SysOK bs ls) (hbl : by'.length = bs.length) (hul : us.length ≤ 1000000) (hm : -9223372036854775808 ≤ most ∧ most ≤ 9223372036854775807) :
    Triple Try.prog 94 [sysA bs.length ls.length, .c (.s 2 0 bs.length 1), .c (.s 3 0 us.length 5), iv .i64 most] ((2, false, .arr (aInt by')) :: (3, false, .arr (aUse us)) :: sysH bs ls) 4 (bv (showsF (allF bs ls) bs.length by' us most)) [] := by
  have hR := @showsF_iff (allF bs ls) bs.length by' us most
  generalize showsF (allF bs ls) bs.length by' us most = R at *
  have hnb := hs.nb
  have hnl := hs.nl
  have hall := allF_ok hs
  have hal := allF_le hs
  refine triple_of tB_ok Try.func94 rfl Try.call94 rfl ?_
  intro ρ w hH
  conv => whnf
  refine ⟨fun hc => ?_, fun hc => ?_⟩
  · have hc : 2000 < us.length := by have hc := of_decide_eq_true (show decide ((2000 : Int) < us.length) = true from hc); omega
    have e : R = false := by rw [← Bool.not_eq_true, hR]; omega
    rw [e]
    conv => whnf
    repeat' (first | exact trivial | exact rfl | refine And.intro ?_ ?_ | ((conv => whnf); first | exact trivial | exact rfl | refine And.intro ?_ ?_ | omega))
  have hul : ¬ 2000 < us.length := by have hc := of_decide_eq_false (show decide ((2000 : Int) < us.length) = false from hc); omega
  conv => whnf
  refine call_step (refAll_t bs ls (by omega) hs.boxB (by omega)) rfl rfl ?_
  conv => whnf
  refine ⟨(by repeat' (first | exact trivial | exact rfl | refine And.intro ?_ ?_ | ((conv => whnf); first | exact trivial | exact rfl | refine And.intro ?_ ?_ | omega))), (by repeat' (first | exact trivial | exact rfl | refine And.intro ?_ ?_ | ((conv => whnf); first | exact trivial | exact rfl | refine And.intro ?_ ?_ | omega))), ?_⟩
  conv => whnf
  refine mks_step tB_ok (aInt (List.replicate bs.length 0)) rfl rfl ?_
  conv => whnf
  refine ⟨bs.length, ⟨List.length_replicate, rfl, rfl, by show bs.length * 9 ≤ _; omega, fun x hx => ?_⟩, ?_⟩
  · obtain ⟨_, rfl⟩ := List.mem_replicate.1 hx
    repeat' (first | exact trivial | exact rfl | refine And.intro ?_ ?_ | ((conv => whnf); first | exact trivial | exact rfl | refine And.intro ?_ ?_ | omega))
  generalize hn : bs.length = n at *
  generalize allF bs ls = arcs at *
  conv => whnf
  refine loop_step tB_ok (G := Nat × List Int × Int × Int) 0 [] (fun g => [(13, iv .i64 g.1), (11, iv .i64 g.2.2.1), (12, iv .i64 g.2.2.2)]) (fun g => [(6, true, .arr (aInt g.2.1))])
    (fun g => g.1 ≤ us.length ∧ g.2.1.length = n ∧ (∀ y ∈ g.2.1, -(g.1 * 137438953472) ≤ y ∧ y ≤ g.1 * 137438953472) ∧ (∀ u ∈ us.take g.1, useOK arcs u = true) ∧ gotF us (List.replicate n 0) = gotF (us.drop g.1) g.2.1 ∧ g.2.2.1 * 262144 + g.2.2.2 = costU (us.take g.1) ∧
      (-(8796093022208 * (g.1 : Int)) ≤ g.2.2.1 ∧ g.2.2.1 ≤ 8796093022208 * (g.1 : Int)) ∧ (-(8796093022208 * (g.1 : Int)) ≤ g.2.2.2 ∧ g.2.2.2 ≤ 8796093022208 * (g.1 : Int))) (fun g => us.length - g.1) ?_
  conv => whnf
  refine ⟨⟨(0, List.replicate n 0, 0, 0), ⟨Nat.zero_le _, List.length_replicate, fun y hy => by obtain ⟨_, rfl⟩ := List.mem_replicate.1 hy; simp, by simp, rfl, rfl, ⟨by simp, by simp⟩, ⟨by simp, by simp⟩⟩, ?_⟩, ?_⟩
  · conv => whnf
    repeat' (first | exact trivial | exact rfl | refine And.intro ?_ ?_ | ((conv => whnf); first | exact trivial | exact rfl | refine And.intro ?_ ?_ | omega))
  rintro ⟨i, got, high, low⟩ ⟨hi, hgl, hgb, hg, hgf, hcst, hhb, hlb⟩ ρ1 t1 hρ1
  have hi : i ≤ us.length := hi
  have hgl : got.length = n := hgl
  have hgb : ∀ y ∈ got, -((i : Int) * 137438953472) ≤ y ∧ y ≤ (i : Int) * 137438953472 := hgb
  have hg : ∀ u ∈ us.take i, useOK arcs u = true := hg
  have hgf : gotF us (List.replicate n 0) = gotF (us.drop i) got := hgf
  have hcst : high * 262144 + low = costU (us.take i) := hcst
  have hhb : -(8796093022208 * (i : Int)) ≤ high ∧ high ≤ 8796093022208 * (i : Int) := hhb
  have hlb : -(8796093022208 * (i : Int)) ≤ low ∧ low ≤ 8796093022208 * (i : Int) := hlb
  dsimp only
  conv => whnf
  refine ⟨fun hc => ?_, fun hc => ?_⟩
  · have hlt : i < us.length := by simpa using hc
    have hno : ¬ (us[i].1 ∈ arcs ∧ 1 ≤ us[i].2 ∧ us[i].2 ≤ 68719476736) → R = false := fun h => by
      rw [← Bool.not_eq_true, hR]
      exact fun h2 => h (useOK_iff.1 (h2.2.1 _ (List.getElem_mem hlt)))
    rw [List.drop_eq_getElem_cons hlt] at hgf
    conv => whnf
    refine ⟨i, rfl, hlt, hlt, ?_⟩
    conv => whnf
    refine call_step (known_t arcs us[i].1 (by omega)) rfl rfl ?_
    conv => whnf
    refine ⟨(by repeat' (first | exact trivial | exact rfl | refine And.intro ?_ ?_ | ((conv => whnf); first | exact trivial | exact rfl | refine And.intro ?_ ?_ | omega))), (by repeat' (first | exact trivial | exact rfl | refine And.intro ?_ ?_ | ((conv => whnf); first | exact trivial | exact rfl | refine And.intro ?_ ?_ | omega))), ?_⟩
    conv => whnf
    refine ⟨fun hc => ?_, fun hc => ?_⟩
    · have hk : us[i].1 ∉ arcs := by simpa using (show (!decide (us[i].1 ∈ arcs)) = true from hc)
      have e : R = false := hno fun h => hk h.1
      rw [e]
      conv => whnf
      repeat' (first | exact trivial | exact rfl | refine And.intro ?_ ?_ | ((conv => whnf); first | exact trivial | exact rfl | refine And.intro ?_ ?_ | omega))
    have hk : us[i].1 ∈ arcs := by simpa using (show (!decide (us[i].1 ∈ arcs)) = false from hc)
    conv => whnf
    refine ⟨fun hc => ?_, fun hc => ?_⟩
    · have hc : us[i].2 < 1 := of_decide_eq_true (show decide (us[i].2 < 1) = true from hc)
      have e : R = false := hno fun h => by omega
      rw [e]
      conv => whnf
      repeat' (first | exact trivial | exact rfl | refine And.intro ?_ ?_ | ((conv => whnf); first | exact trivial | exact rfl | refine And.intro ?_ ?_ | omega))
    have ht1 : ¬ us[i].2 < 1 := of_decide_eq_false (show decide (us[i].2 < 1) = false from hc)
    conv => whnf
    refine ⟨fun hc => ?_, fun hc => ?_⟩
    · have hc : 68719476736 < us[i].2 := of_decide_eq_true (show decide (68719476736 < us[i].2) = true from hc)
      have e : R = false := hno fun h => by omega
      rw [e]
      conv => whnf
      repeat' (first | exact trivial | exact rfl | refine And.intro ?_ ?_ | ((conv => whnf); first | exact trivial | exact rfl | refine And.intro ?_ ?_ | omega))
    have ht2 : ¬ 68719476736 < us[i].2 := of_decide_eq_false (show decide (68719476736 < us[i].2) = false from hc)
    have hok1 : useOK arcs us[i] = true := useOK_iff.2 ⟨hk, by omega, by omega⟩
    obtain ⟨o1, o2, hmb⟩ := hall _ hk
    have h1l : (gotP us[i].1.t us[i].2 got).length = n := by rw [gotP_len]; exact hgl
    have h1b : ∀ y ∈ gotP us[i].1.t us[i].2 got, -((i : Int) * 137438953472 + 68719476736) ≤ y ∧ y ≤ (i : Int) * 137438953472 + 68719476736 :=
      gotP_bd hgb (by omega) (by rw [hgl]; exact o2.2)
    rw [gotF] at hgf
    conv => whnf
    refine ⟨fun hc => ?_, fun hc => ?_⟩
    · have hf0 : 0 ≤ us[i].1.t := of_decide_eq_true (show decide (0 ≤ us[i].1.t) = true from hc)
      obtain ⟨v1, hv1⟩ : ∃ v : Nat, us[i].1.t = (v : Int) := ⟨us[i].1.t.toNat, by omega⟩
      have hv1l : v1 < got.length := by omega
      have hb1 := hgb _ (List.getElem_mem hv1l)
      obtain ⟨u1, hu1⟩ : ∃ u, u = got[v1] + us[i].2 := ⟨_, rfl⟩
      have h1e : gotP us[i].1.t us[i].2 got = got.set v1 u1 := by
        unfold gotP
        rw [if_neg (by omega), hv1, Int.toNat_natCast, getD_of hv1l, ← hu1]
      rw [h1e] at h1l h1b hgf
      conv => whnf
      refine ⟨v1, hv1, by show v1 < n; omega, hv1l, ?_⟩
      conv => whnf
      refine ⟨u1, (congrArg IntKind.i64.wrap (show got[v1] + us[i].2 = u1 from hu1.symm)).trans (wrapId ⟨by omega, by omega⟩), ?_⟩
      conv => whnf
      refine ⟨v1, hv1, by show v1 < n; omega, hv1l, u1, rfl, ?_⟩
      conv => whnf
      have h2l : (gotP us[i].1.f (-us[i].2) (got.set v1 u1)).length = n := by rw [gotP_len]; exact h1l
      have h2b : ∀ y ∈ gotP us[i].1.f (-us[i].2) (got.set v1 u1), -(((i + 1 : Nat) : Int) * 137438953472) ≤ y ∧ y ≤ ((i + 1 : Nat) : Int) * 137438953472 := fun y hy => by
        have := gotP_bd (C := 68719476736) h1b (show -68719476736 ≤ -us[i].2 ∧ -us[i].2 ≤ 68719476736 by omega) (by rw [h1l]; exact o1.2) y hy
        omega
      refine ⟨fun hc => ?_, fun hc => ?_⟩
      · have hf0 : 0 ≤ us[i].1.f := of_decide_eq_true (show decide (0 ≤ us[i].1.f) = true from hc)
        obtain ⟨v2, hv2⟩ : ∃ v : Nat, us[i].1.f = (v : Int) := ⟨us[i].1.f.toNat, by omega⟩
        have hv2l : v2 < (got.set v1 u1).length := by omega
        have hb2 := h1b _ (List.getElem_mem hv2l)
        obtain ⟨u2, hu2⟩ : ∃ u, u = (got.set v1 u1)[v2] - us[i].2 := ⟨_, rfl⟩
        have h2e : gotP us[i].1.f (-us[i].2) (got.set v1 u1) = (got.set v1 u1).set v2 u2 := by
          unfold gotP
          rw [if_neg (by omega), hv2, Int.toNat_natCast, getD_of hv2l, ← Int.sub_eq_add_neg, ← hu2]
        rw [h2e] at h2l h2b
        conv => whnf
        refine ⟨v2, hv2, by show v2 < n; omega, hv2l, ?_⟩
        conv => whnf
        refine ⟨u2, (congrArg IntKind.i64.wrap (show (got.set v1 u1)[v2] - us[i].2 = u2 from hu2.symm)).trans (wrapId ⟨by omega, by omega⟩), ?_⟩
        conv => whnf
        refine ⟨v2, hv2, by show v2 < n; omega, hv2l, u2, rfl, ?_⟩
        conv => whnf
        obtain ⟨qT, hqT⟩ : ∃ z, z = Int.tdiv us[i].2 262144 := ⟨_, rfl⟩
        obtain ⟨rT, hrT⟩ : ∃ z, z = Int.tmod us[i].2 262144 := ⟨_, rfl⟩
        have htq : us[i].2 = 262144 * qT + rT := by rw [hqT, hrT]; exact (Int.mul_tdiv_add_tmod us[i].2 262144).symm
        have htr1 : 0 ≤ rT := by rw [hrT]; exact Int.tmod_nonneg 262144 (by omega)
        have htr2 : rT < 262144 := by rw [hrT]; exact Int.tmod_lt_of_pos us[i].2 (by omega)
        have hqb : 0 ≤ qT ∧ qT ≤ 262144 := by omega
        refine ⟨by decide, qT, (congrArg IntKind.i64.wrap hqT.symm).trans (wrapId ⟨by omega, by omega⟩), ?_⟩
        conv => whnf
        obtain ⟨zh, hzh⟩ : ∃ z, z = qT * us[i].1.m := ⟨_, rfl⟩
        obtain ⟨zl, hzl⟩ : ∃ z, z = rT * us[i].1.m := ⟨_, rfl⟩
        have hzhb := mul_bd (x := qT) (C := 262144) (D := 33554432) ⟨by omega, hqb.2⟩ hmb
        have hzlb := mul_bd (x := rT) (C := 262144) (D := 33554432) ⟨by omega, by omega⟩ hmb
        rw [← hzh] at hzhb
        rw [← hzl] at hzlb
        refine ⟨zh, (congrArg IntKind.i64.wrap hzh.symm).trans (wrapId ⟨by omega, by omega⟩), ?_⟩
        conv => whnf
        refine ⟨high + zh, wrapId (z := high + zh) ⟨by omega, by omega⟩, ?_⟩
        conv => whnf
        refine ⟨by decide, rT, hrT.symm, ?_⟩
        conv => whnf
        refine ⟨zl, (congrArg IntKind.i64.wrap hzl.symm).trans (wrapId ⟨by omega, by omega⟩), ?_⟩
        conv => whnf
        refine ⟨low + zl, wrapId (z := low + zl) ⟨by omega, by omega⟩, ?_⟩
        conv => whnf
        refine ⟨(i : Int) + 1, wrapId (z := (i : Int) + 1) ⟨by omega, by omega⟩, ?_⟩
        refine ⟨(i + 1, ((got.set v1 u1).set v2 u2), high + zh, low + zl), ⟨hlt, h2l, h2b, fun u hu => ?_, by show gotF us (List.replicate n 0) = gotF (us.drop (i + 1)) ((got.set v1 u1).set v2 u2); rw [hgf, h2e], costU_split us hlt hcst htq hzh hzl, ⟨by show -(8796093022208 * ((i + 1 : Nat) : Int)) ≤ high + zh; omega, by show high + zh ≤ 8796093022208 * ((i + 1 : Nat) : Int); omega⟩, ⟨by show -(8796093022208 * ((i + 1 : Nat) : Int)) ≤ low + zl; omega, by show low + zl ≤ 8796093022208 * ((i + 1 : Nat) : Int); omega⟩⟩, by show us.length - (i + 1) < us.length - i; omega, ?_⟩
        · rw [take_snoc hlt] at hu
          rcases List.mem_append.1 hu with hu | hu
          · exact hg u hu
          · simp at hu; rw [hu]; exact hok1
        conv => whnf
        refine ⟨rfl, ?_⟩
        conv => whnf
        repeat' (first | exact trivial | exact rfl | refine And.intro ?_ ?_ | ((conv => whnf); first | exact trivial | exact rfl | refine And.intro ?_ ?_ | omega))
      · have hf0 : us[i].1.f < 0 := by have := of_decide_eq_false (show decide (0 ≤ us[i].1.f) = false from hc); omega
        have h2e : gotP us[i].1.f (-us[i].2) (got.set v1 u1) = (got.set v1 u1) := by unfold gotP; rw [if_pos hf0]
        rw [h2e] at h2l h2b
        conv => whnf
        obtain ⟨qT, hqT⟩ : ∃ z, z = Int.tdiv us[i].2 262144 := ⟨_, rfl⟩
        obtain ⟨rT, hrT⟩ : ∃ z, z = Int.tmod us[i].2 262144 := ⟨_, rfl⟩
        have htq : us[i].2 = 262144 * qT + rT := by rw [hqT, hrT]; exact (Int.mul_tdiv_add_tmod us[i].2 262144).symm
        have htr1 : 0 ≤ rT := by rw [hrT]; exact Int.tmod_nonneg 262144 (by omega)
        have htr2 : rT < 262144 := by rw [hrT]; exact Int.tmod_lt_of_pos us[i].2 (by omega)
        have hqb : 0 ≤ qT ∧ qT ≤ 262144 := by omega
        refine ⟨by decide, qT, (congrArg IntKind.i64.wrap hqT.symm).trans (wrapId ⟨by omega, by omega⟩), ?_⟩
        conv => whnf
        obtain ⟨zh, hzh⟩ : ∃ z, z = qT * us[i].1.m := ⟨_, rfl⟩
        obtain ⟨zl, hzl⟩ : ∃ z, z = rT * us[i].1.m := ⟨_, rfl⟩
        have hzhb := mul_bd (x := qT) (C := 262144) (D := 33554432) ⟨by omega, hqb.2⟩ hmb
        have hzlb := mul_bd (x := rT) (C := 262144) (D := 33554432) ⟨by omega, by omega⟩ hmb
        rw [← hzh] at hzhb
        rw [← hzl] at hzlb
        refine ⟨zh, (congrArg IntKind.i64.wrap hzh.symm).trans (wrapId ⟨by omega, by omega⟩), ?_⟩
        conv => whnf
        refine ⟨high + zh, wrapId (z := high + zh) ⟨by omega, by omega⟩, ?_⟩
        conv => whnf
        refine ⟨by decide, rT, hrT.symm, ?_⟩
        conv => whnf
        refine ⟨zl, (congrArg IntKind.i64.wrap hzl.symm).trans (wrapId ⟨by omega, by omega⟩), ?_⟩
        conv => whnf
        refine ⟨low + zl, wrapId (z := low + zl) ⟨by omega, by omega⟩, ?_⟩
        conv => whnf
        refine ⟨(i : Int) + 1, wrapId (z := (i : Int) + 1) ⟨by omega, by omega⟩, ?_⟩
        refine ⟨(i + 1, (got.set v1 u1), high + zh, low + zl), ⟨hlt, h2l, h2b, fun u hu => ?_, by show gotF us (List.replicate n 0) = gotF (us.drop (i + 1)) (got.set v1 u1); rw [hgf, h2e], costU_split us hlt hcst htq hzh hzl, ⟨by show -(8796093022208 * ((i + 1 : Nat) : Int)) ≤ high + zh; omega, by show high + zh ≤ 8796093022208 * ((i + 1 : Nat) : Int); omega⟩, ⟨by show -(8796093022208 * ((i + 1 : Nat) : Int)) ≤ low + zl; omega, by show low + zl ≤ 8796093022208 * ((i + 1 : Nat) : Int); omega⟩⟩, by show us.length - (i + 1) < us.length - i; omega, ?_⟩
        · rw [take_snoc hlt] at hu
          rcases List.mem_append.1 hu with hu | hu
          · exact hg u hu
          · simp at hu; rw [hu]; exact hok1
        conv => whnf
        refine ⟨rfl, ?_⟩
        conv => whnf
        repeat' (first | exact trivial | exact rfl | refine And.intro ?_ ?_ | ((conv => whnf); first | exact trivial | exact rfl | refine And.intro ?_ ?_ | omega))
    · have hf0 : us[i].1.t < 0 := by have := of_decide_eq_false (show decide (0 ≤ us[i].1.t) = false from hc); omega
      have h1e : gotP us[i].1.t us[i].2 got = got := by unfold gotP; rw [if_pos hf0]
      rw [h1e] at h1l h1b hgf
      conv => whnf
      have h2l : (gotP us[i].1.f (-us[i].2) got).length = n := by rw [gotP_len]; exact h1l
      have h2b : ∀ y ∈ gotP us[i].1.f (-us[i].2) got, -(((i + 1 : Nat) : Int) * 137438953472) ≤ y ∧ y ≤ ((i + 1 : Nat) : Int) * 137438953472 := fun y hy => by
        have := gotP_bd (C := 68719476736) h1b (show -68719476736 ≤ -us[i].2 ∧ -us[i].2 ≤ 68719476736 by omega) (by rw [h1l]; exact o1.2) y hy
        omega
      refine ⟨fun hc => ?_, fun hc => ?_⟩
      · have hf0 : 0 ≤ us[i].1.f := of_decide_eq_true (show decide (0 ≤ us[i].1.f) = true from hc)
        obtain ⟨v2, hv2⟩ : ∃ v : Nat, us[i].1.f = (v : Int) := ⟨us[i].1.f.toNat, by omega⟩
        have hv2l : v2 < got.length := by omega
        have hb2 := h1b _ (List.getElem_mem hv2l)
        obtain ⟨u2, hu2⟩ : ∃ u, u = got[v2] - us[i].2 := ⟨_, rfl⟩
        have h2e : gotP us[i].1.f (-us[i].2) got = got.set v2 u2 := by
          unfold gotP
          rw [if_neg (by omega), hv2, Int.toNat_natCast, getD_of hv2l, ← Int.sub_eq_add_neg, ← hu2]
        rw [h2e] at h2l h2b
        conv => whnf
        refine ⟨v2, hv2, by show v2 < n; omega, hv2l, ?_⟩
        conv => whnf
        refine ⟨u2, (congrArg IntKind.i64.wrap (show got[v2] - us[i].2 = u2 from hu2.symm)).trans (wrapId ⟨by omega, by omega⟩), ?_⟩
        conv => whnf
        refine ⟨v2, hv2, by show v2 < n; omega, hv2l, u2, rfl, ?_⟩
        conv => whnf
        obtain ⟨qT, hqT⟩ : ∃ z, z = Int.tdiv us[i].2 262144 := ⟨_, rfl⟩
        obtain ⟨rT, hrT⟩ : ∃ z, z = Int.tmod us[i].2 262144 := ⟨_, rfl⟩
        have htq : us[i].2 = 262144 * qT + rT := by rw [hqT, hrT]; exact (Int.mul_tdiv_add_tmod us[i].2 262144).symm
        have htr1 : 0 ≤ rT := by rw [hrT]; exact Int.tmod_nonneg 262144 (by omega)
        have htr2 : rT < 262144 := by rw [hrT]; exact Int.tmod_lt_of_pos us[i].2 (by omega)
        have hqb : 0 ≤ qT ∧ qT ≤ 262144 := by omega
        refine ⟨by decide, qT, (congrArg IntKind.i64.wrap hqT.symm).trans (wrapId ⟨by omega, by omega⟩), ?_⟩
        conv => whnf
        obtain ⟨zh, hzh⟩ : ∃ z, z = qT * us[i].1.m := ⟨_, rfl⟩
        obtain ⟨zl, hzl⟩ : ∃ z, z = rT * us[i].1.m := ⟨_, rfl⟩
        have hzhb := mul_bd (x := qT) (C := 262144) (D := 33554432) ⟨by omega, hqb.2⟩ hmb
        have hzlb := mul_bd (x := rT) (C := 262144) (D := 33554432) ⟨by omega, by omega⟩ hmb
        rw [← hzh] at hzhb
        rw [← hzl] at hzlb
        refine ⟨zh, (congrArg IntKind.i64.wrap hzh.symm).trans (wrapId ⟨by omega, by omega⟩), ?_⟩
        conv => whnf
        refine ⟨high + zh, wrapId (z := high + zh) ⟨by omega, by omega⟩, ?_⟩
        conv => whnf
        refine ⟨by decide, rT, hrT.symm, ?_⟩
        conv => whnf
        refine ⟨zl, (congrArg IntKind.i64.wrap hzl.symm).trans (wrapId ⟨by omega, by omega⟩), ?_⟩
        conv => whnf
        refine ⟨low + zl, wrapId (z := low + zl) ⟨by omega, by omega⟩, ?_⟩
        conv => whnf
        refine ⟨(i : Int) + 1, wrapId (z := (i : Int) + 1) ⟨by omega, by omega⟩, ?_⟩
        refine ⟨(i + 1, (got.set v2 u2), high + zh, low + zl), ⟨hlt, h2l, h2b, fun u hu => ?_, by show gotF us (List.replicate n 0) = gotF (us.drop (i + 1)) (got.set v2 u2); rw [hgf, h2e], costU_split us hlt hcst htq hzh hzl, ⟨by show -(8796093022208 * ((i + 1 : Nat) : Int)) ≤ high + zh; omega, by show high + zh ≤ 8796093022208 * ((i + 1 : Nat) : Int); omega⟩, ⟨by show -(8796093022208 * ((i + 1 : Nat) : Int)) ≤ low + zl; omega, by show low + zl ≤ 8796093022208 * ((i + 1 : Nat) : Int); omega⟩⟩, by show us.length - (i + 1) < us.length - i; omega, ?_⟩
        · rw [take_snoc hlt] at hu
          rcases List.mem_append.1 hu with hu | hu
          · exact hg u hu
          · simp at hu; rw [hu]; exact hok1
        conv => whnf
        refine ⟨rfl, ?_⟩
        conv => whnf
        repeat' (first | exact trivial | exact rfl | refine And.intro ?_ ?_ | ((conv => whnf); first | exact trivial | exact rfl | refine And.intro ?_ ?_ | omega))
      · have hf0 : us[i].1.f < 0 := by have := of_decide_eq_false (show decide (0 ≤ us[i].1.f) = false from hc); omega
        have h2e : gotP us[i].1.f (-us[i].2) got = got := by unfold gotP; rw [if_pos hf0]
        rw [h2e] at h2l h2b
        conv => whnf
        obtain ⟨qT, hqT⟩ : ∃ z, z = Int.tdiv us[i].2 262144 := ⟨_, rfl⟩
        obtain ⟨rT, hrT⟩ : ∃ z, z = Int.tmod us[i].2 262144 := ⟨_, rfl⟩
        have htq : us[i].2 = 262144 * qT + rT := by rw [hqT, hrT]; exact (Int.mul_tdiv_add_tmod us[i].2 262144).symm
        have htr1 : 0 ≤ rT := by rw [hrT]; exact Int.tmod_nonneg 262144 (by omega)
        have htr2 : rT < 262144 := by rw [hrT]; exact Int.tmod_lt_of_pos us[i].2 (by omega)
        have hqb : 0 ≤ qT ∧ qT ≤ 262144 := by omega
        refine ⟨by decide, qT, (congrArg IntKind.i64.wrap hqT.symm).trans (wrapId ⟨by omega, by omega⟩), ?_⟩
        conv => whnf
        obtain ⟨zh, hzh⟩ : ∃ z, z = qT * us[i].1.m := ⟨_, rfl⟩
        obtain ⟨zl, hzl⟩ : ∃ z, z = rT * us[i].1.m := ⟨_, rfl⟩
        have hzhb := mul_bd (x := qT) (C := 262144) (D := 33554432) ⟨by omega, hqb.2⟩ hmb
        have hzlb := mul_bd (x := rT) (C := 262144) (D := 33554432) ⟨by omega, by omega⟩ hmb
        rw [← hzh] at hzhb
        rw [← hzl] at hzlb
        refine ⟨zh, (congrArg IntKind.i64.wrap hzh.symm).trans (wrapId ⟨by omega, by omega⟩), ?_⟩
        conv => whnf
        refine ⟨high + zh, wrapId (z := high + zh) ⟨by omega, by omega⟩, ?_⟩
        conv => whnf
        refine ⟨by decide, rT, hrT.symm, ?_⟩
        conv => whnf
        refine ⟨zl, (congrArg IntKind.i64.wrap hzl.symm).trans (wrapId ⟨by omega, by omega⟩), ?_⟩
        conv => whnf
        refine ⟨low + zl, wrapId (z := low + zl) ⟨by omega, by omega⟩, ?_⟩
        conv => whnf
        refine ⟨(i : Int) + 1, wrapId (z := (i : Int) + 1) ⟨by omega, by omega⟩, ?_⟩
        refine ⟨(i + 1, got, high + zh, low + zl), ⟨hlt, h2l, h2b, fun u hu => ?_, by show gotF us (List.replicate n 0) = gotF (us.drop (i + 1)) got; rw [hgf, h2e], costU_split us hlt hcst htq hzh hzl, ⟨by show -(8796093022208 * ((i + 1 : Nat) : Int)) ≤ high + zh; omega, by show high + zh ≤ 8796093022208 * ((i + 1 : Nat) : Int); omega⟩, ⟨by show -(8796093022208 * ((i + 1 : Nat) : Int)) ≤ low + zl; omega, by show low + zl ≤ 8796093022208 * ((i + 1 : Nat) : Int); omega⟩⟩, by show us.length - (i + 1) < us.length - i; omega, ?_⟩
        · rw [take_snoc hlt] at hu
          rcases List.mem_append.1 hu with hu | hu
          · exact hg u hu
          · simp at hu; rw [hu]; exact hok1
        conv => whnf
        refine ⟨rfl, ?_⟩
        conv => whnf
        repeat' (first | exact trivial | exact rfl | refine And.intro ?_ ?_ | ((conv => whnf); first | exact trivial | exact rfl | refine And.intro ?_ ?_ | omega))
  have hie : i = us.length := by simp at hc; omega
  rw [hie, List.take_length] at hg hcst
  rw [hie, List.drop_length] at hgf
  have hgf : gotF us (List.replicate n 0) = got := hgf
  conv => whnf
  refine loop_step tB_ok (G := Nat) 2 [] (fun k => [(16, iv .i64 k)]) (fun _ => []) (fun k => k ≤ n ∧ got.take k = by'.take k) (fun k => n - k) ?_
  conv => whnf
  refine ⟨⟨0, ⟨Nat.zero_le _, by simp⟩, ?_⟩, ?_⟩
  · conv => whnf
    repeat' (first | exact trivial | exact rfl | refine And.intro ?_ ?_ | ((conv => whnf); first | exact trivial | exact rfl | refine And.intro ?_ ?_ | omega))
  intro k hk ρ2 t2 hρ2
  obtain ⟨hk, hq⟩ := hk
  conv => whnf
  refine ⟨fun hc => ?_, fun hc => ?_⟩
  · have hkn : k < n := by simpa using hc
    have hk1 : k < got.length := by omega
    have hk2 : k < by'.length := by omega
    conv => whnf
    refine ⟨k, rfl, by show k < n; omega, hk1, ?_⟩
    conv => whnf
    refine ⟨k, rfl, by show k < n; omega, hk2, ?_⟩
    conv => whnf
    refine ⟨fun hc => ?_, fun hc => ?_⟩
    · have hne : got[k] ≠ by'[k] := by simpa using (show (got[k] != by'[k]) = true from hc)
      have e : R = false := by
        rw [← Bool.not_eq_true, hR]
        intro h
        have h3 := h.2.2.1
        rw [hgf] at h3
        subst h3
        exact hne rfl
      rw [e]
      conv => whnf
      repeat' (first | exact trivial | exact rfl | refine And.intro ?_ ?_ | ((conv => whnf); first | exact trivial | exact rfl | refine And.intro ?_ ?_ | omega))
    · have heq : got[k] = by'[k] := by simpa using (show (got[k] != by'[k]) = false from hc)
      conv => whnf
      refine ⟨(k : Int) + 1, wrapId (z := (k : Int) + 1) ⟨by omega, by omega⟩, ?_⟩
      refine ⟨k + 1, ⟨hkn, by rw [take_snoc hk1, take_snoc hk2, hq, heq]⟩, by show n - (k + 1) < n - k; omega, ?_⟩
      conv => whnf
      refine ⟨rfl, ?_⟩
      conv => whnf
      repeat' (first | exact trivial | exact rfl | refine And.intro ?_ ?_ | ((conv => whnf); first | exact trivial | exact rfl | refine And.intro ?_ ?_ | omega))
  have hke : k = n := by simp at hc; omega
  subst hke
  have hgy : got = by' := by
    rw [List.take_of_length_le (by omega), List.take_of_length_le (by omega)] at hq
    exact hq
  conv => whnf
  refine call_step (same_t high low most (by omega) (by omega) hm) rfl rfl ?_
  conv => whnf
  refine ⟨(by repeat' (first | exact trivial | exact rfl | refine And.intro ?_ ?_ | ((conv => whnf); first | exact trivial | exact rfl | refine And.intro ?_ ?_ | omega))), (by repeat' (first | exact trivial | exact rfl | refine And.intro ?_ ?_ | ((conv => whnf); first | exact trivial | exact rfl | refine And.intro ?_ ?_ | omega))), ?_⟩
  conv => whnf
  refine ⟨?_, trivial⟩
  show decide (high * 262144 + low = most) = R
  rw [Bool.eq_iff_iff, hR, decide_eq_true_eq, hcst]
  exact ⟨fun h => ⟨by omega, hg, by rw [hgf, hgy], h⟩, fun h => h.2.2.2⟩

end Go.Proofs

namespace Go.Proofs
open Go.Sx

theorem plc_at {n : Nat} {pt : List Int} {i : Int} (hl : pt.length = n) (hi : -1 ≤ i ∧ i < n) : pt.getD (plc n i) 0 = atF pt i := by
  unfold plc atF
  by_cases h : i < 0
  · rw [if_pos h, if_pos h, List.getD_eq_getElem?_getD, List.getElem?_eq_none (by omega)]; rfl
  · rw [if_neg h, if_neg h]

theorem box_arcs {bs : List (Int × Int)} {ls : List Lnk} (hs : SysOK bs ls) {v : Nat} (hv : v < bs.length) :
    (∃ l ∈ allF bs ls, plc bs.length l.f = bs.length ∧ plc bs.length l.t = v ∧ l.m ≤ 16777216) ∧ (∃ l ∈ allF bs ls, plc bs.length l.f = v ∧ plc bs.length l.t = bs.length ∧ l.m ≤ 16777216) := by
  have hb := boxLinks_has (bs := bs) (v := 0) hv
  rw [Nat.zero_add] at hb
  have hbx := hs.box _ (List.getElem_mem hv)
  refine ⟨⟨_, List.mem_append.2 (.inl hb.1), rfl, ?_, hbx.2.2⟩, ⟨_, List.mem_append.2 (.inl hb.2), ?_, rfl, by show -bs[v].1 ≤ 16777216; omega⟩⟩
  · simp only [plc]; rw [if_neg (by omega)]; omega
  · simp only [plc]; rw [if_neg (by omega)]; omega

theorem pot_bd {bs : List (Int × Int)} {ls : List Lnk} {pt : List Int} (hs : SysOK bs ls) (hl : pt.length = bs.length) (hp : PotL bs.length (fun v => pt.getD v 0) (allF bs ls)) : ∀ x ∈ pt, -16777216 ≤ x ∧ x ≤ 16777216 := by
  intro x hx
  obtain ⟨v, hv, rfl⟩ := List.mem_iff_getElem.1 hx
  obtain ⟨⟨l, hl1, a1, a2, a3⟩, ⟨m, hm1, b1, b2, b3⟩⟩ := box_arcs (ls := ls) hs (show v < bs.length by omega)
  have p1 : pt.getD (plc bs.length l.t) 0 ≤ pt.getD (plc bs.length l.f) 0 + l.m := hp l hl1
  have p2 : pt.getD (plc bs.length m.t) 0 ≤ pt.getD (plc bs.length m.f) 0 + m.m := hp m hm1
  have z : pt.getD bs.length 0 = 0 := by rw [List.getD_eq_getElem?_getD, List.getElem?_eq_none (by omega)]; rfl
  rw [a1, a2, z, getD_of hv] at p1
  rw [b1, b2, z, getD_of hv] at p2
  omega

/-- The allowed points are those that no link contradicts. -/
theorem allows_iff {bs : List (Int × Int)} {ls : List Lnk} {pt : List Int} (hs : SysOK bs ls) : (allowsF bs ls pt).2 = true ↔ pt.length = bs.length ∧ PotL bs.length (fun v => pt.getD v 0) (allF bs ls) := by
  unfold allowsF
  have hok := allF_ok hs
  by_cases hl : pt.length = bs.length
  · rw [if_pos hl]
    have hv : (∀ l ∈ allF bs ls, violF pt l = false) ↔ PotL bs.length (fun v => pt.getD v 0) (allF bs ls) := by
      constructor
      · intro h
        have hc : ∀ v, v < bs.length → -16777216 ≤ atF pt v ∧ atF pt v ≤ 16777216 := by
          intro v hv
          obtain ⟨h1, h2⟩ := boxLinks_has (bs := bs) (v := 0) hv
          have hbx := hs.box _ (List.getElem_mem hv)
          have g1 := h _ (List.mem_append.2 (.inl h1))
          have g2 := h _ (List.mem_append.2 (.inl h2))
          rw [Nat.zero_add] at g1 g2
          have e0 : valI pt (-1) = 0 := rfl
          have e1 : valI pt ((v : Nat) : Int) = max (-1099511627776) (min 1099511627776 (pt.getD v 0)) := by
            unfold valI; rw [if_neg (by omega), Int.toNat_natCast]
          have e2 : atF pt ((v : Nat) : Int) = pt.getD v 0 := by unfold atF; rw [if_neg (by omega), Int.toNat_natCast]
          have g1 : decide (bs[v].2 < valI pt ((v : Nat) : Int) - valI pt (-1)) = false := g1
          have g2 : decide (-bs[v].1 < valI pt (-1) - valI pt ((v : Nat) : Int)) = false := g2
          rw [e0, e1, decide_eq_false_iff_not] at g1 g2
          rw [e2]
          omega
        have hat : ∀ i : Int, -1 ≤ i ∧ i < bs.length → valI pt i = atF pt i := fun i hi => by
          refine valI_at ?_
          by_cases h0 : i < 0
          · unfold atF; rw [if_pos h0]; omega
          · have := hc i.toNat (by omega)
            rw [Int.toNat_of_nonneg (by omega)] at this
            omega
        intro l hl2
        obtain ⟨o1, o2, _⟩ := hok l hl2
        have g := h l hl2
        unfold violF at g
        rw [hat _ o1, hat _ o2] at g
        simp only [decide_eq_false_iff_not] at g
        show pt.getD (plc bs.length l.t) 0 ≤ pt.getD (plc bs.length l.f) 0 + l.m
        rw [plc_at hl o1, plc_at hl o2]
        omega
      · intro hp l hl2
        obtain ⟨o1, o2, _⟩ := hok l hl2
        have hb := pot_bd hs hl hp
        have hbd : ∀ i : Int, -1 ≤ i ∧ i < bs.length → valI pt i = atF pt i := fun i hi => by
          refine valI_at ?_
          unfold atF
          by_cases h0 : i < 0
          · rw [if_pos h0]; omega
          · rw [if_neg h0]
            have := hb _ (getD_mem (show i.toNat < pt.length by omega))
            omega
        have g : pt.getD (plc bs.length l.t) 0 ≤ pt.getD (plc bs.length l.f) 0 + l.m := hp l hl2
        rw [plc_at hl o1, plc_at hl o2] at g
        unfold violF
        rw [hbd _ o1, hbd _ o2, decide_eq_false_iff_not]
        omega
    rw [← hv]
    constructor
    · intro h
      refine ⟨hl, fun l hl2 => ?_⟩
      cases hf : (allF bs ls).find? (violF pt) with
      | none =>
        rw [List.find?_eq_none] at hf
        simpa using hf l hl2
      | some x => rw [hf] at h; cases h
    · intro h
      have : (allF bs ls).find? (violF pt) = none := List.find?_eq_none.2 fun l hl2 => by rw [h.2 l hl2]; simp
      rw [this]
  · rw [if_neg hl]
    exact ⟨fun h => by simp at h, fun h => absurd h.1 hl⟩

def checkBestF (bs : List (Int × Int)) (ls : List Lnk) (form : List (Int × Int)) (v : Int) (us : List (Lnk × Int)) (pt : List Int) : Int :=
  if checkF bs ls ≠ 0 then checkF bs ls else if formF form bs.length ≠ 0 then formF form bs.length else if (allowsF bs ls pt).2 = false then 8 else if valM form pt ≠ v then 8 else
  if showsF (allF bs ls) bs.length (coefF 1 form (List.replicate bs.length 0)) us v = false then 8 else 0

theorem formB_of {form : List (Int × Int)} {n : Nat} (h : formF form n = 0) {p : Int} (hp : -4294967296 ≤ p ∧ p ≤ 4294967296) : FormB n p form := by
  intro t ht
  obtain ⟨h1, h2⟩ := (formF_ok h).2.1 t ht
  have := mul_bd (C := 4294967296) (D := 1024) hp h2
  exact ⟨h1, by omega⟩

theorem refCheckBest_t (bs : List (Int × Int)) (ls : List Lnk) (form : List (Int × Int)) (v : Int) (us : List (Lnk × Int)) (pt : List Int) (hb : bs.length ≤ 1000000) (hl : ls.length ≤ 1000000) (hfl : form.length ≤ 1000000) (hul : us.length ≤ 1000000) (hpl : pt.length ≤ 1000000) (hv : -9223372036854775808 ≤ v ∧ v ≤ 9223372036854775807) :
    Triple Try.prog 31 [sysA bs.length ls.length, .c (.s 2 0 form.length 2), .agg [.v (.int .i64 v), .s 3 0 us.length 5, .s 4 0 pt.length 1]]
      ((2, false, .arr (aSpan form)) :: (3, false, .arr (aUse us)) :: (4, false, .arr (aInt pt)) :: sysH bs ls) 5 (iv .i64 (checkBestF bs ls form v us pt)) [] := by
  have hF : checkBestF bs ls form v us pt = if checkF bs ls ≠ 0 then checkF bs ls else if formF form bs.length ≠ 0 then formF form bs.length else if (allowsF bs ls pt).2 = false then 8 else if valM form pt ≠ v then 8 else
    if showsF (allF bs ls) bs.length (coefF 1 form (List.replicate bs.length 0)) us v = false then 8 else 0 := rfl
  generalize checkBestF bs ls form v us pt = R at *
  refine triple_of tB_ok Try.func31 rfl Try.call31 rfl ?_
  intro ρ w hH
  conv => whnf
  refine call_step (refCheck_t bs ls hb hl) rfl rfl ?_
  conv => whnf
  refine ⟨(by repeat' (first | exact trivial | exact rfl | refine And.intro ?_ ?_ | ((conv => whnf); first | exact trivial | exact rfl | refine And.intro ?_ ?_ | omega))), (by repeat' (first | exact trivial | exact rfl | refine And.intro ?_ ?_ | ((conv => whnf); first | exact trivial | exact rfl | refine And.intro ?_ ?_ | omega))), ?_⟩
  conv => whnf
  by_cases hck : checkF bs ls = 0
  · rw [if_neg (by simpa using hck)] at hF
    have hs := checkF_ok.1 hck
    have hnb := hs.nb
    have hnl := hs.nl
    rw [hck]
    refine ⟨fun hc => absurd hc (by simp), fun hc => ?_⟩
    conv => whnf
    refine call_step (refForm_t bs ls form (by omega) (by omega)) rfl rfl ?_
    conv => whnf
    refine ⟨(by repeat' (first | exact trivial | exact rfl | refine And.intro ?_ ?_ | ((conv => whnf); first | exact trivial | exact rfl | refine And.intro ?_ ?_ | omega))), (by repeat' (first | exact trivial | exact rfl | refine And.intro ?_ ?_ | ((conv => whnf); first | exact trivial | exact rfl | refine And.intro ?_ ?_ | omega))), ?_⟩
    conv => whnf
    by_cases hfo : formF form bs.length = 0
    · rw [if_neg (by simpa using hfo)] at hF
      obtain ⟨f1, f2, f3⟩ := formF_ok hfo
      rw [hfo]
      refine ⟨fun hc => absurd hc (by simp), fun hc => ?_⟩
      conv => whnf
      refine call_step (refAllows_t bs ls pt hs (by omega)) rfl rfl ?_
      conv => whnf
      refine ⟨(by repeat' (first | exact trivial | exact rfl | refine And.intro ?_ ?_ | ((conv => whnf); first | exact trivial | exact rfl | refine And.intro ?_ ?_ | omega))), (by repeat' (first | exact trivial | exact rfl | refine And.intro ?_ ?_ | ((conv => whnf); first | exact trivial | exact rfl | refine And.intro ?_ ?_ | omega))), ?_⟩
      conv => whnf
      refine ⟨fun hc => ?_, fun hc => ?_⟩
      · have ha : (allowsF bs ls pt).2 = false := by simpa using (show (!(allowsF bs ls pt).2) = true from hc)
        rw [if_pos ha] at hF
        rw [hF]
        conv => whnf
        repeat' (first | exact trivial | exact rfl | refine And.intro ?_ ?_ | ((conv => whnf); first | exact trivial | exact rfl | refine And.intro ?_ ?_ | omega))
      have ha : (allowsF bs ls pt).2 = true := by simpa using (show (!(allowsF bs ls pt).2) = false from hc)
      rw [if_neg (by rw [ha]; simp)] at hF
      obtain ⟨hptl, hptp⟩ := (allows_iff hs).1 ha
      have hptb := pot_bd hs hptl hptp
      conv => whnf
      refine call_step (At_t form pt (by omega) (by rw [hptl]; exact f2) (fun x hx => by have := hptb x hx; omega)) rfl rfl ?_
      conv => whnf
      refine ⟨(by repeat' (first | exact trivial | exact rfl | refine And.intro ?_ ?_ | ((conv => whnf); first | exact trivial | exact rfl | refine And.intro ?_ ?_ | omega))), (by repeat' (first | exact trivial | exact rfl | refine And.intro ?_ ?_ | ((conv => whnf); first | exact trivial | exact rfl | refine And.intro ?_ ?_ | omega))), ?_⟩
      conv => whnf
      refine ⟨fun hc => ?_, fun hc => ?_⟩
      · have he : valM form pt ≠ v := by simpa using (show (valM form pt != v) = true from hc)
        rw [if_pos he] at hF
        rw [hF]
        conv => whnf
        repeat' (first | exact trivial | exact rfl | refine And.intro ?_ ?_ | ((conv => whnf); first | exact trivial | exact rfl | refine And.intro ?_ ?_ | omega))
      have he : valM form pt = v := by simpa using (show (valM form pt != v) = false from hc)
      rw [if_neg (by simpa using he)] at hF
      conv => whnf
      refine call_step (refCoef_t bs ls form 1 0 (by omega) (by omega) (formB_of hfo (by omega))) rfl rfl ?_
      conv => whnf
      refine ⟨(by repeat' (first | exact trivial | exact rfl | refine And.intro ?_ ?_ | ((conv => whnf); first | exact trivial | exact rfl | refine And.intro ?_ ?_ | omega))), (by repeat' (first | exact trivial | exact rfl | refine And.intro ?_ ?_ | ((conv => whnf); first | exact trivial | exact rfl | refine And.intro ?_ ?_ | omega))), ?_⟩
      conv => whnf
      have hcl : (coefF 1 form (List.replicate bs.length 0)).length = bs.length := by rw [coefF_len, List.length_replicate]
      generalize coefF 1 form (List.replicate bs.length 0) = cf at *
      refine call_step (shows_t bs ls cf us v hs hcl hul hv) rfl rfl ?_
      conv => whnf
      refine ⟨(by repeat' (first | exact trivial | exact rfl | refine And.intro ?_ ?_ | ((conv => whnf); first | exact trivial | exact rfl | refine And.intro ?_ ?_ | omega))), (by repeat' (first | exact trivial | exact rfl | refine And.intro ?_ ?_ | ((conv => whnf); first | exact trivial | exact rfl | refine And.intro ?_ ?_ | omega))), ?_⟩
      conv => whnf
      refine ⟨fun hc => ?_, fun hc => ?_⟩
      · have hsh : showsF (allF bs ls) bs.length cf us v = false := by simpa using (show (!showsF (allF bs ls) bs.length cf us v) = true from hc)
        rw [if_pos hsh] at hF
        rw [hF]
        conv => whnf
        repeat' (first | exact trivial | exact rfl | refine And.intro ?_ ?_ | ((conv => whnf); first | exact trivial | exact rfl | refine And.intro ?_ ?_ | omega))
      · have hsh : showsF (allF bs ls) bs.length cf us v = true := by simpa using (show (!showsF (allF bs ls) bs.length cf us v) = false from hc)
        rw [if_neg (by rw [hsh]; simp)] at hF
        rw [hF]
        conv => whnf
        repeat' (first | exact trivial | exact rfl | refine And.intro ?_ ?_ | ((conv => whnf); first | exact trivial | exact rfl | refine And.intro ?_ ?_ | omega))
    · rw [if_pos (by simpa using hfo)] at hF
      rw [hF]
      generalize formF form bs.length = c at *
      refine ⟨fun hcc => ?_, fun hcc => ?_⟩
      · conv => whnf
        repeat' (first | exact trivial | exact rfl | refine And.intro ?_ ?_ | ((conv => whnf); first | exact trivial | exact rfl | refine And.intro ?_ ?_ | omega))
      · exact absurd (by simpa using hcc) hfo
  · rw [if_pos (by simpa using hck)] at hF
    rw [hF]
    generalize checkF bs ls = c at *
    refine ⟨fun hcc => ?_, fun hcc => ?_⟩
    · conv => whnf
      repeat' (first | exact trivial | exact rfl | refine And.intro ?_ ?_ | ((conv => whnf); first | exact trivial | exact rfl | refine And.intro ?_ ?_ | omega))
    · exact absurd (by simpa using hcc) hck

end Go.Proofs

namespace Go.Proofs
open Go.Sx

def negL (form : List (Int × Int)) : List (Int × Int) := form.map fun t => (t.1, -t.2)

theorem negL_len (form : List (Int × Int)) : (negL form).length = form.length := by simp [negL]

theorem formF_neg {form : List (Int × Int)} {n : Int} (h : formF form n = 0) : formF (negL form) n = 0 := by
  obtain ⟨h1, h2, h3⟩ := formF_ok h
  refine formF_of (by rw [negL_len]; exact h1) (fun t ht => ?_) ?_
  · obtain ⟨x, hx, rfl⟩ := List.mem_map.1 ht
    have := h2 x hx
    exact ⟨this.1, by show -1024 ≤ -x.2; omega, by show -x.2 ≤ 1024; omega⟩
  · rw [negL, List.map_map]; exact h3

theorem valM_neg (pt : List Int) : ∀ form : List (Int × Int), valM (negL form) pt = -valM form pt
  | [] => rfl
  | t :: r => by
    show -t.2 * pt.getD t.1.toNat 0 + valM (negL r) pt = -(t.2 * pt.getD t.1.toNat 0 + valM r pt)
    rw [valM_neg pt r, Int.neg_mul]; omega

theorem coefF_neg : ∀ (form : List (Int × Int)) (out : List Int), coefF 1 (negL form) out = coefF (-1) form out
  | [], out => rfl
  | t :: r, out => by
    show coefF 1 (negL r) (out.set t.1.toNat (out.getD t.1.toNat 0 + 1 * -t.2)) = coefF (-1) r (out.set t.1.toNat (out.getD t.1.toNat 0 + -1 * t.2))
    rw [coefF_neg r, Int.one_mul, Int.neg_mul, Int.one_mul]

/-- A system that does not contradict itself and is not too large. -/
structure NetW (bs : List (Int × Int)) (ls : List Lnk) : Prop where
  few : bs.length ≤ 14 ∧ ls.length ≤ 150
  sys : SysOK bs ls
  calm : Calm bs ls 0

theorem NetOK.w {bs : List (Int × Int)} {ls : List Lnk} (h : NetOK bs ls) : NetW bs ls := ⟨⟨h.few.1, by have := h.few; omega⟩, h.sys, h.calm⟩

theorem best_net {bs : List (Int × Int)} {ls : List Lnk} (h : NetW bs ls) {by' : List Int} {C : Int} (hbl : by'.length = bs.length) (hC : 0 ≤ C ∧ C ≤ 4294967296) (hbb : ∀ x ∈ by', -C ≤ x ∧ x ≤ C) :
    ∃ flow pt v, bestF bs.length (graphF bs ls 0) 68719476737 by' = some (v, usesF (allF bs ls) flow, pt) ∧ BestOK bs.length (allF bs ls) by' flow pt v (bs.length * C) ∧ bs.length * C ≤ 68719476736 := by
  have hf := h.few
  have hn : (bs.length : Int) * C ≤ 14 * 4294967296 := Int.mul_le_mul (by omega) hC.2 hC.1 (by omega)
  obtain ⟨q, hq⟩ := calm_pot h.sys h.calm
  have hok := allF_ok h.sys
  have hub := hub_graph bs ls 0
  have hq := hq 0
  rw [graphF_zero] at hub hq ⊢
  obtain ⟨flow, pt, v, h1, h2⟩ := best_gen (C := C) hok hub hq (fun v hv => box_arcs h.sys hv) hbl (by omega) hbb (by omega) (by omega)
  exact ⟨flow, pt, v, h1, h2, by omega⟩

theorem BestOK.bd {bs : List (Int × Int)} {ls : List Lnk} (h : NetW bs ls) {by' flow pt : List Int} {v S C : Int} (hb : BestOK bs.length (allF bs ls) by' flow pt v S) (hbl : by'.length = bs.length) (hC : 0 ≤ C ∧ C ≤ 4294967296) (hbb : ∀ x ∈ by', -C ≤ x ∧ x ≤ C) : -1152921504606846976 ≤ v ∧ v ≤ 1152921504606846976 := by
  have hpb := pot_bd h.sys hb.pl hb.pot
  have hf := h.few
  rw [← hb.val]
  have key : ∀ {x y : List Int}, (∀ z ∈ x, -C ≤ z ∧ z ≤ C) → (∀ z ∈ y, -16777216 ≤ z ∧ z ≤ 16777216) → -(x.length * (C * 16777216)) ≤ dotI x y ∧ dotI x y ≤ x.length * (C * 16777216) := by
    intro x
    induction x with
    | nil => intro y _ _; simp [dotI]
    | cons a x ih =>
      intro y hx hy
      have h0 : 0 ≤ C * 16777216 := by omega
      have hl : ((x.length + 1 : Nat) : Int) * (C * 16777216) = x.length * (C * 16777216) + C * 16777216 := by rw [Int.natCast_add, Int.add_mul]; simp
      have hl0 : 0 ≤ (x.length : Int) * (C * 16777216) := Int.mul_nonneg (by omega) h0
      rw [List.length_cons, hl]
      cases y with
      | nil => show -(_ + _) ≤ (0 : Int) ∧ (0 : Int) ≤ _; omega
      | cons b y =>
        have := ih (fun z hz => hx z (List.mem_cons_of_mem _ hz)) (fun z hz => hy z (List.mem_cons_of_mem _ hz))
        have hm := mul_bd (hx a (List.mem_cons_self ..)) (hy b (List.mem_cons_self ..))
        show _ ≤ a * b + dotI x y ∧ a * b + dotI x y ≤ _
        omega
  have := key hbb hpb
  have h2 : (by'.length : Int) * (C * 16777216) ≤ 14 * (4294967296 * 16777216) := Int.mul_le_mul (by omega) (by omega) (by omega) (by omega)
  omega

/-- The greatest and the least value of a form of a system that does not contradict itself. -/
theorem form_net {bs : List (Int × Int)} {ls : List Lnk} (h : NetW bs ls) {form : List (Int × Int)} (hf : formF form bs.length = 0) {p : Int} (hp : p = 1 ∨ p = -1) :
    (coefF p form (List.replicate bs.length 0)).length = bs.length ∧ (∀ x ∈ coefF p form (List.replicate bs.length 0), -1024 ≤ x ∧ x ≤ 1024) ∧
    ∃ flow pt v, bestF bs.length (graphF bs ls 0) 68719476737 (coefF p form (List.replicate bs.length 0)) = some (v, usesF (allF bs ls) flow, pt) ∧
      BestOK bs.length (allF bs ls) (coefF p form (List.replicate bs.length 0)) flow pt v (bs.length * 1024) ∧ (-1152921504606846976 ≤ v ∧ v ≤ 1152921504606846976) ∧
      showsF (allF bs ls) bs.length (coefF p form (List.replicate bs.length 0)) (usesF (allF bs ls) flow) v = true ∧ (allowsF bs ls pt).2 = true ∧ p * valM form pt = v ∧ (usesF (allF bs ls) flow).length ≤ 2000 ∧
      ∀ pt', (allowsF bs ls pt').2 = true → p * valM form pt' ≤ v := by
  obtain ⟨f1, f2, f3⟩ := formF_ok hf
  have hfew := h.few
  have hl : (coefF p form (List.replicate bs.length 0)).length = bs.length := by rw [coefF_len, List.length_replicate]
  have hb : ∀ x ∈ coefF p form (List.replicate bs.length 0), -1024 ≤ x ∧ x ≤ 1024 := by
    refine coefF_bd f3 (fun t ht => ⟨by rw [List.length_replicate]; exact (f2 t ht).1, ?_⟩) (fun t _ => replicate_getD _ _) (fun y hy => ?_)
    · have := (f2 t ht).2
      rcases hp with rfl | rfl <;> omega
    · obtain ⟨_, rfl⟩ := List.mem_replicate.1 hy; omega
  refine ⟨hl, hb, ?_⟩
  have hd : ∀ pt', dotI (coefF p form (List.replicate bs.length 0)) pt' = p * valM form pt' := fun pt' => by
    rw [coefF_dot p pt' (fun t ht => by rw [List.length_replicate]; exact (f2 t ht).1), dotI_zero]; omega
  generalize coefF p form (List.replicate bs.length 0) = cf at *
  obtain ⟨flow, pt, v, h1, h2, h3⟩ := best_net h (C := 1024) hl (by omega) hb
  have hal := allF_len bs ls
  have hus := usesF_len (allF bs ls) flow
  refine ⟨flow, pt, v, h1, h2, h2.bd h hl (by omega) hb, h2.shows (allF_ok h.sys) hl h3 (by omega), (allows_iff h.sys).2 ⟨h2.pl, h2.pot⟩, by rw [← hd, h2.val], by omega, fun pt' hpt' => ?_⟩
  obtain ⟨a1, a2⟩ := (allows_iff h.sys).1 hpt'
  rw [← hd]
  exact h2.most (allF_ok h.sys) hl a1 a2

theorem best_call {bs : List (Int × Int)} {ls : List Lnk} (h : NetW bs ls) {form : List (Int × Int)} (hf : formF form bs.length = 0) :
    ∃ v us pt, Triple Try.prog 28 [.c (.p 0 0 0 0), .c (.s 3 0 form.length 2)] ((3, false, .arr (aSpan form)) :: netH bs ls) 4
      (.tup [.inr [.v (.int .i64 v), .s 4 0 us.length 5, .s 5 0 pt.length 1], .inl (.v (.int .i64 0))]) [(4, true, .arr (aUse us)), (5, true, .arr (aInt pt))] ∧
      (-1152921504606846976 ≤ v ∧ v ≤ 1152921504606846976) ∧ us.length ≤ 2000 ∧ (allowsF bs ls pt).2 = true ∧ 1 * valM form pt = v ∧ ∀ pt', (allowsF bs ls pt').2 = true → 1 * valM form pt' ≤ v := by
  obtain ⟨f1, _, _⟩ := formF_ok hf
  obtain ⟨l1, b1, flow1, pt1, v1, hB1, hO1, hv1, hsh1, hal1, hval1, hul1, hm1⟩ := form_net h hf (p := 1) (.inl rfl)
  exact ⟨v1, _, pt1, Best_t bs ls form 68719476737 v1 (usesF (allF bs ls) flow1) pt1 _ h.sys (by omega) hf (formB_of hf (by omega)) rfl l1 (fun x hx => by have := b1 x hx; omega) hB1, hv1, hul1, hal1, hval1, hm1⟩

end Go.Proofs

namespace Go.Proofs
open Go.Sx

end Go.Proofs

/-
  Plain lemmas, part 17: sums of forms. Conditions: none; definitions and plain lemmas.
-/
namespace Go
namespace Proofs

end Proofs
end Go

namespace Go.Proofs
open Go.Sx

theorem coefF_bd2 {p B C : Int} : ∀ {form : List (Int × Int)} {out : List Int}, (form.map (·.1)).Nodup → (∀ t ∈ form, (0 ≤ t.1 ∧ t.1 < out.length) ∧ (-C ≤ p * t.2 ∧ p * t.2 ≤ C)) →
    (∀ t ∈ form, -B ≤ out.getD t.1.toNat 0 ∧ out.getD t.1.toNat 0 ≤ B) → (∀ y ∈ out, -(B + C) ≤ y ∧ y ≤ B + C) → ∀ y ∈ coefF p form out, -(B + C) ≤ y ∧ y ≤ B + C
  | [], out, _, _, _, h => h
  | t :: r, out, hn, hb, hz, h => by
    rw [List.map_cons, List.nodup_cons] at hn
    obtain ⟨⟨h0, h1⟩, h2, h3⟩ := hb t (List.mem_cons_self ..)
    refine coefF_bd2 (form := r) hn.2 (fun x hx => ?_) (fun x hx => ?_) (fun y hy => ?_)
    · rw [List.length_set]; exact hb x (List.mem_cons_of_mem _ hx)
    · have hb2 := (hb x (List.mem_cons_of_mem _ hx)).1
      rw [getD_set (by omega), if_neg]
      · exact hz x (List.mem_cons_of_mem _ hx)
      intro he
      exact hn.1 (List.mem_map.2 ⟨x, hx, by omega⟩)
    · rcases List.mem_or_eq_of_mem_set hy with hy | rfl
      · exact h y hy
      · have := hz t (List.mem_cons_self ..); omega

end Go.Proofs

namespace Go
namespace Sx

/-! ### Making room where there is no slice yet: cap(nil), append(nil, make(..)...) -/

end Sx
end Go

namespace Go
namespace Sx

/-! ### A list of slices, written out -/

def inVs (k : Nat) (e : Env) : List (Nat × Operand) → Bool
  | [] => false
  | p :: r => bif (ev e p.2).uses [k] then true else inVs k e r

def allVs (e : Env) (ps : List (Nat × Operand)) : List Nat → Bool
  | [] => true
  | k :: r => bif inVs k e ps then allVs e ps r else false

theorem inVs_get {k : Nat} {e : Env} : ∀ {ps : List (Nat × Operand)}, inVs k e ps = true → ∃ p ∈ ps, (ev e p.2).uses [k] = true
  | [], h => by cases h
  | p :: r, h => by
    simp only [inVs] at h
    cases hu : (ev e p.2).uses [k] with
    | true => exact ⟨p, List.mem_cons_self .., hu⟩
    | false =>
      rw [hu] at h
      obtain ⟨q, hq, h2⟩ := inVs_get h
      exact ⟨q, List.mem_cons_of_mem _ hq, h2⟩

theorem allVs_get {e : Env} {ps : List (Nat × Operand)} : ∀ {l : List Nat} {k : Nat}, allVs e ps l = true → k ∈ l → ∃ p ∈ ps, (ev e p.2).uses [k] = true
  | [], _, _, h => by cases h
  | j :: r, k, h, hk => by
    simp only [allVs] at h
    cases hu : inVs j e ps with
    | false => rw [hu] at h; cases h
    | true =>
      rw [hu] at h
      rcases List.mem_cons.1 hk with rfl | hk
      · exact inVs_get hu
      · exact allVs_get h hk

def bsNK (B : Tabs) (A : Arr) (e : Env) (t : TypeId) (len : Nat) (ps : List (Nat × Operand)) (nx : Nat) (K : Eff → Prop) : Prop :=
  bif allVs e ps A.nm then bsK B A e t len ps nx K else False

theorem bsN_step {cx : Cx} {B : Tabs} (hB : TabsOK cx.P B) {o : Oper} {e : Env} {H : Heap} {nx : Nat} {K : Eff → Prop} {t : TypeId} {len : Nat} {parts : Array (Nat × Operand)} (A : Arr)
    (ho : o.op = .buildSlice t len parts) (h : bsNK B A e t len parts.toList nx K) : ∃ F, CallOK cx o e H nx F ∧ K F := by
  have hmem : ∀ p ∈ parts.toList, p.2 ∈ o.op.operands.toList := fun p hp => by
    simp [ho, Op.operands]; exact ⟨p.1, by simpa using hp⟩
  obtain ⟨hall, h⟩ := bif_and h
  unfold bsK at h
  split at h
  · rename_i el s0 b0 z0 ht
    split at h
    · rename_i ti hti
      split at h
      · rename_i l hl
        obtain ⟨hb, ⟨hlen, hent⟩, hK⟩ := bif_and h
        simp only [Bool.and_eq_true] at hb
        have hb1 := Nat.eq_of_beq_eq_true hb.1
        have hb2 := Nat.le_of_ble_eq_true hb.2.1
        have hb3 := Nat.le_of_ble_eq_true hb.2.2
        refine ⟨_, ⟨loc_new (by simp [ho]) below_s ?_ ?_, fun j hj => by simp at hj; subst hj; simp⟩, hK⟩
        · intro n' hn' j hj
          obtain ⟨k, hk, hjk⟩ := anyMem_iff.1 (show anyMem [j] A.nm = true from hj)
          simp only [List.mem_singleton] at hjk
          subst hjk
          obtain ⟨p, hp, hu⟩ := allVs_get hall hk
          exact (reads_below (hmem p hp) hn') k hu
        · intro ρ a w hr hfr
          obtain ⟨i, z, hi, hz, hisz, hiby, hzz⟩ := ti_parts hB hti
          have hr' : ∀ p ∈ parts.toList, (ev e p.2).rel (upd ρ nx ⟨w.heap.size, 0, len⟩) (a.eval p.2) := by
            intro p hp
            refine SV.rel_upd' (reads_fit (hmem p hp) hr) ?_
            have hm := hmem p hp
            cases hx : p.2 with
            | tmp t => rw [hx] at hm; exact hfr t hm
            | const v => exact evC_uses v _
            | global g => simp [ev, SV.uses, SC.uses, SC.nms, anyMem]
            | func g => simp [ev, SV.uses, SC.uses, SC.nms, anyMem]
          have hinit : ((Array.range (len * i.size)).map (z.cells[· % z.cells.size]!)).size = len * ti.size := by simp [hisz]
          obtain ⟨out, hout, hrel⟩ := fillR_ok (ρ := upd ρ nx ⟨w.heap.size, 0, len⟩) (a := a) (e := e) (sz := ti.size) parts.toList (junks (len * ti.size)) ((Array.range (len * i.size)).map (z.cells[· % z.cells.size]!)) l
            (by have := @junks_rel (upd ρ nx ⟨w.heap.size, 0, len⟩) ((Array.range (len * i.size)).map (z.cells[· % z.cells.size]!)).toList; rwa [Array.length_toList, hinit] at this) hr' hl
          have hlo := relL_length hrel
          have hrelA := entL_rel0 hent hrel
          have hlA := relL_length hrelA
          have hencl : ∀ xs : List A.α, (encAll A xs).length = xs.length * A.sz := by
            intro xs; induction xs with
            | nil => simp [encAll]
            | cons x r ih => simp only [encAll, List.length_append, ih, A.hl, List.length_cons, Nat.add_mul]; omega
          refine ⟨.slice (some ⟨w.heap.size, 0, none⟩) len len, .cells out el (0, 0), len, ?_, ?_, satO_new_arr (by omega) ?_ ?_⟩
          · have hsz : (sizeOf el).run cx.P w = .ok i.size w := by simp [sizeOf, typeInfo, hi]
            have hle : ¬ (len * i.size > 2 ^ 24) := by rw [hisz]; omega
            have h2 : (Array.map (fun x => (x.fst, a.eval x.snd)) parts).toList = parts.toList.map fun p => (p.1, a.eval p.2) := by simp
            simp only [execOp, ho, Instr.buildSlice, Sem.run_bind, run_underlying (und_slice hB ht), Result.andThen_ok, hsz, if_neg hle, h2]
            by_cases h0 : len * i.size = 0
            · have hl0 : len = 0 := by
                rcases Nat.mul_eq_zero.1 h0 with h | h
                · exact h
                · omega
              subst hl0
              simp only [Nat.zero_mul, if_true, Sem.run_pure, Result.andThen_ok]
              simp only [Nat.zero_mul] at hout
              rw [← hisz] at hout
              have e0 : (Array.map (fun x => (#[] : Array Value)[x % (#[] : Array Value).size]!) (Array.range 0)) = (Array.map (fun x => z.cells[x % z.cells.size]!) (Array.range 0)) := by simp
              simp only [e0, hout, Sem.run_bind, newRow, newObj, Sem.run, Result.andThen_ok, Sem.run_pure]
              rfl
            · have hzr : (zeroValue el).run cx.P w = .ok z w := by simp [zeroValue, typeInfo, hi, hz]
              rw [← hisz] at hout
              simp only [if_neg h0, Sem.run_bind, hzr, Result.andThen_ok, Sem.run_pure, hout, newRow, newObj, Sem.run]
              rfl
          · simp only [SV.rel, SC.rel, upd_eq, Nat.sub_zero, Nat.zero_mul, Nat.zero_add]
            exact ⟨_, rfl, Nat.le_refl _, fun _ => by simp [adr, upd_eq]⟩
          · rw [hencl] at hlA; rw [← hlen]; simpa using hlA.symm
          · intro i' xx hxx j d hd
            obtain ⟨v, hv, hvr⟩ := relL_get hrelA (encAll_get hxx hd)
            exact ⟨v, by simpa using hv, hvr⟩
      · exact h.elim
    · exact h.elim
  · exact h.elim

end Sx
end Go

namespace Go.Proofs
open Go.Sx

end Go.Proofs

namespace Go.Proofs
open Go.Sx

end Go.Proofs

namespace Go.Proofs
open Go.Sx

end Go.Proofs

namespace Go.Proofs
open Go.Sx

end Go.Proofs

namespace Go.Proofs
open Go.Sx

/-! ### Boxes -/

end Go.Proofs

namespace Go.Proofs
open Go.Sx

theorem formedLong_t (form : List (Int × Int)) (vars : Int) (hl : 240 < form.length) : Triple Try.prog 91 [.c (.s 0 0 form.length 2), iv .i64 vars] [(0, false, .arr (aSpan form))] 1 (iv .i64 2) [] := by
  refine triple_of tB_ok Try.func91 rfl Try.call91 rfl ?_
  intro ρ w hH
  conv => whnf
  refine ⟨fun hc => ?_, fun hc => absurd (of_decide_eq_false (show decide ((240 : Int) < form.length) = false from hc)) (by omega)⟩
  conv => whnf
  repeat' (first | exact trivial | exact rfl | refine And.intro ?_ ?_ | ((conv => whnf); first | exact trivial | exact rfl | refine And.intro ?_ ?_ | omega))

theorem bestLong_t (bs : List (Int × Int)) (ls : List Lnk) (form : List (Int × Int)) (hfl : 240 < form.length) :
    Triple Try.prog 28 [.c (.p 0 0 0 0), .c (.s 3 0 form.length 2)] ((3, false, .arr (aSpan form)) :: netH bs ls) 4
      (.tup [.inr [.v (.int .i64 0), .v (.slice none 0 0), .v (.slice none 0 0)], .inl (.v (.int .i64 2))]) [] := by
  refine triple_of tB_ok Try.func28 rfl Try.call28 rfl ?_
  intro ρ w hH
  conv => whnf
  refine call_step (formedLong_t form bs.length (by omega)) rfl rfl ?_
  conv => whnf
  refine ⟨(by repeat' (first | exact trivial | exact rfl | refine And.intro ?_ ?_ | ((conv => whnf); first | exact trivial | exact rfl | refine And.intro ?_ ?_ | omega))), (by repeat' (first | exact trivial | exact rfl | refine And.intro ?_ ?_ | ((conv => whnf); first | exact trivial | exact rfl | refine And.intro ?_ ?_ | omega))), ?_⟩
  conv => whnf
  refine ⟨fun hc => ?_, fun hc => absurd hc (by simp)⟩
  conv => whnf
  repeat' (first | exact trivial | exact rfl | refine And.intro ?_ ?_ | ((conv => whnf); first | exact trivial | exact rfl | refine And.intro ?_ ?_ | omega))

theorem bestBad {bs : List (Int × Int)} {ls : List Lnk} (form : List (Int × Int)) (hb : bs.length ≤ 240) (hf : formF form bs.length ≠ 0) : 
    Triple Try.prog 28 [.c (.p 0 0 0 0), .c (.s 3 0 form.length 2)] ((3, false, .arr (aSpan form)) :: netH bs ls) 4
      (.tup [.inr [.v (.int .i64 0), .v (.slice none 0 0), .v (.slice none 0 0)], .inl (.v (.int .i64 (formF form bs.length)))]) [] := by
  by_cases hl : 240 < form.length
  · have e : formF form bs.length = 2 := by unfold formF; rw [if_pos hl]
    rw [e]
    exact bestLong_t bs ls form hl
  · exact BestErr_t bs ls form (by omega) (by omega) hf

end Go.Proofs

namespace Go.Proofs
open Go.Sx

end Go.Proofs

namespace Go.Proofs
open Go.Sx

end Go.Proofs

namespace Go.Proofs
open Go.Sx

end Go.Proofs

namespace Go.Proofs
open Go.Sx

theorem sysAt_t (pt : List Int) (i : Int) (hi : i < pt.length) : Triple Try.prog 152 [.c (.s 0 0 pt.length 1), iv .i64 i] [(0, false, .arr (aInt pt))] 1 (iv .i64 (atF pt i)) [] := by
  refine triple_of tB_ok Try.func152 rfl Try.call152 rfl ?_
  intro ρ w hH
  conv => whnf
  refine ⟨fun hc => ?_, fun hc => ?_⟩
  · have h : i < 0 := of_decide_eq_true (show decide (i < 0) = true from hc)
    conv => whnf
    refine ⟨?_, trivial⟩
    show (0 : Int) = atF pt i
    rw [atF, if_pos h]
  · have h : ¬ i < 0 := of_decide_eq_false (show decide (i < 0) = false from hc)
    obtain ⟨v, hv⟩ : ∃ v : Nat, i = (v : Int) := ⟨i.toNat, by omega⟩
    have hn : i.toNat < pt.length := by omega
    have hvl : v < pt.length := by omega
    conv => whnf
    refine ⟨v, hv, hvl, hvl, ?_⟩
    conv => whnf
    refine ⟨?_, trivial⟩
    show pt[v] = atF pt i
    rw [atF, if_neg h, getD_of hn]
    congr 1
    omega

theorem u64_wrap (x : Int) : IntKind.u64.wrap x = x % 18446744073709551616 := IntKind.wrap_u64 x

def holdsF (pt : List Int) (l : Lnk) : Bool := decide (atF pt l.t - atF pt l.f ≤ l.m)

theorem holds_t (l : Lnk) (pt : List Int) (hl : ArcOK pt.length l) (hp : ∀ x ∈ pt, -9223372036854775808 ≤ x ∧ x ≤ 9223372036854775807) :
    Triple Try.prog 145 [svL l, .c (.s 0 0 pt.length 1)] [(0, false, .arr (aInt pt))] 1 (bv (holdsF pt l)) [] := by
  obtain ⟨o1, o2, o3⟩ := hl
  have hb : ∀ i : Int, i < pt.length → -9223372036854775808 ≤ atF pt i ∧ atF pt i ≤ 9223372036854775807 := fun i hi => by
    unfold atF
    split
    · omega
    · exact hp _ (getD_mem (by omega))
  have ha1 := hb l.f o1.2
  have ha2 := hb l.t o2.2
  have hR : holdsF pt l = decide (atF pt l.t - atF pt l.f ≤ l.m) := rfl
  have t1 := sysAt_t pt l.f o1.2
  have t2 := sysAt_t pt l.t o2.2
  generalize holdsF pt l = R at *
  refine triple_of tB_ok Try.func145 rfl Try.call145 rfl ?_
  intro ρ w hH
  conv => whnf
  refine call_step t1 rfl rfl ?_
  conv => whnf
  refine ⟨(by repeat' (first | exact trivial | exact rfl | refine And.intro ?_ ?_ | ((conv => whnf); first | exact trivial | exact rfl | refine And.intro ?_ ?_ | omega))), (by repeat' (first | exact trivial | exact rfl | refine And.intro ?_ ?_ | ((conv => whnf); first | exact trivial | exact rfl | refine And.intro ?_ ?_ | omega))), ?_⟩
  conv => whnf
  refine call_step t2 rfl rfl ?_
  conv => whnf
  refine ⟨(by repeat' (first | exact trivial | exact rfl | refine And.intro ?_ ?_ | ((conv => whnf); first | exact trivial | exact rfl | refine And.intro ?_ ?_ | omega))), (by repeat' (first | exact trivial | exact rfl | refine And.intro ?_ ?_ | ((conv => whnf); first | exact trivial | exact rfl | refine And.intro ?_ ?_ | omega))), ?_⟩
  conv => whnf
  generalize atF pt l.f = a at *
  generalize atF pt l.t = b at *
  have w64 := u64_wrap
  obtain ⟨ua, hua⟩ : ∃ z, z = IntKind.u64.wrap a := ⟨_, rfl⟩
  obtain ⟨ub, hub⟩ : ∃ z, z = IntKind.u64.wrap b := ⟨_, rfl⟩
  have hua2 := hua
  have hub2 := hub
  rw [w64] at hua2 hub2
  refine ⟨fun hc => ?_, fun hc => ?_⟩
  · have c1 : b ≤ a := of_decide_eq_true (show decide (b ≤ a) = true from hc)
    conv => whnf
    refine ⟨fun hc => ?_, fun hc => ?_⟩
    · have c2 : 0 ≤ l.m := of_decide_eq_true (show decide (0 ≤ l.m) = true from hc)
      conv => whnf
      refine ⟨?_, trivial⟩
      show true = R
      rw [hR, eq_comm, decide_eq_true_eq]
      omega
    have c2 : ¬ 0 ≤ l.m := of_decide_eq_false (show decide (0 ≤ l.m) = false from hc)
    conv => whnf
    refine ⟨ua, hua.symm, ?_⟩
    conv => whnf
    refine ⟨ub, hub.symm, ?_⟩
    conv => whnf
    refine ⟨a - b, by rw [w64]; omega, ?_⟩
    conv => whnf
    refine ⟨-l.m, (congrArg IntKind.i64.wrap (show (0 : Int) - l.m = -l.m by omega)).trans (wrapId ⟨by omega, by omega⟩), ?_⟩
    conv => whnf
    refine ⟨-l.m, by rw [w64]; omega, ?_⟩
    conv => whnf
    refine ⟨?_, trivial⟩
    show decide (-l.m ≤ a - b) = R
    rw [hR]
    exact decide_eq_decide.2 (by omega)
  · have c1 : ¬ b ≤ a := of_decide_eq_false (show decide (b ≤ a) = false from hc)
    conv => whnf
    refine ⟨fun hc => ?_, fun hc => ?_⟩
    · have c2 : 0 ≤ l.m := of_decide_eq_true (show decide (0 ≤ l.m) = true from hc)
      conv => whnf
      refine ⟨ub, hub.symm, ?_⟩
      conv => whnf
      refine ⟨ua, hua.symm, ?_⟩
      conv => whnf
      refine ⟨b - a, by rw [w64]; omega, ?_⟩
      conv => whnf
      refine ⟨l.m, by rw [w64]; omega, ?_⟩
      conv => whnf
      refine ⟨?_, trivial⟩
      show decide (b - a ≤ l.m) = R
      exact hR.symm
    · have c2 : ¬ 0 ≤ l.m := of_decide_eq_false (show decide (0 ≤ l.m) = false from hc)
      conv => whnf
      refine ⟨?_, trivial⟩
      show false = R
      rw [hR, eq_comm, decide_eq_false_iff_not]
      omega

end Go.Proofs

