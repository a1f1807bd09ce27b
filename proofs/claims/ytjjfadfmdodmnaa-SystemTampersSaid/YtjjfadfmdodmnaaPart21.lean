/-
  A part of the proof that a law of dryweightlaw03 answers true: lemmas of a symbolic walk, plain functions, or contracts of the functions walked (Xx, Xy, Xz). Conditions: none.
-/
import Derived.Test.YtjjfadfmdodmnaaPart20
import Derived.Test.YtjjfadfmdodmnaaPart19
set_option maxRecDepth 100000
set_option linter.unusedVariables false
set_option linter.unusedSimpArgs false
namespace Go.Proofs
open Go.Sx

theorem value_sys_t (form : List (Int × Int)) (pt : List Int) (hfl : form.length ≤ 1000) (hf : ∀ t ∈ form, (0 ≤ t.1 ∧ t.1 < pt.length) ∧ (-1024 ≤ t.2 ∧ t.2 ≤ 1024)) (hp : ∀ x ∈ pt, -33554432 ≤ x ∧ x ≤ 33554432) :
    Triple Try.prog 116 [.c (.s 0 0 form.length 2), .c (.s 1 0 pt.length 1)] [(0, false, .arr (aSpan form)), (1, false, .arr (aInt pt))] 2 (iv .i64 (valM form pt)) [] := by
  refine triple_of tB_ok Try.func116 rfl Try.call116 rfl ?_
  intro ρ w hH
  conv => whnf
  refine loop_step tB_ok (G := Nat × Int) 0 [] (fun g => [(10, iv .i64 g.1), (5, iv .i64 g.2)]) (fun _ => []) (fun g => g.1 ≤ form.length ∧ g.2 = valM (form.take g.1) pt ∧ (-(34359738368 * (g.1 : Int)) ≤ g.2 ∧ g.2 ≤ 34359738368 * (g.1 : Int))) (fun g => form.length - g.1) ?_
  conv => whnf
  refine ⟨⟨(0, 0), ⟨Nat.zero_le _, rfl, ⟨by simp, by simp⟩⟩, ?_⟩, ?_⟩
  · conv => whnf
    repeat' (first | exact trivial | exact rfl | refine And.intro ?_ ?_ | ((conv => whnf); first | exact trivial | exact rfl | refine And.intro ?_ ?_ | omega))
  rintro ⟨i, s⟩ ⟨hi, hs, hb⟩ ρ1 t1 hρ1
  have hi : i ≤ form.length := hi
  have hs : s = valM (form.take i) pt := hs
  have hb : -(34359738368 * (i : Int)) ≤ s ∧ s ≤ 34359738368 * (i : Int) := hb
  dsimp only
  conv => whnf
  refine ⟨fun hc => ?_, fun hc => ?_⟩
  · have hlt : i < form.length := by simpa using hc
    obtain ⟨⟨hv0, hv1⟩, hc0, hc1⟩ := hf form[i] (List.getElem_mem hlt)
    obtain ⟨v, hve⟩ : ∃ v : Nat, form[i].1 = (v : Int) := ⟨form[i].1.toNat, by omega⟩
    have hvl : v < pt.length := by omega
    have hpv := hp pt[v] (List.getElem_mem hvl)
    obtain ⟨z, hz⟩ : ∃ z, z = form[i].2 * pt[v] := ⟨_, rfl⟩
    have hzb := mul_bd (C := 1024) (D := 33554432) ⟨hc0, hc1⟩ hpv
    rw [← hz] at hzb
    conv => whnf
    refine ⟨i, rfl, hlt, hlt, ?_⟩
    conv => whnf
    refine ⟨v, hve, hvl, hvl, ?_⟩
    conv => whnf
    refine ⟨z, (congrArg IntKind.i64.wrap hz.symm).trans (wrapId ⟨by omega, by omega⟩), ?_⟩
    conv => whnf
    refine ⟨s + z, wrapId (z := s + z) ⟨by omega, by omega⟩, ?_⟩
    conv => whnf
    refine ⟨(i : Int) + 1, wrapId (z := (i : Int) + 1) ⟨by omega, by omega⟩, ?_⟩
    refine ⟨(i + 1, s + z), ⟨hlt, ?_, ⟨by show -(34359738368 * ((i + 1 : Nat) : Int)) ≤ s + z; omega, by show s + z ≤ 34359738368 * ((i + 1 : Nat) : Int); omega⟩⟩, by show form.length - (i + 1) < form.length - i; omega, ?_⟩
    · show s + z = valM (form.take (i + 1)) pt
      rw [take_snoc hlt, valM_snoc, ← hs, hz, hve, Int.toNat_natCast, getD_of hvl]
    conv => whnf
    refine ⟨rfl, ?_⟩
    conv => whnf
    repeat' (first | exact trivial | exact rfl | refine And.intro ?_ ?_ | ((conv => whnf); first | exact trivial | exact rfl | refine And.intro ?_ ?_ | omega))
  have hie : i = form.length := by simp at hc; omega
  subst hie
  rw [List.take_length] at hs
  rw [← hs]
  conv => whnf
  repeat' (first | exact trivial | exact rfl | refine And.intro ?_ ?_ | ((conv => whnf); first | exact trivial | exact rfl | refine And.intro ?_ ?_ | omega))

theorem coef2_t (vars : Nat) (a b : List (Int × Int)) (p q : Int) (hv : vars ≤ 100000) (ha : a.length ≤ 240) (hb : b.length ≤ 240) (hfa : FormB vars p a) (hfb : FormB vars q b) :
    Triple Try.prog 93 [iv .i64 vars, .c (.s 0 0 a.length 2), iv .i64 p, .c (.s 1 0 b.length 2), iv .i64 q] [(0, false, .arr (aSpan a)), (1, false, .arr (aSpan b))] 2
      (.c (.s 2 0 vars 1)) [(2, true, .arr (aInt (coefF q b (coefF p a (List.replicate vars 0)))))] := by
  have hzb : ∀ y ∈ List.replicate vars (0 : Int), -0 ≤ y ∧ y ≤ 0 := fun y hy => by obtain ⟨_, rfl⟩ := List.mem_replicate.1 hy; omega
  refine triple_of tB_ok Try.func93 rfl Try.call93 rfl ?_
  intro ρ w hH
  conv => whnf
  refine mks_step tB_ok (aInt (List.replicate vars 0)) rfl rfl ?_
  conv => whnf
  refine ⟨vars, ⟨List.length_replicate, rfl, rfl, by show vars * 9 ≤ _; omega, fun x hx => ?_⟩, ?_⟩
  · obtain ⟨_, rfl⟩ := List.mem_replicate.1 hx
    repeat' (first | exact trivial | exact rfl | refine And.intro ?_ ?_ | ((conv => whnf); first | exact trivial | exact rfl | refine And.intro ?_ ?_ | omega))
  conv => whnf
  refine loop_step tB_ok (G := Nat × List Int) 0 [] (fun e => [(20, iv .i64 e.1)]) (fun e => [(2, true, .arr (aInt e.2))]) (fun e => e.1 ≤ a.length ∧ e.2.length = vars ∧ (∀ y ∈ e.2, -((((e.1 : Nat) : Int) + 0) * 4503599627370496) ≤ y ∧ y ≤ (((e.1 : Nat) : Int) + 0) * 4503599627370496) ∧ coefF (p) a (List.replicate vars 0) = coefF (p) (a.drop e.1) e.2) (fun e => a.length - e.1) ?_
  conv => whnf
  refine ⟨⟨(0, (List.replicate vars 0)), ⟨Nat.zero_le _, List.length_replicate, fun y hy => by have := hzb y hy; show -((((0 : Nat) : Int) + 0) * 4503599627370496) ≤ y ∧ y ≤ (((0 : Nat) : Int) + 0) * 4503599627370496; omega, rfl⟩, ?_⟩, ?_⟩
  · conv => whnf
    repeat' (first | exact trivial | exact rfl | refine And.intro ?_ ?_ | ((conv => whnf); first | exact trivial | exact rfl | refine And.intro ?_ ?_ | omega))
  rintro ⟨j, out⟩ ⟨hj, outl, outb, outg⟩ ρ20 t20 hρ20
  have hj : j ≤ a.length := hj
  have outl : out.length = vars := outl
  have outb : ∀ y ∈ out, -(((j : Int) + 0) * 4503599627370496) ≤ y ∧ y ≤ ((j : Int) + 0) * 4503599627370496 := outb
  have outg : coefF (p) a (List.replicate vars 0) = coefF (p) (a.drop j) out := outg
  dsimp only
  conv => whnf
  refine ⟨fun hc => ?_, fun hc => ?_⟩
  · have hlt : j < a.length := by simpa using hc
    obtain ⟨⟨hv0, hv1⟩, hb0, hb1⟩ := hfa a[j] (List.getElem_mem hlt)
    obtain ⟨v, hve⟩ : ∃ v : Nat, a[j].1 = (v : Int) := ⟨a[j].1.toNat, by omega⟩
    have hvl : v < out.length := by omega
    have hov := outb _ (List.getElem_mem hvl)
    obtain ⟨z, hz⟩ : ∃ z, z = p * a[j].2 := ⟨_, rfl⟩
    have hzp : (p) * a[j].2 = z := by first | exact hz.symm | rw [hz, Int.neg_mul]
    rw [hzp] at hb0 hb1
    obtain ⟨u, hu⟩ : ∃ u, u = out[v] + z := ⟨_, rfl⟩
    rw [List.drop_eq_getElem_cons hlt] at outg
    have hst : coefF (p) (a[j] :: a.drop (j + 1)) out = coefF (p) (a.drop (j + 1)) (out.set v u) := by
      simp only [coefF]
      rw [show a[j].1.toNat = v from by omega, getD_of hvl, hzp, show out[v] + z = u from by omega]
    conv => whnf
    refine ⟨j, rfl, hlt, hlt, ?_⟩
    conv => whnf
    refine ⟨v, hve, by show v < vars; omega, hvl, ?_⟩
    conv => whnf
    refine ⟨z, (congrArg IntKind.i64.wrap hz.symm).trans (wrapId ⟨by omega, by omega⟩), ?_⟩
    conv => whnf
    refine ⟨u, (congrArg IntKind.i64.wrap (show out[v] + z = u from hu.symm)).trans (wrapId ⟨by omega, by omega⟩), ?_⟩
    conv => whnf
    refine ⟨v, hve, by show v < vars; omega, hvl, u, rfl, ?_⟩
    conv => whnf
    refine ⟨(j : Int) + 1, wrapId (z := (j : Int) + 1) ⟨by omega, by omega⟩, ?_⟩
    refine ⟨(j + 1, out.set v u), ⟨hlt, by show (out.set v u).length = vars; rw [List.length_set]; exact outl, ?_, by show coefF (p) a (List.replicate vars 0) = coefF (p) (a.drop (j + 1)) (out.set v u); rw [outg, hst]⟩, by show a.length - (j + 1) < a.length - j; omega, ?_⟩
    · intro y hy
      show -((((j + 1 : Nat) : Int) + 0) * 4503599627370496) ≤ y ∧ y ≤ (((j + 1 : Nat) : Int) + 0) * 4503599627370496
      rcases List.mem_or_eq_of_mem_set hy with hy | rfl
      · have := outb y hy; omega
      · omega
    conv => whnf
    refine ⟨rfl, ?_⟩
    conv => whnf
    repeat' (first | exact trivial | exact rfl | refine And.intro ?_ ?_ | ((conv => whnf); first | exact trivial | exact rfl | refine And.intro ?_ ?_ | omega))
  have hje : j = a.length := by simp at hc; omega
  rw [hje] at outb
  rw [hje, List.drop_length] at outg
  have outg : coefF (p) a (List.replicate vars 0) = out := outg
  rw [hje]
  clear hje hc hj
  conv => whnf
  refine loop_step tB_ok (G := Nat × List Int) 0 [] (fun e => [(38, iv .i64 e.1)]) (fun e => [(2, true, .arr (aInt e.2))]) (fun e => e.1 ≤ b.length ∧ e.2.length = vars ∧ (∀ y ∈ e.2, -((((e.1 : Nat) : Int) + (a.length : Int)) * 4503599627370496) ≤ y ∧ y ≤ (((e.1 : Nat) : Int) + (a.length : Int)) * 4503599627370496) ∧ coefF (q) b out = coefF (q) (b.drop e.1) e.2) (fun e => b.length - e.1) ?_
  conv => whnf
  refine ⟨⟨(0, out), ⟨Nat.zero_le _, outl, fun y hy => by have := outb y hy; show -((((0 : Nat) : Int) + (a.length : Int)) * 4503599627370496) ≤ y ∧ y ≤ (((0 : Nat) : Int) + (a.length : Int)) * 4503599627370496; omega, rfl⟩, ?_⟩, ?_⟩
  · conv => whnf
    repeat' (first | exact trivial | exact rfl | refine And.intro ?_ ?_ | ((conv => whnf); first | exact trivial | exact rfl | refine And.intro ?_ ?_ | omega))
  rintro ⟨j, sum⟩ ⟨hj, suml, sumb, sumg⟩ ρ38 t38 hρ38
  have hj : j ≤ b.length := hj
  have suml : sum.length = vars := suml
  have sumb : ∀ y ∈ sum, -(((j : Int) + (a.length : Int)) * 4503599627370496) ≤ y ∧ y ≤ ((j : Int) + (a.length : Int)) * 4503599627370496 := sumb
  have sumg : coefF (q) b out = coefF (q) (b.drop j) sum := sumg
  dsimp only
  conv => whnf
  refine ⟨fun hc => ?_, fun hc => ?_⟩
  · have hlt : j < b.length := by simpa using hc
    obtain ⟨⟨hv0, hv1⟩, hb0, hb1⟩ := hfb b[j] (List.getElem_mem hlt)
    obtain ⟨v, hve⟩ : ∃ v : Nat, b[j].1 = (v : Int) := ⟨b[j].1.toNat, by omega⟩
    have hvl : v < sum.length := by omega
    have hov := sumb _ (List.getElem_mem hvl)
    obtain ⟨z, hz⟩ : ∃ z, z = q * b[j].2 := ⟨_, rfl⟩
    have hzp : (q) * b[j].2 = z := by first | exact hz.symm | rw [hz, Int.neg_mul]
    rw [hzp] at hb0 hb1
    obtain ⟨u, hu⟩ : ∃ u, u = sum[v] + z := ⟨_, rfl⟩
    rw [List.drop_eq_getElem_cons hlt] at sumg
    have hst : coefF (q) (b[j] :: b.drop (j + 1)) sum = coefF (q) (b.drop (j + 1)) (sum.set v u) := by
      simp only [coefF]
      rw [show b[j].1.toNat = v from by omega, getD_of hvl, hzp, show sum[v] + z = u from by omega]
    conv => whnf
    refine ⟨j, rfl, hlt, hlt, ?_⟩
    conv => whnf
    refine ⟨v, hve, by show v < vars; omega, hvl, ?_⟩
    conv => whnf
    refine ⟨z, (congrArg IntKind.i64.wrap hz.symm).trans (wrapId ⟨by omega, by omega⟩), ?_⟩
    conv => whnf
    refine ⟨u, (congrArg IntKind.i64.wrap (show sum[v] + z = u from hu.symm)).trans (wrapId ⟨by omega, by omega⟩), ?_⟩
    conv => whnf
    refine ⟨v, hve, by show v < vars; omega, hvl, u, rfl, ?_⟩
    conv => whnf
    refine ⟨(j : Int) + 1, wrapId (z := (j : Int) + 1) ⟨by omega, by omega⟩, ?_⟩
    refine ⟨(j + 1, sum.set v u), ⟨hlt, by show (sum.set v u).length = vars; rw [List.length_set]; exact suml, ?_, by show coefF (q) b out = coefF (q) (b.drop (j + 1)) (sum.set v u); rw [sumg, hst]⟩, by show b.length - (j + 1) < b.length - j; omega, ?_⟩
    · intro y hy
      show -((((j + 1 : Nat) : Int) + (a.length : Int)) * 4503599627370496) ≤ y ∧ y ≤ (((j + 1 : Nat) : Int) + (a.length : Int)) * 4503599627370496
      rcases List.mem_or_eq_of_mem_set hy with hy | rfl
      · have := sumb y hy; omega
      · omega
    conv => whnf
    refine ⟨rfl, ?_⟩
    conv => whnf
    repeat' (first | exact trivial | exact rfl | refine And.intro ?_ ?_ | ((conv => whnf); first | exact trivial | exact rfl | refine And.intro ?_ ?_ | omega))
  have hje : j = b.length := by simp at hc; omega
  rw [hje] at sumb
  rw [hje, List.drop_length] at sumg
  have sumg : coefF (q) b out = sum := sumg
  rw [hje]
  clear hje hc hj
  conv => whnf
  rw [outg, sumg]
  repeat' (first | exact trivial | exact rfl | refine And.intro ?_ ?_ | ((conv => whnf); first | exact trivial | exact rfl | refine And.intro ?_ ?_ | omega))

theorem refCoef2_t (bs : List (Int × Int)) (ls : List Lnk) (a b : List (Int × Int)) (p q : Int) (hv : bs.length ≤ 100000) (ha : a.length ≤ 240) (hb : b.length ≤ 240) (hfa : FormB bs.length p a) (hfb : FormB bs.length (-q) b) :
    Triple Try.prog 95 [sysA bs.length ls.length, iv .i64 p, .c (.s 2 0 a.length 2), iv .i64 q, .c (.s 3 0 b.length 2)] ((2, false, .arr (aSpan a)) :: (3, false, .arr (aSpan b)) :: sysH bs ls) 4
      (.c (.s 4 0 bs.length 1)) [(4, true, .arr (aInt (coefF (-q) b (coefF p a (List.replicate bs.length 0)))))] := by
  refine triple_of tB_ok Try.func95 rfl Try.call95 rfl ?_
  intro ρ w hH
  conv => whnf
  refine mks_step tB_ok (aInt (List.replicate bs.length 0)) rfl rfl ?_
  conv => whnf
  refine ⟨bs.length, ⟨List.length_replicate, rfl, rfl, by show bs.length * 9 ≤ _; omega, fun x hx => ?_⟩, ?_⟩
  · obtain ⟨_, rfl⟩ := List.mem_replicate.1 hx
    repeat' (first | exact trivial | exact rfl | refine And.intro ?_ ?_ | ((conv => whnf); first | exact trivial | exact rfl | refine And.intro ?_ ?_ | omega))
  generalize hvars : bs.length = vars at *
  have hzb : ∀ y ∈ List.replicate vars (0 : Int), -0 ≤ y ∧ y ≤ 0 := fun y hy => by obtain ⟨_, rfl⟩ := List.mem_replicate.1 hy; omega
  conv => whnf
  refine loop_step tB_ok (G := Nat × List Int) 0 [] (fun e => [(12, iv .i64 e.1)]) (fun e => [(5, true, .arr (aInt e.2))]) (fun e => e.1 ≤ a.length ∧ e.2.length = vars ∧ (∀ y ∈ e.2, -((((e.1 : Nat) : Int) + 0) * 4503599627370496) ≤ y ∧ y ≤ (((e.1 : Nat) : Int) + 0) * 4503599627370496) ∧ coefF (p) a (List.replicate vars 0) = coefF (p) (a.drop e.1) e.2) (fun e => a.length - e.1) ?_
  conv => whnf
  refine ⟨⟨(0, (List.replicate vars 0)), ⟨Nat.zero_le _, List.length_replicate, fun y hy => by have := hzb y hy; show -((((0 : Nat) : Int) + 0) * 4503599627370496) ≤ y ∧ y ≤ (((0 : Nat) : Int) + 0) * 4503599627370496; omega, rfl⟩, ?_⟩, ?_⟩
  · conv => whnf
    repeat' (first | exact trivial | exact rfl | refine And.intro ?_ ?_ | ((conv => whnf); first | exact trivial | exact rfl | refine And.intro ?_ ?_ | omega))
  rintro ⟨j, out⟩ ⟨hj, outl, outb, outg⟩ ρ12 t12 hρ12
  have hj : j ≤ a.length := hj
  have outl : out.length = vars := outl
  have outb : ∀ y ∈ out, -(((j : Int) + 0) * 4503599627370496) ≤ y ∧ y ≤ ((j : Int) + 0) * 4503599627370496 := outb
  have outg : coefF (p) a (List.replicate vars 0) = coefF (p) (a.drop j) out := outg
  dsimp only
  conv => whnf
  refine ⟨fun hc => ?_, fun hc => ?_⟩
  · have hlt : j < a.length := by simpa using hc
    obtain ⟨⟨hv0, hv1⟩, hb0, hb1⟩ := hfa a[j] (List.getElem_mem hlt)
    obtain ⟨v, hve⟩ : ∃ v : Nat, a[j].1 = (v : Int) := ⟨a[j].1.toNat, by omega⟩
    have hvl : v < out.length := by omega
    have hov := outb _ (List.getElem_mem hvl)
    obtain ⟨z, hz⟩ : ∃ z, z = p * a[j].2 := ⟨_, rfl⟩
    have hzp : (p) * a[j].2 = z := by first | exact hz.symm | rw [hz, Int.neg_mul]
    rw [hzp] at hb0 hb1
    obtain ⟨u, hu⟩ : ∃ u, u = out[v] + z := ⟨_, rfl⟩
    rw [List.drop_eq_getElem_cons hlt] at outg
    have hst : coefF (p) (a[j] :: a.drop (j + 1)) out = coefF (p) (a.drop (j + 1)) (out.set v u) := by
      simp only [coefF]
      rw [show a[j].1.toNat = v from by omega, getD_of hvl, hzp, show out[v] + z = u from by omega]
    conv => whnf
    refine ⟨j, rfl, hlt, hlt, ?_⟩
    conv => whnf
    refine ⟨j, rfl, hlt, hlt, ?_⟩
    conv => whnf
    refine ⟨v, hve, by show v < vars; omega, hvl, ?_⟩
    conv => whnf
    refine ⟨j, rfl, hlt, hlt, ?_⟩
    conv => whnf
    refine ⟨z, (congrArg IntKind.i64.wrap hz.symm).trans (wrapId ⟨by omega, by omega⟩), ?_⟩
    conv => whnf
    refine ⟨u, (congrArg IntKind.i64.wrap (show out[v] + z = u from hu.symm)).trans (wrapId ⟨by omega, by omega⟩), ?_⟩
    conv => whnf
    refine ⟨v, hve, by show v < vars; omega, hvl, u, rfl, ?_⟩
    conv => whnf
    refine ⟨(j : Int) + 1, wrapId (z := (j : Int) + 1) ⟨by omega, by omega⟩, ?_⟩
    refine ⟨(j + 1, out.set v u), ⟨hlt, by show (out.set v u).length = vars; rw [List.length_set]; exact outl, ?_, by show coefF (p) a (List.replicate vars 0) = coefF (p) (a.drop (j + 1)) (out.set v u); rw [outg, hst]⟩, by show a.length - (j + 1) < a.length - j; omega, ?_⟩
    · intro y hy
      show -((((j + 1 : Nat) : Int) + 0) * 4503599627370496) ≤ y ∧ y ≤ (((j + 1 : Nat) : Int) + 0) * 4503599627370496
      rcases List.mem_or_eq_of_mem_set hy with hy | rfl
      · have := outb y hy; omega
      · omega
    conv => whnf
    refine ⟨rfl, ?_⟩
    conv => whnf
    repeat' (first | exact trivial | exact rfl | refine And.intro ?_ ?_ | ((conv => whnf); first | exact trivial | exact rfl | refine And.intro ?_ ?_ | omega))
  have hje : j = a.length := by simp at hc; omega
  rw [hje] at outb
  rw [hje, List.drop_length] at outg
  have outg : coefF (p) a (List.replicate vars 0) = out := outg
  rw [hje]
  clear hje hc hj
  conv => whnf
  refine loop_step tB_ok (G := Nat × List Int) 0 [] (fun e => [(13, iv .i64 e.1)]) (fun e => [(5, true, .arr (aInt e.2))]) (fun e => e.1 ≤ b.length ∧ e.2.length = vars ∧ (∀ y ∈ e.2, -((((e.1 : Nat) : Int) + (a.length : Int)) * 4503599627370496) ≤ y ∧ y ≤ (((e.1 : Nat) : Int) + (a.length : Int)) * 4503599627370496) ∧ coefF (-q) b out = coefF (-q) (b.drop e.1) e.2) (fun e => b.length - e.1) ?_
  conv => whnf
  refine ⟨⟨(0, out), ⟨Nat.zero_le _, outl, fun y hy => by have := outb y hy; show -((((0 : Nat) : Int) + (a.length : Int)) * 4503599627370496) ≤ y ∧ y ≤ (((0 : Nat) : Int) + (a.length : Int)) * 4503599627370496; omega, rfl⟩, ?_⟩, ?_⟩
  · conv => whnf
    repeat' (first | exact trivial | exact rfl | refine And.intro ?_ ?_ | ((conv => whnf); first | exact trivial | exact rfl | refine And.intro ?_ ?_ | omega))
  rintro ⟨j, sum⟩ ⟨hj, suml, sumb, sumg⟩ ρ13 t13 hρ13
  have hj : j ≤ b.length := hj
  have suml : sum.length = vars := suml
  have sumb : ∀ y ∈ sum, -(((j : Int) + (a.length : Int)) * 4503599627370496) ≤ y ∧ y ≤ ((j : Int) + (a.length : Int)) * 4503599627370496 := sumb
  have sumg : coefF (-q) b out = coefF (-q) (b.drop j) sum := sumg
  dsimp only
  conv => whnf
  refine ⟨fun hc => ?_, fun hc => ?_⟩
  · have hlt : j < b.length := by simpa using hc
    obtain ⟨⟨hv0, hv1⟩, hb0, hb1⟩ := hfb b[j] (List.getElem_mem hlt)
    obtain ⟨v, hve⟩ : ∃ v : Nat, b[j].1 = (v : Int) := ⟨b[j].1.toNat, by omega⟩
    have hvl : v < sum.length := by omega
    have hov := sumb _ (List.getElem_mem hvl)
    obtain ⟨z, hz⟩ : ∃ z, z = q * b[j].2 := ⟨_, rfl⟩
    have hzp : (-q) * b[j].2 = -z := by first | exact hz.symm | rw [hz, Int.neg_mul]
    rw [hzp] at hb0 hb1
    obtain ⟨u, hu⟩ : ∃ u, u = sum[v] - z := ⟨_, rfl⟩
    rw [List.drop_eq_getElem_cons hlt] at sumg
    have hst : coefF (-q) (b[j] :: b.drop (j + 1)) sum = coefF (-q) (b.drop (j + 1)) (sum.set v u) := by
      simp only [coefF]
      rw [show b[j].1.toNat = v from by omega, getD_of hvl, hzp, show sum[v] + -z = u from by omega]
    conv => whnf
    refine ⟨j, rfl, hlt, hlt, ?_⟩
    conv => whnf
    refine ⟨j, rfl, hlt, hlt, ?_⟩
    conv => whnf
    refine ⟨v, hve, by show v < vars; omega, hvl, ?_⟩
    conv => whnf
    refine ⟨j, rfl, hlt, hlt, ?_⟩
    conv => whnf
    refine ⟨z, (congrArg IntKind.i64.wrap hz.symm).trans (wrapId ⟨by omega, by omega⟩), ?_⟩
    conv => whnf
    refine ⟨u, (congrArg IntKind.i64.wrap (show sum[v] - z = u from hu.symm)).trans (wrapId ⟨by omega, by omega⟩), ?_⟩
    conv => whnf
    refine ⟨v, hve, by show v < vars; omega, hvl, u, rfl, ?_⟩
    conv => whnf
    refine ⟨(j : Int) + 1, wrapId (z := (j : Int) + 1) ⟨by omega, by omega⟩, ?_⟩
    refine ⟨(j + 1, sum.set v u), ⟨hlt, by show (sum.set v u).length = vars; rw [List.length_set]; exact suml, ?_, by show coefF (-q) b out = coefF (-q) (b.drop (j + 1)) (sum.set v u); rw [sumg, hst]⟩, by show b.length - (j + 1) < b.length - j; omega, ?_⟩
    · intro y hy
      show -((((j + 1 : Nat) : Int) + (a.length : Int)) * 4503599627370496) ≤ y ∧ y ≤ (((j + 1 : Nat) : Int) + (a.length : Int)) * 4503599627370496
      rcases List.mem_or_eq_of_mem_set hy with hy | rfl
      · have := sumb y hy; omega
      · omega
    conv => whnf
    refine ⟨rfl, ?_⟩
    conv => whnf
    repeat' (first | exact trivial | exact rfl | refine And.intro ?_ ?_ | ((conv => whnf); first | exact trivial | exact rfl | refine And.intro ?_ ?_ | omega))
  have hje : j = b.length := by simp at hc; omega
  rw [hje] at sumb
  rw [hje, List.drop_length] at sumg
  have sumg : coefF (-q) b out = sum := sumg
  rw [hje]
  clear hje hc hj
  conv => whnf
  rw [outg, sumg]
  repeat' (first | exact trivial | exact rfl | refine And.intro ?_ ?_ | ((conv => whnf); first | exact trivial | exact rfl | refine And.intro ?_ ?_ | omega))

end Go.Proofs

namespace Go.Proofs
open Go.Sx

def partT (bs : List (Int × Int)) (t : Int × Int) : Bool := decide (-8 ≤ t.2 ∧ t.2 ≤ 8) && decide (0 ≤ (bs.getD t.1.toNat (0, 0)).1 ∧ (bs.getD t.1.toNat (0, 0)).2 ≤ 1048576)

def partB (bs : List (Int × Int)) (form : List (Int × Int)) : Bool := decide (form.length ≤ 16) && form.all (partT bs)

def formsF (bs num den : List (Int × Int)) : Int :=
  if formF num bs.length ≠ 0 then formF num bs.length else if formF den bs.length ≠ 0 then formF den bs.length else if (partB bs num && partB bs den) = true then 0 else 1

theorem partT_iff {bs : List (Int × Int)} {t : Int × Int} {v : Nat} (hv : v < bs.length) (ht : t.1 = (v : Int)) : partT bs t = true ↔ (-8 ≤ t.2 ∧ t.2 ≤ 8) ∧ 0 ≤ bs[v].1 ∧ bs[v].2 ≤ 1048576 := by
  unfold partT
  rw [ht, Int.toNat_natCast, List.getD_eq_getElem?_getD, List.getElem?_eq_getElem hv]
  simp

theorem partB_iff {bs form : List (Int × Int)} : partB bs form = true ↔ form.length ≤ 16 ∧ ∀ t ∈ form, partT bs t = true := by simp [partB]

theorem formsF_ok {bs num den : List (Int × Int)} (h : formsF bs num den = 0) : formF num bs.length = 0 ∧ formF den bs.length = 0 ∧ partB bs num = true ∧ partB bs den = true := by
  unfold formsF at h
  by_cases h1 : formF num bs.length = 0
  · rw [if_neg (by simpa using h1)] at h
    by_cases h2 : formF den bs.length = 0
    · rw [if_neg (by simpa using h2)] at h
      by_cases h3 : (partB bs num && partB bs den) = true
      · rw [Bool.and_eq_true] at h3
        exact ⟨h1, h2, h3.1, h3.2⟩
      · rw [if_neg h3] at h; cases h
    · rw [if_pos h2] at h; exact absurd h h2
  · rw [if_pos h1] at h; exact absurd h h1

theorem divides_t (bs : List (Int × Int)) (ls : List Lnk) (num den : List (Int × Int)) (hb : bs.length ≤ 240) (hn : num.length ≤ 1000) (hd : den.length ≤ 1000) :
    Triple Try.prog 115 [sysA bs.length ls.length, .c (.s 2 0 num.length 2), .c (.s 3 0 den.length 2)] ((2, false, .arr (aSpan num)) :: (3, false, .arr (aSpan den)) :: sysH bs ls) 4 (iv .i64 (formsF bs num den)) [] := by
  have hF : formsF bs num den = if formF num bs.length ≠ 0 then formF num bs.length else if formF den bs.length ≠ 0 then formF den bs.length else if (partB bs num && partB bs den) = true then 0 else 1 := rfl
  generalize formsF bs num den = R at *
  refine triple_of tB_ok Try.func115 rfl Try.call115 rfl ?_
  intro ρ w hH
  conv => whnf
  refine bsN_step tB_ok (aRows 1 [2, 3] [[.s 2 0 num.length 2], [.s 3 0 den.length 2]]) rfl ?_
  conv => whnf
  refine ⟨(by repeat' (first | exact trivial | exact rfl | refine And.intro ?_ ?_ | ((conv => whnf); first | exact trivial | exact rfl | refine And.intro ?_ ?_ | omega))), ?_⟩
  conv => whnf
  refine loop_step tB_ok (G := Nat) 0 [] (fun i => [(18, iv .i64 i)]) (fun _ => []) (fun i => i ≤ 2 ∧ (1 ≤ i → formF num bs.length = 0) ∧ (2 ≤ i → formF den bs.length = 0)) (fun i => 2 - i) ?_
  conv => whnf
  refine ⟨⟨0, ⟨by omega, by omega, by omega⟩, ?_⟩, ?_⟩
  · conv => whnf
    repeat' (first | exact trivial | exact rfl | refine And.intro ?_ ?_ | ((conv => whnf); first | exact trivial | exact rfl | refine And.intro ?_ ?_ | omega))
  intro i hi ρ1 t1 hρ1
  obtain ⟨hi, hi1, hi2⟩ := hi
  rcases (by omega : i = 0 ∨ i = 1 ∨ i = 2) with rfl | rfl | rfl
  · skip
    conv => whnf
    refine ⟨fun hc => ?_, fun hc => absurd (show decide (((0 : Nat) : Int) < 2) = false from hc) (by decide)⟩
    conv => whnf
    refine ⟨0, rfl, by decide, by show 0 < 2; decide, ?_⟩
    conv => whnf
    refine call_step (formed_t num bs.length (by omega) (by omega)) rfl rfl ?_
    conv => whnf
    refine ⟨(by repeat' (first | exact trivial | exact rfl | refine And.intro ?_ ?_ | ((conv => whnf); first | exact trivial | exact rfl | refine And.intro ?_ ?_ | omega))), (by repeat' (first | exact trivial | exact rfl | refine And.intro ?_ ?_ | ((conv => whnf); first | exact trivial | exact rfl | refine And.intro ?_ ?_ | omega))), ?_⟩
    conv => whnf
    by_cases h0 : formF num bs.length = 0
    · have h0' := h0
      rw [h0]
      refine ⟨fun hc => absurd hc (by simp), fun hc => ?_⟩
      conv => whnf
      refine ⟨0 + 1, rfl, ?_⟩
      refine ⟨0 + 1, ⟨by decide, by first | exact fun _ => rfl | exact fun _ => hi1 (by decide), by first | (intro hh; exact absurd hh (by decide)) | exact fun _ => rfl⟩, by show 2 - (0 + 1) < 2 - 0; decide, ?_⟩
      conv => whnf
      refine ⟨rfl, ?_⟩
      conv => whnf
      repeat' (first | exact trivial | exact rfl | refine And.intro ?_ ?_ | ((conv => whnf); first | exact trivial | exact rfl | refine And.intro ?_ ?_ | omega))
    · rw [if_pos (by simpa using h0)] at hF
      rw [hF]
      generalize formF num bs.length = c at *
      refine ⟨fun hcc => ?_, fun hcc => absurd (by simpa using hcc) h0⟩
      conv => whnf
      repeat' (first | exact trivial | exact rfl | refine And.intro ?_ ?_ | ((conv => whnf); first | exact trivial | exact rfl | refine And.intro ?_ ?_ | omega))
  · skip
    conv => whnf
    refine ⟨fun hc => ?_, fun hc => absurd (show decide (((1 : Nat) : Int) < 2) = false from hc) (by decide)⟩
    conv => whnf
    refine ⟨1, rfl, by decide, by show 1 < 2; decide, ?_⟩
    conv => whnf
    refine call_step (formed_t den bs.length (by omega) (by omega)) rfl rfl ?_
    conv => whnf
    refine ⟨(by repeat' (first | exact trivial | exact rfl | refine And.intro ?_ ?_ | ((conv => whnf); first | exact trivial | exact rfl | refine And.intro ?_ ?_ | omega))), (by repeat' (first | exact trivial | exact rfl | refine And.intro ?_ ?_ | ((conv => whnf); first | exact trivial | exact rfl | refine And.intro ?_ ?_ | omega))), ?_⟩
    conv => whnf
    by_cases h0 : formF den bs.length = 0
    · have h0' := h0
      rw [h0]
      refine ⟨fun hc => absurd hc (by simp), fun hc => ?_⟩
      conv => whnf
      refine ⟨1 + 1, rfl, ?_⟩
      refine ⟨1 + 1, ⟨by decide, by first | exact fun _ => rfl | exact fun _ => hi1 (by decide), by first | (intro hh; exact absurd hh (by decide)) | exact fun _ => rfl⟩, by show 2 - (1 + 1) < 2 - 1; decide, ?_⟩
      conv => whnf
      refine ⟨rfl, ?_⟩
      conv => whnf
      repeat' (first | exact trivial | exact rfl | refine And.intro ?_ ?_ | ((conv => whnf); first | exact trivial | exact rfl | refine And.intro ?_ ?_ | omega))
    · rw [if_neg (by simpa using hi1 (by decide)), if_pos (by simpa using h0)] at hF
      rw [hF]
      generalize formF den bs.length = c at *
      refine ⟨fun hcc => ?_, fun hcc => absurd (by simpa using hcc) h0⟩
      conv => whnf
      repeat' (first | exact trivial | exact rfl | refine And.intro ?_ ?_ | ((conv => whnf); first | exact trivial | exact rfl | refine And.intro ?_ ?_ | omega))
  have h0 := hi1 (by decide)
  have h1 := hi2 (by decide)
  clear hi1 hi2
  rw [if_neg (by simpa using h0), if_neg (by simpa using h1)] at hF
  have okn := formF_ok h0
  have okd := formF_ok h1
  conv => whnf
  refine ⟨fun hc => absurd (show decide (((2 : Nat) : Int) < 2) = true from hc) (by decide), fun hc => ?_⟩
  conv => whnf
  refine bsN_step tB_ok (aRows 1 [2, 3] [[.s 2 0 num.length 2], [.s 3 0 den.length 2]]) rfl ?_
  conv => whnf
  refine ⟨(by repeat' (first | exact trivial | exact rfl | refine And.intro ?_ ?_ | ((conv => whnf); first | exact trivial | exact rfl | refine And.intro ?_ ?_ | omega))), ?_⟩
  conv => whnf
  refine loop_step tB_ok (G := Nat) 2 [] (fun i => [(35, iv .i64 i)]) (fun _ => []) (fun i => i ≤ 2 ∧ (1 ≤ i → partB bs num = true) ∧ (2 ≤ i → partB bs den = true)) (fun i => 2 - i) ?_
  conv => whnf
  refine ⟨⟨0, ⟨by omega, by omega, by omega⟩, ?_⟩, ?_⟩
  · conv => whnf
    repeat' (first | exact trivial | exact rfl | refine And.intro ?_ ?_ | ((conv => whnf); first | exact trivial | exact rfl | refine And.intro ?_ ?_ | omega))
  intro i hi ρ1 t1 hρ1
  obtain ⟨hi, hi1, hi2⟩ := hi
  rcases (by omega : i = 0 ∨ i = 1 ∨ i = 2) with rfl | rfl | rfl
  · skip
    conv => whnf
    refine ⟨fun hc => ?_, fun hc => absurd (show decide (((0 : Nat) : Int) < 2) = false from hc) (by decide)⟩
    conv => whnf
    refine ⟨0, rfl, by decide, by show 0 < 2; decide, ?_⟩
    conv => whnf
    have hbad : partB bs num ≠ true → R = 1 := fun hh => by
      rw [hF, if_neg]
      rw [Bool.and_eq_true]
      exact fun h2 => hh (by first | exact h2.1 | exact h2.2)
    refine ⟨fun hc => ?_, fun hc => ?_⟩
    · have hc : 16 < num.length := by have hc := of_decide_eq_true (show decide ((16 : Int) < num.length) = true from hc); omega
      rw [hbad (fun hh => by have := (partB_iff.1 hh).1; omega)]
      conv => whnf
      repeat' (first | exact trivial | exact rfl | refine And.intro ?_ ?_ | ((conv => whnf); first | exact trivial | exact rfl | refine And.intro ?_ ?_ | omega))
    have hfl : ¬ 16 < num.length := by have hc := of_decide_eq_false (show decide ((16 : Int) < num.length) = false from hc); omega
    conv => whnf
    refine loop_step tB_ok (G := Nat) 4 [] (fun j => [(44, iv .i64 j)]) (fun _ => []) (fun j => j ≤ num.length ∧ ∀ t ∈ num.take j, partT bs t = true) (fun j => num.length - j) ?_
    conv => whnf
    refine ⟨⟨0, ⟨Nat.zero_le _, by simp⟩, ?_⟩, ?_⟩
    · conv => whnf
      repeat' (first | exact trivial | exact rfl | refine And.intro ?_ ?_ | ((conv => whnf); first | exact trivial | exact rfl | refine And.intro ?_ ?_ | omega))
    intro j hj ρ2 t2 hρ2
    obtain ⟨hj, hg⟩ := hj
    conv => whnf
    refine ⟨fun hc => ?_, fun hc => ?_⟩
    · have hlt : j < num.length := by simpa using hc
      obtain ⟨⟨hv0, hv1⟩, _⟩ := okn.2.1 num[j] (List.getElem_mem hlt)
      obtain ⟨v, hve⟩ : ∃ v : Nat, num[j].1 = (v : Int) := ⟨num[j].1.toNat, by omega⟩
      have hvl : v < bs.length := by omega
      have hpt := partT_iff hvl hve
      have hno : ¬ ((-8 ≤ num[j].2 ∧ num[j].2 ≤ 8) ∧ 0 ≤ bs[v].1 ∧ bs[v].2 ≤ 1048576) → R = 1 := fun hh => hbad fun h2 => hh (hpt.1 ((partB_iff.1 h2).2 _ (List.getElem_mem hlt)))
      conv => whnf
      refine ⟨j, rfl, hlt, hlt, ?_⟩
      conv => whnf
      refine call_step (within_t num[j].2 (-8) 8) rfl rfl ?_
      conv => whnf
      refine ⟨(by repeat' (first | exact trivial | exact rfl | refine And.intro ?_ ?_ | ((conv => whnf); first | exact trivial | exact rfl | refine And.intro ?_ ?_ | omega))), (by repeat' (first | exact trivial | exact rfl | refine And.intro ?_ ?_ | ((conv => whnf); first | exact trivial | exact rfl | refine And.intro ?_ ?_ | omega))), ?_⟩
      conv => whnf
      refine ⟨fun hc => ?_, fun hc => ?_⟩
      · have h1 : withinF num[j].2 (-8) 8 = false := by simpa using (show (!withinF num[j].2 (-8) 8) = true from hc)
        rw [hno (fun hh => by rw [show withinF num[j].2 (-8) 8 = true by simp [withinF]; omega] at h1; cases h1)]
        conv => whnf
        repeat' (first | exact trivial | exact rfl | refine And.intro ?_ ?_ | ((conv => whnf); first | exact trivial | exact rfl | refine And.intro ?_ ?_ | omega))
      have h1 : withinF num[j].2 (-8) 8 = true := by simpa using (show (!withinF num[j].2 (-8) 8) = false from hc)
      have h1 : -8 ≤ num[j].2 ∧ num[j].2 ≤ 8 := by simpa [withinF] using h1
      conv => whnf
      refine ⟨v, hve, hvl, hvl, ?_⟩
      conv => whnf
      refine ⟨fun hc => ?_, fun hc => ?_⟩
      · have hc : bs[v].1 < 0 := of_decide_eq_true (show decide (bs[v].1 < 0) = true from hc)
        rw [hno (by omega)]
        conv => whnf
        repeat' (first | exact trivial | exact rfl | refine And.intro ?_ ?_ | ((conv => whnf); first | exact trivial | exact rfl | refine And.intro ?_ ?_ | omega))
      have h2 : ¬ bs[v].1 < 0 := of_decide_eq_false (show decide (bs[v].1 < 0) = false from hc)
      conv => whnf
      refine ⟨v, hve, hvl, hvl, ?_⟩
      conv => whnf
      refine ⟨fun hc => ?_, fun hc => ?_⟩
      · have hc : 1048576 < bs[v].2 := of_decide_eq_true (show decide (1048576 < bs[v].2) = true from hc)
        rw [hno (by omega)]
        conv => whnf
        repeat' (first | exact trivial | exact rfl | refine And.intro ?_ ?_ | ((conv => whnf); first | exact trivial | exact rfl | refine And.intro ?_ ?_ | omega))
      have h3 : ¬ 1048576 < bs[v].2 := of_decide_eq_false (show decide (1048576 < bs[v].2) = false from hc)
      conv => whnf
      refine ⟨(j : Int) + 1, wrapId (z := (j : Int) + 1) ⟨by omega, by omega⟩, ?_⟩
      refine ⟨j + 1, ⟨hlt, fun t ht => ?_⟩, by show num.length - (j + 1) < num.length - j; omega, ?_⟩
      · rw [take_snoc hlt] at ht
        rcases List.mem_append.1 ht with ht | ht
        · exact hg t ht
        · simp at ht; rw [ht]; exact hpt.2 ⟨h1, by omega, by omega⟩
      conv => whnf
      refine ⟨rfl, ?_⟩
      conv => whnf
      repeat' (first | exact trivial | exact rfl | refine And.intro ?_ ?_ | ((conv => whnf); first | exact trivial | exact rfl | refine And.intro ?_ ?_ | omega))
    have hje : j = num.length := by simp at hc; omega
    rw [hje, List.take_length] at hg
    have hpf : partB bs num = true := partB_iff.2 ⟨by omega, hg⟩
    conv => whnf
    refine ⟨0 + 1, rfl, ?_⟩
    refine ⟨0 + 1, ⟨by decide, by first | exact fun _ => hpf | exact fun _ => hi1 (by decide), by first | (intro hh; exact absurd hh (by decide)) | exact fun _ => hpf⟩, by show 2 - (0 + 1) < 2 - 0; decide, ?_⟩
    conv => whnf
    refine ⟨rfl, ?_⟩
    conv => whnf
    repeat' (first | exact trivial | exact rfl | refine And.intro ?_ ?_ | ((conv => whnf); first | exact trivial | exact rfl | refine And.intro ?_ ?_ | omega))
  · skip
    conv => whnf
    refine ⟨fun hc => ?_, fun hc => absurd (show decide (((1 : Nat) : Int) < 2) = false from hc) (by decide)⟩
    conv => whnf
    refine ⟨1, rfl, by decide, by show 1 < 2; decide, ?_⟩
    conv => whnf
    have hbad : partB bs den ≠ true → R = 1 := fun hh => by
      rw [hF, if_neg]
      rw [Bool.and_eq_true]
      exact fun h2 => hh (by first | exact h2.1 | exact h2.2)
    refine ⟨fun hc => ?_, fun hc => ?_⟩
    · have hc : 16 < den.length := by have hc := of_decide_eq_true (show decide ((16 : Int) < den.length) = true from hc); omega
      rw [hbad (fun hh => by have := (partB_iff.1 hh).1; omega)]
      conv => whnf
      repeat' (first | exact trivial | exact rfl | refine And.intro ?_ ?_ | ((conv => whnf); first | exact trivial | exact rfl | refine And.intro ?_ ?_ | omega))
    have hfl : ¬ 16 < den.length := by have hc := of_decide_eq_false (show decide ((16 : Int) < den.length) = false from hc); omega
    conv => whnf
    refine loop_step tB_ok (G := Nat) 4 [] (fun j => [(44, iv .i64 j)]) (fun _ => []) (fun j => j ≤ den.length ∧ ∀ t ∈ den.take j, partT bs t = true) (fun j => den.length - j) ?_
    conv => whnf
    refine ⟨⟨0, ⟨Nat.zero_le _, by simp⟩, ?_⟩, ?_⟩
    · conv => whnf
      repeat' (first | exact trivial | exact rfl | refine And.intro ?_ ?_ | ((conv => whnf); first | exact trivial | exact rfl | refine And.intro ?_ ?_ | omega))
    intro j hj ρ2 t2 hρ2
    obtain ⟨hj, hg⟩ := hj
    conv => whnf
    refine ⟨fun hc => ?_, fun hc => ?_⟩
    · have hlt : j < den.length := by simpa using hc
      obtain ⟨⟨hv0, hv1⟩, _⟩ := okd.2.1 den[j] (List.getElem_mem hlt)
      obtain ⟨v, hve⟩ : ∃ v : Nat, den[j].1 = (v : Int) := ⟨den[j].1.toNat, by omega⟩
      have hvl : v < bs.length := by omega
      have hpt := partT_iff hvl hve
      have hno : ¬ ((-8 ≤ den[j].2 ∧ den[j].2 ≤ 8) ∧ 0 ≤ bs[v].1 ∧ bs[v].2 ≤ 1048576) → R = 1 := fun hh => hbad fun h2 => hh (hpt.1 ((partB_iff.1 h2).2 _ (List.getElem_mem hlt)))
      conv => whnf
      refine ⟨j, rfl, hlt, hlt, ?_⟩
      conv => whnf
      refine call_step (within_t den[j].2 (-8) 8) rfl rfl ?_
      conv => whnf
      refine ⟨(by repeat' (first | exact trivial | exact rfl | refine And.intro ?_ ?_ | ((conv => whnf); first | exact trivial | exact rfl | refine And.intro ?_ ?_ | omega))), (by repeat' (first | exact trivial | exact rfl | refine And.intro ?_ ?_ | ((conv => whnf); first | exact trivial | exact rfl | refine And.intro ?_ ?_ | omega))), ?_⟩
      conv => whnf
      refine ⟨fun hc => ?_, fun hc => ?_⟩
      · have h1 : withinF den[j].2 (-8) 8 = false := by simpa using (show (!withinF den[j].2 (-8) 8) = true from hc)
        rw [hno (fun hh => by rw [show withinF den[j].2 (-8) 8 = true by simp [withinF]; omega] at h1; cases h1)]
        conv => whnf
        repeat' (first | exact trivial | exact rfl | refine And.intro ?_ ?_ | ((conv => whnf); first | exact trivial | exact rfl | refine And.intro ?_ ?_ | omega))
      have h1 : withinF den[j].2 (-8) 8 = true := by simpa using (show (!withinF den[j].2 (-8) 8) = false from hc)
      have h1 : -8 ≤ den[j].2 ∧ den[j].2 ≤ 8 := by simpa [withinF] using h1
      conv => whnf
      refine ⟨v, hve, hvl, hvl, ?_⟩
      conv => whnf
      refine ⟨fun hc => ?_, fun hc => ?_⟩
      · have hc : bs[v].1 < 0 := of_decide_eq_true (show decide (bs[v].1 < 0) = true from hc)
        rw [hno (by omega)]
        conv => whnf
        repeat' (first | exact trivial | exact rfl | refine And.intro ?_ ?_ | ((conv => whnf); first | exact trivial | exact rfl | refine And.intro ?_ ?_ | omega))
      have h2 : ¬ bs[v].1 < 0 := of_decide_eq_false (show decide (bs[v].1 < 0) = false from hc)
      conv => whnf
      refine ⟨v, hve, hvl, hvl, ?_⟩
      conv => whnf
      refine ⟨fun hc => ?_, fun hc => ?_⟩
      · have hc : 1048576 < bs[v].2 := of_decide_eq_true (show decide (1048576 < bs[v].2) = true from hc)
        rw [hno (by omega)]
        conv => whnf
        repeat' (first | exact trivial | exact rfl | refine And.intro ?_ ?_ | ((conv => whnf); first | exact trivial | exact rfl | refine And.intro ?_ ?_ | omega))
      have h3 : ¬ 1048576 < bs[v].2 := of_decide_eq_false (show decide (1048576 < bs[v].2) = false from hc)
      conv => whnf
      refine ⟨(j : Int) + 1, wrapId (z := (j : Int) + 1) ⟨by omega, by omega⟩, ?_⟩
      refine ⟨j + 1, ⟨hlt, fun t ht => ?_⟩, by show den.length - (j + 1) < den.length - j; omega, ?_⟩
      · rw [take_snoc hlt] at ht
        rcases List.mem_append.1 ht with ht | ht
        · exact hg t ht
        · simp at ht; rw [ht]; exact hpt.2 ⟨h1, by omega, by omega⟩
      conv => whnf
      refine ⟨rfl, ?_⟩
      conv => whnf
      repeat' (first | exact trivial | exact rfl | refine And.intro ?_ ?_ | ((conv => whnf); first | exact trivial | exact rfl | refine And.intro ?_ ?_ | omega))
    have hje : j = den.length := by simp at hc; omega
    rw [hje, List.take_length] at hg
    have hpf : partB bs den = true := partB_iff.2 ⟨by omega, hg⟩
    conv => whnf
    refine ⟨1 + 1, rfl, ?_⟩
    refine ⟨1 + 1, ⟨by decide, by first | exact fun _ => hpf | exact fun _ => hi1 (by decide), by first | (intro hh; exact absurd hh (by decide)) | exact fun _ => hpf⟩, by show 2 - (1 + 1) < 2 - 1; decide, ?_⟩
    conv => whnf
    refine ⟨rfl, ?_⟩
    conv => whnf
    repeat' (first | exact trivial | exact rfl | refine And.intro ?_ ?_ | ((conv => whnf); first | exact trivial | exact rfl | refine And.intro ?_ ?_ | omega))
  have h2 := hi1 (by decide)
  have h3 := hi2 (by decide)
  rw [h2, h3, if_pos (by rfl)] at hF
  rw [hF]
  conv => whnf
  refine ⟨fun hc => absurd (show decide (((2 : Nat) : Int) < 2) = true from hc) (by decide), fun hc => ?_⟩
  conv => whnf
  repeat' (first | exact trivial | exact rfl | refine And.intro ?_ ?_ | ((conv => whnf); first | exact trivial | exact rfl | refine And.intro ?_ ?_ | omega))

theorem refPart_t (bs : List (Int × Int)) (ls : List Lnk) (form : List (Int × Int)) (hf : formF form bs.length = 0) :
    Triple Try.prog 119 [sysA bs.length ls.length, .c (.s 2 0 form.length 2)] ((2, false, .arr (aSpan form)) :: sysH bs ls) 3 (bv (partB bs form)) [] := by
  have hR := @partB_iff bs form
  generalize partB bs form = R at *
  obtain ⟨f1, f2, f3⟩ := formF_ok hf
  refine triple_of tB_ok Try.func119 rfl Try.call119 rfl ?_
  intro ρ w hH
  conv => whnf
  refine ⟨fun hc => ?_, fun hc => ?_⟩
  · have hc : 16 < form.length := by have hc := of_decide_eq_true (show decide ((16 : Int) < form.length) = true from hc); omega
    have e : R = false := by rw [← Bool.not_eq_true, hR]; omega
    rw [e]
    conv => whnf
    repeat' (first | exact trivial | exact rfl | refine And.intro ?_ ?_ | ((conv => whnf); first | exact trivial | exact rfl | refine And.intro ?_ ?_ | omega))
  have hfl : ¬ 16 < form.length := by have hc := of_decide_eq_false (show decide ((16 : Int) < form.length) = false from hc); omega
  conv => whnf
  refine loop_step tB_ok (G := Nat) 0 [] (fun j => [(5, iv .i64 j)]) (fun _ => []) (fun j => j ≤ form.length ∧ ∀ t ∈ form.take j, partT bs t = true) (fun j => form.length - j) ?_
  conv => whnf
  refine ⟨⟨0, ⟨Nat.zero_le _, by simp⟩, ?_⟩, ?_⟩
  · conv => whnf
    repeat' (first | exact trivial | exact rfl | refine And.intro ?_ ?_ | ((conv => whnf); first | exact trivial | exact rfl | refine And.intro ?_ ?_ | omega))
  intro j hj ρ2 t2 hρ2
  obtain ⟨hj, hg⟩ := hj
  conv => whnf
  refine ⟨fun hc => ?_, fun hc => ?_⟩
  · have hlt : j < form.length := by simpa using hc
    obtain ⟨⟨hv0, hv1⟩, _⟩ := f2 form[j] (List.getElem_mem hlt)
    obtain ⟨v, hve⟩ : ∃ v : Nat, form[j].1 = (v : Int) := ⟨form[j].1.toNat, by omega⟩
    have hvl : v < bs.length := by omega
    have hpt := partT_iff hvl hve
    have hno : ¬ ((-8 ≤ form[j].2 ∧ form[j].2 ≤ 8) ∧ 0 ≤ bs[v].1 ∧ bs[v].2 ≤ 1048576) → R = false := fun hh => by
      rw [← Bool.not_eq_true, hR]
      exact fun h2 => hh (hpt.1 (h2.2 _ (List.getElem_mem hlt)))
    conv => whnf
    refine ⟨j, rfl, hlt, hlt, ?_⟩
    conv => whnf
    refine ⟨v, hve, hvl, hvl, ?_⟩
    conv => whnf
    refine ⟨j, rfl, hlt, hlt, ?_⟩
    conv => whnf
    refine ⟨fun hc => ?_, fun hc => ?_⟩
    · have hc : form[j].2 < -8 := of_decide_eq_true (show decide (form[j].2 < -8) = true from hc)
      rw [hno (by omega)]
      conv => whnf
      repeat' (first | exact trivial | exact rfl | refine And.intro ?_ ?_ | ((conv => whnf); first | exact trivial | exact rfl | refine And.intro ?_ ?_ | omega))
    have c1 : ¬ form[j].2 < -8 := of_decide_eq_false (show decide (form[j].2 < -8) = false from hc)
    conv => whnf
    refine ⟨j, rfl, hlt, hlt, ?_⟩
    conv => whnf
    refine ⟨fun hc => ?_, fun hc => ?_⟩
    · have hc : 8 < form[j].2 := of_decide_eq_true (show decide (8 < form[j].2) = true from hc)
      rw [hno (by omega)]
      conv => whnf
      repeat' (first | exact trivial | exact rfl | refine And.intro ?_ ?_ | ((conv => whnf); first | exact trivial | exact rfl | refine And.intro ?_ ?_ | omega))
    have c2 : ¬ 8 < form[j].2 := of_decide_eq_false (show decide (8 < form[j].2) = false from hc)
    conv => whnf
    refine ⟨fun hc => ?_, fun hc => ?_⟩
    · have hc : bs[v].1 < 0 := of_decide_eq_true (show decide (bs[v].1 < 0) = true from hc)
      rw [hno (by omega)]
      conv => whnf
      repeat' (first | exact trivial | exact rfl | refine And.intro ?_ ?_ | ((conv => whnf); first | exact trivial | exact rfl | refine And.intro ?_ ?_ | omega))
    have c3 : ¬ bs[v].1 < 0 := of_decide_eq_false (show decide (bs[v].1 < 0) = false from hc)
    conv => whnf
    refine ⟨fun hc => ?_, fun hc => ?_⟩
    · have hc : 1048576 < bs[v].2 := of_decide_eq_true (show decide (1048576 < bs[v].2) = true from hc)
      rw [hno (by omega)]
      conv => whnf
      repeat' (first | exact trivial | exact rfl | refine And.intro ?_ ?_ | ((conv => whnf); first | exact trivial | exact rfl | refine And.intro ?_ ?_ | omega))
    have c4 : ¬ 1048576 < bs[v].2 := of_decide_eq_false (show decide (1048576 < bs[v].2) = false from hc)
    conv => whnf
    refine ⟨(j : Int) + 1, wrapId (z := (j : Int) + 1) ⟨by omega, by omega⟩, ?_⟩
    refine ⟨j + 1, ⟨hlt, fun t ht => ?_⟩, by show form.length - (j + 1) < form.length - j; omega, ?_⟩
    · rw [take_snoc hlt] at ht
      rcases List.mem_append.1 ht with ht | ht
      · exact hg t ht
      · simp at ht; rw [ht]; exact hpt.2 ⟨⟨by omega, by omega⟩, by omega, by omega⟩
    conv => whnf
    refine ⟨rfl, ?_⟩
    conv => whnf
    repeat' (first | exact trivial | exact rfl | refine And.intro ?_ ?_ | ((conv => whnf); first | exact trivial | exact rfl | refine And.intro ?_ ?_ | omega))
  have hje : j = form.length := by simp at hc; omega
  rw [hje, List.take_length] at hg
  have e : R = true := hR.2 ⟨by omega, hg⟩
  rw [e]
  conv => whnf
  repeat' (first | exact trivial | exact rfl | refine And.intro ?_ ?_ | ((conv => whnf); first | exact trivial | exact rfl | refine And.intro ?_ ?_ | omega))

theorem refForms_t (bs : List (Int × Int)) (ls : List Lnk) (num den : List (Int × Int)) (hb : bs.length ≤ 240) (hn : num.length ≤ 1000) (hd : den.length ≤ 1000) :
    Triple Try.prog 60 [sysA bs.length ls.length, .c (.s 2 0 num.length 2), .c (.s 3 0 den.length 2)] ((2, false, .arr (aSpan num)) :: (3, false, .arr (aSpan den)) :: sysH bs ls) 4 (iv .i64 (formsF bs num den)) [] := by
  have hF : formsF bs num den = if formF num bs.length ≠ 0 then formF num bs.length else if formF den bs.length ≠ 0 then formF den bs.length else if (partB bs num && partB bs den) = true then 0 else 1 := rfl
  generalize formsF bs num den = R at *
  have r1 := refForm_t bs ls num (by omega) (by omega)
  have r2 := refForm_t bs ls den (by omega) (by omega)
  refine triple_of tB_ok Try.func60 rfl Try.call60 rfl ?_
  intro ρ w hH
  conv => whnf
  refine call_step r1 rfl rfl ?_
  conv => whnf
  refine ⟨(by repeat' (first | exact trivial | exact rfl | refine And.intro ?_ ?_ | ((conv => whnf); first | exact trivial | exact rfl | refine And.intro ?_ ?_ | omega))), (by repeat' (first | exact trivial | exact rfl | refine And.intro ?_ ?_ | ((conv => whnf); first | exact trivial | exact rfl | refine And.intro ?_ ?_ | omega))), ?_⟩
  conv => whnf
  by_cases h0 : formF num bs.length = 0
  · rw [if_neg (by simpa using h0)] at hF
    have q1 := refPart_t bs ls num h0
    rw [h0]
    refine ⟨fun hc => absurd hc (by simp), fun hc => ?_⟩
    conv => whnf
    refine call_step r2 rfl rfl ?_
    conv => whnf
    refine ⟨(by repeat' (first | exact trivial | exact rfl | refine And.intro ?_ ?_ | ((conv => whnf); first | exact trivial | exact rfl | refine And.intro ?_ ?_ | omega))), (by repeat' (first | exact trivial | exact rfl | refine And.intro ?_ ?_ | ((conv => whnf); first | exact trivial | exact rfl | refine And.intro ?_ ?_ | omega))), ?_⟩
    conv => whnf
    by_cases h1 : formF den bs.length = 0
    · rw [if_neg (by simpa using h1)] at hF
      have q2 := refPart_t bs ls den h1
      rw [h1]
      refine ⟨fun hc => absurd hc (by simp), fun hc => ?_⟩
      conv => whnf
      refine call_step q1 rfl rfl ?_
      conv => whnf
      refine ⟨(by repeat' (first | exact trivial | exact rfl | refine And.intro ?_ ?_ | ((conv => whnf); first | exact trivial | exact rfl | refine And.intro ?_ ?_ | omega))), (by repeat' (first | exact trivial | exact rfl | refine And.intro ?_ ?_ | ((conv => whnf); first | exact trivial | exact rfl | refine And.intro ?_ ?_ | omega))), ?_⟩
      conv => whnf
      refine call_step q2 rfl rfl ?_
      conv => whnf
      refine ⟨(by repeat' (first | exact trivial | exact rfl | refine And.intro ?_ ?_ | ((conv => whnf); first | exact trivial | exact rfl | refine And.intro ?_ ?_ | omega))), (by repeat' (first | exact trivial | exact rfl | refine And.intro ?_ ?_ | ((conv => whnf); first | exact trivial | exact rfl | refine And.intro ?_ ?_ | omega))), ?_⟩
      conv => whnf
      generalize partB bs num = x at *
      generalize partB bs den = y at *
      rw [hF]
      cases x with
      | false =>
        refine ⟨fun hc => ?_, fun hc => absurd hc (by simp)⟩
        conv => whnf
        repeat' (first | exact trivial | exact rfl | refine And.intro ?_ ?_ | ((conv => whnf); first | exact trivial | exact rfl | refine And.intro ?_ ?_ | omega))
      | true =>
        refine ⟨fun hc => absurd hc (by simp), fun hc => ?_⟩
        conv => whnf
        cases y with
        | false =>
          refine ⟨fun hc => ?_, fun hc => absurd hc (by simp)⟩
          conv => whnf
          repeat' (first | exact trivial | exact rfl | refine And.intro ?_ ?_ | ((conv => whnf); first | exact trivial | exact rfl | refine And.intro ?_ ?_ | omega))
        | true =>
          refine ⟨fun hc => absurd hc (by simp), fun hc => ?_⟩
          conv => whnf
          repeat' (first | exact trivial | exact rfl | refine And.intro ?_ ?_ | ((conv => whnf); first | exact trivial | exact rfl | refine And.intro ?_ ?_ | omega))
    · rw [if_pos (by simpa using h1)] at hF
      rw [hF]
      generalize formF den bs.length = c at *
      refine ⟨fun hcc => ?_, fun hcc => absurd (by simpa using hcc) h1⟩
      conv => whnf
      repeat' (first | exact trivial | exact rfl | refine And.intro ?_ ?_ | ((conv => whnf); first | exact trivial | exact rfl | refine And.intro ?_ ?_ | omega))
  · rw [if_pos (by simpa using h0)] at hF
    rw [hF]
    generalize formF num bs.length = c at *
    refine ⟨fun hcc => ?_, fun hcc => absurd (by simpa using hcc) h0⟩
    conv => whnf
    repeat' (first | exact trivial | exact rfl | refine And.intro ?_ ?_ | ((conv => whnf); first | exact trivial | exact rfl | refine And.intro ?_ ?_ | omega))

end Go.Proofs

namespace Go.Proofs
open Go.Sx

/-! ### The greatest quotient -/

theorem meas_lt {a b a' b' : Int} (hb : 1 ≤ b ∧ b ≤ 134217728) (hb' : 1 ≤ b' ∧ b' ≤ 134217728) (h : 1 ≤ a' * b - a * b') :
    ((134217728 * b' - a') * 18014398509481984) / b' < ((134217728 * b - a) * 18014398509481984) / b := by
  obtain ⟨X, hX⟩ : ∃ X, X = (134217728 * b - a) * 18014398509481984 := ⟨_, rfl⟩
  obtain ⟨Y, hY⟩ : ∃ Y, Y = (134217728 * b' - a') * 18014398509481984 := ⟨_, rfl⟩
  rw [← hX, ← hY]
  have hk : Y / b' * b' ≤ Y := Int.ediv_mul_le Y (by omega)
  generalize Y / b' = k at *
  have hbb : b * b' ≤ 18014398509481984 := Int.le_trans (Int.mul_le_mul hb.2 hb'.2 (by omega) (by omega)) (by decide)
  have e1 : X * b' - Y * b = 18014398509481984 * (a' * b - a * b') := by
    rw [hX, hY]
    have : ∀ P Q : Int, (P * b - a) * Q * b' - (P * b' - a') * Q * b = Q * (a' * b - a * b') := fun P Q => by
      simp only [Int.sub_mul, Int.mul_sub]
      have h1 : P * b * Q * b' = P * b' * Q * b := by ac_rfl
      have h2 : a * Q * b' = Q * (a * b') := by ac_rfl
      have h3 : a' * Q * b = Q * (a' * b) := by ac_rfl
      omega
    exact this _ _
  have h1 : Y * b + b * b' ≤ X * b' := by
    have : 18014398509481984 * 1 ≤ 18014398509481984 * (a' * b - a * b') := Int.mul_le_mul_of_nonneg_left h (by omega)
    omega
  have h2 : (k + 1) * b * b' ≤ X * b' := by
    have h3 : k * b' * b ≤ Y * b := Int.mul_le_mul_of_nonneg_right hk (by omega)
    have e2 : (k + 1) * b * b' = k * b' * b + b * b' := by
      rw [Int.add_mul, Int.add_mul, Int.one_mul]
      have : k * b * b' = k * b' * b := by ac_rfl
      omega
    omega
  have h3 : (k + 1) * b ≤ X := Int.le_of_mul_le_mul_right h2 (by omega)
  have h4 : k + 1 ≤ X / b := (Int.le_ediv_iff_mul_le (by omega)).2 h3
  omega

def topG (bs : List (Int × Int)) (ls : List Lnk) (num den : List (Int × Int)) : Nat → List Int → Option (Int × Int × List (Lnk × Int) × List Int)
  | 0, _ => none
  | f + 1, pt =>
    match bestF bs.length (graphF bs ls 0) 68719476737 (coefF (-(Int.tdiv (valM num pt) (Int.gcd (valM num pt) (valM den pt)))) den (coefF (Int.tdiv (valM den pt) (Int.gcd (valM num pt) (valM den pt))) num (List.replicate bs.length 0))) with
    | none => none
    | some (v, us, pt') => if v ≤ 0 then some (Int.tdiv (valM num pt) (Int.gcd (valM num pt) (valM den pt)), Int.tdiv (valM den pt) (Int.gcd (valM num pt) (valM den pt)), us, pt) else topG bs ls num den f pt'

theorem allows_box {bs : List (Int × Int)} {ls : List Lnk} {pt : List Int} (hs : SysOK bs ls) (ha : (allowsF bs ls pt).2 = true) {v : Nat} (hv : v < bs.length) : bs[v].1 ≤ pt.getD v 0 ∧ pt.getD v 0 ≤ bs[v].2 := by
  obtain ⟨hl, hp⟩ := (allows_iff hs).1 ha
  obtain ⟨h1, h2⟩ := boxLinks_has (bs := bs) (v := 0) hv
  rw [Nat.zero_add] at h1 h2
  have p1 : pt.getD (plc bs.length ((v : Nat) : Int)) 0 ≤ pt.getD bs.length 0 + bs[v].2 := hp _ (List.mem_append.2 (.inl h1))
  have p2 : pt.getD bs.length 0 ≤ pt.getD (plc bs.length ((v : Nat) : Int)) 0 + -bs[v].1 := hp _ (List.mem_append.2 (.inl h2))
  have z : pt.getD bs.length 0 = 0 := by rw [List.getD_eq_getElem?_getD, List.getElem?_eq_none (by omega)]; rfl
  have e : plc bs.length ((v : Nat) : Int) = v := by unfold plc; rw [if_neg (by omega), Int.toNat_natCast]
  rw [z, e] at p1 p2
  omega

theorem part_bd {bs : List (Int × Int)} {ls : List Lnk} {pt : List Int} (hs : SysOK bs ls) (ha : (allowsF bs ls pt).2 = true) : ∀ {form : List (Int × Int)}, (∀ t ∈ form, 0 ≤ t.1 ∧ t.1 < bs.length) → (∀ t ∈ form, partT bs t = true) →
    -(form.length * 8388608) ≤ valM form pt ∧ valM form pt ≤ form.length * 8388608
  | [], _, _ => by simp [valM]
  | t :: r, h, hp => by
    have ih := part_bd hs ha (form := r) (fun t ht => h t (List.mem_cons_of_mem _ ht)) (fun t ht => hp t (List.mem_cons_of_mem _ ht))
    obtain ⟨h0, h1⟩ := h t (List.mem_cons_self ..)
    have hv : t.1.toNat < bs.length := by omega
    obtain ⟨p1, p2, p3⟩ := (partT_iff hv (by omega)).1 (hp t (List.mem_cons_self ..))
    have hb := allows_box hs ha hv
    have hm := mul_bd (C := 8) (D := 1048576) p1 (show -1048576 ≤ pt.getD t.1.toNat 0 ∧ pt.getD t.1.toNat 0 ≤ 1048576 by omega)
    simp only [valM, List.length_cons]
    omega

/-- What the greatest quotient comes with. -/
structure TopOK (bs : List (Int × Int)) (ls : List Lnk) (num den : List (Int × Int)) (p q : Int) (us : List (Lnk × Int)) (pt : List Int) : Prop where
  al : (allowsF bs ls pt).2 = true
  eq : valM num pt * q = valM den pt * p
  qb : 1 ≤ q ∧ q ≤ 134217728
  pb : -134217728 ≤ p ∧ p ≤ 134217728
  cop : Int.gcd p q = 1
  sh : showsF (allF bs ls) bs.length (coefF (-p) den (coefF q num (List.replicate bs.length 0))) us 0 = true
  ul : us.length ≤ 2000
  most : ∀ pt', (allowsF bs ls pt').2 = true → q * valM num pt' ≤ p * valM den pt'

/-- One step: the reduced quotient at a point, its coefficients, and the greatest value. -/
theorem top_step {bs : List (Int × Int)} {ls : List Lnk} (h : NetW bs ls) {num den : List (Int × Int)} (hF : formsF bs num den = 0) (hpos : ∀ pt, (allowsF bs ls pt).2 = true → 1 ≤ valM den pt) {pt : List Int} (ha : (allowsF bs ls pt).2 = true) :
    ∃ (d p q : Int), d = Int.gcd (valM num pt) (valM den pt) ∧ 1 ≤ d ∧ d ≤ 134217728 ∧ valM num pt = d * p ∧ valM den pt = d * q ∧ Int.tdiv (valM num pt) d = p ∧ Int.tdiv (valM den pt) d = q ∧
      (1 ≤ q ∧ q ≤ 134217728) ∧ (-134217728 ≤ p ∧ p ≤ 134217728) ∧ (-134217728 ≤ valM num pt ∧ valM num pt ≤ 134217728) ∧ (1 ≤ valM den pt ∧ valM den pt ≤ 134217728) ∧ Int.gcd p q = 1 ∧
      FormB bs.length q num ∧ FormB bs.length (-p) den ∧
      (coefF (-p) den (coefF q num (List.replicate bs.length 0))).length = bs.length ∧ (∀ x ∈ coefF (-p) den (coefF q num (List.replicate bs.length 0)), -2147483648 ≤ x ∧ x ≤ 2147483648) ∧
      ∃ flow pt' v, bestF bs.length (graphF bs ls 0) 68719476737 (coefF (-p) den (coefF q num (List.replicate bs.length 0))) = some (v, usesF (allF bs ls) flow, pt') ∧
        (-1152921504606846976 ≤ v ∧ v ≤ 1152921504606846976) ∧ showsF (allF bs ls) bs.length (coefF (-p) den (coefF q num (List.replicate bs.length 0))) (usesF (allF bs ls) flow) v = true ∧ (allowsF bs ls pt').2 = true ∧
        (usesF (allF bs ls) flow).length ≤ 2000 ∧ q * valM num pt' - p * valM den pt' = v ∧ ∀ pt2, (allowsF bs ls pt2).2 = true → q * valM num pt2 - p * valM den pt2 ≤ v := by
  obtain ⟨fn, fd, pn, pd⟩ := formsF_ok hF
  obtain ⟨n1, n2, n3⟩ := formF_ok fn
  obtain ⟨d1, d2, d3⟩ := formF_ok fd
  obtain ⟨pn1, pn2⟩ := partB_iff.1 pn
  obtain ⟨pd1, pd2⟩ := partB_iff.1 pd
  have bn := part_bd h.sys ha (fun t ht => (n2 t ht).1) pn2
  have bd := part_bd h.sys ha (fun t ht => (d2 t ht).1) pd2
  have hp1 := hpos pt ha
  have bn : -134217728 ≤ valM num pt ∧ valM num pt ≤ 134217728 := by omega
  have bd : 1 ≤ valM den pt ∧ valM den pt ≤ 134217728 := by omega
  have hdp : 0 < Int.gcd (valM num pt) (valM den pt) := Int.gcd_pos_of_ne_zero_right _ (by omega)
  obtain ⟨p, hp⟩ := Int.gcd_dvd_left (valM num pt) (valM den pt)
  obtain ⟨q, hq⟩ := Int.gcd_dvd_right (valM num pt) (valM den pt)
  obtain ⟨d, hd⟩ : ∃ d : Int, d = Int.gcd (valM num pt) (valM den pt) := ⟨_, rfl⟩
  rw [← hd] at hp hq
  have hg : Int.gcd (valM num pt) (valM den pt) = d.natAbs * Int.gcd p q := by
    conv => lhs; rw [hp, hq]
    exact Int.gcd_mul_left ..
  have hcop : Int.gcd p q = 1 := by
    have h1 : Int.gcd (valM num pt) (valM den pt) * 1 = Int.gcd (valM num pt) (valM den pt) * Int.gcd p q := by
      rw [Nat.mul_one]
      have h2 : d.natAbs = Int.gcd (valM num pt) (valM den pt) := by omega
      rw [h2] at hg; exact hg
    exact (Nat.eq_of_mul_eq_mul_left hdp h1).symm
  have hd1 : 1 ≤ d := by omega
  have hq1 : 1 ≤ q := by
    have h0 : 0 < d * q := by rw [← hq]; omega
    have := Int.pos_of_mul_pos_right h0 (by omega)
    omega
  have hdq : d ≤ d * q := by
    have := Int.mul_le_mul_of_nonneg_left hq1 (show 0 ≤ d by omega)
    omega
  have hqd : q ≤ d * q := by
    have := Int.mul_le_mul_of_nonneg_right hd1 (show 0 ≤ q by omega)
    omega
  have hpa : p.natAbs ≤ (valM num pt).natAbs := by
    rw [hp, Int.natAbs_mul]
    exact Nat.le_mul_of_pos_left _ (by omega)
  have hpb : -134217728 ≤ p ∧ p ≤ 134217728 := by omega
  have hqb : 1 ≤ q ∧ q ≤ 134217728 := by omega
  have t8 : ∀ t ∈ num, -8 ≤ t.2 ∧ t.2 ≤ 8 := fun t ht => by
    have hh := (n2 t ht).1
    exact ((partT_iff (v := t.1.toNat) (by omega) (by omega)).1 (pn2 t ht)).1
  have s8 : ∀ t ∈ den, -8 ≤ t.2 ∧ t.2 ≤ 8 := fun t ht => by
    have hh := (d2 t ht).1
    exact ((partT_iff (v := t.1.toNat) (by omega) (by omega)).1 (pd2 t ht)).1
  have hl : (coefF (-p) den (coefF q num (List.replicate bs.length 0))).length = bs.length := by rw [coefF_len, coefF_len, List.length_replicate]
  have hb0 : ∀ y ∈ coefF q num (List.replicate bs.length 0), -1073741824 ≤ y ∧ y ≤ 1073741824 := by
    refine coefF_bd n3 (fun t ht => ⟨by rw [List.length_replicate]; exact (n2 t ht).1, ?_⟩) (fun t _ => replicate_getD _ _) (fun y hy => ?_)
    · have := mul_bd (x := q) (y := t.2) (C := 134217728) (D := 8) (by omega) (t8 t ht); omega
    · obtain ⟨_, rfl⟩ := List.mem_replicate.1 hy; omega
  have hb1 : ∀ y ∈ coefF (-p) den (coefF q num (List.replicate bs.length 0)), -(1073741824 + 1073741824) ≤ y ∧ y ≤ 1073741824 + 1073741824 := by
    refine coefF_bd2 d3 (fun t ht => ⟨by rw [coefF_len, List.length_replicate]; exact (d2 t ht).1, ?_⟩) (fun t ht => ?_) (fun y hy => ?_)
    · have := mul_bd (x := -p) (y := t.2) (C := 134217728) (D := 8) (by omega) (s8 t ht); omega
    · have := (d2 t ht).1
      exact hb0 _ (getD_mem (by rw [coefF_len, List.length_replicate]; omega))
    · have := hb0 y hy; omega
  have hdot : ∀ pt', dotI (coefF (-p) den (coefF q num (List.replicate bs.length 0))) pt' = q * valM num pt' - p * valM den pt' := fun pt' => by
    rw [coefF_dot (-p) pt' (fun t ht => by rw [coefF_len, List.length_replicate]; exact (d2 t ht).1), coefF_dot q pt' (fun t ht => by rw [List.length_replicate]; exact (n2 t ht).1), dotI_zero, Int.neg_mul]
    omega
  have hfb1 : FormB bs.length q num := formB_of fn (by omega)
  have hfb2 : FormB bs.length (-p) den := formB_of fd (by omega)
  refine ⟨d, p, q, hd, hd1, by omega, hp, hq, by rw [hp]; exact Int.mul_tdiv_cancel_left _ (by omega), by rw [hq]; exact Int.mul_tdiv_cancel_left _ (by omega), hqb, hpb, bn, bd, hcop, hfb1, hfb2, hl, fun x hx => by have := hb1 x hx; omega, ?_⟩
  generalize coefF (-p) den (coefF q num (List.replicate bs.length 0)) = cf at *
  have hb2 : ∀ x ∈ cf, -2147483648 ≤ x ∧ x ≤ 2147483648 := fun x hx => by have := hb1 x hx; omega
  obtain ⟨flow, pt', v, g1, g2, g3⟩ := best_net h (C := 2147483648) hl (by omega) hb2
  have hal := allF_len bs ls
  have hfew := h.few
  have hus := usesF_len (allF bs ls) flow
  refine ⟨flow, pt', v, g1, g2.bd h hl (by omega) hb2, g2.shows (allF_ok h.sys) hl g3 (by omega), (allows_iff h.sys).2 ⟨g2.pl, g2.pot⟩, by omega, by rw [← hdot, g2.val], fun pt2 hpt2 => ?_⟩
  obtain ⟨a1, a2⟩ := (allows_iff h.sys).1 hpt2
  rw [← hdot]
  exact g2.most (allF_ok h.sys) hl a1 a2

theorem top_ok {bs : List (Int × Int)} {ls : List Lnk} (h : NetW bs ls) {num den : List (Int × Int)} (hF : formsF bs num den = 0) (hpos : ∀ pt, (allowsF bs ls pt).2 = true → 1 ≤ valM den pt) : ∀ (m : Nat) (pt : List Int), (allowsF bs ls pt).2 = true →
    (((134217728 * valM den pt - valM num pt) * 18014398509481984) / valM den pt).toNat < m → ∃ p q us pt', topG bs ls num den m pt = some (p, q, us, pt') ∧ TopOK bs ls num den p q us pt'
  | 0, pt, _, hm => by omega
  | m + 1, pt, ha, hm => by
    obtain ⟨d, p, q, hd, hd1, hd2, hp, hq, tp, tq, qb, pb, bn, bd, hcop, _, _, hl, hb, flow, pt', v, hB, hvb, hsh, hal, hul, hval, hmost⟩ := top_step h hF hpos ha
    have hz := hmost pt ha
    have hz0 : q * valM num pt - p * valM den pt = 0 := by
      rw [hp, hq]
      have : q * (d * p) = p * (d * q) := by ac_rfl
      omega
    unfold topG
    rw [← hd, tp, tq, hB]
    dsimp only
    by_cases hv : v ≤ 0
    · rw [if_pos hv]
      have hv0 : v = 0 := by omega
      rw [hv0] at hsh
      refine ⟨p, q, _, pt, rfl, ha, by rw [Int.mul_comm (valM num pt), Int.mul_comm (valM den pt)]; omega, qb, pb, hcop, hsh, hul, fun pt2 h2 => ?_⟩
      have := hmost pt2 h2
      omega
    · rw [if_neg hv]
      refine top_ok h hF hpos m pt' hal ?_
      obtain ⟨_, _, _, _, _, _, _, _, _, _, _, _, bn', bd', _⟩ := top_step h hF hpos hal
      have hlt := meas_lt (a := valM num pt) (b := valM den pt) (a' := valM num pt') (b' := valM den pt') bd bd' (by
        have e1 : valM num pt' * valM den pt = d * (q * valM num pt') := by rw [hq]; ac_rfl
        have e2 : valM num pt * valM den pt' = d * (p * valM den pt') := by rw [hp]; ac_rfl
        rw [e1, e2, ← Int.mul_sub, hval]
        have := Int.mul_le_mul_of_nonneg_left (show 1 ≤ v by omega) (show 0 ≤ d by omega)
        omega)
      have hnn : 0 ≤ ((134217728 * valM den pt' - valM num pt') * 18014398509481984) / valM den pt' := Int.ediv_nonneg (Int.mul_nonneg (by omega) (by omega)) (by omega)
      omega

end Go.Proofs

