/-
  A part of the proof that a law of dryweightlaw03 answers true: lemmas of a symbolic walk, plain functions, or contracts of the functions walked (Zv, Sx39, Zw, Zx, Zy). Conditions: none.
-/
import Derived.Test.YtjjfadfmdodmnaaPart26
import Derived.Test.YtjjfadfmdodmnaaPart22
set_option maxRecDepth 100000
set_option linter.unusedVariables false
set_option linter.unusedSimpArgs false
namespace Go.Proofs
open Go.Sx

theorem cost_parts {A B n : Int} (h : A * 1073741824 + B = n) (hB : 0 ≤ B ∧ B < 1073741824) (m : Int) : ([A, B] == [m / 1073741824, m % 1073741824]) = decide (n = m) := by
  have : ([A, B] = [m / 1073741824, m % 1073741824]) ↔ n = m := by
    simp only [List.cons.injEq, and_true]
    omega
  cases hd : decide (n = m) with
  | true => rw [beq_iff_eq, this]; exact of_decide_eq_true hd
  | false => rw [beq_eq_false_iff_ne, ne_eq, this]; exact of_decide_eq_false hd

theorem sysShows_t (bs : List (Int × Int)) (ls : List Lnk) (by' : List Int) (us : List (Lnk × Int)) (most : Int) (hs : SysOK bs ls) (hbl : by'.length = bs.length) (hul : us.length ≤ 1000000) :
    Triple Try.prog 127 [sysA bs.length ls.length, .c (.s 2 0 bs.length 1), .c (.s 3 0 us.length 5), iv .i64 most] ((2, false, .arr (aInt by')) :: (3, false, .arr (aUse us)) :: sysH bs ls) 4 (bv (showsF (allF bs ls) bs.length by' us most)) [] := by
  have hR := @showsF_iff (allF bs ls) bs.length by' us most
  generalize showsF (allF bs ls) bs.length by' us most = R at *
  have hnb := hs.nb
  have hnl := hs.nl
  have hall := allF_ok hs
  refine triple_of tB_ok Try.func127 rfl Try.call127 rfl ?_
  intro ρ w hH
  conv => whnf
  refine ⟨fun hc => ?_, fun hc => ?_⟩
  · have hc : 2000 < us.length := by have hc := of_decide_eq_true (show decide ((2000 : Int) < us.length) = true from hc); omega
    have e : R = false := by rw [← Bool.not_eq_true, hR]; omega
    rw [e]
    conv => whnf
    repeat' (first | exact trivial | exact rfl | refine And.intro ?_ ?_ | ((conv => whnf); first | exact trivial | exact rfl | refine And.intro ?_ ?_ | omega))
  have hul : ¬ 2000 < us.length := by have hc := of_decide_eq_false (show decide ((2000 : Int) < us.length) = false from hc); omega
  conv => whnf
  refine call_step (links_t bs ls (by omega) hs.boxB (by omega)) rfl rfl ?_
  conv => whnf
  refine ⟨(by repeat' (first | exact trivial | exact rfl | refine And.intro ?_ ?_ | ((conv => whnf); first | exact trivial | exact rfl | refine And.intro ?_ ?_ | omega))), (by repeat' (first | exact trivial | exact rfl | refine And.intro ?_ ?_ | ((conv => whnf); first | exact trivial | exact rfl | refine And.intro ?_ ?_ | omega))), ?_⟩
  conv => whnf
  refine mks_step tB_ok (aInt (List.replicate bs.length 0)) rfl rfl ?_
  conv => whnf
  refine ⟨bs.length, ⟨List.length_replicate, rfl, rfl, by show bs.length * 9 ≤ _; omega, fun x hx => ?_⟩, ?_⟩
  · obtain ⟨_, rfl⟩ := List.mem_replicate.1 hx
    repeat' (first | exact trivial | exact rfl | refine And.intro ?_ ?_ | ((conv => whnf); first | exact trivial | exact rfl | refine And.intro ?_ ?_ | omega))
  generalize hn : bs.length = n at *
  generalize allF bs ls = arcs at *
  conv => whnf
  refine loop_step tB_ok (G := Nat × List Int × Int × Int) 0 [] (fun g => [(28, iv .i64 g.1)]) (fun g => [(6, true, .arr (aInt g.2.1)), (8, true, .cells [.v (.int .i64 g.2.2.1), .v (.int .i64 g.2.2.2)])])
    (fun g => g.1 ≤ us.length ∧ g.2.1.length = n ∧ (∀ y ∈ g.2.1, -(g.1 * 137438953472) ≤ y ∧ y ≤ g.1 * 137438953472) ∧ (∀ u ∈ us.take g.1, useOK arcs u = true) ∧ gotF us (List.replicate n 0) = gotF (us.drop g.1) g.2.1 ∧ g.2.2.1 * 1073741824 + g.2.2.2 = costU (us.take g.1) ∧
      (-(4294967296 * (g.1 : Int)) ≤ g.2.2.1 ∧ g.2.2.1 ≤ 4294967296 * (g.1 : Int)) ∧ (0 ≤ g.2.2.2 ∧ g.2.2.2 ≤ 1073741824 * (g.1 : Int))) (fun g => us.length - g.1) ?_
  conv => whnf
  refine ⟨⟨(0, List.replicate n 0, 0, 0), ⟨Nat.zero_le _, List.length_replicate, fun y hy => by obtain ⟨_, rfl⟩ := List.mem_replicate.1 hy; simp, by simp, rfl, rfl, ⟨by simp, by simp⟩, ⟨by simp, by simp⟩⟩, ?_⟩, ?_⟩
  · conv => whnf
    repeat' (first | exact trivial | exact rfl | refine And.intro ?_ ?_ | ((conv => whnf); first | exact trivial | exact rfl | refine And.intro ?_ ?_ | omega))
  rintro ⟨i, got, A, B⟩ ⟨hi, hgl, hgb, hg, hgf, hcst, hAb, hBb⟩ ρ1 t1 hρ1
  have hi : i ≤ us.length := hi
  have hgl : got.length = n := hgl
  have hgb : ∀ y ∈ got, -((i : Int) * 137438953472) ≤ y ∧ y ≤ (i : Int) * 137438953472 := hgb
  have hg : ∀ u ∈ us.take i, useOK arcs u = true := hg
  have hgf : gotF us (List.replicate n 0) = gotF (us.drop i) got := hgf
  have hcst : A * 1073741824 + B = costU (us.take i) := hcst
  have hAb : -(4294967296 * (i : Int)) ≤ A ∧ A ≤ 4294967296 * (i : Int) := hAb
  have hBb : 0 ≤ B ∧ B ≤ 1073741824 * (i : Int) := hBb
  dsimp only
  conv => whnf
  refine ⟨fun hc => ?_, fun hc => ?_⟩
  · have hlt : i < us.length := by simpa using hc
    have hno : ¬ (us[i].1 ∈ arcs ∧ 1 ≤ us[i].2 ∧ us[i].2 ≤ 68719476736) → R = false := fun h => by
      rw [← Bool.not_eq_true, hR]
      exact fun h2 => h (useOK_iff.1 (h2.2.1 _ (List.getElem_mem hlt)))
    rw [List.drop_eq_getElem_cons hlt] at hgf
    conv => whnf
    refine ⟨i, rfl, hlt, hlt, ?_⟩
    conv => whnf
    refine lookupS_step tB_ok 4 27 4 zeroB_ok A_keyU A_keyF A_keyN A_keyE rfl ?_
    conv => whnf
    refine ⟨_, rfl, ?_⟩
    conv => whnf
    refine ⟨fun hc => ?_, fun hc => ?_⟩
    · have hk : us[i].1 ∉ arcs := by
        have : decide (encL us[i].1 ∈ arcs.map encL) = false := by simpa using (show (!decide (encL us[i].1 ∈ arcs.map encL)) = true from hc)
        exact fun h => of_decide_eq_false this ((encL_mem arcs us[i].1).2 h)
      have e : R = false := hno fun h => hk h.1
      rw [e]
      conv => whnf
      repeat' (first | exact trivial | exact rfl | refine And.intro ?_ ?_ | ((conv => whnf); first | exact trivial | exact rfl | refine And.intro ?_ ?_ | omega))
    have hk : us[i].1 ∈ arcs := by
      have : decide (encL us[i].1 ∈ arcs.map encL) = true := by simpa using (show (!decide (encL us[i].1 ∈ arcs.map encL)) = false from hc)
      exact (encL_mem arcs us[i].1).1 (of_decide_eq_true this)
    clear hc
    have hwi : withinF us[i].2 1 68719476736 = true ↔ 1 ≤ us[i].2 ∧ us[i].2 ≤ 68719476736 := by simp [withinF]
    have hwt := within_t us[i].2 1 68719476736
    generalize withinF us[i].2 1 68719476736 = W at *
    conv => whnf
    refine call_step hwt rfl rfl ?_
    conv => whnf
    refine ⟨(by repeat' (first | exact trivial | exact rfl | refine And.intro ?_ ?_ | ((conv => whnf); first | exact trivial | exact rfl | refine And.intro ?_ ?_ | omega))), (by repeat' (first | exact trivial | exact rfl | refine And.intro ?_ ?_ | ((conv => whnf); first | exact trivial | exact rfl | refine And.intro ?_ ?_ | omega))), ?_⟩
    conv => whnf
    refine ⟨fun hc => ?_, fun hc => ?_⟩
    · have hW : W = false := by simpa using (show (!W) = true from hc)
      have e : R = false := hno fun h => by rw [hwi.2 h.2] at hW; cases hW
      rw [e]
      conv => whnf
      repeat' (first | exact trivial | exact rfl | refine And.intro ?_ ?_ | ((conv => whnf); first | exact trivial | exact rfl | refine And.intro ?_ ?_ | omega))
    have hW : W = true := by simpa using (show (!W) = false from hc)
    obtain ⟨ht1, ht2⟩ := hwi.1 hW
    clear hc hwt hwi
    have hok1 : useOK arcs us[i] = true := useOK_iff.2 ⟨hk, ht1, ht2⟩
    obtain ⟨o1, o2, hmb⟩ := hall _ hk
    have h1l : (gotP us[i].1.t us[i].2 got).length = n := by rw [gotP_len]; exact hgl
    have h1b : ∀ y ∈ gotP us[i].1.t us[i].2 got, -((i : Int) * 137438953472 + 68719476736) ≤ y ∧ y ≤ (i : Int) * 137438953472 + 68719476736 :=
      gotP_bd hgb (by omega) (by rw [hgl]; exact o2.2)
    have h2l : (gotP us[i].1.f (-us[i].2) (gotP us[i].1.t us[i].2 got)).length = n := by rw [gotP_len]; exact h1l
    have h2b : ∀ y ∈ gotP us[i].1.f (-us[i].2) (gotP us[i].1.t us[i].2 got), -(((i + 1 : Nat) : Int) * 137438953472) ≤ y ∧ y ≤ ((i + 1 : Nat) : Int) * 137438953472 := fun y hy => by
      have := gotP_bd (C := 68719476736) h1b (show -68719476736 ≤ -us[i].2 ∧ -us[i].2 ≤ 68719476736 by omega) (by rw [h1l]; exact o1.2) y hy
      omega
    rw [gotF] at hgf
    have a1 := add_t us[i].1.t us[i].2 got ((i : Int) * 137438953472) (by rw [hgl]; exact o2.2) (by omega) hgb (by omega)
    have a2 := add_t us[i].1.f (-us[i].2) (gotP us[i].1.t us[i].2 got) ((i : Int) * 137438953472 + 68719476736) (by rw [h1l]; exact o1.2) (by omega) h1b (by omega)
    rw [h1l] at a2
    rw [hgl] at a1
    obtain ⟨z, hz⟩ : ∃ z, z = us[i].2 * us[i].1.m := ⟨_, rfl⟩
    have hzb := mul_bd (x := us[i].2) (y := us[i].1.m) (C := 68719476736) (D := 33554432) ⟨by omega, ht2⟩ hmb
    rw [← hz] at hzb
    have hcs : (A + z / 1073741824) * 1073741824 + (B + z % 1073741824) = costU (us.take (i + 1)) := by
      rw [take_snoc hlt, costU_snoc, ← hcst, ← hz]
      omega
    generalize gotP us[i].1.f (-us[i].2) (gotP us[i].1.t us[i].2 got) = got2 at *
    generalize gotP us[i].1.t us[i].2 got = got1 at *
    conv => whnf
    refine call_step a1 rfl rfl ?_
    conv => whnf
    refine ⟨(by repeat' (first | exact trivial | exact rfl | refine And.intro ?_ ?_ | ((conv => whnf); first | exact trivial | exact rfl | refine And.intro ?_ ?_ | omega))), (by repeat' (first | exact trivial | exact rfl | refine And.intro ?_ ?_ | ((conv => whnf); first | exact trivial | exact rfl | refine And.intro ?_ ?_ | omega))), ?_⟩
    conv => whnf
    refine ⟨-us[i].2, (congrArg IntKind.i64.wrap (show (0 : Int) - us[i].2 = -us[i].2 by omega)).trans (wrapId ⟨by omega, by omega⟩), ?_⟩
    conv => whnf
    refine call_step a2 rfl rfl ?_
    conv => whnf
    refine ⟨(by repeat' (first | exact trivial | exact rfl | refine And.intro ?_ ?_ | ((conv => whnf); first | exact trivial | exact rfl | refine And.intro ?_ ?_ | omega))), (by repeat' (first | exact trivial | exact rfl | refine And.intro ?_ ?_ | ((conv => whnf); first | exact trivial | exact rfl | refine And.intro ?_ ?_ | omega))), ?_⟩
    conv => whnf
    refine ⟨z, (congrArg IntKind.i64.wrap (show us[i].2 * us[i].1.m = z from hz.symm)).trans (wrapId ⟨by omega, by omega⟩), ?_⟩
    conv => whnf
    refine ⟨0, rfl, (show 0 < 2 by decide), ?_⟩
    conv => whnf
    refine ⟨by decide, z / 1073741824, shr_30 z, ?_⟩
    conv => whnf
    refine ⟨A + z / 1073741824, wrapId (z := A + z / 1073741824) ⟨by omega, by omega⟩, ?_⟩
    conv => whnf
    refine ⟨0, rfl, (show 0 < 2 by decide), ?_⟩
    conv => whnf
    refine ⟨1, rfl, (show 1 < 2 by decide), ?_⟩
    conv => whnf
    refine ⟨z % 1073741824, and_mask z, ?_⟩
    conv => whnf
    refine ⟨B + z % 1073741824, wrapId (z := B + z % 1073741824) ⟨by omega, by omega⟩, ?_⟩
    conv => whnf
    refine ⟨1, rfl, (show 1 < 2 by decide), ?_⟩
    conv => whnf
    refine ⟨(i : Int) + 1, wrapId (z := (i : Int) + 1) ⟨by omega, by omega⟩, ?_⟩
    refine ⟨(i + 1, got2, A + z / 1073741824, B + z % 1073741824), ⟨hlt, h2l, h2b, fun u hu => ?_, hgf, hcs, ⟨by show -(4294967296 * ((i + 1 : Nat) : Int)) ≤ A + z / 1073741824; omega, by show A + z / 1073741824 ≤ 4294967296 * ((i + 1 : Nat) : Int); omega⟩, ⟨by show 0 ≤ B + z % 1073741824; omega, by show B + z % 1073741824 ≤ 1073741824 * ((i + 1 : Nat) : Int); omega⟩⟩, by show us.length - (i + 1) < us.length - i; omega, ?_⟩
    · rw [take_snoc hlt] at hu
      rcases List.mem_append.1 hu with hu | hu
      · exact hg u hu
      · simp at hu; rw [hu]; exact hok1
    conv => whnf
    refine ⟨rfl, ?_⟩
    conv => whnf
    repeat' (first | exact trivial | exact rfl | refine And.intro ?_ ?_ | ((conv => whnf); first | exact trivial | exact rfl | refine And.intro ?_ ?_ | omega))
  have hie : i = us.length := by simp at hc; omega
  rw [hie, List.take_length] at hg hcst
  rw [hie, List.drop_length] at hgf
  have hgf : gotF us (List.replicate n 0) = got := hgf
  have heq := equal_t got by' (by omega)
  rw [hgl, hbl] at heq
  have hfin : R = (decide (got = by') && ([A + B / 1073741824, B % 1073741824] == [most / 1073741824, most % 1073741824])) := by
    rw [cost_parts (show (A + B / 1073741824) * 1073741824 + B % 1073741824 = costU us by rw [← hcst]; omega) (by omega) most]
    cases hd : (decide (got = by') && decide (costU us = most)) with
    | true =>
      simp only [Bool.and_eq_true, decide_eq_true_eq] at hd
      exact hR.2 ⟨by omega, hg, hgf.trans hd.1, hd.2⟩
    | false =>
      rw [← Bool.not_eq_true, hR]
      rintro ⟨_, _, h3, h4⟩
      rw [hgf] at h3
      rw [h3, h4] at hd
      simp at hd
  clear hgf hg hcst hR hie hi
  generalize decide (got = by') = Q at *
  conv => whnf
  refine ⟨0, rfl, (show 0 < 2 by decide), ?_⟩
  conv => whnf
  refine ⟨1, rfl, (show 1 < 2 by decide), ?_⟩
  conv => whnf
  refine ⟨by decide, B / 1073741824, shr_30 B, ?_⟩
  conv => whnf
  refine ⟨A + B / 1073741824, wrapId (z := A + B / 1073741824) ⟨by omega, by omega⟩, ?_⟩
  conv => whnf
  refine ⟨0, rfl, (show 0 < 2 by decide), ?_⟩
  conv => whnf
  refine ⟨1, rfl, (show 1 < 2 by decide), ?_⟩
  conv => whnf
  refine ⟨B % 1073741824, and_mask B, ?_⟩
  conv => whnf
  refine ⟨1, rfl, (show 1 < 2 by decide), ?_⟩
  conv => whnf
  refine call_step heq rfl rfl ?_
  conv => whnf
  refine ⟨(by repeat' (first | exact trivial | exact rfl | refine And.intro ?_ ?_ | ((conv => whnf); first | exact trivial | exact rfl | refine And.intro ?_ ?_ | omega))), (by repeat' (first | exact trivial | exact rfl | refine And.intro ?_ ?_ | ((conv => whnf); first | exact trivial | exact rfl | refine And.intro ?_ ?_ | omega))), ?_⟩
  conv => whnf
  refine ⟨fun hc => ?_, fun hc => ?_⟩
  · have hQ : Q = true := hc
    rw [hQ, Bool.true_and] at hfin
    conv => whnf
    refine ⟨by decide, most / 1073741824, shr_30 most, ?_⟩
    conv => whnf
    refine ⟨most % 1073741824, and_mask most, ?_⟩
    conv => whnf
    refine ⟨?_, trivial⟩
    exact hfin.symm
  · have hQ : Q = false := hc
    rw [hQ, Bool.false_and] at hfin
    conv => whnf
    rw [hfin]
    repeat' (first | exact trivial | exact rfl | refine And.intro ?_ ?_ | ((conv => whnf); first | exact trivial | exact rfl | refine And.intro ?_ ?_ | omega))

end Go.Proofs

namespace Go
namespace Sx

/-! ### A copy: `append([]T{}, x...)` -/

def appEK (B : Tabs) (A : Arr) (zs : List A.α) (t t' : TypeId) (x y : SV) (H : Heap) (nx : Nat) (K : Eff → Prop) : Prop :=
  match lookT B.T t, lookT B.T t', x, y with
  | some ⟨.slice el, _, _, _⟩, some ⟨.slice _, _, _, _⟩, .c (.s k 0 len sz), .c (.s k' 0 m sz') => (match lookT B.T el with
    | some ti => bif (Nat.beq ti.size sz && Nat.beq sz sz') && (Nat.ble 1 sz && (Nat.beq sz A.sz && !Nat.beq k k')) then (match look H k, look H k' with
      | some (true, .arr A0), some (_, .arr X) => (A0 = A ∧ X = A.setXs zs ∧ len = 0 ∧ m = zs.length ∧ m * (ti.bytes + 1) ≤ 140737488355328) ∧
          K ⟨.c (.s nx 0 m sz), [k, k'], [(nx, true, .arr (A.setXs zs)), (k, false, .cells [])], [nx]⟩
      | _, _ => False) else False
    | none => False)
  | _, _, _, _ => False

theorem appK_of_E {B : Tabs} {A : Arr} {zs : List A.α} {t t' : TypeId} {x y : SV} {H : Heap} {nx : Nat} {K : Eff → Prop} (h : appEK B A zs t t' x y H nx K) : appK B A zs t t' x y H nx K := by
  unfold appEK at h
  split at h
  · rename_i el s0 b0 z0 el' s1 b1 z1 k len sz k' m sz' ht ht'
    split at h
    · rename_i ti hti
      obtain ⟨hb, hq⟩ := bif_and h
      clear h
      split at hq
      · rename_i A0 ow X hlk hlk'
        obtain ⟨⟨h1, h2, rfl, rfl, h3⟩, hK⟩ := hq
        unfold appK
        simp only [ht, ht', hti, hb, cond_true, hlk, hlk']
        refine ⟨⟨h1, h2, Nat.zero_le _, by omega, by rw [Nat.zero_add]; exact h3⟩, ?_⟩
        have e1 : A.xs.take 0 ++ (zs.drop 0).take zs.length = zs := by simp
        rw [e1, Nat.zero_add]
        exact hK
      · exact hq.elim
    · exact h.elim
  · exact h.elim

theorem appE_step {cx : Cx} {B : Tabs} (hB : TabsOK cx.P B) {o : Oper} {e : Env} {H : Heap} {nx : Nat} {K : Eff → Prop} {c : Call} {x y : Operand} {t t' : TypeId} (A : Arr) (zs : List A.α)
    (hone : ∀ x, allOne (A.enc x) = true) (ho : o.op = .call c) (hc : c.callee = .builtin .append) (hca : c.args = #[x, y]) (hct : c.argTypes = #[t, t'])
    (h : appEK B A zs t t' (ev e x) (ev e y) H nx K) : ∃ F, CallOK cx o e H nx F ∧ K F := app_step hB A zs hone ho hc hca hct (appK_of_E h)

end Sx
end Go

namespace Go.Proofs
open Go.Sx

structure Bnd where
  what : Int
  at_ : Int
  u : Lnk × Int
  by_ : Int

abbrev bendA (x : Bnd) : SV := .agg [.v (.int .i64 x.what), .v (.int .i64 x.at_), .v (.int .i64 x.u.1.f), .v (.int .i64 x.u.1.t), .v (.int .i64 x.u.1.m), .v (.int .i64 x.u.1.i), .v (.int .i64 x.u.2), .v (.int .i64 x.by_)]

def bendAt (l : List (Lnk × Int)) (x : Bnd) (j : Nat) (e : Lnk × Int) : List (Lnk × Int) :=
  if x.what = 2 then l.set j (e.1, IntKind.i64.wrap (e.2 + x.by_))
  else if x.what = 3 then l.set j ({ e.1 with m := IntKind.i64.wrap (e.1.m + x.by_) }, e.2)
  else if x.what = 4 then l.take j ++ l.drop (j + 1)
  else if x.what = 5 then l ++ [e]
  else if x.what = 6 then l.set j (e.1, IntKind.i64.wrap (e.2 - 1)) ++ [(e.1, 1)]
  else l

def bentF (l : List (Lnk × Int)) (x : Bnd) : List (Lnk × Int) :=
  if l.length = 0 ∨ x.what = 1 then l ++ [x.u]
  else if Int.tmod x.at_ l.length < 0 then l
  else bendAt l x (Int.tmod x.at_ l.length).toNat (l.getD (Int.tmod x.at_ l.length).toNat (⟨0, 0, 0, 0⟩, 0))

theorem bentF_len (l : List (Lnk × Int)) (x : Bnd) : (bentF l x).length ≤ l.length + 1 := by
  unfold bentF bendAt
  repeat' split
  all_goals (simp; try omega)

def shiftF (p : List Int) (x : Bnd) : List Int :=
  if x.what = 7 ∧ 0 < p.length ∧ 0 ≤ x.at_ then p.set (Int.tmod x.at_ p.length).toNat (IntKind.i64.wrap (p.getD (Int.tmod x.at_ p.length).toNat 0 + x.by_)) else p

theorem shiftF_len (p : List Int) (x : Bnd) : (shiftF p x).length = p.length := by
  unfold shiftF
  split <;> simp

theorem shifted_t (p : List Int) (x : Bnd) (hl : p.length ≤ 1000000) : Triple Try.prog 75 [.c (.s 0 0 p.length 1), bendA x] [(0, false, .arr (aInt p))] 1 (.c (.s 1 0 (shiftF p x).length 1)) [(1, true, .arr (aInt (shiftF p x)))] := by
  obtain ⟨R, hR⟩ : ∃ R, R = shiftF p x := ⟨_, rfl⟩
  rw [← hR]
  unfold shiftF at hR
  obtain ⟨what, at_, u, by_⟩ := x
  dsimp only at *
  refine triple_of tB_ok Try.func75 rfl Try.call75 rfl ?_
  intro ρ w hH
  conv => whnf
  refine bs_step tB_ok (aInt []) rfl rfl ?_
  conv => whnf
  refine ⟨(by repeat' (first | exact trivial | exact rfl | refine And.intro ?_ ?_ | ((conv => whnf); first | exact trivial | exact rfl | refine And.intro ?_ ?_ | omega))), ?_⟩
  conv => whnf
  refine appE_step tB_ok (aInt []) p (fun _ => rfl) rfl rfl rfl rfl ?_
  conv => whnf
  refine ⟨⟨rfl, rfl, rfl, rfl, by show p.length * 9 ≤ _; omega⟩, ?_⟩
  conv => whnf
  refine ⟨fun h1 => ?_, fun h1 => ?_⟩
  · have h1 : what = 7 := by simpa using (show (what == 7) = true from h1)
    conv => whnf
    refine ⟨fun h2 => ?_, fun h2 => ?_⟩
    · have h2 : 0 < p.length := by have := of_decide_eq_true (show decide ((0 : Int) < p.length) = true from h2); omega
      conv => whnf
      refine ⟨fun h3 => ?_, fun h3 => ?_⟩
      · have h3 : 0 ≤ at_ := of_decide_eq_true (show decide (0 ≤ at_) = true from h3)
        rw [if_pos ⟨h1, h2, h3⟩] at hR
        have t1 := Int.tmod_nonneg (p.length : Int) h3
        have t2 := Int.tmod_lt_of_pos at_ (show (0 : Int) < p.length by omega)
        obtain ⟨j, hj⟩ : ∃ j : Nat, Int.tmod at_ p.length = (j : Int) := ⟨(Int.tmod at_ p.length).toNat, by omega⟩
        have hjl : j < p.length := by omega
        rw [hj, Int.toNat_natCast, getD_of hjl] at hR
        conv => whnf
        refine ⟨(show (p.length : Int) ≠ 0 by omega), (j : Int), hj, ?_⟩
        conv => whnf
        refine ⟨(show (p.length : Int) ≠ 0 by omega), (j : Int), hj, ?_⟩
        conv => whnf
        refine ⟨j, rfl, hjl, hjl, ?_⟩
        conv => whnf
        refine ⟨_, rfl, ?_⟩
        conv => whnf
        refine ⟨j, rfl, hjl, hjl, _, rfl, ?_⟩
        conv => whnf
        rw [hR]
        repeat' (first | exact trivial | exact rfl | refine And.intro ?_ ?_ | ((conv => whnf); first | exact trivial | exact rfl | refine And.intro ?_ ?_ | omega))
        all_goals simp
      · have h3 : ¬ 0 ≤ at_ := of_decide_eq_false (show decide (0 ≤ at_) = false from h3)
        rw [if_neg (by omega)] at hR
        conv => whnf
        rw [hR]
        repeat' (first | exact trivial | exact rfl | refine And.intro ?_ ?_ | ((conv => whnf); first | exact trivial | exact rfl | refine And.intro ?_ ?_ | omega))
    · have h2 : ¬ 0 < p.length := by have := of_decide_eq_false (show decide ((0 : Int) < p.length) = false from h2); omega
      rw [if_neg (by omega)] at hR
      conv => whnf
      rw [hR]
      repeat' (first | exact trivial | exact rfl | refine And.intro ?_ ?_ | ((conv => whnf); first | exact trivial | exact rfl | refine And.intro ?_ ?_ | omega))
  · have h1 : what ≠ 7 := by simpa using (show (what == 7) = false from h1)
    rw [if_neg (fun h => h1 h.1)] at hR
    conv => whnf
    rw [hR]
    repeat' (first | exact trivial | exact rfl | refine And.intro ?_ ?_ | ((conv => whnf); first | exact trivial | exact rfl | refine And.intro ?_ ?_ | omega))

end Go.Proofs

namespace Go.Proofs
open Go.Sx

theorem bent_t (l : List (Lnk × Int)) (x : Bnd) (hl : l.length ≤ 1000000) : Triple Try.prog 74 [.c (.s 0 0 l.length 5), bendA x] [(0, false, .arr (aUse l))] 1 (.c (.s 1 0 (bentF l x).length 5)) [(1, true, .arr (aUse (bentF l x)))] := by
  obtain ⟨R, hR⟩ : ∃ R, R = bentF l x := ⟨_, rfl⟩
  rw [← hR]
  unfold bentF at hR
  obtain ⟨what, at_, ⟨⟨uf, ut, um, ui⟩, utm⟩, by_⟩ := x
  dsimp only at hR
  refine triple_of tB_ok Try.func74 rfl Try.call74 rfl ?_
  intro ρ w hH
  conv => whnf
  refine bs_step tB_ok (aUse []) rfl rfl ?_
  conv => whnf
  refine ⟨(by repeat' (first | exact trivial | exact rfl | refine And.intro ?_ ?_ | ((conv => whnf); first | exact trivial | exact rfl | refine And.intro ?_ ?_ | omega))), ?_⟩
  conv => whnf
  refine appE_step tB_ok (aUse []) l (fun _ => rfl) rfl rfl rfl rfl ?_
  conv => whnf
  refine ⟨⟨rfl, rfl, rfl, rfl, by show l.length * 41 ≤ _; omega⟩, ?_⟩
  conv => whnf
  refine ⟨fun h1 => ?_, fun h1 => ?_⟩
  · have h1 : l.length = 0 := by
      have : ((l.length : Int) == 0) = true := h1
      simp at this; rw [this]; rfl
    rw [if_pos (.inl h1)] at hR
    conv => whnf
    refine bs_step tB_ok (aUse [(⟨uf, ut, um, ui⟩, utm)]) rfl rfl ?_
    conv => whnf
    refine ⟨(by repeat' (first | exact trivial | exact rfl | refine And.intro ?_ ?_ | ((conv => whnf); first | exact trivial | exact rfl | refine And.intro ?_ ?_ | omega))), ?_⟩
    conv => whnf
    refine app_step tB_ok (aUse l) [(⟨uf, ut, um, ui⟩, utm)] (fun _ => rfl) rfl rfl rfl rfl ?_
    conv => whnf
    refine ⟨⟨rfl, rfl, Nat.le_refl _, Nat.le_refl _, by show (l.length + 1) * 41 ≤ _; omega⟩, ?_⟩
    conv => whnf
    rw [hR]
    repeat' (first | exact trivial | exact rfl | refine And.intro ?_ ?_ | ((conv => whnf); first | exact trivial | exact rfl | refine And.intro ?_ ?_ | omega))
    all_goals first | exact (congrArg aUse app1 : _) | simp
  have h1 : l.length ≠ 0 := by
    have : ((l.length : Int) == 0) = false := h1
    intro h; rw [h] at this; simp at this
  conv => whnf
  refine ⟨fun h2 => ?_, fun h2 => ?_⟩
  · have h2 : what = 1 := by simpa using (show (what == 1) = true from h2)
    rw [if_pos (.inr h2)] at hR
    conv => whnf
    refine bs_step tB_ok (aUse [(⟨uf, ut, um, ui⟩, utm)]) rfl rfl ?_
    conv => whnf
    refine ⟨(by repeat' (first | exact trivial | exact rfl | refine And.intro ?_ ?_ | ((conv => whnf); first | exact trivial | exact rfl | refine And.intro ?_ ?_ | omega))), ?_⟩
    conv => whnf
    refine app_step tB_ok (aUse l) [(⟨uf, ut, um, ui⟩, utm)] (fun _ => rfl) rfl rfl rfl rfl ?_
    conv => whnf
    refine ⟨⟨rfl, rfl, Nat.le_refl _, Nat.le_refl _, by show (l.length + 1) * 41 ≤ _; omega⟩, ?_⟩
    conv => whnf
    rw [hR]
    repeat' (first | exact trivial | exact rfl | refine And.intro ?_ ?_ | ((conv => whnf); first | exact trivial | exact rfl | refine And.intro ?_ ?_ | omega))
    all_goals first | exact (congrArg aUse app1 : _) | simp
  have h2 : what ≠ 1 := by simpa using (show (what == 1) = false from h2)
  rw [if_neg (by omega)] at hR
  have t2 := Int.tmod_lt_of_pos at_ (show (0 : Int) < l.length by omega)
  obtain ⟨k, hk⟩ : ∃ k, Int.tmod at_ l.length = k := ⟨_, rfl⟩
  rw [hk] at hR t2
  conv => whnf
  refine ⟨(show (l.length : Int) ≠ 0 by omega), k, hk, ?_⟩
  conv => whnf
  refine ⟨fun h3 => ?_, fun h3 => ?_⟩
  · have h3 : k < 0 := of_decide_eq_true (show decide (k < 0) = true from h3)
    rw [if_pos h3] at hR
    conv => whnf
    rw [hR]
    repeat' (first | exact trivial | exact rfl | refine And.intro ?_ ?_ | ((conv => whnf); first | exact trivial | exact rfl | refine And.intro ?_ ?_ | omega))
  have h3 : ¬ k < 0 := of_decide_eq_false (show decide (k < 0) = false from h3)
  rw [if_neg h3] at hR
  obtain ⟨j, rfl⟩ : ∃ j : Nat, k = (j : Int) := ⟨k.toNat, by omega⟩
  have hjl : j < l.length := by omega
  have hjd : l.getD j (⟨0, 0, 0, 0⟩, 0) = l[j] := by rw [List.getD_eq_getElem?_getD, List.getElem?_eq_getElem hjl]; rfl
  rw [Int.toNat_natCast, hjd] at hR
  unfold bendAt at hR
  dsimp only at hR
  clear hk h1 h2 h3 t2 hjd
  conv => whnf
  refine ⟨fun h4 => ?_, fun h4 => ?_⟩
  · have h4 : what = 2 := by simpa using (show (what == 2) = true from h4)
    rw [if_pos h4] at hR
    conv => whnf
    refine ⟨j, rfl, hjl, hjl, ?_⟩
    conv => whnf
    refine ⟨_, rfl, ?_⟩
    conv => whnf
    refine ⟨j, rfl, hjl, hjl, (l[j].1, IntKind.i64.wrap (l[j].2 + by_)), rfl, ?_⟩
    conv => whnf
    rw [hR]
    repeat' (first | exact trivial | exact rfl | refine And.intro ?_ ?_ | ((conv => whnf); first | exact trivial | exact rfl | refine And.intro ?_ ?_ | omega))
    all_goals simp
  have h4 : what ≠ 2 := by simpa using (show (what == 2) = false from h4)
  rw [if_neg h4] at hR
  conv => whnf
  refine ⟨fun h5 => ?_, fun h5 => ?_⟩
  · have h5 : what = 3 := by simpa using (show (what == 3) = true from h5)
    rw [if_pos h5] at hR
    conv => whnf
    refine ⟨j, rfl, hjl, hjl, ?_⟩
    conv => whnf
    refine ⟨_, rfl, ?_⟩
    conv => whnf
    refine ⟨j, rfl, hjl, hjl, ({ l[j].1 with m := IntKind.i64.wrap (l[j].1.m + by_) }, l[j].2), rfl, ?_⟩
    conv => whnf
    rw [hR]
    repeat' (first | exact trivial | exact rfl | refine And.intro ?_ ?_ | ((conv => whnf); first | exact trivial | exact rfl | refine And.intro ?_ ?_ | omega))
    all_goals simp
  have h5 : what ≠ 3 := by simpa using (show (what == 3) = false from h5)
  rw [if_neg h5] at hR
  conv => whnf
  refine ⟨fun h6 => ?_, fun h6 => ?_⟩
  · have h6 : what = 4 := by simpa using (show (what == 4) = true from h6)
    rw [if_pos h6] at hR
    conv => whnf
    refine slC_step tB_ok rfl ?_
    conv => whnf
    refine ⟨j, rfl, rfl, by show j ≤ l.length; omega, ?_⟩
    conv => whnf
    refine ⟨(j : Int) + 1, wrapId (z := (j : Int) + 1) ⟨by omega, by omega⟩, ?_⟩
    conv => whnf
    refine ⟨Nat.le_refl _, j + 1, rfl, hjl, ?_⟩
    conv => whnf
    refine appCut_step tB_ok (aUse l) (fun _ => rfl) rfl rfl rfl rfl ?_
    conv => whnf
    have hsub : subN l.length (j + 1) = l.length - (j + 1) := subN_eq _ _
    refine ⟨⟨rfl, by show j ≤ l.length; omega, by show (j + 1) + subN l.length (j + 1) ≤ l.length; omega, by show (j + subN l.length (j + 1)) * 41 ≤ _; omega⟩, ?_⟩
    conv => whnf
    have e1 : (l.take j).take j ++ (l.drop (j + 1)).take (subN l.length (j + 1)) = l.take j ++ l.drop (j + 1) := by
      rw [hsub, List.take_of_length_le (show (l.take j).length ≤ j by rw [List.length_take]; omega), List.take_of_length_le (show (l.drop (j + 1)).length ≤ l.length - (j + 1) by rw [List.length_drop]; omega)]
    have e2 : j + subN l.length (j + 1) = (l.take j ++ l.drop (j + 1)).length := by simp; omega
    rw [hR]
    repeat' (first | exact trivial | exact rfl | refine And.intro ?_ ?_ | ((conv => whnf); first | exact trivial | exact rfl | refine And.intro ?_ ?_ | omega))
    all_goals first | exact (congrArg aUse e1 : _) | exact e2
  have h6 : what ≠ 4 := by simpa using (show (what == 4) = false from h6)
  rw [if_neg h6] at hR
  conv => whnf
  refine ⟨fun h7 => ?_, fun h7 => ?_⟩
  · have h7 : what = 5 := by simpa using (show (what == 5) = true from h7)
    rw [if_pos h7] at hR
    conv => whnf
    refine ⟨j, rfl, hjl, hjl, ?_⟩
    conv => whnf
    refine bs_step tB_ok (aUse [l[j]]) rfl rfl ?_
    conv => whnf
    refine ⟨(by repeat' (first | exact trivial | exact rfl | refine And.intro ?_ ?_ | ((conv => whnf); first | exact trivial | exact rfl | refine And.intro ?_ ?_ | omega))), ?_⟩
    conv => whnf
    refine app_step tB_ok (aUse l) [l[j]] (fun _ => rfl) rfl rfl rfl rfl ?_
    conv => whnf
    refine ⟨⟨rfl, rfl, Nat.le_refl _, Nat.le_refl _, by show (l.length + 1) * 41 ≤ _; omega⟩, ?_⟩
    conv => whnf
    rw [hR]
    repeat' (first | exact trivial | exact rfl | refine And.intro ?_ ?_ | ((conv => whnf); first | exact trivial | exact rfl | refine And.intro ?_ ?_ | omega))
    all_goals first | exact (congrArg aUse app1 : _) | simp
  have h7 : what ≠ 5 := by simpa using (show (what == 5) = false from h7)
  rw [if_neg h7] at hR
  conv => whnf
  refine ⟨fun h8 => ?_, fun h8 => ?_⟩
  · have h8 : what = 6 := by simpa using (show (what == 6) = true from h8)
    rw [if_pos h8] at hR
    conv => whnf
    refine ⟨j, rfl, hjl, hjl, ?_⟩
    conv => whnf
    refine ⟨j, rfl, hjl, hjl, ?_⟩
    conv => whnf
    refine ⟨_, rfl, ?_⟩
    conv => whnf
    refine ⟨j, rfl, hjl, hjl, (l[j].1, IntKind.i64.wrap (l[j].2 - 1)), rfl, ?_⟩
    conv => whnf
    have e3 : (l.set j (l[j].1, IntKind.i64.wrap (l[j].2 - 1))).take l.length ++ [(l[j].1, (1 : Int))] = l.set j (l[j].1, IntKind.i64.wrap (l[j].2 - 1)) ++ [(l[j].1, 1)] := by
      rw [List.take_of_length_le (by simp)]
    have hsl : l.length ≤ (l.set j (l[j].1, IntKind.i64.wrap (l[j].2 - 1))).length := by simp
    refine bs_step tB_ok (aUse [(l[j].1, (1 : Int))]) rfl rfl ?_
    conv => whnf
    refine ⟨(by repeat' (first | exact trivial | exact rfl | refine And.intro ?_ ?_ | ((conv => whnf); first | exact trivial | exact rfl | refine And.intro ?_ ?_ | omega))), ?_⟩
    conv => whnf
    refine app_step tB_ok (aUse (l.set j (l[j].1, IntKind.i64.wrap (l[j].2 - 1)))) [(l[j].1, (1 : Int))] (fun _ => rfl) rfl rfl rfl rfl ?_
    conv => whnf
    refine ⟨⟨rfl, rfl, hsl, Nat.le_refl _, by show (l.length + 1) * 41 ≤ _; omega⟩, ?_⟩
    conv => whnf
    rw [hR]
    repeat' (first | exact trivial | exact rfl | refine And.intro ?_ ?_ | ((conv => whnf); first | exact trivial | exact rfl | refine And.intro ?_ ?_ | omega))
    all_goals first | exact (congrArg aUse e3 : _) | simp
  have h8 : what ≠ 6 := by simpa using (show (what == 6) = false from h8)
  rw [if_neg h8] at hR
  conv => whnf
  rw [hR]
  repeat' (first | exact trivial | exact rfl | refine And.intro ?_ ?_ | ((conv => whnf); first | exact trivial | exact rfl | refine And.intro ?_ ?_ | omega))

end Go.Proofs

namespace Go.Proofs
open Go.Sx

theorem sysCheckBest_t (bs : List (Int × Int)) (ls : List Lnk) (form : List (Int × Int)) (v : Int) (us : List (Lnk × Int)) (pt : List Int) (hb : bs.length ≤ 1000000) (hl : ls.length ≤ 1000000) (hfl : form.length ≤ 100000) (hul : us.length ≤ 1000000) (hpl : pt.length ≤ 1000000) (hpb : ∀ x ∈ pt, -9223372036854775808 ≤ x ∧ x ≤ 9223372036854775807) :
    Triple Try.prog 76 [sysA bs.length ls.length, .c (.s 2 0 form.length 2), .agg [.v (.int .i64 v), .s 3 0 us.length 5, .s 4 0 pt.length 1]]
      ((2, false, .arr (aSpan form)) :: (3, false, .arr (aUse us)) :: (4, false, .arr (aInt pt)) :: sysH bs ls) 5 (iv .i64 (checkBestF bs ls form v us pt)) [] := by
  have hF : checkBestF bs ls form v us pt = if checkF bs ls ≠ 0 then checkF bs ls else if formF form bs.length ≠ 0 then formF form bs.length else if (allowsF bs ls pt).2 = false then 8 else if valM form pt ≠ v then 8 else
    if showsF (allF bs ls) bs.length (coefF 1 form (List.replicate bs.length 0)) us v = false then 8 else 0 := rfl
  generalize checkBestF bs ls form v us pt = R at *
  have hct := check_t bs ls hb hl
  by_cases hck : checkF bs ls = 0
  · have hs := checkF_ok.1 hck
    have hnb := hs.nb
    rw [if_neg (by simpa using hck)] at hF
    rw [hck] at hct
    have hft := formed_t form bs.length hfl (by omega)
    by_cases hfo : formF form bs.length = 0
    · rw [if_neg (by simpa using hfo)] at hF
      rw [hfo] at hft
      obtain ⟨f1, f2, _⟩ := formF_ok hfo
      obtain ⟨r, t, hbr⟩ : ∃ r t, brokenF bs ls pt = (r, t) := ⟨_, _, rfl⟩
      have hbt := broken_t bs ls pt hs hpb r t hbr
      have hba := broken_allows (pt := pt) hs (ls := ls)
      rw [hbr] at hba
      have hba : t = !(allowsF bs ls pt).2 := hba
      refine triple_of tB_ok Try.func76 rfl Try.call76 rfl ?_
      intro ρ w hH
      conv => whnf
      refine call_step hct rfl rfl ?_
      conv => whnf
      refine ⟨(by repeat' (first | exact trivial | exact rfl | refine And.intro ?_ ?_ | ((conv => whnf); first | exact trivial | exact rfl | refine And.intro ?_ ?_ | omega))), (by repeat' (first | exact trivial | exact rfl | refine And.intro ?_ ?_ | ((conv => whnf); first | exact trivial | exact rfl | refine And.intro ?_ ?_ | omega))), ?_⟩
      conv => whnf
      refine ⟨fun hc => absurd hc (by simp), fun hc => ?_⟩
      conv => whnf
      refine call_step hft rfl rfl ?_
      conv => whnf
      refine ⟨(by repeat' (first | exact trivial | exact rfl | refine And.intro ?_ ?_ | ((conv => whnf); first | exact trivial | exact rfl | refine And.intro ?_ ?_ | omega))), (by repeat' (first | exact trivial | exact rfl | refine And.intro ?_ ?_ | ((conv => whnf); first | exact trivial | exact rfl | refine And.intro ?_ ?_ | omega))), ?_⟩
      conv => whnf
      refine ⟨fun hc => absurd hc (by simp), fun hc => ?_⟩
      conv => whnf
      refine call_step hbt rfl rfl ?_
      conv => whnf
      refine ⟨(by repeat' (first | exact trivial | exact rfl | refine And.intro ?_ ?_ | ((conv => whnf); first | exact trivial | exact rfl | refine And.intro ?_ ?_ | omega))), (by repeat' (first | exact trivial | exact rfl | refine And.intro ?_ ?_ | ((conv => whnf); first | exact trivial | exact rfl | refine And.intro ?_ ?_ | omega))), ?_⟩
      conv => whnf
      refine ⟨fun hc => ?_, fun hc => ?_⟩
      · have hc : t = true := hc
        have ha : (allowsF bs ls pt).2 = false := by rw [hc] at hba; simpa using hba.symm
        rw [if_pos ha] at hF
        rw [hF]
        conv => whnf
        repeat' (first | exact trivial | exact rfl | refine And.intro ?_ ?_ | ((conv => whnf); first | exact trivial | exact rfl | refine And.intro ?_ ?_ | omega))
      have hc : t = false := hc
      have ha : (allowsF bs ls pt).2 = true := by rw [hc] at hba; simpa using hba.symm
      rw [if_neg (by rw [ha]; simp)] at hF
      obtain ⟨hpn, hpp⟩ := (allows_iff hs).1 ha
      have hp2 := pot_bd hs hpn hpp
      have hvt := value_sys_t form pt (by omega) (fun t ht => by rw [hpn]; exact f2 t ht) (fun x hx => by have := hp2 x hx; omega)
      conv => whnf
      refine call_step hvt rfl rfl ?_
      conv => whnf
      refine ⟨(by repeat' (first | exact trivial | exact rfl | refine And.intro ?_ ?_ | ((conv => whnf); first | exact trivial | exact rfl | refine And.intro ?_ ?_ | omega))), (by repeat' (first | exact trivial | exact rfl | refine And.intro ?_ ?_ | ((conv => whnf); first | exact trivial | exact rfl | refine And.intro ?_ ?_ | omega))), ?_⟩
      conv => whnf
      refine ⟨fun hc => ?_, fun hc => ?_⟩
      · have hc : valM form pt ≠ v := by simpa using (show (valM form pt != v) = true from hc)
        rw [if_pos hc] at hF
        rw [hF]
        conv => whnf
        repeat' (first | exact trivial | exact rfl | refine And.intro ?_ ?_ | ((conv => whnf); first | exact trivial | exact rfl | refine And.intro ?_ ?_ | omega))
      have hc : valM form pt = v := by simpa using (show (valM form pt != v) = false from hc)
      rw [if_neg (by simpa using hc)] at hF
      have hcl : (coefF 1 form (List.replicate bs.length 0)).length = bs.length := by rw [coefF_len, List.length_replicate]
      have hst := sysShows_t bs ls (coefF 1 form (List.replicate bs.length 0)) us v hs hcl hul
      have hcf := coef_nil_t bs.length form 1 0 (by omega) (by omega) (formB_of hfo (by omega))
      generalize coefF 1 form (List.replicate bs.length 0) = cf at *
      generalize showsF (allF bs ls) bs.length cf us v = S at *
      conv => whnf
      refine call_step hcf rfl rfl ?_
      conv => whnf
      refine ⟨(by repeat' (first | exact trivial | exact rfl | refine And.intro ?_ ?_ | ((conv => whnf); first | exact trivial | exact rfl | refine And.intro ?_ ?_ | omega))), (by repeat' (first | exact trivial | exact rfl | refine And.intro ?_ ?_ | ((conv => whnf); first | exact trivial | exact rfl | refine And.intro ?_ ?_ | omega))), ?_⟩
      conv => whnf
      refine call_step hst rfl rfl ?_
      conv => whnf
      refine ⟨(by repeat' (first | exact trivial | exact rfl | refine And.intro ?_ ?_ | ((conv => whnf); first | exact trivial | exact rfl | refine And.intro ?_ ?_ | omega))), (by repeat' (first | exact trivial | exact rfl | refine And.intro ?_ ?_ | ((conv => whnf); first | exact trivial | exact rfl | refine And.intro ?_ ?_ | omega))), ?_⟩
      conv => whnf
      refine ⟨fun hc => ?_, fun hc => ?_⟩
      · have hc : S = false := by simpa using (show (!S) = true from hc)
        rw [if_pos hc] at hF
        rw [hF]
        conv => whnf
        repeat' (first | exact trivial | exact rfl | refine And.intro ?_ ?_ | ((conv => whnf); first | exact trivial | exact rfl | refine And.intro ?_ ?_ | omega))
      · have hc : S = true := by simpa using (show (!S) = false from hc)
        rw [if_neg (by rw [hc]; simp)] at hF
        rw [hF]
        conv => whnf
        repeat' (first | exact trivial | exact rfl | refine And.intro ?_ ?_ | ((conv => whnf); first | exact trivial | exact rfl | refine And.intro ?_ ?_ | omega))
    · rw [if_pos (by simpa using hfo)] at hF
      rw [hF]
      generalize formF form bs.length = c at *
      refine triple_of tB_ok Try.func76 rfl Try.call76 rfl ?_
      intro ρ w hH
      conv => whnf
      refine call_step hct rfl rfl ?_
      conv => whnf
      refine ⟨(by repeat' (first | exact trivial | exact rfl | refine And.intro ?_ ?_ | ((conv => whnf); first | exact trivial | exact rfl | refine And.intro ?_ ?_ | omega))), (by repeat' (first | exact trivial | exact rfl | refine And.intro ?_ ?_ | ((conv => whnf); first | exact trivial | exact rfl | refine And.intro ?_ ?_ | omega))), ?_⟩
      conv => whnf
      refine ⟨fun hc => absurd hc (by simp), fun hc => ?_⟩
      conv => whnf
      refine call_step hft rfl rfl ?_
      conv => whnf
      refine ⟨(by repeat' (first | exact trivial | exact rfl | refine And.intro ?_ ?_ | ((conv => whnf); first | exact trivial | exact rfl | refine And.intro ?_ ?_ | omega))), (by repeat' (first | exact trivial | exact rfl | refine And.intro ?_ ?_ | ((conv => whnf); first | exact trivial | exact rfl | refine And.intro ?_ ?_ | omega))), ?_⟩
      conv => whnf
      refine ⟨fun hc => ?_, fun hc => absurd (by simpa using (show (c != 0) = false from hc)) hfo⟩
      conv => whnf
      repeat' (first | exact trivial | exact rfl | refine And.intro ?_ ?_ | ((conv => whnf); first | exact trivial | exact rfl | refine And.intro ?_ ?_ | omega))
  · rw [if_pos (by simpa using hck)] at hF
    rw [hF]
    generalize checkF bs ls = c at *
    refine triple_of tB_ok Try.func76 rfl Try.call76 rfl ?_
    intro ρ w hH
    conv => whnf
    refine call_step hct rfl rfl ?_
    conv => whnf
    refine ⟨(by repeat' (first | exact trivial | exact rfl | refine And.intro ?_ ?_ | ((conv => whnf); first | exact trivial | exact rfl | refine And.intro ?_ ?_ | omega))), (by repeat' (first | exact trivial | exact rfl | refine And.intro ?_ ?_ | ((conv => whnf); first | exact trivial | exact rfl | refine And.intro ?_ ?_ | omega))), ?_⟩
    conv => whnf
    refine ⟨fun hc => ?_, fun hc => absurd (by simpa using (show (c != 0) = false from hc)) hck⟩
    conv => whnf
    repeat' (first | exact trivial | exact rfl | refine And.intro ?_ ?_ | ((conv => whnf); first | exact trivial | exact rfl | refine And.intro ?_ ?_ | omega))

theorem sysCheckTop_t (bs : List (Int × Int)) (ls : List Lnk) (num den : List (Int × Int)) (p q : Int) (us : List (Lnk × Int)) (pt : List Int) (hb : bs.length ≤ 240) (hl : ls.length ≤ 1000000) (hnl : num.length ≤ 1000) (hdl : den.length ≤ 1000) (hul : us.length ≤ 1000000) (hpl : pt.length ≤ 1000000) (hpb : ∀ x ∈ pt, -9223372036854775808 ≤ x ∧ x ≤ 9223372036854775807) :
    Triple Try.prog 77 [sysA bs.length ls.length, .c (.s 2 0 num.length 2), .c (.s 3 0 den.length 2), .agg [.v (.int .i64 p), .v (.int .i64 q), .s 4 0 us.length 5, .s 5 0 pt.length 1]]
      ((2, false, .arr (aSpan num)) :: (3, false, .arr (aSpan den)) :: (4, false, .arr (aUse us)) :: (5, false, .arr (aInt pt)) :: sysH bs ls) 6 (iv .i64 (checkTopF bs ls num den p q us pt)) [] := by
  have hF : checkTopF bs ls num den p q us pt = if checkF bs ls ≠ 0 then checkF bs ls else if formsF bs num den ≠ 0 then formsF bs num den else
    if ¬ ((1 ≤ q ∧ q ≤ 134217728) ∧ (-134217728 ≤ p ∧ p ≤ 134217728) ∧ Int.gcd p q = 1) then 8 else if (allowsF bs ls pt).2 = false then 8 else
    if valM den pt ≤ 0 ∨ valM num pt * q ≠ valM den pt * p ∨ showsF (allF bs ls) bs.length (coefF (-p) den (coefF q num (List.replicate bs.length 0))) us 0 = false then 8 else 0 := rfl
  generalize checkTopF bs ls num den p q us pt = R at *
  have hct := check_t bs ls (by omega) hl
  by_cases hck : checkF bs ls = 0
  · have hs := checkF_ok.1 hck
    have hnb := hs.nb
    rw [if_neg (by simpa using hck)] at hF
    rw [hck] at hct
    have hft := divides_t bs ls num den hb hnl hdl
    by_cases hfo : formsF bs num den = 0
    · rw [if_neg (by simpa using hfo)] at hF
      rw [hfo] at hft
      obtain ⟨hn0, hd0, pn, pd⟩ := formsF_ok hfo
      obtain ⟨n1, n2, _⟩ := formF_ok hn0
      obtain ⟨d1, d2, _⟩ := formF_ok hd0
      refine triple_of tB_ok Try.func77 rfl Try.call77 rfl ?_
      intro ρ w hH
      conv => whnf
      refine call_step hct rfl rfl ?_
      conv => whnf
      refine ⟨(by repeat' (first | exact trivial | exact rfl | refine And.intro ?_ ?_ | ((conv => whnf); first | exact trivial | exact rfl | refine And.intro ?_ ?_ | omega))), (by repeat' (first | exact trivial | exact rfl | refine And.intro ?_ ?_ | ((conv => whnf); first | exact trivial | exact rfl | refine And.intro ?_ ?_ | omega))), ?_⟩
      conv => whnf
      refine ⟨fun hc => absurd hc (by simp), fun hc => ?_⟩
      conv => whnf
      refine call_step hft rfl rfl ?_
      conv => whnf
      refine ⟨(by repeat' (first | exact trivial | exact rfl | refine And.intro ?_ ?_ | ((conv => whnf); first | exact trivial | exact rfl | refine And.intro ?_ ?_ | omega))), (by repeat' (first | exact trivial | exact rfl | refine And.intro ?_ ?_ | ((conv => whnf); first | exact trivial | exact rfl | refine And.intro ?_ ?_ | omega))), ?_⟩
      conv => whnf
      refine ⟨fun hc => absurd hc (by simp), fun hc => ?_⟩
      conv => whnf
      refine ⟨fun hc => ?_, fun hc => ?_⟩
      · have hc : q < 1 := of_decide_eq_true (show decide (q < 1) = true from hc)
        rw [if_pos (by omega)] at hF
        rw [hF]
        conv => whnf
        repeat' (first | exact trivial | exact rfl | refine And.intro ?_ ?_ | ((conv => whnf); first | exact trivial | exact rfl | refine And.intro ?_ ?_ | omega))
      have q1 : ¬ q < 1 := of_decide_eq_false (show decide (q < 1) = false from hc)
      clear hc
      conv => whnf
      refine ⟨fun hc => ?_, fun hc => ?_⟩
      · have hc : 134217728 < q := of_decide_eq_true (show decide (134217728 < q) = true from hc)
        rw [if_pos (by omega)] at hF
        rw [hF]
        conv => whnf
        repeat' (first | exact trivial | exact rfl | refine And.intro ?_ ?_ | ((conv => whnf); first | exact trivial | exact rfl | refine And.intro ?_ ?_ | omega))
      have q2 : ¬ 134217728 < q := of_decide_eq_false (show decide (134217728 < q) = false from hc)
      clear hc
      conv => whnf
      refine ⟨fun hc => ?_, fun hc => ?_⟩
      · have hc : p < -134217728 := of_decide_eq_true (show decide (p < -134217728) = true from hc)
        rw [if_pos (by omega)] at hF
        rw [hF]
        conv => whnf
        repeat' (first | exact trivial | exact rfl | refine And.intro ?_ ?_ | ((conv => whnf); first | exact trivial | exact rfl | refine And.intro ?_ ?_ | omega))
      have p1 : ¬ p < -134217728 := of_decide_eq_false (show decide (p < -134217728) = false from hc)
      clear hc
      conv => whnf
      refine ⟨fun hc => ?_, fun hc => ?_⟩
      · have hc : 134217728 < p := of_decide_eq_true (show decide (134217728 < p) = true from hc)
        rw [if_pos (by omega)] at hF
        rw [hF]
        conv => whnf
        repeat' (first | exact trivial | exact rfl | refine And.intro ?_ ?_ | ((conv => whnf); first | exact trivial | exact rfl | refine And.intro ?_ ?_ | omega))
      have p2 : ¬ 134217728 < p := of_decide_eq_false (show decide (134217728 < p) = false from hc)
      clear hc
      have hcm := common_t p q (by omega) (by omega)
      generalize hgc : Int.gcd p q = G at *
      conv => whnf
      refine call_step hcm rfl rfl ?_
      conv => whnf
      refine ⟨(by repeat' (first | exact trivial | exact rfl | refine And.intro ?_ ?_ | ((conv => whnf); first | exact trivial | exact rfl | refine And.intro ?_ ?_ | omega))), (by repeat' (first | exact trivial | exact rfl | refine And.intro ?_ ?_ | ((conv => whnf); first | exact trivial | exact rfl | refine And.intro ?_ ?_ | omega))), ?_⟩
      conv => whnf
      refine ⟨fun hc => ?_, fun hc => ?_⟩
      · have hc : G ≠ 1 := by
          have : ((G : Int) != 1) = true := hc
          intro h; rw [h] at this; simp at this
        rw [if_pos (fun h => hc h.2.2)] at hF
        rw [hF]
        conv => whnf
        repeat' (first | exact trivial | exact rfl | refine And.intro ?_ ?_ | ((conv => whnf); first | exact trivial | exact rfl | refine And.intro ?_ ?_ | omega))
      have hG : G = 1 := by
        have : ((G : Int) != 1) = false := hc
        simp at this; omega
      clear hc
      rw [if_neg (by omega)] at hF
      obtain ⟨r, t, hbr⟩ : ∃ r t, brokenF bs ls pt = (r, t) := ⟨_, _, rfl⟩
      have hbt := broken_t bs ls pt hs hpb r t hbr
      have hba := broken_allows (pt := pt) hs (ls := ls)
      rw [hbr] at hba
      have hba : t = !(allowsF bs ls pt).2 := hba
      conv => whnf
      refine call_step hbt rfl rfl ?_
      conv => whnf
      refine ⟨(by repeat' (first | exact trivial | exact rfl | refine And.intro ?_ ?_ | ((conv => whnf); first | exact trivial | exact rfl | refine And.intro ?_ ?_ | omega))), (by repeat' (first | exact trivial | exact rfl | refine And.intro ?_ ?_ | ((conv => whnf); first | exact trivial | exact rfl | refine And.intro ?_ ?_ | omega))), ?_⟩
      conv => whnf
      refine ⟨fun hc => ?_, fun hc => ?_⟩
      · have hc : t = true := hc
        have ha : (allowsF bs ls pt).2 = false := by rw [hc] at hba; simpa using hba.symm
        rw [if_pos ha] at hF
        rw [hF]
        conv => whnf
        repeat' (first | exact trivial | exact rfl | refine And.intro ?_ ?_ | ((conv => whnf); first | exact trivial | exact rfl | refine And.intro ?_ ?_ | omega))
      have hc : t = false := hc
      have ha : (allowsF bs ls pt).2 = true := by rw [hc] at hba; simpa using hba.symm
      rw [if_neg (by rw [ha]; simp)] at hF
      obtain ⟨hpn, hpp⟩ := (allows_iff hs).1 ha
      have hp2 := pot_bd hs hpn hpp
      have hv1 := value_sys_t num pt (by omega) (fun t ht => by rw [hpn]; exact n2 t ht) (fun x hx => by have := hp2 x hx; omega)
      have hv2 := value_sys_t den pt (by omega) (fun t ht => by rw [hpn]; exact d2 t ht) (fun x hx => by have := hp2 x hx; omega)
      obtain ⟨n16, pn⟩ := partB_iff.1 pn
      obtain ⟨d16, pd⟩ := partB_iff.1 pd
      have b1 := part_bd hs ha (fun t ht => (n2 t ht).1) pn
      have b2 := part_bd hs ha (fun t ht => (d2 t ht).1) pd
      have m1 := mul_bd (x := valM num pt) (y := q) (C := 134217728) (D := 134217728) (by omega) (by omega)
      have m2 := mul_bd (x := valM den pt) (y := p) (C := 134217728) (D := 134217728) (by omega) (by omega)
      have hcl : (coefF (-p) den (coefF q num (List.replicate bs.length 0))).length = bs.length := by rw [coefF_len, coefF_len, List.length_replicate]
      have hst := sysShows_t bs ls (coefF (-p) den (coefF q num (List.replicate bs.length 0))) us 0 hs hcl hul
      have hcf := coef2_t bs.length num den q (-p) (by omega) (by omega) (by omega) (formB_of hn0 (by omega)) (formB_of hd0 (by omega))
      generalize coefF (-p) den (coefF q num (List.replicate bs.length 0)) = cf at *
      generalize showsF (allF bs ls) bs.length cf us 0 = S at *
      generalize valM num pt = vn at *
      generalize valM den pt = vd at *
      conv => whnf
      refine call_step hv2 rfl rfl ?_
      conv => whnf
      refine ⟨(by repeat' (first | exact trivial | exact rfl | refine And.intro ?_ ?_ | ((conv => whnf); first | exact trivial | exact rfl | refine And.intro ?_ ?_ | omega))), (by repeat' (first | exact trivial | exact rfl | refine And.intro ?_ ?_ | ((conv => whnf); first | exact trivial | exact rfl | refine And.intro ?_ ?_ | omega))), ?_⟩
      conv => whnf
      refine ⟨fun hc => ?_, fun hc => ?_⟩
      · have hc : vd ≤ 0 := of_decide_eq_true (show decide (vd ≤ 0) = true from hc)
        rw [if_pos (.inl hc)] at hF
        rw [hF]
        conv => whnf
        repeat' (first | exact trivial | exact rfl | refine And.intro ?_ ?_ | ((conv => whnf); first | exact trivial | exact rfl | refine And.intro ?_ ?_ | omega))
      have vd0 : ¬ vd ≤ 0 := of_decide_eq_false (show decide (vd ≤ 0) = false from hc)
      clear hc
      conv => whnf
      refine call_step hv1 rfl rfl ?_
      conv => whnf
      refine ⟨(by repeat' (first | exact trivial | exact rfl | refine And.intro ?_ ?_ | ((conv => whnf); first | exact trivial | exact rfl | refine And.intro ?_ ?_ | omega))), (by repeat' (first | exact trivial | exact rfl | refine And.intro ?_ ?_ | ((conv => whnf); first | exact trivial | exact rfl | refine And.intro ?_ ?_ | omega))), ?_⟩
      conv => whnf
      refine ⟨vn * q, (show IntKind.i64.wrap (vn * q) = vn * q from wrapId ⟨by omega, by omega⟩), ?_⟩
      conv => whnf
      refine call_step hv2 rfl rfl ?_
      conv => whnf
      refine ⟨(by repeat' (first | exact trivial | exact rfl | refine And.intro ?_ ?_ | ((conv => whnf); first | exact trivial | exact rfl | refine And.intro ?_ ?_ | omega))), (by repeat' (first | exact trivial | exact rfl | refine And.intro ?_ ?_ | ((conv => whnf); first | exact trivial | exact rfl | refine And.intro ?_ ?_ | omega))), ?_⟩
      conv => whnf
      refine ⟨vd * p, (show IntKind.i64.wrap (vd * p) = vd * p from wrapId ⟨by omega, by omega⟩), ?_⟩
      conv => whnf
      refine ⟨fun hc => ?_, fun hc => ?_⟩
      · have hc : vn * q ≠ vd * p := by simpa using (show (vn * q != vd * p) = true from hc)
        rw [if_pos (.inr (.inl hc))] at hF
        rw [hF]
        conv => whnf
        repeat' (first | exact trivial | exact rfl | refine And.intro ?_ ?_ | ((conv => whnf); first | exact trivial | exact rfl | refine And.intro ?_ ?_ | omega))
      have hve : vn * q = vd * p := by simpa using (show (vn * q != vd * p) = false from hc)
      clear hc
      conv => whnf
      refine ⟨-p, (congrArg IntKind.i64.wrap (show (0 : Int) - p = -p by omega)).trans (wrapId ⟨by omega, by omega⟩), ?_⟩
      conv => whnf
      refine call_step hcf rfl rfl ?_
      conv => whnf
      refine ⟨(by repeat' (first | exact trivial | exact rfl | refine And.intro ?_ ?_ | ((conv => whnf); first | exact trivial | exact rfl | refine And.intro ?_ ?_ | omega))), (by repeat' (first | exact trivial | exact rfl | refine And.intro ?_ ?_ | ((conv => whnf); first | exact trivial | exact rfl | refine And.intro ?_ ?_ | omega))), ?_⟩
      conv => whnf
      refine call_step hst rfl rfl ?_
      conv => whnf
      refine ⟨(by repeat' (first | exact trivial | exact rfl | refine And.intro ?_ ?_ | ((conv => whnf); first | exact trivial | exact rfl | refine And.intro ?_ ?_ | omega))), (by repeat' (first | exact trivial | exact rfl | refine And.intro ?_ ?_ | ((conv => whnf); first | exact trivial | exact rfl | refine And.intro ?_ ?_ | omega))), ?_⟩
      conv => whnf
      refine ⟨fun hc => ?_, fun hc => ?_⟩
      · have hc : S = false := by simpa using (show (!S) = true from hc)
        rw [if_pos (.inr (.inr hc))] at hF
        rw [hF]
        conv => whnf
        repeat' (first | exact trivial | exact rfl | refine And.intro ?_ ?_ | ((conv => whnf); first | exact trivial | exact rfl | refine And.intro ?_ ?_ | omega))
      · have hc : S = true := by simpa using (show (!S) = false from hc)
        rw [if_neg (by rw [hc]; simp; omega)] at hF
        rw [hF]
        conv => whnf
        repeat' (first | exact trivial | exact rfl | refine And.intro ?_ ?_ | ((conv => whnf); first | exact trivial | exact rfl | refine And.intro ?_ ?_ | omega))
    · rw [if_pos (by simpa using hfo)] at hF
      rw [hF]
      generalize formsF bs num den = c at *
      refine triple_of tB_ok Try.func77 rfl Try.call77 rfl ?_
      intro ρ w hH
      conv => whnf
      refine call_step hct rfl rfl ?_
      conv => whnf
      refine ⟨(by repeat' (first | exact trivial | exact rfl | refine And.intro ?_ ?_ | ((conv => whnf); first | exact trivial | exact rfl | refine And.intro ?_ ?_ | omega))), (by repeat' (first | exact trivial | exact rfl | refine And.intro ?_ ?_ | ((conv => whnf); first | exact trivial | exact rfl | refine And.intro ?_ ?_ | omega))), ?_⟩
      conv => whnf
      refine ⟨fun hc => absurd hc (by simp), fun hc => ?_⟩
      conv => whnf
      refine call_step hft rfl rfl ?_
      conv => whnf
      refine ⟨(by repeat' (first | exact trivial | exact rfl | refine And.intro ?_ ?_ | ((conv => whnf); first | exact trivial | exact rfl | refine And.intro ?_ ?_ | omega))), (by repeat' (first | exact trivial | exact rfl | refine And.intro ?_ ?_ | ((conv => whnf); first | exact trivial | exact rfl | refine And.intro ?_ ?_ | omega))), ?_⟩
      conv => whnf
      refine ⟨fun hc => ?_, fun hc => absurd (by simpa using (show (c != 0) = false from hc)) hfo⟩
      conv => whnf
      repeat' (first | exact trivial | exact rfl | refine And.intro ?_ ?_ | ((conv => whnf); first | exact trivial | exact rfl | refine And.intro ?_ ?_ | omega))
  · rw [if_pos (by simpa using hck)] at hF
    rw [hF]
    generalize checkF bs ls = c at *
    refine triple_of tB_ok Try.func77 rfl Try.call77 rfl ?_
    intro ρ w hH
    conv => whnf
    refine call_step hct rfl rfl ?_
    conv => whnf
    refine ⟨(by repeat' (first | exact trivial | exact rfl | refine And.intro ?_ ?_ | ((conv => whnf); first | exact trivial | exact rfl | refine And.intro ?_ ?_ | omega))), (by repeat' (first | exact trivial | exact rfl | refine And.intro ?_ ?_ | ((conv => whnf); first | exact trivial | exact rfl | refine And.intro ?_ ?_ | omega))), ?_⟩
    conv => whnf
    refine ⟨fun hc => ?_, fun hc => absurd (by simpa using (show (c != 0) = false from hc)) hck⟩
    conv => whnf
    repeat' (first | exact trivial | exact rfl | refine And.intro ?_ ?_ | ((conv => whnf); first | exact trivial | exact rfl | refine And.intro ?_ ?_ | omega))

end Go.Proofs

