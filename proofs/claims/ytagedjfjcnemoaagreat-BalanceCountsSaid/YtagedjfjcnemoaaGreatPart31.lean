/-
  A part of the proof that a law answers true: lemmas of a symbolic walk, plain functions, or contracts of the functions walked (RM). Conditions: none.
-/
import Derived.Test.YtagedjfjcnemoaaGreatPart30
set_option maxRecDepth 100000
set_option linter.unusedVariables false
set_option linter.unusedSimpArgs false
namespace Go.Proofs
open Go.Sx

theorem xF_le (a q : Nat) : ∀ i, xF a q i ≤ q
  | 0 => Nat.le_refl _
  | i + 1 => by
    have ih := xF_le a q i
    show (if i < a then xF a q i / 7 else xF a q i / 5) ≤ q
    split
    · exact Nat.le_trans (Nat.div_le_self _ _) ih
    · exact Nat.le_trans (Nat.div_le_self _ _) ih

theorem ma_of {a q : Nat} {l : List Int} (hl : l.length = a) (h : ∀ j, j < a → l[j]? = some ((xF a q j % 7 : Nat) : Int)) : l = maF a q := by
  refine List.ext_getElem? fun j => ?_
  by_cases hj : j < a
  · rw [h j hj]; simp [maF, hj]
  · rw [List.getElem?_eq_none (by omega), List.getElem?_eq_none (by rw [maF_len]; omega)]
theorem sh_of {a c q : Nat} {l : List Int} (hl : l.length = c) (h : ∀ j, j < c → l[j]? = some (((xF a q (a + j) % 5 : Nat) : Int) - 2)) : l = shF a c q := by
  refine List.ext_getElem? fun j => ?_
  by_cases hj : j < c
  · rw [h j hj]; simp [shF, hj]
  · rw [List.getElem?_eq_none (by omega), List.getElem?_eq_none (by rw [shF_len]; omega)]

set_option maxHeartbeats 4000000 in
theorem balanceCounts_t (r : Rd) (hw : Wide r) : Triple Tryz.prog 10 [rdA r] (rdH r) 4 (bv true) [] := by
  by_cases hTP : TinyP r
  rotate_left
  · have hT := tiny_t r false (fun h => absurd h hTP) (fun _ => rfl)
    refine triple_of tB_ok Tryz.func10 rfl Tryz.call10 rfl ?_
    intro ρ w hH
    conv=>whnf
    refine call_step hT rfl rfl ?_
    conv=>whnf
    refine ⟨?_, ?_, ?_⟩
    iterate 2 · repeat' (first | exact trivial | exact rfl | refine And.intro ?_ ?_ | ((conv=>whnf); first | exact trivial | exact rfl | refine And.intro ?_ ?_ | omega))
    conv=>whnf
    refine ⟨fun hc => ?_, fun hc => absurd hc (by simp)⟩
    conv=>whnf
    refine call_step sanity_t rfl rfl ?_
    conv=>whnf
    refine ⟨?_, ?_, ?_⟩
    iterate 2 · repeat' (first | exact trivial | exact rfl | refine And.intro ?_ ?_ | ((conv=>whnf); first | exact trivial | exact rfl | refine And.intro ?_ ?_ | omega))
    conv=>whnf
    repeat' (first | exact trivial | exact rfl | refine And.intro ?_ ?_ | ((conv=>whnf); first | exact trivial | exact rfl | refine And.intro ?_ ?_ | omega))
  have hT := tiny_t r true (fun _ => rfl) (fun h => absurd hTP h)
  obtain ⟨b, hb, hsm⟩ := hTP.small
  have h := hsm.tiny.ok
  have hs := h.sml
  have hO := rObjects_t r hs
  have hM := rMoments_t r hs
  by_cases hol : (objsF r).length = 0
  · generalize objsF r = os at *
    refine triple_of tB_ok Tryz.func10 rfl Tryz.call10 rfl ?_
    intro ρ w hH
    conv=>whnf
    refine call_step hT rfl rfl ?_
    conv=>whnf
    refine ⟨?_, ?_, ?_⟩
    iterate 2 · repeat' (first | exact trivial | exact rfl | refine And.intro ?_ ?_ | ((conv=>whnf); first | exact trivial | exact rfl | refine And.intro ?_ ?_ | omega))
    conv=>whnf
    refine ⟨fun hc => absurd hc (by simp), fun hc => ?_⟩
    conv=>whnf
    refine call_step hO rfl rfl ?_
    conv=>whnf
    refine ⟨?_, ?_, ?_⟩
    iterate 2 · repeat' (first | exact trivial | exact rfl | refine And.intro ?_ ?_ | ((conv=>whnf); first | exact trivial | exact rfl | refine And.intro ?_ ?_ | omega))
    conv=>whnf
    refine call_step hM rfl rfl ?_
    conv=>whnf
    refine ⟨?_, ?_, ?_⟩
    iterate 2 · repeat' (first | exact trivial | exact rfl | refine And.intro ?_ ?_ | ((conv=>whnf); first | exact trivial | exact rfl | refine And.intro ?_ ?_ | omega))
    conv=>whnf
    refine ⟨fun hc => ?_, fun hc => absurd (show (os.length : Int) = 0 by omega) (by simpa using (show ((os.length : Int) == 0) = false from hc))⟩
    conv=>whnf
    refine call_step sanity_t rfl rfl ?_
    conv=>whnf
    refine ⟨?_, ?_, ?_⟩
    iterate 2 · repeat' (first | exact trivial | exact rfl | refine And.intro ?_ ?_ | ((conv=>whnf); first | exact trivial | exact rfl | refine And.intro ?_ ?_ | omega))
    conv=>whnf
    repeat' (first | exact trivial | exact rfl | refine And.intro ?_ ?_ | ((conv=>whnf); first | exact trivial | exact rfl | refine And.intro ?_ ?_ | omega))
  have hlo := hsm.tiny.lo
  have hlm := hsm.tiny.lm
  have ho0 : 0 < (objsF r).length := by omega
  have hp1 := power_t 7 (objsF r).length (by decide) hlo
  have hp2 := power_t 5 (momsF r []).length (by decide) hlm
  have hb1 : powN 7 (objsF r).length ≤ 49 := by
    rcases (by omega : (objsF r).length = 0 ∨ (objsF r).length = 1 ∨ (objsF r).length = 2) with e | e | e <;> rw [e] <;> decide
  have hb2 : powN 5 (momsF r []).length ≤ 25 := by
    rcases (by omega : (momsF r []).length = 0 ∨ (momsF r []).length = 1 ∨ (momsF r []).length = 2) with e | e | e <;> rw [e] <;> decide
  have hb3 : powN 7 (objsF r).length * powN 5 (momsF r []).length ≤ 49 * 25 := Nat.mul_le_mul hb1 hb2
  have hMs := mass_t r (objsF r)[0] hs
  have hEnd := fun (some : Bool) (least most : Int) (h : Seen r b (powN 7 (objsF r).length * powN 5 (momsF r []).length) some least most) => seen_all hsm (o := (objsF r)[0]) (List.getElem?_eq_getElem ho0) h
  have hpos := fun q : Nat => possible_t r b _ _ hsm.tiny (num_inR r q) hTP.cs hTP.ws hTP.ns
  have hfit := fun q : Nat => bFits_t r (maF (objsF r).length q) (shF (objsF r).length (momsF r []).length q) hs
  have hpf := fun q : Nat => poss_fits (r := r) hsm.tiny (ma := maF (objsF r).length q) (sh := shF (objsF r).length (momsF r []).length q) (maF_len _ _) (shF_len _ _ _)
  have sNo := fun (n : Nat) (some : Bool) (least most : Int) (h : Seen r b n some least most) hp => seen_no h hp
  have sFi := fun (n : Nat) (least most : Int) (h : Seen r b n false least most) hp => seen_first h hp
  have sMo := fun (n : Nat) (least most : Int) (h : Seen r b n true least most) hp => seen_more h hp
  have sZ := seen_zero r b
  simp only [trA, maF_len, shF_len] at hfit
  simp only [poA, maF_len, shF_len] at hpos
  refine triple_of tB_ok Tryz.func10 rfl Tryz.call10 rfl ?_
  intro ρ w hH
  conv=>whnf
  refine call_step hT rfl rfl ?_
  conv=>whnf
  refine ⟨?_, ?_, ?_⟩
  iterate 2 · repeat' (first | exact trivial | exact rfl | refine And.intro ?_ ?_ | ((conv=>whnf); first | exact trivial | exact rfl | refine And.intro ?_ ?_ | omega))
  conv=>whnf
  refine ⟨fun hc => absurd hc (by simp), fun hc => ?_⟩
  conv=>whnf
  refine call_step hO rfl rfl ?_
  conv=>whnf
  refine ⟨?_, ?_, ?_⟩
  iterate 2 · repeat' (first | exact trivial | exact rfl | refine And.intro ?_ ?_ | ((conv=>whnf); first | exact trivial | exact rfl | refine And.intro ?_ ?_ | omega))
  conv=>whnf
  refine call_step hM rfl rfl ?_
  conv=>whnf
  refine ⟨?_, ?_, ?_⟩
  iterate 2 · repeat' (first | exact trivial | exact rfl | refine And.intro ?_ ?_ | ((conv=>whnf); first | exact trivial | exact rfl | refine And.intro ?_ ?_ | omega))
  conv=>whnf
  refine ⟨fun hc => absurd (show ((objsF r).length : Int) = 0 by simpa using (show (((objsF r).length : Int) == 0) = true from hc)) (by omega), fun hc => ?_⟩
  conv=>whnf
  refine ⟨((objsF r).length : Int) + (momsF r []).length, wrapId (z := ((objsF r).length : Int) + (momsF r []).length) ⟨by omega, by omega⟩, ?_⟩
  conv=>whnf
  refine mks_step tB_ok (aInt (List.replicate (objsF r).length 0)) rfl rfl ?_
  conv=>whnf
  refine ⟨(objsF r).length, ⟨List.length_replicate, by simp, by simp, by show (objsF r).length * 9 ≤ _; omega, fun x hx => ?_⟩, ?_⟩
  · obtain ⟨_, rfl⟩ := List.mem_replicate.1 hx
    conv=>whnf
    repeat' (first | exact trivial | exact rfl | refine And.intro ?_ ?_ | ((conv=>whnf); first | exact trivial | exact rfl | refine And.intro ?_ ?_ | omega))
  conv=>whnf
  refine mks_step tB_ok (aInt (List.replicate (momsF r []).length 0)) rfl rfl ?_
  conv=>whnf
  refine ⟨(momsF r []).length, ⟨List.length_replicate, by simp, by simp, by show (momsF r []).length * 9 ≤ _; omega, fun x hx => ?_⟩, ?_⟩
  · obtain ⟨_, rfl⟩ := List.mem_replicate.1 hx
    conv=>whnf
    repeat' (first | exact trivial | exact rfl | refine And.intro ?_ ?_ | ((conv=>whnf); first | exact trivial | exact rfl | refine And.intro ?_ ?_ | omega))
  conv=>whnf
  refine call_step hp1 rfl rfl ?_
  conv=>whnf
  refine ⟨?_, ?_, ?_⟩
  iterate 2 · repeat' (first | exact trivial | exact rfl | refine And.intro ?_ ?_ | ((conv=>whnf); first | exact trivial | exact rfl | refine And.intro ?_ ?_ | omega))
  conv=>whnf
  refine call_step hp2 rfl rfl ?_
  conv=>whnf
  refine ⟨?_, ?_, ?_⟩
  iterate 2 · repeat' (first | exact trivial | exact rfl | refine And.intro ?_ ?_ | ((conv=>whnf); first | exact trivial | exact rfl | refine And.intro ?_ ?_ | omega))
  conv=>whnf
  refine ⟨((powN 7 (objsF r).length * powN 5 (momsF r []).length : Nat) : Int), (congrArg IntKind.i64.wrap (show (powN 7 (objsF r).length : Int) * (powN 5 (momsF r []).length : Int) = ((powN 7 (objsF r).length * powN 5 (momsF r []).length : Nat) : Int) by simp)).trans (wrapId ⟨by omega, by omega⟩), ?_⟩
  conv=>whnf
  refine loop_step tB_ok (G := Nat × Bool × (Int × Int) × List Int × List Int) 0 [] (fun g => [(49, iv .i64 g.1), (5, bv g.2.1), (6, iv .i64 g.2.2.1.1), (7, iv .i64 g.2.2.1.2)]) (fun g => [(7, true, .arr (aInt g.2.2.2.1)), (8, true, .arr (aInt g.2.2.2.2))])
    (fun g => g.1 ≤ powN 7 (objsF r).length * powN 5 (momsF r []).length ∧ g.2.2.2.1.length = (objsF r).length ∧ g.2.2.2.2.length = (momsF r []).length ∧ Seen r b g.1 g.2.1 g.2.2.1.1 g.2.2.1.2) (fun g => powN 7 (objsF r).length * powN 5 (momsF r []).length - g.1) ?_
  conv=>whnf
  refine ⟨⟨(0, false, (0, 0), List.replicate (objsF r).length 0, List.replicate (momsF r []).length 0), ⟨Nat.zero_le _, List.length_replicate, List.length_replicate, sZ⟩, ?_⟩, ?_⟩
  · conv=>whnf
    repeat' (first | exact trivial | exact rfl | refine And.intro ?_ ?_ | ((conv=>whnf); first | exact trivial | exact rfl | refine And.intro ?_ ?_ | omega))
  rintro ⟨q, sm, ⟨least, most⟩, mc, sc⟩ ⟨hq, hmc, hsc, hSeen⟩ ρ1 t1 hρ1
  dsimp only at hq hmc hsc hSeen ⊢
  conv=>whnf
  refine ⟨fun hc => ?_, fun hc => ?_⟩
  · have hlt : q < powN 7 (objsF r).length * powN 5 (momsF r []).length := by have := of_decide_eq_true (show decide ((q : Int) < ((powN 7 (objsF r).length * powN 5 (momsF r []).length : Nat) : Int)) = true from hc); omega
    conv=>whnf
    refine loop_step tB_ok (G := Nat × List Int × List Int) 0 [] (fun g => [(54, iv .i64 g.1), (11, iv .i64 (xF (objsF r).length q g.1))]) (fun g => [(7, true, .arr (aInt g.2.1)), (8, true, .arr (aInt g.2.2))])
      (fun g => g.1 ≤ (objsF r).length + (momsF r []).length ∧ g.2.1.length = (objsF r).length ∧ g.2.2.length = (momsF r []).length ∧ (∀ j, j < g.1 → j < (objsF r).length → g.2.1[j]? = some ((xF (objsF r).length q j % 7 : Nat) : Int)) ∧
        (∀ j, (objsF r).length + j < g.1 → g.2.2[j]? = some (((xF (objsF r).length q ((objsF r).length + j) % 5 : Nat) : Int) - 2))) (fun g => (objsF r).length + (momsF r []).length - g.1) ?_
    conv=>whnf
    refine ⟨⟨(0, mc, sc), ⟨Nat.zero_le _, hmc, hsc, fun j hj => absurd hj (by omega), fun j hj => absurd hj (by omega)⟩, ?_⟩, ?_⟩
    · conv=>whnf
      repeat' (first | exact trivial | exact rfl | refine And.intro ?_ ?_ | ((conv=>whnf); first | exact trivial | exact rfl | refine And.intro ?_ ?_ | omega))
    rintro ⟨i, m1, s1⟩ ⟨hi, hm1, hs1, hd1, hd2⟩ ρ2 t2 hρ2
    dsimp only at hi hm1 hs1 hd1 hd2 ⊢
    conv=>whnf
    refine ⟨fun hc2 => ?_, fun hc2 => ?_⟩
    · have hil : i < (objsF r).length + (momsF r []).length := by have := of_decide_eq_true (show decide ((i : Int) < ((objsF r).length : Int) + (momsF r []).length) = true from hc2); omega
      conv=>whnf
      refine ⟨fun hc3 => ?_, fun hc3 => ?_⟩
      · have hia : i < (objsF r).length := by have := of_decide_eq_true (show decide ((i : Int) < (objsF r).length) = true from hc3); omega
        have hx1 : xF (objsF r).length q (i + 1) = xF (objsF r).length q i / 7 := by show (if i < (objsF r).length then _ else _) = _; rw [if_pos hia]
        have hxq := xF_le (objsF r).length q i
        generalize hX : xF (objsF r).length q i = x at *
        conv=>whnf
        refine ⟨by decide, ((x % 7 : Nat) : Int), rfl, ?_⟩
        conv=>whnf
        have him : i < m1.length := by omega
        refine ⟨i, rfl, hia, him, ((x % 7 : Nat) : Int), rfl, ?_⟩
        conv=>whnf
        refine ⟨by decide, ((x / 7 : Nat) : Int), wrapId (z := ((x / 7 : Nat) : Int)) ⟨by omega, by omega⟩, ?_⟩
        conv=>whnf
        refine ⟨_, wrapId ⟨by omega, by omega⟩, ?_⟩
        refine ⟨(i + 1, m1.set i ((x % 7 : Nat) : Int), s1), ⟨hil, (by rw [List.length_set]; exact hm1), hs1, fun j hj hja => ?_, fun j hj => absurd hj (by omega)⟩, by show (objsF r).length + (momsF r []).length - (i + 1) < (objsF r).length + (momsF r []).length - i; omega, ?_⟩
        · by_cases hji : j = i
          · subst hji
            rw [List.getElem?_set_self him, hX]
          · rw [List.getElem?_set_ne (fun e => hji e.symm)]
            exact hd1 j (by omega) hja
        try dsimp only
        rw [hx1]
        conv=>whnf
        refine ⟨rfl, ?_⟩
        conv=>whnf
        repeat' (first | exact trivial | exact rfl | refine And.intro ?_ ?_ | ((conv=>whnf); first | exact trivial | exact rfl | refine And.intro ?_ ?_ | omega))
      · have hia : ¬ i < (objsF r).length := by have := of_decide_eq_false (show decide ((i : Int) < (objsF r).length) = false from hc3); omega
        obtain ⟨k, rfl⟩ : ∃ k, i = (objsF r).length + k := ⟨i - (objsF r).length, by omega⟩
        have hkc : k < (momsF r []).length := by omega
        have hks : k < s1.length := by omega
        have hx1 : xF (objsF r).length q ((objsF r).length + k + 1) = xF (objsF r).length q ((objsF r).length + k) / 5 := by show (if (objsF r).length + k < (objsF r).length then _ else _) = _; rw [if_neg hia]
        have hxq := xF_le (objsF r).length q ((objsF r).length + k)
        generalize hX : xF (objsF r).length q ((objsF r).length + k) = x at *
        conv=>whnf
        refine ⟨(k : Int), (congrArg IntKind.i64.wrap (show (((objsF r).length + k : Nat) : Int) - (objsF r).length = (k : Int) by omega)).trans (wrapId ⟨by omega, by omega⟩), ?_⟩
        conv=>whnf
        refine ⟨by decide, ((x % 5 : Nat) : Int), rfl, ?_⟩
        conv=>whnf
        refine ⟨((x % 5 : Nat) : Int) - 2, wrapId (z := ((x % 5 : Nat) : Int) - 2) ⟨by omega, by omega⟩, ?_⟩
        conv=>whnf
        refine ⟨k, rfl, hkc, hks, ((x % 5 : Nat) : Int) - 2, rfl, ?_⟩
        conv=>whnf
        refine ⟨by decide, ((x / 5 : Nat) : Int), wrapId (z := ((x / 5 : Nat) : Int)) ⟨by omega, by omega⟩, ?_⟩
        conv=>whnf
        refine ⟨_, wrapId ⟨by omega, by omega⟩, ?_⟩
        refine ⟨((objsF r).length + k + 1, m1, s1.set k (((x % 5 : Nat) : Int) - 2)), ⟨hil, hm1, (by rw [List.length_set]; exact hs1), fun j hj hja => hd1 j (by omega) hja, fun j hj => ?_⟩, by show (objsF r).length + (momsF r []).length - ((objsF r).length + k + 1) < (objsF r).length + (momsF r []).length - ((objsF r).length + k); omega, ?_⟩
        · by_cases hji : j = k
          · subst hji
            rw [List.getElem?_set_self hks, hX]
          · rw [List.getElem?_set_ne (fun e => hji e.symm)]
            exact hd2 j (by dsimp only at hj; omega)
        try dsimp only
        rw [hx1]
        conv=>whnf
        refine ⟨rfl, ?_⟩
        conv=>whnf
        repeat' (first | exact trivial | exact rfl | refine And.intro ?_ ?_ | ((conv=>whnf); first | exact trivial | exact rfl | refine And.intro ?_ ?_ | omega))
    · have hie : i = (objsF r).length + (momsF r []).length := by have := of_decide_eq_false (show decide ((i : Int) < ((objsF r).length : Int) + (momsF r []).length) = false from hc2); omega
      have hm1e : m1 = maF (objsF r).length q := ma_of hm1 (fun j hj => hd1 j (by omega) hj)
      have hs1e : s1 = shF (objsF r).length (momsF r []).length q := sh_of hs1 (fun j hj => hd2 j (by omega))
      subst hm1e
      subst hs1e
      clear hd1 hd2
      have hP := hpf q
      have hPo := hpos q
      have hFi := hfit q
      have hN := sNo q sm least most hSeen
      have hFst := sFi q least most
      have hMor := sMo q least most
      have hm0 : 0 < (maF (objsF r).length q).length := by rw [maF_len]; exact ho0
      have hg0 : (maF (objsF r).length q).getD 0 0 = (maF (objsF r).length q)[0] := by rw [List.getD_eq_getElem?_getD, List.getElem?_eq_getElem hm0]; rfl
      rw [hg0] at hFst hMor
      clear hpf hpos hfit sNo sFi sMo hg0
      generalize fitsF r (maF (objsF r).length q) (shF (objsF r).length (momsF r []).length q) = F at *
      generalize maF (objsF r).length q = ma at *
      generalize shF (objsF r).length (momsF r []).length q = sh at *
      obtain ⟨F1, F2⟩ := F
      dsimp only at hP hPo hFi
      conv=>whnf
      refine call_step hPo rfl rfl ?_
      conv=>whnf
      refine ⟨?_, ?_, ?_⟩
      iterate 2 · repeat' (first | exact trivial | exact rfl | refine And.intro ?_ ?_ | ((conv=>whnf); first | exact trivial | exact rfl | refine And.intro ?_ ?_ | omega))
      conv=>whnf
      refine call_step hFi rfl rfl ?_
      conv=>whnf
      refine ⟨?_, ?_, ?_⟩
      iterate 2 · repeat' (first | exact trivial | exact rfl | refine And.intro ?_ ?_ | ((conv=>whnf); first | exact trivial | exact rfl | refine And.intro ?_ ?_ | omega))
      conv=>whnf
      refine ⟨fun hc => absurd (show (F2 != F2) = true from hc) (by simp), fun hc => ?_⟩
      conv=>whnf
      cases F2 with
      | false =>
        have hN := hN (fun hh => by have := hP.2 hh; cases this)
        refine ⟨fun hc => ?_, fun hc => absurd hc (by simp)⟩
        conv=>whnf
        refine ⟨_, wrapId ⟨by omega, by omega⟩, ?_⟩
        refine ⟨(q + 1, sm, (least, most), ma, sh), ⟨hlt, hm1, hs1, hN⟩, by show powN 7 (objsF r).length * powN 5 (momsF r []).length - (q + 1) < powN 7 (objsF r).length * powN 5 (momsF r []).length - q; omega, ?_⟩
        try dsimp only
        conv=>whnf
        refine ⟨rfl, ?_⟩
        conv=>whnf
        repeat' (first | exact trivial | exact rfl | refine And.intro ?_ ?_ | ((conv=>whnf); first | exact trivial | exact rfl | refine And.intro ?_ ?_ | omega))
      | true =>
        have hPP := hP.1 rfl
        refine ⟨fun hc => absurd hc (by simp), fun hc => ?_⟩
        conv=>whnf
        cases sm with
        | false =>
          have hS := hFst hSeen hPP
          refine ⟨fun hc => ?_, fun hc => absurd hc (by simp)⟩
          conv=>whnf
          refine ⟨0, rfl, ho0, hm0, ?_⟩
          conv=>whnf
          refine ⟨0, rfl, ho0, hm0, ?_⟩
          conv=>whnf
          refine ⟨0, rfl, ho0, hm0, ?_⟩
          conv=>whnf
          refine ⟨0, rfl, ho0, hm0, ?_⟩
          conv=>whnf
          refine ⟨_, wrapId ⟨by omega, by omega⟩, ?_⟩
          refine ⟨(q + 1, true, (ma[0], ma[0]), ma, sh), ⟨hlt, hm1, hs1, hS⟩, by show powN 7 (objsF r).length * powN 5 (momsF r []).length - (q + 1) < powN 7 (objsF r).length * powN 5 (momsF r []).length - q; omega, ?_⟩
          try dsimp only
          conv=>whnf
          refine ⟨rfl, ?_⟩
          conv=>whnf
          repeat' (first | exact trivial | exact rfl | refine And.intro ?_ ?_ | ((conv=>whnf); first | exact trivial | exact rfl | refine And.intro ?_ ?_ | omega))
          all_goals first | exact Int.min_self _ | exact Int.max_self _ | omega
        | true =>
          have hS := hMor hSeen hPP
          refine ⟨fun hc => absurd hc (by simp), fun hc => ?_⟩
          conv=>whnf
          refine ⟨0, rfl, ho0, hm0, ?_⟩
          conv=>whnf
          refine ⟨0, rfl, ho0, hm0, ?_⟩
          conv=>whnf
          refine ⟨_, wrapId ⟨by omega, by omega⟩, ?_⟩
          refine ⟨(q + 1, true, (min least ma[0], max most ma[0]), ma, sh), ⟨hlt, hm1, hs1, hS⟩, by show powN 7 (objsF r).length * powN 5 (momsF r []).length - (q + 1) < powN 7 (objsF r).length * powN 5 (momsF r []).length - q; omega, ?_⟩
          try dsimp only
          conv=>whnf
          refine ⟨rfl, ?_⟩
          conv=>whnf
          repeat' (first | exact trivial | exact rfl | refine And.intro ?_ ?_ | ((conv=>whnf); first | exact trivial | exact rfl | refine And.intro ?_ ?_ | omega))
  · have hqe : q = powN 7 (objsF r).length * powN 5 (momsF r []).length := by have := of_decide_eq_false (show decide ((q : Int) < ((powN 7 (objsF r).length * powN 5 (momsF r []).length : Nat) : Int)) = false from hc); omega
    rw [hqe] at hSeen
    obtain ⟨z1, z2⟩ := hEnd sm least most hSeen
    generalize massF r (objsF r)[0] = M at *
    conv=>whnf
    refine ⟨0, rfl, ho0, ho0, ?_⟩
    conv=>whnf
    refine call_step hMs rfl rfl ?_
    conv=>whnf
    refine ⟨?_, ?_, ?_⟩
    iterate 2 · repeat' (first | exact trivial | exact rfl | refine And.intro ?_ ?_ | ((conv=>whnf); first | exact trivial | exact rfl | refine And.intro ?_ ?_ | omega))
    conv=>whnf
    cases sm with
    | false =>
      have z1 := z1 rfl
      refine ⟨fun hc => ?_, fun hc => absurd hc (by simp)⟩
      conv=>whnf
      refine call_step sanity_t rfl rfl ?_
      conv=>whnf
      refine ⟨?_, ?_, ?_⟩
      iterate 2 · repeat' (first | exact trivial | exact rfl | refine And.intro ?_ ?_ | ((conv=>whnf); first | exact trivial | exact rfl | refine And.intro ?_ ?_ | omega))
      conv=>whnf
      refine ⟨fun hc => ?_, fun hc => absurd hc (by simp)⟩
      conv=>whnf
      exact ⟨(by rw [z1]; rfl : (M.2 == 9) = true), trivial⟩
    | true =>
      have z2 := z2 rfl
      subst z2
      refine ⟨fun hc => absurd hc (by simp), fun hc => ?_⟩
      conv=>whnf
      refine call_step sanity_t rfl rfl ?_
      conv=>whnf
      refine ⟨?_, ?_, ?_⟩
      iterate 2 · repeat' (first | exact trivial | exact rfl | refine And.intro ?_ ?_ | ((conv=>whnf); first | exact trivial | exact rfl | refine And.intro ?_ ?_ | omega))
      conv=>whnf
      refine ⟨fun hc => ?_, fun hc => absurd hc (by simp)⟩
      conv=>whnf
      refine ⟨fun hc => ?_, fun hc => absurd hc (by simp)⟩
      conv=>whnf
      exact ⟨(by simp : ([least, most] == [least, most]) = true), trivial⟩

end Go.Proofs

