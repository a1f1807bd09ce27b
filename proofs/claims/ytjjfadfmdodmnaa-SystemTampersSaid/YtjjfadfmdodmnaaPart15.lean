/-
  A part of the proof that a law of dryweightlaw03 answers true: lemmas of a symbolic walk, plain functions, or contracts of the functions walked (Wg). Conditions: none.
-/
import Derived.Test.YtjjfadfmdodmnaaPart14
set_option maxRecDepth 100000
set_option linter.unusedVariables false
set_option linter.unusedSimpArgs false
namespace Go.Proofs
open Go.Sx


theorem pickF_bd (need sum : List Int) : ∀ i, pickF need sum i = -1 ∨ ∃ k : Nat, k < i ∧ pickF need sum i = k ∧ 0 < need.getD k 0
  | 0 => .inl rfl
  | i + 1 => by
    rw [pickF]
    split
    · rename_i h
      simp only [Bool.and_eq_true, decide_eq_true_eq] at h
      exact .inr ⟨i, Nat.lt_succ_self i, rfl, h.1⟩
    · rcases pickF_bd need sum i with h | ⟨k, hk, h⟩
      · exact .inl h
      · exact .inr ⟨k, by omega, h⟩

set_option maxHeartbeats 4000000 in
theorem best_t (bs : List (Int × Int)) (ls : List Lnk) (by' : List Int) (fuel : Nat) (v : Int) (us : List (Lnk × Int)) (pt : List Int) (hs : SysOK bs ls)
    (hbl : by'.length = bs.length) (hbb : ∀ x ∈ by', -4503599627370496 ≤ x ∧ x ≤ 4503599627370496) (hB : bestF bs.length (graphF bs ls 0) fuel by' = some (v, us, pt)) :
    Triple Try.prog 92 [sysA bs.length ls.length, .c (.s 2 0 bs.length 1)] ((2, false, .arr (aInt by')) :: sysH bs ls) 3
      (.agg [.v (.int .i64 v), .s 3 0 us.length 5, .s 4 0 pt.length 1]) [(3, true, .arr (aUse us)), (4, true, .arr (aInt pt))] := by
  have hnb := hs.nb
  have hnl := hs.nl
  have hgl := graphF_len hs 0
  have hgok := graphF_ok hs 0
  have hgt := graphOf_t bs ls 0 (by omega) hs.boxB (by omega)
  generalize hga : graphF bs ls 0 = arcs at *
  refine triple_of tB_ok Try.func92 rfl Try.call92 rfl ?_
  intro ρ w hH
  conv => whnf
  refine call_step hgt rfl rfl ?_
  conv => whnf
  refine ⟨(by repeat' (first | exact trivial | exact rfl | refine And.intro ?_ ?_ | ((conv => whnf); first | exact trivial | exact rfl | refine And.intro ?_ ?_ | omega))), (by repeat' (first | exact trivial | exact rfl | refine And.intro ?_ ?_ | ((conv => whnf); first | exact trivial | exact rfl | refine And.intro ?_ ?_ | omega))), ?_⟩
  conv => whnf
  refine ⟨_, wrapId ⟨by omega, by omega⟩, ?_⟩
  conv => whnf
  refine mks_step tB_ok (aInt (needI by' bs.length 0)) rfl rfl ?_
  conv => whnf
  refine ⟨bs.length + 1, ⟨needI_len hbl (Nat.zero_le _), by simp, by simp, by show (bs.length + 1) * 9 ≤ _; omega, fun x hx => ?_⟩, ?_⟩
  · have hx : x ∈ needI by' bs.length 0 := hx
    rw [needI_zero] at hx
    obtain ⟨_, rfl⟩ := List.mem_replicate.1 hx
    repeat' (first | exact trivial | exact rfl | refine And.intro ?_ ?_ | ((conv => whnf); first | exact trivial | exact rfl | refine And.intro ?_ ?_ | omega))
  conv => whnf
  refine loop_step tB_ok (G := Nat × List Int) 1 [] (fun g => [(38, iv .i64 g.1)]) (fun g => [(8, true, .arr (aInt g.2))]) (fun g => g.1 ≤ bs.length ∧ g.2 = needI by' bs.length g.1) (fun g => bs.length - g.1) ?_
  conv => whnf
  refine ⟨⟨(0, needI by' bs.length 0), ⟨Nat.zero_le _, rfl⟩, ?_⟩, ?_⟩
  · conv => whnf
    repeat' (first | exact trivial | exact rfl | refine And.intro ?_ ?_ | ((conv => whnf); first | exact trivial | exact rfl | refine And.intro ?_ ?_ | omega))
  rintro ⟨i, need⟩ ⟨hi, hne⟩ ρ1 t1 hρ1
  have hi : i ≤ bs.length := hi
  have hne : need = needI by' bs.length i := hne
  have hnl1 : need.length = bs.length + 1 := by rw [hne]; exact needI_len hbl hi
  dsimp only
  conv => whnf
  refine ⟨fun hc => ?_, fun hc => ?_⟩
  · have hc : i < bs.length := by simpa using hc
    have hlt : i < by'.length := by omega
    have hin : i < need.length := by omega
    obtain ⟨hs1, hs2, hs3⟩ := needI_step hbl hc hlt
    rw [← hne] at hs1 hs2 hs3
    have hsum := sum_bd (C := 4503599627370496) (by'.take i) (fun x hx => hbb x (List.mem_of_mem_take hx))
    have hxb := hbb by'[i] (List.getElem_mem hlt)
    have htl : (by'.take i).length ≤ 240 := by rw [List.length_take]; omega
    obtain ⟨s, hse⟩ : ∃ s, s = -(by'.take i).sum := ⟨_, rfl⟩
    rw [← hse] at hs2 hs3
    have hsb : -(240 * 4503599627370496) ≤ s ∧ s ≤ 240 * 4503599627370496 := by
      have : ((by'.take i).length : Int) * 4503599627370496 ≤ 240 * 4503599627370496 := Int.mul_le_mul_of_nonneg_right (by omega) (by omega)
      omega
    obtain ⟨x, hx⟩ : ∃ x, x = by'[i] := ⟨_, rfl⟩
    rw [← hx] at hs1 hs2 hs3 hxb
    obtain ⟨u, hu⟩ : ∃ u, u = s - x := ⟨_, rfl⟩
    rw [← hu] at hs3
    have hn1 : bs.length < (need.set i x).length := by omega
    have hge : (need.set i x)[bs.length] = s := by rw [List.getElem?_eq_getElem hn1] at hs2; exact Option.some.inj hs2
    conv => whnf
    refine ⟨i, rfl, hc, hlt, ?_⟩
    conv => whnf
    refine ⟨i, rfl, by show i < bs.length + 1; omega, hin, x, by rw [hx]; rfl, ?_⟩
    conv => whnf
    refine ⟨bs.length, rfl, Nat.lt_succ_self _, hn1, ?_⟩
    conv => whnf
    refine ⟨u, ?_, ?_⟩
    · refine Eq.trans (congrArg IntKind.i64.wrap (?_ : (need.set i x)[bs.length] - by'[i] = u)) (wrapId ⟨by omega, by omega⟩)
      rw [hge, ← hx, hu]
    conv => whnf
    refine ⟨bs.length, rfl, Nat.lt_succ_self _, hn1, u, rfl, ?_⟩
    conv => whnf
    refine ⟨_, wrapId ⟨by omega, by omega⟩, ?_⟩
    refine ⟨(i + 1, (need.set i x).set bs.length u), ⟨hc, hs3⟩, by show bs.length - (i + 1) < bs.length - i; omega, ?_⟩
    conv => whnf
    refine ⟨rfl, ?_⟩
    conv => whnf
    repeat' (first | exact trivial | exact rfl | refine And.intro ?_ ?_ | ((conv => whnf); first | exact trivial | exact rfl | refine And.intro ?_ ?_ | omega))
  have hie : i = bs.length := by simp at hc; omega
  have hne : need = needL by' := by rw [hne, hie]; exact needI_end hbl
  subst hne
  conv => whnf
  refine mks_step tB_ok (aInt (List.replicate arcs.length 0)) rfl rfl ?_
  conv => whnf
  refine ⟨arcs.length, ⟨List.length_replicate, rfl, rfl, by show arcs.length * 9 ≤ _; omega, fun x hx => ?_⟩, ?_⟩
  · obtain ⟨_, rfl⟩ := List.mem_replicate.1 hx
    repeat' (first | exact trivial | exact rfl | refine And.intro ?_ ?_ | ((conv => whnf); first | exact trivial | exact rfl | refine And.intro ?_ ?_ | omega))
  conv => whnf
  obtain ⟨flowE, hO, hv⟩ : ∃ flowE, outerF bs.length arcs fuel (bs.length + 1) 0 (needL by') (List.replicate arcs.length 0) = some flowE ∧ (valF by' ((shortF bs.length (flowRev flowE) arcs bs.length).1.sum.take bs.length) 0).map (fun v => (v, usesF arcs flowE, (shortF bs.length (flowRev flowE) arcs bs.length).1.sum.take bs.length)) = some (v, us, pt) := by
    unfold bestF at hB
    split at hB
    · cases hB
    · rename_i flowE hO
      refine ⟨flowE, hO, ?_⟩
      dsimp only at hB
      split at hB
      · cases hB
      · rename_i v' hv'; rw [hv']; exact hB
  refine loop_step tB_ok (G := Nat × List Int × List Int) 2 [] (fun g => [(68, iv .i64 g.1)]) (fun g => [(8, true, .arr (aInt g.2.1)), (10, true, .arr (aInt g.2.2))])
    (fun g => g.1 ≤ bs.length + 1 ∧ g.2.1.length = bs.length + 1 ∧ g.2.2.length = arcs.length ∧ outerF bs.length arcs fuel (bs.length + 1 - g.1) g.1 g.2.1 g.2.2 = some flowE) (fun g => bs.length + 1 - g.1) ?_
  conv => whnf
  refine ⟨⟨(0, needL by', List.replicate arcs.length 0), ⟨Nat.zero_le _, by show (needL by').length = _; simp [needL]; omega, List.length_replicate, hO⟩, ?_⟩, ?_⟩
  · conv => whnf
    repeat' (first | exact trivial | exact rfl | refine And.intro ?_ ?_ | ((conv => whnf); first | exact trivial | exact rfl | refine And.intro ?_ ?_ | omega))
  rintro ⟨i, need, flow⟩ ⟨hi, hnl1, hfl1, hO⟩ ρ2 t2 hρ2
  have hi : i ≤ bs.length + 1 := hi
  have hnl1 : need.length = bs.length + 1 := hnl1
  have hfl1 : flow.length = arcs.length := hfl1
  have hO : outerF bs.length arcs fuel (bs.length + 1 - i) i need flow = some flowE := hO
  dsimp only
  conv => whnf
  refine ⟨fun hc => ?_, fun hc => ?_⟩
  · have hc' : i < bs.length + 1 := by have := of_decide_eq_true (show decide ((i : Int) < ((bs.length + 1 : Nat) : Int)) = true from hc); omega
    have hlt : i < need.length := by omega
    rw [show bs.length + 1 - i = (bs.length + 1 - (i + 1)) + 1 from by omega] at hO
    obtain ⟨R, hI, hR⟩ : ∃ R, innerF bs.length arcs i fuel need flow = some R ∧ ((R.1 = true ∧ R.2.2 = flowE) ∨ (R.1 = false ∧ outerF bs.length arcs fuel (bs.length + 1 - (i + 1)) (i + 1) R.2.1 R.2.2 = some flowE)) := by
      unfold outerF at hO
      split at hO
      · cases hO
      · rename_i n1 f1 hI; exact ⟨_, hI, .inl ⟨rfl, Option.some.inj hO⟩⟩
      · rename_i n1 f1 hI; exact ⟨_, hI, .inr ⟨rfl, hO⟩⟩
    conv => whnf
    refine loop_step tB_ok (G := Nat × List Int × List Int) 2 [] (fun g => []) (fun g => [(8, true, .arr (aInt g.2.1)), (10, true, .arr (aInt g.2.2))])
      (fun g => g.2.1.length = bs.length + 1 ∧ g.2.2.length = arcs.length ∧ innerF bs.length arcs i g.1 g.2.1 g.2.2 = some R) (fun g => g.1) ?_
    conv => whnf
    refine ⟨⟨(fuel, need, flow), ⟨hnl1, hfl1, hI⟩, ?_⟩, ?_⟩
    · conv => whnf
      repeat' (first | exact trivial | exact rfl | refine And.intro ?_ ?_ | ((conv => whnf); first | exact trivial | exact rfl | refine And.intro ?_ ?_ | omega))
    clear hnl1 hfl1 hI hO hlt
    rintro ⟨f, need, flow⟩ ⟨hnl1, hfl1, hI⟩ ρ3 t3 hρ3
    have hnl1 : need.length = bs.length + 1 := hnl1
    have hfl1 : flow.length = arcs.length := hfl1
    have hI : innerF bs.length arcs i f need flow = some R := hI
    have hlt : i < need.length := by omega
    dsimp only
    conv => whnf
    refine ⟨i, rfl, hc', hlt, ?_⟩
    conv => whnf
    refine ⟨fun hc => ?_, fun hc => ?_⟩
    · have hneg : need[i] < 0 := of_decide_eq_true (show decide (need[i] < 0) = true from hc)
      have hgi : need.getD i 0 = need[i] := by rw [List.getD_eq_getElem?_getD, List.getElem?_eq_getElem hlt]; rfl
      obtain ⟨f, rfl⟩ : ∃ k, f = k + 1 := by
        cases f with
        | zero => cases hI
        | succ k => exact ⟨k, rfl⟩
      unfold innerF at hI
      rw [hgi, if_pos hneg] at hI
      dsimp only at hI
      have hsb := shortbest_t bs.length arcs flow hfl1 i (by omega) (by omega) hgok (by omega)
      have hTl := shortF_len bs.length (flowRev flow) arcs i hgok
      obtain ⟨T, hT⟩ : ∃ T, T = (shortF bs.length (flowRev flow) arcs i).1 := ⟨_, rfl⟩
      obtain ⟨c, hcc⟩ : ∃ c, c = (shortF bs.length (flowRev flow) arcs i).2 := ⟨_, rfl⟩
      rw [← hT] at hTl hI
      rw [← hT, ← hcc] at hsb
      obtain ⟨hl1, hl2, hl3⟩ := hTl
      clear hT hcc
      conv => whnf
      refine call_step hsb rfl rfl ?_
      conv => whnf
      refine ⟨(by repeat' (first | exact trivial | exact rfl | refine And.intro ?_ ?_ | ((conv => whnf); first | exact trivial | exact rfl | refine And.intro ?_ ?_ | omega))), (by repeat' (first | exact trivial | exact rfl | refine And.intro ?_ ?_ | ((conv => whnf); first | exact trivial | exact rfl | refine And.intro ?_ ?_ | omega))), ?_⟩
      conv => whnf
      refine loop_step tB_ok (G := Nat × Int) 3 [] (fun g => [(86, iv .i64 g.1), (15, iv .i64 g.2)]) (fun g => []) (fun g => g.1 ≤ bs.length + 1 ∧ g.2 = pickF need T.sum g.1) (fun g => bs.length + 1 - g.1) ?_
      conv => whnf
      refine ⟨⟨(0, -1), ⟨Nat.zero_le _, rfl⟩, ?_⟩, ?_⟩
      · conv => whnf
        repeat' (first | exact trivial | exact rfl | refine And.intro ?_ ?_ | ((conv => whnf); first | exact trivial | exact rfl | refine And.intro ?_ ?_ | omega))
      · rintro ⟨p, to⟩ ⟨hp, hto⟩ ρ4 t4 hρ4
        have hp : p ≤ bs.length + 1 := hp
        have hto : to = pickF need T.sum p := hto
        dsimp only
        conv => whnf
        refine ⟨fun hc => ?_, fun hc => ?_⟩
        · have hcp : p < bs.length + 1 := by have := of_decide_eq_true (show decide ((p : Int) < ((bs.length + 1 : Nat) : Int)) = true from hc); omega
          have hpn : p < need.length := by omega
          have hps : p < T.sum.length := by omega
          have hgp : need.getD p 0 = need[p] := by rw [List.getD_eq_getElem?_getD, List.getElem?_eq_getElem hpn]; rfl
          have hgs : T.sum.getD p 0 = T.sum[p] := by rw [List.getD_eq_getElem?_getD, List.getElem?_eq_getElem hps]; rfl
          have hstep : pickF need T.sum (p + 1) = if 0 < need[p] && (to == -1 || decide (T.sum[p] < T.sum.getD to.toNat 0)) then (p : Int) else to := by rw [hto, pickF, hgp, hgs]
          conv => whnf
          refine ⟨p, rfl, hcp, hpn, ?_⟩
          conv => whnf
          refine ⟨fun hc => ?_, fun hc => ?_⟩
          · have h1 : 0 < need[p] := of_decide_eq_true (show decide (0 < need[p]) = true from hc)
            conv => whnf
            refine ⟨fun hc => ?_, fun hc => ?_⟩
            · have h2 : to = -1 := by simpa using (show (to == -1) = true from hc)
              have hst : (p : Int) = pickF need T.sum (p + 1) := by rw [hstep]; simp [h1, h2]
              conv => whnf
              refine ⟨_, wrapId ⟨by omega, by omega⟩, ?_⟩
              refine ⟨(p + 1, (p : Int)), ⟨hcp, hst⟩, by show bs.length + 1 - (p + 1) < bs.length + 1 - p; omega, ?_⟩
              conv => whnf
              refine ⟨rfl, ?_⟩
              conv => whnf
              repeat' (first | exact trivial | exact rfl | refine And.intro ?_ ?_ | ((conv => whnf); first | exact trivial | exact rfl | refine And.intro ?_ ?_ | omega))
            · have h2 : (to == -1) = false := hc
              obtain ⟨k, hk, hke, hkp⟩ : ∃ k : Nat, k < p ∧ to = k ∧ 0 < need.getD k 0 := by
                rcases pickF_bd need T.sum p with h | h
                · rw [← hto] at h; rw [h] at h2; simp at h2
                · rw [← hto] at h; exact h
              have hks : k < T.sum.length := by omega
              have hgk : T.sum.getD to.toNat 0 = T.sum[k] := by rw [hke, Int.toNat_natCast, List.getD_eq_getElem?_getD, List.getElem?_eq_getElem hks]; rfl
              conv => whnf
              refine ⟨p, rfl, hcp, hps, ?_⟩
              conv => whnf
              refine ⟨k, hke, by show k < bs.length + 1; omega, hks, ?_⟩
              conv => whnf
              refine ⟨fun hc => ?_, fun hc => ?_⟩
              · have h3 : T.sum[p] < T.sum[k] := of_decide_eq_true (show decide (T.sum[p] < T.sum[k]) = true from hc)
                have hst : (p : Int) = pickF need T.sum (p + 1) := by rw [hstep, hgk]; simp [h1, h3]
                conv => whnf
                refine ⟨_, wrapId ⟨by omega, by omega⟩, ?_⟩
                refine ⟨(p + 1, (p : Int)), ⟨hcp, hst⟩, by show bs.length + 1 - (p + 1) < bs.length + 1 - p; omega, ?_⟩
                conv => whnf
                refine ⟨rfl, ?_⟩
                conv => whnf
                repeat' (first | exact trivial | exact rfl | refine And.intro ?_ ?_ | ((conv => whnf); first | exact trivial | exact rfl | refine And.intro ?_ ?_ | omega))
              · have h3 : ¬ T.sum[p] < T.sum[k] := of_decide_eq_false (show decide (T.sum[p] < T.sum[k]) = false from hc)
                have hst : to = pickF need T.sum (p + 1) := by rw [hstep, hgk]; simp [h2, h3]
                conv => whnf
                refine ⟨_, wrapId ⟨by omega, by omega⟩, ?_⟩
                refine ⟨(p + 1, to), ⟨hcp, hst⟩, by show bs.length + 1 - (p + 1) < bs.length + 1 - p; omega, ?_⟩
                conv => whnf
                refine ⟨rfl, ?_⟩
                conv => whnf
                repeat' (first | exact trivial | exact rfl | refine And.intro ?_ ?_ | ((conv => whnf); first | exact trivial | exact rfl | refine And.intro ?_ ?_ | omega))
          · have h1 : ¬ 0 < need[p] := of_decide_eq_false (show decide (0 < need[p]) = false from hc)
            have hst : to = pickF need T.sum (p + 1) := by rw [hstep]; simp [h1]
            conv => whnf
            refine ⟨_, wrapId ⟨by omega, by omega⟩, ?_⟩
            refine ⟨(p + 1, to), ⟨hcp, hst⟩, by show bs.length + 1 - (p + 1) < bs.length + 1 - p; omega, ?_⟩
            conv => whnf
            refine ⟨rfl, ?_⟩
            conv => whnf
            repeat' (first | exact trivial | exact rfl | refine And.intro ?_ ?_ | ((conv => whnf); first | exact trivial | exact rfl | refine And.intro ?_ ?_ | omega))
        · have hpe : p = bs.length + 1 := by have := of_decide_eq_false (show decide ((p : Int) < ((bs.length + 1 : Nat) : Int)) = false from hc); omega
          subst hpe
          rw [← hto] at hI
          conv => whnf
          refine ⟨fun hc => ?_, fun hc => ?_⟩
          · have h2 : to = -1 := by simpa using (show (to == -1) = true from hc)
            rw [if_pos h2] at hI
            have hRe := Option.some.inj hI
            have hfe : flow = flowE := by
              rcases hR with h | h
              · rw [← hRe] at h; exact h.2
              · rw [← hRe] at h; cases h.1
            subst hfe
            conv => whnf
            refine loop_step tB_ok (G := Nat × List (Lnk × Int)) 1 [] (fun g => [(196, iv .i64 g.1)]) (fun g => [(23, true, .cells [.v (.int .i64 0), .s 24 0 g.2.length 5, .v (.slice none 0 0)]), (24, true, .arr (aUse g.2))]) (fun g => g.1 ≤ arcs.length ∧ g.2 = usesF (arcs.take g.1) (flow.take g.1)) (fun g => arcs.length - g.1) ?_
            conv => whnf
            refine ⟨⟨(0, []), ⟨Nat.zero_le _, by simp [usesF]⟩, ?_⟩, ?_⟩
            · conv => whnf
              repeat' (first | exact trivial | exact rfl | refine And.intro ?_ ?_ | ((conv => whnf); first | exact trivial | exact rfl | refine And.intro ?_ ?_ | omega))
            rintro ⟨m, uu⟩ ⟨hm, huu⟩ ρ7 t7 hρ7
            have hm : m ≤ arcs.length := hm
            have huu : uu = usesF (arcs.take m) (flow.take m) := huu
            have hul : uu.length ≤ arcs.length := by rw [huu]; exact Nat.le_trans (usesF_len _ _) (by rw [List.length_take]; omega)
            dsimp only
            conv => whnf
            refine ⟨fun hc => ?_, fun hc => ?_⟩
            · have hm1 : m < arcs.length := by have := of_decide_eq_true (show decide ((m : Int) < (arcs.length : Int)) = true from hc); omega
              have hm2 : m < flow.length := by omega
              have hut := usesF_take hfl1.symm hm1 hm2
              rw [← huu] at hut
              conv => whnf
              refine ⟨m, rfl, hm1, hm2, ?_⟩
              conv => whnf
              refine ⟨fun hc => ?_, fun hc => ?_⟩
              · have hx : 0 < flow[m] := of_decide_eq_true (show decide (0 < flow[m]) = true from hc)
                rw [if_pos hx] at hut
                conv => whnf
                refine ⟨m, rfl, hm1, hm1, ?_⟩
                conv => whnf
                refine bs_step tB_ok (aUse [(arcs[m], flow[m])]) rfl rfl ?_
                conv => whnf
                refine ⟨⟨rfl, rfl, rfl, rfl, rfl, rfl, trivial⟩, ?_⟩
                conv => whnf
                refine app_step tB_ok (aUse uu) [(arcs[m], flow[m])] (fun _ => rfl) rfl rfl rfl rfl ?_
                conv => whnf
                refine ⟨⟨rfl, rfl, Nat.le_refl _, Nat.le_refl _, by show (uu.length + 1) * 41 ≤ _; omega⟩, ?_⟩
                conv => whnf
                refine ⟨_, wrapId ⟨by omega, by omega⟩, ?_⟩
                refine ⟨(m + 1, uu ++ [(arcs[m], flow[m])]), ⟨hm1, hut.symm⟩, by show arcs.length - (m + 1) < arcs.length - m; omega, ?_⟩
                conv => whnf
                refine ⟨rfl, ?_⟩
                conv => whnf
                repeat' (first | exact trivial | exact rfl | refine And.intro ?_ ?_ | ((conv => whnf); first | exact trivial | exact rfl | refine And.intro ?_ ?_ | omega))
                all_goals first | exact congrArg aUse app1 | simp
              · have hx : ¬ 0 < flow[m] := of_decide_eq_false (show decide (0 < flow[m]) = false from hc)
                rw [if_neg hx, List.append_nil] at hut
                conv => whnf
                refine ⟨_, wrapId ⟨by omega, by omega⟩, ?_⟩
                refine ⟨(m + 1, uu), ⟨hm1, hut.symm⟩, by show arcs.length - (m + 1) < arcs.length - m; omega, ?_⟩
                conv => whnf
                refine ⟨rfl, ?_⟩
                conv => whnf
                repeat' (first | exact trivial | exact rfl | refine And.intro ?_ ?_ | ((conv => whnf); first | exact trivial | exact rfl | refine And.intro ?_ ?_ | omega))
            have hme : m = arcs.length := by have := of_decide_eq_false (show decide ((m : Int) < (arcs.length : Int)) = false from hc); omega
            subst hme
            rw [List.take_length, List.take_of_length_le (by omega)] at huu
            have hsb2 := shortbest_t bs.length arcs flow hfl1 bs.length (by omega) (by omega) hgok (by omega)
            have hTl2 := shortF_len bs.length (flowRev flow) arcs bs.length hgok
            obtain ⟨T2, hT2⟩ : ∃ T, T = (shortF bs.length (flowRev flow) arcs bs.length).1 := ⟨_, rfl⟩
            obtain ⟨c2, hcc2⟩ : ∃ c, c = (shortF bs.length (flowRev flow) arcs bs.length).2 := ⟨_, rfl⟩
            rw [← hT2] at hTl2 hv
            rw [← hT2, ← hcc2] at hsb2
            rw [← huu] at hv
            obtain ⟨hk1, hk2, hk3⟩ := hTl2
            obtain ⟨v', hval, hve⟩ := Option.map_eq_some_iff.1 hv
            simp only [Prod.mk.injEq] at hve
            obtain ⟨rfl, rfl, hpe⟩ := hve
            have hpl : pt.length = bs.length := by rw [← hpe, List.length_take]; omega
            clear hT2 hcc2 huu hv
            conv => whnf
            refine call_step hsb2 rfl rfl ?_
            conv => whnf
            refine ⟨(by repeat' (first | exact trivial | exact rfl | refine And.intro ?_ ?_ | ((conv => whnf); first | exact trivial | exact rfl | refine And.intro ?_ ?_ | omega))), (by repeat' (first | exact trivial | exact rfl | refine And.intro ?_ ?_ | ((conv => whnf); first | exact trivial | exact rfl | refine And.intro ?_ ?_ | omega))), ?_⟩
            conv => whnf
            refine sl3_step tB_ok rfl ?_
            conv => whnf
            refine ⟨bs.length, rfl, rfl, Nat.le_succ _, rfl, ?_⟩
            conv => whnf
            refine loop_step tB_ok (G := Nat × Int) 0 [] (fun g => [(243, iv .i64 g.1)]) (fun g => [(23, true, .cells [.v (.int .i64 g.2), .s 24 0 uu.length 5, .s 29 0 bs.length 1]), (29, true, .arr (aInt pt))]) (fun g => g.1 ≤ bs.length ∧ valF (by'.drop g.1) (pt.drop g.1) g.2 = some v') (fun g => bs.length - g.1) ?_
            conv => whnf
            refine ⟨⟨(0, 0), ⟨Nat.zero_le _, by rw [← hpe]; exact hval⟩, ?_⟩, ?_⟩
            · conv => whnf
              repeat' (first | exact trivial | exact rfl | refine And.intro ?_ ?_ | ((conv => whnf); first | exact trivial | exact rfl | refine And.intro ?_ ?_ | omega))
              exact congrArg aInt hpe
            rintro ⟨m2, acc⟩ ⟨hm2, hva⟩ ρ8 t8 hρ8
            have hm2 : m2 ≤ bs.length := hm2
            have hva : valF (by'.drop m2) (pt.drop m2) acc = some v' := hva
            dsimp only
            conv => whnf
            refine ⟨fun hc => ?_, fun hc => ?_⟩
            · have hm3 : m2 < bs.length := by have := of_decide_eq_true (show decide ((m2 : Int) < (bs.length : Int)) = true from hc); omega
              have hby : m2 < by'.length := by omega
              have hpt : m2 < pt.length := by omega
              rw [List.drop_eq_getElem_cons hby, List.drop_eq_getElem_cons hpt] at hva
              obtain ⟨d, hd⟩ : ∃ d, d = by'[m2] * pt[m2] := ⟨_, rfl⟩
              obtain ⟨hi1, hi2, hva⟩ : inI d = true ∧ inI (acc + d) = true ∧ valF (by'.drop (m2 + 1)) (pt.drop (m2 + 1)) (acc + d) = some v' := by
                simp only [valF] at hva
                split at hva
                · rename_i hb
                  simp only [Bool.and_eq_true, ← hd] at hb hva
                  exact ⟨hb.1, hb.2, hva⟩
                · cases hva
              rw [inI_iff] at hi1 hi2
              conv => whnf
              refine ⟨m2, rfl, hm3, hby, ?_⟩
              conv => whnf
              refine ⟨m2, rfl, hm3, hpt, ?_⟩
              conv => whnf
              refine ⟨d, (congrArg IntKind.i64.wrap hd.symm).trans (wrapId hi1), ?_⟩
              conv => whnf
              refine ⟨acc + d, wrapId hi2, ?_⟩
              conv => whnf
              refine ⟨_, wrapId ⟨by omega, by omega⟩, ?_⟩
              refine ⟨(m2 + 1, acc + d), ⟨hm3, hva⟩, by show bs.length - (m2 + 1) < bs.length - m2; omega, ?_⟩
              conv => whnf
              refine ⟨rfl, ?_⟩
              conv => whnf
              repeat' (first | exact trivial | exact rfl | refine And.intro ?_ ?_ | ((conv => whnf); first | exact trivial | exact rfl | refine And.intro ?_ ?_ | omega))
            have hme : m2 = bs.length := by have := of_decide_eq_false (show decide ((m2 : Int) < (bs.length : Int)) = false from hc); omega
            have hva : acc = v' := by
              rw [hme, List.drop_of_length_le (by omega)] at hva
              exact Option.some.inj hva
            subst hva
            conv => whnf
            repeat' (first | exact trivial | exact rfl | refine And.intro ?_ ?_ | ((conv => whnf); first | exact trivial | exact rfl | refine And.intro ?_ ?_ | omega))
          · obtain ⟨k, hk, rfl, hkp⟩ : ∃ k : Nat, k < bs.length + 1 ∧ to = k ∧ 0 < need.getD k 0 := by
              have h2 : ¬ to = -1 := by simpa using (show (to == -1) = false from hc)
              rcases pickF_bd need T.sum (bs.length + 1) with h | h
              · exact absurd (hto.trans h) h2
              · rw [← hto] at h; exact h
            obtain ⟨ks, a, flow', hks, ha, hadd, hb1, hb2, hb3, hI⟩ := innerF_go hI
            rw [inI_iff] at hb1 hb2 hb3
            have hkn : k < need.length := by omega
            have hgk : need.getD k 0 = need[k] := by rw [List.getD_eq_getElem?_getD, List.getElem?_eq_getElem hkn]; rfl
            rw [hgk] at ha
            conv => whnf
            refine ⟨i, rfl, hc', hlt, ?_⟩
            conv => whnf
            refine ⟨-need[i], (congrArg IntKind.i64.wrap (show 0 - need[i] = -need[i] by omega)).trans (wrapId hb1), ?_⟩
            conv => whnf
            refine ⟨k, rfl, hk, hkn, ?_⟩
            conv => whnf
            refine loop_step tB_ok (G := Nat × List Nat × Int) 3 [] (fun g => [(19, iv .i64 g.1), (18, iv .i64 g.2.2)]) (fun g => []) (fun g => (∃ fu, stepsF bs.length arcs T.last i fu g.1 = some g.2.1) ∧ amtF flow g.2.1 g.2.2 = a) (fun g => g.2.1.length) ?_
            conv => whnf
            refine ⟨⟨(k, ks, min (-need[i]) need[k]), ⟨⟨_, hks⟩, ha.symm⟩, ?_⟩, ?_⟩
            · conv => whnf
              repeat' (first | exact trivial | exact rfl | refine And.intro ?_ ?_ | ((conv => whnf); first | exact trivial | exact rfl | refine And.intro ?_ ?_ | omega))
            · rintro ⟨p, kr, ac⟩ ⟨⟨fu, hst⟩, ham⟩ ρ5 t5 hρ5
              have hst : stepsF bs.length arcs T.last i fu p = some kr := hst
              have ham : amtF flow kr ac = a := ham
              dsimp only
              conv => whnf
              refine ⟨fun hc => ?_, fun hc => ?_⟩
              · have hpi : p ≠ i := by have := (show ((p : Int) != (i : Int)) = true from hc); simp at this; omega
                rcases stepsF_cases hst with h | ⟨_, k1, q, r, f', hla, hbe, hr, rfl⟩
                · exact absurd h.1 hpi
                have hkl := befF_lt hbe
                obtain ⟨hpl, hpe⟩ := List.getElem?_eq_some_iff.1 hla
                have hpm : p < bs.length + 1 := by omega
                have hk64 : ¬ 9223372036854775807 < k1 := by omega
                have hmod : Int.tmod T.last[p] 2 = ((k1 % 2 : Nat) : Int) := by rw [hpe]; rfl
                have hdiv : IntKind.i64.wrap (Int.tdiv T.last[p] 2) = ((k1 / 2 : Nat) : Int) := by rw [hpe]; exact wrapId (z := ((k1 / 2 : Nat) : Int)) ⟨by omega, by omega⟩
                have hbt := before_t bs.length arcs T.last p k1 q T.sum T.there (bs.length + 1) (by omega) hl3 hla hk64 hbe
                have hfl : k1 / 2 < flow.length := by omega
                have hgf : flow.getD (k1 / 2) 0 = flow[k1 / 2] := by rw [List.getD_eq_getElem?_getD, List.getElem?_eq_getElem hfl]; rfl
                simp only [amtF] at ham
                rw [hgf] at ham
                obtain ⟨j, hj⟩ : ∃ j, j = k1 / 2 := ⟨_, rfl⟩
                obtain ⟨b, hbb⟩ : ∃ b, b = k1 % 2 := ⟨_, rfl⟩
                rw [← hbb] at hmod ham
                rw [← hj] at hdiv hkl
                have hfl : j < flow.length := by omega
                have ham : amtF flow r (if b = 1 then min ac flow[j] else ac) = a := by subst hj; exact ham
                clear hst hla hbe hgf
                conv => whnf
                refine ⟨p, rfl, hpm, hpl, ?_⟩
                conv => whnf
                refine ⟨by decide, (b : Int), hmod, ?_⟩
                conv => whnf
                refine ⟨fun hc => ?_, fun hc => ?_⟩
                · have h1 : b = 1 := by have := of_decide_eq_true (show decide ((b : Int) = 1) = true by simpa using hc); omega
                  rw [if_pos h1] at ham
                  conv => whnf
                  refine ⟨p, rfl, hpm, hpl, ?_⟩
                  conv => whnf
                  refine ⟨by decide, (j : Int), hdiv, ?_⟩
                  conv => whnf
                  refine ⟨j, rfl, hkl, hfl, ?_⟩
                  conv => whnf
                  refine call_step hbt rfl rfl ?_
                  conv => whnf
                  refine ⟨(by repeat' (first | exact trivial | exact rfl | refine And.intro ?_ ?_ | ((conv => whnf); first | exact trivial | exact rfl | refine And.intro ?_ ?_ | omega))), (by repeat' (first | exact trivial | exact rfl | refine And.intro ?_ ?_ | ((conv => whnf); first | exact trivial | exact rfl | refine And.intro ?_ ?_ | omega))), ?_⟩
                  conv => whnf
                  refine ⟨(q, r, min ac flow[j]), ⟨⟨_, hr⟩, ham⟩, by show r.length < r.length + 1; omega, ?_⟩
                  conv => whnf
                  refine ⟨rfl, ?_⟩
                  conv => whnf
                  repeat' (first | exact trivial | exact rfl | refine And.intro ?_ ?_ | ((conv => whnf); first | exact trivial | exact rfl | refine And.intro ?_ ?_ | omega))
                · have h1 : b ≠ 1 := by have := of_decide_eq_false (show decide ((b : Int) = 1) = false by simpa using hc); omega
                  rw [if_neg h1] at ham
                  conv => whnf
                  refine call_step hbt rfl rfl ?_
                  conv => whnf
                  refine ⟨(by repeat' (first | exact trivial | exact rfl | refine And.intro ?_ ?_ | ((conv => whnf); first | exact trivial | exact rfl | refine And.intro ?_ ?_ | omega))), (by repeat' (first | exact trivial | exact rfl | refine And.intro ?_ ?_ | ((conv => whnf); first | exact trivial | exact rfl | refine And.intro ?_ ?_ | omega))), ?_⟩
                  conv => whnf
                  refine ⟨(q, r, ac), ⟨⟨_, hr⟩, ham⟩, by show r.length < r.length + 1; omega, ?_⟩
                  conv => whnf
                  refine ⟨rfl, ?_⟩
                  conv => whnf
                  repeat' (first | exact trivial | exact rfl | refine And.intro ?_ ?_ | ((conv => whnf); first | exact trivial | exact rfl | refine And.intro ?_ ?_ | omega))
              · have hpi : p = i := by have := (show ((p : Int) != (i : Int)) = false from hc); simp at this; omega
                have hkr : kr = [] := by
                  rcases stepsF_cases hst with h | h
                  · exact h.2
                  · exact absurd hpi h.1
                subst hkr
                have ham : ac = a := ham
                subst ham
                conv => whnf
                refine loop_step tB_ok (G := Nat × List Nat × List Int) 3 [] (fun g => [(20, iv .i64 g.1)]) (fun g => [(10, true, .arr (aInt g.2.2))]) (fun g => (∃ fu, stepsF bs.length arcs T.last i fu g.1 = some g.2.1) ∧ g.2.2.length = arcs.length ∧ addF ac g.2.1 g.2.2 = some flow') (fun g => g.2.1.length) ?_
                conv => whnf
                refine ⟨⟨(k, ks, flow), ⟨⟨_, hks⟩, hfl1, hadd⟩, ?_⟩, ?_⟩
                · conv => whnf
                  repeat' (first | exact trivial | exact rfl | refine And.intro ?_ ?_ | ((conv => whnf); first | exact trivial | exact rfl | refine And.intro ?_ ?_ | omega))
                · rintro ⟨p, kr, fl⟩ ⟨⟨fu, hst⟩, hfll, had⟩ ρ6 t6 hρ6
                  have hst : stepsF bs.length arcs T.last i fu p = some kr := hst
                  have hfll : fl.length = arcs.length := hfll
                  have had : addF ac kr fl = some flow' := had
                  dsimp only
                  conv => whnf
                  refine ⟨fun hc => ?_, fun hc => ?_⟩
                  · have hpi : p ≠ i := by have := (show ((p : Int) != (i : Int)) = true from hc); simp at this; omega
                    rcases stepsF_cases hst with h | ⟨_, k1, q, r, f', hla, hbe, hr, rfl⟩
                    · exact absurd h.1 hpi
                    have hkl := befF_lt hbe
                    obtain ⟨hpl, hpe⟩ := List.getElem?_eq_some_iff.1 hla
                    have hpm : p < bs.length + 1 := by omega
                    have hk64 : ¬ 9223372036854775807 < k1 := by omega
                    have hmod : Int.tmod T.last[p] 2 = ((k1 % 2 : Nat) : Int) := by rw [hpe]; rfl
                    have hdiv : IntKind.i64.wrap (Int.tdiv T.last[p] 2) = ((k1 / 2 : Nat) : Int) := by rw [hpe]; exact wrapId (z := ((k1 / 2 : Nat) : Int)) ⟨by omega, by omega⟩
                    have hbt := before_t bs.length arcs T.last p k1 q T.sum T.there (bs.length + 1) (by omega) hl3 hla hk64 hbe
                    obtain ⟨hi1, hi2, had⟩ := addF_cases had
                    rw [inI_iff] at hi1 hi2
                    have hb2 : k1 % 2 < 2 := Nat.mod_lt _ (by omega)
                    obtain ⟨j, hj⟩ : ∃ j, j = k1 / 2 := ⟨_, rfl⟩
                    obtain ⟨b, hbb⟩ : ∃ b, b = k1 % 2 := ⟨_, rfl⟩
                    rw [← hbb] at hmod hi1 hi2 had hb2
                    rw [← hj] at hdiv hkl hi2 had
                    have hfl : j < fl.length := by omega
                    have hgf : fl.getD j 0 = fl[j] := by rw [List.getD_eq_getElem?_getD, List.getElem?_eq_getElem hfl]; rfl
                    rw [hgf] at hi2 had
                    obtain ⟨d, hd⟩ : ∃ d, d = ac * (1 - 2 * (b : Int)) := ⟨_, rfl⟩
                    rw [← hd] at hi1 hi2 had
                    obtain ⟨u, hu⟩ : ∃ u, u = fl[j] + d := ⟨_, rfl⟩
                    rw [← hu] at hi2 had
                    clear hst hla hbe hgf
                    conv => whnf
                    refine ⟨p, rfl, hpm, hpl, ?_⟩
                    conv => whnf
                    refine ⟨by decide, (j : Int), hdiv, ?_⟩
                    conv => whnf
                    refine ⟨j, rfl, hkl, hfl, ?_⟩
                    conv => whnf
                    refine ⟨p, rfl, hpm, hpl, ?_⟩
                    conv => whnf
                    refine ⟨by decide, (b : Int), hmod, ?_⟩
                    conv => whnf
                    refine ⟨2 * (b : Int), wrapId ⟨by omega, by omega⟩, ?_⟩
                    conv => whnf
                    refine ⟨1 - 2 * (b : Int), wrapId ⟨by omega, by omega⟩, ?_⟩
                    conv => whnf
                    refine ⟨d, (congrArg IntKind.i64.wrap hd.symm).trans (wrapId hi1), ?_⟩
                    conv => whnf
                    refine ⟨u, (congrArg IntKind.i64.wrap (show fl[j] + d = u from hu.symm)).trans (wrapId hi2), ?_⟩
                    conv => whnf
                    refine ⟨j, rfl, hkl, hfl, u, rfl, ?_⟩
                    conv => whnf
                    refine call_step hbt rfl rfl ?_
                    conv => whnf
                    refine ⟨(by repeat' (first | exact trivial | exact rfl | refine And.intro ?_ ?_ | ((conv => whnf); first | exact trivial | exact rfl | refine And.intro ?_ ?_ | omega))), (by repeat' (first | exact trivial | exact rfl | refine And.intro ?_ ?_ | ((conv => whnf); first | exact trivial | exact rfl | refine And.intro ?_ ?_ | omega))), ?_⟩
                    conv => whnf
                    refine ⟨(q, r, fl.set j u), ⟨⟨_, hr⟩, by show (fl.set j u).length = arcs.length; rw [List.length_set]; exact hfll, had⟩, by show r.length < r.length + 1; omega, ?_⟩
                    conv => whnf
                    refine ⟨rfl, ?_⟩
                    conv => whnf
                    repeat' (first | exact trivial | exact rfl | refine And.intro ?_ ?_ | ((conv => whnf); first | exact trivial | exact rfl | refine And.intro ?_ ?_ | omega))
                  · have hpi : p = i := by have := (show ((p : Int) != (i : Int)) = false from hc); simp at this; omega
                    have hkr : kr = [] := by
                      rcases stepsF_cases hst with h | h
                      · exact h.2
                      · exact absurd hpi h.1
                    subst hkr
                    have hfe : fl = flow' := Option.some.inj had
                    subst hfe
                    obtain ⟨u1, hu1⟩ : ∃ u, u = need[i] + ac := ⟨_, rfl⟩
                    rw [← hu1] at hb2 hb3 hI
                    have hk1 : k < (need.set i u1).length := by rw [List.length_set]; exact hkn
                    have hgk1 : (need.set i u1).getD k 0 = (need.set i u1)[k] := by rw [List.getD_eq_getElem?_getD, List.getElem?_eq_getElem hk1]; rfl
                    rw [hgk1] at hb3 hI
                    obtain ⟨u2, hu2⟩ : ∃ u, u = (need.set i u1)[k] - ac := ⟨_, rfl⟩
                    rw [← hu2] at hb3 hI
                    conv => whnf
                    refine ⟨i, rfl, hc', hlt, ?_⟩
                    conv => whnf
                    refine ⟨u1, (congrArg IntKind.i64.wrap (show need[i] + ac = u1 from hu1.symm)).trans (wrapId hb2), ?_⟩
                    conv => whnf
                    refine ⟨i, rfl, hc', hlt, u1, rfl, ?_⟩
                    conv => whnf
                    refine ⟨k, rfl, hk, hk1, ?_⟩
                    conv => whnf
                    refine ⟨u2, (congrArg IntKind.i64.wrap (show (need.set i u1)[k] - ac = u2 from hu2.symm)).trans (wrapId hb3), ?_⟩
                    conv => whnf
                    refine ⟨k, rfl, hk, hk1, u2, rfl, ?_⟩
                    conv => whnf
                    refine ⟨(f, (need.set i u1).set k u2, fl), ⟨by show ((need.set i u1).set k u2).length = _; rw [List.length_set, List.length_set]; exact hnl1, hfll, hI⟩, by show f < f + 1; omega, ?_⟩
                    conv => whnf
                    refine ⟨rfl, ?_⟩
                    conv => whnf
                    repeat' (first | exact trivial | exact rfl | refine And.intro ?_ ?_ | ((conv => whnf); first | exact trivial | exact rfl | refine And.intro ?_ ?_ | omega))
    · have hneg : ¬ need[i] < 0 := of_decide_eq_false (show decide (need[i] < 0) = false from hc)
      have hgi : need.getD i 0 = need[i] := by rw [List.getD_eq_getElem?_getD, List.getElem?_eq_getElem hlt]; rfl
      have hRe : R = (false, need, flow) := by
        cases f with
        | zero => cases hI
        | succ k =>
          unfold innerF at hI
          rw [hgi, if_neg hneg] at hI
          exact (Option.some.inj hI).symm
      have hO : outerF bs.length arcs fuel (bs.length + 1 - (i + 1)) (i + 1) need flow = some flowE := by
        rcases hR with h | h
        · rw [hRe] at h; cases h.1
        · rw [hRe] at h; exact h.2
      conv => whnf
      refine ⟨_, wrapId ⟨by omega, by omega⟩, ?_⟩
      refine ⟨(i + 1, need, flow), ⟨hc', hnl1, hfl1, hO⟩, by show bs.length + 1 - (i + 1) < bs.length + 1 - i; omega, ?_⟩
      conv => whnf
      refine ⟨rfl, ?_⟩
      conv => whnf
      repeat' (first | exact trivial | exact rfl | refine And.intro ?_ ?_ | ((conv => whnf); first | exact trivial | exact rfl | refine And.intro ?_ ?_ | omega))
  · have hie : i = bs.length + 1 := by have := of_decide_eq_false (show decide ((i : Int) < ((bs.length + 1 : Nat) : Int)) = false from hc); omega
    have hfe : flow = flowE := by
      rw [hie, Nat.sub_self] at hO
      exact Option.some.inj hO
    subst hfe
    conv => whnf
    refine loop_step tB_ok (G := Nat × List (Lnk × Int)) 1 [] (fun g => [(196, iv .i64 g.1)]) (fun g => [(14, true, .cells [.v (.int .i64 0), .s 15 0 g.2.length 5, .v (.slice none 0 0)]), (15, true, .arr (aUse g.2))]) (fun g => g.1 ≤ arcs.length ∧ g.2 = usesF (arcs.take g.1) (flow.take g.1)) (fun g => arcs.length - g.1) ?_
    conv => whnf
    refine ⟨⟨(0, []), ⟨Nat.zero_le _, by simp [usesF]⟩, ?_⟩, ?_⟩
    · conv => whnf
      repeat' (first | exact trivial | exact rfl | refine And.intro ?_ ?_ | ((conv => whnf); first | exact trivial | exact rfl | refine And.intro ?_ ?_ | omega))
    rintro ⟨m, uu⟩ ⟨hm, huu⟩ ρ7 t7 hρ7
    have hm : m ≤ arcs.length := hm
    have huu : uu = usesF (arcs.take m) (flow.take m) := huu
    have hul : uu.length ≤ arcs.length := by rw [huu]; exact Nat.le_trans (usesF_len _ _) (by rw [List.length_take]; omega)
    dsimp only
    conv => whnf
    refine ⟨fun hc => ?_, fun hc => ?_⟩
    · have hm1 : m < arcs.length := by have := of_decide_eq_true (show decide ((m : Int) < (arcs.length : Int)) = true from hc); omega
      have hm2 : m < flow.length := by omega
      have hut := usesF_take hfl1.symm hm1 hm2
      rw [← huu] at hut
      conv => whnf
      refine ⟨m, rfl, hm1, hm2, ?_⟩
      conv => whnf
      refine ⟨fun hc => ?_, fun hc => ?_⟩
      · have hx : 0 < flow[m] := of_decide_eq_true (show decide (0 < flow[m]) = true from hc)
        rw [if_pos hx] at hut
        conv => whnf
        refine ⟨m, rfl, hm1, hm1, ?_⟩
        conv => whnf
        refine bs_step tB_ok (aUse [(arcs[m], flow[m])]) rfl rfl ?_
        conv => whnf
        refine ⟨⟨rfl, rfl, rfl, rfl, rfl, rfl, trivial⟩, ?_⟩
        conv => whnf
        refine app_step tB_ok (aUse uu) [(arcs[m], flow[m])] (fun _ => rfl) rfl rfl rfl rfl ?_
        conv => whnf
        refine ⟨⟨rfl, rfl, Nat.le_refl _, Nat.le_refl _, by show (uu.length + 1) * 41 ≤ _; omega⟩, ?_⟩
        conv => whnf
        refine ⟨_, wrapId ⟨by omega, by omega⟩, ?_⟩
        refine ⟨(m + 1, uu ++ [(arcs[m], flow[m])]), ⟨hm1, hut.symm⟩, by show arcs.length - (m + 1) < arcs.length - m; omega, ?_⟩
        conv => whnf
        refine ⟨rfl, ?_⟩
        conv => whnf
        repeat' (first | exact trivial | exact rfl | refine And.intro ?_ ?_ | ((conv => whnf); first | exact trivial | exact rfl | refine And.intro ?_ ?_ | omega))
        all_goals first | exact congrArg aUse app1 | simp
      · have hx : ¬ 0 < flow[m] := of_decide_eq_false (show decide (0 < flow[m]) = false from hc)
        rw [if_neg hx, List.append_nil] at hut
        conv => whnf
        refine ⟨_, wrapId ⟨by omega, by omega⟩, ?_⟩
        refine ⟨(m + 1, uu), ⟨hm1, hut.symm⟩, by show arcs.length - (m + 1) < arcs.length - m; omega, ?_⟩
        conv => whnf
        refine ⟨rfl, ?_⟩
        conv => whnf
        repeat' (first | exact trivial | exact rfl | refine And.intro ?_ ?_ | ((conv => whnf); first | exact trivial | exact rfl | refine And.intro ?_ ?_ | omega))
    have hme : m = arcs.length := by have := of_decide_eq_false (show decide ((m : Int) < (arcs.length : Int)) = false from hc); omega
    subst hme
    rw [List.take_length, List.take_of_length_le (by omega)] at huu
    have hsb2 := shortbest_t bs.length arcs flow hfl1 bs.length (by omega) (by omega) hgok (by omega)
    have hTl2 := shortF_len bs.length (flowRev flow) arcs bs.length hgok
    obtain ⟨T2, hT2⟩ : ∃ T, T = (shortF bs.length (flowRev flow) arcs bs.length).1 := ⟨_, rfl⟩
    obtain ⟨c2, hcc2⟩ : ∃ c, c = (shortF bs.length (flowRev flow) arcs bs.length).2 := ⟨_, rfl⟩
    rw [← hT2] at hTl2 hv
    rw [← hT2, ← hcc2] at hsb2
    rw [← huu] at hv
    obtain ⟨hk1, hk2, hk3⟩ := hTl2
    obtain ⟨v', hval, hve⟩ := Option.map_eq_some_iff.1 hv
    simp only [Prod.mk.injEq] at hve
    obtain ⟨rfl, rfl, hpe⟩ := hve
    have hpl : pt.length = bs.length := by rw [← hpe, List.length_take]; omega
    clear hT2 hcc2 huu hv
    conv => whnf
    refine call_step hsb2 rfl rfl ?_
    conv => whnf
    refine ⟨(by repeat' (first | exact trivial | exact rfl | refine And.intro ?_ ?_ | ((conv => whnf); first | exact trivial | exact rfl | refine And.intro ?_ ?_ | omega))), (by repeat' (first | exact trivial | exact rfl | refine And.intro ?_ ?_ | ((conv => whnf); first | exact trivial | exact rfl | refine And.intro ?_ ?_ | omega))), ?_⟩
    conv => whnf
    refine sl3_step tB_ok rfl ?_
    conv => whnf
    refine ⟨bs.length, rfl, rfl, Nat.le_succ _, rfl, ?_⟩
    conv => whnf
    refine loop_step tB_ok (G := Nat × Int) 0 [] (fun g => [(243, iv .i64 g.1)]) (fun g => [(14, true, .cells [.v (.int .i64 g.2), .s 15 0 uu.length 5, .s 20 0 bs.length 1]), (20, true, .arr (aInt pt))]) (fun g => g.1 ≤ bs.length ∧ valF (by'.drop g.1) (pt.drop g.1) g.2 = some v') (fun g => bs.length - g.1) ?_
    conv => whnf
    refine ⟨⟨(0, 0), ⟨Nat.zero_le _, by rw [← hpe]; exact hval⟩, ?_⟩, ?_⟩
    · conv => whnf
      repeat' (first | exact trivial | exact rfl | refine And.intro ?_ ?_ | ((conv => whnf); first | exact trivial | exact rfl | refine And.intro ?_ ?_ | omega))
      exact congrArg aInt hpe
    rintro ⟨m2, acc⟩ ⟨hm2, hva⟩ ρ8 t8 hρ8
    have hm2 : m2 ≤ bs.length := hm2
    have hva : valF (by'.drop m2) (pt.drop m2) acc = some v' := hva
    dsimp only
    conv => whnf
    refine ⟨fun hc => ?_, fun hc => ?_⟩
    · have hm3 : m2 < bs.length := by have := of_decide_eq_true (show decide ((m2 : Int) < (bs.length : Int)) = true from hc); omega
      have hby : m2 < by'.length := by omega
      have hpt : m2 < pt.length := by omega
      rw [List.drop_eq_getElem_cons hby, List.drop_eq_getElem_cons hpt] at hva
      obtain ⟨d, hd⟩ : ∃ d, d = by'[m2] * pt[m2] := ⟨_, rfl⟩
      obtain ⟨hi1, hi2, hva⟩ : inI d = true ∧ inI (acc + d) = true ∧ valF (by'.drop (m2 + 1)) (pt.drop (m2 + 1)) (acc + d) = some v' := by
        simp only [valF] at hva
        split at hva
        · rename_i hb
          simp only [Bool.and_eq_true, ← hd] at hb hva
          exact ⟨hb.1, hb.2, hva⟩
        · cases hva
      rw [inI_iff] at hi1 hi2
      conv => whnf
      refine ⟨m2, rfl, hm3, hby, ?_⟩
      conv => whnf
      refine ⟨m2, rfl, hm3, hpt, ?_⟩
      conv => whnf
      refine ⟨d, (congrArg IntKind.i64.wrap hd.symm).trans (wrapId hi1), ?_⟩
      conv => whnf
      refine ⟨acc + d, wrapId hi2, ?_⟩
      conv => whnf
      refine ⟨_, wrapId ⟨by omega, by omega⟩, ?_⟩
      refine ⟨(m2 + 1, acc + d), ⟨hm3, hva⟩, by show bs.length - (m2 + 1) < bs.length - m2; omega, ?_⟩
      conv => whnf
      refine ⟨rfl, ?_⟩
      conv => whnf
      repeat' (first | exact trivial | exact rfl | refine And.intro ?_ ?_ | ((conv => whnf); first | exact trivial | exact rfl | refine And.intro ?_ ?_ | omega))
    have hme : m2 = bs.length := by have := of_decide_eq_false (show decide ((m2 : Int) < (bs.length : Int)) = false from hc); omega
    have hva : acc = v' := by
      rw [hme, List.drop_of_length_le (by omega)] at hva
      exact Option.some.inj hva
    subst hva
    conv => whnf
    repeat' (first | exact trivial | exact rfl | refine And.intro ?_ ?_ | ((conv => whnf); first | exact trivial | exact rfl | refine And.intro ?_ ?_ | omega))

end Go.Proofs

