/-
  A part of the proof that a law answers true: lemmas of a symbolic walk, plain functions, or contracts of the functions walked (R3). Conditions: none.
-/
import Derived.Test.YtagedjfjcnemoaaGreatPart15
set_option maxRecDepth 100000
set_option linter.unusedVariables false
set_option linter.unusedSimpArgs false
namespace Go.Proofs
open Go.Sx

theorem rdErr_eq (r : Rd) : errF [] (rdErrs r) = if (lookE [] (r.cs.map (chkP r.bs))).1 = 0 then (if (lookE (lookE [] (r.cs.map (chkP r.bs))).2 (r.ns.map (ntcP r.bs))).1 = 0 then
    (lookE (lookE (lookE [] (r.cs.map (chkP r.bs))).2 (r.ns.map (ntcP r.bs))).2 (r.ws.map (wghP r.bs))).1 else (lookE (lookE [] (r.cs.map (chkP r.bs))).2 (r.ns.map (ntcP r.bs))).1) else (lookE [] (r.cs.map (chkP r.bs))).1 := by
  rw [← lookE_err (rdErrs r) [] [] (fun _ => Iff.rfl)]
  unfold rdErrs
  rw [lookE_append]
  by_cases h : (lookE [] (r.cs.map (chkP r.bs))).1 = 0
  · rw [if_pos h, if_pos h, lookE_append]
    split <;> rfl
  · rw [if_neg h, if_neg h]

theorem hasB_take {bs : List Bal} {id : Int} : hasB bs id = (bs.map Bal.id).contains id := by
  unfold hasB findB
  rw [Bool.eq_iff_iff]
  simp only [List.find?_isSome, List.contains_iff_mem, List.mem_map, beq_iff_eq]

theorem check_rd_t (r : Rd) (hb : r.bs.length ≤ 1000000) (hcs : r.cs.length ≤ 1000000) (hns : r.ns.length ≤ 1000000) (hws : r.ws.length ≤ 1000000) :
    Triple Tryz.prog 19 [rdA r] (rdH r) 4 (iv .i64 (checkR r)) [] := by
  have hE := rdErr_eq r
  have hR : checkR r = bif decide (8 < r.bs.length) || decide (100 < r.cs.length + r.ns.length + r.ws.length) then 2
    else bif errF [] (r.bs.map balP) == 0 then errF [] (rdErrs r) else errF [] (r.bs.map balP) := rfl
  generalize checkR r = R at *
  generalize errF [] (rdErrs r) = E at *
  obtain ⟨bs, cs, ns, ws⟩ := r
  dsimp only at *
  generalize hB : errF [] (bs.map balP) = B at *
  refine triple_of tB_ok Tryz.func19 rfl Tryz.call19 rfl ?_
  intro ρ w hH
  conv=>whnf
  refine ⟨fun hc => ?_, fun hc => ?_⟩
  · have h8 : 8 < bs.length := by have := of_decide_eq_true (show decide ((8 : Int) < bs.length) = true from hc); omega
    rw [decide_eq_true h8, Bool.true_or, cond_true] at hR
    subst hR
    conv=>whnf
    repeat' (first | exact trivial | exact rfl | refine And.intro ?_ ?_ | ((conv=>whnf); first | exact trivial | exact rfl | refine And.intro ?_ ?_ | omega))
  have h8 : ¬ 8 < bs.length := by have := of_decide_eq_false (show decide ((8 : Int) < bs.length) = false from hc); omega
  conv=>whnf
  refine ⟨((cs.length + ns.length : Nat) : Int), (show IntKind.i64.wrap ((cs.length : Int) + ns.length) = ((cs.length + ns.length : Nat) : Int) by rw [wrapId ⟨by omega, by omega⟩]; omega), ?_⟩
  conv=>whnf
  refine ⟨((cs.length + ns.length + ws.length : Nat) : Int), (show IntKind.i64.wrap (((cs.length + ns.length : Nat) : Int) + ws.length) = ((cs.length + ns.length + ws.length : Nat) : Int) by rw [wrapId ⟨by omega, by omega⟩]; omega), ?_⟩
  conv=>whnf
  refine ⟨fun hc => ?_, fun hc => ?_⟩
  · have h9 : 100 < cs.length + ns.length + ws.length := by have := of_decide_eq_true (show decide ((100 : Int) < (cs.length + ns.length + ws.length : Nat)) = true from hc); omega
    rw [decide_eq_true h9, Bool.or_true, cond_true] at hR
    subst hR
    conv=>whnf
    repeat' (first | exact trivial | exact rfl | refine And.intro ?_ ?_ | ((conv=>whnf); first | exact trivial | exact rfl | refine And.intro ?_ ?_ | omega))
  have h9 : ¬ 100 < cs.length + ns.length + ws.length := by have := of_decide_eq_false (show decide ((100 : Int) < (cs.length + ns.length + ws.length : Nat)) = false from hc); omega
  rw [decide_eq_false h8, decide_eq_false h9, Bool.or_false, cond_false] at hR
  conv=>whnf
  refine mkmapKV_step false true 1 rfl ?_
  conv=>whnf
  refine loop_step tB_ok (G := Nat) 0 [] (fun i => [(32, iv .i64 i)]) (fun i => [(5, true, kvO false true 1 (knownF (bs.take i)))]) (fun i => i ≤ bs.length ∧ errF ((bs.take i).map Bal.id) ((bs.drop i).map balP) = B) (fun i => bs.length - i) ?_
  conv=>whnf
  refine ⟨⟨0, ⟨Nat.zero_le _, hB⟩, ?_⟩, ?_⟩
  · conv=>whnf
    repeat' (first | exact trivial | exact rfl | refine And.intro ?_ ?_ | ((conv=>whnf); first | exact trivial | exact rfl | refine And.intro ?_ ?_ | omega))
  rintro i ⟨hi, hT⟩ ρ1 t1 hρ1
  dsimp only
  conv=>whnf
  refine ⟨fun hc => ?_, fun hc => ?_⟩
  · have hlt : i < bs.length := by simpa using hc
    rw [List.drop_eq_getElem_cons hlt, List.map_cons] at hT
    unfold errF balP at hT
    dsimp only at hT
    conv=>whnf
    refine ⟨i, rfl, hlt, hlt, ?_⟩
    conv=>whnf
    refine call_step (valid_t bs[i]) rfl rfl ?_
    conv=>whnf
    refine ⟨?_, ?_, ?_⟩
    iterate 2 · repeat' (first | exact trivial | exact rfl | refine And.intro ?_ ?_ | ((conv=>whnf); first | exact trivial | exact rfl | refine And.intro ?_ ?_ | omega))
    conv=>whnf
    refine ⟨fun hc => ?_, fun hc => ?_⟩
    · have hv : validF bs[i] = false := by simpa using (show (!validF bs[i]) = true from hc)
      rw [hv, Bool.not_false, cond_true] at hT
      subst hT
      have hR : R = 1 := hR
      subst hR
      conv=>whnf
      repeat' (first | exact trivial | exact rfl | refine And.intro ?_ ?_ | ((conv=>whnf); first | exact trivial | exact rfl | refine And.intro ?_ ?_ | omega))
    have hv : validF bs[i] = true := by simpa using (show (!validF bs[i]) = false from hc)
    rw [hv, Bool.not_true, cond_false] at hT
    conv=>whnf
    refine lookKV_step tB_ok 3 57 false true 1 (balL zBal) keyInt zeroBal_ok rfl ?_
    conv=>whnf
    refine ⟨_, _, _, rfl, lookKnown (bs.take i) bs[i].id, ?_⟩
    have hh := hasB_take (bs := bs.take i) (id := bs[i].id)
    generalize hasB (bs.take i) bs[i].id = ok at *
    generalize findD (bs.take i) bs[i].id = d at *
    conv=>whnf
    refine ⟨fun hc => ?_, fun hc => ?_⟩
    · subst hc
      rw [← hh, cond_true] at hT
      subst hT
      have hR : R = 6 := hR
      subst hR
      conv=>whnf
      repeat' (first | exact trivial | exact rfl | refine And.intro ?_ ?_ | ((conv=>whnf); first | exact trivial | exact rfl | refine And.intro ?_ ?_ | omega))
    · subst hc
      rw [← hh, cond_false] at hT
      conv=>whnf
      refine mapUpKV_step tB_ok 3 false true 1 keyInt rfl ?_
      conv=>whnf
      refine ⟨knownF (bs.take i), rfl, ?_, ?_⟩
      · intro hm
        have : (List.map Bal.id (bs.take i)).contains bs[i].id = true := by
          simp only [knownF, List.map_map, List.mem_map, Function.comp] at hm
          obtain ⟨b, hb1, hb2⟩ := hm
          simp only [List.cons.injEq, and_true] at hb2
          simp only [List.contains_iff_mem, List.mem_map]
          exact ⟨b, hb1, hb2⟩
        rw [this] at hh; cases hh
      have en : knownF (bs.take i) ++ [([bs[i].id], balL bs[i])] = knownF (bs.take (i + 1)) := by
        unfold knownF; rw [take_snoc hlt, List.map_append]; rfl
      conv=>whnf
      refine ⟨_, wrapId ⟨by omega, by omega⟩, ?_⟩
      refine ⟨i + 1, ⟨hlt, ?_⟩, by show bs.length - (i + 1) < bs.length - i; omega, ?_⟩
      · rw [take_snoc hlt, List.map_append]; exact hT
      conv=>whnf
      refine ⟨rfl, ?_⟩
      conv=>whnf
      repeat' (first | exact trivial | exact rfl | refine And.intro ?_ ?_ | ((conv=>whnf); first | exact trivial | exact rfl | refine And.intro ?_ ?_ | omega))
      all_goals exact congrArg (KVObj false true 1) en
  · have hie : i = bs.length := by simp at hc; omega
    subst hie
    rw [List.drop_length] at hT
    rw [List.take_length]
    have hT : (0 : Int) = B := hT
    subst hT
    have hR : R = E := hR
    subst hR
    conv=>whnf
    refine mkmap_step rfl ?_
    conv=>whnf
    refine call_step (lookedChk_t bs cs [] hcs) rfl rfl ?_
    generalize lookE [] (cs.map (chkP bs)) = a at *
    conv=>whnf
    refine ⟨?_, ?_, ?_⟩
    iterate 2 · repeat' (first | exact trivial | exact rfl | refine And.intro ?_ ?_ | ((conv=>whnf); first | exact trivial | exact rfl | refine And.intro ?_ ?_ | omega))
    conv=>whnf
    refine ⟨fun hc => ?_, fun hc => ?_⟩
    · have ha : a.1 = 0 := by simpa using hc
      rw [if_pos ha] at hE
      conv=>whnf
      refine call_step (lookedNtc_t bs ns a.2 hns) rfl rfl ?_
      generalize lookE a.2 (ns.map (ntcP bs)) = b at *
      conv=>whnf
      refine ⟨?_, ?_, ?_⟩
      iterate 2 · repeat' (first | exact trivial | exact rfl | refine And.intro ?_ ?_ | ((conv=>whnf); first | exact trivial | exact rfl | refine And.intro ?_ ?_ | omega))
      conv=>whnf
      refine ⟨fun hc => ?_, fun hc => ?_⟩
      · have hb : b.1 = 0 := by simpa using hc
        rw [if_pos hb] at hE
        conv=>whnf
        refine call_step (lookedWgh_t bs ws b.2 hws) rfl rfl ?_
        generalize lookE b.2 (ws.map (wghP bs)) = c at *
        subst hE
        conv=>whnf
        refine ⟨?_, ?_, ?_⟩
        iterate 2 · repeat' (first | exact trivial | exact rfl | refine And.intro ?_ ?_ | ((conv=>whnf); first | exact trivial | exact rfl | refine And.intro ?_ ?_ | omega))
        conv=>whnf
        repeat' (first | exact trivial | exact rfl | refine And.intro ?_ ?_ | ((conv=>whnf); first | exact trivial | exact rfl | refine And.intro ?_ ?_ | omega))
      · have hb : ¬ b.1 = 0 := by simpa using hc
        rw [if_neg hb] at hE
        subst hE
        conv=>whnf
        repeat' (first | exact trivial | exact rfl | refine And.intro ?_ ?_ | ((conv=>whnf); first | exact trivial | exact rfl | refine And.intro ?_ ?_ | omega))
    · have ha : ¬ a.1 = 0 := by simpa using hc
      rw [if_neg ha] at hE
      subst hE
      have ha2 : (a.1 == 0) = false := by simpa using ha
      conv=>whnf
      refine ⟨fun hc => absurd (show (a.1 == 0) = true from hc) (by rw [ha2]; simp), fun _ => ?_⟩
      conv=>whnf
      repeat' (first | exact trivial | exact rfl | refine And.intro ?_ ?_ | ((conv=>whnf); first | exact trivial | exact rfl | refine And.intro ?_ ?_ | omega))

theorem valid_cap {b : Bal} (h : validF b = true) : 0 ≤ b.half ∧ b.half ≤ 1000 ∧ 1 ≤ b.cap ∧ b.cap ≤ 10000000 := by
  have := valid_bd h; omega

theorem can_bd {b : Bal} {mass shift : Int} (h : canF b mass shift = true) : (0 ≤ b.half ∧ b.half ≤ 1000) ∧ (0 ≤ mass ∧ mass ≤ 10000000) ∧ (-1000000 ≤ shift ∧ shift ≤ 1000000) := by
  unfold canF at h
  simp only [Bool.and_eq_true] at h
  obtain ⟨h1, h2, h3⟩ := h
  have := valid_cap h1
  simp [withinF] at h2 h3
  omega

theorem showing_t (b : Bal) (mass shift : Int) : Triple Tryz.prog 28 [svBal b, iv .i64 mass, iv .i64 shift] [] 0 (.tup [.inr [.v (.int .i64 (showingF b mass shift).1.1), .v (.int .i64 (showingF b mass shift).1.2)], .inl (.v (.int .i64 (showingF b mass shift).2))]) [] := by
  have e : showingF b mass shift = bif canF b mass shift then (bif decide (min 10000000 (mass - shift + b.half) < max 0 (mass - shift - b.half)) then ((0, 0), 3) else ((max 0 (mass - shift - b.half), min 10000000 (mass - shift + b.half)), 0)) else ((0, 0), 1) := rfl
  generalize showingF b mass shift = R at *
  refine triple_of tB_ok Tryz.func28 rfl Tryz.call28 rfl ?_
  intro ρ w hH
  conv=>whnf
  refine call_step (can_t b mass shift) rfl rfl ?_
  conv=>whnf
  refine ⟨?_, ?_, ?_⟩
  iterate 2 · repeat' (first | exact trivial | exact rfl | refine And.intro ?_ ?_ | ((conv=>whnf); first | exact trivial | exact rfl | refine And.intro ?_ ?_ | omega))
  conv=>whnf
  refine ⟨fun hc => ?_, fun hc => ?_⟩
  · have hcan : canF b mass shift = false := by simpa using (show (!canF b mass shift) = true from hc)
    rw [hcan, cond_false] at e
    subst e
    conv=>whnf
    repeat' (first | exact trivial | exact rfl | refine And.intro ?_ ?_ | ((conv=>whnf); first | exact trivial | exact rfl | refine And.intro ?_ ?_ | omega))
  have hcan : canF b mass shift = true := by simpa using (show (!canF b mass shift) = false from hc)
  rw [hcan, cond_true] at e
  have hbd := can_bd hcan
  conv=>whnf
  refine ⟨mass - shift, wrapId (z := mass - shift) ⟨by omega, by omega⟩, ?_⟩
  conv=>whnf
  refine ⟨mass - shift - b.half, wrapId (z := mass - shift - b.half) ⟨by omega, by omega⟩, ?_⟩
  conv=>whnf
  refine ⟨mass - shift, wrapId (z := mass - shift) ⟨by omega, by omega⟩, ?_⟩
  conv=>whnf
  refine ⟨mass - shift + b.half, wrapId (z := mass - shift + b.half) ⟨by omega, by omega⟩, ?_⟩
  conv=>whnf
  refine ⟨fun hc => ?_, fun hc => ?_⟩
  · rw [(show decide (min 10000000 (mass - shift + b.half) < max 0 (mass - shift - b.half)) = true from hc), cond_true] at e
    subst e
    conv=>whnf
    repeat' (first | exact trivial | exact rfl | refine And.intro ?_ ?_ | ((conv=>whnf); first | exact trivial | exact rfl | refine And.intro ?_ ?_ | omega))
  · rw [(show decide (min 10000000 (mass - shift + b.half) < max 0 (mass - shift - b.half)) = false from hc), cond_false] at e
    subst e
    conv=>whnf
    repeat' (first | exact trivial | exact rfl | refine And.intro ?_ ?_ | ((conv=>whnf); first | exact trivial | exact rfl | refine And.intro ?_ ?_ | omega))

end Go.Proofs

