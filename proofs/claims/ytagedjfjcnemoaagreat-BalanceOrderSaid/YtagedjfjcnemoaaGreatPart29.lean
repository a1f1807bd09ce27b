/-
  A part of the proof that a law answers true: lemmas of a symbolic walk, plain functions, or contracts of the functions walked (RT, RE, Rv, RJ, RU, Sx48, Sx49, Sx50). Conditions: none.
-/
import Derived.Test.YtagedjfjcnemoaaGreatPart28
import Derived.Test.YtagedjfjcnemoaaGreatPart27
set_option maxRecDepth 100000
set_option linter.unusedVariables false
set_option linter.unusedSimpArgs false
namespace Go.Proofs
open Go.Sx

abbrev retRd (k0 k1 k2 k3 : Nat) (x : Rd × Int) : SV := .tup [.inr [.s k0 0 x.1.bs.length 6, .s k2 0 x.1.cs.length 5, .s k3 0 x.1.ns.length 6, .s k1 0 x.1.ws.length 8], .inl (.v (.int .i64 x.2))]
abbrev ownRd (k0 k1 k2 k3 : Nat) (r : Rd) : Heap := [(k0, true, .arr (aBal r.bs)), (k1, true, .arr (aWgh r.ws)), (k2, true, .arr (aChk r.cs)), (k3, true, .arr (aNtc r.ns))]

theorem joinL_snd {α : Type} [DecidableEq α] {key : α → Int} {a b : List α} : (joinL key a b).2 = decide (JoinOK key a b) := by
  unfold joinL; split <;> simp_all

theorem joinL_pos {α : Type} [DecidableEq α] {key : α → Int} {a b : List α} (h : JoinOK key a b) : joinL key a b = (unionK key a b, true) := if_pos h

theorem ids_len_iff {r : Rd} : (idsR r).length = r.cs.length + r.ns.length + r.ws.length ↔ (allIds r).Nodup := by
  have h := distS_len_iff intLt_ok (allIds r).length (allIds r) rfl
  have e : (allIds r).length = r.cs.length + r.ns.length + r.ws.length := by unfold allIds; simp only [List.length_append, List.length_map]; omega
  rw [e] at h
  exact h

abbrev mgA (a b : Rd) : List SV := [rdA a, .agg [.s 4 0 b.bs.length 6, .s 6 0 b.cs.length 5, .s 7 0 b.ns.length 6, .s 5 0 b.ws.length 8]]
abbrev mgH (a b : Rd) : Heap := rdH a ++ [(4, false, .arr (aBal b.bs)), (5, false, .arr (aWgh b.ws)), (6, false, .arr (aChk b.cs)), (7, false, .arr (aNtc b.ns))]

set_option maxHeartbeats 4000000 in
theorem bMerge_t (a b : Rd) (sa : Sml a) (sb : Sml b) : Triple Tryz.prog 58 (mgA a b) (mgH a b) 8 (retRd 8 9 10 11 (mergeR a b)) (ownRd 8 9 10 11 (mergeR a b).1) := by
  classical
  have e : mergeR a b = if checkR a = 0 then (if checkR b = 0 then (if Joins a b then (if checkR (outR a b) = 0 then (outR a b, 0) else (zRd, checkR (outR a b))) else (zRd, 6)) else (zRd, checkR b)) else (zRd, checkR a) := by unfold mergeR; rfl
  have hCa := check_rd_t a (Nat.le_trans sa.bs (by decide)) (Nat.le_trans sa.cs (by decide)) (Nat.le_trans sa.ns (by decide)) (Nat.le_trans sa.ws (by decide))
  have hCb := check_rd_t b (Nat.le_trans sb.bs (by decide)) (Nat.le_trans sb.cs (by decide)) (Nat.le_trans sb.ns (by decide)) (Nat.le_trans sb.ws (by decide))
  by_cases ha0 : checkR a = 0
  rotate_left
  · rw [if_neg ha0] at e
    rw [e]
    generalize checkR a = ca at *
    refine triple_of tB_ok Tryz.func58 rfl Tryz.call58 rfl ?_
    intro ρ w hH
    conv=>whnf
    refine bsN_step tB_ok (aRows 4 [0, 1, 2, 3, 4, 5, 6, 7] [[.s 0 0 a.bs.length 6, .s 2 0 a.cs.length 5, .s 3 0 a.ns.length 6, .s 1 0 a.ws.length 8], [.s 4 0 b.bs.length 6, .s 6 0 b.cs.length 5, .s 7 0 b.ns.length 6, .s 5 0 b.ws.length 8]]) rfl ?_
    conv=>whnf
    refine ⟨(by repeat' (first | exact trivial | exact rfl | refine And.intro ?_ ?_ | ((conv=>whnf); first | exact trivial | exact rfl | refine And.intro ?_ ?_ | omega))), ?_⟩
    conv=>whnf
    refine loop_step tB_ok (G := Nat) 0 [] (fun i => [(16, iv .i64 i)]) (fun _ => []) (fun i => i ≤ 0) (fun i => 2 - i) ?_
    conv=>whnf
    refine ⟨⟨0, by decide, ?_⟩, ?_⟩
    · conv=>whnf
      repeat' (first | exact trivial | exact rfl | refine And.intro ?_ ?_ | ((conv=>whnf); first | exact trivial | exact rfl | refine And.intro ?_ ?_ | omega))
    intro i hi ρ1 t1 hρ1
    obtain rfl : i = 0 := by omega
    conv=>whnf
    refine ⟨fun hc => ?_, fun hc => absurd (show decide (((0 : Nat) : Int) < 2) = false from hc) (by decide)⟩
    conv=>whnf
    refine ⟨0, rfl, by decide, by show 0 < 2; decide, ?_⟩
    conv=>whnf
    refine call_step hCa (by exact rfl) (by exact rfl) ?_
    conv=>whnf
    refine ⟨?_, ?_, ?_⟩
    iterate 2 · repeat' (first | exact trivial | exact rfl | refine And.intro ?_ ?_ | ((conv=>whnf); first | exact trivial | exact rfl | refine And.intro ?_ ?_ | omega))
    conv=>whnf
    refine ⟨fun hcc => ?_, fun hcc => absurd (by simpa using (show (ca != 0) = false from hcc)) ha0⟩
    conv=>whnf
    repeat' (first | exact trivial | exact rfl | refine And.intro ?_ ?_ | ((conv=>whnf); first | exact trivial | exact rfl | refine And.intro ?_ ?_ | omega))
  by_cases hb0 : checkR b = 0
  rotate_left
  · rw [if_pos ha0, if_neg hb0] at e
    rw [e]
    rw [ha0] at hCa
    generalize checkR b = cb at *
    refine triple_of tB_ok Tryz.func58 rfl Tryz.call58 rfl ?_
    intro ρ w hH
    conv=>whnf
    refine bsN_step tB_ok (aRows 4 [0, 1, 2, 3, 4, 5, 6, 7] [[.s 0 0 a.bs.length 6, .s 2 0 a.cs.length 5, .s 3 0 a.ns.length 6, .s 1 0 a.ws.length 8], [.s 4 0 b.bs.length 6, .s 6 0 b.cs.length 5, .s 7 0 b.ns.length 6, .s 5 0 b.ws.length 8]]) rfl ?_
    conv=>whnf
    refine ⟨(by repeat' (first | exact trivial | exact rfl | refine And.intro ?_ ?_ | ((conv=>whnf); first | exact trivial | exact rfl | refine And.intro ?_ ?_ | omega))), ?_⟩
    conv=>whnf
    refine loop_step tB_ok (G := Nat) 0 [] (fun i => [(16, iv .i64 i)]) (fun _ => []) (fun i => i ≤ 1) (fun i => 2 - i) ?_
    conv=>whnf
    refine ⟨⟨0, by decide, ?_⟩, ?_⟩
    · conv=>whnf
      repeat' (first | exact trivial | exact rfl | refine And.intro ?_ ?_ | ((conv=>whnf); first | exact trivial | exact rfl | refine And.intro ?_ ?_ | omega))
    intro i hi ρ1 t1 hρ1
    rcases (by omega : i = 0 ∨ i = 1) with rfl | rfl
    · skip
      conv=>whnf
      refine ⟨fun hc => ?_, fun hc => absurd (show decide (((0 : Nat) : Int) < 2) = false from hc) (by decide)⟩
      conv=>whnf
      refine ⟨0, rfl, by decide, by show 0 < 2; decide, ?_⟩
      conv=>whnf
      refine call_step hCa (by exact rfl) (by exact rfl) ?_
      conv=>whnf
      refine ⟨?_, ?_, ?_⟩
      iterate 2 · repeat' (first | exact trivial | exact rfl | refine And.intro ?_ ?_ | ((conv=>whnf); first | exact trivial | exact rfl | refine And.intro ?_ ?_ | omega))
      conv=>whnf
      refine ⟨fun hc => absurd hc (by simp), fun hc => ?_⟩
      conv=>whnf
      refine ⟨1, rfl, ?_⟩
      refine ⟨1, by decide, by decide, ?_⟩
      conv=>whnf
      refine ⟨rfl, ?_⟩
      conv=>whnf
      repeat' (first | exact trivial | exact rfl | refine And.intro ?_ ?_ | ((conv=>whnf); first | exact trivial | exact rfl | refine And.intro ?_ ?_ | omega))
    · skip
      conv=>whnf
      refine ⟨fun hc => ?_, fun hc => absurd (show decide (((1 : Nat) : Int) < 2) = false from hc) (by decide)⟩
      conv=>whnf
      refine ⟨1, rfl, by decide, by show 1 < 2; decide, ?_⟩
      conv=>whnf
      refine call_step hCb (by exact rfl) (by exact rfl) ?_
      conv=>whnf
      refine ⟨?_, ?_, ?_⟩
      iterate 2 · repeat' (first | exact trivial | exact rfl | refine And.intro ?_ ?_ | ((conv=>whnf); first | exact trivial | exact rfl | refine And.intro ?_ ?_ | omega))
      conv=>whnf
      refine ⟨fun hcc => ?_, fun hcc => absurd (by simpa using (show (cb != 0) = false from hcc)) hb0⟩
      conv=>whnf
      repeat' (first | exact trivial | exact rfl | refine And.intro ?_ ?_ | ((conv=>whnf); first | exact trivial | exact rfl | refine And.intro ?_ ?_ | omega))
  rw [if_pos ha0, if_pos hb0] at e
  have ha := checkR_ok.1 ha0
  have hb := checkR_ok.1 hb0
  rw [ha0] at hCa
  rw [hb0] at hCb
  have hj0 := joinedBal_t a.bs b.bs sa.bs sb.bs ha.balN hb.balN
  have hj1 := joinedChk_t a.cs b.cs sa.cs sb.cs ha.cN hb.cN
  have hj2 := joinedNtc_t a.ns b.ns sa.ns sb.ns ha.nN hb.nN
  have hj3 := joinedWgh_t a.ws b.ws sa.ws sb.ws ha.wN hb.wN
  by_cases hJ : JoinOK Bal.id a.bs b.bs ∧ JoinOK Chk.id a.cs b.cs ∧ JoinOK Ntc.id a.ns b.ns ∧ JoinOK Wgh.id a.ws b.ws
  rotate_left
  · rw [if_neg (fun h : Joins a b => hJ ⟨h.bs, h.cs, h.ns, h.ws⟩)] at e
    rw [e]
    have hne : ((joinL Bal.id a.bs b.bs).2 && ((joinL Chk.id a.cs b.cs).2 && ((joinL Ntc.id a.ns b.ns).2 && (joinL Wgh.id a.ws b.ws).2))) = false := by
      rw [joinL_snd, joinL_snd, joinL_snd, joinL_snd, Bool.eq_false_iff]
      simpa using hJ
    generalize joinL Bal.id a.bs b.bs = J0 at *
    generalize joinL Chk.id a.cs b.cs = J1 at *
    generalize joinL Ntc.id a.ns b.ns = J2 at *
    generalize joinL Wgh.id a.ws b.ws = J3 at *
    refine triple_of tB_ok Tryz.func58 rfl Tryz.call58 rfl ?_
    intro ρ w hH
    conv=>whnf
    refine bsN_step tB_ok (aRows 4 [0, 1, 2, 3, 4, 5, 6, 7] [[.s 0 0 a.bs.length 6, .s 2 0 a.cs.length 5, .s 3 0 a.ns.length 6, .s 1 0 a.ws.length 8], [.s 4 0 b.bs.length 6, .s 6 0 b.cs.length 5, .s 7 0 b.ns.length 6, .s 5 0 b.ws.length 8]]) rfl ?_
    conv=>whnf
    refine ⟨(by repeat' (first | exact trivial | exact rfl | refine And.intro ?_ ?_ | ((conv=>whnf); first | exact trivial | exact rfl | refine And.intro ?_ ?_ | omega))), ?_⟩
    conv=>whnf
    refine loop_step tB_ok (G := Nat) 0 [] (fun i => [(16, iv .i64 i)]) (fun _ => []) (fun i => i ≤ 2) (fun i => 2 - i) ?_
    conv=>whnf
    refine ⟨⟨0, by decide, ?_⟩, ?_⟩
    · conv=>whnf
      repeat' (first | exact trivial | exact rfl | refine And.intro ?_ ?_ | ((conv=>whnf); first | exact trivial | exact rfl | refine And.intro ?_ ?_ | omega))
    intro i hi ρ1 t1 hρ1
    rcases (by omega : i = 0 ∨ i = 1 ∨ i = 2) with rfl | rfl | rfl
    · skip
      conv=>whnf
      refine ⟨fun hc => ?_, fun hc => absurd (show decide (((0 : Nat) : Int) < 2) = false from hc) (by decide)⟩
      conv=>whnf
      refine ⟨0, rfl, by decide, by show 0 < 2; decide, ?_⟩
      conv=>whnf
      refine call_step hCa (by exact rfl) (by exact rfl) ?_
      conv=>whnf
      refine ⟨?_, ?_, ?_⟩
      iterate 2 · repeat' (first | exact trivial | exact rfl | refine And.intro ?_ ?_ | ((conv=>whnf); first | exact trivial | exact rfl | refine And.intro ?_ ?_ | omega))
      conv=>whnf
      refine ⟨fun hc => absurd hc (by simp), fun hc => ?_⟩
      conv=>whnf
      refine ⟨1, rfl, ?_⟩
      refine ⟨1, by decide, by decide, ?_⟩
      conv=>whnf
      refine ⟨rfl, ?_⟩
      conv=>whnf
      repeat' (first | exact trivial | exact rfl | refine And.intro ?_ ?_ | ((conv=>whnf); first | exact trivial | exact rfl | refine And.intro ?_ ?_ | omega))
    · skip
      conv=>whnf
      refine ⟨fun hc => ?_, fun hc => absurd (show decide (((1 : Nat) : Int) < 2) = false from hc) (by decide)⟩
      conv=>whnf
      refine ⟨1, rfl, by decide, by show 1 < 2; decide, ?_⟩
      conv=>whnf
      refine call_step hCb (by exact rfl) (by exact rfl) ?_
      conv=>whnf
      refine ⟨?_, ?_, ?_⟩
      iterate 2 · repeat' (first | exact trivial | exact rfl | refine And.intro ?_ ?_ | ((conv=>whnf); first | exact trivial | exact rfl | refine And.intro ?_ ?_ | omega))
      conv=>whnf
      refine ⟨fun hc => absurd hc (by simp), fun hc => ?_⟩
      conv=>whnf
      refine ⟨2, rfl, ?_⟩
      refine ⟨2, by decide, by decide, ?_⟩
      conv=>whnf
      refine ⟨rfl, ?_⟩
      conv=>whnf
      repeat' (first | exact trivial | exact rfl | refine And.intro ?_ ?_ | ((conv=>whnf); first | exact trivial | exact rfl | refine And.intro ?_ ?_ | omega))
    conv=>whnf
    refine ⟨fun hc => absurd (show decide (((2 : Nat) : Int) < 2) = true from hc) (by decide), fun hc => ?_⟩
    conv=>whnf
    refine call_step hj0 (by exact rfl) (by exact rfl) ?_
    conv=>whnf
    refine ⟨?_, ?_, ?_⟩
    iterate 2 · repeat' (first | exact trivial | exact rfl | refine And.intro ?_ ?_ | ((conv=>whnf); first | exact trivial | exact rfl | refine And.intro ?_ ?_ | omega))
    conv=>whnf
    refine ⟨0, rfl, by decide, ?_⟩
    conv=>whnf
    refine call_step hj1 (by exact rfl) (by exact rfl) ?_
    conv=>whnf
    refine ⟨?_, ?_, ?_⟩
    iterate 2 · repeat' (first | exact trivial | exact rfl | refine And.intro ?_ ?_ | ((conv=>whnf); first | exact trivial | exact rfl | refine And.intro ?_ ?_ | omega))
    conv=>whnf
    refine ⟨1, rfl, by decide, ?_⟩
    conv=>whnf
    refine call_step hj2 (by exact rfl) (by exact rfl) ?_
    conv=>whnf
    refine ⟨?_, ?_, ?_⟩
    iterate 2 · repeat' (first | exact trivial | exact rfl | refine And.intro ?_ ?_ | ((conv=>whnf); first | exact trivial | exact rfl | refine And.intro ?_ ?_ | omega))
    conv=>whnf
    refine ⟨2, rfl, by decide, ?_⟩
    conv=>whnf
    refine call_step hj3 (by exact rfl) (by exact rfl) ?_
    conv=>whnf
    refine ⟨?_, ?_, ?_⟩
    iterate 2 · repeat' (first | exact trivial | exact rfl | refine And.intro ?_ ?_ | ((conv=>whnf); first | exact trivial | exact rfl | refine And.intro ?_ ?_ | omega))
    conv=>whnf
    refine ⟨3, rfl, by decide, ?_⟩
    conv=>whnf
    refine ⟨fun hg => ?_, fun hg => absurd (show (!((J0.2 == true) && ((J1.2 == true) && ((J2.2 == true) && ((J3.2 == true) && true))))) = false from hg) (by simpa using hne)⟩
    conv=>whnf
    repeat' (first | exact trivial | exact rfl | refine And.intro ?_ ?_ | ((conv=>whnf); first | exact trivial | exact rfl | refine And.intro ?_ ?_ | omega))
  obtain ⟨k0, k1, k2, k3⟩ := hJ
  rw [joinL_pos k0] at hj0
  rw [joinL_pos k1] at hj1
  rw [joinL_pos k2] at hj2
  rw [joinL_pos k3] at hj3
  have hU : outR a b = ⟨unionK Bal.id a.bs b.bs, unionK Chk.id a.cs b.cs, unionK Ntc.id a.ns b.ns, unionK Wgh.id a.ws b.ws⟩ := rfl
  have q1 := ha.nb
  have q2 := hb.nb
  have q3 := ha.nr
  have q4 := hb.nr
  have l0 : (unionK Bal.id a.bs b.bs).length ≤ 16 := by have := unionK_len (key := Bal.id) (a := a.bs) (b := b.bs); omega
  have l1 : (unionK Chk.id a.cs b.cs).length ≤ 200 := by have := unionK_len (key := Chk.id) (a := a.cs) (b := b.cs); omega
  have l2 : (unionK Ntc.id a.ns b.ns).length ≤ 200 := by have := unionK_len (key := Ntc.id) (a := a.ns) (b := b.ns); omega
  have l3 : (unionK Wgh.id a.ws b.ws).length ≤ 200 := by have := unionK_len (key := Wgh.id) (a := a.ws) (b := b.ws); omega
  have hIff := ids_len_iff (r := outR a b)
  have hJI : Joins a b ↔ (allIds (outR a b)).Nodup := ⟨fun h => h.ids, fun h => ⟨k0, k1, k2, k3, h⟩⟩
  rw [← hJI] at hIff
  rw [hU] at e hIff
  generalize unionK Bal.id a.bs b.bs = u0 at *
  generalize unionK Chk.id a.cs b.cs = u1 at *
  generalize unionK Ntc.id a.ns b.ns = u2 at *
  generalize unionK Wgh.id a.ws b.ws = u3 at *
  clear hU hJI q1 q2 q3 q4
  have hCo := check_rd_t ⟨u0, u1, u2, u3⟩ (by show u0.length ≤ _; omega) (by show u1.length ≤ _; omega) (by show u2.length ≤ _; omega) (by show u3.length ≤ _; omega)
  have hI := bIds_t ⟨u0, u1, u2, u3⟩ ⟨by show u0.length ≤ _; omega, by show u1.length ≤ _; omega, by show u2.length ≤ _; omega, by show u3.length ≤ _; omega⟩
  have hIff : (idsR ⟨u0, u1, u2, u3⟩).length = u1.length + u2.length + u3.length ↔ Joins a b := hIff
  generalize idsR ⟨u0, u1, u2, u3⟩ = I at *
  generalize checkR ⟨u0, u1, u2, u3⟩ = co at *
  by_cases hjj : Joins a b
  rotate_left
  · rw [if_neg hjj] at e
    rw [e]
    refine triple_of tB_ok Tryz.func58 rfl Tryz.call58 rfl ?_
    intro ρ w hH
    conv=>whnf
    refine bsN_step tB_ok (aRows 4 [0, 1, 2, 3, 4, 5, 6, 7] [[.s 0 0 a.bs.length 6, .s 2 0 a.cs.length 5, .s 3 0 a.ns.length 6, .s 1 0 a.ws.length 8], [.s 4 0 b.bs.length 6, .s 6 0 b.cs.length 5, .s 7 0 b.ns.length 6, .s 5 0 b.ws.length 8]]) rfl ?_
    conv=>whnf
    refine ⟨(by repeat' (first | exact trivial | exact rfl | refine And.intro ?_ ?_ | ((conv=>whnf); first | exact trivial | exact rfl | refine And.intro ?_ ?_ | omega))), ?_⟩
    conv=>whnf
    refine loop_step tB_ok (G := Nat) 0 [] (fun i => [(16, iv .i64 i)]) (fun _ => []) (fun i => i ≤ 2) (fun i => 2 - i) ?_
    conv=>whnf
    refine ⟨⟨0, by decide, ?_⟩, ?_⟩
    · conv=>whnf
      repeat' (first | exact trivial | exact rfl | refine And.intro ?_ ?_ | ((conv=>whnf); first | exact trivial | exact rfl | refine And.intro ?_ ?_ | omega))
    intro i hi ρ1 t1 hρ1
    rcases (by omega : i = 0 ∨ i = 1 ∨ i = 2) with rfl | rfl | rfl
    · skip
      conv=>whnf
      refine ⟨fun hc => ?_, fun hc => absurd (show decide (((0 : Nat) : Int) < 2) = false from hc) (by decide)⟩
      conv=>whnf
      refine ⟨0, rfl, by decide, by show 0 < 2; decide, ?_⟩
      conv=>whnf
      refine call_step hCa (by exact rfl) (by exact rfl) ?_
      conv=>whnf
      refine ⟨?_, ?_, ?_⟩
      iterate 2 · repeat' (first | exact trivial | exact rfl | refine And.intro ?_ ?_ | ((conv=>whnf); first | exact trivial | exact rfl | refine And.intro ?_ ?_ | omega))
      conv=>whnf
      refine ⟨fun hc => absurd hc (by simp), fun hc => ?_⟩
      conv=>whnf
      refine ⟨1, rfl, ?_⟩
      refine ⟨1, by decide, by decide, ?_⟩
      conv=>whnf
      refine ⟨rfl, ?_⟩
      conv=>whnf
      repeat' (first | exact trivial | exact rfl | refine And.intro ?_ ?_ | ((conv=>whnf); first | exact trivial | exact rfl | refine And.intro ?_ ?_ | omega))
    · skip
      conv=>whnf
      refine ⟨fun hc => ?_, fun hc => absurd (show decide (((1 : Nat) : Int) < 2) = false from hc) (by decide)⟩
      conv=>whnf
      refine ⟨1, rfl, by decide, by show 1 < 2; decide, ?_⟩
      conv=>whnf
      refine call_step hCb (by exact rfl) (by exact rfl) ?_
      conv=>whnf
      refine ⟨?_, ?_, ?_⟩
      iterate 2 · repeat' (first | exact trivial | exact rfl | refine And.intro ?_ ?_ | ((conv=>whnf); first | exact trivial | exact rfl | refine And.intro ?_ ?_ | omega))
      conv=>whnf
      refine ⟨fun hc => absurd hc (by simp), fun hc => ?_⟩
      conv=>whnf
      refine ⟨2, rfl, ?_⟩
      refine ⟨2, by decide, by decide, ?_⟩
      conv=>whnf
      refine ⟨rfl, ?_⟩
      conv=>whnf
      repeat' (first | exact trivial | exact rfl | refine And.intro ?_ ?_ | ((conv=>whnf); first | exact trivial | exact rfl | refine And.intro ?_ ?_ | omega))
    conv=>whnf
    refine ⟨fun hc => absurd (show decide (((2 : Nat) : Int) < 2) = true from hc) (by decide), fun hc => ?_⟩
    conv=>whnf
    refine call_step hj0 (by exact rfl) (by exact rfl) ?_
    conv=>whnf
    refine ⟨?_, ?_, ?_⟩
    iterate 2 · repeat' (first | exact trivial | exact rfl | refine And.intro ?_ ?_ | ((conv=>whnf); first | exact trivial | exact rfl | refine And.intro ?_ ?_ | omega))
    conv=>whnf
    refine ⟨0, rfl, by decide, ?_⟩
    conv=>whnf
    refine call_step hj1 (by exact rfl) (by exact rfl) ?_
    conv=>whnf
    refine ⟨?_, ?_, ?_⟩
    iterate 2 · repeat' (first | exact trivial | exact rfl | refine And.intro ?_ ?_ | ((conv=>whnf); first | exact trivial | exact rfl | refine And.intro ?_ ?_ | omega))
    conv=>whnf
    refine ⟨1, rfl, by decide, ?_⟩
    conv=>whnf
    refine call_step hj2 (by exact rfl) (by exact rfl) ?_
    conv=>whnf
    refine ⟨?_, ?_, ?_⟩
    iterate 2 · repeat' (first | exact trivial | exact rfl | refine And.intro ?_ ?_ | ((conv=>whnf); first | exact trivial | exact rfl | refine And.intro ?_ ?_ | omega))
    conv=>whnf
    refine ⟨2, rfl, by decide, ?_⟩
    conv=>whnf
    refine call_step hj3 (by exact rfl) (by exact rfl) ?_
    conv=>whnf
    refine ⟨?_, ?_, ?_⟩
    iterate 2 · repeat' (first | exact trivial | exact rfl | refine And.intro ?_ ?_ | ((conv=>whnf); first | exact trivial | exact rfl | refine And.intro ?_ ?_ | omega))
    conv=>whnf
    refine ⟨3, rfl, by decide, ?_⟩
    conv=>whnf
    refine ⟨fun hg => absurd (show (false : Bool) = true from hg) (by decide), fun hg => ?_⟩
    conv=>whnf
    refine call_step hI (by exact rfl) (by exact rfl) ?_
    conv=>whnf
    refine ⟨?_, ?_, ?_⟩
    iterate 2 · repeat' (first | exact trivial | exact rfl | refine And.intro ?_ ?_ | ((conv=>whnf); first | exact trivial | exact rfl | refine And.intro ?_ ?_ | omega))
    conv=>whnf
    refine ⟨((u1.length + u2.length : Nat) : Int), (congrArg IntKind.i64.wrap (show (u1.length : Int) + u2.length = ((u1.length + u2.length : Nat) : Int) by omega)).trans (wrapId ⟨by omega, by omega⟩), ?_⟩
    conv=>whnf
    refine ⟨((u1.length + u2.length + u3.length : Nat) : Int), (congrArg IntKind.i64.wrap (show ((u1.length + u2.length : Nat) : Int) + u3.length = ((u1.length + u2.length + u3.length : Nat) : Int) by omega)).trans (wrapId ⟨by omega, by omega⟩), ?_⟩
    conv=>whnf
    refine ⟨fun hcc => ?_, fun hcc => absurd (hIff.1 (by have : ((I.length : Int) != (u1.length + u2.length + u3.length : Nat)) = false := hcc; simp at this; omega)) hjj⟩
    conv=>whnf
    repeat' (first | exact trivial | exact rfl | refine And.intro ?_ ?_ | ((conv=>whnf); first | exact trivial | exact rfl | refine And.intro ?_ ?_ | omega))
  rw [if_pos hjj] at e
  have hIl := hIff.2 hjj
  by_cases hc0 : co = 0
  rotate_left
  · rw [if_neg hc0] at e
    rw [e]
    refine triple_of tB_ok Tryz.func58 rfl Tryz.call58 rfl ?_
    intro ρ w hH
    conv=>whnf
    refine bsN_step tB_ok (aRows 4 [0, 1, 2, 3, 4, 5, 6, 7] [[.s 0 0 a.bs.length 6, .s 2 0 a.cs.length 5, .s 3 0 a.ns.length 6, .s 1 0 a.ws.length 8], [.s 4 0 b.bs.length 6, .s 6 0 b.cs.length 5, .s 7 0 b.ns.length 6, .s 5 0 b.ws.length 8]]) rfl ?_
    conv=>whnf
    refine ⟨(by repeat' (first | exact trivial | exact rfl | refine And.intro ?_ ?_ | ((conv=>whnf); first | exact trivial | exact rfl | refine And.intro ?_ ?_ | omega))), ?_⟩
    conv=>whnf
    refine loop_step tB_ok (G := Nat) 0 [] (fun i => [(16, iv .i64 i)]) (fun _ => []) (fun i => i ≤ 2) (fun i => 2 - i) ?_
    conv=>whnf
    refine ⟨⟨0, by decide, ?_⟩, ?_⟩
    · conv=>whnf
      repeat' (first | exact trivial | exact rfl | refine And.intro ?_ ?_ | ((conv=>whnf); first | exact trivial | exact rfl | refine And.intro ?_ ?_ | omega))
    intro i hi ρ1 t1 hρ1
    rcases (by omega : i = 0 ∨ i = 1 ∨ i = 2) with rfl | rfl | rfl
    · skip
      conv=>whnf
      refine ⟨fun hc => ?_, fun hc => absurd (show decide (((0 : Nat) : Int) < 2) = false from hc) (by decide)⟩
      conv=>whnf
      refine ⟨0, rfl, by decide, by show 0 < 2; decide, ?_⟩
      conv=>whnf
      refine call_step hCa (by exact rfl) (by exact rfl) ?_
      conv=>whnf
      refine ⟨?_, ?_, ?_⟩
      iterate 2 · repeat' (first | exact trivial | exact rfl | refine And.intro ?_ ?_ | ((conv=>whnf); first | exact trivial | exact rfl | refine And.intro ?_ ?_ | omega))
      conv=>whnf
      refine ⟨fun hc => absurd hc (by simp), fun hc => ?_⟩
      conv=>whnf
      refine ⟨1, rfl, ?_⟩
      refine ⟨1, by decide, by decide, ?_⟩
      conv=>whnf
      refine ⟨rfl, ?_⟩
      conv=>whnf
      repeat' (first | exact trivial | exact rfl | refine And.intro ?_ ?_ | ((conv=>whnf); first | exact trivial | exact rfl | refine And.intro ?_ ?_ | omega))
    · skip
      conv=>whnf
      refine ⟨fun hc => ?_, fun hc => absurd (show decide (((1 : Nat) : Int) < 2) = false from hc) (by decide)⟩
      conv=>whnf
      refine ⟨1, rfl, by decide, by show 1 < 2; decide, ?_⟩
      conv=>whnf
      refine call_step hCb (by exact rfl) (by exact rfl) ?_
      conv=>whnf
      refine ⟨?_, ?_, ?_⟩
      iterate 2 · repeat' (first | exact trivial | exact rfl | refine And.intro ?_ ?_ | ((conv=>whnf); first | exact trivial | exact rfl | refine And.intro ?_ ?_ | omega))
      conv=>whnf
      refine ⟨fun hc => absurd hc (by simp), fun hc => ?_⟩
      conv=>whnf
      refine ⟨2, rfl, ?_⟩
      refine ⟨2, by decide, by decide, ?_⟩
      conv=>whnf
      refine ⟨rfl, ?_⟩
      conv=>whnf
      repeat' (first | exact trivial | exact rfl | refine And.intro ?_ ?_ | ((conv=>whnf); first | exact trivial | exact rfl | refine And.intro ?_ ?_ | omega))
    conv=>whnf
    refine ⟨fun hc => absurd (show decide (((2 : Nat) : Int) < 2) = true from hc) (by decide), fun hc => ?_⟩
    conv=>whnf
    refine call_step hj0 (by exact rfl) (by exact rfl) ?_
    conv=>whnf
    refine ⟨?_, ?_, ?_⟩
    iterate 2 · repeat' (first | exact trivial | exact rfl | refine And.intro ?_ ?_ | ((conv=>whnf); first | exact trivial | exact rfl | refine And.intro ?_ ?_ | omega))
    conv=>whnf
    refine ⟨0, rfl, by decide, ?_⟩
    conv=>whnf
    refine call_step hj1 (by exact rfl) (by exact rfl) ?_
    conv=>whnf
    refine ⟨?_, ?_, ?_⟩
    iterate 2 · repeat' (first | exact trivial | exact rfl | refine And.intro ?_ ?_ | ((conv=>whnf); first | exact trivial | exact rfl | refine And.intro ?_ ?_ | omega))
    conv=>whnf
    refine ⟨1, rfl, by decide, ?_⟩
    conv=>whnf
    refine call_step hj2 (by exact rfl) (by exact rfl) ?_
    conv=>whnf
    refine ⟨?_, ?_, ?_⟩
    iterate 2 · repeat' (first | exact trivial | exact rfl | refine And.intro ?_ ?_ | ((conv=>whnf); first | exact trivial | exact rfl | refine And.intro ?_ ?_ | omega))
    conv=>whnf
    refine ⟨2, rfl, by decide, ?_⟩
    conv=>whnf
    refine call_step hj3 (by exact rfl) (by exact rfl) ?_
    conv=>whnf
    refine ⟨?_, ?_, ?_⟩
    iterate 2 · repeat' (first | exact trivial | exact rfl | refine And.intro ?_ ?_ | ((conv=>whnf); first | exact trivial | exact rfl | refine And.intro ?_ ?_ | omega))
    conv=>whnf
    refine ⟨3, rfl, by decide, ?_⟩
    conv=>whnf
    refine ⟨fun hg => absurd (show (false : Bool) = true from hg) (by decide), fun hg => ?_⟩
    conv=>whnf
    refine call_step hI (by exact rfl) (by exact rfl) ?_
    conv=>whnf
    refine ⟨?_, ?_, ?_⟩
    iterate 2 · repeat' (first | exact trivial | exact rfl | refine And.intro ?_ ?_ | ((conv=>whnf); first | exact trivial | exact rfl | refine And.intro ?_ ?_ | omega))
    conv=>whnf
    refine ⟨((u1.length + u2.length : Nat) : Int), (congrArg IntKind.i64.wrap (show (u1.length : Int) + u2.length = ((u1.length + u2.length : Nat) : Int) by omega)).trans (wrapId ⟨by omega, by omega⟩), ?_⟩
    conv=>whnf
    refine ⟨((u1.length + u2.length + u3.length : Nat) : Int), (congrArg IntKind.i64.wrap (show ((u1.length + u2.length : Nat) : Int) + u3.length = ((u1.length + u2.length + u3.length : Nat) : Int) by omega)).trans (wrapId ⟨by omega, by omega⟩), ?_⟩
    conv=>whnf
    refine ⟨fun hcc => absurd (show ((I.length : Int) != (u1.length + u2.length + u3.length : Nat)) = true from hcc) (by rw [hIl]; simp), fun hcc => ?_⟩
    conv=>whnf
    refine call_step hCo (by exact rfl) (by exact rfl) ?_
    conv=>whnf
    refine ⟨?_, ?_, ?_⟩
    iterate 2 · repeat' (first | exact trivial | exact rfl | refine And.intro ?_ ?_ | ((conv=>whnf); first | exact trivial | exact rfl | refine And.intro ?_ ?_ | omega))
    conv=>whnf
    refine ⟨fun hcc => ?_, fun hcc => absurd (by simpa using (show (co != 0) = false from hcc)) hc0⟩
    conv=>whnf
    repeat' (first | exact trivial | exact rfl | refine And.intro ?_ ?_ | ((conv=>whnf); first | exact trivial | exact rfl | refine And.intro ?_ ?_ | omega))
  rw [if_pos hc0] at e
  rw [hc0] at hCo
  rw [e]
  dsimp only
  refine triple_of tB_ok Tryz.func58 rfl Tryz.call58 rfl ?_
  intro ρ w hH
  conv=>whnf
  refine bsN_step tB_ok (aRows 4 [0, 1, 2, 3, 4, 5, 6, 7] [[.s 0 0 a.bs.length 6, .s 2 0 a.cs.length 5, .s 3 0 a.ns.length 6, .s 1 0 a.ws.length 8], [.s 4 0 b.bs.length 6, .s 6 0 b.cs.length 5, .s 7 0 b.ns.length 6, .s 5 0 b.ws.length 8]]) rfl ?_
  conv=>whnf
  refine ⟨(by repeat' (first | exact trivial | exact rfl | refine And.intro ?_ ?_ | ((conv=>whnf); first | exact trivial | exact rfl | refine And.intro ?_ ?_ | omega))), ?_⟩
  conv=>whnf
  refine loop_step tB_ok (G := Nat) 0 [] (fun i => [(16, iv .i64 i)]) (fun _ => []) (fun i => i ≤ 2) (fun i => 2 - i) ?_
  conv=>whnf
  refine ⟨⟨0, by decide, ?_⟩, ?_⟩
  · conv=>whnf
    repeat' (first | exact trivial | exact rfl | refine And.intro ?_ ?_ | ((conv=>whnf); first | exact trivial | exact rfl | refine And.intro ?_ ?_ | omega))
  intro i hi ρ1 t1 hρ1
  rcases (by omega : i = 0 ∨ i = 1 ∨ i = 2) with rfl | rfl | rfl
  · skip
    conv=>whnf
    refine ⟨fun hc => ?_, fun hc => absurd (show decide (((0 : Nat) : Int) < 2) = false from hc) (by decide)⟩
    conv=>whnf
    refine ⟨0, rfl, by decide, by show 0 < 2; decide, ?_⟩
    conv=>whnf
    refine call_step hCa (by exact rfl) (by exact rfl) ?_
    conv=>whnf
    refine ⟨?_, ?_, ?_⟩
    iterate 2 · repeat' (first | exact trivial | exact rfl | refine And.intro ?_ ?_ | ((conv=>whnf); first | exact trivial | exact rfl | refine And.intro ?_ ?_ | omega))
    conv=>whnf
    refine ⟨fun hc => absurd hc (by simp), fun hc => ?_⟩
    conv=>whnf
    refine ⟨1, rfl, ?_⟩
    refine ⟨1, by decide, by decide, ?_⟩
    conv=>whnf
    refine ⟨rfl, ?_⟩
    conv=>whnf
    repeat' (first | exact trivial | exact rfl | refine And.intro ?_ ?_ | ((conv=>whnf); first | exact trivial | exact rfl | refine And.intro ?_ ?_ | omega))
  · skip
    conv=>whnf
    refine ⟨fun hc => ?_, fun hc => absurd (show decide (((1 : Nat) : Int) < 2) = false from hc) (by decide)⟩
    conv=>whnf
    refine ⟨1, rfl, by decide, by show 1 < 2; decide, ?_⟩
    conv=>whnf
    refine call_step hCb (by exact rfl) (by exact rfl) ?_
    conv=>whnf
    refine ⟨?_, ?_, ?_⟩
    iterate 2 · repeat' (first | exact trivial | exact rfl | refine And.intro ?_ ?_ | ((conv=>whnf); first | exact trivial | exact rfl | refine And.intro ?_ ?_ | omega))
    conv=>whnf
    refine ⟨fun hc => absurd hc (by simp), fun hc => ?_⟩
    conv=>whnf
    refine ⟨2, rfl, ?_⟩
    refine ⟨2, by decide, by decide, ?_⟩
    conv=>whnf
    refine ⟨rfl, ?_⟩
    conv=>whnf
    repeat' (first | exact trivial | exact rfl | refine And.intro ?_ ?_ | ((conv=>whnf); first | exact trivial | exact rfl | refine And.intro ?_ ?_ | omega))
  conv=>whnf
  refine ⟨fun hc => absurd (show decide (((2 : Nat) : Int) < 2) = true from hc) (by decide), fun hc => ?_⟩
  conv=>whnf
  refine call_step hj0 (by exact rfl) (by exact rfl) ?_
  conv=>whnf
  refine ⟨?_, ?_, ?_⟩
  iterate 2 · repeat' (first | exact trivial | exact rfl | refine And.intro ?_ ?_ | ((conv=>whnf); first | exact trivial | exact rfl | refine And.intro ?_ ?_ | omega))
  conv=>whnf
  refine ⟨0, rfl, by decide, ?_⟩
  conv=>whnf
  refine call_step hj1 (by exact rfl) (by exact rfl) ?_
  conv=>whnf
  refine ⟨?_, ?_, ?_⟩
  iterate 2 · repeat' (first | exact trivial | exact rfl | refine And.intro ?_ ?_ | ((conv=>whnf); first | exact trivial | exact rfl | refine And.intro ?_ ?_ | omega))
  conv=>whnf
  refine ⟨1, rfl, by decide, ?_⟩
  conv=>whnf
  refine call_step hj2 (by exact rfl) (by exact rfl) ?_
  conv=>whnf
  refine ⟨?_, ?_, ?_⟩
  iterate 2 · repeat' (first | exact trivial | exact rfl | refine And.intro ?_ ?_ | ((conv=>whnf); first | exact trivial | exact rfl | refine And.intro ?_ ?_ | omega))
  conv=>whnf
  refine ⟨2, rfl, by decide, ?_⟩
  conv=>whnf
  refine call_step hj3 (by exact rfl) (by exact rfl) ?_
  conv=>whnf
  refine ⟨?_, ?_, ?_⟩
  iterate 2 · repeat' (first | exact trivial | exact rfl | refine And.intro ?_ ?_ | ((conv=>whnf); first | exact trivial | exact rfl | refine And.intro ?_ ?_ | omega))
  conv=>whnf
  refine ⟨3, rfl, by decide, ?_⟩
  conv=>whnf
  refine ⟨fun hg => absurd (show (false : Bool) = true from hg) (by decide), fun hg => ?_⟩
  conv=>whnf
  refine call_step hI (by exact rfl) (by exact rfl) ?_
  conv=>whnf
  refine ⟨?_, ?_, ?_⟩
  iterate 2 · repeat' (first | exact trivial | exact rfl | refine And.intro ?_ ?_ | ((conv=>whnf); first | exact trivial | exact rfl | refine And.intro ?_ ?_ | omega))
  conv=>whnf
  refine ⟨((u1.length + u2.length : Nat) : Int), (congrArg IntKind.i64.wrap (show (u1.length : Int) + u2.length = ((u1.length + u2.length : Nat) : Int) by omega)).trans (wrapId ⟨by omega, by omega⟩), ?_⟩
  conv=>whnf
  refine ⟨((u1.length + u2.length + u3.length : Nat) : Int), (congrArg IntKind.i64.wrap (show ((u1.length + u2.length : Nat) : Int) + u3.length = ((u1.length + u2.length + u3.length : Nat) : Int) by omega)).trans (wrapId ⟨by omega, by omega⟩), ?_⟩
  conv=>whnf
  refine ⟨fun hcc => absurd (show ((I.length : Int) != (u1.length + u2.length + u3.length : Nat)) = true from hcc) (by rw [hIl]; simp), fun hcc => ?_⟩
  conv=>whnf
  refine call_step hCo (by exact rfl) (by exact rfl) ?_
  conv=>whnf
  refine ⟨?_, ?_, ?_⟩
  iterate 2 · repeat' (first | exact trivial | exact rfl | refine And.intro ?_ ?_ | ((conv=>whnf); first | exact trivial | exact rfl | refine And.intro ?_ ?_ | omega))
  conv=>whnf
  refine ⟨fun hc => absurd hc (by simp), fun hc => ?_⟩
  conv=>whnf
  repeat' (first | exact trivial | exact rfl | refine And.intro ?_ ?_ | ((conv=>whnf); first | exact trivial | exact rfl | refine And.intro ?_ ?_ | omega))

end Go.Proofs

namespace Go.Proofs
open Go.Sx

end Go.Proofs

namespace Go.Proofs
open Go.Sx

end Go.Proofs

namespace Go.Proofs
open Go.Sx

end Go.Proofs

namespace Go.Proofs
open Go.Sx

theorem rSame_t (r : Rd) (hs : Sml r) : Triple Tryz.prog 59 (mgA r r) (mgH r r) 8 (bv true) [] := by
  obtain ⟨h1, h2, h3, h4⟩ := hs
  obtain ⟨bs, cs, ns, ws⟩ := r
  dsimp only at *
  refine triple_of tB_ok Tryz.func59 rfl Tryz.call59 rfl ?_
  intro ρ w hH
  conv=>whnf
  refine ⟨fun hc => absurd (show ((bs.length : Int) != bs.length) = true from hc) (by simp), fun hc => ?_⟩
  conv=>whnf
  refine ⟨fun hc => absurd (show ((cs.length : Int) != cs.length) = true from hc) (by simp), fun hc => ?_⟩
  conv=>whnf
  refine ⟨fun hc => absurd (show ((ns.length : Int) != ns.length) = true from hc) (by simp), fun hc => ?_⟩
  conv=>whnf
  refine ⟨fun hc => absurd (show ((ws.length : Int) != ws.length) = true from hc) (by simp), fun hc => ?_⟩
  conv=>whnf
  refine loop_step tB_ok (G := Nat) 0 [] (fun i => [(5, iv .i64 i)]) (fun _ => []) (fun i => i ≤ bs.length) (fun i => bs.length - i) ?_
  conv=>whnf
  refine ⟨⟨0, Nat.zero_le _, ?_⟩, ?_⟩
  · conv=>whnf
    repeat' (first | exact trivial | exact rfl | refine And.intro ?_ ?_ | ((conv=>whnf); first | exact trivial | exact rfl | refine And.intro ?_ ?_ | omega))
  rintro i hi ρ1 t1 hρ1
  conv=>whnf
  refine ⟨fun hc => ?_, fun hc => ?_⟩
  · have hlt : i < bs.length := by simpa using hc
    conv=>whnf
    refine ⟨i, rfl, hlt, hlt, ?_⟩
    conv=>whnf
    refine ⟨i, rfl, hlt, hlt, ?_⟩
    conv=>whnf
    refine ⟨fun hc2 => ?_, fun hc2 => ?_⟩
    · have h2 : (!eqBal bs[i] bs[i]) = true := hc2
      rw [eqBal_r] at h2; cases h2
    · conv=>whnf
      refine ⟨_, wrapId ⟨by omega, by omega⟩, ?_⟩
      refine ⟨i + 1, hlt, by show bs.length - (i + 1) < bs.length - i; omega, ?_⟩
      conv=>whnf
      refine ⟨rfl, ?_⟩
      conv=>whnf
      repeat' (first | exact trivial | exact rfl | refine And.intro ?_ ?_ | ((conv=>whnf); first | exact trivial | exact rfl | refine And.intro ?_ ?_ | omega))
  have hie : i = bs.length := by simp at hc; omega
  subst hie
  conv=>whnf
  refine loop_step tB_ok (G := Nat) 0 [] (fun i => [(6, iv .i64 i)]) (fun _ => []) (fun i => i ≤ cs.length) (fun i => cs.length - i) ?_
  conv=>whnf
  refine ⟨⟨0, Nat.zero_le _, ?_⟩, ?_⟩
  · conv=>whnf
    repeat' (first | exact trivial | exact rfl | refine And.intro ?_ ?_ | ((conv=>whnf); first | exact trivial | exact rfl | refine And.intro ?_ ?_ | omega))
  rintro i hi ρ1 t1 hρ1
  conv=>whnf
  refine ⟨fun hc => ?_, fun hc => ?_⟩
  · have hlt : i < cs.length := by simpa using hc
    conv=>whnf
    refine ⟨i, rfl, hlt, hlt, ?_⟩
    conv=>whnf
    refine ⟨i, rfl, hlt, hlt, ?_⟩
    conv=>whnf
    refine ⟨fun hc2 => ?_, fun hc2 => ?_⟩
    · have h2 : (!eqChk cs[i] cs[i]) = true := hc2
      rw [eqChk_r] at h2; cases h2
    · conv=>whnf
      refine ⟨_, wrapId ⟨by omega, by omega⟩, ?_⟩
      refine ⟨i + 1, hlt, by show cs.length - (i + 1) < cs.length - i; omega, ?_⟩
      conv=>whnf
      refine ⟨rfl, ?_⟩
      conv=>whnf
      repeat' (first | exact trivial | exact rfl | refine And.intro ?_ ?_ | ((conv=>whnf); first | exact trivial | exact rfl | refine And.intro ?_ ?_ | omega))
  have hie : i = cs.length := by simp at hc; omega
  subst hie
  conv=>whnf
  refine loop_step tB_ok (G := Nat) 0 [] (fun i => [(7, iv .i64 i)]) (fun _ => []) (fun i => i ≤ ns.length) (fun i => ns.length - i) ?_
  conv=>whnf
  refine ⟨⟨0, Nat.zero_le _, ?_⟩, ?_⟩
  · conv=>whnf
    repeat' (first | exact trivial | exact rfl | refine And.intro ?_ ?_ | ((conv=>whnf); first | exact trivial | exact rfl | refine And.intro ?_ ?_ | omega))
  rintro i hi ρ1 t1 hρ1
  conv=>whnf
  refine ⟨fun hc => ?_, fun hc => ?_⟩
  · have hlt : i < ns.length := by simpa using hc
    conv=>whnf
    refine ⟨i, rfl, hlt, hlt, ?_⟩
    conv=>whnf
    refine ⟨i, rfl, hlt, hlt, ?_⟩
    conv=>whnf
    refine ⟨fun hc2 => ?_, fun hc2 => ?_⟩
    · have h2 : (!eqNtc ns[i] ns[i]) = true := hc2
      rw [eqNtc_r] at h2; cases h2
    · conv=>whnf
      refine ⟨_, wrapId ⟨by omega, by omega⟩, ?_⟩
      refine ⟨i + 1, hlt, by show ns.length - (i + 1) < ns.length - i; omega, ?_⟩
      conv=>whnf
      refine ⟨rfl, ?_⟩
      conv=>whnf
      repeat' (first | exact trivial | exact rfl | refine And.intro ?_ ?_ | ((conv=>whnf); first | exact trivial | exact rfl | refine And.intro ?_ ?_ | omega))
  have hie : i = ns.length := by simp at hc; omega
  subst hie
  conv=>whnf
  refine loop_step tB_ok (G := Nat) 0 [] (fun i => [(8, iv .i64 i)]) (fun _ => []) (fun i => i ≤ ws.length) (fun i => ws.length - i) ?_
  conv=>whnf
  refine ⟨⟨0, Nat.zero_le _, ?_⟩, ?_⟩
  · conv=>whnf
    repeat' (first | exact trivial | exact rfl | refine And.intro ?_ ?_ | ((conv=>whnf); first | exact trivial | exact rfl | refine And.intro ?_ ?_ | omega))
  rintro i hi ρ1 t1 hρ1
  conv=>whnf
  refine ⟨fun hc => ?_, fun hc => ?_⟩
  · have hlt : i < ws.length := by simpa using hc
    conv=>whnf
    refine ⟨i, rfl, hlt, hlt, ?_⟩
    conv=>whnf
    refine ⟨i, rfl, hlt, hlt, ?_⟩
    conv=>whnf
    refine ⟨fun hc2 => ?_, fun hc2 => ?_⟩
    · have h2 : (!eqWgh ws[i] ws[i]) = true := hc2
      rw [eqWgh_r] at h2; cases h2
    · conv=>whnf
      refine ⟨_, wrapId ⟨by omega, by omega⟩, ?_⟩
      refine ⟨i + 1, hlt, by show ws.length - (i + 1) < ws.length - i; omega, ?_⟩
      conv=>whnf
      refine ⟨rfl, ?_⟩
      conv=>whnf
      repeat' (first | exact trivial | exact rfl | refine And.intro ?_ ?_ | ((conv=>whnf); first | exact trivial | exact rfl | refine And.intro ?_ ?_ | omega))
  have hie : i = ws.length := by simp at hc; omega
  subst hie
  conv=>whnf
  repeat' (first | exact trivial | exact rfl | refine And.intro ?_ ?_ | ((conv=>whnf); first | exact trivial | exact rfl | refine And.intro ?_ ?_ | omega))

end Go.Proofs

namespace Go
namespace Sx

theorem SatO.weak {ρ : Asg} {w : World} {k : Nat} {own : Bool} {o : SO} (h : SatO ρ w k own o) : SatO ρ w k false o where
  wf := h.wf
  at_ := h.at_
  room h := by cases h
  off0 h := by cases h
  keys := h.keys

end Sx
end Go

namespace Go
namespace Sx

end Sx
end Go

namespace Go
namespace Sx

theorem SatH.consN {w0 : World} {M : List Nat} {ρ ρ' : Asg} {H : Heap} {w w' : World} {k : Nat} {o : SO} (h : SatH w0 M ρ H w)
    (hag : ∀ j own o', look H j = some (own, o') → j ≠ k ∧ ρ' j = ρ j ∧ ∀ n, o'.uses [n] = true → ρ' n = ρ n)
    (hsz : w.heap.size ≤ w'.heap.size) (hfrm : Frm w0 w' M)
    (hsame : ∀ b, b < w.heap.size → w'.heap[b]? = w.heap[b]?)
    (hdis : ∀ j o', look H j = some (true, o') → 0 < o'.room (ρ j) → 0 < o.room (ρ' k) → (ρ j).blk ≠ (ρ' k).blk)
    (hnew : SatO ρ' w' k false o) (hvalid : 0 < o.room (ρ' k) → (ρ' k).blk < w'.heap.size) : SatH w0 M ρ' ((k, false, o) :: H) w' where
  frm := hfrm
  reg j own' o' hl := by
    rw [look_cons] at hl
    by_cases hj : j = k
    · subst hj; simp at hl; obtain ⟨rfl, rfl⟩ := hl; exact hnew
    · rw [if_neg hj] at hl
      obtain ⟨_, a1, a2⟩ := hag j own' o' hl
      exact ((h.reg j own' o' hl).world (fun hr => hsame _ (h.valid j own' o' hl hr))).asg a1 a2
  apart j j' o1 own' o2 hne hl hl' hr hr' := by
    rw [look_cons] at hl hl'
    by_cases hj : j = k
    · subst hj; simp at hl
    · rw [if_neg hj] at hl
      obtain ⟨_, a1, _⟩ := hag j true o1 hl
      rw [a1] at hr ⊢
      by_cases hj' : j' = k
      · subst hj'
        simp at hl'; obtain ⟨rfl, rfl⟩ := hl'
        exact hdis j o1 hl hr hr'
      · rw [if_neg hj'] at hl'
        obtain ⟨_, b1, _⟩ := hag j' own' o2 hl'
        rw [b1] at hr' ⊢
        exact h.apart j j' o1 own' o2 hne hl hl' hr hr'
  fresh j o1 hl hr := by
    rw [look_cons] at hl
    by_cases hj : j = k
    · subst hj; simp at hl
    · rw [if_neg hj] at hl
      obtain ⟨_, a1, _⟩ := hag j true o1 hl
      rw [a1] at hr ⊢
      exact h.fresh j o1 hl hr
  valid j own' o1 hl hr := by
    rw [look_cons] at hl
    by_cases hj : j = k
    · subst hj; simp at hl; obtain ⟨rfl, rfl⟩ := hl; exact hvalid hr
    · rw [if_neg hj] at hl
      obtain ⟨_, a1, _⟩ := hag j own' o1 hl
      rw [a1] at hr ⊢
      exact Nat.lt_of_lt_of_le (h.valid j own' o1 hl hr) hsz

structure TripleA (P : Program) (f : FuncId) (A : Arr) (z : SV) (R : List A.α) : Prop where
  enter : ∀ args w, (callFunc f args).run P w = .ok (.enter f args) w
  h : ∀ (ρ : Asg) (w : World) (a b : Value), (SC.s 0 0 A.xs.length A.sz).rel ρ a → z.rel ρ b → SatO ρ w 0 false (.arr A) → (0 < (SO.arr A).room (ρ 0) → (ρ 0).blk < w.heap.size) →
    Calls P f #[a, b] w fun e w' => ∃ (r : Rg) (v : Value), e = .returned v ∧ (SC.s 1 0 R.length A.sz).rel (upd ρ 1 r) v ∧ Frm w w' [] ∧ SatO (upd ρ 1 r) w' 1 false (.arr (A.setXs R)) ∧
      (0 < (SO.arr (A.setXs R)).room r → r.blk < w'.heap.size ∧ (w.heap.size ≤ r.blk ∨ r = ρ 0))

theorem satH_one {ρ : Asg} {w : World} {o : SO} (h : SatO ρ w 0 false o) (hv : 0 < o.room (ρ 0) → (ρ 0).blk < w.heap.size) : SatH w (ownB ρ [(0, false, o)]) ρ [(0, false, o)] w where
  frm := Frm.refl w _
  reg j own q hl := by
    rw [look_cons] at hl
    by_cases hj : j = 0
    · rw [if_pos hj] at hl; cases hl; subst hj; exact h
    · rw [if_neg hj] at hl; cases hl
  apart j j' q own' q' _ hl := by
    rw [look_cons] at hl
    by_cases hj : j = 0
    · rw [if_pos hj] at hl; cases hl
    · rw [if_neg hj] at hl; cases hl
  fresh j q hl := by
    rw [look_cons] at hl
    by_cases hj : j = 0
    · rw [if_pos hj] at hl; cases hl
    · rw [if_neg hj] at hl; cases hl
  valid j own q hl hr := by
    rw [look_cons] at hl
    by_cases hj : j = 0
    · rw [if_pos hj] at hl; cases hl; subst hj; exact hv hr
    · rw [if_neg hj] at hl; cases hl

theorem Triple.toA {P : Program} {f : FuncId} {A : Arr} {z : SV} {R : List A.α} (h : Triple P f [.c (.s 0 0 A.xs.length A.sz), z] [(0, false, .arr A)] 1 (.c (.s 1 0 R.length A.sz)) [(1, true, .arr (A.setXs R))]) (hn : A.nm = []) : TripleA P f A z R where
  enter := h.enter
  h ρ w a b ha hb hA hv := (h.h ρ w #[a, b] ⟨ha, hb, trivial⟩ (satH_one hA hv)).mono (by
    rintro e w' ⟨ρ', v, h1, h2, h3, h4⟩
    have hM : ownB ρ [(0, false, SO.arr A)] = [] := rfl
    rw [hM] at h4
    have hl : look [(1, true, SO.arr (A.setXs R))] 1 = some (true, .arr (A.setXs R)) := rfl
    have hso := (h4.reg 1 true _ hl).weak
    have hag : ∀ n, (SO.arr (A.setXs R)).uses [n] = true → upd ρ 1 (ρ' 1) n = ρ' n := fun n hu => by
      rw [show (SO.arr (A.setXs R)).uses [n] = anyMem [n] A.nm from rfl, hn] at hu; cases hu
    refine ⟨ρ' 1, v, h2, SC.rel_agree (fun j hj => ?_) h3, h4.frm, hso.asg upd_eq hag, fun hr => ⟨h4.valid 1 true _ hl hr, ?_⟩⟩
    · simp [SC.nms] at hj; subst hj; exact upd_eq
    · rcases h4.fresh 1 _ hl hr with h5 | h5
      · exact .inl h5
      · cases h5)

theorem Triple.toA0 {P : Program} {f : FuncId} {A : Arr} {z : SV} (h : Triple P f [.c (.s 0 0 A.xs.length A.sz), z] [(0, false, .arr A)] 1 (.c (.s 0 0 A.xs.length A.sz)) []) (hn : A.nm = []) : TripleA P f A z A.xs where
  enter := h.enter
  h ρ w a b ha hb hA hv := (h.h ρ w #[a, b] ⟨ha, hb, trivial⟩ (satH_one hA hv)).mono (by
    rintro e w' ⟨ρ', v, h1, h2, h3, h4⟩
    have hM : ownB ρ [(0, false, SO.arr A)] = [] := rfl
    rw [hM] at h4
    have e0 : ρ' 0 = ρ 0 := h1 0 (by decide)
    have hsame : 0 < (SO.arr A).room (ρ 0) → w'.heap[(ρ 0).blk]? = w.heap[(ρ 0).blk]? := fun hp => h4.frm.same _ (hv hp) (by simp)
    have hso' := hA.world hsame
    have hu : upd ρ 1 (ρ 0) 1 = ρ 0 := upd_eq
    refine ⟨ρ 0, v, h2, ?_, h4.frm, ?_, fun hr => ⟨Nat.lt_of_lt_of_le (hv hr) h4.frm.size, .inr rfl⟩⟩
    · obtain ⟨a', ha', hc, hp⟩ := h3
      rw [e0] at ha' hc hp
      refine ⟨a', by rw [hu]; exact ha', by rw [hu]; exact hc, fun hlt => ?_⟩
      rw [hu] at hlt
      have := hp hlt
      rw [this]
      unfold adr
      rw [hu, e0]
    · show SatO (upd ρ 1 (ρ 0)) w' 1 false (.arr A)
      refine ⟨by rw [hu]; exact hso'.wf, fun i' j' c hc => ?_, (fun h => by cases h), (fun h => by cases h), fun Φ h => by cases h⟩
      obtain ⟨v', hv', hr'⟩ := hso'.at_ i' j' c hc
      refine ⟨v', ?_, SC.rel_agree (ρ := ρ) (fun n hnn => ?_) hr'⟩
      · unfold adr at hv' ⊢; rw [hu]; exact hv'
      · have := SO.uses_cell hso'.wf hc hnn
        rw [show (SO.arr A).uses [n] = anyMem [n] A.nm from rfl, hn] at this
        cases this)

theorem Frm.trans0 {w0 w w' : World} {M : List Nat} (h : Frm w0 w M) (h' : Frm w w' []) : Frm w0 w' M where
  size := Nat.le_trans h.size h'.size
  same b hb hM := by rw [h'.same b (Nat.lt_of_lt_of_le hb h.size) (by simp)]; exact h.same b hb hM
  io := ⟨h'.io.1.trans h.io.1, h'.io.2.trans h.io.2⟩
  quiet := ⟨h'.quiet.1.trans h.quiet.1, Nat.le_trans h.quiet.2 h'.quiet.2⟩

def callAK (f : FuncId) (A : Arr) (R : List A.α) (x : Value) (g : SV) (acts : List SV) (H : Heap) (nx : Nat) (K : Eff → Prop) : Prop :=
  match g, acts with
  | .c (.f g []), [.c (.s k 0 len sz), .c (.v y)] => bif Nat.beq g f then (match look H k with
    | some (false, .arr X) => (X = A ∧ len = A.xs.length ∧ sz = A.sz ∧ y = x) ∧ K ⟨.c (.s nx 0 R.length sz), [k], [(nx, false, .arr (A.setXs R))], [nx]⟩
    | _ => False) else False
  | _, _ => False

theorem callA_step {cx : Cx} {o : Oper} {e : Env} {H : Heap} {nx : Nat} {K : Eff → Prop} {c : Call} {x : Operand} {f : FuncId} {A : Arr} {R : List A.α} {y : Value}
    (T : TripleA cx.P f A (.c (.v y)) R) (hn : A.nm = []) (ho : o.op = .call c) (hc : c.callee = .value x) (h : callAK f A R y (ev e x) (evs e c.args.toList) H nx K) :
    ∃ F, CallOK cx o e H nx F ∧ K F := by
  unfold callAK at h
  split at h
  · rename_i g k len sz y' he hargs
    cases hg : Nat.beq g f with
    | false => simp [hg] at h
    | true =>
    simp only [hg, cond_true] at h
    have hgf := Nat.eq_of_beq_eq_true hg
    split at h
    · rename_i X hlk
      obtain ⟨⟨rfl, rfl, rfl, rfl⟩, hK⟩ := h
      refine ⟨_, ⟨?_, ?_⟩, hK⟩
      rotate_left
      · intro j hj; simp at hj; subst hj; simp
      intro ρ s a w hs hr hk hnew hdst KK Q hKK
      obtain ⟨hfr, hlt, hn0⟩ := hnew nx (by simp)
      have hl1 : look s.H k = some (false, .arr X) := by rw [hk k (by simp)]; exact hlk
      have hops : ∀ q ∈ c.args.toList, q ∈ o.op.operands.toList := fun q hq => by simp [ho, Op.operands, Call.operands, hc]; exact .inr (by simpa using hq)
      have hopx : x ∈ o.op.operands.toList := by simp [ho, Op.operands, Call.operands, hc]
      have hfit : ∀ q, q ∈ o.op.operands.toList → (ev e q).rel ρ (a.eval q) := fun q hq => reads_fit hq (fun t ht => by rw [← hr t ht]; exact hs.env t)
      have hx := hfit x hopx
      rw [he] at hx; simp only [SV.rel, SC.rel] at hx
      have hvals := evs_rel (ρ := ρ) (e := e) (a := a) (l := c.args.toList) (fun q hq => hfit q (hops q hq))
      rw [hargs] at hvals
      obtain ⟨va, vb, hab, hva, hvb⟩ : ∃ va vb, c.args.toList.map a.eval = [va, vb] ∧ (SC.s k 0 X.xs.length X.sz).rel ρ va ∧ vb = y' := by
        match hm : c.args.toList.map a.eval, hvals with
        | [va, vb], hv => exact ⟨va, vb, rfl, hv.1, hv.2.1⟩
      subst hvb
      have hso := hs.heap.reg k false _ hl1
      have hval := hs.heap.valid k false _ hl1
      have hag0 : ∀ n, (SO.arr X).uses [n] = true → upd ρ 0 (ρ k) n = ρ n := fun n hu => by
        rw [show (SO.arr X).uses [n] = anyMem [n] X.nm from rfl, hn] at hu; cases hu
      have hso0 : SatO (upd ρ 0 (ρ k)) w 0 false (.arr X) := by
        have hu : upd ρ 0 (ρ k) 0 = ρ k := upd_eq
        refine ⟨by rw [hu]; exact hso.wf, fun i' j' c hc => ?_, (fun h => by cases h), (fun h => by cases h), fun Φ h => by cases h⟩
        obtain ⟨v', hv', hr'⟩ := hso.at_ i' j' c hc
        refine ⟨v', ?_, SC.rel_agree (ρ := ρ) (fun n hnn => ?_) hr'⟩
        · unfold adr at hv' ⊢; rw [hu]; exact hv'
        · have := SO.uses_cell hso.wf hc hnn
          rw [show (SO.arr X).uses [n] = anyMem [n] X.nm from rfl, hn] at this
          cases this
      have hva0 : (SC.s 0 0 X.xs.length X.sz).rel (upd ρ 0 (ρ k)) va := by
        have hu : upd ρ 0 (ρ k) 0 = ρ k := upd_eq
        obtain ⟨a', ha', hcc, hp⟩ := hva
        refine ⟨a', by rw [hu]; exact ha', by rw [hu]; exact hcc, fun hlt => ?_⟩
        rw [hu] at hlt
        rw [hp hlt]
        unfold adr
        rw [hu]
      have hcall := T.h (upd ρ 0 (ρ k)) w va vb hva0 rfl hso0 (by rw [upd_eq]; exact hval)
      have hargsA : c.args.map a.eval = #[va, vb] := by
        apply Array.toList_inj.1
        rw [Array.toList_map, hab]
      have hrun : (execOp a.eval o).run cx.P w = .ok (.enter f #[va, vb]) w := by
        simp only [execOp, ho, resolve, hc, hx, Deferred.ofValue, Sem.run_bind, Sem.run_pure, Result.andThen_ok, invoke, hgf]
        rw [T.enter, hargsA]; simp
      refine ⟨fun _ _ => trivial, ?_⟩
      rw [Oper.semAt_eq _ _ _ (by simp [ho]), hrun, Oper.uponIn_enter]
      refine ⟨fun h => by simp [fen, Fence.wide] at h, ?_⟩
      refine CallsIn.mono (calls_fen hcall) ?_
      rintro en w' ⟨r, v, rfl, hrv, hfrm, hnewO, hblk⟩
      have hu1 : upd (upd ρ 0 (ρ k)) 1 r 1 = r := upd_eq
      have hun : upd ρ nx r nx = r := upd_eq
      have hnewN : SatO (upd ρ nx r) w' nx false (.arr (X.setXs R)) := by
        refine ⟨by rw [hun]; have := hnewO.wf; rw [hu1] at this; exact this, fun i' j' c hc => ?_, (fun h => by cases h), (fun h => by cases h), fun Φ h => by cases h⟩
        obtain ⟨v', hv', hr'⟩ := hnewO.at_ i' j' c hc
        refine ⟨v', ?_, SC.rel_agree (ρ := upd (upd ρ 0 (ρ k)) 1 r) (fun n hnn => ?_) hr'⟩
        · unfold adr at hv' ⊢; rw [hun]; rw [hu1] at hv'; exact hv'
        · have := SO.uses_cell hnewO.wf hc hnn
          rw [show (SO.arr (X.setXs R)).uses [n] = anyMem [n] X.nm from rfl, hn] at this
          cases this
      have hsat : Sat cx (upd ρ nx r) { s with H := (nx, false, .arr (X.setXs R)) :: s.H } a w' :=
        { size := hs.size
          defers := by rw [hs.defers]; exact (marks_agree fun j hj => upd_ne (by rintro rfl; exact hfr.mks hj)).symm
          env := fun i => SV.rel_upd' (hs.env i) (hfr.env i)
          heap := hs.heap.consN (fun j own o' hl => ⟨(hfr.heap j own o' hl).1, upd_ne (hfr.heap j own o' hl).1, fun n hnu => upd_ne (by rintro rfl; rw [(hfr.heap j own o' hl).2] at hnu; cases hnu)⟩)
            hfrm.size (hs.heap.frm.trans0 hfrm) (fun b hb => hfrm.same b hb (by simp)) (fun j o' hl hr1 hr2 => by
              rw [hun] at hr2 ⊢
              rcases (hblk hr2).2 with h5 | h5
              · exact Nat.ne_of_lt (Nat.lt_of_lt_of_le (hs.heap.valid j true o' hl hr1) h5)
              · rw [upd_eq] at h5
                subst h5
                refine hs.heap.apart j k o' false _ ?_ hl hl1 hr1 hr2
                rintro rfl
                rw [hl] at hl1; cases hl1) hnewN (fun hr2 => by rw [hun] at hr2 ⊢; exact (hblk hr2).1)
          bnd := hs.bnd.cons hlt (fun n hnu => by
            rw [show (SO.arr (X.setXs R)).uses [n] = anyMem [n] X.nm from rfl, hn] at hnu; cases hnu)
          base := fun j hj => by rw [upd_ne (by omega)]; exact hs.base j hj
          keep := hs.keep
          n0 := hs.n0 }
      refine hKK (upd ρ nx r) _ w' (hsat.putO hdst ?_ (by rw [SV.below_c]; intro j hj; simp [SC.nms] at hj; subst hj; exact hlt)) (fun j hj => upd_ne (by simpa using hj))
      obtain ⟨a', ha', hcc, hp⟩ := hrv
      rw [hu1] at ha' hcc hp
      refine ⟨a', by rw [hun]; exact ha', by rw [hun]; exact hcc, fun hlt' => ?_⟩
      rw [hun] at hlt'
      rw [hp hlt']
      unfold adr
      rw [hun, hu1]
    · exact h.elim
  · exact h.elim

end Sx
end Go

