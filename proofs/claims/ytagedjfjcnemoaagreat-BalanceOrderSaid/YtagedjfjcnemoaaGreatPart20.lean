/-
  A part of the proof that a law answers true: lemmas of a symbolic walk, plain functions, or contracts of the functions walked (Ra, Pm12, Xb, Xc, Xp, Xr). Conditions: none.
-/
import Derived.Test.YtagedjfjcnemoaaGreatPart19
import Derived.Test.YtagedjfjcnemoaaGreatPart13
set_option maxRecDepth 100000
set_option linter.unusedVariables false
set_option linter.unusedSimpArgs false
namespace Go.Proofs
open Go.Sx

structure ShOK (r : Rd) (os : List Thg) (ms : List Mom) : Prop where
  rd : RdOK r
  ow : ∀ w ∈ r.ws, w.o ∈ os
  mw : ∀ w ∈ r.ws, wMom w ∈ ms
  mc : ∀ c ∈ r.cs, cMom c ∈ ms
  mo : ∀ m ∈ ms, momOK r m = true
  od : os.Nodup
  md : ms.Nodup
  ol : os.length ≤ 1000
  ml : ms.length ≤ 1000
  dr : ∀ (j : Nat) (a b : Mom), ms[j]? = some a → ms[j + 1]? = some b → a.bal = b.bal → DrfOK r.bs a b

theorem sheet_ok {r : Rd} (h : RdOK r) {more : List Mom} (hl : more.length ≤ 100) (hm : ∀ m ∈ more, momOK r m = true) : ShOK r (objsF r) (momsF r more) where
  rd := h
  ow w hw := objsF_mem.2 ⟨w, hw, rfl⟩
  mw w hw := momsF_mem.2 (.inl ⟨w, hw, rfl⟩)
  mc c hc := momsF_mem.2 (.inr (.inl ⟨c, hc, rfl⟩))
  mo m hmm := h.mom hm hmm
  od := objsF_nodup r
  md := momsF_nodup r more
  ol := by have := objsF_len r; have := h.nr; omega
  ml := by have := momsF_len r more; have := h.nr; omega
  dr j a b ha hb hab := drf_ok h hm ha hb hab

set_option maxHeartbeats 4000000 in
theorem sysOf_t (r : Rd) (os : List Thg) (ms : List Mom) (h : ShOK r os ms) :
    Triple Tryz.prog 83 [.c (.p 4 0 0 0)]
      (rdH r ++ [(4, false, sheetO r 5 6 7 8 os.length ms.length), (5, false, .arr (aThg os)), (6, false, placesO os), (7, false, .arr (aMom ms)), (8, false, atO os ms)]) 9
      (.agg [.s 9 0 (boxesR r os ms).length 2, .s 10 0 (linksR r os ms).length 4]) [(9, true, .arr (aSpan (boxesR r os ms))), (10, true, .arr (aLink (linksR r os ms)))] := by
  have hnb := h.rd.nb
  have hnr := h.rd.nr
  have hol := h.ol
  have hml := h.ml
  have eL : linksR r os ms = (((((sortK Wgh.id r.ws).flatMap (wghLs r.bs os ms) ++ (sortK Chk.id r.cs).flatMap (chkLs r.bs os ms)) ++ ms.flatMap (momLs r os ms)) ++ drfLs r.bs os.length 0 ms) ++ os.flatMap (cvrLs os 1 2)) ++ os.flatMap (cvrLs os 3 4) := by
    unfold linksR
    simp only [List.append_assoc]
  have eB : boxesR r os ms = os.map (fun o => ((0 : Int), capF r o)) ++ ms.map (fun _ => ((-1000000 : Int), (1000000 : Int))) := rfl
  rw [eL, eB]
  clear eL eB
  refine triple_of tB_ok Tryz.func83 rfl Tryz.call83 rfl ?_
  intro ρ w hH
  conv=>whnf
  -- the boxes of objects
  refine loop_step tB_ok (G := Nat) 2 [] (fun i => [(46, iv .i64 i)]) (fun i => [(10, true, .cells [.s 11 0 ((os.take i).map fun o => ((0 : Int), capF r o)).length 2, .s 12 0 0 4]), (11, true, .arr (aSpan ((os.take i).map fun o => ((0 : Int), capF r o)))), (12, true, .arr (aLink []))]) (fun i => i ≤ os.length) (fun i => os.length - i) ?_
  conv=>whnf
  refine ⟨⟨0, Nat.zero_le _, ?_⟩, ?_⟩
  · conv=>whnf
    repeat' (first | exact trivial | exact rfl | refine And.intro ?_ ?_ | ((conv=>whnf); first | exact trivial | exact rfl | refine And.intro ?_ ?_ | omega))
  intro i hi ρ1 t1 hρ1
  conv=>whnf
  refine ⟨fun hc => ?_, fun hc => ?_⟩
  · have hlt : i < os.length := by simpa using hc
    have hnx : (os.take (i + 1)).map (fun o => ((0 : Int), capF r o)) = (os.take i).map (fun o => ((0 : Int), capF r o)) ++ [(0, capF r os[i])] := by rw [take_snoc hlt, List.map_append]; rfl
    have hM : ((os.take i).map (fun o => ((0 : Int), capF r o))).length ≤ 1000 := by rw [List.length_map, List.length_take]; omega
    have hcap : capF r os[i] = r.ws.foldl (capStep r.bs os[i]) 10000000 := rfl
    generalize (os.take i).map (fun o => ((0 : Int), capF r o)) = M at *
    generalize capF r os[i] = cap at *
    conv=>whnf
    refine ⟨i, rfl, hlt, hlt, ?_⟩
    conv=>whnf
    refine loop_step tB_ok (G := Nat) 0 [] (fun j => [(56, iv .i64 j), (7, iv .i64 ((r.ws.take j).foldl (capStep r.bs os[i]) 10000000))]) (fun _ => []) (fun j => j ≤ r.ws.length) (fun j => r.ws.length - j) ?_
    conv=>whnf
    refine ⟨⟨0, Nat.zero_le _, ?_⟩, ?_⟩
    · conv=>whnf
      repeat' (first | exact trivial | exact rfl | refine And.intro ?_ ?_ | ((conv=>whnf); first | exact trivial | exact rfl | refine And.intro ?_ ?_ | omega))
    intro j hj ρ2 t2 hρ2
    conv=>whnf
    refine ⟨fun hc => ?_, fun hc => ?_⟩
    · have hjl : j < r.ws.length := by simpa using hc
      have hcr := cap_round (bs := r.bs) (o := os[i]) hjl
      generalize (r.ws.take j).foldl (capStep r.bs os[i]) 10000000 = n at *
      conv=>whnf
      refine ⟨j, rfl, hjl, hjl, ?_⟩
      conv=>whnf
      refine ⟨fun hc => ?_, fun hc => ?_⟩
      · have he : r.ws[j].o = os[i] := eqThg_t (show eqThg r.ws[j].o os[i] = true from hc)
        have e : capStep r.bs os[i] n r.ws[j] = min n (findD r.bs r.ws[j].bal).cap := by unfold capStep; simp [he]
        rw [e] at hcr
        conv=>whnf
        refine call_step (find_t r r.ws[j].bal (by omega)) rfl rfl ?_
        conv=>whnf
        refine ⟨?_, ?_, ?_⟩
        iterate 2 · repeat' (first | exact trivial | exact rfl | refine And.intro ?_ ?_ | ((conv=>whnf); first | exact trivial | exact rfl | refine And.intro ?_ ?_ | omega))
        conv=>whnf
        refine ⟨_, wrapId ⟨by omega, by omega⟩, ?_⟩
        refine ⟨j + 1, hjl, by show r.ws.length - (j + 1) < r.ws.length - j; omega, ?_⟩
        dsimp only
        rw [hcr]
        conv=>whnf
        refine ⟨rfl, ?_⟩
        conv=>whnf
        repeat' (first | exact trivial | exact rfl | refine And.intro ?_ ?_ | ((conv=>whnf); first | exact trivial | exact rfl | refine And.intro ?_ ?_ | omega))
      · have he : ¬ r.ws[j].o = os[i] := fun he => by have h1 : eqThg r.ws[j].o os[i] = false := hc; rw [he, eqThg_r] at h1; cases h1
        have hb : (r.ws[j].o == os[i]) = false := by simpa using he
        have e : capStep r.bs os[i] n r.ws[j] = n := by unfold capStep; rw [hb]; rfl
        rw [e] at hcr
        conv=>whnf
        refine ⟨_, wrapId ⟨by omega, by omega⟩, ?_⟩
        refine ⟨j + 1, hjl, by show r.ws.length - (j + 1) < r.ws.length - j; omega, ?_⟩
        dsimp only
        rw [hcr]
        conv=>whnf
        refine ⟨rfl, ?_⟩
        conv=>whnf
        repeat' (first | exact trivial | exact rfl | refine And.intro ?_ ?_ | ((conv=>whnf); first | exact trivial | exact rfl | refine And.intro ?_ ?_ | omega))
    have hje : j = r.ws.length := by simp at hc; omega
    subst hje
    rw [List.take_length, ← hcap]
    conv=>whnf
    refine bs_step tB_ok (aSpan [(0, cap)]) rfl rfl ?_
    conv=>whnf
    refine ⟨⟨rfl, (by repeat' (first | exact trivial | exact rfl | refine And.intro ?_ ?_ | ((conv=>whnf); first | exact trivial | exact rfl | refine And.intro ?_ ?_ | omega)))⟩, ?_⟩
    conv=>whnf
    refine app_step tB_ok (aSpan M) [((0 : Int), cap)] (fun _ => rfl) rfl rfl rfl rfl ?_
    conv=>whnf
    refine ⟨⟨rfl, rfl, Nat.le_refl _, Nat.le_refl _, by show (M.length + 1) * 17 ≤ _; omega⟩, ?_⟩
    conv=>whnf
    refine ⟨_, wrapId ⟨by omega, by omega⟩, ?_⟩
    refine ⟨i + 1, hlt, by show os.length - (i + 1) < os.length - i; omega, ?_⟩
    dsimp only
    rw [hnx]
    conv=>whnf
    refine ⟨rfl, ?_⟩
    conv=>whnf
    repeat' (first | exact trivial | exact rfl | refine And.intro ?_ ?_ | ((conv=>whnf); first | exact trivial | exact rfl | refine And.intro ?_ ?_ | omega))
    all_goals first | exact (congrArg aSpan app1.symm : _) | exact (congrArg aSpan app1 : _) | (simp; done) | skip
  have hie : i = os.length := by simp at hc; omega
  subst hie
  rw [List.take_length]
  have hbl : (os.map fun o => ((0 : Int), capF r o)).length ≤ 1000 := by rw [List.length_map]; omega
  generalize (os.map fun o => ((0 : Int), capF r o)) = B0 at *
  conv=>whnf
  -- the boxes of moments
  refine loop_step tB_ok (G := Nat) 1 [11] (fun i => [(92, iv .i64 i)]) (fun i => [(10, true, .cells [.s 13 0 (B0 ++ (ms.take i).map fun _ => ((-1000000 : Int), (1000000 : Int))).length 2, .s 12 0 0 4]), (13, true, .arr (aSpan (B0 ++ (ms.take i).map fun _ => ((-1000000 : Int), (1000000 : Int)))))]) (fun i => i ≤ ms.length) (fun i => ms.length - i) ?_
  conv=>whnf
  refine ⟨⟨0, Nat.zero_le _, ?_⟩, ?_⟩
  · conv=>whnf
    repeat' (first | exact trivial | exact rfl | refine And.intro ?_ ?_ | ((conv=>whnf); first | exact trivial | exact rfl | refine And.intro ?_ ?_ | omega))
    all_goals first | (show aSpan B0 = aSpan (B0 ++ []); rw [List.append_nil]) | simp
  intro i hi ρ1 t1 hρ1
  conv=>whnf
  refine ⟨fun hc => ?_, fun hc => ?_⟩
  · have hlt : i < ms.length := by simpa using hc
    have hnx := map_round B0 (fun _ : Mom => ((-1000000 : Int), (1000000 : Int))) hlt
    have hM : (B0 ++ (ms.take i).map fun _ => ((-1000000 : Int), (1000000 : Int))).length ≤ 2000 := by rw [List.length_append, List.length_map, List.length_take]; omega
    generalize (B0 ++ (ms.take i).map fun _ => ((-1000000 : Int), (1000000 : Int))) = M at *
    conv=>whnf
    refine bs_step tB_ok (aSpan [(-1000000, 1000000)]) rfl rfl ?_
    conv=>whnf
    refine ⟨⟨rfl, (by repeat' (first | exact trivial | exact rfl | refine And.intro ?_ ?_ | ((conv=>whnf); first | exact trivial | exact rfl | refine And.intro ?_ ?_ | omega)))⟩, ?_⟩
    conv=>whnf
    refine app_step tB_ok (aSpan M) [((-1000000 : Int), (1000000 : Int))] (fun _ => rfl) rfl rfl rfl rfl ?_
    conv=>whnf
    refine ⟨⟨rfl, rfl, Nat.le_refl _, Nat.le_refl _, by show (M.length + 1) * 17 ≤ _; omega⟩, ?_⟩
    conv=>whnf
    refine ⟨_, wrapId ⟨by omega, by omega⟩, ?_⟩
    refine ⟨i + 1, hlt, by show ms.length - (i + 1) < ms.length - i; omega, ?_⟩
    dsimp only
    rw [hnx]
    conv=>whnf
    refine ⟨rfl, ?_⟩
    conv=>whnf
    repeat' (first | exact trivial | exact rfl | refine And.intro ?_ ?_ | ((conv=>whnf); first | exact trivial | exact rfl | refine And.intro ?_ ?_ | omega))
    all_goals first | exact (congrArg aSpan app1.symm : _) | exact (congrArg aSpan app1 : _) | simp
  have hie : i = ms.length := by simp at hc; omega
  subst hie
  rw [List.take_length]
  have hBl : (B0 ++ ms.map fun _ => ((-1000000 : Int), (1000000 : Int))).length ≤ 2000 := by rw [List.length_append, List.length_map]; omega
  generalize (B0 ++ ms.map fun _ => ((-1000000 : Int), (1000000 : Int))) = B at *
  clear hbl
  -- the links of weighings
  have hwm : ∀ w ∈ sortK Wgh.id r.ws, w ∈ r.ws := fun w hw => (sortK_perm Wgh.id r.ws).mem_iff.1 hw
  have hwl := sortK_len Wgh.id r.ws
  have hS := sortedWgh_t r.ws (by omega) h.rd.wN
  generalize sortK Wgh.id r.ws = sw at *
  conv=>whnf
  refine call_step (valuesWgh_t r.ws) rfl rfl ?_
  conv=>whnf
  refine ⟨?_, ?_, ?_⟩
  iterate 2 · repeat' (first | exact trivial | exact rfl | refine And.intro ?_ ?_ | ((conv=>whnf); first | exact trivial | exact rfl | refine And.intro ?_ ?_ | omega))
  conv=>whnf
  refine call_step hS rfl rfl ?_
  conv=>whnf
  refine ⟨?_, ?_, ?_⟩
  iterate 2 · repeat' (first | exact trivial | exact rfl | refine And.intro ?_ ?_ | ((conv=>whnf); first | exact trivial | exact rfl | refine And.intro ?_ ?_ | omega))
  rw [← hwl]
  conv=>whnf
  refine loop_step tB_ok (G := Nat) 1 [12] (fun i => [(109, iv .i64 i)]) (fun i => [(10, true, .cells [.s 13 0 B.length 2, .s 16 0 ((sw.take i).flatMap (wghLs r.bs os ms)).length 4]), (16, true, .arr (aLink ((sw.take i).flatMap (wghLs r.bs os ms))))]) (fun i => i ≤ sw.length) (fun i => sw.length - i) ?_
  conv=>whnf
  refine ⟨⟨0, Nat.zero_le _, ?_⟩, ?_⟩
  · conv=>whnf
    repeat' (first | exact trivial | exact rfl | refine And.intro ?_ ?_ | ((conv=>whnf); first | exact trivial | exact rfl | refine And.intro ?_ ?_ | omega))
  intro i hi ρ1 t1 hρ1
  conv=>whnf
  refine ⟨fun hc => ?_, fun hc => ?_⟩
  · have hlt : i < sw.length := by simpa using hc
    have hM := flat_le2 (wghLs r.bs os ms) (fun _ => Nat.le_refl _) (sw.take i)
    rw [List.length_take] at hM
    have hnx := flat_round2 [] (wghLs r.bs os ms) hlt rfl
    simp only [List.nil_append] at hnx
    have hw := hwm _ (List.getElem_mem hlt)
    obtain ⟨hwb, hwi, hwt, _, hws⟩ := h.rd.w hw
    obtain ⟨_, hhalf, _⟩ := valid_bd (h.rd.findD hwb)
    have lo := look_obj (h.ow _ hw)
    have lm := look_mom (n := os.length) (h.mw _ hw)
    generalize (sw.take i).flatMap (wghLs r.bs os ms) = M at *
    generalize plF os sw[i].o = po at *
    generalize plF ms (wMom sw[i]) = pm at *
    have hF := find_t r sw[i].bal (by omega)
    generalize findD r.bs sw[i].bal = d at *
    conv=>whnf
    refine ⟨i, rfl, hlt, hlt, ?_⟩
    conv=>whnf
    refine call_step hF rfl rfl ?_
    conv=>whnf
    refine ⟨?_, ?_, ?_⟩
    iterate 2 · repeat' (first | exact trivial | exact rfl | refine And.intro ?_ ?_ | ((conv=>whnf); first | exact trivial | exact rfl | refine And.intro ?_ ?_ | omega))
    conv=>whnf
    refine lookKV_step tB_ok 30 3 true false 4 [0] keyThg zeroInt_ok rfl ?_
    conv=>whnf
    refine ⟨_, _, _, rfl, lo, ?_⟩
    conv=>whnf
    refine lookKV_step tB_ok 53 3 true false 2 [0] keyMom zeroInt_ok rfl ?_
    conv=>whnf
    refine ⟨_, _, _, rfl, lm, ?_⟩
    conv=>whnf
    refine ⟨sw[i].shown + d.half, wrapId (z := sw[i].shown + d.half) ⟨by omega, by omega⟩, ?_⟩
    conv=>whnf
    refine call_step (lay_t (os.length + pm) po (sw[i].shown + d.half) sw[i].id B M (by omega)) rfl rfl ?_
    conv=>whnf
    refine ⟨?_, ?_, ?_⟩
    iterate 2 · repeat' (first | exact trivial | exact rfl | refine And.intro ?_ ?_ | ((conv=>whnf); first | exact trivial | exact rfl | refine And.intro ?_ ?_ | omega))
    conv=>whnf
    refine ⟨d.half - sw[i].shown, wrapId (z := d.half - sw[i].shown) ⟨by omega, by omega⟩, ?_⟩
    have hb2 : (M ++ [(⟨os.length + pm, po, sw[i].shown + d.half, sw[i].id⟩ : Lnk)]).length ≤ 1000000 := by simp; omega
    conv=>whnf
    refine call_step (lay_t po (os.length + pm) (d.half - sw[i].shown) sw[i].id B (M ++ [(⟨os.length + pm, po, sw[i].shown + d.half, sw[i].id⟩ : Lnk)]) hb2) rfl rfl ?_
    conv=>whnf
    refine ⟨?_, ?_, ?_⟩
    iterate 2 · repeat' (first | exact trivial | exact rfl | refine And.intro ?_ ?_ | ((conv=>whnf); first | exact trivial | exact rfl | refine And.intro ?_ ?_ | omega))
    conv=>whnf
    refine ⟨_, wrapId ⟨by omega, by omega⟩, ?_⟩
    refine ⟨i + 1, hlt, by show sw.length - (i + 1) < sw.length - i; omega, ?_⟩
    dsimp only
    rw [hnx]
    conv=>whnf
    refine ⟨rfl, ?_⟩
    conv=>whnf
    repeat' (first | exact trivial | exact rfl | refine And.intro ?_ ?_ | ((conv=>whnf); first | exact trivial | exact rfl | refine And.intro ?_ ?_ | omega))
  have hie : i = sw.length := by simp at hc; omega
  subst hie
  rw [List.take_length]
  have hL1 := flat_le2 (wghLs r.bs os ms) (fun _ => Nat.le_refl _) sw
  generalize sw.flatMap (wghLs r.bs os ms) = L1 at *
  -- the links of checks
  have hcm : ∀ c ∈ sortK Chk.id r.cs, c ∈ r.cs := fun c hc => (sortK_perm Chk.id r.cs).mem_iff.1 hc
  have hcl := sortK_len Chk.id r.cs
  have hS2 := sortedChk_t r.cs (by omega) h.rd.cN
  generalize sortK Chk.id r.cs = sc at *
  conv=>whnf
  refine call_step (valuesChk_t r.cs) rfl rfl ?_
  conv=>whnf
  refine ⟨?_, ?_, ?_⟩
  iterate 2 · repeat' (first | exact trivial | exact rfl | refine And.intro ?_ ?_ | ((conv=>whnf); first | exact trivial | exact rfl | refine And.intro ?_ ?_ | omega))
  conv=>whnf
  refine call_step hS2 rfl rfl ?_
  conv=>whnf
  refine ⟨?_, ?_, ?_⟩
  iterate 2 · repeat' (first | exact trivial | exact rfl | refine And.intro ?_ ?_ | ((conv=>whnf); first | exact trivial | exact rfl | refine And.intro ?_ ?_ | omega))
  rw [← hcl]
  conv=>whnf
  refine loop_step tB_ok (G := Nat) 1 [16] (fun i => [(171, iv .i64 i)]) (fun i => [(10, true, .cells [.s 13 0 B.length 2, .s 19 0 (L1 ++ (sc.take i).flatMap (chkLs r.bs os ms)).length 4]), (19, true, .arr (aLink (L1 ++ (sc.take i).flatMap (chkLs r.bs os ms))))]) (fun i => i ≤ sc.length) (fun i => sc.length - i) ?_
  conv=>whnf
  refine ⟨⟨0, Nat.zero_le _, ?_⟩, ?_⟩
  · conv=>whnf
    repeat' (first | exact trivial | exact rfl | refine And.intro ?_ ?_ | ((conv=>whnf); first | exact trivial | exact rfl | refine And.intro ?_ ?_ | omega))
    all_goals first | (show aLink L1 = aLink (L1 ++ []); rw [List.append_nil]) | simp
  intro i hi ρ1 t1 hρ1
  conv=>whnf
  refine ⟨fun hc => ?_, fun hc => ?_⟩
  · have hlt : i < sc.length := by simpa using hc
    have hM := flat_le2 (chkLs r.bs os ms) (fun _ => Nat.le_refl _) (sc.take i)
    rw [List.length_take] at hM
    have hM2 : (L1 ++ (sc.take i).flatMap (chkLs r.bs os ms)).length ≤ 10000 := by rw [List.length_append]; omega
    have hnx := flat_round2 L1 (chkLs r.bs os ms) hlt rfl
    have hw := hcm _ (List.getElem_mem hlt)
    obtain ⟨hwb, hwi, hwt, hwm, hws⟩ := h.rd.c hw
    obtain ⟨_, hhalf, _, _, hcapb⟩ := valid_bd (h.rd.findD hwb)
    have lm := look_mom (n := os.length) (h.mc _ hw)
    generalize L1 ++ (sc.take i).flatMap (chkLs r.bs os ms) = M at *
    generalize plF ms (cMom sc[i]) = pm at *
    have hF := find_t r sc[i].bal (by omega)
    generalize findD r.bs sc[i].bal = d at *
    conv=>whnf
    refine ⟨i, rfl, hlt, hlt, ?_⟩
    conv=>whnf
    refine call_step hF rfl rfl ?_
    conv=>whnf
    refine ⟨?_, ?_, ?_⟩
    iterate 2 · repeat' (first | exact trivial | exact rfl | refine And.intro ?_ ?_ | ((conv=>whnf); first | exact trivial | exact rfl | refine And.intro ?_ ?_ | omega))
    conv=>whnf
    refine lookKV_step tB_ok 53 3 true false 2 [0] keyMom zeroInt_ok rfl ?_
    conv=>whnf
    refine ⟨_, _, _, rfl, lm, ?_⟩
    conv=>whnf
    refine ⟨sc[i].mass - sc[i].shown, wrapId (z := sc[i].mass - sc[i].shown) ⟨by omega, by omega⟩, ?_⟩
    conv=>whnf
    refine ⟨sc[i].mass - sc[i].shown + d.half, wrapId (z := sc[i].mass - sc[i].shown + d.half) ⟨by omega, by omega⟩, ?_⟩
    conv=>whnf
    refine call_step (lay_t (-1) (os.length + pm) (sc[i].mass - sc[i].shown + d.half) sc[i].id B M (by omega)) rfl rfl ?_
    conv=>whnf
    refine ⟨?_, ?_, ?_⟩
    iterate 2 · repeat' (first | exact trivial | exact rfl | refine And.intro ?_ ?_ | ((conv=>whnf); first | exact trivial | exact rfl | refine And.intro ?_ ?_ | omega))
    conv=>whnf
    refine ⟨sc[i].shown + d.half, wrapId (z := sc[i].shown + d.half) ⟨by omega, by omega⟩, ?_⟩
    conv=>whnf
    refine ⟨sc[i].shown + d.half - sc[i].mass, wrapId (z := sc[i].shown + d.half - sc[i].mass) ⟨by omega, by omega⟩, ?_⟩
    conv=>whnf
    have hb2 : (M ++ [(⟨-1, os.length + pm, sc[i].mass - sc[i].shown + d.half, sc[i].id⟩ : Lnk)]).length ≤ 1000000 := by simp; omega
    refine call_step (lay_t (os.length + pm) (-1) (sc[i].shown + d.half - sc[i].mass) sc[i].id B (M ++ [(⟨-1, os.length + pm, sc[i].mass - sc[i].shown + d.half, sc[i].id⟩ : Lnk)]) hb2) rfl rfl ?_
    conv=>whnf
    refine ⟨?_, ?_, ?_⟩
    iterate 2 · repeat' (first | exact trivial | exact rfl | refine And.intro ?_ ?_ | ((conv=>whnf); first | exact trivial | exact rfl | refine And.intro ?_ ?_ | omega))
    conv=>whnf
    refine ⟨_, wrapId ⟨by omega, by omega⟩, ?_⟩
    refine ⟨i + 1, hlt, by show sc.length - (i + 1) < sc.length - i; omega, ?_⟩
    dsimp only
    rw [hnx]
    conv=>whnf
    refine ⟨rfl, ?_⟩
    conv=>whnf
    repeat' (first | exact trivial | exact rfl | refine And.intro ?_ ?_ | ((conv=>whnf); first | exact trivial | exact rfl | refine And.intro ?_ ?_ | omega))
  have hie : i = sc.length := by simp at hc; omega
  subst hie
  rw [List.take_length]
  have hL2 : (L1 ++ sc.flatMap (chkLs r.bs os ms)).length ≤ 10000 := by
    have := flat_le2 (chkLs r.bs os ms) (fun _ => Nat.le_refl _) sc
    rw [List.length_append]; omega
  generalize L1 ++ sc.flatMap (chkLs r.bs os ms) = L2 at *
  clear hL1
  conv=>whnf
  -- the links of corrections
  refine loop_step tB_ok (G := Nat) 1 [19] (fun i => [(227, iv .i64 i)]) (fun i => [(10, true, .cells [.s 13 0 B.length 2, .s 20 0 (L2 ++ (ms.take i).flatMap (momLs r os ms)).length 4]), (20, true, .arr (aLink (L2 ++ (ms.take i).flatMap (momLs r os ms))))]) (fun i => i ≤ ms.length) (fun i => ms.length - i) ?_
  conv=>whnf
  refine ⟨⟨0, Nat.zero_le _, ?_⟩, ?_⟩
  · conv=>whnf
    repeat' (first | exact trivial | exact rfl | refine And.intro ?_ ?_ | ((conv=>whnf); first | exact trivial | exact rfl | refine And.intro ?_ ?_ | omega))
    all_goals first | (show aLink L2 = aLink (L2 ++ []); rw [List.append_nil]) | simp
  intro i hi ρ1 t1 hρ1
  conv=>whnf
  refine ⟨fun hc => ?_, fun hc => ?_⟩
  · have hlt : i < ms.length := by simpa using hc
    have hM := flat_le2 (momLs r os ms) (fun _ => Nat.le_refl _) (ms.take i)
    rw [List.length_take] at hM
    have hM2 : (L2 ++ (ms.take i).flatMap (momLs r os ms)).length ≤ 20000 := by rw [List.length_append]; omega
    have hnx := flat_round2 L2 (momLs r os ms) hlt rfl
    have hmm := List.getElem_mem hlt
    have hmo := h.mo _ hmm
    have hmb : hasB r.bs ms[i].bal = true := by unfold momOK at hmo; exact (Bool.and_eq_true _ _ ▸ hmo).1
    obtain ⟨hlo, hhi, _⟩ := side_bd h.rd ms[i] hmb
    have lm := look_mom (n := os.length) hmm
    have hF := shift_t r ms[i] (by omega) (by omega) h.rd.nN
    generalize L2 ++ (ms.take i).flatMap (momLs r os ms) = M at *
    generalize plF ms ms[i] = pm at *
    generalize sideF r ms[i] = d at *
    conv=>whnf
    refine ⟨i, rfl, hlt, hlt, ?_⟩
    conv=>whnf
    refine call_step hF rfl rfl ?_
    conv=>whnf
    refine ⟨?_, ?_, ?_⟩
    iterate 2 · repeat' (first | exact trivial | exact rfl | refine And.intro ?_ ?_ | ((conv=>whnf); first | exact trivial | exact rfl | refine And.intro ?_ ?_ | omega))
    conv=>whnf
    refine lookKV_step tB_ok 53 3 true false 2 [0] keyMom zeroInt_ok rfl ?_
    conv=>whnf
    refine ⟨_, _, _, rfl, lm, ?_⟩
    conv=>whnf
    refine ⟨1, rfl, by decide, ?_⟩
    conv=>whnf
    refine call_step (lay_t (-1) (os.length + pm) d.hi d.hiI B M (by omega)) rfl rfl ?_
    conv=>whnf
    refine ⟨?_, ?_, ?_⟩
    iterate 2 · repeat' (first | exact trivial | exact rfl | refine And.intro ?_ ?_ | ((conv=>whnf); first | exact trivial | exact rfl | refine And.intro ?_ ?_ | omega))
    conv=>whnf
    refine lookKV_step tB_ok 53 3 true false 2 [0] keyMom zeroInt_ok rfl ?_
    conv=>whnf
    refine ⟨_, _, _, rfl, lm, ?_⟩
    conv=>whnf
    refine ⟨-d.lo, (congrArg IntKind.i64.wrap (show (0 : Int) - d.lo = -d.lo by omega)).trans (wrapId ⟨by omega, by omega⟩), ?_⟩
    conv=>whnf
    refine ⟨0, rfl, by decide, ?_⟩
    conv=>whnf
    have hb2 : (M ++ [(⟨-1, os.length + pm, d.hi, d.hiI⟩ : Lnk)]).length ≤ 1000000 := by simp; omega
    refine call_step (lay_t (os.length + pm) (-1) (-d.lo) d.loI B (M ++ [(⟨-1, os.length + pm, d.hi, d.hiI⟩ : Lnk)]) hb2) rfl rfl ?_
    conv=>whnf
    refine ⟨?_, ?_, ?_⟩
    iterate 2 · repeat' (first | exact trivial | exact rfl | refine And.intro ?_ ?_ | ((conv=>whnf); first | exact trivial | exact rfl | refine And.intro ?_ ?_ | omega))
    conv=>whnf
    refine ⟨_, wrapId ⟨by omega, by omega⟩, ?_⟩
    refine ⟨i + 1, hlt, by show ms.length - (i + 1) < ms.length - i; omega, ?_⟩
    dsimp only
    rw [hnx]
    conv=>whnf
    refine ⟨rfl, ?_⟩
    conv=>whnf
    repeat' (first | exact trivial | exact rfl | refine And.intro ?_ ?_ | ((conv=>whnf); first | exact trivial | exact rfl | refine And.intro ?_ ?_ | omega))
  have hie : i = ms.length := by simp at hc; omega
  subst hie
  rw [List.take_length]
  have hL3 : (L2 ++ ms.flatMap (momLs r os ms)).length ≤ 20000 := by
    have := flat_le2 (momLs r os ms) (fun _ => Nat.le_refl _) ms
    rw [List.length_append]; omega
  generalize L2 ++ ms.flatMap (momLs r os ms) = L3 at *
  clear hL2
  conv=>whnf
  -- the links of drifts
  have hd1 : drfLs r.bs os.length 0 (ms.take 1) = [] := by cases ms <;> rfl
  refine loop_step tB_ok (G := Nat) 1 [20] (fun i => [(27, iv .i64 i)]) (fun i => [(10, true, .cells [.s 13 0 B.length 2, .s 21 0 (L3 ++ drfLs r.bs os.length 0 (ms.take i)).length 4]), (21, true, .arr (aLink (L3 ++ drfLs r.bs os.length 0 (ms.take i))))]) (fun i => 1 ≤ i ∧ (i = 1 ∨ i ≤ ms.length)) (fun i => ms.length - i) ?_
  conv=>whnf
  refine ⟨⟨1, ⟨Nat.le_refl _, .inl rfl⟩, ?_⟩, ?_⟩
  · conv=>whnf
    repeat' (first | exact trivial | exact rfl | refine And.intro ?_ ?_ | ((conv=>whnf); first | exact trivial | exact rfl | refine And.intro ?_ ?_ | omega))
    all_goals first | (show aLink L3 = aLink (L3 ++ drfLs r.bs os.length 0 (ms.take 1)); rw [hd1, List.append_nil]) | (show L3.length = (L3 ++ drfLs r.bs os.length 0 (ms.take 1)).length; rw [hd1, List.append_nil])
  rintro i ⟨hi1, hi⟩ ρ1 t1 hρ1
  conv=>whnf
  refine ⟨fun hc => ?_, fun hc => ?_⟩
  · have hlt : i < ms.length := by simpa using hc
    have hM2 : (L3 ++ drfLs r.bs os.length 0 (ms.take i)).length ≤ 40000 := by
      have := drf_le r.bs os.length (ms.take i)
      rw [List.length_take] at this
      rw [List.length_append]; omega
    have hdr := drf_round r.bs os.length hi1 hlt
    obtain ⟨j, rfl⟩ : ∃ j, i = j + 1 := ⟨i - 1, by omega⟩
    have hjl : j < ms.length := by omega
    simp only [Nat.add_sub_cancel] at hdr
    have hDr := h.dr j ms[j] ms[j + 1] (List.getElem?_eq_getElem hjl) (List.getElem?_eq_getElem hlt)
    have la := look_mom (n := os.length) (List.getElem_mem hjl)
    have lb := look_mom (n := os.length) (List.getElem_mem hlt)
    rw [plF_at h.md (List.getElem?_eq_getElem hjl)] at la
    rw [plF_at h.md (List.getElem?_eq_getElem hlt)] at lb
    have hoa := h.mo _ (List.getElem_mem hjl)
    have hob := h.mo _ (List.getElem_mem hlt)
    have hF := find_t r ms[j].bal (by omega)
    generalize hM : L3 ++ drfLs r.bs os.length 0 (ms.take (j + 1)) = M at *
    conv=>whnf
    refine ⟨(j : Nat), by have e : ((j + 1 : Nat) : Int) - 1 = (j : Nat) := by omega
                          rw [e]; exact wrapId (z := (j : Int)) ⟨by omega, by omega⟩, ?_⟩
    conv=>whnf
    refine ⟨j, rfl, hjl, hjl, ?_⟩
    conv=>whnf
    refine ⟨j + 1, rfl, hlt, hlt, ?_⟩
    conv=>whnf
    refine ⟨fun hc => ?_, fun hc => ?_⟩
    · have hab : ms[j].bal = ms[j + 1].bal := by simpa using (show (ms[j].bal == ms[j + 1].bal) = true from hc)
      obtain ⟨d1, d2⟩ := hDr hab
      have hnx : L3 ++ drfLs r.bs os.length 0 (ms.take (j + 1 + 1)) = (M ++ [⟨(os.length : Int) + (j : Nat), (os.length : Int) + ((j + 1 : Nat) : Int), min ((findD r.bs ms[j].bal).dr * (ms[j + 1].tick - ms[j].tick)) 2000000, 0⟩]) ++
          [⟨(os.length : Int) + ((j + 1 : Nat) : Int), (os.length : Int) + (j : Nat), min ((findD r.bs ms[j].bal).dr * (ms[j + 1].tick - ms[j].tick)) 2000000, 0⟩] := by
        rw [hdr, show (ms[j].bal == ms[j + 1].bal) = true by simpa using hab, cond_true, ← List.append_assoc, hM, List.append_assoc]; rfl
      have htk : -1000000 ≤ ms[j + 1].tick - ms[j].tick ∧ ms[j + 1].tick - ms[j].tick ≤ 1000000 := by
        simp only [momOK, Bool.and_eq_true, withinF, decide_eq_true_eq] at hoa hob
        omega
      generalize findD r.bs ms[j].bal = d at *
      conv=>whnf
      refine call_step hF rfl rfl ?_
      conv=>whnf
      refine ⟨?_, ?_, ?_⟩
      iterate 2 · repeat' (first | exact trivial | exact rfl | refine And.intro ?_ ?_ | ((conv=>whnf); first | exact trivial | exact rfl | refine And.intro ?_ ?_ | omega))
      conv=>whnf
      refine ⟨ms[j + 1].tick - ms[j].tick, wrapId (z := ms[j + 1].tick - ms[j].tick) ⟨by omega, by omega⟩, ?_⟩
      conv=>whnf
      refine ⟨d.dr * (ms[j + 1].tick - ms[j].tick), wrapId (z := d.dr * (ms[j + 1].tick - ms[j].tick)) ⟨by omega, by omega⟩, ?_⟩
      conv=>whnf
      generalize min (d.dr * (ms[j + 1].tick - ms[j].tick)) 2000000 = n at *
      refine lookKV_step tB_ok 53 3 true false 2 [0] keyMom zeroInt_ok rfl ?_
      conv=>whnf
      refine ⟨_, _, _, rfl, la, ?_⟩
      conv=>whnf
      refine lookKV_step tB_ok 53 3 true false 2 [0] keyMom zeroInt_ok rfl ?_
      conv=>whnf
      refine ⟨_, _, _, rfl, lb, ?_⟩
      conv=>whnf
      refine call_step (lay_t (os.length + (j : Nat)) (os.length + ((j + 1 : Nat) : Int)) n 0 B M (by omega)) rfl rfl ?_
      conv=>whnf
      refine ⟨?_, ?_, ?_⟩
      iterate 2 · repeat' (first | exact trivial | exact rfl | refine And.intro ?_ ?_ | ((conv=>whnf); first | exact trivial | exact rfl | refine And.intro ?_ ?_ | omega))
      conv=>whnf
      refine lookKV_step tB_ok 53 3 true false 2 [0] keyMom zeroInt_ok rfl ?_
      conv=>whnf
      refine ⟨_, _, _, rfl, lb, ?_⟩
      conv=>whnf
      refine lookKV_step tB_ok 53 3 true false 2 [0] keyMom zeroInt_ok rfl ?_
      conv=>whnf
      refine ⟨_, _, _, rfl, la, ?_⟩
      conv=>whnf
      have hb2 : (M ++ [(⟨os.length + (j : Nat), os.length + ((j + 1 : Nat) : Int), n, 0⟩ : Lnk)]).length ≤ 1000000 := by simp; omega
      refine call_step (lay_t (os.length + ((j + 1 : Nat) : Int)) (os.length + (j : Nat)) n 0 B (M ++ [(⟨os.length + (j : Nat), os.length + ((j + 1 : Nat) : Int), n, 0⟩ : Lnk)]) hb2) rfl rfl ?_
      conv=>whnf
      refine ⟨?_, ?_, ?_⟩
      iterate 2 · repeat' (first | exact trivial | exact rfl | refine And.intro ?_ ?_ | ((conv=>whnf); first | exact trivial | exact rfl | refine And.intro ?_ ?_ | omega))
      conv=>whnf
      refine ⟨_, wrapId ⟨by omega, by omega⟩, ?_⟩
      refine ⟨j + 1 + 1, ⟨by omega, .inr hlt⟩, by show ms.length - (j + 1 + 1) < ms.length - (j + 1); omega, ?_⟩
      dsimp only
      rw [hnx]
      conv=>whnf
      refine ⟨rfl, ?_⟩
      conv=>whnf
      repeat' (first | exact trivial | exact rfl | refine And.intro ?_ ?_ | ((conv=>whnf); first | exact trivial | exact rfl | refine And.intro ?_ ?_ | omega))
    · have hab : (ms[j].bal == ms[j + 1].bal) = false := hc
      have hnx : L3 ++ drfLs r.bs os.length 0 (ms.take (j + 1 + 1)) = M := by rw [hdr, hab, cond_false, List.append_nil, hM]
      conv=>whnf
      refine ⟨_, wrapId ⟨by omega, by omega⟩, ?_⟩
      refine ⟨j + 1 + 1, ⟨by omega, .inr hlt⟩, by show ms.length - (j + 1 + 1) < ms.length - (j + 1); omega, ?_⟩
      dsimp only
      rw [hnx]
      conv=>whnf
      refine ⟨rfl, ?_⟩
      conv=>whnf
      repeat' (first | exact trivial | exact rfl | refine And.intro ?_ ?_ | ((conv=>whnf); first | exact trivial | exact rfl | refine And.intro ?_ ?_ | omega))
  have hil : ms.length ≤ i := by simp at hc; omega
  rw [List.take_of_length_le hil]
  have hL4 : (L3 ++ drfLs r.bs os.length 0 ms).length ≤ 40000 := by
    have := drf_le r.bs os.length ms
    rw [List.length_append]; omega
  generalize L3 ++ drfLs r.bs os.length 0 ms = L4 at *
  clear hL3 hd1
  -- the links of covers and of dry samples
  conv=>whnf
  refine bs_step tB_ok (aSpan [(1, 2), (3, 4)]) rfl rfl ?_
  conv=>whnf
  refine ⟨⟨rfl, (by repeat' (first | exact trivial | exact rfl | refine And.intro ?_ ?_ | ((conv=>whnf); first | exact trivial | exact rfl | refine And.intro ?_ ?_ | omega)))⟩, ?_⟩
  conv=>whnf
  refine loop_step tB_ok (G := Nat × List Lnk) 1 [21] (fun g => [(348, iv .i64 g.1)]) (fun g => [(10, true, .cells [.s 13 0 B.length 2, .s 23 0 g.2.length 4]), (23, true, .arr (aLink g.2))])
    (fun g => (g.1 = 0 ∧ g.2 = L4) ∨ (g.1 = 1 ∧ g.2 = L4 ++ os.flatMap (cvrLs os 1 2)) ∨ (g.1 = 2 ∧ g.2 = (L4 ++ os.flatMap (cvrLs os 1 2)) ++ os.flatMap (cvrLs os 3 4))) (fun g => 2 - g.1) ?_
  conv=>whnf
  refine ⟨⟨(0, L4), .inl ⟨rfl, rfl⟩, ?_⟩, ?_⟩
  · conv=>whnf
    repeat' (first | exact trivial | exact rfl | refine And.intro ?_ ?_ | ((conv=>whnf); first | exact trivial | exact rfl | refine And.intro ?_ ?_ | omega))
  rintro ⟨p, M0⟩ hp ρ1 t1 hρ1
  have hp : (p = 0 ∧ M0 = L4) ∨ (p = 1 ∧ M0 = L4 ++ os.flatMap (cvrLs os 1 2)) ∨ (p = 2 ∧ M0 = (L4 ++ os.flatMap (cvrLs os 1 2)) ++ os.flatMap (cvrLs os 3 4)) := hp
  dsimp only
  rcases hp with ⟨rfl, hM0⟩ | ⟨rfl, hM0⟩ | ⟨rfl, hM0⟩
  · have hl0 : M0.length ≤ 40000 := by rw [hM0]; exact hL4
    conv=>whnf
    refine ⟨fun hc => ?_, fun hc => absurd (show decide (((0 : Nat) : Int) < 2) = false from hc) (by decide)⟩
    conv=>whnf
    refine ⟨0, rfl, by decide, by show 0 < 2; decide, ?_⟩
    conv=>whnf
    refine loop_step tB_ok (G := Nat) 1 [23] (fun i => [(357, iv .i64 i)]) (fun i => [(10, true, .cells [.s 13 0 B.length 2, .s 25 0 (M0 ++ (os.take i).flatMap (cvrLs os 1 2)).length 4]), (25, true, .arr (aLink (M0 ++ (os.take i).flatMap (cvrLs os 1 2))))]) (fun i => i ≤ os.length) (fun i => os.length - i) ?_
    conv=>whnf
    refine ⟨⟨0, Nat.zero_le _, ?_⟩, ?_⟩
    · conv=>whnf
      repeat' (first | exact trivial | exact rfl | refine And.intro ?_ ?_ | ((conv=>whnf); first | exact trivial | exact rfl | refine And.intro ?_ ?_ | omega))
      all_goals first | (show aLink M0 = aLink (M0 ++ []); rw [List.append_nil]) | simp
    intro i hi ρ2 t2 hρ2
    conv=>whnf
    refine ⟨fun hc => ?_, fun hc => ?_⟩
    · have hlt : i < os.length := by simpa using hc
      have hM2 : (M0 ++ (os.take i).flatMap (cvrLs os 1 2)).length ≤ 60000 := by
        have := flat_le2 (cvrLs os 1 2) (fun o => Nat.le_succ_of_le (cvr_len os 1 2 o)) (os.take i)
        rw [List.length_take] at this
        rw [List.length_append]; omega
      have hfr : ∀ b, cvrLs os 1 2 os[i] = b → M0 ++ (os.take (i + 1)).flatMap (cvrLs os 1 2) = (M0 ++ (os.take i).flatMap (cvrLs os 1 2)) ++ b := fun b hb => flat_round M0 (cvrLs os 1 2) hlt hb
      have hcv : cvrLs os 1 2 os[i] = bif os[i].st == 2 && os.contains { os[i] with st := 1 } then [⟨plF os { os[i] with st := 1 }, plF os os[i], 0, 0⟩] else [] := rfl
      have lo := look_obj (List.getElem_mem hlt)
      generalize M0 ++ (os.take i).flatMap (cvrLs os 1 2) = M at *
      conv=>whnf
      refine ⟨i, rfl, hlt, hlt, ?_⟩
      conv=>whnf
      refine ⟨1, rfl, by decide, ?_⟩
      conv=>whnf
      refine ⟨fun hc => ?_, fun hc => ?_⟩
      · have h1 : (os[i].st == 2) = false := by
          have : (os[i].st != 2) = true := hc
          simpa using this
        rw [h1, Bool.false_and, cond_false] at hcv
        have hnx := hfr [] hcv
        rw [List.append_nil] at hnx
        conv=>whnf
        refine ⟨_, wrapId ⟨by omega, by omega⟩, ?_⟩
        refine ⟨i + 1, hlt, by show os.length - (i + 1) < os.length - i; omega, ?_⟩
        dsimp only
        rw [hnx]
        conv=>whnf
        refine ⟨rfl, ?_⟩
        conv=>whnf
        repeat' (first | exact trivial | exact rfl | refine And.intro ?_ ?_ | ((conv=>whnf); first | exact trivial | exact rfl | refine And.intro ?_ ?_ | omega))
      · have h1 : (os[i].st == 2) = true := by
          have : (os[i].st != 2) = false := hc
          simpa using this
        rw [h1, Bool.true_and] at hcv
        conv=>whnf
        refine ⟨0, rfl, by decide, ?_⟩
        conv=>whnf
        refine lookKV_step tB_ok 30 3 true false 4 [0] keyThg zeroInt_ok rfl ?_
        conv=>whnf
        by_cases hm : ({ os[i] with st := 1 } : Thg) ∈ os
        · rw [show os.contains { os[i] with st := 1 } = true by simpa using hm, cond_true] at hcv
          have hnx := hfr _ hcv
          have lw := look_obj hm
          generalize plF os { os[i] with st := 1 } = pw at *
          generalize plF os os[i] = po at *
          refine ⟨_, _, _, rfl, lw, ?_⟩
          conv=>whnf
          refine ⟨fun hc => ?_, fun hc => absurd hc (by simp)⟩
          conv=>whnf
          refine lookKV_step tB_ok 30 3 true false 4 [0] keyThg zeroInt_ok rfl ?_
          conv=>whnf
          refine ⟨_, _, _, rfl, lo, ?_⟩
          conv=>whnf
          refine call_step (lay_t pw po 0 0 B M (by omega)) rfl rfl ?_
          conv=>whnf
          refine ⟨?_, ?_, ?_⟩
          iterate 2 · repeat' (first | exact trivial | exact rfl | refine And.intro ?_ ?_ | ((conv=>whnf); first | exact trivial | exact rfl | refine And.intro ?_ ?_ | omega))
          conv=>whnf
          refine ⟨_, wrapId ⟨by omega, by omega⟩, ?_⟩
          refine ⟨i + 1, hlt, by show os.length - (i + 1) < os.length - i; omega, ?_⟩
          dsimp only
          rw [hnx]
          conv=>whnf
          refine ⟨rfl, ?_⟩
          conv=>whnf
          repeat' (first | exact trivial | exact rfl | refine And.intro ?_ ?_ | ((conv=>whnf); first | exact trivial | exact rfl | refine And.intro ?_ ?_ | omega))
        · rw [show os.contains { os[i] with st := 1 } = false by simpa using hm, cond_false] at hcv
          have hnx := hfr [] hcv
          rw [List.append_nil] at hnx
          refine ⟨_, _, _, rfl, look_noobj hm, ?_⟩
          conv=>whnf
          refine ⟨fun hc => absurd hc (by simp), fun hc => ?_⟩
          conv=>whnf
          refine ⟨_, wrapId ⟨by omega, by omega⟩, ?_⟩
          refine ⟨i + 1, hlt, by show os.length - (i + 1) < os.length - i; omega, ?_⟩
          dsimp only
          rw [hnx]
          conv=>whnf
          refine ⟨rfl, ?_⟩
          conv=>whnf
          repeat' (first | exact trivial | exact rfl | refine And.intro ?_ ?_ | ((conv=>whnf); first | exact trivial | exact rfl | refine And.intro ?_ ?_ | omega))
    have hie : i = os.length := by simp at hc; omega
    subst hie
    rw [List.take_length]
    have hM3 : (M0 ++ os.flatMap (cvrLs os 1 2)).length ≤ 50000 := by
      have := flat_le2 (cvrLs os 1 2) (fun o => Nat.le_succ_of_le (cvr_len os 1 2 o)) os
      rw [List.length_append]; omega
    conv=>whnf
    refine ⟨1, rfl, ?_⟩
    refine ⟨(1, M0 ++ os.flatMap (cvrLs os 1 2)), .inr (.inl ⟨rfl, by rw [hM0]⟩), by show 2 - 1 < 2 - 0; decide, ?_⟩
    conv=>whnf
    refine ⟨rfl, ?_⟩
    conv=>whnf
    repeat' (first | exact trivial | exact rfl | refine And.intro ?_ ?_ | ((conv=>whnf); first | exact trivial | exact rfl | refine And.intro ?_ ?_ | omega))
  · have hl0 : M0.length ≤ 50000 := by
      rw [hM0, List.length_append]
      have := flat_le2 (cvrLs os 1 2) (fun o => Nat.le_succ_of_le (cvr_len os 1 2 o)) os
      omega
    conv=>whnf
    refine ⟨fun hc => ?_, fun hc => absurd (show decide (((1 : Nat) : Int) < 2) = false from hc) (by decide)⟩
    conv=>whnf
    refine ⟨1, rfl, by decide, by show 1 < 2; decide, ?_⟩
    conv=>whnf
    refine loop_step tB_ok (G := Nat) 1 [23] (fun i => [(357, iv .i64 i)]) (fun i => [(10, true, .cells [.s 13 0 B.length 2, .s 25 0 (M0 ++ (os.take i).flatMap (cvrLs os 3 4)).length 4]), (25, true, .arr (aLink (M0 ++ (os.take i).flatMap (cvrLs os 3 4))))]) (fun i => i ≤ os.length) (fun i => os.length - i) ?_
    conv=>whnf
    refine ⟨⟨0, Nat.zero_le _, ?_⟩, ?_⟩
    · conv=>whnf
      repeat' (first | exact trivial | exact rfl | refine And.intro ?_ ?_ | ((conv=>whnf); first | exact trivial | exact rfl | refine And.intro ?_ ?_ | omega))
      all_goals first | (show aLink M0 = aLink (M0 ++ []); rw [List.append_nil]) | simp
    intro i hi ρ2 t2 hρ2
    conv=>whnf
    refine ⟨fun hc => ?_, fun hc => ?_⟩
    · have hlt : i < os.length := by simpa using hc
      have hM2 : (M0 ++ (os.take i).flatMap (cvrLs os 3 4)).length ≤ 60000 := by
        have := flat_le2 (cvrLs os 3 4) (fun o => Nat.le_succ_of_le (cvr_len os 3 4 o)) (os.take i)
        rw [List.length_take] at this
        rw [List.length_append]; omega
      have hfr : ∀ b, cvrLs os 3 4 os[i] = b → M0 ++ (os.take (i + 1)).flatMap (cvrLs os 3 4) = (M0 ++ (os.take i).flatMap (cvrLs os 3 4)) ++ b := fun b hb => flat_round M0 (cvrLs os 3 4) hlt hb
      have hcv : cvrLs os 3 4 os[i] = bif os[i].st == 4 && os.contains { os[i] with st := 3 } then [⟨plF os { os[i] with st := 3 }, plF os os[i], 0, 0⟩] else [] := rfl
      have lo := look_obj (List.getElem_mem hlt)
      generalize M0 ++ (os.take i).flatMap (cvrLs os 3 4) = M at *
      conv=>whnf
      refine ⟨i, rfl, hlt, hlt, ?_⟩
      conv=>whnf
      refine ⟨1, rfl, by decide, ?_⟩
      conv=>whnf
      refine ⟨fun hc => ?_, fun hc => ?_⟩
      · have h1 : (os[i].st == 4) = false := by
          have : (os[i].st != 4) = true := hc
          simpa using this
        rw [h1, Bool.false_and, cond_false] at hcv
        have hnx := hfr [] hcv
        rw [List.append_nil] at hnx
        conv=>whnf
        refine ⟨_, wrapId ⟨by omega, by omega⟩, ?_⟩
        refine ⟨i + 1, hlt, by show os.length - (i + 1) < os.length - i; omega, ?_⟩
        dsimp only
        rw [hnx]
        conv=>whnf
        refine ⟨rfl, ?_⟩
        conv=>whnf
        repeat' (first | exact trivial | exact rfl | refine And.intro ?_ ?_ | ((conv=>whnf); first | exact trivial | exact rfl | refine And.intro ?_ ?_ | omega))
      · have h1 : (os[i].st == 4) = true := by
          have : (os[i].st != 4) = false := hc
          simpa using this
        rw [h1, Bool.true_and] at hcv
        conv=>whnf
        refine ⟨0, rfl, by decide, ?_⟩
        conv=>whnf
        refine lookKV_step tB_ok 30 3 true false 4 [0] keyThg zeroInt_ok rfl ?_
        conv=>whnf
        by_cases hm : ({ os[i] with st := 3 } : Thg) ∈ os
        · rw [show os.contains { os[i] with st := 3 } = true by simpa using hm, cond_true] at hcv
          have hnx := hfr _ hcv
          have lw := look_obj hm
          generalize plF os { os[i] with st := 3 } = pw at *
          generalize plF os os[i] = po at *
          refine ⟨_, _, _, rfl, lw, ?_⟩
          conv=>whnf
          refine ⟨fun hc => ?_, fun hc => absurd hc (by simp)⟩
          conv=>whnf
          refine lookKV_step tB_ok 30 3 true false 4 [0] keyThg zeroInt_ok rfl ?_
          conv=>whnf
          refine ⟨_, _, _, rfl, lo, ?_⟩
          conv=>whnf
          refine call_step (lay_t pw po 0 0 B M (by omega)) rfl rfl ?_
          conv=>whnf
          refine ⟨?_, ?_, ?_⟩
          iterate 2 · repeat' (first | exact trivial | exact rfl | refine And.intro ?_ ?_ | ((conv=>whnf); first | exact trivial | exact rfl | refine And.intro ?_ ?_ | omega))
          conv=>whnf
          refine ⟨_, wrapId ⟨by omega, by omega⟩, ?_⟩
          refine ⟨i + 1, hlt, by show os.length - (i + 1) < os.length - i; omega, ?_⟩
          dsimp only
          rw [hnx]
          conv=>whnf
          refine ⟨rfl, ?_⟩
          conv=>whnf
          repeat' (first | exact trivial | exact rfl | refine And.intro ?_ ?_ | ((conv=>whnf); first | exact trivial | exact rfl | refine And.intro ?_ ?_ | omega))
        · rw [show os.contains { os[i] with st := 3 } = false by simpa using hm, cond_false] at hcv
          have hnx := hfr [] hcv
          rw [List.append_nil] at hnx
          refine ⟨_, _, _, rfl, look_noobj hm, ?_⟩
          conv=>whnf
          refine ⟨fun hc => absurd hc (by simp), fun hc => ?_⟩
          conv=>whnf
          refine ⟨_, wrapId ⟨by omega, by omega⟩, ?_⟩
          refine ⟨i + 1, hlt, by show os.length - (i + 1) < os.length - i; omega, ?_⟩
          dsimp only
          rw [hnx]
          conv=>whnf
          refine ⟨rfl, ?_⟩
          conv=>whnf
          repeat' (first | exact trivial | exact rfl | refine And.intro ?_ ?_ | ((conv=>whnf); first | exact trivial | exact rfl | refine And.intro ?_ ?_ | omega))
    have hie : i = os.length := by simp at hc; omega
    subst hie
    rw [List.take_length]
    have hM3 : (M0 ++ os.flatMap (cvrLs os 3 4)).length ≤ 60000 := by
      have := flat_le2 (cvrLs os 3 4) (fun o => Nat.le_succ_of_le (cvr_len os 3 4 o)) os
      rw [List.length_append]; omega
    conv=>whnf
    refine ⟨2, rfl, ?_⟩
    refine ⟨(2, M0 ++ os.flatMap (cvrLs os 3 4)), .inr (.inr ⟨rfl, by rw [hM0]⟩), by show 2 - 2 < 2 - 1; decide, ?_⟩
    conv=>whnf
    refine ⟨rfl, ?_⟩
    conv=>whnf
    repeat' (first | exact trivial | exact rfl | refine And.intro ?_ ?_ | ((conv=>whnf); first | exact trivial | exact rfl | refine And.intro ?_ ?_ | omega))
  · rw [← hM0]
    conv=>whnf
    refine ⟨fun hc => absurd (show decide (((2 : Nat) : Int) < 2) = true from hc) (by decide), fun hc => ?_⟩
    conv=>whnf
    repeat' (first | exact trivial | exact rfl | refine And.intro ?_ ?_ | ((conv=>whnf); first | exact trivial | exact rfl | refine And.intro ?_ ?_ | omega))

end Go.Proofs

/-
  Plain lemmas, part 12: a place that was changed in a late round leads back into a cycle with a negative sum. Conditions: none; definitions and plain lemmas.
-/
namespace Go
namespace Proofs

def wsum (f : Nat → Int) : Nat → Int
  | 0 => 0
  | m + 1 => wsum f m + f m

structure Cyc (n : Nat) (arcs : List Lnk) (T : Tr) (v : Nat) (P kk : Nat → Nat) (M : Nat) : Prop where
  start : P 0 = v
  le : ∀ m, P m ≤ n
  lst : ∀ m, T.last[P m]? = some ((kk m : Nat) : Int)
  bef : ∀ m, befF n arcs (kk m) = some (P (m + 1))
  lnk : ∀ m, ∃ l, arcs[kk m / 2]? = some l ∧ plc n l.t = P m ∧ plc n l.f = P (m + 1)
  pos : 1 ≤ M
  len : M ≤ n + 1
  per : P (n + 1 + M) = P (n + 1)
  low : ∀ m, 1 ≤ m → m < M → P (n + 1 + m) ≠ P (n + 1)
  nodup : ((List.range M).map fun m => P (n + 1 + m)).Nodup
  neg : wsum (fun m => (arcs.getD (kk (n + 1 + m) / 2) ⟨0, 0, 0, 0⟩).m) M < 0

theorem least (p : Nat → Prop) (h : ∃ m, 1 ≤ m ∧ p m) : ∃ m, 1 ≤ m ∧ p m ∧ ∀ k, 1 ≤ k → k < m → ¬ p k := by
  obtain ⟨m, hm⟩ := h
  induction m using Nat.strongRecOn with
  | ind m ih =>
    by_cases hk : ∃ k, k < m ∧ 1 ≤ k ∧ p k
    · obtain ⟨k, h1, h2⟩ := hk
      exact ih k h1 h2
    · exact ⟨m, hm.1, hm.2, fun k h1 h2 h3 => hk ⟨k, h2, h1, h3⟩⟩

theorem cyc_of {n : Nat} {arcs : List Lnk} {src : Nat} (hok : ∀ l ∈ arcs, ArcOK n l) (hs : src ≤ n) (h : (shortF n noR arcs src).2 ≠ -1) :
    ∃ v P kk M, (shortF n noR arcs src).2 = ((v : Nat) : Int) ∧ v ≤ n ∧ Cyc n arcs (shortF n noR arcs src).1 v P kk M := by
  have hE := edgs_ok (rev := noR) hok
  have hG := edgs_key (n := n) (rev := noR) (arcs := arcs)
  obtain ⟨ts, r, hB, hr⟩ := BF.rounds (n := n) (rev := noR) (arcs := arcs) rfl hE (n + 2) 0 _ _ (BF.start hs)
  have hr : ∃ v, v < n + 1 ∧ (shortF n noR arcs src).2 = ((v : Nat) : Int) ∧ (0 + (n + 2)) * (edgs n noR 0 arcs).length + 1 ≤ ts v := by
    rcases hr with hr | hr
    · exact absurd hr.1 h
    · exact hr
  obtain ⟨v, hv, hch, hts⟩ := hr
  have hB : BF (edgs n noR 0 arcs) (n + 1) src r 0 ts (shortF n noR arcs src).1 := hB
  generalize (shortF n noR arcs src).1 = T at *
  rw [Nat.zero_add] at hts
  have hc := hB.chain hE hG hv hts
  obtain ⟨P, hP⟩ : ∃ P, P = backN (keyE n arcs) T v := ⟨_, rfl⟩
  rw [← hP] at hc
  have hstep : ∀ m, P (m + 1) = backF (keyE n arcs) T (P m) := fun m => by rw [hP]; rfl
  obtain ⟨i, j, hij, hj, he⟩ := pigeon (n + 1) P (fun i hi => (hc i (by omega)).1)
  have hshift : ∀ t, P (i + t) = P (j + t) := by
    intro t
    induction t with
    | zero => exact he
    | succ t ih => rw [show i + (t + 1) = i + t + 1 from rfl, show j + (t + 1) = j + t + 1 from rfl, hstep, hstep, ih]
  have hall : ∀ m, P m < n + 1 ∧ T.last.getD (P m) (-1) ≠ -1 := by
    intro m
    induction m using Nat.strongRecOn with
    | ind m ih =>
      by_cases hm : m ≤ n + 2
      · exact ⟨(hc m hm).1, (hc m hm).2.2⟩
      · have e : P m = P (m - (j - i)) := by
          have := hshift (m - j)
          rw [show i + (m - j) = m - (j - i) from by omega, show j + (m - j) = m from by omega] at this
          exact this.symm
        rw [e]
        exact ih _ (by omega)
  have hback := fun m => hB.back hG (hall m).1 (hall m).2
  obtain ⟨kk, hkk⟩ : ∃ kk : Nat → Nat, ∀ m, kk m = (T.last.getD (P m) (-1)).toNat := ⟨fun m => (T.last.getD (P m) (-1)).toNat, fun m => rfl⟩
  have hkk2 : ∀ m, T.last.getD (P m) (-1) = ((kk m : Nat) : Int) := by
    intro m
    obtain ⟨g1, g2, _⟩ := hback m
    have := (hE _ g1).2.2
    rw [g2] at this
    rw [hkk]; omega
  have hkey : ∀ m, keyE n arcs (kk m) ∈ edgs n noR 0 arcs ∧ (keyE n arcs (kk m)).k = (kk m : Int) ∧ (keyE n arcs (kk m)).b = P m ∧ (keyE n arcs (kk m)).a = P (m + 1) := by
    intro m
    obtain ⟨g1, g2, g3, _⟩ := hback m
    rw [hkk2 m] at g1 g2 g3
    refine ⟨g1, g2, g3, ?_⟩
    rw [hstep]; unfold backF; rw [hkk2 m]
  have hlnk : ∀ m, ∃ l, arcs[kk m / 2]? = some l ∧ plc n l.t = P m ∧ plc n l.f = P (m + 1) ∧ (keyE n arcs (kk m)).w = l.m := by
    intro m
    obtain ⟨h1, h2, h3, h4⟩ := hkey m
    obtain ⟨_, _, l, hl, h5 | h5⟩ := key_befF h1 h2
    · exact ⟨l, hl, by rw [← h5.2.2.1]; exact h3, by rw [← h5.2.1]; exact h4, h5.2.2.2⟩
    · cases h5.2.1
  obtain ⟨M, hM1, hM2, hM3⟩ := least (fun M => P (n + 1 + M) = P (n + 1)) ⟨j - i, by omega, by
    have := hshift (n + 1 - i)
    rw [show i + (n + 1 - i) = n + 1 from by omega, show j + (n + 1 - i) = n + 1 + (j - i) from by omega] at this
    exact this.symm⟩
  have hsh2 : ∀ x y t, P (n + 1 + x) = P (n + 1 + y) → P (n + 1 + x + t) = P (n + 1 + y + t) := by
    intro x y t hxy
    induction t with
    | zero => exact hxy
    | succ t ih => rw [show n + 1 + x + (t + 1) = n + 1 + x + t + 1 from rfl, show n + 1 + y + (t + 1) = n + 1 + y + t + 1 from rfl, hstep, hstep, ih]
  have hnd : ((List.range M).map fun m => P (n + 1 + m)).Nodup := by
    unfold List.Nodup
    rw [List.pairwise_map, List.pairwise_iff_getElem]
    intro x y hx hy hxy hexy
    simp only [List.getElem_range] at hexy
    have hyM : y < M := by simpa using hy
    have := hsh2 x y (M - y) hexy
    rw [show n + 1 + y + (M - y) = n + 1 + M from by omega, hM2, show n + 1 + x + (M - y) = n + 1 + (x + (M - y)) from by omega] at this
    exact hM3 (x + (M - y)) (by omega) (by omega) this
  refine ⟨v, P, kk, M, hch, by omega, ⟨by rw [hP]; rfl, fun m => by have := (hall m).1; omega, fun m => ?_, fun m => ?_, fun m => ?_, hM1, ?_, hM2, hM3, hnd, ?_⟩⟩
  · have hl : P m < T.last.length := by rw [hB.ll]; exact (hall m).1
    rw [← hkk2 m, List.getD_eq_getElem?_getD, List.getElem?_eq_getElem hl]; rfl
  · obtain ⟨h1, h2, h3, h4⟩ := hkey m
    rw [(key_befF h1 h2).2.1, h4]
  · obtain ⟨l, h1, h2, h3, _⟩ := hlnk m
    exact ⟨l, h1, h2, h3⟩
  · have := nodup_len (N := n + 1) hnd (fun x hx => by
      obtain ⟨m, _, rfl⟩ := List.mem_map.1 hx
      exact (hall _).1)
    simpa using this
  · obtain ⟨Q, hQ⟩ : ∃ Q : Nat → Int, ∀ k, Q k = -wsum (fun m => (arcs.getD (kk (n + 1 + m) / 2) ⟨0, 0, 0, 0⟩).m) (k - (n + 1)) := ⟨fun k => -wsum (fun m => (arcs.getD (kk (n + 1 + m) / 2) ⟨0, 0, 0, 0⟩).m) (k - (n + 1)), fun k => rfl⟩
    have hf := hB.fall hG (v := v) (i := n + 1) (m := M) (Q := Q) (fun k _ _ => by rw [← hP]; exact hall k) (fun k h1 h2 => by
      rw [hQ, hQ, show k + 1 - (n + 1) = (k - (n + 1)) + 1 from by omega]
      show _ ≤ -(wsum (fun m => (arcs.getD (kk (n + 1 + m) / 2) ⟨0, 0, 0, 0⟩).m) (k - (n + 1)) + (arcs.getD (kk (n + 1 + (k - (n + 1))) / 2) ⟨0, 0, 0, 0⟩).m) + (keyE n arcs (T.last.getD (backN (keyE n arcs) T v k) (-1))).w
      rw [show n + 1 + (k - (n + 1)) = k from by omega, ← hP, hkk2 k]
      obtain ⟨l, g1, g2, g3, g4⟩ := hlnk k
      rw [g4, List.getD_eq_getElem?_getD, g1]
      simp only [Option.getD_some]
      omega) hM1
    rw [← hP, hM2, hQ, hQ, show n + 1 + M - (n + 1) = M from by omega, Nat.sub_self] at hf
    simp only [wsum] at hf
    rcases hf with hf | hf
    · omega
    · omega

def cycL (n : Nat) (arcs : List Lnk) (kk : Nat → Nat) (m : Nat) : List Lnk := (List.range m).map fun i => arcs.getD (kk (n + 1 + i) / 2) ⟨0, 0, 0, 0⟩

theorem cycL_succ (n : Nat) (arcs : List Lnk) (kk : Nat → Nat) (m : Nat) : cycL n arcs kk (m + 1) = cycL n arcs kk m ++ [arcs.getD (kk (n + 1 + m) / 2) ⟨0, 0, 0, 0⟩] := by
  unfold cycL; rw [List.range_succ, List.map_append]; rfl

end Proofs
end Go

namespace Go.Proofs
open Go.Sx

theorem cycle_t (n : Nat) (arcs : List Lnk) (T : Tr) (v : Nat) (P kk : Nat → Nat) (M : Nat) (hn : n ≤ 1000) (ha : arcs.length ≤ 10000) (hl1 : T.sum.length = n + 1) (hl2 : T.there.length = n + 1) (hl3 : T.last.length = n + 1) (h : Cyc n arcs T v P kk M) :
    Triple Tryz.prog 244 [.c (.p 0 0 0 0), .agg [.s 2 0 (n + 1) 1, .s 3 0 (n + 1) 1, .s 4 0 (n + 1) 1], iv .i64 v]
      [(0, false, .cells [.v (.int .i64 n), .s 1 0 arcs.length 4]), (1, false, .arr (aLink arcs)), (2, false, .arr (aInt T.sum)), (3, false, .arr (aBool T.there)), (4, false, .arr (aInt T.last))] 5
      (.c (.s 5 0 (cycL n arcs kk M).reverse.length 4)) [(5, true, .arr (aLink (cycL n arcs kk M).reverse))] := by
  have hM := h.len
  have hM1 := h.pos
  have bef : ∀ m, Triple Tryz.prog 261 [.c (.p 0 0 0 0), .agg [.s 2 0 (n + 1) 1, .s 3 0 (n + 1) 1, .s 4 0 (n + 1) 1], iv .i64 (P m)]
      [(0, false, .cells [.v (.int .i64 n), .s 1 0 arcs.length 4]), (1, false, .arr (aLink arcs)), (2, false, .arr (aInt T.sum)), (3, false, .arr (aBool T.there)), (4, false, .arr (aInt T.last))] 5 (iv .i64 (P (m + 1))) [] := fun m =>
    before_t n arcs T.last (P m) (kk m) (P (m + 1)) T.sum T.there (n + 1) hn hl3 (h.lst m) (by have := befF_lt (h.bef m); omega) (h.bef m)
  have hP0 := h.start
  subst hP0
  refine triple_of tB_ok Tryz.func244 rfl Tryz.call244 rfl ?_
  intro ρ w hH
  conv=>whnf
  refine ⟨(n : Int) + 1, wrapId (z := (n : Int) + 1) ⟨by omega, by omega⟩, ?_⟩
  conv=>whnf
  refine loop_step tB_ok (G := Nat) 0 [] (fun m => [(14, iv .i64 m), (2, iv .i64 (P m))]) (fun _ => []) (fun m => m ≤ n + 1) (fun m => n + 1 - m) ?_
  conv=>whnf
  refine ⟨⟨0, Nat.zero_le _, ?_⟩, ?_⟩
  · conv=>whnf
    repeat' (first | exact trivial | exact rfl | refine And.intro ?_ ?_ | ((conv=>whnf); first | exact trivial | exact rfl | refine And.intro ?_ ?_ | omega))
  intro m hm ρ1 t1 hρ1
  conv=>whnf
  refine ⟨fun hc => ?_, fun hc => ?_⟩
  · have hlt : m < n + 1 := by have := of_decide_eq_true (show decide ((m : Int) < (n : Int) + 1) = true from hc); omega
    conv=>whnf
    refine call_step (bef m) rfl rfl ?_
    conv=>whnf
    refine ⟨?_, ?_, ?_⟩
    iterate 2 · repeat' (first | exact trivial | exact rfl | refine And.intro ?_ ?_ | ((conv=>whnf); first | exact trivial | exact rfl | refine And.intro ?_ ?_ | omega))
    conv=>whnf
    refine ⟨(m : Int) + 1, wrapId (z := (m : Int) + 1) ⟨by omega, by omega⟩, ?_⟩
    refine ⟨m + 1, hlt, by show n + 1 - (m + 1) < n + 1 - m; omega, ?_⟩
    conv=>whnf
    refine ⟨rfl, ?_⟩
    conv=>whnf
    repeat' (first | exact trivial | exact rfl | refine And.intro ?_ ?_ | ((conv=>whnf); first | exact trivial | exact rfl | refine And.intro ?_ ?_ | omega))
  have hme : m = n + 1 := by have := of_decide_eq_false (show decide ((m : Int) < (n : Int) + 1) = false from hc); omega
  subst hme
  conv=>whnf
  refine loop_step tB_ok (G := Nat × List Lnk) 1 [] (fun g => [(8, iv .i64 (P (n + 1 + g.1))), (7, .c (.s 6 0 g.2.length 4))]) (fun g => [(6, true, .arr (aLink g.2))]) (fun g => g.1 < M ∧ g.2 = cycL n arcs kk g.1) (fun g => M - g.1) ?_
  conv=>whnf
  refine ⟨⟨(0, []), ⟨hM1, rfl⟩, ?_⟩, ?_⟩
  · conv=>whnf
    repeat' (first | exact trivial | exact rfl | refine And.intro ?_ ?_ | ((conv=>whnf); first | exact trivial | exact rfl | refine And.intro ?_ ?_ | omega))
  rintro ⟨i, out⟩ ⟨hi, hout⟩ ρ2 t2 hρ2
  have hi : i < M := hi
  have hout : out = cycL n arcs kk i := hout
  have hol : out.length = i := by rw [hout]; simp [cycL]
  dsimp only
  have hle := h.le (n + 1 + i)
  have hla := h.lst (n + 1 + i)
  have hbe := bef (n + 1 + i)
  have hkl := befF_lt (h.bef (n + 1 + i))
  obtain ⟨hpl, hpe⟩ := List.getElem?_eq_some_iff.1 hla
  have hdiv : IntKind.i64.wrap (Int.tdiv T.last[P (n + 1 + i)] 2) = ((kk (n + 1 + i) / 2 : Nat) : Int) := by rw [hpe]; exact wrapId (z := ((kk (n + 1 + i) / 2 : Nat) : Int)) ⟨by omega, by omega⟩
  have hst := cycL_succ n arcs kk i
  rw [← hout, List.getD_eq_getElem?_getD, List.getElem?_eq_getElem hkl, Option.getD_some] at hst
  have hper := h.per
  have hlow := h.low (i + 1) (by omega)
  have hnext : P (n + 1 + i + 1) = P (n + 1 + (i + 1)) := rfl
  have hfin : i + 1 = M → cycL n arcs kk M = cycL n arcs kk (i + 1) := fun he => by rw [he]
  obtain ⟨j, hj⟩ : ∃ j, j = kk (n + 1 + i) / 2 := ⟨_, rfl⟩
  simp only [← hj] at hdiv hkl hst
  clear hla
  conv=>whnf
  refine ⟨P (n + 1 + i), rfl, by omega, hpl, ?_⟩
  conv=>whnf
  refine ⟨by decide, (j : Int), hdiv, ?_⟩
  conv=>whnf
  refine ⟨j, rfl, hkl, hkl, ?_⟩
  conv=>whnf
  refine bs_step tB_ok (aLink [arcs[j]]) rfl rfl ?_
  conv=>whnf
  refine ⟨⟨rfl, ⟨rfl, rfl, rfl, rfl, trivial⟩⟩, ?_⟩
  conv=>whnf
  refine app_step tB_ok (aLink out) [arcs[j]] (fun _ => rfl) rfl rfl rfl rfl ?_
  conv=>whnf
  refine ⟨⟨rfl, rfl, Nat.le_refl _, Nat.le_refl _, by show (out.length + 1) * 33 ≤ _; omega⟩, ?_⟩
  conv=>whnf
  refine call_step hbe rfl rfl ?_
  conv=>whnf
  refine ⟨?_, ?_, ?_⟩
  iterate 2 · repeat' (first | exact trivial | exact rfl | refine And.intro ?_ ?_ | ((conv=>whnf); first | exact trivial | exact rfl | refine And.intro ?_ ?_ | omega))
  conv=>whnf
  refine ⟨fun hc => ?_, fun hc => ?_⟩
  · have he : P (n + 1 + i + 1) = P (n + 1) := by
      have := (show ((P (n + 1 + i + 1) : Int) == ((P (n + 1) : Nat) : Int)) = true from hc)
      simp at this; omega
    have hie : i + 1 = M := by
      rcases Nat.lt_or_ge (i + 1) M with hlt | hge
      · exact absurd he (hlow hlt)
      · omega
    have hfin := hfin hie
    rw [hst] at hfin
    have hrv : Triple Tryz.prog 262 [.c (.s 0 0 (out.length + 1) 4)] [(0, true, .arr (aLink (List.take out.length out ++ List.take 1 (List.drop 0 [arcs[j]]))))] 1 (.tup []) [(0, true, .arr (aLink (out ++ [arcs[j]]).reverse))] := by
      have h1 : (out ++ [arcs[j]]).length = out.length + 1 := by simp
      have := reverse_t (out ++ [arcs[j]]) (by omega)
      rw [app1]
      rwa [h1] at this
    conv=>whnf
    rw [hfin]
    refine call_step hrv rfl rfl ?_
    conv=>whnf
    refine ⟨?_, ?_, ?_⟩
    iterate 2 · repeat' (first | exact trivial | exact rfl | refine And.intro ?_ ?_ | ((conv=>whnf); first | exact trivial | exact rfl | refine And.intro ?_ ?_ | omega))
    conv=>whnf
    repeat' (first | exact trivial | exact rfl | refine And.intro ?_ ?_ | ((conv=>whnf); first | exact trivial | exact rfl | refine And.intro ?_ ?_ | omega))
    all_goals simp
  · have he : P (n + 1 + i + 1) ≠ P (n + 1) := by
      have := (show ((P (n + 1 + i + 1) : Int) == ((P (n + 1) : Nat) : Int)) = false from hc)
      simp at this; omega
    have hlt : i + 1 < M := by
      rcases Nat.lt_or_ge (i + 1) M with hlt | hge
      · exact hlt
      · exfalso
        have : i + 1 = M := by omega
        rw [hnext, this] at he
        exact he hper
    conv=>whnf
    refine ⟨(i + 1, out ++ [arcs[j]]), ⟨hlt, hst.symm⟩, by show M - (i + 1) < M - i; omega, ?_⟩
    conv=>whnf
    refine ⟨rfl, ?_⟩
    conv=>whnf
    repeat' (first | exact trivial | exact rfl | refine And.intro ?_ ?_ | ((conv=>whnf); first | exact trivial | exact rfl | refine And.intro ?_ ?_ | omega))
    all_goals first | exact (congrArg aLink app1 : _) | simp

theorem clash_t (n : Nat) (arcs : List Lnk) (v : Nat) (P kk : Nat → Nat) (M : Nat) (hn : n ≤ 1000) (hl : arcs.length ≤ 10000) (hok : ∀ l ∈ arcs, ArcOK n l) (hch : (shortF n noRev arcs n).2 = ((v : Nat) : Int)) (h : Cyc n arcs (shortF n noRev arcs n).1 v P kk M) :
    Triple Tryz.prog 205 [.c (.p 0 0 0 0)] (graphH n arcs) 2 (.tup [.inl (.s 2 0 (cycL n arcs kk M).reverse.length 4), .inl (.b true)]) [(2, true, .arr (aLink (cycL n arcs kk M).reverse))] := by
  have hlen := shortF_len n noRev arcs n hok
  obtain ⟨hl1, hl2, hl3⟩ := hlen
  refine triple_of tB_ok Tryz.func205 rfl Tryz.call205 rfl ?_
  intro ρ w hH
  conv=>whnf
  refine call_step (plain_t n arcs n hn hl hok (Nat.le_refl _)) rfl rfl ?_
  conv=>whnf
  refine ⟨?_, ?_, ?_⟩
  iterate 2 · repeat' (first | exact trivial | exact rfl | refine And.intro ?_ ?_ | ((conv=>whnf); first | exact trivial | exact rfl | refine And.intro ?_ ?_ | omega))
  conv=>whnf
  rw [hch]
  generalize (shortF n noRev arcs n).1 = T at *
  refine ⟨fun hc => ?_, fun hc => ?_⟩
  · have := (show ((v : Int) == -1) = true from hc)
    simp at this
  conv=>whnf
  refine call_step (cycle_t n arcs T v P kk M hn hl hl1 hl2 hl3 h) rfl rfl ?_
  conv=>whnf
  refine ⟨?_, ?_, ?_⟩
  iterate 2 · repeat' (first | exact trivial | exact rfl | refine And.intro ?_ ?_ | ((conv=>whnf); first | exact trivial | exact rfl | refine And.intro ?_ ?_ | omega))
  conv=>whnf
  repeat' (first | exact trivial | exact rfl | refine And.intro ?_ ?_ | ((conv=>whnf); first | exact trivial | exact rfl | refine And.intro ?_ ?_ | omega))

theorem conflictYes_t (bs : List (Int × Int)) (ls : List Lnk) (v : Nat) (P kk : Nat → Nat) (M : Nat) (hs : SysOK bs ls) (hch : (shortF bs.length noRev (graphF bs ls 0) bs.length).2 = ((v : Nat) : Int)) (h : Cyc bs.length (graphF bs ls 0) (shortF bs.length noRev (graphF bs ls 0) bs.length).1 v P kk M) :
    Triple Tryz.prog 143 [sysA bs.length ls.length] (sysH bs ls) 2 (.tup [.inl (.s 2 0 (cycL bs.length (graphF bs ls 0) kk M).reverse.length 4), .inl (.b true), .inl (.v (.int .i64 0))]) [(2, true, .arr (aLink (cycL bs.length (graphF bs ls 0) kk M).reverse))] := by
  have hnb := hs.nb
  have hnl := hs.nl
  have hgl := graphF_len hs 0
  refine triple_of tB_ok Tryz.func143 rfl Tryz.call143 rfl ?_
  intro ρ w hH
  conv=>whnf
  refine call_step (check_t bs ls (by omega) (by omega)) rfl rfl ?_
  conv=>whnf
  refine ⟨?_, ?_, ?_⟩
  iterate 2 · repeat' (first | exact trivial | exact rfl | refine And.intro ?_ ?_ | ((conv=>whnf); first | exact trivial | exact rfl | refine And.intro ?_ ?_ | omega))
  conv=>whnf
  rw [checkF_ok.2 hs]
  refine ⟨fun hc => absurd hc (by simp), fun hc => ?_⟩
  conv=>whnf
  refine call_step (graphOf_t bs ls 0 (by omega) hs.boxB (by omega)) rfl rfl ?_
  conv=>whnf
  refine ⟨?_, ?_, ?_⟩
  iterate 2 · repeat' (first | exact trivial | exact rfl | refine And.intro ?_ ?_ | ((conv=>whnf); first | exact trivial | exact rfl | refine And.intro ?_ ?_ | omega))
  conv=>whnf
  refine call_step (clash_t bs.length (graphF bs ls 0) v P kk M (by omega) (by omega) (graphF_ok hs 0) hch h) rfl rfl ?_
  conv=>whnf
  refine ⟨?_, ?_, ?_⟩
  iterate 2 · repeat' (first | exact trivial | exact rfl | refine And.intro ?_ ?_ | ((conv=>whnf); first | exact trivial | exact rfl | refine And.intro ?_ ?_ | omega))
  conv=>whnf
  repeat' (first | exact trivial | exact rfl | refine And.intro ?_ ?_ | ((conv=>whnf); first | exact trivial | exact rfl | refine And.intro ?_ ?_ | omega))

end Go.Proofs

namespace Go.Proofs
open Go.Sx

end Go.Proofs

namespace Go.Proofs
open Go.Sx

end Go.Proofs

namespace Go.Proofs
open Go.Sx

theorem newClash_t (bs : List (Int × Int)) (ls : List Lnk) (hs : SysOK bs ls) (h : ¬ Calm bs ls 0) :
    Triple Tryz.prog 71 [sysA bs.length ls.length] (sysH bs ls) 2 (.tup [.inl (.v (.pointer none)), .inl (.v (.int .i64 9))]) [] := by
  obtain ⟨v, P, kk, M, hch, hv, hcy⟩ := cyc_of (graphF_ok hs 0) (Nat.le_refl _) h
  have hce := conflictYes_t bs ls v P kk M hs hch hcy
  refine triple_of tB_ok Tryz.func71 rfl Tryz.call71 rfl ?_
  intro ρ w hH
  conv=>whnf
  refine call_step hce rfl rfl ?_
  conv=>whnf
  refine ⟨?_, ?_, ?_⟩
  iterate 2 · repeat' (first | exact trivial | exact rfl | refine And.intro ?_ ?_ | ((conv=>whnf); first | exact trivial | exact rfl | refine And.intro ?_ ?_ | omega))
  conv=>whnf
  refine ⟨fun hc => absurd hc (by simp), fun hc => ?_⟩
  conv=>whnf
  repeat' (first | exact trivial | exact rfl | refine And.intro ?_ ?_ | ((conv=>whnf); first | exact trivial | exact rfl | refine And.intro ?_ ?_ | omega))

end Go.Proofs

