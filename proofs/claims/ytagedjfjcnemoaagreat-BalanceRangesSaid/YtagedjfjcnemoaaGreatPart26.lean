/-
  A part of the proof that a law answers true: lemmas of a symbolic walk, plain functions, or contracts of the functions walked (Rp, Rq, Rr, Rt, Sx29). Conditions: none.
-/
import Derived.Test.YtagedjfjcnemoaaGreatPart25
import Derived.Test.YtagedjfjcnemoaaGreatPart07
import Derived.Test.YtagedjfjcnemoaaGreatPart11
import Derived.Deep.Slices
import Derived.ChangeArms
set_option maxRecDepth 100000
set_option linter.unusedVariables false
set_option linter.unusedSimpArgs false
namespace Go.Proofs
open Go.Sx

theorem appRest {α : Type} (l q s : List α) : (l.take l.length ++ (q.drop 0).take q.length).take (l.length + q.length) ++ (s.drop 0).take s.length = (l ++ q) ++ s := by
  simp [List.take_append, List.take_of_length_le]

set_option maxHeartbeats 4000000 in
theorem rOthers_t (r : Rd) (os : List Thg) (ms : List Mom) (h : ShOK r os ms) :
    Triple Tryz.prog 164 (lsA r os ms) (lsH r os ms) 6 (.c (.s 6 0 ((((ms.flatMap (momLs r os ms)) ++ drfLs r.bs os.length 0 ms) ++ os.flatMap (cvrLs os 1 2)) ++ os.flatMap (cvrLs os 3 4)).length 4))
      [(6, true, .arr (aLink ((((ms.flatMap (momLs r os ms)) ++ drfLs r.bs os.length 0 ms) ++ os.flatMap (cvrLs os 1 2)) ++ os.flatMap (cvrLs os 3 4))))] := by
  have hnb := h.rd.nb
  have hnr := h.rd.nr
  have hol := h.ol
  have hml := h.ml
  refine triple_of tB_ok Tryz.func164 rfl Tryz.call164 rfl ?_
  intro ρ w hH
  conv=>whnf
  refine loop_step tB_ok (G := Nat) 1 [] (fun i => [(8, iv .i64 i), (7, .c (.s 7 0 ((ms.take i).flatMap (momLs r os ms)).length 4))]) (fun i => [(7, true, .arr (aLink ((ms.take i).flatMap (momLs r os ms))))]) (fun i => i ≤ ms.length) (fun i => ms.length - i) ?_
  conv=>whnf
  refine ⟨⟨0, Nat.zero_le _, ?_⟩, ?_⟩
  · conv=>whnf
    repeat' (first | exact trivial | exact rfl | refine And.intro ?_ ?_ | ((conv=>whnf); first | exact trivial | exact rfl | refine And.intro ?_ ?_ | omega))
  intro i hi ρ1 t1 hρ1
  conv=>whnf
  refine ⟨fun hc => ?_, fun hc => ?_⟩
  · have hlt : i < ms.length := by simpa using hc
    have hM := flat_le2 (momLs r os ms) (fun _ => Nat.le_refl _) (ms.take i)
    rw [List.length_take] at hM
    have hnx := flat_round2 [] (momLs r os ms) hlt rfl
    simp only [List.nil_append] at hnx
    rw [plF_at h.md (List.getElem?_eq_getElem hlt)] at hnx
    have hmm := List.getElem_mem hlt
    have hmo := h.mo _ hmm
    have hmb : hasB r.bs ms[i].bal = true := by unfold momOK at hmo; exact (Bool.and_eq_true _ _ ▸ hmo).1
    obtain ⟨hlo, hhi, _⟩ := side_bd h.rd ms[i] hmb
    have hF := rSide_t r ms[i] h.rd.sml
    generalize (ms.take i).flatMap (momLs r os ms) = M at *
    generalize sideF r ms[i] = d at *
    conv=>whnf
    refine ⟨i, rfl, hlt, hlt, ?_⟩
    conv=>whnf
    refine call_step hF rfl rfl ?_
    conv=>whnf
    refine ⟨?_, ?_, ?_⟩
    iterate 2 · repeat' (first | exact trivial | exact rfl | refine And.intro ?_ ?_ | ((conv=>whnf); first | exact trivial | exact rfl | refine And.intro ?_ ?_ | omega))
    conv=>whnf
    refine ⟨(os.length : Int) + i, wrapId (z := (os.length : Int) + i) ⟨by omega, by omega⟩, ?_⟩
    conv=>whnf
    refine ⟨-d.lo, (congrArg IntKind.i64.wrap (show (0 : Int) - d.lo = -d.lo by omega)).trans (wrapId ⟨by omega, by omega⟩), ?_⟩
    conv=>whnf
    refine bs_step tB_ok (aLink [⟨-1, (os.length : Int) + i, d.hi, d.hiI⟩, ⟨(os.length : Int) + i, -1, -d.lo, d.loI⟩]) rfl rfl ?_
    conv=>whnf
    refine ⟨⟨rfl, (by repeat' (first | exact trivial | exact rfl | refine And.intro ?_ ?_ | ((conv=>whnf); first | exact trivial | exact rfl | refine And.intro ?_ ?_ | omega)))⟩, ?_⟩
    conv=>whnf
    refine app_step tB_ok (aLink M) [(⟨-1, (os.length : Int) + i, d.hi, d.hiI⟩ : Lnk), ⟨(os.length : Int) + i, -1, -d.lo, d.loI⟩] (fun _ => rfl) rfl rfl rfl rfl ?_
    conv=>whnf
    refine ⟨⟨rfl, rfl, Nat.le_refl _, Nat.le_refl _, by show (M.length + 2) * 33 ≤ _; omega⟩, ?_⟩
    conv=>whnf
    refine ⟨_, wrapId ⟨by omega, by omega⟩, ?_⟩
    refine ⟨i + 1, hlt, by show ms.length - (i + 1) < ms.length - i; omega, ?_⟩
    try dsimp only
    rw [hnx]
    conv=>whnf
    refine ⟨rfl, ?_⟩
    conv=>whnf
    repeat' (first | exact trivial | exact rfl | refine And.intro ?_ ?_ | ((conv=>whnf); first | exact trivial | exact rfl | refine And.intro ?_ ?_ | omega))
    all_goals first | exact congrArg aLink (appPair M _ _) | simp
  have hie : i = ms.length := by simp at hc; omega
  subst hie
  rw [List.take_length]
  have hL3 := flat_le2 (momLs r os ms) (fun _ => Nat.le_refl _) ms
  generalize ms.flatMap (momLs r os ms) = L3 at *
  have hd1 : drfLs r.bs os.length 0 (ms.take 1) = [] := by cases ms <;> rfl
  conv=>whnf
  refine loop_step tB_ok (G := Nat) 1 [7] (fun i => [(11, iv .i64 i), (7, .c (.s 8 0 (L3 ++ drfLs r.bs os.length 0 (ms.take i)).length 4))]) (fun i => [(8, true, .arr (aLink (L3 ++ drfLs r.bs os.length 0 (ms.take i))))]) (fun i => 1 ≤ i ∧ (i = 1 ∨ i ≤ ms.length)) (fun i => ms.length - i) ?_
  conv=>whnf
  refine ⟨⟨1, ⟨Nat.le_refl _, .inl rfl⟩, ?_⟩, ?_⟩
  · conv=>whnf
    repeat' (first | exact trivial | exact rfl | refine And.intro ?_ ?_ | ((conv=>whnf); first | exact trivial | exact rfl | refine And.intro ?_ ?_ | omega))
    all_goals first | (show aLink L3 = aLink (L3 ++ drfLs r.bs os.length 0 (ms.take 1)); rw [hd1, List.append_nil]) | (show L3.length = (L3 ++ drfLs r.bs os.length 0 (ms.take 1)).length; rw [hd1, List.append_nil])
  rintro i ⟨hi1, hi⟩ ρ1 t1 hρ1
  conv=>whnf
  refine ⟨fun hc => ?_, fun hc => ?_⟩
  · have hlt : i < ms.length := by simpa using hc
    have hM2 : (L3 ++ drfLs r.bs os.length 0 (ms.take i)).length ≤ 40000 := by
      have := drf_le r.bs os.length (ms.take i)
      rw [List.length_take] at this
      rw [List.length_append]; omega
    have hdr := drf_round r.bs os.length hi1 hlt
    obtain ⟨j, rfl⟩ : ∃ j, i = j + 1 := ⟨i - 1, by omega⟩
    have hjl : j < ms.length := by omega
    simp only [Nat.add_sub_cancel] at hdr
    have hDr := h.dr j ms[j] ms[j + 1] (List.getElem?_eq_getElem hjl) (List.getElem?_eq_getElem hlt)
    have hoa := h.mo _ (List.getElem_mem hjl)
    have hob := h.mo _ (List.getElem_mem hlt)
    have hF := rFind_t r ms[j + 1].bal (by omega)
    have hj1 : IntKind.i64.wrap (((j + 1 : Nat) : Int) - 1) = (j : Int) := by
      have e : ((j + 1 : Nat) : Int) - 1 = (j : Nat) := by omega
      rw [e]; exact wrapId (z := (j : Int)) ⟨by omega, by omega⟩
    generalize hM : L3 ++ drfLs r.bs os.length 0 (ms.take (j + 1)) = M at *
    conv=>whnf
    refine ⟨j + 1, rfl, hlt, hlt, ?_⟩
    conv=>whnf
    refine ⟨(j : Nat), hj1, ?_⟩
    conv=>whnf
    refine ⟨j, rfl, hjl, hjl, ?_⟩
    conv=>whnf
    refine ⟨fun hc => ?_, fun hc => ?_⟩
    · have hab : ¬ ms[j + 1].bal = ms[j].bal := by simpa using (show (ms[j + 1].bal != ms[j].bal) = true from hc)
      have hnx : L3 ++ drfLs r.bs os.length 0 (ms.take (j + 1 + 1)) = M := by
        rw [hdr, show (ms[j].bal == ms[j + 1].bal) = false by simpa using (fun he => hab he.symm), cond_false, List.append_nil, hM]
      conv=>whnf
      refine ⟨_, wrapId ⟨by omega, by omega⟩, ?_⟩
      refine ⟨j + 1 + 1, ⟨by omega, .inr hlt⟩, by show ms.length - (j + 1 + 1) < ms.length - (j + 1); omega, ?_⟩
      try dsimp only
      rw [hnx]
      conv=>whnf
      refine ⟨rfl, ?_⟩
      conv=>whnf
      repeat' (first | exact trivial | exact rfl | refine And.intro ?_ ?_ | ((conv=>whnf); first | exact trivial | exact rfl | refine And.intro ?_ ?_ | omega))
    · have hab : ms[j].bal = ms[j + 1].bal := (show ms[j + 1].bal = ms[j].bal by simpa using (show (ms[j + 1].bal != ms[j].bal) = false from hc)).symm
      obtain ⟨d1, d2⟩ := hDr hab
      have hnx : L3 ++ drfLs r.bs os.length 0 (ms.take (j + 1 + 1)) = (M ++ [⟨(os.length : Int) + (j : Nat), (os.length : Int) + ((j + 1 : Nat) : Int), min ((findD r.bs ms[j].bal).dr * (ms[j + 1].tick - ms[j].tick)) 2000000, 0⟩]) ++
          [⟨(os.length : Int) + ((j + 1 : Nat) : Int), (os.length : Int) + (j : Nat), min ((findD r.bs ms[j].bal).dr * (ms[j + 1].tick - ms[j].tick)) 2000000, 0⟩] := by
        rw [hdr, show (ms[j].bal == ms[j + 1].bal) = true by simpa using hab, cond_true, ← List.append_assoc, hM, List.append_assoc]; rfl
      have htk : -1000000 ≤ ms[j + 1].tick - ms[j].tick ∧ ms[j + 1].tick - ms[j].tick ≤ 1000000 := by
        simp only [momOK, Bool.and_eq_true, withinF, decide_eq_true_eq] at hoa hob
        omega
      rw [hab] at d1 d2 hnx
      generalize findD r.bs ms[j + 1].bal = d at *
      conv=>whnf
      refine ⟨j + 1, rfl, hlt, hlt, ?_⟩
      conv=>whnf
      refine call_step hF rfl rfl ?_
      conv=>whnf
      refine ⟨?_, ?_, ?_⟩
      iterate 2 · repeat' (first | exact trivial | exact rfl | refine And.intro ?_ ?_ | ((conv=>whnf); first | exact trivial | exact rfl | refine And.intro ?_ ?_ | omega))
      conv=>whnf
      refine ⟨j + 1, rfl, hlt, hlt, ?_⟩
      conv=>whnf
      refine ⟨(j : Nat), hj1, ?_⟩
      conv=>whnf
      refine ⟨j, rfl, hjl, hjl, ?_⟩
      conv=>whnf
      refine ⟨ms[j + 1].tick - ms[j].tick, wrapId (z := ms[j + 1].tick - ms[j].tick) ⟨by omega, by omega⟩, ?_⟩
      conv=>whnf
      refine ⟨d.dr * (ms[j + 1].tick - ms[j].tick), wrapId (z := d.dr * (ms[j + 1].tick - ms[j].tick)) ⟨by omega, by omega⟩, ?_⟩
      conv=>whnf
      generalize min (d.dr * (ms[j + 1].tick - ms[j].tick)) 2000000 = n at *
      refine ⟨(os.length : Int) + ((j + 1 : Nat) : Int), wrapId (z := (os.length : Int) + ((j + 1 : Nat) : Int)) ⟨by omega, by omega⟩, ?_⟩
      conv=>whnf
      refine ⟨(os.length : Int) + (j : Nat), (congrArg IntKind.i64.wrap (show (os.length : Int) + ((j + 1 : Nat) : Int) - 1 = (os.length : Int) + (j : Nat) by omega)).trans (wrapId ⟨by omega, by omega⟩), ?_⟩
      conv=>whnf
      refine ⟨(os.length : Int) + ((j + 1 : Nat) : Int), (congrArg IntKind.i64.wrap (show (os.length : Int) + (j : Nat) + 1 = (os.length : Int) + ((j + 1 : Nat) : Int) by omega)).trans (wrapId ⟨by omega, by omega⟩), ?_⟩
      conv=>whnf
      refine ⟨(os.length : Int) + ((j + 1 : Nat) : Int), (congrArg IntKind.i64.wrap (show (os.length : Int) + (j : Nat) + 1 = (os.length : Int) + ((j + 1 : Nat) : Int) by omega)).trans (wrapId ⟨by omega, by omega⟩), ?_⟩
      conv=>whnf
      refine bs_step tB_ok (aLink [⟨(os.length : Int) + (j : Nat), (os.length : Int) + ((j + 1 : Nat) : Int), n, 0⟩, ⟨(os.length : Int) + ((j + 1 : Nat) : Int), (os.length : Int) + (j : Nat), n, 0⟩]) rfl rfl ?_
      conv=>whnf
      refine ⟨⟨rfl, (by repeat' (first | exact trivial | exact rfl | refine And.intro ?_ ?_ | ((conv=>whnf); first | exact trivial | exact rfl | refine And.intro ?_ ?_ | omega)))⟩, ?_⟩
      conv=>whnf
      refine app_step tB_ok (aLink M) [(⟨(os.length : Int) + (j : Nat), (os.length : Int) + ((j + 1 : Nat) : Int), n, 0⟩ : Lnk), ⟨(os.length : Int) + ((j + 1 : Nat) : Int), (os.length : Int) + (j : Nat), n, 0⟩] (fun _ => rfl) rfl rfl rfl rfl ?_
      conv=>whnf
      refine ⟨⟨rfl, rfl, Nat.le_refl _, Nat.le_refl _, by show (M.length + 2) * 33 ≤ _; omega⟩, ?_⟩
      conv=>whnf
      refine ⟨_, wrapId ⟨by omega, by omega⟩, ?_⟩
      refine ⟨j + 1 + 1, ⟨by omega, .inr hlt⟩, by show ms.length - (j + 1 + 1) < ms.length - (j + 1); omega, ?_⟩
      try dsimp only
      rw [hnx]
      conv=>whnf
      refine ⟨rfl, ?_⟩
      conv=>whnf
      repeat' (first | exact trivial | exact rfl | refine And.intro ?_ ?_ | ((conv=>whnf); first | exact trivial | exact rfl | refine And.intro ?_ ?_ | omega))
      all_goals first | exact congrArg aLink (appPair M _ _) | simp
  have hie : drfLs r.bs os.length 0 (ms.take i) = drfLs r.bs os.length 0 ms := by
    have : ¬ i < ms.length := by simpa using hc
    rw [List.take_of_length_le (by omega)]
  rw [hie]
  have hL4 : (L3 ++ drfLs r.bs os.length 0 ms).length ≤ 40000 := by
    have := drf_le r.bs os.length ms
    rw [List.length_append]; omega
  generalize L3 ++ drfLs r.bs os.length 0 ms = L4 at *
  have hc1 := flat_le2 (cvrLs os 1 2) (fun o => Nat.le_succ_of_le (cvr_len os 1 2 o)) os
  have hc2 := flat_le2 (cvrLs os 3 4) (fun o => Nat.le_succ_of_le (cvr_len os 3 4 o)) os
  have hl1 := rLighter_t os 2 1 hol h.od
  have hl2 := rLighter_t os 4 3 hol h.od
  generalize os.flatMap (cvrLs os 1 2) = C1 at *
  generalize os.flatMap (cvrLs os 3 4) = C2 at *
  conv=>whnf
  refine call_step hl1 rfl rfl ?_
  conv=>whnf
  refine ⟨?_, ?_, ?_⟩
  iterate 2 · repeat' (first | exact trivial | exact rfl | refine And.intro ?_ ?_ | ((conv=>whnf); first | exact trivial | exact rfl | refine And.intro ?_ ?_ | omega))
  conv=>whnf
  refine app_step tB_ok (aLink L4) C1 (fun _ => rfl) rfl rfl rfl rfl ?_
  conv=>whnf
  refine ⟨⟨rfl, rfl, Nat.le_refl _, (by show 0 + C1.length ≤ C1.length; omega), by show (L4.length + C1.length) * 33 ≤ _; omega⟩, ?_⟩
  conv=>whnf
  refine call_step hl2 rfl rfl ?_
  conv=>whnf
  refine ⟨?_, ?_, ?_⟩
  iterate 2 · repeat' (first | exact trivial | exact rfl | refine And.intro ?_ ?_ | ((conv=>whnf); first | exact trivial | exact rfl | refine And.intro ?_ ?_ | omega))
  conv=>whnf
  refine app_step tB_ok (aLink (L4.take L4.length ++ (C1.drop 0).take C1.length)) C2 (fun _ => rfl) rfl rfl rfl rfl ?_
  conv=>whnf
  refine ⟨⟨rfl, rfl, (by show L4.length + C1.length ≤ (L4.take L4.length ++ (C1.drop 0).take C1.length).length; simp), (by show 0 + C2.length ≤ C2.length; omega), by show (L4.length + C1.length + C2.length) * 33 ≤ _; omega⟩, ?_⟩
  conv=>whnf
  repeat' (first | exact trivial | exact rfl | refine And.intro ?_ ?_ | ((conv=>whnf); first | exact trivial | exact rfl | refine And.intro ?_ ?_ | omega))
  all_goals first | exact congrArg aLink (appRest L4 C1 C2) | (simp only [List.length_append]) | simp

end Go.Proofs

namespace Go.Proofs
open Go.Sx

abbrev wiA (r : Rd) (more : List Mom) : List SV := [rdA r, .c (.s 4 0 more.length 2)]
abbrev wiH (r : Rd) (more : List Mom) : Heap := rdH r ++ [(4, false, .arr (aMom more))]

set_option maxHeartbeats 4000000 in
theorem rWith_t (r : Rd) (more : List Mom) (h : RdOK r) (hl : more.length ≤ 2) (hm : ∀ m ∈ more, momOK r m = true) :
    Triple Tryz.prog 88 (wiA r more) (wiH r more) 5 (.tup [.inr [.s 5 0 (boxR r more).length 2, .s 6 0 (lnkR r more).length 4], .inl (.s 7 0 (momsF r more).length 2)])
      [(5, true, .arr (aSpan (boxR r more))), (6, true, .arr (aLink (lnkR r more))), (7, true, .arr (aMom (momsF r more)))] := by
  have hsh := sheet_ok h (more := more) (by omega) hm
  have hsml := h.sml
  have hnr := h.nr
  have hol := hsh.ol
  have hml := hsh.ml
  have eL : lnkR r more = ((sortK Wgh.id r.ws).flatMap (wghLs r.bs (objsF r) (momsF r more)) ++ (sortK Chk.id r.cs).flatMap (chkLs r.bs (objsF r) (momsF r more))) ++ (((((momsF r more).flatMap (momLs r (objsF r) (momsF r more))) ++ drfLs r.bs (objsF r).length 0 (momsF r more)) ++ (objsF r).flatMap (cvrLs (objsF r) 1 2)) ++ (objsF r).flatMap (cvrLs (objsF r) 3 4)) := by
    unfold lnkR linksR
    simp only [List.append_assoc]
  have eB : boxR r more = (objsF r).map (fun o => ((0 : Int), capF r o)) ++ (momsF r more).map (fun _ => ((-1000000 : Int), (1000000 : Int))) := rfl
  have hR := rReads_t r _ _ hsh
  have hO := rOthers_t r _ _ hsh
  have hrl := flat_le2 (wghLs r.bs (objsF r) (momsF r more)) (fun _ => Nat.le_refl _) (sortK Wgh.id r.ws)
  have hrl2 := flat_le2 (chkLs r.bs (objsF r) (momsF r more)) (fun _ => Nat.le_refl _) (sortK Chk.id r.cs)
  rw [sortK_len] at hrl hrl2
  have hrl3 : ((sortK Wgh.id r.ws).flatMap (wghLs r.bs (objsF r) (momsF r more)) ++ (sortK Chk.id r.cs).flatMap (chkLs r.bs (objsF r) (momsF r more))).length ≤ 400 := by rw [List.length_append]; omega
  have hLl := rdR_len h hl
  have hLl2 := hLl.2
  rw [eL, List.length_append] at hLl2
  rw [eL, eB]
  clear eL eB
  generalize (sortK Wgh.id r.ws).flatMap (wghLs r.bs (objsF r) (momsF r more)) ++ (sortK Chk.id r.cs).flatMap (chkLs r.bs (objsF r) (momsF r more)) = L1 at *
  generalize ((((momsF r more).flatMap (momLs r (objsF r) (momsF r more))) ++ drfLs r.bs (objsF r).length 0 (momsF r more)) ++ (objsF r).flatMap (cvrLs (objsF r) 1 2)) ++ (objsF r).flatMap (cvrLs (objsF r) 3 4) = L2 at *
  have hOb := rObjects_t r hsml
  have hMo := rMoments_t r hsml
  have em0 : momsF r [] = distS momLt ((r.ws.map wMom ++ r.cs.map cMom) ++ more.take 0) := by unfold momsF; simp
  have em1 : momsF r more = distS momLt ((r.ws.map wMom ++ r.cs.map cMom) ++ more) := by unfold momsF; rw [List.append_assoc]
  rw [em0] at hMo
  have hMl : (r.ws.map wMom ++ r.cs.map cMom).length ≤ 1000 := by simp; omega
  generalize r.ws.map wMom ++ r.cs.map cMom = M0 at *
  generalize objsF r = os at *
  refine triple_of tB_ok Tryz.func88 rfl Tryz.call88 rfl ?_
  intro ρ w hH
  conv=>whnf
  refine call_step hOb rfl rfl ?_
  conv=>whnf
  refine ⟨?_, ?_, ?_⟩
  iterate 2 · repeat' (first | exact trivial | exact rfl | refine And.intro ?_ ?_ | ((conv=>whnf); first | exact trivial | exact rfl | refine And.intro ?_ ?_ | omega))
  conv=>whnf
  refine call_step hMo rfl rfl ?_
  conv=>whnf
  refine ⟨?_, ?_, ?_⟩
  iterate 2 · repeat' (first | exact trivial | exact rfl | refine And.intro ?_ ?_ | ((conv=>whnf); first | exact trivial | exact rfl | refine And.intro ?_ ?_ | omega))
  conv=>whnf
  refine loop_step tB_ok (G := Nat) 1 [8] (fun i => [(8, iv .i64 i), (7, .c (.s 9 0 (distS momLt (M0 ++ more.take i)).length 2))]) (fun i => [(9, true, .arr (aMom (distS momLt (M0 ++ more.take i))))]) (fun i => i ≤ more.length) (fun i => more.length - i) ?_
  conv=>whnf
  refine ⟨⟨0, Nat.zero_le _, ?_⟩, ?_⟩
  · conv=>whnf
    repeat' (first | exact trivial | exact rfl | refine And.intro ?_ ?_ | ((conv=>whnf); first | exact trivial | exact rfl | refine And.intro ?_ ?_ | omega))
  intro i hi ρ1 t1 hρ1
  conv=>whnf
  refine ⟨fun hc => ?_, fun hc => ?_⟩
  · have hlt : i < more.length := by simpa using hc
    have hL := distS_len momLt_ok (M0 ++ more.take i)
    rw [List.length_append, List.length_take] at hL
    have hnx : distS momLt (M0 ++ more.take (i + 1)) = insS momLt (distS momLt (M0 ++ more.take i)) more[i] := by
      rw [← distS_snoc, take_snoc hlt, ← List.append_assoc]
    generalize distS momLt (M0 ++ more.take i) = L at *
    conv=>whnf
    refine ⟨i, rfl, hlt, hlt, ?_⟩
    conv=>whnf
    refine call_step (rWithMom_t L more[i] (by omega)) rfl rfl ?_
    conv=>whnf
    refine ⟨?_, ?_, ?_⟩
    iterate 2 · repeat' (first | exact trivial | exact rfl | refine And.intro ?_ ?_ | ((conv=>whnf); first | exact trivial | exact rfl | refine And.intro ?_ ?_ | omega))
    conv=>whnf
    refine ⟨_, wrapId ⟨by omega, by omega⟩, ?_⟩
    refine ⟨i + 1, hlt, by show more.length - (i + 1) < more.length - i; omega, ?_⟩
    try dsimp only
    rw [hnx]
    conv=>whnf
    refine ⟨rfl, ?_⟩
    conv=>whnf
    repeat' (first | exact trivial | exact rfl | refine And.intro ?_ ?_ | ((conv=>whnf); first | exact trivial | exact rfl | refine And.intro ?_ ?_ | omega))
  have hie : i = more.length := by simp at hc; omega
  subst hie
  rw [List.take_length, ← em1]
  generalize momsF r more = ms at *
  conv=>whnf
  -- the boxes
  refine loop_step tB_ok (G := Nat) 2 [] (fun i => [(10, iv .i64 i)]) (fun i => [(10, true, .cells [.s 11 0 ((os.take i).map fun o => ((0 : Int), capF r o)).length 2, .s 12 0 0 4]), (11, true, .arr (aSpan ((os.take i).map fun o => ((0 : Int), capF r o)))), (12, true, .arr (aLink []))]) (fun i => i ≤ os.length) (fun i => os.length - i) ?_
  conv=>whnf
  refine ⟨⟨0, Nat.zero_le _, ?_⟩, ?_⟩
  · conv=>whnf
    repeat' (first | exact trivial | exact rfl | refine And.intro ?_ ?_ | ((conv=>whnf); first | exact trivial | exact rfl | refine And.intro ?_ ?_ | omega))
  intro i hi ρ1 t1 hρ1
  conv=>whnf
  refine ⟨fun hc => ?_, fun hc => ?_⟩
  · have hlt : i < os.length := by simpa using hc
    have hnx : (os.take (i + 1)).map (fun o => ((0 : Int), capF r o)) = (os.take i).map (fun o => ((0 : Int), capF r o)) ++ [(0, capF r os[i])] := by rw [take_snoc hlt, List.map_append]; rfl
    have hM : ((os.take i).map (fun o => ((0 : Int), capF r o))).length ≤ 1000 := by rw [List.length_map, List.length_take]; omega
    have hC := rCapacity_t r os[i] hsml
    generalize (os.take i).map (fun o => ((0 : Int), capF r o)) = M at *
    generalize capF r os[i] = cap at *
    conv=>whnf
    refine ⟨i, rfl, hlt, hlt, ?_⟩
    conv=>whnf
    refine call_step hC rfl rfl ?_
    conv=>whnf
    refine ⟨?_, ?_, ?_⟩
    iterate 2 · repeat' (first | exact trivial | exact rfl | refine And.intro ?_ ?_ | ((conv=>whnf); first | exact trivial | exact rfl | refine And.intro ?_ ?_ | omega))
    conv=>whnf
    refine bs_step tB_ok (aSpan [(0, cap)]) rfl rfl ?_
    conv=>whnf
    refine ⟨⟨rfl, (by repeat' (first | exact trivial | exact rfl | refine And.intro ?_ ?_ | ((conv=>whnf); first | exact trivial | exact rfl | refine And.intro ?_ ?_ | omega)))⟩, ?_⟩
    conv=>whnf
    refine app_step tB_ok (aSpan M) [((0 : Int), cap)] (fun _ => rfl) rfl rfl rfl rfl ?_
    conv=>whnf
    refine ⟨⟨rfl, rfl, Nat.le_refl _, Nat.le_refl _, by show (M.length + 1) * 17 ≤ _; omega⟩, ?_⟩
    conv=>whnf
    refine ⟨_, wrapId ⟨by omega, by omega⟩, ?_⟩
    refine ⟨i + 1, hlt, by show os.length - (i + 1) < os.length - i; omega, ?_⟩
    try dsimp only
    rw [hnx]
    conv=>whnf
    refine ⟨rfl, ?_⟩
    conv=>whnf
    repeat' (first | exact trivial | exact rfl | refine And.intro ?_ ?_ | ((conv=>whnf); first | exact trivial | exact rfl | refine And.intro ?_ ?_ | omega))
    all_goals first | exact (congrArg aSpan app1.symm : _) | exact (congrArg aSpan app1 : _) | (simp; done) | skip
  have hie : i = os.length := by simp at hc; omega
  subst hie
  rw [List.take_length]
  have hbl : (os.map fun o => ((0 : Int), capF r o)).length ≤ 1000 := by rw [List.length_map]; omega
  generalize (os.map fun o => ((0 : Int), capF r o)) = B0 at *
  conv=>whnf
  refine loop_step tB_ok (G := Nat) 1 [11] (fun i => [(11, iv .i64 i)]) (fun i => [(10, true, .cells [.s 13 0 (B0 ++ (ms.take i).map fun _ => ((-1000000 : Int), (1000000 : Int))).length 2, .s 12 0 0 4]), (13, true, .arr (aSpan (B0 ++ (ms.take i).map fun _ => ((-1000000 : Int), (1000000 : Int)))))]) (fun i => i ≤ ms.length) (fun i => ms.length - i) ?_
  conv=>whnf
  refine ⟨⟨0, Nat.zero_le _, ?_⟩, ?_⟩
  · conv=>whnf
    repeat' (first | exact trivial | exact rfl | refine And.intro ?_ ?_ | ((conv=>whnf); first | exact trivial | exact rfl | refine And.intro ?_ ?_ | omega))
    all_goals first | (show aSpan B0 = aSpan (B0 ++ []); rw [List.append_nil]) | simp
  intro i hi ρ1 t1 hρ1
  conv=>whnf
  refine ⟨fun hc => ?_, fun hc => ?_⟩
  · have hlt : i < ms.length := by simpa using hc
    have hnx := map_round B0 (fun _ : Mom => ((-1000000 : Int), (1000000 : Int))) hlt
    have hM : (B0 ++ (ms.take i).map fun _ => ((-1000000 : Int), (1000000 : Int))).length ≤ 2000 := by rw [List.length_append, List.length_map, List.length_take]; omega
    generalize (B0 ++ (ms.take i).map fun _ => ((-1000000 : Int), (1000000 : Int))) = M at *
    conv=>whnf
    refine bs_step tB_ok (aSpan [(-1000000, 1000000)]) rfl rfl ?_
    conv=>whnf
    refine ⟨⟨rfl, (by repeat' (first | exact trivial | exact rfl | refine And.intro ?_ ?_ | ((conv=>whnf); first | exact trivial | exact rfl | refine And.intro ?_ ?_ | omega)))⟩, ?_⟩
    conv=>whnf
    refine app_step tB_ok (aSpan M) [((-1000000 : Int), (1000000 : Int))] (fun _ => rfl) rfl rfl rfl rfl ?_
    conv=>whnf
    refine ⟨⟨rfl, rfl, Nat.le_refl _, Nat.le_refl _, by show (M.length + 1) * 17 ≤ _; omega⟩, ?_⟩
    conv=>whnf
    refine ⟨_, wrapId ⟨by omega, by omega⟩, ?_⟩
    refine ⟨i + 1, hlt, by show ms.length - (i + 1) < ms.length - i; omega, ?_⟩
    try dsimp only
    rw [hnx]
    conv=>whnf
    refine ⟨rfl, ?_⟩
    conv=>whnf
    repeat' (first | exact trivial | exact rfl | refine And.intro ?_ ?_ | ((conv=>whnf); first | exact trivial | exact rfl | refine And.intro ?_ ?_ | omega))
    all_goals first | exact (congrArg aSpan app1.symm : _) | exact (congrArg aSpan app1 : _) | simp
  have hie : i = ms.length := by simp at hc; omega
  subst hie
  rw [List.take_length]
  generalize (B0 ++ ms.map fun _ => ((-1000000 : Int), (1000000 : Int))) = B at *
  conv=>whnf
  refine call_step hR rfl rfl ?_
  conv=>whnf
  refine ⟨?_, ?_, ?_⟩
  iterate 2 · repeat' (first | exact trivial | exact rfl | refine And.intro ?_ ?_ | ((conv=>whnf); first | exact trivial | exact rfl | refine And.intro ?_ ?_ | omega))
  conv=>whnf
  refine call_step hO rfl rfl ?_
  conv=>whnf
  refine ⟨?_, ?_, ?_⟩
  iterate 2 · repeat' (first | exact trivial | exact rfl | refine And.intro ?_ ?_ | ((conv=>whnf); first | exact trivial | exact rfl | refine And.intro ?_ ?_ | omega))
  conv=>whnf
  refine app_step tB_ok (aLink L1) L2 (fun _ => rfl) rfl rfl rfl rfl ?_
  conv=>whnf
  refine ⟨⟨rfl, rfl, Nat.le_refl _, (by show 0 + L2.length ≤ L2.length; omega), by show (L1.length + L2.length) * 33 ≤ _; omega⟩, ?_⟩
  conv=>whnf
  repeat' (first | exact trivial | exact rfl | refine And.intro ?_ ?_ | ((conv=>whnf); first | exact trivial | exact rfl | refine And.intro ?_ ?_ | omega))
  all_goals first | exact congrArg aLink (show L1.take L1.length ++ (L2.drop 0).take L2.length = L1 ++ L2 by simp) | (simp only [List.length_append]) | simp

end Go.Proofs

namespace Go.Proofs
open Go.Sx

theorem agrC_t {bs : List (Int × Int)} {ls : List Lnk} (hs : SysOK bs ls) (hf : FewS bs ls) : Triple Tryz.prog 90 [sysA bs.length ls.length] (sysH bs ls) 2 (bv (decide (Calm bs ls 0))) [] := by
  have h := agrees_t bs ls (by have := hs.nb; omega) hs.boxB (by have := hs.nl; omega) (allF_ok hs)
  have e : (fromF bs.length (allF bs ls) (-1)).isSome = decide (Calm bs ls 0) := by
    by_cases hc : Calm bs ls 0
    · rw [decide_eq_true hc]; exact (isSome_calm hs hf).2 hc
    · rw [decide_eq_false hc, ← Bool.not_eq_true]; exact fun h => hc ((isSome_calm hs hf).1 h)
  rw [e] at h
  exact h

theorem rngC_t {bs : List (Int × Int)} {ls : List Lnk} (hs : SysOK bs ls) (hf : FewS bs ls) (hc : Calm bs ls 0) {a b : Int} (ha : -1 ≤ a ∧ a < bs.length) (hb : -1 ≤ b ∧ b < bs.length) :
    Triple Tryz.prog 91 [sysA bs.length ls.length, iv .i64 a, iv .i64 b] (sysH bs ls) 2 (rngT (betweenF bs ls a b)) [] := by
  unfold betweenF
  rw [if_pos hc]
  exact refRange_t bs ls a b hs ha hb _ _ (by rw [great_eqS hs hf hc hb ha]) (by rw [great_eqS hs hf hc ha hb])

theorem rWithNil_t (r : Rd) (h : RdOK r) :
    Triple Tryz.prog 88 [rdA r, .c (.v (.slice none 0 0))] (rdH r) 4 (.tup [.inr [.s 5 0 (boxR r []).length 2, .s 6 0 (lnkR r []).length 4], .inl (.s 7 0 (momsF r []).length 2)])
      [(5, true, .arr (aSpan (boxR r []))), (6, true, .arr (aLink (lnkR r []))), (7, true, .arr (aMom (momsF r [])))] :=
  Triple.nilK (k := 4) (o := .arr (aMom [])) (H := rdH r) (rWith_t r [] h (by simp) (by simp)) rfl rfl rfl (by
    intro ρ vals hv
    match hvl : vals, hv with
    | [a, b], hv =>
      refine ⟨?_, ?_, trivial⟩
      · exact SV.rel_agree (fun k hk => upd_ne (by
          have : k < 4 := by
            have h1 : memN k (rdA r).nms = true := memN_iff.2 (SV.uses_nms.1 hk)
            have h2 : k ∈ [0, 2, 3, 1] := SV.uses_nms.1 hk
            simp at h2; omega
          omega)) hv.1
      · have hb : b = .slice none 0 0 := hv.2.1
        subst hb
        exact ⟨none, by rw [upd_eq]; rfl, by rw [upd_eq]; exact Nat.le_refl _, fun h => by rw [upd_eq] at h; cases h⟩)

theorem rCompile_t (r : Rd) (h : RdOK r) : Triple Tryz.prog 53 [rdA r] (rdH r) 4 (.agg [.s 4 0 (boxR r []).length 2, .s 5 0 (lnkR r []).length 4])
      [(4, true, .arr (aSpan (boxR r []))), (5, true, .arr (aLink (lnkR r [])))] := by
  have hW := rWithNil_t r h
  generalize boxR r [] = bx at *
  generalize lnkR r [] = lk at *
  generalize momsF r [] = ms at *
  refine triple_of tB_ok Tryz.func53 rfl Tryz.call53 rfl ?_
  intro ρ w hH
  conv=>whnf
  refine call_step hW rfl rfl ?_
  conv=>whnf
  refine ⟨?_, ?_, ?_⟩
  iterate 2 · repeat' (first | exact trivial | exact rfl | refine And.intro ?_ ?_ | ((conv=>whnf); first | exact trivial | exact rfl | refine And.intro ?_ ?_ | omega))
  conv=>whnf
  repeat' (first | exact trivial | exact rfl | refine And.intro ?_ ?_ | ((conv=>whnf); first | exact trivial | exact rfl | refine And.intro ?_ ?_ | omega))

theorem rAgrees_t (r : Rd) (h : RdOK r) (hf : r.cs.length + r.ns.length + r.ws.length ≤ 24) : Triple Tryz.prog 75 [rdA r] (rdH r) 4 (bv (decide (Calm (boxR r []) (lnkR r []) 0))) [] := by
  have hC := rCompile_t r h
  have hA := agrC_t (rd_sys h (more := []) (by simp) (by simp)) (rd_few (more := []) (by simp) hf)
  generalize decide (Calm (boxR r []) (lnkR r []) 0) = R at *
  generalize boxR r [] = bx at *
  generalize lnkR r [] = lk at *
  refine triple_of tB_ok Tryz.func75 rfl Tryz.call75 rfl ?_
  intro ρ w hH
  conv=>whnf
  refine call_step hC rfl rfl ?_
  conv=>whnf
  refine ⟨?_, ?_, ?_⟩
  iterate 2 · repeat' (first | exact trivial | exact rfl | refine And.intro ?_ ?_ | ((conv=>whnf); first | exact trivial | exact rfl | refine And.intro ?_ ?_ | omega))
  conv=>whnf
  refine call_step hA rfl rfl ?_
  conv=>whnf
  refine ⟨?_, ?_, ?_⟩
  iterate 2 · repeat' (first | exact trivial | exact rfl | refine And.intro ?_ ?_ | ((conv=>whnf); first | exact trivial | exact rfl | refine And.intro ?_ ?_ | omega))
  conv=>whnf
  repeat' (first | exact trivial | exact rfl | refine And.intro ?_ ?_ | ((conv=>whnf); first | exact trivial | exact rfl | refine And.intro ?_ ?_ | omega))

def knownR (r : Rd) (l : List Thg) : Int := if checkR r = 0 then (if ∀ o ∈ l, o ∈ objsF r then (if Calm (boxR r []) (lnkR r []) 0 then 0 else 9) else 5) else checkR r

theorem rKnown_t (r : Rd) (l : List Thg) (hs : Sml r) (hf : r.cs.length + r.ns.length + r.ws.length ≤ 24) (hl : l.length ≤ 1000) :
    Triple Tryz.prog 117 [rdA r, .c (.s 4 0 l.length 4)] (rdH r ++ [(4, false, .arr (aThg l))]) 5 (iv .i64 (knownR r l)) [] := by
  have hC := rCheck_t r hs
  have e : knownR r l = if checkR r = 0 then (if ∀ o ∈ l, o ∈ objsF r then (if Calm (boxR r []) (lnkR r []) 0 then 0 else 9) else 5) else checkR r := rfl
  generalize knownR r l = R at *
  by_cases h0 : checkR r = 0
  · rw [if_pos h0] at e
    have h := checkR_ok.1 h0
    rw [h0] at hC
    have hO := rObjects_t r hs
    have hA := rAgrees_t r h hf
    have hol := objsF_len r
    have hws := hs.ws
    generalize objsF r = os at *
    refine triple_of tB_ok Tryz.func117 rfl Tryz.call117 rfl ?_
    intro ρ w hH
    conv=>whnf
    refine call_step hC rfl rfl ?_
    conv=>whnf
    refine ⟨?_, ?_, ?_⟩
    iterate 2 · repeat' (first | exact trivial | exact rfl | refine And.intro ?_ ?_ | ((conv=>whnf); first | exact trivial | exact rfl | refine And.intro ?_ ?_ | omega))
    conv=>whnf
    refine ⟨fun hc => absurd hc (by simp), fun hc => ?_⟩
    conv=>whnf
    refine call_step hO rfl rfl ?_
    conv=>whnf
    refine ⟨?_, ?_, ?_⟩
    iterate 2 · repeat' (first | exact trivial | exact rfl | refine And.intro ?_ ?_ | ((conv=>whnf); first | exact trivial | exact rfl | refine And.intro ?_ ?_ | omega))
    conv=>whnf
    refine loop_step tB_ok (G := Nat) 0 [] (fun i => [(7, iv .i64 i)]) (fun _ => []) (fun i => i ≤ l.length ∧ ∀ o ∈ l.take i, o ∈ os) (fun i => l.length - i) ?_
    conv=>whnf
    refine ⟨⟨0, ⟨Nat.zero_le _, by simp⟩, ?_⟩, ?_⟩
    · conv=>whnf
      repeat' (first | exact trivial | exact rfl | refine And.intro ?_ ?_ | ((conv=>whnf); first | exact trivial | exact rfl | refine And.intro ?_ ?_ | omega))
    rintro i ⟨hi, hn⟩ ρ1 t1 hρ1
    conv=>whnf
    refine ⟨fun hc => ?_, fun hc => ?_⟩
    · have hlt : i < l.length := by simpa using hc
      have hp := rAtThg_t os l[i] (by omega)
      conv=>whnf
      refine ⟨i, rfl, hlt, hlt, ?_⟩
      conv=>whnf
      refine call_step hp rfl rfl ?_
      conv=>whnf
      refine ⟨?_, ?_, ?_⟩
      iterate 2 · repeat' (first | exact trivial | exact rfl | refine And.intro ?_ ?_ | ((conv=>whnf); first | exact trivial | exact rfl | refine And.intro ?_ ?_ | omega))
      conv=>whnf
      by_cases hm : l[i] ∈ os
      · obtain ⟨e1, l1⟩ := plF_mem hm
        refine ⟨fun hc => absurd (of_decide_eq_true (show decide (plF os l[i] < 0) = true from hc)) (by omega), fun hc => ?_⟩
        conv=>whnf
        refine ⟨_, wrapId ⟨by omega, by omega⟩, ?_⟩
        refine ⟨i + 1, ⟨hlt, ?_⟩, by show l.length - (i + 1) < l.length - i; omega, ?_⟩
        · intro x hx
          rw [take_snoc hlt] at hx
          rcases List.mem_append.1 hx with hx | hx
          · exact hn x hx
          · simp only [List.mem_singleton] at hx; rw [hx]; exact hm
        conv=>whnf
        refine ⟨rfl, ?_⟩
        conv=>whnf
        repeat' (first | exact trivial | exact rfl | refine And.intro ?_ ?_ | ((conv=>whnf); first | exact trivial | exact rfl | refine And.intro ?_ ?_ | omega))
      · have e1 : plF os l[i] = -1 := by unfold plF; rw [if_neg hm]
        rw [if_neg (fun hh => hm (hh _ (List.getElem_mem hlt)))] at e
        refine ⟨fun hc => ?_, fun hc => absurd (of_decide_eq_false (show decide (plF os l[i] < 0) = false from hc)) (by omega)⟩
        subst e
        conv=>whnf
        repeat' (first | exact trivial | exact rfl | refine And.intro ?_ ?_ | ((conv=>whnf); first | exact trivial | exact rfl | refine And.intro ?_ ?_ | omega))
    · have hie : i = l.length := by simp at hc; omega
      subst hie
      rw [List.take_length] at hn
      rw [if_pos hn] at e
      conv=>whnf
      refine call_step hA rfl rfl ?_
      conv=>whnf
      refine ⟨?_, ?_, ?_⟩
      iterate 2 · repeat' (first | exact trivial | exact rfl | refine And.intro ?_ ?_ | ((conv=>whnf); first | exact trivial | exact rfl | refine And.intro ?_ ?_ | omega))
      conv=>whnf
      by_cases hcm : Calm (boxR r []) (lnkR r []) 0
      · rw [if_pos hcm] at e
        subst e
        rw [decide_eq_true hcm]
        refine ⟨fun hc => absurd hc (by simp), fun hc => ?_⟩
        conv=>whnf
        repeat' (first | exact trivial | exact rfl | refine And.intro ?_ ?_ | ((conv=>whnf); first | exact trivial | exact rfl | refine And.intro ?_ ?_ | omega))
      · rw [if_neg hcm] at e
        subst e
        rw [decide_eq_false hcm]
        refine ⟨fun hc => ?_, fun hc => absurd hc (by simp)⟩
        conv=>whnf
        repeat' (first | exact trivial | exact rfl | refine And.intro ?_ ?_ | ((conv=>whnf); first | exact trivial | exact rfl | refine And.intro ?_ ?_ | omega))
  · rw [if_neg h0] at e
    subst e
    generalize checkR r = c at *
    refine triple_of tB_ok Tryz.func117 rfl Tryz.call117 rfl ?_
    intro ρ w hH
    conv=>whnf
    refine call_step hC rfl rfl ?_
    conv=>whnf
    refine ⟨?_, ?_, ?_⟩
    iterate 2 · repeat' (first | exact trivial | exact rfl | refine And.intro ?_ ?_ | ((conv=>whnf); first | exact trivial | exact rfl | refine And.intro ?_ ?_ | omega))
    conv=>whnf
    refine ⟨fun hcc => ?_, fun hcc => absurd (by simpa using (show (c != 0) = false from hcc)) h0⟩
    conv=>whnf
    repeat' (first | exact trivial | exact rfl | refine And.intro ?_ ?_ | ((conv=>whnf); first | exact trivial | exact rfl | refine And.intro ?_ ?_ | omega))

end Go.Proofs

namespace Go.Proofs
open Go.Sx


theorem mass_known (r : Rd) (o : Thg) : massF r o = if knownR r [o] = 0 then betweenF (boxR r []) (lnkR r []) (-1) (plF (objsF r) o) else ((0, 0), knownR r [o]) := by
  unfold massF massV knownR betweenF
  by_cases h0 : checkR r = 0
  · rw [if_pos h0, if_pos h0]
    by_cases ho : o ∈ objsF r
    · have hk : ∀ x ∈ [o], x ∈ objsF r := by simpa using ho
      rw [if_pos ho, if_pos hk]
      by_cases hc : Calm (boxR r []) (lnkR r []) 0
      · rw [if_pos hc, if_pos hc, if_pos rfl]
      · rw [if_neg hc, if_neg hc, if_neg (by decide)]
    · have hk : ¬ ∀ x ∈ [o], x ∈ objsF r := by simpa using ho
      rw [if_neg ho, if_neg hk, if_neg (by decide)]
  · rw [if_neg h0, if_neg h0, if_neg h0]

theorem loss_known (r : Rd) (a b : Thg) : lossF r a b = if knownR r [a, b] = 0 then betweenF (boxR r []) (lnkR r []) (plF (objsF r) b) (plF (objsF r) a) else ((0, 0), knownR r [a, b]) := by
  unfold lossF knownR betweenF
  by_cases h0 : checkR r = 0
  · rw [if_pos h0, if_pos h0]
    by_cases ho : a ∈ objsF r ∧ b ∈ objsF r
    · have hk : ∀ x ∈ [a, b], x ∈ objsF r := by simpa using ho
      rw [if_pos ho, if_pos hk]
      by_cases hc : Calm (boxR r []) (lnkR r []) 0
      · rw [if_pos hc, if_pos hc, if_pos rfl]
      · rw [if_neg hc, if_neg hc, if_neg (by decide)]
    · have hk : ¬ ∀ x ∈ [a, b], x ∈ objsF r := by simpa using ho
      rw [if_neg ho, if_neg hk, if_neg (by decide)]
  · rw [if_neg h0, if_neg h0, if_neg h0]

theorem known_ok {r : Rd} {l : List Thg} (h : knownR r l = 0) : RdOK r ∧ (∀ o ∈ l, o ∈ objsF r) ∧ Calm (boxR r []) (lnkR r []) 0 := by
  unfold knownR at h
  by_cases h0 : checkR r = 0
  · rw [if_pos h0] at h
    by_cases h1 : ∀ o ∈ l, o ∈ objsF r
    · rw [if_pos h1] at h
      by_cases h2 : Calm (boxR r []) (lnkR r []) 0
      · exact ⟨checkR_ok.1 h0, h1, h2⟩
      · rw [if_neg h2] at h; cases h
    · rw [if_neg h1] at h; cases h
  · rw [if_neg h0] at h; exact absurd h h0

theorem btw_ok {bs : List (Int × Int)} {ls : List Lnk} (hc : Calm bs ls 0) (a b : Int) : (betweenF bs ls a b).2 = 0 := by unfold betweenF; rw [if_pos hc]

theorem obj_bd {r : Rd} {more : List Mom} {o : Thg} (h : o ∈ objsF r) : -1 ≤ plF (objsF r) o ∧ plF (objsF r) o < (boxR r more).length := by
  obtain ⟨e, l⟩ := plF_mem h
  rw [boxR_len]; omega
theorem mom_bd {r : Rd} {more : List Mom} {m : Mom} (h : m ∈ momsF r more) : -1 ≤ (objsF r).length + plF (momsF r more) m ∧ (objsF r).length + plF (momsF r more) m < (boxR r more).length := by
  obtain ⟨e, l⟩ := plF_mem h
  rw [boxR_len]; omega
theorem noB {r : Rd} {more : List Mom} : -1 ≤ (-1 : Int) ∧ (-1 : Int) < (boxR r more).length := by omega

set_option maxHeartbeats 1000000 in
theorem rMass_t (r : Rd) (o : Thg) (hs : Sml r) (hf : r.cs.length + r.ns.length + r.ws.length ≤ 24) : Triple Tryz.prog 33 [rdA r, svThg o] (rdH r) 4 (rngT (massF r o)) [] := by
  have e := mass_known r o
  have hK := rKnown_t r [o] hs hf (by simp)
  generalize massF r o = R at *
  by_cases h0 : knownR r [o] = 0
  · rw [if_pos h0] at e
    obtain ⟨h, ho, hc⟩ := known_ok h0
    have ho : o ∈ objsF r := ho o (by simp)
    have hG := rngC_t (rd_sys h (more := []) (by simp) (by simp)) (rd_few (more := []) (by simp) hf) hc noB (obj_bd ho)
    have hC := rCompile_t r h
    have hO := rObjects_t r hs
    have hol := objsF_len r
    have hws := hs.ws
    have hP := rAtThg_t (objsF r) o (by omega)
    rw [h0] at hK
    have h2 := btw_ok hc (-1) (plF (objsF r) o)
    rw [← e] at hG h2
    clear e
    generalize boxR r [] = bx at *
    generalize lnkR r [] = lk at *
    generalize plF (objsF r) o = p at *
    generalize objsF r = os at *
    refine triple_of tB_ok Tryz.func33 rfl Tryz.call33 rfl ?_
    intro ρ w hH
    conv=>whnf
    refine bs_step tB_ok (aThg [o]) rfl rfl ?_
    conv=>whnf
    refine ⟨⟨rfl, (by repeat' (first | exact trivial | exact rfl | refine And.intro ?_ ?_ | ((conv=>whnf); first | exact trivial | exact rfl | refine And.intro ?_ ?_ | omega)))⟩, ?_⟩
    conv=>whnf
    refine call_step hK rfl rfl ?_
    conv=>whnf
    refine ⟨?_, ?_, ?_⟩
    iterate 2 · repeat' (first | exact trivial | exact rfl | refine And.intro ?_ ?_ | ((conv=>whnf); first | exact trivial | exact rfl | refine And.intro ?_ ?_ | omega))
    conv=>whnf
    refine ⟨fun hc => absurd hc (by simp), fun hc => ?_⟩
    conv=>whnf
    refine call_step hC rfl rfl ?_
    conv=>whnf
    refine ⟨?_, ?_, ?_⟩
    iterate 2 · repeat' (first | exact trivial | exact rfl | refine And.intro ?_ ?_ | ((conv=>whnf); first | exact trivial | exact rfl | refine And.intro ?_ ?_ | omega))
    conv=>whnf
    refine call_step hO rfl rfl ?_
    conv=>whnf
    refine ⟨?_, ?_, ?_⟩
    iterate 2 · repeat' (first | exact trivial | exact rfl | refine And.intro ?_ ?_ | ((conv=>whnf); first | exact trivial | exact rfl | refine And.intro ?_ ?_ | omega))
    conv=>whnf
    refine call_step hP rfl rfl ?_
    conv=>whnf
    refine ⟨?_, ?_, ?_⟩
    iterate 2 · repeat' (first | exact trivial | exact rfl | refine And.intro ?_ ?_ | ((conv=>whnf); first | exact trivial | exact rfl | refine And.intro ?_ ?_ | omega))
    conv=>whnf
    refine call_step hG rfl rfl ?_
    conv=>whnf
    refine ⟨?_, ?_, ?_⟩
    iterate 2 · repeat' (first | exact trivial | exact rfl | refine And.intro ?_ ?_ | ((conv=>whnf); first | exact trivial | exact rfl | refine And.intro ?_ ?_ | omega))
    conv=>whnf
    repeat' (first | exact trivial | exact rfl | refine And.intro ?_ ?_ | ((conv=>whnf); first | exact trivial | exact rfl | refine And.intro ?_ ?_ | omega))
    all_goals exact h2.symm
  · rw [if_neg h0] at e
    subst e
    generalize knownR r [o] = c at *
    refine triple_of tB_ok Tryz.func33 rfl Tryz.call33 rfl ?_
    intro ρ w hH
    conv=>whnf
    refine bs_step tB_ok (aThg [o]) rfl rfl ?_
    conv=>whnf
    refine ⟨⟨rfl, (by repeat' (first | exact trivial | exact rfl | refine And.intro ?_ ?_ | ((conv=>whnf); first | exact trivial | exact rfl | refine And.intro ?_ ?_ | omega)))⟩, ?_⟩
    conv=>whnf
    refine call_step hK rfl rfl ?_
    conv=>whnf
    refine ⟨?_, ?_, ?_⟩
    iterate 2 · repeat' (first | exact trivial | exact rfl | refine And.intro ?_ ?_ | ((conv=>whnf); first | exact trivial | exact rfl | refine And.intro ?_ ?_ | omega))
    conv=>whnf
    refine ⟨fun hcc => ?_, fun hcc => absurd (by simpa using (show (c != 0) = false from hcc)) h0⟩
    conv=>whnf
    repeat' (first | exact trivial | exact rfl | refine And.intro ?_ ?_ | ((conv=>whnf); first | exact trivial | exact rfl | refine And.intro ?_ ?_ | omega))

set_option maxHeartbeats 1000000 in
theorem rLoss_t (r : Rd) (x y : Thg) (hs : Sml r) (hf : r.cs.length + r.ns.length + r.ws.length ≤ 24) : Triple Tryz.prog 35 [rdA r, svThg x, svThg y] (rdH r) 4 (rngT (lossF r x y)) [] := by
  have e := loss_known r x y
  have hK := rKnown_t r [x, y] hs hf (by simp)
  generalize lossF r x y = R at *
  by_cases h0 : knownR r [x, y] = 0
  · rw [if_pos h0] at e
    obtain ⟨h, ho, hc⟩ := known_ok h0
    have hx : x ∈ objsF r := ho x (by simp)
    have hy : y ∈ objsF r := ho y (by simp)
    have hG := rngC_t (rd_sys h (more := []) (by simp) (by simp)) (rd_few (more := []) (by simp) hf) hc (obj_bd hy) (obj_bd hx)
    have hC := rCompile_t r h
    have hO := rObjects_t r hs
    have hol := objsF_len r
    have hws := hs.ws
    have hP := rAtThg_t (objsF r) x (by omega)
    have hQ := rAtThg_t (objsF r) y (by omega)
    rw [h0] at hK
    have h2 := btw_ok hc (plF (objsF r) y) (plF (objsF r) x)
    rw [← e] at hG h2
    clear e
    generalize boxR r [] = bx at *
    generalize lnkR r [] = lk at *
    generalize plF (objsF r) x = p at *
    generalize plF (objsF r) y = q at *
    generalize objsF r = os at *
    refine triple_of tB_ok Tryz.func35 rfl Tryz.call35 rfl ?_
    intro ρ w hH
    conv=>whnf
    refine bs_step tB_ok (aThg [x, y]) rfl rfl ?_
    conv=>whnf
    refine ⟨⟨rfl, (by repeat' (first | exact trivial | exact rfl | refine And.intro ?_ ?_ | ((conv=>whnf); first | exact trivial | exact rfl | refine And.intro ?_ ?_ | omega)))⟩, ?_⟩
    conv=>whnf
    refine call_step hK rfl rfl ?_
    conv=>whnf
    refine ⟨?_, ?_, ?_⟩
    iterate 2 · repeat' (first | exact trivial | exact rfl | refine And.intro ?_ ?_ | ((conv=>whnf); first | exact trivial | exact rfl | refine And.intro ?_ ?_ | omega))
    conv=>whnf
    refine ⟨fun hc => absurd hc (by simp), fun hc => ?_⟩
    conv=>whnf
    refine call_step hO rfl rfl ?_
    conv=>whnf
    refine ⟨?_, ?_, ?_⟩
    iterate 2 · repeat' (first | exact trivial | exact rfl | refine And.intro ?_ ?_ | ((conv=>whnf); first | exact trivial | exact rfl | refine And.intro ?_ ?_ | omega))
    conv=>whnf
    refine call_step hC rfl rfl ?_
    conv=>whnf
    refine ⟨?_, ?_, ?_⟩
    iterate 2 · repeat' (first | exact trivial | exact rfl | refine And.intro ?_ ?_ | ((conv=>whnf); first | exact trivial | exact rfl | refine And.intro ?_ ?_ | omega))
    conv=>whnf
    refine call_step hQ rfl rfl ?_
    conv=>whnf
    refine ⟨?_, ?_, ?_⟩
    iterate 2 · repeat' (first | exact trivial | exact rfl | refine And.intro ?_ ?_ | ((conv=>whnf); first | exact trivial | exact rfl | refine And.intro ?_ ?_ | omega))
    conv=>whnf
    refine call_step hP rfl rfl ?_
    conv=>whnf
    refine ⟨?_, ?_, ?_⟩
    iterate 2 · repeat' (first | exact trivial | exact rfl | refine And.intro ?_ ?_ | ((conv=>whnf); first | exact trivial | exact rfl | refine And.intro ?_ ?_ | omega))
    conv=>whnf
    refine call_step hG rfl rfl ?_
    conv=>whnf
    refine ⟨?_, ?_, ?_⟩
    iterate 2 · repeat' (first | exact trivial | exact rfl | refine And.intro ?_ ?_ | ((conv=>whnf); first | exact trivial | exact rfl | refine And.intro ?_ ?_ | omega))
    conv=>whnf
    repeat' (first | exact trivial | exact rfl | refine And.intro ?_ ?_ | ((conv=>whnf); first | exact trivial | exact rfl | refine And.intro ?_ ?_ | omega))
    all_goals exact h2.symm
  · rw [if_neg h0] at e
    subst e
    generalize knownR r [x, y] = c at *
    refine triple_of tB_ok Tryz.func35 rfl Tryz.call35 rfl ?_
    intro ρ w hH
    conv=>whnf
    refine bs_step tB_ok (aThg [x, y]) rfl rfl ?_
    conv=>whnf
    refine ⟨⟨rfl, (by repeat' (first | exact trivial | exact rfl | refine And.intro ?_ ?_ | ((conv=>whnf); first | exact trivial | exact rfl | refine And.intro ?_ ?_ | omega)))⟩, ?_⟩
    conv=>whnf
    refine call_step hK rfl rfl ?_
    conv=>whnf
    refine ⟨?_, ?_, ?_⟩
    iterate 2 · repeat' (first | exact trivial | exact rfl | refine And.intro ?_ ?_ | ((conv=>whnf); first | exact trivial | exact rfl | refine And.intro ?_ ?_ | omega))
    conv=>whnf
    refine ⟨fun hcc => ?_, fun hcc => absurd (by simpa using (show (c != 0) = false from hcc)) h0⟩
    conv=>whnf
    repeat' (first | exact trivial | exact rfl | refine And.intro ?_ ?_ | ((conv=>whnf); first | exact trivial | exact rfl | refine And.intro ?_ ?_ | omega))

def momentR (r : Rd) (m : Mom) : Int := if checkR r = 0 then (if momOK r m = true then 0 else 1) else checkR r

theorem rMoment_t (r : Rd) (m : Mom) (hs : Sml r) : Triple Tryz.prog 85 [rdA r, svMom m] (rdH r) 4 (iv .i64 (momentR r m)) [] := by
  have hC := rCheck_t r hs
  have e : momentR r m = if checkR r = 0 then (if momOK r m = true then 0 else 1) else checkR r := rfl
  generalize momentR r m = R at *
  by_cases h0 : checkR r = 0
  · rw [if_pos h0] at e
    have h := checkR_ok.1 h0
    rw [h0] at hC
    have hz := find_zero h.bal m.bal
    have hF := rFind_t r m.bal (by have := hs.bs; omega)
    have eo : momOK r m = (hasB r.bs m.bal && withinF m.tick 0 1000000) := rfl
    rw [eo] at e
    have hI := rIn_t m.tick 0 1000000
    generalize withinF m.tick 0 1000000 = w1 at *
    generalize hasB r.bs m.bal = ok at *
    generalize findD r.bs m.bal = d at *
    refine triple_of tB_ok Tryz.func85 rfl Tryz.call85 rfl ?_
    intro ρ w hH
    conv=>whnf
    refine call_step hC rfl rfl ?_
    conv=>whnf
    refine ⟨?_, ?_, ?_⟩
    iterate 2 · repeat' (first | exact trivial | exact rfl | refine And.intro ?_ ?_ | ((conv=>whnf); first | exact trivial | exact rfl | refine And.intro ?_ ?_ | omega))
    conv=>whnf
    refine ⟨fun hc => absurd hc (by simp), fun hc => ?_⟩
    conv=>whnf
    refine call_step hF rfl rfl ?_
    conv=>whnf
    refine ⟨?_, ?_, ?_⟩
    iterate 2 · repeat' (first | exact trivial | exact rfl | refine And.intro ?_ ?_ | ((conv=>whnf); first | exact trivial | exact rfl | refine And.intro ?_ ?_ | omega))
    conv=>whnf
    refine ⟨fun hc => ?_, fun hc => ?_⟩
    · have hv : ok = false := by
        have : (d.id == 0) = true := hc
        rw [hz] at this
        simpa using this
      subst hv
      rw [if_neg (by simp)] at e
      subst e
      conv=>whnf
      repeat' (first | exact trivial | exact rfl | refine And.intro ?_ ?_ | ((conv=>whnf); first | exact trivial | exact rfl | refine And.intro ?_ ?_ | omega))
    have hv : ok = true := by
      have : (d.id == 0) = false := hc
      rw [hz] at this
      simpa using this
    subst hv
    conv=>whnf
    refine call_step hI rfl rfl ?_
    conv=>whnf
    refine ⟨?_, ?_, ?_⟩
    iterate 2 · repeat' (first | exact trivial | exact rfl | refine And.intro ?_ ?_ | ((conv=>whnf); first | exact trivial | exact rfl | refine And.intro ?_ ?_ | omega))
    conv=>whnf
    cases w1 with
    | true =>
      rw [if_pos (by simp)] at e
      subst e
      refine ⟨fun hc => absurd hc (by simp), fun hc => ?_⟩
      conv=>whnf
      repeat' (first | exact trivial | exact rfl | refine And.intro ?_ ?_ | ((conv=>whnf); first | exact trivial | exact rfl | refine And.intro ?_ ?_ | omega))
    | false =>
      rw [if_neg (by simp)] at e
      subst e
      refine ⟨fun hc => ?_, fun hc => absurd hc (by simp)⟩
      conv=>whnf
      repeat' (first | exact trivial | exact rfl | refine And.intro ?_ ?_ | ((conv=>whnf); first | exact trivial | exact rfl | refine And.intro ?_ ?_ | omega))
  · rw [if_neg h0] at e
    subst e
    generalize checkR r = c at *
    refine triple_of tB_ok Tryz.func85 rfl Tryz.call85 rfl ?_
    intro ρ w hH
    conv=>whnf
    refine call_step hC rfl rfl ?_
    conv=>whnf
    refine ⟨?_, ?_, ?_⟩
    iterate 2 · repeat' (first | exact trivial | exact rfl | refine And.intro ?_ ?_ | ((conv=>whnf); first | exact trivial | exact rfl | refine And.intro ?_ ?_ | omega))
    conv=>whnf
    refine ⟨fun hcc => ?_, fun hcc => absurd (by simpa using (show (c != 0) = false from hcc)) h0⟩
    conv=>whnf
    repeat' (first | exact trivial | exact rfl | refine And.intro ?_ ?_ | ((conv=>whnf); first | exact trivial | exact rfl | refine And.intro ?_ ?_ | omega))

theorem drift_moment (r : Rd) (m : Mom) : driftedF r m = if momentR r m = 0 then betweenF (boxR r [m]) (lnkR r [m]) (-1) ((objsF r).length + plF (momsF r [m]) m) else ((0, 0), momentR r m) := by
  unfold driftedF momentR
  by_cases h0 : checkR r = 0
  · rw [if_pos h0, if_pos h0]
    by_cases hm : momOK r m = true
    · rw [if_pos hm, if_pos hm, if_pos rfl]
    · rw [if_neg hm, if_neg hm, if_neg (by decide)]
  · rw [if_neg h0, if_neg h0, if_neg h0]

theorem moment_ok {r : Rd} {m : Mom} (h : momentR r m = 0) : RdOK r ∧ momOK r m = true := by
  unfold momentR at h
  by_cases h0 : checkR r = 0
  · rw [if_pos h0] at h
    by_cases hm : momOK r m = true
    · exact ⟨checkR_ok.1 h0, hm⟩
    · rw [if_neg hm] at h; cases h
  · rw [if_neg h0] at h; exact absurd h h0

set_option maxHeartbeats 1000000 in
theorem rDrifted_t (r : Rd) (m : Mom) (hs : Sml r) (hf : r.cs.length + r.ns.length + r.ws.length ≤ 24) : Triple Tryz.prog 36 [rdA r, svMom m] (rdH r) 4 (rngT (driftedF r m)) [] := by
  have e := drift_moment r m
  have hK := rMoment_t r m hs
  generalize driftedF r m = R at *
  by_cases h0 : momentR r m = 0
  · rw [if_pos h0] at e
    obtain ⟨h, hmo⟩ := moment_ok h0
    have hml : ∀ k ∈ [m], momOK r k = true := by simpa using hmo
    have hmm : m ∈ momsF r [m] := momsF_mem.2 (.inr (.inr (by simp)))
    have hsy := rd_sys h (more := [m]) (by simp) hml
    have hfw := rd_few (r := r) (more := [m]) (by simp) hf
    have hA := agrC_t hsy hfw
    have hW := rWith_t r [m] h (by simp) hml
    have hO := rObjects_t r hs
    have hol := objsF_len r
    have hml2 := momsF_len r [m]
    have hws := hs.ws
    have hbl : (momsF r [m]).length ≤ 100 := by simp at hml2; omega
    have hP := rAtMom_t (momsF r [m]) m (by omega)
    obtain ⟨pe, pl⟩ := plF_mem hmm
    have hpb : 0 ≤ plF (momsF r [m]) m ∧ plF (momsF r [m]) m < 100 := by omega
    rw [h0] at hK
    by_cases hc : Calm (boxR r [m]) (lnkR r [m]) 0
    · have hG := rngC_t hsy hfw hc noB (mom_bd hmm)
      have h2 := btw_ok hc (-1) ((objsF r).length + plF (momsF r [m]) m)
      rw [← e] at hG h2
      rw [decide_eq_true hc] at hA
      clear e hsy hfw hc pe pl hml2
      generalize boxR r [m] = bx at *
      generalize lnkR r [m] = lk at *
      generalize plF (momsF r [m]) m = p at *
      generalize momsF r [m] = ms at *
      generalize objsF r = os at *
      refine triple_of tB_ok Tryz.func36 rfl Tryz.call36 rfl ?_
      intro ρ w hH
      conv=>whnf
      refine call_step hK rfl rfl ?_
      conv=>whnf
      refine ⟨?_, ?_, ?_⟩
      iterate 2 · repeat' (first | exact trivial | exact rfl | refine And.intro ?_ ?_ | ((conv=>whnf); first | exact trivial | exact rfl | refine And.intro ?_ ?_ | omega))
      conv=>whnf
      refine ⟨fun hc => absurd hc (by simp), fun hc => ?_⟩
      conv=>whnf
      refine bs_step tB_ok (aMom [m]) rfl rfl ?_
      conv=>whnf
      refine ⟨⟨rfl, (by repeat' (first | exact trivial | exact rfl | refine And.intro ?_ ?_ | ((conv=>whnf); first | exact trivial | exact rfl | refine And.intro ?_ ?_ | omega)))⟩, ?_⟩
      conv=>whnf
      refine call_step hW rfl rfl ?_
      conv=>whnf
      refine ⟨?_, ?_, ?_⟩
      iterate 2 · repeat' (first | exact trivial | exact rfl | refine And.intro ?_ ?_ | ((conv=>whnf); first | exact trivial | exact rfl | refine And.intro ?_ ?_ | omega))
      conv=>whnf
      refine call_step hA rfl rfl ?_
      conv=>whnf
      refine ⟨?_, ?_, ?_⟩
      iterate 2 · repeat' (first | exact trivial | exact rfl | refine And.intro ?_ ?_ | ((conv=>whnf); first | exact trivial | exact rfl | refine And.intro ?_ ?_ | omega))
      conv=>whnf
      refine ⟨fun hc => absurd hc (by simp), fun hc => ?_⟩
      conv=>whnf
      refine call_step hO rfl rfl ?_
      conv=>whnf
      refine ⟨?_, ?_, ?_⟩
      iterate 2 · repeat' (first | exact trivial | exact rfl | refine And.intro ?_ ?_ | ((conv=>whnf); first | exact trivial | exact rfl | refine And.intro ?_ ?_ | omega))
      conv=>whnf
      refine call_step hP rfl rfl ?_
      conv=>whnf
      refine ⟨?_, ?_, ?_⟩
      iterate 2 · repeat' (first | exact trivial | exact rfl | refine And.intro ?_ ?_ | ((conv=>whnf); first | exact trivial | exact rfl | refine And.intro ?_ ?_ | omega))
      conv=>whnf
      refine ⟨(os.length : Int) + p, wrapId (z := (os.length : Int) + p) ⟨by omega, by omega⟩, ?_⟩
      conv=>whnf
      refine call_step hG rfl rfl ?_
      conv=>whnf
      refine ⟨?_, ?_, ?_⟩
      iterate 2 · repeat' (first | exact trivial | exact rfl | refine And.intro ?_ ?_ | ((conv=>whnf); first | exact trivial | exact rfl | refine And.intro ?_ ?_ | omega))
      conv=>whnf
      repeat' (first | exact trivial | exact rfl | refine And.intro ?_ ?_ | ((conv=>whnf); first | exact trivial | exact rfl | refine And.intro ?_ ?_ | omega))
      all_goals exact h2.symm
    · have h2 : R = ((0, 0), 9) := by rw [e]; unfold betweenF; rw [if_neg hc]
      subst h2
      rw [decide_eq_false hc] at hA
      clear e
      refine triple_of tB_ok Tryz.func36 rfl Tryz.call36 rfl ?_
      intro ρ w hH
      conv=>whnf
      refine call_step hK rfl rfl ?_
      conv=>whnf
      refine ⟨?_, ?_, ?_⟩
      iterate 2 · repeat' (first | exact trivial | exact rfl | refine And.intro ?_ ?_ | ((conv=>whnf); first | exact trivial | exact rfl | refine And.intro ?_ ?_ | omega))
      conv=>whnf
      refine ⟨fun hc => absurd hc (by simp), fun hc => ?_⟩
      conv=>whnf
      refine bs_step tB_ok (aMom [m]) rfl rfl ?_
      conv=>whnf
      refine ⟨⟨rfl, (by repeat' (first | exact trivial | exact rfl | refine And.intro ?_ ?_ | ((conv=>whnf); first | exact trivial | exact rfl | refine And.intro ?_ ?_ | omega)))⟩, ?_⟩
      conv=>whnf
      refine call_step hW rfl rfl ?_
      conv=>whnf
      refine ⟨?_, ?_, ?_⟩
      iterate 2 · repeat' (first | exact trivial | exact rfl | refine And.intro ?_ ?_ | ((conv=>whnf); first | exact trivial | exact rfl | refine And.intro ?_ ?_ | omega))
      conv=>whnf
      refine call_step hA rfl rfl ?_
      conv=>whnf
      refine ⟨?_, ?_, ?_⟩
      iterate 2 · repeat' (first | exact trivial | exact rfl | refine And.intro ?_ ?_ | ((conv=>whnf); first | exact trivial | exact rfl | refine And.intro ?_ ?_ | omega))
      conv=>whnf
      refine ⟨fun hc => ?_, fun hc => absurd hc (by simp)⟩
      conv=>whnf
      repeat' (first | exact trivial | exact rfl | refine And.intro ?_ ?_ | ((conv=>whnf); first | exact trivial | exact rfl | refine And.intro ?_ ?_ | omega))
  · rw [if_neg h0] at e
    subst e
    generalize momentR r m = c at *
    refine triple_of tB_ok Tryz.func36 rfl Tryz.call36 rfl ?_
    intro ρ w hH
    conv=>whnf
    refine call_step hK rfl rfl ?_
    conv=>whnf
    refine ⟨?_, ?_, ?_⟩
    iterate 2 · repeat' (first | exact trivial | exact rfl | refine And.intro ?_ ?_ | ((conv=>whnf); first | exact trivial | exact rfl | refine And.intro ?_ ?_ | omega))
    conv=>whnf
    refine ⟨fun hcc => ?_, fun hcc => absurd (by simpa using (show (c != 0) = false from hcc)) h0⟩
    conv=>whnf
    repeat' (first | exact trivial | exact rfl | refine And.intro ?_ ?_ | ((conv=>whnf); first | exact trivial | exact rfl | refine And.intro ?_ ?_ | omega))

end Go.Proofs

namespace Go
namespace Sx
open Go.Deep Go.ChangeShapes Go.WideShapes

end Sx
end Go

