/-
  A part of the proof that a law answers true: lemmas of a symbolic walk, plain functions, or contracts of the functions walked (Rg, Rh, Ri, Rl, Rm, Rn, Ro, Rp, Rq, Rr, Rt, Sx29, Sx46). Conditions: none.
-/
import Derived.Test.YtagedjfjcnemoaaGreatPart22
import Derived.Test.YtagedjfjcnemoaaGreatPart14
import Derived.Test.YtagedjfjcnemoaaGreatPart07
import Derived.Test.YtagedjfjcnemoaaGreatPart11
import Derived.Deep.Slices
import Derived.ChangeArms
import Derived.SizedLaws
set_option maxRecDepth 100000
set_option linter.unusedVariables false
set_option linter.unusedSimpArgs false
namespace Go.Proofs
open Go.Sx

theorem nil_at {P : Program} {F : FuncId} {rest : List SV} {k np : Nat} {o : SO} {H : Heap} {r : SV} {post : Heap} {pre suf : List SC} {sz : Nat} (h : Triple P F (.agg (pre ++ .s k 0 0 sz :: suf) :: rest) (H ++ [(k, false, o)]) np r post) (ho : nilO o) (hnp : np = k + 1)
    (hk : allLt k (nmsH H) = true) (hp : ∀ c ∈ pre ++ suf, ∀ j ∈ c.nms, j < k) (hr : nmsV rest = []) : Triple P F (.agg (pre ++ .v (.slice none 0 0) :: suf) :: rest) H k r post :=
  Triple.nilK h ho hnp hk (by
    intro ρ vals hv
    have hrest : ∀ (l : List SV) (vs : List Value), nmsV l = [] → relVs ρ l vs → relVs (upd ρ k ⟨0, 0, 0⟩) l vs := by
      intro l
      induction l with
      | nil => intro vs _ h; cases vs with
        | nil => trivial
        | cons a b => exact h.elim
      | cons s l ih =>
        intro vs hl h
        cases vs with
        | nil => exact h.elim
        | cons a b =>
          have h1 : s.nms = [] := (List.append_eq_nil_iff.1 hl).1
          have h2 : nmsV l = [] := (List.append_eq_nil_iff.1 hl).2
          exact ⟨SV.rel_agree (fun j hj => by have := SV.uses_nms.1 hj; rw [h1] at this; cases this) h.1, ih b h2 h.2⟩
    match vals, hv with
    | v :: vs, ⟨⟨xs, e, hx⟩, h2⟩ =>
      refine ⟨⟨xs, e, ?_⟩, hrest _ _ hr h2⟩
      have go : ∀ (pre : List SC) (l : List Value), (∀ c ∈ pre ++ suf, ∀ j ∈ c.nms, j < k) → relL ρ (pre ++ .v (.slice none 0 0) :: suf) l → relL (upd ρ k ⟨0, 0, 0⟩) (pre ++ .s k 0 0 sz :: suf) l := by
        intro pre
        induction pre with
        | nil =>
          intro l hp hl
          match l, hl with
          | w :: ws, ⟨h3, h4⟩ =>
            have h3 : w = .slice none 0 0 := h3
            subst h3
            refine ⟨⟨none, by rw [upd_eq]; rfl, by rw [upd_eq]; exact Nat.le_refl _, fun h => by rw [upd_eq] at h; cases h⟩, relL_agree (fun c hc j hj => upd_ne (Nat.ne_of_lt (hp c (by simpa using hc) j hj))) h4⟩
        | cons c r ih =>
          intro l hp hl
          match l, hl with
          | w :: ws, ⟨h3, h4⟩ => exact ⟨SC.rel_agree (fun j hj => upd_ne (Nat.ne_of_lt (hp c (by simp) j hj))) h3, ih ws (fun d hd => hp d (by simp at hd ⊢; exact .inr hd)) h4⟩
      exact go pre xs.toList hp hx)

theorem bInts_t (xs ys : List Int) (hb : xs.length ≤ 1000000) : Triple Tryz.prog 25 [.c (.s 0 0 xs.length 1), .c (.s 1 0 ys.length 1)] [(0, false, .arr (aInt xs)), (1, false, .arr (aInt ys))] 2 (bv (xs == ys)) [] := by
  refine triple_of tB_ok Tryz.func25 rfl Tryz.call25 rfl ?_
  intro ρ w hH
  conv=>whnf
  refine ⟨fun h => ?_, fun h => ?_⟩
  · conv=>whnf
    refine ⟨(?_ : false = (xs == ys)), trivial⟩
    have : xs ≠ ys := by rintro rfl; simp at h
    simp [this]
  · conv=>whnf
    refine loop_step tB_ok (G := Nat) 0 [] (fun i => [(13, iv .i64 i)]) (fun _ => []) (fun i => i ≤ xs.length ∧ xs.take i = ys.take i) (fun i => xs.length - i) ?_
    conv=>whnf
    have hl : xs.length = ys.length := by simp at h; omega
    refine ⟨⟨0, ⟨Nat.zero_le _, by simp⟩, ?_⟩, ?_⟩
    · conv=>whnf
      repeat' (first | exact trivial | exact rfl | refine And.intro ?_ ?_ | ((conv=>whnf); first | exact trivial | exact rfl | refine And.intro ?_ ?_ | omega))
    · rintro i ⟨hi, he⟩ ρ1 t1 hρ1
      conv=>whnf
      refine ⟨fun h1 => ?_, fun h1 => ?_⟩
      · have h1 : i < xs.length := by simpa using h1
        have h2 : i < ys.length := by omega
        conv=>whnf
        refine ⟨i, rfl, h1, h1, ?_⟩
        conv=>whnf
        refine ⟨i, rfl, h2, h2, ?_⟩
        conv=>whnf
        refine ⟨fun h3 => ?_, fun h3 => ?_⟩
        · have h3 : xs[i] ≠ ys[i] := by simpa using (show (xs[i] != ys[i]) = true from h3)
          have hne : ¬ xs = ys := by rintro rfl; exact h3 rfl
          conv=>whnf
          exact ⟨(by simp [hne] : false = (xs == ys)), trivial⟩
        · have h3 : xs[i] = ys[i] := by simpa using (show (xs[i] != ys[i]) = false from h3)
          conv=>whnf
          refine ⟨_, wrapId ⟨by omega, by omega⟩, ?_⟩
          refine ⟨i + 1, ⟨h1, ?_⟩, by show xs.length - (i + 1) < xs.length - i; omega, ?_⟩
          · rw [take_snoc h1, take_snoc h2, he, h3]
          conv=>whnf
          refine ⟨rfl, ?_⟩
          conv=>whnf
          repeat' (first | exact trivial | exact rfl | refine And.intro ?_ ?_ | ((conv=>whnf); first | exact trivial | exact rfl | refine And.intro ?_ ?_ | omega))
      · have hie : i = xs.length := by simp at h1; omega
        subst hie
        rw [List.take_length, hl, List.take_length] at he
        subst he
        conv=>whnf
        exact ⟨(by simp : true = (xs == xs)), trivial⟩

theorem scale_t : Triple Tryz.prog 76 [] [] 0 (svBal exSc) [] := by
  refine triple_of tB_ok Tryz.func76 rfl Tryz.call76 rfl ?_
  intro ρ w hH
  conv=>whnf
  repeat' (first | exact trivial | exact rfl | refine And.intro ?_ ?_ | ((conv=>whnf); first | exact trivial | exact rfl | refine And.intro ?_ ?_ | omega))
theorem gross_t : Triple Tryz.prog 77 [] [] 0 (svThg exGr) [] := by
  refine triple_of tB_ok Tryz.func77 rfl Tryz.call77 rfl ?_
  intro ρ w hH
  conv=>whnf
  repeat' (first | exact trivial | exact rfl | refine And.intro ?_ ?_ | ((conv=>whnf); first | exact trivial | exact rfl | refine And.intro ?_ ?_ | omega))
theorem tare_t : Triple Tryz.prog 78 [] [] 0 (svThg exTa) [] := by
  refine triple_of tB_ok Tryz.func78 rfl Tryz.call78 rfl ?_
  intro ρ w hH
  conv=>whnf
  repeat' (first | exact trivial | exact rfl | refine And.intro ?_ ?_ | ((conv=>whnf); first | exact trivial | exact rfl | refine And.intro ?_ ?_ | omega))

theorem ex_sml1 : Sml exR1 := ⟨by decide, by decide, by decide, by decide⟩
theorem ex_sml2 : Sml exR2 := ⟨by decide, by decide, by decide, by decide⟩
theorem ex_sml3 : Sml exR3 := ⟨by decide, by decide, by decide, by decide⟩
theorem ex_sml4 : Sml exR4 := ⟨by decide, by decide, by decide, by decide⟩
theorem ex_sml5 : Sml exR5 := ⟨by decide, by decide, by decide, by decide⟩
theorem ex_sml6 : Sml exR6 := ⟨by decide, by decide, by decide, by decide⟩

abbrev nilA (nb nw : Nat) : SV := .agg [.s 0 0 nb 6, .v (.slice none 0 0), .v (.slice none 0 0), .s 1 0 nw 8]
abbrev nilB (nb nc nw : Nat) : SV := .agg [.s 0 0 nb 6, .s 2 0 nc 5, .v (.slice none 0 0), .s 1 0 nw 8]

theorem nilNs {F : FuncId} {rest : List SV} {R : SV} {post : Heap} {bs : List Bal} {cs : List Chk} {ws : List Wgh} (h : Triple Tryz.prog F (rdA ⟨bs, cs, [], ws⟩ :: rest) (rdH ⟨bs, cs, [], ws⟩) 4 R post) (hr : nmsV rest = []) :
    Triple Tryz.prog F (nilB bs.length cs.length ws.length :: rest) [(0, false, .arr (aBal bs)), (1, false, .arr (aWgh ws)), (2, false, .arr (aChk cs))] 3 R post :=
  nil_at (k := 3) (o := .arr (aNtc [])) (pre := [.s 0 0 bs.length 6, .s 2 0 cs.length 5]) (suf := [.s 1 0 ws.length 8]) (H := [(0, false, .arr (aBal bs)), (1, false, .arr (aWgh ws)), (2, false, .arr (aChk cs))]) h rfl rfl rfl (by simp [SC.nms]) hr

theorem nilCs {F : FuncId} {rest : List SV} {R : SV} {post : Heap} {bs : List Bal} {ws : List Wgh} (h : Triple Tryz.prog F (rdA ⟨bs, [], [], ws⟩ :: rest) (rdH ⟨bs, [], [], ws⟩) 4 R post) (hr : nmsV rest = []) :
    Triple Tryz.prog F (nilA bs.length ws.length :: rest) [(0, false, .arr (aBal bs)), (1, false, .arr (aWgh ws))] 2 R post :=
  nil_at (k := 2) (o := .arr (aChk [])) (pre := [.s 0 0 bs.length 6]) (suf := [.v (.slice none 0 0), .s 1 0 ws.length 8]) (H := [(0, false, .arr (aBal bs)), (1, false, .arr (aWgh ws))]) (nilNs h hr) rfl rfl rfl (by simp [SC.nms]) hr

theorem pfxW {F : FuncId} {args : List SV} {H : Heap} {np : Nat} {R : SV} {post : Heap} {bs : List Bal} {w v : Wgh} (h : Triple Tryz.prog F args ([(0, false, .arr (aBal bs))] ++ (1, false, .arr (aWgh [w])) :: H) np R post) :
    Triple Tryz.prog F args ([(0, false, .arr (aBal bs))] ++ (1, false, .arr (aWgh [w, v])) :: H) np R post :=
  Triple.pfx (H1 := [(0, false, .arr (aBal bs))]) (H := H) 1 (o := .arr (aWgh [w, v])) h

theorem sanity_t : Triple Tryz.prog 16 [] [] 0 (bv true) [] := by
  have c1 := mass_t exR1 exGr ex_sml1
  rw [exT1] at c1
  have c1 := nilCs c1 rfl
  have c2 := drifted_t exR1 ⟨1, 5⟩ ex_sml1
  rw [exT2] at c2
  have c2 := nilCs c2 rfl
  have c3 := foreseeV_t exR1 ⟨0, 1, 6, exGr, 0⟩ ex_sml1
  rw [exT3] at c3
  have c3 := nilCs c3 rfl
  have c4 := loss_t exR2 exGr exTa ex_sml2
  rw [exT4] at c4
  have c4 := nilCs c4 rfl
  have c5 := drifted_t exR3 ⟨1, 5⟩ ex_sml3
  rw [exT5] at c5
  have c5 := pfxW (v := ⟨13, 1, 5, exTa, 40⟩) (nilNs c5 rfl)
  have c6 := drifted_t exR4 ⟨1, 5⟩ ex_sml4
  rw [exT6] at c6
  have c6 := pfxW (v := ⟨13, 1, 5, exTa, 40⟩) (nilNs c6 rfl)
  have c7 := mass_t exR5 exGr ex_sml5
  rw [exT7] at c7
  have c7 := pfxW (v := ⟨13, 1, 5, exTa, 40⟩) c7
  have c8 := needed_t exR5 exGr ex_sml5
  have e8 : neededF exR5 exGr = ([11, 12, 14], 0) := by unfold neededF; rw [exT10, exT7]; rfl
  rw [e8] at c8
  have c8 := pfxW (v := ⟨13, 1, 5, exTa, 40⟩) c8
  have c9 := mass_t exR6 exGr ex_sml6
  rw [exT8] at c9
  have c9 := pfxW (v := ⟨13, 1, 5, exTa, 40⟩) c9
  have ca := suspects_t exR6 ex_sml6
  have ea : suspectsF exR6 = ([12, 14], 0) := by unfold suspectsF; rw [exT11]; decide +kernel
  rw [ea] at ca
  have ca := pfxW (v := ⟨13, 1, 5, exTa, 40⟩) ca
  have cb := showing_t exSc 500 3
  have eb : showingF exSc 500 3 = ((495, 499), 0) := by decide +kernel
  rw [eb] at cb
  refine triple_of tB_ok Tryz.func16 rfl Tryz.call16 rfl ?_
  intro ρ w hH
  conv=>whnf
  refine call_step scale_t rfl rfl ?_
  conv=>whnf
  refine ⟨?_, ?_, ?_⟩
  iterate 2 · repeat' (first | exact trivial | exact rfl | refine And.intro ?_ ?_ | ((conv=>whnf); first | exact trivial | exact rfl | refine And.intro ?_ ?_ | omega))
  conv=>whnf
  refine bs_step tB_ok (aBal [exSc]) rfl rfl ?_
  conv=>whnf
  refine ⟨⟨rfl, (by repeat' (first | exact trivial | exact rfl | refine And.intro ?_ ?_ | ((conv=>whnf); first | exact trivial | exact rfl | refine And.intro ?_ ?_ | omega)))⟩, ?_⟩
  conv=>whnf
  refine call_step gross_t rfl rfl ?_
  conv=>whnf
  refine ⟨?_, ?_, ?_⟩
  iterate 2 · repeat' (first | exact trivial | exact rfl | refine And.intro ?_ ?_ | ((conv=>whnf); first | exact trivial | exact rfl | refine And.intro ?_ ?_ | omega))
  conv=>whnf
  refine bs_step tB_ok (aWgh [⟨11, 1, 5, exGr, 500⟩]) rfl rfl ?_
  conv=>whnf
  refine ⟨⟨rfl, (by repeat' (first | exact trivial | exact rfl | refine And.intro ?_ ?_ | ((conv=>whnf); first | exact trivial | exact rfl | refine And.intro ?_ ?_ | omega)))⟩, ?_⟩
  conv=>whnf
  refine call_step gross_t rfl rfl ?_
  conv=>whnf
  refine ⟨?_, ?_, ?_⟩
  iterate 2 · repeat' (first | exact trivial | exact rfl | refine And.intro ?_ ?_ | ((conv=>whnf); first | exact trivial | exact rfl | refine And.intro ?_ ?_ | omega))
  conv=>whnf
  refine call_step c1 rfl rfl ?_
  conv=>whnf
  refine ⟨?_, ?_, ?_⟩
  iterate 2 · repeat' (first | exact trivial | exact rfl | refine And.intro ?_ ?_ | ((conv=>whnf); first | exact trivial | exact rfl | refine And.intro ?_ ?_ | omega))
  conv=>whnf
  refine call_step c2 rfl rfl ?_
  conv=>whnf
  refine ⟨?_, ?_, ?_⟩
  iterate 2 · repeat' (first | exact trivial | exact rfl | refine And.intro ?_ ?_ | ((conv=>whnf); first | exact trivial | exact rfl | refine And.intro ?_ ?_ | omega))
  conv=>whnf
  refine call_step gross_t rfl rfl ?_
  conv=>whnf
  refine ⟨?_, ?_, ?_⟩
  iterate 2 · repeat' (first | exact trivial | exact rfl | refine And.intro ?_ ?_ | ((conv=>whnf); first | exact trivial | exact rfl | refine And.intro ?_ ?_ | omega))
  conv=>whnf
  refine call_step c3 rfl rfl ?_
  conv=>whnf
  refine ⟨?_, ?_, ?_⟩
  iterate 2 · repeat' (first | exact trivial | exact rfl | refine And.intro ?_ ?_ | ((conv=>whnf); first | exact trivial | exact rfl | refine And.intro ?_ ?_ | omega))
  conv=>whnf
  refine ⟨fun hc => absurd hc (by simp), fun hc => ?_⟩
  conv=>whnf
  refine ⟨fun hc => absurd hc (by simp), fun hc => ?_⟩
  conv=>whnf
  refine ⟨fun hc => absurd hc (by simp), fun hc => ?_⟩
  conv=>whnf
  refine ⟨fun hc => absurd hc (by simp), fun hc => ?_⟩
  conv=>whnf
  refine ⟨fun hc => absurd hc (by simp), fun hc => ?_⟩
  conv=>whnf
  refine ⟨fun hc => absurd hc (by simp), fun hc => ?_⟩
  conv=>whnf
  refine call_step tare_t rfl rfl ?_
  conv=>whnf
  refine ⟨?_, ?_, ?_⟩
  iterate 2 · repeat' (first | exact trivial | exact rfl | refine And.intro ?_ ?_ | ((conv=>whnf); first | exact trivial | exact rfl | refine And.intro ?_ ?_ | omega))
  conv=>whnf
  refine bs_step tB_ok (aWgh [⟨13, 1, 5, exTa, 40⟩]) rfl rfl ?_
  conv=>whnf
  refine ⟨⟨rfl, (by repeat' (first | exact trivial | exact rfl | refine And.intro ?_ ?_ | ((conv=>whnf); first | exact trivial | exact rfl | refine And.intro ?_ ?_ | omega)))⟩, ?_⟩
  conv=>whnf
  refine app_step tB_ok (aWgh [⟨11, 1, 5, exGr, 500⟩]) [(⟨13, 1, 5, exTa, 40⟩ : Wgh)] (fun _ => rfl) rfl rfl rfl rfl ?_
  conv=>whnf
  refine ⟨⟨rfl, rfl, Nat.le_refl _, Nat.le_refl _, by decide⟩, ?_⟩
  conv=>whnf
  refine call_step gross_t rfl rfl ?_
  conv=>whnf
  refine ⟨?_, ?_, ?_⟩
  iterate 2 · repeat' (first | exact trivial | exact rfl | refine And.intro ?_ ?_ | ((conv=>whnf); first | exact trivial | exact rfl | refine And.intro ?_ ?_ | omega))
  conv=>whnf
  refine call_step tare_t rfl rfl ?_
  conv=>whnf
  refine ⟨?_, ?_, ?_⟩
  iterate 2 · repeat' (first | exact trivial | exact rfl | refine And.intro ?_ ?_ | ((conv=>whnf); first | exact trivial | exact rfl | refine And.intro ?_ ?_ | omega))
  conv=>whnf
  refine call_step c4 rfl rfl ?_
  conv=>whnf
  refine ⟨?_, ?_, ?_⟩
  iterate 2 · repeat' (first | exact trivial | exact rfl | refine And.intro ?_ ?_ | ((conv=>whnf); first | exact trivial | exact rfl | refine And.intro ?_ ?_ | omega))
  conv=>whnf
  refine ⟨fun hc => absurd hc (by simp), fun hc => ?_⟩
  conv=>whnf
  refine ⟨fun hc => absurd hc (by simp), fun hc => ?_⟩
  conv=>whnf
  refine ⟨1, rfl, by decide, ?_⟩
  conv=>whnf
  refine ⟨Nat.zero_le _, ?_⟩
  conv=>whnf
  refine bs_step tB_ok (aChk [⟨12, 1, 3, 100, 97⟩]) rfl rfl ?_
  conv=>whnf
  refine ⟨⟨rfl, (by repeat' (first | exact trivial | exact rfl | refine And.intro ?_ ?_ | ((conv=>whnf); first | exact trivial | exact rfl | refine And.intro ?_ ?_ | omega)))⟩, ?_⟩
  conv=>whnf
  refine call_step c5 rfl rfl ?_
  conv=>whnf
  refine ⟨?_, ?_, ?_⟩
  iterate 2 · repeat' (first | exact trivial | exact rfl | refine And.intro ?_ ?_ | ((conv=>whnf); first | exact trivial | exact rfl | refine And.intro ?_ ?_ | omega))
  conv=>whnf
  refine ⟨0, rfl, by decide, by decide, ⟨12, 1, 5, 100, 97⟩, rfl, ?_⟩
  conv=>whnf
  refine call_step c6 rfl rfl ?_
  conv=>whnf
  refine ⟨?_, ?_, ?_⟩
  iterate 2 · repeat' (first | exact trivial | exact rfl | refine And.intro ?_ ?_ | ((conv=>whnf); first | exact trivial | exact rfl | refine And.intro ?_ ?_ | omega))
  conv=>whnf
  refine ⟨fun hc => absurd hc (by simp), fun hc => ?_⟩
  conv=>whnf
  refine ⟨fun hc => absurd hc (by simp), fun hc => ?_⟩
  conv=>whnf
  refine ⟨fun hc => absurd hc (by simp), fun hc => ?_⟩
  conv=>whnf
  refine ⟨fun hc => absurd hc (by simp), fun hc => ?_⟩
  conv=>whnf
  refine bs_step tB_ok (aNtc [⟨14, 1, 0, 9, 4, 30⟩]) rfl rfl ?_
  conv=>whnf
  refine ⟨⟨rfl, (by repeat' (first | exact trivial | exact rfl | refine And.intro ?_ ?_ | ((conv=>whnf); first | exact trivial | exact rfl | refine And.intro ?_ ?_ | omega)))⟩, ?_⟩
  conv=>whnf
  refine call_step gross_t rfl rfl ?_
  conv=>whnf
  refine ⟨?_, ?_, ?_⟩
  iterate 2 · repeat' (first | exact trivial | exact rfl | refine And.intro ?_ ?_ | ((conv=>whnf); first | exact trivial | exact rfl | refine And.intro ?_ ?_ | omega))
  conv=>whnf
  refine call_step c7 rfl rfl ?_
  conv=>whnf
  refine ⟨?_, ?_, ?_⟩
  iterate 2 · repeat' (first | exact trivial | exact rfl | refine And.intro ?_ ?_ | ((conv=>whnf); first | exact trivial | exact rfl | refine And.intro ?_ ?_ | omega))
  conv=>whnf
  refine call_step gross_t rfl rfl ?_
  conv=>whnf
  refine ⟨?_, ?_, ?_⟩
  iterate 2 · repeat' (first | exact trivial | exact rfl | refine And.intro ?_ ?_ | ((conv=>whnf); first | exact trivial | exact rfl | refine And.intro ?_ ?_ | omega))
  conv=>whnf
  refine call_step c8 rfl rfl ?_
  conv=>whnf
  refine ⟨?_, ?_, ?_⟩
  iterate 2 · repeat' (first | exact trivial | exact rfl | refine And.intro ?_ ?_ | ((conv=>whnf); first | exact trivial | exact rfl | refine And.intro ?_ ?_ | omega))
  conv=>whnf
  refine ⟨fun hc => absurd hc (by simp), fun hc => ?_⟩
  conv=>whnf
  refine ⟨fun hc => absurd hc (by simp), fun hc => ?_⟩
  conv=>whnf
  refine ⟨fun hc => absurd hc (by simp), fun hc => ?_⟩
  conv=>whnf
  refine bs_step tB_ok (aInt [11, 12, 14]) rfl rfl ?_
  conv=>whnf
  refine ⟨⟨rfl, (by repeat' (first | exact trivial | exact rfl | refine And.intro ?_ ?_ | ((conv=>whnf); first | exact trivial | exact rfl | refine And.intro ?_ ?_ | omega)))⟩, ?_⟩
  conv=>whnf
  refine call_step (bInts_t [11, 12, 14] [11, 12, 14] (by decide)) rfl rfl ?_
  conv=>whnf
  refine ⟨?_, ?_, ?_⟩
  iterate 2 · repeat' (first | exact trivial | exact rfl | refine And.intro ?_ ?_ | ((conv=>whnf); first | exact trivial | exact rfl | refine And.intro ?_ ?_ | omega))
  conv=>whnf
  refine ⟨fun hc => absurd hc (by simp), fun hc => ?_⟩
  conv=>whnf
  refine ⟨0, rfl, by decide, by decide, ⟨14, 1, 0, 9, 6, 30⟩, rfl, ?_⟩
  conv=>whnf
  refine call_step gross_t rfl rfl ?_
  conv=>whnf
  refine ⟨?_, ?_, ?_⟩
  iterate 2 · repeat' (first | exact trivial | exact rfl | refine And.intro ?_ ?_ | ((conv=>whnf); first | exact trivial | exact rfl | refine And.intro ?_ ?_ | omega))
  conv=>whnf
  refine call_step c9 rfl rfl ?_
  conv=>whnf
  refine ⟨?_, ?_, ?_⟩
  iterate 2 · repeat' (first | exact trivial | exact rfl | refine And.intro ?_ ?_ | ((conv=>whnf); first | exact trivial | exact rfl | refine And.intro ?_ ?_ | omega))
  conv=>whnf
  refine call_step ca rfl rfl ?_
  conv=>whnf
  refine ⟨?_, ?_, ?_⟩
  iterate 2 · repeat' (first | exact trivial | exact rfl | refine And.intro ?_ ?_ | ((conv=>whnf); first | exact trivial | exact rfl | refine And.intro ?_ ?_ | omega))
  conv=>whnf
  refine call_step scale_t rfl rfl ?_
  conv=>whnf
  refine ⟨?_, ?_, ?_⟩
  iterate 2 · repeat' (first | exact trivial | exact rfl | refine And.intro ?_ ?_ | ((conv=>whnf); first | exact trivial | exact rfl | refine And.intro ?_ ?_ | omega))
  conv=>whnf
  refine call_step cb rfl rfl ?_
  conv=>whnf
  refine ⟨?_, ?_, ?_⟩
  iterate 2 · repeat' (first | exact trivial | exact rfl | refine And.intro ?_ ?_ | ((conv=>whnf); first | exact trivial | exact rfl | refine And.intro ?_ ?_ | omega))
  conv=>whnf
  refine ⟨fun hc => ?_, fun hc => absurd hc (by simp)⟩
  conv=>whnf
  refine ⟨fun hc => ?_, fun hc => absurd hc (by simp)⟩
  conv=>whnf
  refine bs_step tB_ok (aInt [12, 14]) rfl rfl ?_
  conv=>whnf
  refine ⟨⟨rfl, (by repeat' (first | exact trivial | exact rfl | refine And.intro ?_ ?_ | ((conv=>whnf); first | exact trivial | exact rfl | refine And.intro ?_ ?_ | omega)))⟩, ?_⟩
  conv=>whnf
  refine call_step (bInts_t [12, 14] [12, 14] (by decide)) rfl rfl ?_
  conv=>whnf
  refine ⟨?_, ?_, ?_⟩
  iterate 2 · repeat' (first | exact trivial | exact rfl | refine And.intro ?_ ?_ | ((conv=>whnf); first | exact trivial | exact rfl | refine And.intro ?_ ?_ | omega))
  conv=>whnf
  refine ⟨fun hc => ?_, fun hc => absurd hc (by simp)⟩
  conv=>whnf
  refine ⟨fun hc => ?_, fun hc => absurd hc (by simp)⟩
  conv=>whnf
  repeat' (first | exact trivial | exact rfl | refine And.intro ?_ ?_ | ((conv=>whnf); first | exact trivial | exact rfl | refine And.intro ?_ ?_ | omega))

end Go.Proofs

namespace Go.Proofs
open Go.Sx

end Go.Proofs

namespace Go.Proofs
open Go.Sx

end Go.Proofs

namespace Go.Proofs
open Go.Sx

end Go.Proofs

namespace Go.Proofs
open Go.Sx

end Go.Proofs

namespace Go.Proofs
open Go.Sx

end Go.Proofs

namespace Go.Proofs
open Go.Sx

end Go.Proofs

namespace Go.Proofs
open Go.Sx

end Go.Proofs

namespace Go.Proofs
open Go.Sx

end Go.Proofs

namespace Go.Proofs
open Go.Sx

end Go.Proofs

namespace Go.Proofs
open Go.Sx


end Go.Proofs

namespace Go
namespace Sx
open Go.Deep Go.ChangeShapes Go.WideShapes

end Sx
end Go

namespace Go
namespace Sx
open Go.Deep Go.ChangeShapes Go.WideShapes

structure AllI (P : Program) (t n : Nat) : Prop where
  cells : P.cellsOf t = n
  op : ∀ {H : Type} {enc : TypeId × Value → H} {w : World} {held : Bool} {fuel : Nat} {cs : List Value} {x : DataW H × List MemPlace}, DataW.trod enc P w 0 (fun _ => true) held fuel t cs = some x →
    cs.length = n ∧ ∃ V : Nat → Int, ∀ j, j < n → cs[j]? = some (.int .i64 (V j))

theorem allI_int {P : Program} {t : Nat} (h : P.underlying t = some (.int .i64)) (hc : P.cellsOf t = 1) : AllI P t 1 where
  cells := hc
  op := by
    intro H enc w held fuel cs x hx
    obtain ⟨n, rfl, _, _⟩ := DataW.trod_int h hx
    exact ⟨rfl, fun _ => n, fun j hj => by obtain rfl : j = 0 := by omega
                                           rfl⟩

def AllFs (P : Program) : List Field → Nat → Nat → Prop
  | [], j, n => j = n
  | f :: r, j, n => ∃ m, f.offset = j ∧ AllI P f.type m ∧ AllFs P r (j + m) n

theorem allFs_get {P : Program} {H : Type} {enc : TypeId × Value → H} {w : World} {held : Bool} {fuel n : Nat} {cs : List Value} (hl : cs.length = n) : ∀ {fs : List Field} {j : Nat}, AllFs P fs j n →
    (∀ f ∈ fs, ∃ x, DataW.trod enc P w 0 (fun _ => true) held fuel f.type ((cs.drop f.offset).take (P.cellsOf f.type)) = some x) →
    ∃ V : Nat → Int, ∀ i, j ≤ i → i < n → cs[i]? = some (.int .i64 (V i))
  | [], j, h, _ => ⟨fun _ => 0, fun i h1 h2 => by have h : j = n := h; omega⟩
  | f :: r, j, ⟨m, ho, hA, hr⟩, hx => by
    obtain ⟨V2, hV2⟩ := allFs_get hl hr fun g hg => hx g (List.mem_cons_of_mem _ hg)
    obtain ⟨x, hx⟩ := hx f (List.mem_cons_self ..)
    rw [ho, hA.cells] at hx
    obtain ⟨_, V1, hV1⟩ := hA.op hx
    refine ⟨fun i => if i < j + m then V1 (i - j) else V2 i, fun i h1 h2 => ?_⟩
    by_cases hi : i < j + m
    · dsimp only
      rw [if_pos hi]
      have := hV1 (i - j) (by omega)
      rw [List.getElem?_take, if_pos (by omega), List.getElem?_drop] at this
      rw [← this]; congr 1; omega
    · dsimp only
      rw [if_neg hi]
      exact hV2 i (by omega) h2

theorem allI_struct {P : Program} {t n : Nat} {fs : Array Field} (h : P.underlying t = some (.struct fs)) (hc : P.cellsOf t = n) (hF : AllFs P fs.toList 0 n) : AllI P t n where
  cells := hc
  op := by
    intro H enc w held fuel cs x hx
    obtain ⟨xs, k, _, _, hl, hxl, hff⟩ := DataW.trod_struct h hx
    rw [hc] at hl
    obtain ⟨V, hV⟩ := allFs_get hl hF fun f hf => by
      obtain ⟨i, hi⟩ := List.mem_iff_getElem?.1 hf
      have := hff i f (by simpa using hi)
      have hlt : i < xs.length := by rw [hxl]; have := (List.getElem?_eq_some_iff.1 hi).1; simpa using this
      rw [List.getElem?_eq_getElem hlt] at this
      exact ⟨_, this⟩
    exact ⟨hl, V, fun j hj => hV j (Nat.zero_le _) hj⟩

theorem open_slI {H : Type} {enc : TypeId × Value → H} {P : Program} {w : World} {held : Bool} {t e n fuel : Nat} {cs : List Value} {x : DataW H × List MemPlace}
    (ht : P.underlying t = some (.slice e)) (he : AllI P e n) (hpos : 0 < n) (hby : 1 ≤ P.bytesOf e) (hw : ∀ y ∈ x.1.weights P t, y ≤ reachBytes)
    (h : DataW.trod enc P w 0 (fun _ => true) held fuel t cs = some x) :
    (∃ a, cs = [.slice a 0 0]) ∨ ∃ (b off len cap : Nat) (V : Nat → Nat → Int), cs = [.slice (some ⟨b, off, none⟩) len cap] ∧ len ≤ cap ∧ len ≤ reachBytes ∧ b < w.heap.size ∧
      ∀ i, i < len → ∀ j, j < n → w.cell? ⟨b, off + (i * n + j), none⟩ = some (.int .i64 (V i j)) := by
  rcases open_slice ht h with ⟨h0, _⟩ | ⟨a, len, cap, m, n', D, Pl, rfl, hb, hl, hm, hmm, hxx, hx⟩
  · exact .inl ⟨none, h0⟩
  simp only [if_true] at hmm
  subst hmm
  rcases Nat.eq_zero_or_pos m with rfl | hcp
  · have : len = 0 := by omega
    subst this
    exact .inl ⟨some a, rfl⟩
  right
  have hle : len ≤ reachBytes := by
    subst hxx
    have := hw ((len + (m - len)) * P.bytesOf e) (by simp [DataW.weights, ht])
    have h2 : len * 1 ≤ (len + (m - len)) * P.bytesOf e := Nat.mul_le_mul (by omega) hby
    omega
  have each : ∀ i, i < m → ∃ V : Nat → Int, ∀ j, j < n → w.cell? (a.add (i * n + j)) = some (.int .i64 (V j)) := by
    intro i hi
    obtain ⟨cs', g1, g2⟩ := hx i hi
    rw [he.cells] at g1
    obtain ⟨_, hlen, hcell⟩ := World.cells?_some g1
    obtain ⟨_, V, hV⟩ := he.op g2
    refine ⟨V, fun j hj => ?_⟩
    have hc := hcell j hj
    rw [hV j hj, add_add] at hc
    exact hc
  obtain ⟨V, hV⟩ := choose_lt (α := Nat → Int) (p := fun i f => ∀ j, j < n → w.cell? (a.add (i * n + j)) = some (.int .i64 (f j))) each
  have h00 := hV 0 hcp 0 hpos
  obtain ⟨b, off, spot⟩ := a
  have hs : spot = none := by simpa [Addr.add] using World.cell?_spot h00
  subst hs
  refine ⟨b, off, len, m, V, rfl, hl, hle, ?_, fun i hi j hj => ?_⟩
  · have h00' : w.cell? ⟨b, off, none⟩ = some (.int .i64 (V 0 0)) := by simpa [Addr.add] using h00
    rcases Nat.lt_or_ge b w.heap.size with hlt | hge
    · exact hlt
    · simp [World.cell?, Array.getElem?_eq_none hge] at h00'
  · have := hV i (by omega) j hj
    rwa [add_plain] at this

theorem satO_cameR {ρ : Asg} {w : World} {k : Nat} {A : Arr} (hl : A.xs.length ≤ (ρ k).cap) (h : ∀ i x, A.xs[i]? = some x → ∀ j c, (A.enc x)[j]? = some c → ∃ v, w.cell? (adr ρ k (i * A.sz + j)) = some v ∧ c.rel ρ v) :
    SatO ρ w k false (.arr A) where
  wf := hl
  at_ i j c hc := by
    rw [Sx.arr_cell?] at hc
    cases hx : A.xs[i]? with
    | none => rw [hx] at hc; cases hc
    | some x => rw [hx] at hc; exact h i x hx j c hc
  room h := by cases h
  off0 h := by cases h
  keys Φ h := by cases h

theorem key_sl {α : Type} {H : Type} {enc : TypeId × Value → H} {P : Program} {w : World} {held : Bool} {t e n fuel : Nat} {a : Value} {x : DataW H × List MemPlace} (f : α → List Int) (hf : ∀ x, (f x).length = n) (mk : (Nat → Int) → α)
    (hmk : ∀ V j z, (f (mk V))[j]? = some z → j < n ∧ z = V j)
    (ht : P.underlying t = some (.slice e)) (he : AllI P e n) (hpos : 0 < n) (hby : 1 ≤ P.bytesOf e) (hw : ∀ y ∈ x.1.weights P t, y ≤ reachBytes)
    (h : DataW.trod enc P w 0 (fun _ => true) held fuel t [a] = some x) (k : Nat) :
    ∃ (xs : List α) (r : Rg), xs.length ≤ reachBytes ∧ ∀ ρ : Asg, ρ k = r → (SC.s k 0 xs.length n).rel ρ a ∧ SatO ρ w k false (.arr (aRec n f hf xs)) ∧ (0 < r.cap → r.blk < w.heap.size) := by
  rcases open_slI ht he hpos hby hw h with ⟨a0, ha⟩ | ⟨bb, off, len, cap, V, ha, hle, hlr, hblk, hcell⟩
  · simp at ha; subst ha
    exact ⟨[], ⟨0, 0, 0⟩, Nat.zero_le _, fun ρ hρ => ⟨⟨a0, by rw [hρ]; rfl, by rw [hρ]; exact Nat.le_refl _, fun h => by rw [hρ] at h; cases h⟩, satO_cameR (Nat.zero_le _) (fun i x hx => by cases hx), fun h => by cases h⟩⟩
  · simp at ha; subst ha
    have hlen : ((List.range len).map fun i => mk (V i)).length = len := by simp
    refine ⟨(List.range len).map fun i => mk (V i), ⟨bb, off, cap⟩, by rw [hlen]; exact hlr, fun ρ hρ => ⟨?_, satO_cameR ?_ ?_, fun _ => hblk⟩⟩
    · rw [hlen]
      exact ⟨_, by rw [hρ]; rfl, by rw [hρ]; show 0 + len ≤ cap; omega, fun _ => by simp [adr, hρ]⟩
    · show ((List.range len).map fun i => mk (V i)).length ≤ _
      rw [hlen, hρ]; exact hle
    · intro i x hx j c hc
      have hx : ((List.range len).map fun i => mk (V i))[i]? = some x := hx
      rw [List.getElem?_map] at hx
      obtain ⟨i', hi', rfl⟩ := Option.map_eq_some_iff.1 hx
      obtain ⟨hil, hie⟩ := List.getElem?_eq_some_iff.1 hi'
      have hil : i < len := by simpa using hil
      have hie : i' = i := by simpa using hie.symm
      subst hie
      have hc : (encI (f (mk (V i'))))[j]? = some c := hc
      obtain ⟨z, hz, rfl⟩ := encI_get hc
      obtain ⟨hj, rfl⟩ := hmk (V i') j z hz
      show ∃ v, w.cell? (adr ρ k (i' * n + j)) = some v ∧ _
      rw [show adr ρ k (i' * n + j) = ⟨bb, off + (i' * n + j), none⟩ from by simp [adr, hρ]]
      exact ⟨_, hcell i' hil j hj, rfl⟩

end Sx
end Go

