/-
  A part of the proof that a law of dryweightlaw03 answers true: lemmas of a symbolic walk, plain functions, or contracts of the functions walked (Zz). Conditions: none.
-/
import Derived.Test.YtjjfadfmdodmnaaPart27
import Derived.Test.YtjjfadfmdodmnaaPart22
set_option maxRecDepth 100000
set_option linter.unusedVariables false
set_option linter.unusedSimpArgs false
set_option maxHeartbeats 4000000
namespace Go.Proofs
open Go.Sx

theorem bentNil_t (x : Bnd) : Triple Try.prog 74 [.c (.v (.slice none 0 0)), bendA x] [] 0 (.c (.s 1 0 (bentF [] x).length 5)) [(1, true, .arr (aUse (bentF [] x)))] := by
  refine Triple.nilK (k := 0) (o := .arr (aUse [])) (H := []) (bent_t [] x (by simp)) rfl rfl rfl ?_
  intro ρ vals hv
  match vals, hv with
  | [a, b], ⟨ha, hb, _⟩ =>
    have ha : a = .slice none 0 0 := ha
    subst ha
    refine ⟨⟨none, by rw [upd_eq]; rfl, by rw [upd_eq]; exact Nat.le_refl _, fun h => by rw [upd_eq] at h; cases h⟩, ?_, trivial⟩
    exact SV.rel_agree (fun k hk => by simp [SV.uses, usesL, SC.uses, SC.nms, anyMem] at hk) hb

theorem shiftedNil_t (x : Bnd) : Triple Try.prog 75 [.c (.v (.slice none 0 0)), bendA x] [] 0 (.c (.s 1 0 (shiftF [] x).length 1)) [(1, true, .arr (aInt (shiftF [] x)))] := by
  refine Triple.nilK (k := 0) (o := .arr (aInt [])) (H := []) (shifted_t [] x (by simp)) rfl rfl rfl ?_
  intro ρ vals hv
  match vals, hv with
  | [a, b], ⟨ha, hb, _⟩ =>
    have ha : a = .slice none 0 0 := ha
    subst ha
    refine ⟨⟨none, by rw [upd_eq]; rfl, by rw [upd_eq]; exact Nat.le_refl _, fun h => by rw [upd_eq] at h; cases h⟩, ?_, trivial⟩
    exact SV.rel_agree (fun k hk => by simp [SV.uses, usesL, SC.uses, SC.nms, anyMem] at hk) hb

theorem wrap_bd (z : Int) : -9223372036854775808 ≤ IntKind.i64.wrap z ∧ IntKind.i64.wrap z ≤ 9223372036854775807 := by
  rw [IntKind.wrap_i64]; omega

theorem shiftF_bd {p : List Int} (x : Bnd) (h : ∀ y ∈ p, -9223372036854775808 ≤ y ∧ y ≤ 9223372036854775807) : ∀ y ∈ shiftF p x, -9223372036854775808 ≤ y ∧ y ≤ 9223372036854775807 := by
  unfold shiftF
  split
  · intro y hy
    rcases List.mem_or_eq_of_mem_set hy with hy | rfl
    · exact h y hy
    · exact wrap_bd _
  · exact h

theorem systemTampers_t (bs : List (Int × Int)) (ls : List Lnk) (form den : List (Int × Int)) (x : Bnd) :
    Triple Try.prog 18 [sysA bs.length ls.length, .c (.s 2 0 form.length 2), .c (.s 3 0 den.length 2), bendA x] (sysH bs ls ++ [(2, false, .arr (aSpan form)), (3, false, .arr (aSpan den))]) 4 (bv true) [] := by
  have hnil : ∀ y ∈ ([] : List Int), -9223372036854775808 ≤ y ∧ y ≤ 9223372036854775807 := fun y hy => by cases hy
  have h00 : (-9223372036854775808 : Int) ≤ 0 ∧ (0 : Int) ≤ 9223372036854775807 := ⟨by decide, by decide⟩
  cases hfe : fewF bs ls with
  | false =>
    refine triple_of tB_ok Try.func18 rfl Try.call18 rfl ?_
    intro ρ w hH
    conv => whnf
    refine call_step head_t rfl rfl ?_
    conv => whnf
    refine ⟨(by repeat' (first | exact trivial | exact rfl | refine And.intro ?_ ?_ | ((conv => whnf); first | exact trivial | exact rfl | refine And.intro ?_ ?_ | omega))), (by repeat' (first | exact trivial | exact rfl | refine And.intro ?_ ?_ | ((conv => whnf); first | exact trivial | exact rfl | refine And.intro ?_ ?_ | omega))), ?_⟩
    conv => whnf
    refine call_step (few_t bs ls) rfl rfl ?_
    conv => whnf
    refine ⟨(by repeat' (first | exact trivial | exact rfl | refine And.intro ?_ ?_ | ((conv => whnf); first | exact trivial | exact rfl | refine And.intro ?_ ?_ | omega))), (by repeat' (first | exact trivial | exact rfl | refine And.intro ?_ ?_ | ((conv => whnf); first | exact trivial | exact rfl | refine And.intro ?_ ?_ | omega))), ?_⟩
    conv => whnf
    rw [hfe]
    refine ⟨fun hc => ?_, fun hc => absurd hc (by simp)⟩
    conv => whnf
    repeat' (first | exact trivial | exact rfl | refine And.intro ?_ ?_ | ((conv => whnf); first | exact trivial | exact rfl | refine And.intro ?_ ?_ | omega))
  | true =>
    have hf : bs.length ≤ 14 ∧ ls.length ≤ 40 := by simpa [fewF] using hfe
    by_cases hn : form.length ≤ 40
    · by_cases hd : den.length ≤ 40
      · by_cases h : NetOK bs ls
        · have ptb : ∀ {pt : List Int}, (allowsF bs ls pt).2 = true → ∀ y ∈ pt, -9223372036854775808 ≤ y ∧ y ≤ 9223372036854775807 := fun {pt} hpt y hy => by
            obtain ⟨a1, a2⟩ := (allows_iff h.sys).1 hpt
            have := pot_bd h.sys a1 a2 y hy
            omega
          have ptl : ∀ {pt : List Int}, (allowsF bs ls pt).2 = true → pt.length = bs.length := fun {pt} hpt => ((allows_iff h.sys).1 hpt).1
          by_cases hfo : formF form bs.length = 0
          · obtain ⟨v, us, pt, hbest, hvb, hul, hal, _, _⟩ := best_call h.w hfo
            have hpb := ptb hal
            have hpl := ptl hal
            have hv : -9223372036854775808 ≤ v ∧ v ≤ 9223372036854775807 := by omega
            have htc : (∃ c, Triple Try.prog 59 [.c (.p 0 0 0 0), .c (.s 3 0 form.length 2), .c (.s 4 0 den.length 2)] ((3, false, .arr (aSpan form)) :: (4, false, .arr (aSpan den)) :: netH bs ls) 5
                (.tup [.inr [.v (.int .i64 0), .v (.int .i64 0), .v (.slice none 0 0), .v (.slice none 0 0)], .inl (.v (.int .i64 c))]) []) ∨
                (∃ p q us pt', Triple Try.prog 59 [.c (.p 0 0 0 0), .c (.s 3 0 form.length 2), .c (.s 4 0 den.length 2)] ((3, false, .arr (aSpan form)) :: (4, false, .arr (aSpan den)) :: netH bs ls) 5
                (.tup [.inr [.v (.int .i64 p), .v (.int .i64 q), .s 5 0 us.length 5, .s 6 0 pt'.length 1], .inl (.v (.int .i64 0))]) [(5, true, .arr (aUse us)), (6, true, .arr (aInt pt'))] ∧ us.length ≤ 2000 ∧ (allowsF bs ls pt').2 = true) := by
              by_cases hFo : formsF bs form den = 0
              · obtain ⟨v, us0, pt0, _, _, _, _, _, _, _, hm, hcase⟩ := top_cases h.w (by omega) (by omega) hFo
                rcases hcase with ⟨_, hT⟩ | ⟨hv, p, q, us, pt', hT, hok, _, _⟩
                · exact .inl ⟨3, hT⟩
                · exact .inr ⟨p, q, us, pt', hT, hok.ul, hok.al⟩
              · exact .inl ⟨_, topDiv_t bs ls form den (by omega) (by omega) (by omega) hFo⟩
            rcases htc with ⟨c, htop⟩ | ⟨p, q, us2, pt2, htop, hul2, hal2⟩
            · skip
              refine triple_of tB_ok Try.func18 rfl Try.call18 rfl ?_
              intro ρ w hH
              conv => whnf
              refine call_step head_t rfl rfl ?_
              conv => whnf
              refine ⟨(by repeat' (first | exact trivial | exact rfl | refine And.intro ?_ ?_ | ((conv => whnf); first | exact trivial | exact rfl | refine And.intro ?_ ?_ | omega))), (by repeat' (first | exact trivial | exact rfl | refine And.intro ?_ ?_ | ((conv => whnf); first | exact trivial | exact rfl | refine And.intro ?_ ?_ | omega))), ?_⟩
              conv => whnf
              refine call_step (few_t bs ls) rfl rfl ?_
              conv => whnf
              refine ⟨(by repeat' (first | exact trivial | exact rfl | refine And.intro ?_ ?_ | ((conv => whnf); first | exact trivial | exact rfl | refine And.intro ?_ ?_ | omega))), (by repeat' (first | exact trivial | exact rfl | refine And.intro ?_ ?_ | ((conv => whnf); first | exact trivial | exact rfl | refine And.intro ?_ ?_ | omega))), ?_⟩
              conv => whnf
              rw [hfe]
              refine ⟨fun hc => absurd hc (by simp), fun hc => ?_⟩
              conv => whnf
              refine ⟨fun hc => absurd (of_decide_eq_true (show decide ((40 : Int) < form.length) = true from hc)) (by omega), fun hc => ?_⟩
              conv => whnf
              refine ⟨fun hc => absurd (of_decide_eq_true (show decide ((40 : Int) < den.length) = true from hc)) (by omega), fun hc => ?_⟩
              conv => whnf
              refine call_step (netYes_t bs ls h) rfl rfl ?_
              conv => whnf
              refine ⟨(by repeat' (first | exact trivial | exact rfl | refine And.intro ?_ ?_ | ((conv => whnf); first | exact trivial | exact rfl | refine And.intro ?_ ?_ | omega))), (by repeat' (first | exact trivial | exact rfl | refine And.intro ?_ ?_ | ((conv => whnf); first | exact trivial | exact rfl | refine And.intro ?_ ?_ | omega))), ?_⟩
              conv => whnf
              refine call_step hbest rfl rfl ?_
              conv => whnf
              refine ⟨(by repeat' (first | exact trivial | exact rfl | refine And.intro ?_ ?_ | ((conv => whnf); first | exact trivial | exact rfl | refine And.intro ?_ ?_ | omega))), (by repeat' (first | exact trivial | exact rfl | refine And.intro ?_ ?_ | ((conv => whnf); first | exact trivial | exact rfl | refine And.intro ?_ ?_ | omega))), ?_⟩
              conv => whnf
              refine call_step htop rfl rfl ?_
              conv => whnf
              refine ⟨(by repeat' (first | exact trivial | exact rfl | refine And.intro ?_ ?_ | ((conv => whnf); first | exact trivial | exact rfl | refine And.intro ?_ ?_ | omega))), (by repeat' (first | exact trivial | exact rfl | refine And.intro ?_ ?_ | ((conv => whnf); first | exact trivial | exact rfl | refine And.intro ?_ ?_ | omega))), ?_⟩
              conv => whnf
              obtain ⟨U1, hU1⟩ : ∃ U, U = bentF us x := ⟨_, rfl⟩
              obtain ⟨P1, hP1e⟩ : ∃ P, P = shiftF pt x := ⟨_, rfl⟩
              obtain ⟨U2, hU2⟩ : ∃ U, U = bentF [] x := ⟨_, rfl⟩
              obtain ⟨P2, hP2e⟩ : ∃ P, P = shiftF [] x := ⟨_, rfl⟩
              have hU1l := bentF_len us x
              have hU2l := bentF_len [] x
              have hP1l := shiftF_len pt x
              have hP2l := shiftF_len [] x
              have hP1 := shiftF_bd x hpb
              have hP2 := shiftF_bd x hnil
              have hb1 := bent_t us x (by omega)
              have hs1 := shifted_t pt x (by omega)
              have hb2 := bentNil_t x
              have hs2 := shiftedNil_t x
              rw [← hU1] at hU1l hb1
              rw [← hU2] at hU2l hb2
              rw [← hP1e] at hP1l hP1 hs1
              rw [← hP2e] at hP2l hP2 hs2
              have hz : ([] : List (Lnk × Int)).length = 0 := rfl
              have hz2 : ([] : List Int).length = 0 := rfl
              clear hU1 hU2 hP1e hP2e
              obtain ⟨what, at_, ⟨⟨uf, ut, um, ui⟩, utm⟩, by_⟩ := x
              refine call_step hb1 rfl rfl ?_
              conv => whnf
              refine ⟨(by repeat' (first | exact trivial | exact rfl | refine And.intro ?_ ?_ | ((conv => whnf); first | exact trivial | exact rfl | refine And.intro ?_ ?_ | omega))), (by repeat' (first | exact trivial | exact rfl | refine And.intro ?_ ?_ | ((conv => whnf); first | exact trivial | exact rfl | refine And.intro ?_ ?_ | omega))), ?_⟩
              conv => whnf
              refine call_step hs1 rfl rfl ?_
              conv => whnf
              refine ⟨(by repeat' (first | exact trivial | exact rfl | refine And.intro ?_ ?_ | ((conv => whnf); first | exact trivial | exact rfl | refine And.intro ?_ ?_ | omega))), (by repeat' (first | exact trivial | exact rfl | refine And.intro ?_ ?_ | ((conv => whnf); first | exact trivial | exact rfl | refine And.intro ?_ ?_ | omega))), ?_⟩
              conv => whnf
              refine call_step hb2 rfl rfl ?_
              conv => whnf
              refine ⟨(by repeat' (first | exact trivial | exact rfl | refine And.intro ?_ ?_ | ((conv => whnf); first | exact trivial | exact rfl | refine And.intro ?_ ?_ | omega))), (by repeat' (first | exact trivial | exact rfl | refine And.intro ?_ ?_ | ((conv => whnf); first | exact trivial | exact rfl | refine And.intro ?_ ?_ | omega))), ?_⟩
              conv => whnf
              refine call_step hs2 rfl rfl ?_
              conv => whnf
              refine ⟨(by repeat' (first | exact trivial | exact rfl | refine And.intro ?_ ?_ | ((conv => whnf); first | exact trivial | exact rfl | refine And.intro ?_ ?_ | omega))), (by repeat' (first | exact trivial | exact rfl | refine And.intro ?_ ?_ | ((conv => whnf); first | exact trivial | exact rfl | refine And.intro ?_ ?_ | omega))), ?_⟩
              conv => whnf
              refine ⟨fun h8 => ?_, fun h8 => ?_⟩
              · have h8 : what = 8 := by simpa using (show (what == 8) = true from h8)
                conv => whnf
                refine ⟨_, rfl, ?_⟩
                conv => whnf
                refine ⟨_, rfl, ?_⟩
                conv => whnf
                refine ⟨fun h9 => absurd (show (what == 9) = true from h9) (by rw [h8]; simp), fun _ => ?_⟩
                conv => whnf
                have c1 := sysCheckBest_t bs ls form (IntKind.i64.wrap (v + by_)) U1 P1 (by omega) (by omega) (by omega) (by omega) (by omega) hP1
                have c2 := refCheckBest_t bs ls form (IntKind.i64.wrap (v + by_)) U1 P1 (by omega) (by omega) (by omega) (by omega) (by omega) (wrap_bd _)
                have c3 := sysCheckTop_t bs ls form den (IntKind.i64.wrap (0 + by_)) 0 U2 P2 (by omega) (by omega) (by omega) (by omega) (by omega) (by omega) hP2
                have c4 := refCheckTop_t bs ls form den (IntKind.i64.wrap (0 + by_)) 0 U2 P2 (by omega) (by omega) (by omega) (by omega) (by omega) (by omega)
                generalize checkBestF bs ls form (IntKind.i64.wrap (v + by_)) U1 P1 = z1 at *
                generalize checkTopF bs ls form den (IntKind.i64.wrap (0 + by_)) 0 U2 P2 = z2 at *
                refine ⟨fun hc => ?_, fun hc => absurd hc (by simp)⟩
                conv => whnf
                refine call_step c1 rfl rfl ?_
                conv => whnf
                refine ⟨(by repeat' (first | exact trivial | exact rfl | refine And.intro ?_ ?_ | ((conv => whnf); first | exact trivial | exact rfl | refine And.intro ?_ ?_ | omega))), (by repeat' (first | exact trivial | exact rfl | refine And.intro ?_ ?_ | ((conv => whnf); first | exact trivial | exact rfl | refine And.intro ?_ ?_ | omega))), ?_⟩
                conv => whnf
                refine call_step c2 rfl rfl ?_
                conv => whnf
                refine ⟨(by repeat' (first | exact trivial | exact rfl | refine And.intro ?_ ?_ | ((conv => whnf); first | exact trivial | exact rfl | refine And.intro ?_ ?_ | omega))), (by repeat' (first | exact trivial | exact rfl | refine And.intro ?_ ?_ | ((conv => whnf); first | exact trivial | exact rfl | refine And.intro ?_ ?_ | omega))), ?_⟩
                conv => whnf
                refine ⟨fun hc => ?_, fun hc => absurd hc (by simp)⟩
                conv => whnf
                refine call_step c3 rfl rfl ?_
                conv => whnf
                refine ⟨(by repeat' (first | exact trivial | exact rfl | refine And.intro ?_ ?_ | ((conv => whnf); first | exact trivial | exact rfl | refine And.intro ?_ ?_ | omega))), (by repeat' (first | exact trivial | exact rfl | refine And.intro ?_ ?_ | ((conv => whnf); first | exact trivial | exact rfl | refine And.intro ?_ ?_ | omega))), ?_⟩
                conv => whnf
                refine call_step c4 rfl rfl ?_
                conv => whnf
                refine ⟨(by repeat' (first | exact trivial | exact rfl | refine And.intro ?_ ?_ | ((conv => whnf); first | exact trivial | exact rfl | refine And.intro ?_ ?_ | omega))), (by repeat' (first | exact trivial | exact rfl | refine And.intro ?_ ?_ | ((conv => whnf); first | exact trivial | exact rfl | refine And.intro ?_ ?_ | omega))), ?_⟩
                conv => whnf
                refine ⟨?_, trivial⟩
                exact beq_self_eq_true z2
              · conv => whnf
                refine ⟨fun h9 => ?_, fun h9 => ?_⟩
                · conv => whnf
                  refine ⟨_, rfl, ?_⟩
                  conv => whnf
                  refine ⟨_, rfl, ?_⟩
                  conv => whnf
                  have c1 := sysCheckBest_t bs ls form v U1 P1 (by omega) (by omega) (by omega) (by omega) (by omega) hP1
                  have c2 := refCheckBest_t bs ls form v U1 P1 (by omega) (by omega) (by omega) (by omega) (by omega) hv
                  have c3 := sysCheckTop_t bs ls form den (IntKind.i64.wrap (2 * 0)) (IntKind.i64.wrap (2 * 0)) U2 P2 (by omega) (by omega) (by omega) (by omega) (by omega) (by omega) hP2
                  have c4 := refCheckTop_t bs ls form den (IntKind.i64.wrap (2 * 0)) (IntKind.i64.wrap (2 * 0)) U2 P2 (by omega) (by omega) (by omega) (by omega) (by omega) (by omega)
                  generalize checkBestF bs ls form v U1 P1 = z1 at *
                  generalize checkTopF bs ls form den (IntKind.i64.wrap (2 * 0)) (IntKind.i64.wrap (2 * 0)) U2 P2 = z2 at *
                  refine ⟨fun hc => ?_, fun hc => absurd hc (by simp)⟩
                  conv => whnf
                  refine call_step c1 rfl rfl ?_
                  conv => whnf
                  refine ⟨(by repeat' (first | exact trivial | exact rfl | refine And.intro ?_ ?_ | ((conv => whnf); first | exact trivial | exact rfl | refine And.intro ?_ ?_ | omega))), (by repeat' (first | exact trivial | exact rfl | refine And.intro ?_ ?_ | ((conv => whnf); first | exact trivial | exact rfl | refine And.intro ?_ ?_ | omega))), ?_⟩
                  conv => whnf
                  refine call_step c2 rfl rfl ?_
                  conv => whnf
                  refine ⟨(by repeat' (first | exact trivial | exact rfl | refine And.intro ?_ ?_ | ((conv => whnf); first | exact trivial | exact rfl | refine And.intro ?_ ?_ | omega))), (by repeat' (first | exact trivial | exact rfl | refine And.intro ?_ ?_ | ((conv => whnf); first | exact trivial | exact rfl | refine And.intro ?_ ?_ | omega))), ?_⟩
                  conv => whnf
                  refine ⟨fun hc => ?_, fun hc => absurd hc (by simp)⟩
                  conv => whnf
                  refine call_step c3 rfl rfl ?_
                  conv => whnf
                  refine ⟨(by repeat' (first | exact trivial | exact rfl | refine And.intro ?_ ?_ | ((conv => whnf); first | exact trivial | exact rfl | refine And.intro ?_ ?_ | omega))), (by repeat' (first | exact trivial | exact rfl | refine And.intro ?_ ?_ | ((conv => whnf); first | exact trivial | exact rfl | refine And.intro ?_ ?_ | omega))), ?_⟩
                  conv => whnf
                  refine call_step c4 rfl rfl ?_
                  conv => whnf
                  refine ⟨(by repeat' (first | exact trivial | exact rfl | refine And.intro ?_ ?_ | ((conv => whnf); first | exact trivial | exact rfl | refine And.intro ?_ ?_ | omega))), (by repeat' (first | exact trivial | exact rfl | refine And.intro ?_ ?_ | ((conv => whnf); first | exact trivial | exact rfl | refine And.intro ?_ ?_ | omega))), ?_⟩
                  conv => whnf
                  refine ⟨?_, trivial⟩
                  exact beq_self_eq_true z2
                · conv => whnf
                  have c1 := sysCheckBest_t bs ls form v U1 P1 (by omega) (by omega) (by omega) (by omega) (by omega) hP1
                  have c2 := refCheckBest_t bs ls form v U1 P1 (by omega) (by omega) (by omega) (by omega) (by omega) hv
                  have c3 := sysCheckTop_t bs ls form den 0 0 U2 P2 (by omega) (by omega) (by omega) (by omega) (by omega) (by omega) hP2
                  have c4 := refCheckTop_t bs ls form den 0 0 U2 P2 (by omega) (by omega) (by omega) (by omega) (by omega) (by omega)
                  generalize checkBestF bs ls form v U1 P1 = z1 at *
                  generalize checkTopF bs ls form den 0 0 U2 P2 = z2 at *
                  refine ⟨fun hc => ?_, fun hc => absurd hc (by simp)⟩
                  conv => whnf
                  refine call_step c1 rfl rfl ?_
                  conv => whnf
                  refine ⟨(by repeat' (first | exact trivial | exact rfl | refine And.intro ?_ ?_ | ((conv => whnf); first | exact trivial | exact rfl | refine And.intro ?_ ?_ | omega))), (by repeat' (first | exact trivial | exact rfl | refine And.intro ?_ ?_ | ((conv => whnf); first | exact trivial | exact rfl | refine And.intro ?_ ?_ | omega))), ?_⟩
                  conv => whnf
                  refine call_step c2 rfl rfl ?_
                  conv => whnf
                  refine ⟨(by repeat' (first | exact trivial | exact rfl | refine And.intro ?_ ?_ | ((conv => whnf); first | exact trivial | exact rfl | refine And.intro ?_ ?_ | omega))), (by repeat' (first | exact trivial | exact rfl | refine And.intro ?_ ?_ | ((conv => whnf); first | exact trivial | exact rfl | refine And.intro ?_ ?_ | omega))), ?_⟩
                  conv => whnf
                  refine ⟨fun hc => ?_, fun hc => absurd hc (by simp)⟩
                  conv => whnf
                  refine call_step c3 rfl rfl ?_
                  conv => whnf
                  refine ⟨(by repeat' (first | exact trivial | exact rfl | refine And.intro ?_ ?_ | ((conv => whnf); first | exact trivial | exact rfl | refine And.intro ?_ ?_ | omega))), (by repeat' (first | exact trivial | exact rfl | refine And.intro ?_ ?_ | ((conv => whnf); first | exact trivial | exact rfl | refine And.intro ?_ ?_ | omega))), ?_⟩
                  conv => whnf
                  refine call_step c4 rfl rfl ?_
                  conv => whnf
                  refine ⟨(by repeat' (first | exact trivial | exact rfl | refine And.intro ?_ ?_ | ((conv => whnf); first | exact trivial | exact rfl | refine And.intro ?_ ?_ | omega))), (by repeat' (first | exact trivial | exact rfl | refine And.intro ?_ ?_ | ((conv => whnf); first | exact trivial | exact rfl | refine And.intro ?_ ?_ | omega))), ?_⟩
                  conv => whnf
                  refine ⟨?_, trivial⟩
                  exact beq_self_eq_true z2
            · have hpb2 := ptb hal2
              have hpl2 := ptl hal2
              refine triple_of tB_ok Try.func18 rfl Try.call18 rfl ?_
              intro ρ w hH
              conv => whnf
              refine call_step head_t rfl rfl ?_
              conv => whnf
              refine ⟨(by repeat' (first | exact trivial | exact rfl | refine And.intro ?_ ?_ | ((conv => whnf); first | exact trivial | exact rfl | refine And.intro ?_ ?_ | omega))), (by repeat' (first | exact trivial | exact rfl | refine And.intro ?_ ?_ | ((conv => whnf); first | exact trivial | exact rfl | refine And.intro ?_ ?_ | omega))), ?_⟩
              conv => whnf
              refine call_step (few_t bs ls) rfl rfl ?_
              conv => whnf
              refine ⟨(by repeat' (first | exact trivial | exact rfl | refine And.intro ?_ ?_ | ((conv => whnf); first | exact trivial | exact rfl | refine And.intro ?_ ?_ | omega))), (by repeat' (first | exact trivial | exact rfl | refine And.intro ?_ ?_ | ((conv => whnf); first | exact trivial | exact rfl | refine And.intro ?_ ?_ | omega))), ?_⟩
              conv => whnf
              rw [hfe]
              refine ⟨fun hc => absurd hc (by simp), fun hc => ?_⟩
              conv => whnf
              refine ⟨fun hc => absurd (of_decide_eq_true (show decide ((40 : Int) < form.length) = true from hc)) (by omega), fun hc => ?_⟩
              conv => whnf
              refine ⟨fun hc => absurd (of_decide_eq_true (show decide ((40 : Int) < den.length) = true from hc)) (by omega), fun hc => ?_⟩
              conv => whnf
              refine call_step (netYes_t bs ls h) rfl rfl ?_
              conv => whnf
              refine ⟨(by repeat' (first | exact trivial | exact rfl | refine And.intro ?_ ?_ | ((conv => whnf); first | exact trivial | exact rfl | refine And.intro ?_ ?_ | omega))), (by repeat' (first | exact trivial | exact rfl | refine And.intro ?_ ?_ | ((conv => whnf); first | exact trivial | exact rfl | refine And.intro ?_ ?_ | omega))), ?_⟩
              conv => whnf
              refine call_step hbest rfl rfl ?_
              conv => whnf
              refine ⟨(by repeat' (first | exact trivial | exact rfl | refine And.intro ?_ ?_ | ((conv => whnf); first | exact trivial | exact rfl | refine And.intro ?_ ?_ | omega))), (by repeat' (first | exact trivial | exact rfl | refine And.intro ?_ ?_ | ((conv => whnf); first | exact trivial | exact rfl | refine And.intro ?_ ?_ | omega))), ?_⟩
              conv => whnf
              refine call_step htop rfl rfl ?_
              conv => whnf
              refine ⟨(by repeat' (first | exact trivial | exact rfl | refine And.intro ?_ ?_ | ((conv => whnf); first | exact trivial | exact rfl | refine And.intro ?_ ?_ | omega))), (by repeat' (first | exact trivial | exact rfl | refine And.intro ?_ ?_ | ((conv => whnf); first | exact trivial | exact rfl | refine And.intro ?_ ?_ | omega))), ?_⟩
              conv => whnf
              obtain ⟨U1, hU1⟩ : ∃ U, U = bentF us x := ⟨_, rfl⟩
              obtain ⟨P1, hP1e⟩ : ∃ P, P = shiftF pt x := ⟨_, rfl⟩
              obtain ⟨U2, hU2⟩ : ∃ U, U = bentF us2 x := ⟨_, rfl⟩
              obtain ⟨P2, hP2e⟩ : ∃ P, P = shiftF pt2 x := ⟨_, rfl⟩
              have hU1l := bentF_len us x
              have hU2l := bentF_len us2 x
              have hP1l := shiftF_len pt x
              have hP2l := shiftF_len pt2 x
              have hP1 := shiftF_bd x hpb
              have hP2 := shiftF_bd x hpb2
              have hb1 := bent_t us x (by omega)
              have hs1 := shifted_t pt x (by omega)
              have hb2 := bent_t us2 x (by omega)
              have hs2 := shifted_t pt2 x (by omega)
              rw [← hU1] at hU1l hb1
              rw [← hU2] at hU2l hb2
              rw [← hP1e] at hP1l hP1 hs1
              rw [← hP2e] at hP2l hP2 hs2
              have hz : ([] : List (Lnk × Int)).length = 0 := rfl
              have hz2 : ([] : List Int).length = 0 := rfl
              clear hU1 hU2 hP1e hP2e
              obtain ⟨what, at_, ⟨⟨uf, ut, um, ui⟩, utm⟩, by_⟩ := x
              refine call_step hb1 rfl rfl ?_
              conv => whnf
              refine ⟨(by repeat' (first | exact trivial | exact rfl | refine And.intro ?_ ?_ | ((conv => whnf); first | exact trivial | exact rfl | refine And.intro ?_ ?_ | omega))), (by repeat' (first | exact trivial | exact rfl | refine And.intro ?_ ?_ | ((conv => whnf); first | exact trivial | exact rfl | refine And.intro ?_ ?_ | omega))), ?_⟩
              conv => whnf
              refine call_step hs1 rfl rfl ?_
              conv => whnf
              refine ⟨(by repeat' (first | exact trivial | exact rfl | refine And.intro ?_ ?_ | ((conv => whnf); first | exact trivial | exact rfl | refine And.intro ?_ ?_ | omega))), (by repeat' (first | exact trivial | exact rfl | refine And.intro ?_ ?_ | ((conv => whnf); first | exact trivial | exact rfl | refine And.intro ?_ ?_ | omega))), ?_⟩
              conv => whnf
              refine call_step hb2 rfl rfl ?_
              conv => whnf
              refine ⟨(by repeat' (first | exact trivial | exact rfl | refine And.intro ?_ ?_ | ((conv => whnf); first | exact trivial | exact rfl | refine And.intro ?_ ?_ | omega))), (by repeat' (first | exact trivial | exact rfl | refine And.intro ?_ ?_ | ((conv => whnf); first | exact trivial | exact rfl | refine And.intro ?_ ?_ | omega))), ?_⟩
              conv => whnf
              refine call_step hs2 rfl rfl ?_
              conv => whnf
              refine ⟨(by repeat' (first | exact trivial | exact rfl | refine And.intro ?_ ?_ | ((conv => whnf); first | exact trivial | exact rfl | refine And.intro ?_ ?_ | omega))), (by repeat' (first | exact trivial | exact rfl | refine And.intro ?_ ?_ | ((conv => whnf); first | exact trivial | exact rfl | refine And.intro ?_ ?_ | omega))), ?_⟩
              conv => whnf
              refine ⟨fun h8 => ?_, fun h8 => ?_⟩
              · have h8 : what = 8 := by simpa using (show (what == 8) = true from h8)
                conv => whnf
                refine ⟨_, rfl, ?_⟩
                conv => whnf
                refine ⟨_, rfl, ?_⟩
                conv => whnf
                refine ⟨fun h9 => absurd (show (what == 9) = true from h9) (by rw [h8]; simp), fun _ => ?_⟩
                conv => whnf
                have c1 := sysCheckBest_t bs ls form (IntKind.i64.wrap (v + by_)) U1 P1 (by omega) (by omega) (by omega) (by omega) (by omega) hP1
                have c2 := refCheckBest_t bs ls form (IntKind.i64.wrap (v + by_)) U1 P1 (by omega) (by omega) (by omega) (by omega) (by omega) (wrap_bd _)
                have c3 := sysCheckTop_t bs ls form den (IntKind.i64.wrap (p + by_)) q U2 P2 (by omega) (by omega) (by omega) (by omega) (by omega) (by omega) hP2
                have c4 := refCheckTop_t bs ls form den (IntKind.i64.wrap (p + by_)) q U2 P2 (by omega) (by omega) (by omega) (by omega) (by omega) (by omega)
                generalize checkBestF bs ls form (IntKind.i64.wrap (v + by_)) U1 P1 = z1 at *
                generalize checkTopF bs ls form den (IntKind.i64.wrap (p + by_)) q U2 P2 = z2 at *
                refine ⟨fun hc => ?_, fun hc => absurd hc (by simp)⟩
                conv => whnf
                refine call_step c1 rfl rfl ?_
                conv => whnf
                refine ⟨(by repeat' (first | exact trivial | exact rfl | refine And.intro ?_ ?_ | ((conv => whnf); first | exact trivial | exact rfl | refine And.intro ?_ ?_ | omega))), (by repeat' (first | exact trivial | exact rfl | refine And.intro ?_ ?_ | ((conv => whnf); first | exact trivial | exact rfl | refine And.intro ?_ ?_ | omega))), ?_⟩
                conv => whnf
                refine call_step c2 rfl rfl ?_
                conv => whnf
                refine ⟨(by repeat' (first | exact trivial | exact rfl | refine And.intro ?_ ?_ | ((conv => whnf); first | exact trivial | exact rfl | refine And.intro ?_ ?_ | omega))), (by repeat' (first | exact trivial | exact rfl | refine And.intro ?_ ?_ | ((conv => whnf); first | exact trivial | exact rfl | refine And.intro ?_ ?_ | omega))), ?_⟩
                conv => whnf
                refine ⟨fun hc => ?_, fun hc => absurd hc (by simp)⟩
                conv => whnf
                refine call_step c3 rfl rfl ?_
                conv => whnf
                refine ⟨(by repeat' (first | exact trivial | exact rfl | refine And.intro ?_ ?_ | ((conv => whnf); first | exact trivial | exact rfl | refine And.intro ?_ ?_ | omega))), (by repeat' (first | exact trivial | exact rfl | refine And.intro ?_ ?_ | ((conv => whnf); first | exact trivial | exact rfl | refine And.intro ?_ ?_ | omega))), ?_⟩
                conv => whnf
                refine call_step c4 rfl rfl ?_
                conv => whnf
                refine ⟨(by repeat' (first | exact trivial | exact rfl | refine And.intro ?_ ?_ | ((conv => whnf); first | exact trivial | exact rfl | refine And.intro ?_ ?_ | omega))), (by repeat' (first | exact trivial | exact rfl | refine And.intro ?_ ?_ | ((conv => whnf); first | exact trivial | exact rfl | refine And.intro ?_ ?_ | omega))), ?_⟩
                conv => whnf
                refine ⟨?_, trivial⟩
                exact beq_self_eq_true z2
              · conv => whnf
                refine ⟨fun h9 => ?_, fun h9 => ?_⟩
                · conv => whnf
                  refine ⟨_, rfl, ?_⟩
                  conv => whnf
                  refine ⟨_, rfl, ?_⟩
                  conv => whnf
                  have c1 := sysCheckBest_t bs ls form v U1 P1 (by omega) (by omega) (by omega) (by omega) (by omega) hP1
                  have c2 := refCheckBest_t bs ls form v U1 P1 (by omega) (by omega) (by omega) (by omega) (by omega) hv
                  have c3 := sysCheckTop_t bs ls form den (IntKind.i64.wrap (2 * p)) (IntKind.i64.wrap (2 * q)) U2 P2 (by omega) (by omega) (by omega) (by omega) (by omega) (by omega) hP2
                  have c4 := refCheckTop_t bs ls form den (IntKind.i64.wrap (2 * p)) (IntKind.i64.wrap (2 * q)) U2 P2 (by omega) (by omega) (by omega) (by omega) (by omega) (by omega)
                  generalize checkBestF bs ls form v U1 P1 = z1 at *
                  generalize checkTopF bs ls form den (IntKind.i64.wrap (2 * p)) (IntKind.i64.wrap (2 * q)) U2 P2 = z2 at *
                  refine ⟨fun hc => ?_, fun hc => absurd hc (by simp)⟩
                  conv => whnf
                  refine call_step c1 rfl rfl ?_
                  conv => whnf
                  refine ⟨(by repeat' (first | exact trivial | exact rfl | refine And.intro ?_ ?_ | ((conv => whnf); first | exact trivial | exact rfl | refine And.intro ?_ ?_ | omega))), (by repeat' (first | exact trivial | exact rfl | refine And.intro ?_ ?_ | ((conv => whnf); first | exact trivial | exact rfl | refine And.intro ?_ ?_ | omega))), ?_⟩
                  conv => whnf
                  refine call_step c2 rfl rfl ?_
                  conv => whnf
                  refine ⟨(by repeat' (first | exact trivial | exact rfl | refine And.intro ?_ ?_ | ((conv => whnf); first | exact trivial | exact rfl | refine And.intro ?_ ?_ | omega))), (by repeat' (first | exact trivial | exact rfl | refine And.intro ?_ ?_ | ((conv => whnf); first | exact trivial | exact rfl | refine And.intro ?_ ?_ | omega))), ?_⟩
                  conv => whnf
                  refine ⟨fun hc => ?_, fun hc => absurd hc (by simp)⟩
                  conv => whnf
                  refine call_step c3 rfl rfl ?_
                  conv => whnf
                  refine ⟨(by repeat' (first | exact trivial | exact rfl | refine And.intro ?_ ?_ | ((conv => whnf); first | exact trivial | exact rfl | refine And.intro ?_ ?_ | omega))), (by repeat' (first | exact trivial | exact rfl | refine And.intro ?_ ?_ | ((conv => whnf); first | exact trivial | exact rfl | refine And.intro ?_ ?_ | omega))), ?_⟩
                  conv => whnf
                  refine call_step c4 rfl rfl ?_
                  conv => whnf
                  refine ⟨(by repeat' (first | exact trivial | exact rfl | refine And.intro ?_ ?_ | ((conv => whnf); first | exact trivial | exact rfl | refine And.intro ?_ ?_ | omega))), (by repeat' (first | exact trivial | exact rfl | refine And.intro ?_ ?_ | ((conv => whnf); first | exact trivial | exact rfl | refine And.intro ?_ ?_ | omega))), ?_⟩
                  conv => whnf
                  refine ⟨?_, trivial⟩
                  exact beq_self_eq_true z2
                · conv => whnf
                  have c1 := sysCheckBest_t bs ls form v U1 P1 (by omega) (by omega) (by omega) (by omega) (by omega) hP1
                  have c2 := refCheckBest_t bs ls form v U1 P1 (by omega) (by omega) (by omega) (by omega) (by omega) hv
                  have c3 := sysCheckTop_t bs ls form den p q U2 P2 (by omega) (by omega) (by omega) (by omega) (by omega) (by omega) hP2
                  have c4 := refCheckTop_t bs ls form den p q U2 P2 (by omega) (by omega) (by omega) (by omega) (by omega) (by omega)
                  generalize checkBestF bs ls form v U1 P1 = z1 at *
                  generalize checkTopF bs ls form den p q U2 P2 = z2 at *
                  refine ⟨fun hc => ?_, fun hc => absurd hc (by simp)⟩
                  conv => whnf
                  refine call_step c1 rfl rfl ?_
                  conv => whnf
                  refine ⟨(by repeat' (first | exact trivial | exact rfl | refine And.intro ?_ ?_ | ((conv => whnf); first | exact trivial | exact rfl | refine And.intro ?_ ?_ | omega))), (by repeat' (first | exact trivial | exact rfl | refine And.intro ?_ ?_ | ((conv => whnf); first | exact trivial | exact rfl | refine And.intro ?_ ?_ | omega))), ?_⟩
                  conv => whnf
                  refine call_step c2 rfl rfl ?_
                  conv => whnf
                  refine ⟨(by repeat' (first | exact trivial | exact rfl | refine And.intro ?_ ?_ | ((conv => whnf); first | exact trivial | exact rfl | refine And.intro ?_ ?_ | omega))), (by repeat' (first | exact trivial | exact rfl | refine And.intro ?_ ?_ | ((conv => whnf); first | exact trivial | exact rfl | refine And.intro ?_ ?_ | omega))), ?_⟩
                  conv => whnf
                  refine ⟨fun hc => ?_, fun hc => absurd hc (by simp)⟩
                  conv => whnf
                  refine call_step c3 rfl rfl ?_
                  conv => whnf
                  refine ⟨(by repeat' (first | exact trivial | exact rfl | refine And.intro ?_ ?_ | ((conv => whnf); first | exact trivial | exact rfl | refine And.intro ?_ ?_ | omega))), (by repeat' (first | exact trivial | exact rfl | refine And.intro ?_ ?_ | ((conv => whnf); first | exact trivial | exact rfl | refine And.intro ?_ ?_ | omega))), ?_⟩
                  conv => whnf
                  refine call_step c4 rfl rfl ?_
                  conv => whnf
                  refine ⟨(by repeat' (first | exact trivial | exact rfl | refine And.intro ?_ ?_ | ((conv => whnf); first | exact trivial | exact rfl | refine And.intro ?_ ?_ | omega))), (by repeat' (first | exact trivial | exact rfl | refine And.intro ?_ ?_ | ((conv => whnf); first | exact trivial | exact rfl | refine And.intro ?_ ?_ | omega))), ?_⟩
                  conv => whnf
                  refine ⟨?_, trivial⟩
                  exact beq_self_eq_true z2
          · have hbest := bestBad (ls := ls) form (show bs.length ≤ 240 by omega) hfo
            have hFo : formsF bs form den ≠ 0 := by
              unfold formsF
              rw [if_pos hfo]; exact hfo
            have htop := topDiv_t bs ls form den (by omega) (by omega) (by omega) hFo
            generalize formF form bs.length = c1 at *
            generalize formsF bs form den = c2 at *
            refine triple_of tB_ok Try.func18 rfl Try.call18 rfl ?_
            intro ρ w hH
            conv => whnf
            refine call_step head_t rfl rfl ?_
            conv => whnf
            refine ⟨(by repeat' (first | exact trivial | exact rfl | refine And.intro ?_ ?_ | ((conv => whnf); first | exact trivial | exact rfl | refine And.intro ?_ ?_ | omega))), (by repeat' (first | exact trivial | exact rfl | refine And.intro ?_ ?_ | ((conv => whnf); first | exact trivial | exact rfl | refine And.intro ?_ ?_ | omega))), ?_⟩
            conv => whnf
            refine call_step (few_t bs ls) rfl rfl ?_
            conv => whnf
            refine ⟨(by repeat' (first | exact trivial | exact rfl | refine And.intro ?_ ?_ | ((conv => whnf); first | exact trivial | exact rfl | refine And.intro ?_ ?_ | omega))), (by repeat' (first | exact trivial | exact rfl | refine And.intro ?_ ?_ | ((conv => whnf); first | exact trivial | exact rfl | refine And.intro ?_ ?_ | omega))), ?_⟩
            conv => whnf
            rw [hfe]
            refine ⟨fun hc => absurd hc (by simp), fun hc => ?_⟩
            conv => whnf
            refine ⟨fun hc => absurd (of_decide_eq_true (show decide ((40 : Int) < form.length) = true from hc)) (by omega), fun hc => ?_⟩
            conv => whnf
            refine ⟨fun hc => absurd (of_decide_eq_true (show decide ((40 : Int) < den.length) = true from hc)) (by omega), fun hc => ?_⟩
            conv => whnf
            refine call_step (netYes_t bs ls h) rfl rfl ?_
            conv => whnf
            refine ⟨(by repeat' (first | exact trivial | exact rfl | refine And.intro ?_ ?_ | ((conv => whnf); first | exact trivial | exact rfl | refine And.intro ?_ ?_ | omega))), (by repeat' (first | exact trivial | exact rfl | refine And.intro ?_ ?_ | ((conv => whnf); first | exact trivial | exact rfl | refine And.intro ?_ ?_ | omega))), ?_⟩
            conv => whnf
            refine call_step hbest rfl rfl ?_
            conv => whnf
            refine ⟨(by repeat' (first | exact trivial | exact rfl | refine And.intro ?_ ?_ | ((conv => whnf); first | exact trivial | exact rfl | refine And.intro ?_ ?_ | omega))), (by repeat' (first | exact trivial | exact rfl | refine And.intro ?_ ?_ | ((conv => whnf); first | exact trivial | exact rfl | refine And.intro ?_ ?_ | omega))), ?_⟩
            conv => whnf
            refine call_step htop rfl rfl ?_
            conv => whnf
            refine ⟨(by repeat' (first | exact trivial | exact rfl | refine And.intro ?_ ?_ | ((conv => whnf); first | exact trivial | exact rfl | refine And.intro ?_ ?_ | omega))), (by repeat' (first | exact trivial | exact rfl | refine And.intro ?_ ?_ | ((conv => whnf); first | exact trivial | exact rfl | refine And.intro ?_ ?_ | omega))), ?_⟩
            conv => whnf
            obtain ⟨U1, hU1⟩ : ∃ U, U = bentF [] x := ⟨_, rfl⟩
            obtain ⟨P1, hP1e⟩ : ∃ P, P = shiftF [] x := ⟨_, rfl⟩
            obtain ⟨U2, hU2⟩ : ∃ U, U = bentF [] x := ⟨_, rfl⟩
            obtain ⟨P2, hP2e⟩ : ∃ P, P = shiftF [] x := ⟨_, rfl⟩
            have hU1l := bentF_len [] x
            have hU2l := bentF_len [] x
            have hP1l := shiftF_len [] x
            have hP2l := shiftF_len [] x
            have hP1 := shiftF_bd x hnil
            have hP2 := shiftF_bd x hnil
            have hb1 := bentNil_t x
            have hs1 := shiftedNil_t x
            have hb2 := bentNil_t x
            have hs2 := shiftedNil_t x
            rw [← hU1] at hU1l hb1
            rw [← hU2] at hU2l hb2
            rw [← hP1e] at hP1l hP1 hs1
            rw [← hP2e] at hP2l hP2 hs2
            have hz : ([] : List (Lnk × Int)).length = 0 := rfl
            have hz2 : ([] : List Int).length = 0 := rfl
            clear hU1 hU2 hP1e hP2e
            obtain ⟨what, at_, ⟨⟨uf, ut, um, ui⟩, utm⟩, by_⟩ := x
            refine call_step hb1 rfl rfl ?_
            conv => whnf
            refine ⟨(by repeat' (first | exact trivial | exact rfl | refine And.intro ?_ ?_ | ((conv => whnf); first | exact trivial | exact rfl | refine And.intro ?_ ?_ | omega))), (by repeat' (first | exact trivial | exact rfl | refine And.intro ?_ ?_ | ((conv => whnf); first | exact trivial | exact rfl | refine And.intro ?_ ?_ | omega))), ?_⟩
            conv => whnf
            refine call_step hs1 rfl rfl ?_
            conv => whnf
            refine ⟨(by repeat' (first | exact trivial | exact rfl | refine And.intro ?_ ?_ | ((conv => whnf); first | exact trivial | exact rfl | refine And.intro ?_ ?_ | omega))), (by repeat' (first | exact trivial | exact rfl | refine And.intro ?_ ?_ | ((conv => whnf); first | exact trivial | exact rfl | refine And.intro ?_ ?_ | omega))), ?_⟩
            conv => whnf
            refine call_step hb2 rfl rfl ?_
            conv => whnf
            refine ⟨(by repeat' (first | exact trivial | exact rfl | refine And.intro ?_ ?_ | ((conv => whnf); first | exact trivial | exact rfl | refine And.intro ?_ ?_ | omega))), (by repeat' (first | exact trivial | exact rfl | refine And.intro ?_ ?_ | ((conv => whnf); first | exact trivial | exact rfl | refine And.intro ?_ ?_ | omega))), ?_⟩
            conv => whnf
            refine call_step hs2 rfl rfl ?_
            conv => whnf
            refine ⟨(by repeat' (first | exact trivial | exact rfl | refine And.intro ?_ ?_ | ((conv => whnf); first | exact trivial | exact rfl | refine And.intro ?_ ?_ | omega))), (by repeat' (first | exact trivial | exact rfl | refine And.intro ?_ ?_ | ((conv => whnf); first | exact trivial | exact rfl | refine And.intro ?_ ?_ | omega))), ?_⟩
            conv => whnf
            refine ⟨fun h8 => ?_, fun h8 => ?_⟩
            · have h8 : what = 8 := by simpa using (show (what == 8) = true from h8)
              conv => whnf
              refine ⟨_, rfl, ?_⟩
              conv => whnf
              refine ⟨_, rfl, ?_⟩
              conv => whnf
              refine ⟨fun h9 => absurd (show (what == 9) = true from h9) (by rw [h8]; simp), fun _ => ?_⟩
              conv => whnf
              have c1 := sysCheckBest_t bs ls form (IntKind.i64.wrap (0 + by_)) U1 P1 (by omega) (by omega) (by omega) (by omega) (by omega) hP1
              have c2 := refCheckBest_t bs ls form (IntKind.i64.wrap (0 + by_)) U1 P1 (by omega) (by omega) (by omega) (by omega) (by omega) (wrap_bd _)
              have c3 := sysCheckTop_t bs ls form den (IntKind.i64.wrap (0 + by_)) 0 U2 P2 (by omega) (by omega) (by omega) (by omega) (by omega) (by omega) hP2
              have c4 := refCheckTop_t bs ls form den (IntKind.i64.wrap (0 + by_)) 0 U2 P2 (by omega) (by omega) (by omega) (by omega) (by omega) (by omega)
              generalize checkBestF bs ls form (IntKind.i64.wrap (0 + by_)) U1 P1 = z1 at *
              generalize checkTopF bs ls form den (IntKind.i64.wrap (0 + by_)) 0 U2 P2 = z2 at *
              refine ⟨fun hc => ?_, fun hc => absurd hc (by simp)⟩
              conv => whnf
              refine call_step c1 rfl rfl ?_
              conv => whnf
              refine ⟨(by repeat' (first | exact trivial | exact rfl | refine And.intro ?_ ?_ | ((conv => whnf); first | exact trivial | exact rfl | refine And.intro ?_ ?_ | omega))), (by repeat' (first | exact trivial | exact rfl | refine And.intro ?_ ?_ | ((conv => whnf); first | exact trivial | exact rfl | refine And.intro ?_ ?_ | omega))), ?_⟩
              conv => whnf
              refine call_step c2 rfl rfl ?_
              conv => whnf
              refine ⟨(by repeat' (first | exact trivial | exact rfl | refine And.intro ?_ ?_ | ((conv => whnf); first | exact trivial | exact rfl | refine And.intro ?_ ?_ | omega))), (by repeat' (first | exact trivial | exact rfl | refine And.intro ?_ ?_ | ((conv => whnf); first | exact trivial | exact rfl | refine And.intro ?_ ?_ | omega))), ?_⟩
              conv => whnf
              refine ⟨fun hc => ?_, fun hc => absurd hc (by simp)⟩
              conv => whnf
              refine call_step c3 rfl rfl ?_
              conv => whnf
              refine ⟨(by repeat' (first | exact trivial | exact rfl | refine And.intro ?_ ?_ | ((conv => whnf); first | exact trivial | exact rfl | refine And.intro ?_ ?_ | omega))), (by repeat' (first | exact trivial | exact rfl | refine And.intro ?_ ?_ | ((conv => whnf); first | exact trivial | exact rfl | refine And.intro ?_ ?_ | omega))), ?_⟩
              conv => whnf
              refine call_step c4 rfl rfl ?_
              conv => whnf
              refine ⟨(by repeat' (first | exact trivial | exact rfl | refine And.intro ?_ ?_ | ((conv => whnf); first | exact trivial | exact rfl | refine And.intro ?_ ?_ | omega))), (by repeat' (first | exact trivial | exact rfl | refine And.intro ?_ ?_ | ((conv => whnf); first | exact trivial | exact rfl | refine And.intro ?_ ?_ | omega))), ?_⟩
              conv => whnf
              refine ⟨?_, trivial⟩
              exact beq_self_eq_true z2
            · conv => whnf
              refine ⟨fun h9 => ?_, fun h9 => ?_⟩
              · conv => whnf
                refine ⟨_, rfl, ?_⟩
                conv => whnf
                refine ⟨_, rfl, ?_⟩
                conv => whnf
                have c1 := sysCheckBest_t bs ls form 0 U1 P1 (by omega) (by omega) (by omega) (by omega) (by omega) hP1
                have c2 := refCheckBest_t bs ls form 0 U1 P1 (by omega) (by omega) (by omega) (by omega) (by omega) h00
                have c3 := sysCheckTop_t bs ls form den (IntKind.i64.wrap (2 * 0)) (IntKind.i64.wrap (2 * 0)) U2 P2 (by omega) (by omega) (by omega) (by omega) (by omega) (by omega) hP2
                have c4 := refCheckTop_t bs ls form den (IntKind.i64.wrap (2 * 0)) (IntKind.i64.wrap (2 * 0)) U2 P2 (by omega) (by omega) (by omega) (by omega) (by omega) (by omega)
                generalize checkBestF bs ls form 0 U1 P1 = z1 at *
                generalize checkTopF bs ls form den (IntKind.i64.wrap (2 * 0)) (IntKind.i64.wrap (2 * 0)) U2 P2 = z2 at *
                refine ⟨fun hc => ?_, fun hc => absurd hc (by simp)⟩
                conv => whnf
                refine call_step c1 rfl rfl ?_
                conv => whnf
                refine ⟨(by repeat' (first | exact trivial | exact rfl | refine And.intro ?_ ?_ | ((conv => whnf); first | exact trivial | exact rfl | refine And.intro ?_ ?_ | omega))), (by repeat' (first | exact trivial | exact rfl | refine And.intro ?_ ?_ | ((conv => whnf); first | exact trivial | exact rfl | refine And.intro ?_ ?_ | omega))), ?_⟩
                conv => whnf
                refine call_step c2 rfl rfl ?_
                conv => whnf
                refine ⟨(by repeat' (first | exact trivial | exact rfl | refine And.intro ?_ ?_ | ((conv => whnf); first | exact trivial | exact rfl | refine And.intro ?_ ?_ | omega))), (by repeat' (first | exact trivial | exact rfl | refine And.intro ?_ ?_ | ((conv => whnf); first | exact trivial | exact rfl | refine And.intro ?_ ?_ | omega))), ?_⟩
                conv => whnf
                refine ⟨fun hc => ?_, fun hc => absurd hc (by simp)⟩
                conv => whnf
                refine call_step c3 rfl rfl ?_
                conv => whnf
                refine ⟨(by repeat' (first | exact trivial | exact rfl | refine And.intro ?_ ?_ | ((conv => whnf); first | exact trivial | exact rfl | refine And.intro ?_ ?_ | omega))), (by repeat' (first | exact trivial | exact rfl | refine And.intro ?_ ?_ | ((conv => whnf); first | exact trivial | exact rfl | refine And.intro ?_ ?_ | omega))), ?_⟩
                conv => whnf
                refine call_step c4 rfl rfl ?_
                conv => whnf
                refine ⟨(by repeat' (first | exact trivial | exact rfl | refine And.intro ?_ ?_ | ((conv => whnf); first | exact trivial | exact rfl | refine And.intro ?_ ?_ | omega))), (by repeat' (first | exact trivial | exact rfl | refine And.intro ?_ ?_ | ((conv => whnf); first | exact trivial | exact rfl | refine And.intro ?_ ?_ | omega))), ?_⟩
                conv => whnf
                refine ⟨?_, trivial⟩
                exact beq_self_eq_true z2
              · conv => whnf
                have c1 := sysCheckBest_t bs ls form 0 U1 P1 (by omega) (by omega) (by omega) (by omega) (by omega) hP1
                have c2 := refCheckBest_t bs ls form 0 U1 P1 (by omega) (by omega) (by omega) (by omega) (by omega) h00
                have c3 := sysCheckTop_t bs ls form den 0 0 U2 P2 (by omega) (by omega) (by omega) (by omega) (by omega) (by omega) hP2
                have c4 := refCheckTop_t bs ls form den 0 0 U2 P2 (by omega) (by omega) (by omega) (by omega) (by omega) (by omega)
                generalize checkBestF bs ls form 0 U1 P1 = z1 at *
                generalize checkTopF bs ls form den 0 0 U2 P2 = z2 at *
                refine ⟨fun hc => ?_, fun hc => absurd hc (by simp)⟩
                conv => whnf
                refine call_step c1 rfl rfl ?_
                conv => whnf
                refine ⟨(by repeat' (first | exact trivial | exact rfl | refine And.intro ?_ ?_ | ((conv => whnf); first | exact trivial | exact rfl | refine And.intro ?_ ?_ | omega))), (by repeat' (first | exact trivial | exact rfl | refine And.intro ?_ ?_ | ((conv => whnf); first | exact trivial | exact rfl | refine And.intro ?_ ?_ | omega))), ?_⟩
                conv => whnf
                refine call_step c2 rfl rfl ?_
                conv => whnf
                refine ⟨(by repeat' (first | exact trivial | exact rfl | refine And.intro ?_ ?_ | ((conv => whnf); first | exact trivial | exact rfl | refine And.intro ?_ ?_ | omega))), (by repeat' (first | exact trivial | exact rfl | refine And.intro ?_ ?_ | ((conv => whnf); first | exact trivial | exact rfl | refine And.intro ?_ ?_ | omega))), ?_⟩
                conv => whnf
                refine ⟨fun hc => ?_, fun hc => absurd hc (by simp)⟩
                conv => whnf
                refine call_step c3 rfl rfl ?_
                conv => whnf
                refine ⟨(by repeat' (first | exact trivial | exact rfl | refine And.intro ?_ ?_ | ((conv => whnf); first | exact trivial | exact rfl | refine And.intro ?_ ?_ | omega))), (by repeat' (first | exact trivial | exact rfl | refine And.intro ?_ ?_ | ((conv => whnf); first | exact trivial | exact rfl | refine And.intro ?_ ?_ | omega))), ?_⟩
                conv => whnf
                refine call_step c4 rfl rfl ?_
                conv => whnf
                refine ⟨(by repeat' (first | exact trivial | exact rfl | refine And.intro ?_ ?_ | ((conv => whnf); first | exact trivial | exact rfl | refine And.intro ?_ ?_ | omega))), (by repeat' (first | exact trivial | exact rfl | refine And.intro ?_ ?_ | ((conv => whnf); first | exact trivial | exact rfl | refine And.intro ?_ ?_ | omega))), ?_⟩
                conv => whnf
                refine ⟨?_, trivial⟩
                exact beq_self_eq_true z2
        · skip
          refine triple_of tB_ok Try.func18 rfl Try.call18 rfl ?_
          intro ρ w hH
          conv => whnf
          refine call_step head_t rfl rfl ?_
          conv => whnf
          refine ⟨(by repeat' (first | exact trivial | exact rfl | refine And.intro ?_ ?_ | ((conv => whnf); first | exact trivial | exact rfl | refine And.intro ?_ ?_ | omega))), (by repeat' (first | exact trivial | exact rfl | refine And.intro ?_ ?_ | ((conv => whnf); first | exact trivial | exact rfl | refine And.intro ?_ ?_ | omega))), ?_⟩
          conv => whnf
          refine call_step (few_t bs ls) rfl rfl ?_
          conv => whnf
          refine ⟨(by repeat' (first | exact trivial | exact rfl | refine And.intro ?_ ?_ | ((conv => whnf); first | exact trivial | exact rfl | refine And.intro ?_ ?_ | omega))), (by repeat' (first | exact trivial | exact rfl | refine And.intro ?_ ?_ | ((conv => whnf); first | exact trivial | exact rfl | refine And.intro ?_ ?_ | omega))), ?_⟩
          conv => whnf
          rw [hfe]
          refine ⟨fun hc => absurd hc (by simp), fun hc => ?_⟩
          conv => whnf
          refine ⟨fun hc => absurd (of_decide_eq_true (show decide ((40 : Int) < form.length) = true from hc)) (by omega), fun hc => ?_⟩
          conv => whnf
          refine ⟨fun hc => absurd (of_decide_eq_true (show decide ((40 : Int) < den.length) = true from hc)) (by omega), fun hc => ?_⟩
          conv => whnf
          refine call_step (netNo_t bs ls h) rfl rfl ?_
          conv => whnf
          refine ⟨(by repeat' (first | exact trivial | exact rfl | refine And.intro ?_ ?_ | ((conv => whnf); first | exact trivial | exact rfl | refine And.intro ?_ ?_ | omega))), (by repeat' (first | exact trivial | exact rfl | refine And.intro ?_ ?_ | ((conv => whnf); first | exact trivial | exact rfl | refine And.intro ?_ ?_ | omega))), ?_⟩
          conv => whnf
          obtain ⟨U1, hU1⟩ : ∃ U, U = bentF [] x := ⟨_, rfl⟩
          obtain ⟨P1, hP1e⟩ : ∃ P, P = shiftF [] x := ⟨_, rfl⟩
          obtain ⟨U2, hU2⟩ : ∃ U, U = bentF [] x := ⟨_, rfl⟩
          obtain ⟨P2, hP2e⟩ : ∃ P, P = shiftF [] x := ⟨_, rfl⟩
          have hU1l := bentF_len [] x
          have hU2l := bentF_len [] x
          have hP1l := shiftF_len [] x
          have hP2l := shiftF_len [] x
          have hP1 := shiftF_bd x hnil
          have hP2 := shiftF_bd x hnil
          have hb1 := bentNil_t x
          have hs1 := shiftedNil_t x
          have hb2 := bentNil_t x
          have hs2 := shiftedNil_t x
          rw [← hU1] at hU1l hb1
          rw [← hU2] at hU2l hb2
          rw [← hP1e] at hP1l hP1 hs1
          rw [← hP2e] at hP2l hP2 hs2
          have hz : ([] : List (Lnk × Int)).length = 0 := rfl
          have hz2 : ([] : List Int).length = 0 := rfl
          clear hU1 hU2 hP1e hP2e
          obtain ⟨what, at_, ⟨⟨uf, ut, um, ui⟩, utm⟩, by_⟩ := x
          refine call_step hb1 rfl rfl ?_
          conv => whnf
          refine ⟨(by repeat' (first | exact trivial | exact rfl | refine And.intro ?_ ?_ | ((conv => whnf); first | exact trivial | exact rfl | refine And.intro ?_ ?_ | omega))), (by repeat' (first | exact trivial | exact rfl | refine And.intro ?_ ?_ | ((conv => whnf); first | exact trivial | exact rfl | refine And.intro ?_ ?_ | omega))), ?_⟩
          conv => whnf
          refine call_step hs1 rfl rfl ?_
          conv => whnf
          refine ⟨(by repeat' (first | exact trivial | exact rfl | refine And.intro ?_ ?_ | ((conv => whnf); first | exact trivial | exact rfl | refine And.intro ?_ ?_ | omega))), (by repeat' (first | exact trivial | exact rfl | refine And.intro ?_ ?_ | ((conv => whnf); first | exact trivial | exact rfl | refine And.intro ?_ ?_ | omega))), ?_⟩
          conv => whnf
          refine call_step hb2 rfl rfl ?_
          conv => whnf
          refine ⟨(by repeat' (first | exact trivial | exact rfl | refine And.intro ?_ ?_ | ((conv => whnf); first | exact trivial | exact rfl | refine And.intro ?_ ?_ | omega))), (by repeat' (first | exact trivial | exact rfl | refine And.intro ?_ ?_ | ((conv => whnf); first | exact trivial | exact rfl | refine And.intro ?_ ?_ | omega))), ?_⟩
          conv => whnf
          refine call_step hs2 rfl rfl ?_
          conv => whnf
          refine ⟨(by repeat' (first | exact trivial | exact rfl | refine And.intro ?_ ?_ | ((conv => whnf); first | exact trivial | exact rfl | refine And.intro ?_ ?_ | omega))), (by repeat' (first | exact trivial | exact rfl | refine And.intro ?_ ?_ | ((conv => whnf); first | exact trivial | exact rfl | refine And.intro ?_ ?_ | omega))), ?_⟩
          conv => whnf
          refine ⟨fun h8 => ?_, fun h8 => ?_⟩
          · have h8 : what = 8 := by simpa using (show (what == 8) = true from h8)
            conv => whnf
            refine ⟨_, rfl, ?_⟩
            conv => whnf
            refine ⟨_, rfl, ?_⟩
            conv => whnf
            refine ⟨fun h9 => absurd (show (what == 9) = true from h9) (by rw [h8]; simp), fun _ => ?_⟩
            conv => whnf
            have c1 := sysCheckBest_t bs ls form (IntKind.i64.wrap (0 + by_)) U1 P1 (by omega) (by omega) (by omega) (by omega) (by omega) hP1
            have c2 := refCheckBest_t bs ls form (IntKind.i64.wrap (0 + by_)) U1 P1 (by omega) (by omega) (by omega) (by omega) (by omega) (wrap_bd _)
            have c3 := sysCheckTop_t bs ls form den (IntKind.i64.wrap (0 + by_)) 0 U2 P2 (by omega) (by omega) (by omega) (by omega) (by omega) (by omega) hP2
            have c4 := refCheckTop_t bs ls form den (IntKind.i64.wrap (0 + by_)) 0 U2 P2 (by omega) (by omega) (by omega) (by omega) (by omega) (by omega)
            generalize checkBestF bs ls form (IntKind.i64.wrap (0 + by_)) U1 P1 = z1 at *
            generalize checkTopF bs ls form den (IntKind.i64.wrap (0 + by_)) 0 U2 P2 = z2 at *
            refine ⟨fun hc => ?_, fun hc => absurd hc (by simp)⟩
            conv => whnf
            refine call_step c1 rfl rfl ?_
            conv => whnf
            refine ⟨(by repeat' (first | exact trivial | exact rfl | refine And.intro ?_ ?_ | ((conv => whnf); first | exact trivial | exact rfl | refine And.intro ?_ ?_ | omega))), (by repeat' (first | exact trivial | exact rfl | refine And.intro ?_ ?_ | ((conv => whnf); first | exact trivial | exact rfl | refine And.intro ?_ ?_ | omega))), ?_⟩
            conv => whnf
            refine call_step c2 rfl rfl ?_
            conv => whnf
            refine ⟨(by repeat' (first | exact trivial | exact rfl | refine And.intro ?_ ?_ | ((conv => whnf); first | exact trivial | exact rfl | refine And.intro ?_ ?_ | omega))), (by repeat' (first | exact trivial | exact rfl | refine And.intro ?_ ?_ | ((conv => whnf); first | exact trivial | exact rfl | refine And.intro ?_ ?_ | omega))), ?_⟩
            conv => whnf
            refine ⟨fun hc => ?_, fun hc => absurd hc (by simp)⟩
            conv => whnf
            refine call_step c3 rfl rfl ?_
            conv => whnf
            refine ⟨(by repeat' (first | exact trivial | exact rfl | refine And.intro ?_ ?_ | ((conv => whnf); first | exact trivial | exact rfl | refine And.intro ?_ ?_ | omega))), (by repeat' (first | exact trivial | exact rfl | refine And.intro ?_ ?_ | ((conv => whnf); first | exact trivial | exact rfl | refine And.intro ?_ ?_ | omega))), ?_⟩
            conv => whnf
            refine call_step c4 rfl rfl ?_
            conv => whnf
            refine ⟨(by repeat' (first | exact trivial | exact rfl | refine And.intro ?_ ?_ | ((conv => whnf); first | exact trivial | exact rfl | refine And.intro ?_ ?_ | omega))), (by repeat' (first | exact trivial | exact rfl | refine And.intro ?_ ?_ | ((conv => whnf); first | exact trivial | exact rfl | refine And.intro ?_ ?_ | omega))), ?_⟩
            conv => whnf
            refine ⟨?_, trivial⟩
            exact beq_self_eq_true z2
          · conv => whnf
            refine ⟨fun h9 => ?_, fun h9 => ?_⟩
            · conv => whnf
              refine ⟨_, rfl, ?_⟩
              conv => whnf
              refine ⟨_, rfl, ?_⟩
              conv => whnf
              have c1 := sysCheckBest_t bs ls form 0 U1 P1 (by omega) (by omega) (by omega) (by omega) (by omega) hP1
              have c2 := refCheckBest_t bs ls form 0 U1 P1 (by omega) (by omega) (by omega) (by omega) (by omega) h00
              have c3 := sysCheckTop_t bs ls form den (IntKind.i64.wrap (2 * 0)) (IntKind.i64.wrap (2 * 0)) U2 P2 (by omega) (by omega) (by omega) (by omega) (by omega) (by omega) hP2
              have c4 := refCheckTop_t bs ls form den (IntKind.i64.wrap (2 * 0)) (IntKind.i64.wrap (2 * 0)) U2 P2 (by omega) (by omega) (by omega) (by omega) (by omega) (by omega)
              generalize checkBestF bs ls form 0 U1 P1 = z1 at *
              generalize checkTopF bs ls form den (IntKind.i64.wrap (2 * 0)) (IntKind.i64.wrap (2 * 0)) U2 P2 = z2 at *
              refine ⟨fun hc => ?_, fun hc => absurd hc (by simp)⟩
              conv => whnf
              refine call_step c1 rfl rfl ?_
              conv => whnf
              refine ⟨(by repeat' (first | exact trivial | exact rfl | refine And.intro ?_ ?_ | ((conv => whnf); first | exact trivial | exact rfl | refine And.intro ?_ ?_ | omega))), (by repeat' (first | exact trivial | exact rfl | refine And.intro ?_ ?_ | ((conv => whnf); first | exact trivial | exact rfl | refine And.intro ?_ ?_ | omega))), ?_⟩
              conv => whnf
              refine call_step c2 rfl rfl ?_
              conv => whnf
              refine ⟨(by repeat' (first | exact trivial | exact rfl | refine And.intro ?_ ?_ | ((conv => whnf); first | exact trivial | exact rfl | refine And.intro ?_ ?_ | omega))), (by repeat' (first | exact trivial | exact rfl | refine And.intro ?_ ?_ | ((conv => whnf); first | exact trivial | exact rfl | refine And.intro ?_ ?_ | omega))), ?_⟩
              conv => whnf
              refine ⟨fun hc => ?_, fun hc => absurd hc (by simp)⟩
              conv => whnf
              refine call_step c3 rfl rfl ?_
              conv => whnf
              refine ⟨(by repeat' (first | exact trivial | exact rfl | refine And.intro ?_ ?_ | ((conv => whnf); first | exact trivial | exact rfl | refine And.intro ?_ ?_ | omega))), (by repeat' (first | exact trivial | exact rfl | refine And.intro ?_ ?_ | ((conv => whnf); first | exact trivial | exact rfl | refine And.intro ?_ ?_ | omega))), ?_⟩
              conv => whnf
              refine call_step c4 rfl rfl ?_
              conv => whnf
              refine ⟨(by repeat' (first | exact trivial | exact rfl | refine And.intro ?_ ?_ | ((conv => whnf); first | exact trivial | exact rfl | refine And.intro ?_ ?_ | omega))), (by repeat' (first | exact trivial | exact rfl | refine And.intro ?_ ?_ | ((conv => whnf); first | exact trivial | exact rfl | refine And.intro ?_ ?_ | omega))), ?_⟩
              conv => whnf
              refine ⟨?_, trivial⟩
              exact beq_self_eq_true z2
            · conv => whnf
              have c1 := sysCheckBest_t bs ls form 0 U1 P1 (by omega) (by omega) (by omega) (by omega) (by omega) hP1
              have c2 := refCheckBest_t bs ls form 0 U1 P1 (by omega) (by omega) (by omega) (by omega) (by omega) h00
              have c3 := sysCheckTop_t bs ls form den 0 0 U2 P2 (by omega) (by omega) (by omega) (by omega) (by omega) (by omega) hP2
              have c4 := refCheckTop_t bs ls form den 0 0 U2 P2 (by omega) (by omega) (by omega) (by omega) (by omega) (by omega)
              generalize checkBestF bs ls form 0 U1 P1 = z1 at *
              generalize checkTopF bs ls form den 0 0 U2 P2 = z2 at *
              refine ⟨fun hc => ?_, fun hc => absurd hc (by simp)⟩
              conv => whnf
              refine call_step c1 rfl rfl ?_
              conv => whnf
              refine ⟨(by repeat' (first | exact trivial | exact rfl | refine And.intro ?_ ?_ | ((conv => whnf); first | exact trivial | exact rfl | refine And.intro ?_ ?_ | omega))), (by repeat' (first | exact trivial | exact rfl | refine And.intro ?_ ?_ | ((conv => whnf); first | exact trivial | exact rfl | refine And.intro ?_ ?_ | omega))), ?_⟩
              conv => whnf
              refine call_step c2 rfl rfl ?_
              conv => whnf
              refine ⟨(by repeat' (first | exact trivial | exact rfl | refine And.intro ?_ ?_ | ((conv => whnf); first | exact trivial | exact rfl | refine And.intro ?_ ?_ | omega))), (by repeat' (first | exact trivial | exact rfl | refine And.intro ?_ ?_ | ((conv => whnf); first | exact trivial | exact rfl | refine And.intro ?_ ?_ | omega))), ?_⟩
              conv => whnf
              refine ⟨fun hc => ?_, fun hc => absurd hc (by simp)⟩
              conv => whnf
              refine call_step c3 rfl rfl ?_
              conv => whnf
              refine ⟨(by repeat' (first | exact trivial | exact rfl | refine And.intro ?_ ?_ | ((conv => whnf); first | exact trivial | exact rfl | refine And.intro ?_ ?_ | omega))), (by repeat' (first | exact trivial | exact rfl | refine And.intro ?_ ?_ | ((conv => whnf); first | exact trivial | exact rfl | refine And.intro ?_ ?_ | omega))), ?_⟩
              conv => whnf
              refine call_step c4 rfl rfl ?_
              conv => whnf
              refine ⟨(by repeat' (first | exact trivial | exact rfl | refine And.intro ?_ ?_ | ((conv => whnf); first | exact trivial | exact rfl | refine And.intro ?_ ?_ | omega))), (by repeat' (first | exact trivial | exact rfl | refine And.intro ?_ ?_ | ((conv => whnf); first | exact trivial | exact rfl | refine And.intro ?_ ?_ | omega))), ?_⟩
              conv => whnf
              refine ⟨?_, trivial⟩
              exact beq_self_eq_true z2
      · skip
        refine triple_of tB_ok Try.func18 rfl Try.call18 rfl ?_
        intro ρ w hH
        conv => whnf
        refine call_step head_t rfl rfl ?_
        conv => whnf
        refine ⟨(by repeat' (first | exact trivial | exact rfl | refine And.intro ?_ ?_ | ((conv => whnf); first | exact trivial | exact rfl | refine And.intro ?_ ?_ | omega))), (by repeat' (first | exact trivial | exact rfl | refine And.intro ?_ ?_ | ((conv => whnf); first | exact trivial | exact rfl | refine And.intro ?_ ?_ | omega))), ?_⟩
        conv => whnf
        refine call_step (few_t bs ls) rfl rfl ?_
        conv => whnf
        refine ⟨(by repeat' (first | exact trivial | exact rfl | refine And.intro ?_ ?_ | ((conv => whnf); first | exact trivial | exact rfl | refine And.intro ?_ ?_ | omega))), (by repeat' (first | exact trivial | exact rfl | refine And.intro ?_ ?_ | ((conv => whnf); first | exact trivial | exact rfl | refine And.intro ?_ ?_ | omega))), ?_⟩
        conv => whnf
        rw [hfe]
        refine ⟨fun hc => absurd hc (by simp), fun hc => ?_⟩
        conv => whnf
        refine ⟨fun hc => absurd (of_decide_eq_true (show decide ((40 : Int) < form.length) = true from hc)) (by omega), fun hc => ?_⟩
        conv => whnf
        refine ⟨fun hc => ?_, fun hc => absurd (of_decide_eq_false (show decide ((40 : Int) < den.length) = false from hc)) (by omega)⟩
        conv => whnf
        repeat' (first | exact trivial | exact rfl | refine And.intro ?_ ?_ | ((conv => whnf); first | exact trivial | exact rfl | refine And.intro ?_ ?_ | omega))
    · skip
      refine triple_of tB_ok Try.func18 rfl Try.call18 rfl ?_
      intro ρ w hH
      conv => whnf
      refine call_step head_t rfl rfl ?_
      conv => whnf
      refine ⟨(by repeat' (first | exact trivial | exact rfl | refine And.intro ?_ ?_ | ((conv => whnf); first | exact trivial | exact rfl | refine And.intro ?_ ?_ | omega))), (by repeat' (first | exact trivial | exact rfl | refine And.intro ?_ ?_ | ((conv => whnf); first | exact trivial | exact rfl | refine And.intro ?_ ?_ | omega))), ?_⟩
      conv => whnf
      refine call_step (few_t bs ls) rfl rfl ?_
      conv => whnf
      refine ⟨(by repeat' (first | exact trivial | exact rfl | refine And.intro ?_ ?_ | ((conv => whnf); first | exact trivial | exact rfl | refine And.intro ?_ ?_ | omega))), (by repeat' (first | exact trivial | exact rfl | refine And.intro ?_ ?_ | ((conv => whnf); first | exact trivial | exact rfl | refine And.intro ?_ ?_ | omega))), ?_⟩
      conv => whnf
      rw [hfe]
      refine ⟨fun hc => absurd hc (by simp), fun hc => ?_⟩
      conv => whnf
      refine ⟨fun hc => ?_, fun hc => absurd (of_decide_eq_false (show decide ((40 : Int) < form.length) = false from hc)) (by omega)⟩
      conv => whnf
      repeat' (first | exact trivial | exact rfl | refine And.intro ?_ ?_ | ((conv => whnf); first | exact trivial | exact rfl | refine And.intro ?_ ?_ | omega))

end Go.Proofs

