/-
  A part of the proof that a law answers true: lemmas of a symbolic walk, plain functions, or contracts of the functions walked (Rb, Rc). Conditions: none.
-/
import Derived.Test.YtagedjfjcnemoaaGreatPart20
import Derived.Test.YtagedjfjcnemoaaGreatPart11
import Derived.Test.YtagedjfjcnemoaaGreatPart14
set_option maxRecDepth 100000
set_option linter.unusedVariables false
set_option linter.unusedSimpArgs false
namespace Go.Proofs
open Go.Sx

structure Sml (r : Rd) : Prop where
  bs : r.bs.length ≤ 100000
  cs : r.cs.length ≤ 100000
  ns : r.ns.length ≤ 100000
  ws : r.ws.length ≤ 100000

theorem RdOK.sml {r : Rd} (h : RdOK r) : Sml r := by
  have := h.nb; have := h.nr
  exact ⟨by omega, by omega, by omega, by omega⟩

abbrev shH (r : Rd) (os : List Thg) (ms : List Mom) : Heap := rdH r ++ [(4, false, sheetO r 5 6 7 8 os.length ms.length), (5, false, .arr (aThg os)), (6, false, placesO os), (7, false, .arr (aMom ms)), (8, false, atO os ms)]
abbrev rngT (R : (Int × Int) × Int) : SV := .tup [.inr [.v (.int .i64 R.1.1), .v (.int .i64 R.1.2)], .inl (.v (.int .i64 R.2))]

theorem placeIn {n : Nat} {a : Int} (h : -1 ≤ a ∧ a < n) : withinF a (-1) (n - 1) = true := by simp [withinF]; omega

theorem between_t (r : Rd) (os : List Thg) (ms : List Mom) (h : ShOK r os ms) (hs : SysOK (boxesR r os ms) (linksR r os ms)) (a b : Int) (ha : -1 ≤ a ∧ a < (boxesR r os ms).length) (hb : -1 ≤ b ∧ b < (boxesR r os ms).length) :
    Triple Tryz.prog 111 [.c (.p 4 0 0 0), iv .i64 a, iv .i64 b] (shH r os ms) 9 (rngT (betweenF (boxesR r os ms) (linksR r os ms) a b)) [] := by
  have hS := sysOf_t r os ms h
  have e : betweenF (boxesR r os ms) (linksR r os ms) a b = if Calm (boxesR r os ms) (linksR r os ms) 0 then ((-mostF (boxesR r os ms).length (graphF (boxesR r os ms) (linksR r os ms) 0) b a, mostF (boxesR r os ms).length (graphF (boxesR r os ms) (linksR r os ms) 0) a b), 0) else ((0, 0), 9) := rfl
  generalize betweenF (boxesR r os ms) (linksR r os ms) a b = R at *
  generalize boxesR r os ms = bs at *
  generalize linksR r os ms = ls at *
  by_cases hc : Calm bs ls 0
  · rw [if_pos hc] at e
    have hR := range_t bs ls a b hs ha.2 hb.2 (placeIn ha) (placeIn hb) _ _ rfl rfl
    generalize -mostF bs.length (graphF bs ls 0) b a = lo at *
    generalize mostF bs.length (graphF bs ls 0) a b = hi at *
    subst e
    refine triple_of tB_ok Tryz.func111 rfl Tryz.call111 rfl ?_
    intro ρ w hH
    conv=>whnf
    refine call_step hS rfl rfl ?_
    conv=>whnf
    refine ⟨?_, ?_, ?_⟩
    iterate 2 · repeat' (first | exact trivial | exact rfl | refine And.intro ?_ ?_ | ((conv=>whnf); first | exact trivial | exact rfl | refine And.intro ?_ ?_ | omega))
    conv=>whnf
    refine call_step (newNone_t bs ls hs hc) rfl rfl ?_
    conv=>whnf
    refine ⟨?_, ?_, ?_⟩
    iterate 2 · repeat' (first | exact trivial | exact rfl | refine And.intro ?_ ?_ | ((conv=>whnf); first | exact trivial | exact rfl | refine And.intro ?_ ?_ | omega))
    conv=>whnf
    refine ⟨fun hc => absurd hc (by simp), fun hc => ?_⟩
    conv=>whnf
    refine call_step hR rfl rfl ?_
    conv=>whnf
    refine ⟨?_, ?_, ?_⟩
    iterate 2 · repeat' (first | exact trivial | exact rfl | refine And.intro ?_ ?_ | ((conv=>whnf); first | exact trivial | exact rfl | refine And.intro ?_ ?_ | omega))
    conv=>whnf
    repeat' (first | exact trivial | exact rfl | refine And.intro ?_ ?_ | ((conv=>whnf); first | exact trivial | exact rfl | refine And.intro ?_ ?_ | omega))
  · rw [if_neg hc] at e
    subst e
    refine triple_of tB_ok Tryz.func111 rfl Tryz.call111 rfl ?_
    intro ρ w hH
    conv=>whnf
    refine call_step hS rfl rfl ?_
    conv=>whnf
    refine ⟨?_, ?_, ?_⟩
    iterate 2 · repeat' (first | exact trivial | exact rfl | refine And.intro ?_ ?_ | ((conv=>whnf); first | exact trivial | exact rfl | refine And.intro ?_ ?_ | omega))
    conv=>whnf
    refine call_step (newClash_t bs ls hs hc) rfl rfl ?_
    conv=>whnf
    refine ⟨?_, ?_, ?_⟩
    iterate 2 · repeat' (first | exact trivial | exact rfl | refine And.intro ?_ ?_ | ((conv=>whnf); first | exact trivial | exact rfl | refine And.intro ?_ ?_ | omega))
    conv=>whnf
    refine ⟨fun hc => ?_, fun hc => absurd hc (by simp)⟩
    conv=>whnf
    repeat' (first | exact trivial | exact rfl | refine And.intro ?_ ?_ | ((conv=>whnf); first | exact trivial | exact rfl | refine And.intro ?_ ?_ | omega))

theorem spreadNil_t (r : Rd) (hs : Sml r) :
    Triple Tryz.prog 81 [rdA r, .c (.v (.slice none 0 0))] (rdH r) 4 (.c (.p 5 0 0 0))
      [(5, true, sheetO r 6 7 8 9 (objsF r).length (momsF r []).length), (6, true, .arr (aThg (objsF r))), (7, true, placesO (objsF r)), (8, true, .arr (aMom (momsF r []))), (9, true, atO (objsF r) (momsF r []))] :=
  Triple.nilK (k := 4) (o := .arr (aMom [])) (H := rdH r) (spread_t r [] (by simp) hs.ws hs.cs) rfl rfl rfl (by
    intro ρ vals hv
    match hvl : vals, hv with
    | [a, b], hv =>
      refine ⟨?_, ?_, trivial⟩
      · exact SV.rel_agree (fun k hk => upd_ne (by
          have : k < 4 := by
            have h1 : memN k (rdA r).nms = true := memN_iff.2 (SV.uses_nms.1 hk)
            have h2 : k ∈ [0, 2, 3, 1] := SV.uses_nms.1 hk
            simp at h2; omega
          omega)) hv.1
      · have hb : b = .slice none 0 0 := hv.2.1
        subst hb
        exact ⟨none, by rw [upd_eq]; rfl, by rw [upd_eq]; exact Nat.le_refl _, fun h => by rw [upd_eq] at h; cases h⟩)

theorem massV_t (r : Rd) (o : Thg) (h : RdOK r) : Triple Tryz.prog 105 [rdA r, svThg o] (rdH r) 4 (rngT (massV r o)) [] := by
  have hsh := sheet_ok h (more := []) (by simp) (by simp)
  have hsy : SysOK (boxR r []) (lnkR r []) := rd_sys h (by simp) (by simp)
  have hbl := boxR_len r []
  have e : massV r o = if o ∈ objsF r then betweenF (boxR r []) (lnkR r []) (-1) (plF (objsF r) o) else ((0, 0), 5) := rfl
  have hB : o ∈ objsF r → Triple Tryz.prog 111 [.c (.p 4 0 0 0), iv .i64 (-1), iv .i64 (plF (objsF r) o)] (shH r (objsF r) (momsF r [])) 9 (rngT (betweenF (boxR r []) (lnkR r []) (-1) (plF (objsF r) o))) [] := fun ho => by
    obtain ⟨e1, l1⟩ := plF_mem ho
    exact between_t r _ _ hsh hsy (-1) _ ⟨by omega, by rw [show (boxesR r (objsF r) (momsF r [])) = boxR r [] from rfl, hbl]; omega⟩ ⟨by omega, by rw [show (boxesR r (objsF r) (momsF r [])) = boxR r [] from rfl, hbl]; omega⟩
  have hSp := spreadNil_t r h.sml
  by_cases ho : o ∈ objsF r
  · rw [if_pos ho] at e
    have hB := hB ho
    have hl := look_obj ho
    generalize betweenF (boxR r []) (lnkR r []) (-1) (plF (objsF r) o) = R at *
    generalize plF (objsF r) o = p at *
    generalize objsF r = os at *
    generalize momsF r [] = ms at *
    rw [e]
    refine triple_of tB_ok Tryz.func105 rfl Tryz.call105 rfl ?_
    intro ρ w hH
    conv=>whnf
    refine call_step hSp rfl rfl ?_
    conv=>whnf
    refine ⟨?_, ?_, ?_⟩
    iterate 2 · repeat' (first | exact trivial | exact rfl | refine And.intro ?_ ?_ | ((conv=>whnf); first | exact trivial | exact rfl | refine And.intro ?_ ?_ | omega))
    conv=>whnf
    refine lookKV_step tB_ok 30 3 true false 4 [0] keyThg zeroInt_ok rfl ?_
    conv=>whnf
    refine ⟨_, _, _, rfl, hl, ?_⟩
    conv=>whnf
    refine ⟨fun hc => absurd hc (by simp), fun hc => ?_⟩
    conv=>whnf
    refine call_step hB rfl rfl ?_
    conv=>whnf
    refine ⟨?_, ?_, ?_⟩
    iterate 2 · repeat' (first | exact trivial | exact rfl | refine And.intro ?_ ?_ | ((conv=>whnf); first | exact trivial | exact rfl | refine And.intro ?_ ?_ | omega))
    conv=>whnf
    repeat' (first | exact trivial | exact rfl | refine And.intro ?_ ?_ | ((conv=>whnf); first | exact trivial | exact rfl | refine And.intro ?_ ?_ | omega))
  · rw [if_neg ho] at e
    have hl := look_noobj ho
    generalize objsF r = os at *
    generalize momsF r [] = ms at *
    rw [e]
    refine triple_of tB_ok Tryz.func105 rfl Tryz.call105 rfl ?_
    intro ρ w hH
    conv=>whnf
    refine call_step hSp rfl rfl ?_
    conv=>whnf
    refine ⟨?_, ?_, ?_⟩
    iterate 2 · repeat' (first | exact trivial | exact rfl | refine And.intro ?_ ?_ | ((conv=>whnf); first | exact trivial | exact rfl | refine And.intro ?_ ?_ | omega))
    conv=>whnf
    refine lookKV_step tB_ok 30 3 true false 4 [0] keyThg zeroInt_ok rfl ?_
    conv=>whnf
    refine ⟨_, _, _, rfl, hl, ?_⟩
    conv=>whnf
    refine ⟨fun hc => ?_, fun hc => absurd hc (by simp)⟩
    conv=>whnf
    repeat' (first | exact trivial | exact rfl | refine And.intro ?_ ?_ | ((conv=>whnf); first | exact trivial | exact rfl | refine And.intro ?_ ?_ | omega))

theorem mass_t (r : Rd) (o : Thg) (hs : Sml r) : Triple Tryz.prog 20 [rdA r, svThg o] (rdH r) 4 (rngT (massF r o)) [] := by
  have hC := check_rd_t r (Nat.le_trans hs.bs (by decide)) (Nat.le_trans hs.cs (by decide)) (Nat.le_trans hs.ns (by decide)) (Nat.le_trans hs.ws (by decide))
  have e : massF r o = if checkR r = 0 then massV r o else ((0, 0), checkR r) := rfl
  by_cases h0 : checkR r = 0
  · rw [if_pos h0] at e
    have hM := massV_t r o (checkR_ok.1 h0)
    rw [h0] at hC
    rw [e]
    generalize massV r o = R at *
    refine triple_of tB_ok Tryz.func20 rfl Tryz.call20 rfl ?_
    intro ρ w hH
    conv=>whnf
    refine call_step hC rfl rfl ?_
    conv=>whnf
    refine ⟨?_, ?_, ?_⟩
    iterate 2 · repeat' (first | exact trivial | exact rfl | refine And.intro ?_ ?_ | ((conv=>whnf); first | exact trivial | exact rfl | refine And.intro ?_ ?_ | omega))
    conv=>whnf
    refine ⟨fun hc => absurd hc (by simp), fun hc => ?_⟩
    conv=>whnf
    refine call_step hM rfl rfl ?_
    conv=>whnf
    refine ⟨?_, ?_, ?_⟩
    iterate 2 · repeat' (first | exact trivial | exact rfl | refine And.intro ?_ ?_ | ((conv=>whnf); first | exact trivial | exact rfl | refine And.intro ?_ ?_ | omega))
    conv=>whnf
    repeat' (first | exact trivial | exact rfl | refine And.intro ?_ ?_ | ((conv=>whnf); first | exact trivial | exact rfl | refine And.intro ?_ ?_ | omega))
  · rw [if_neg h0] at e
    rw [e]
    generalize checkR r = c at *
    refine triple_of tB_ok Tryz.func20 rfl Tryz.call20 rfl ?_
    intro ρ w hH
    conv=>whnf
    refine call_step hC rfl rfl ?_
    conv=>whnf
    refine ⟨?_, ?_, ?_⟩
    iterate 2 · repeat' (first | exact trivial | exact rfl | refine And.intro ?_ ?_ | ((conv=>whnf); first | exact trivial | exact rfl | refine And.intro ?_ ?_ | omega))
    conv=>whnf
    refine ⟨fun hcc => ?_, fun hcc => absurd (by simpa using (show (c != 0) = false from hcc)) h0⟩
    conv=>whnf
    repeat' (first | exact trivial | exact rfl | refine And.intro ?_ ?_ | ((conv=>whnf); first | exact trivial | exact rfl | refine And.intro ?_ ?_ | omega))

theorem loss_t (r : Rd) (x y : Thg) (hs : Sml r) : Triple Tryz.prog 34 [rdA r, svThg x, svThg y] (rdH r) 4 (rngT (lossF r x y)) [] := by
  have hC := check_rd_t r (Nat.le_trans hs.bs (by decide)) (Nat.le_trans hs.cs (by decide)) (Nat.le_trans hs.ns (by decide)) (Nat.le_trans hs.ws (by decide))
  have e : lossF r x y = if checkR r = 0 then (if x ∈ objsF r ∧ y ∈ objsF r then betweenF (boxR r []) (lnkR r []) (plF (objsF r) y) (plF (objsF r) x) else ((0, 0), 5)) else ((0, 0), checkR r) := rfl
  by_cases h0 : checkR r = 0
  · rw [if_pos h0] at e
    rw [h0] at hC
    have h := checkR_ok.1 h0
    have hsh := sheet_ok h (more := []) (by simp) (by simp)
    have hsy : SysOK (boxR r []) (lnkR r []) := rd_sys h (by simp) (by simp)
    have hbl := boxR_len r []
    have hB : x ∈ objsF r ∧ y ∈ objsF r → Triple Tryz.prog 111 [.c (.p 4 0 0 0), iv .i64 (plF (objsF r) y), iv .i64 (plF (objsF r) x)] (shH r (objsF r) (momsF r [])) 9 (rngT (betweenF (boxR r []) (lnkR r []) (plF (objsF r) y) (plF (objsF r) x))) [] := fun ⟨hx, hy⟩ => by
      obtain ⟨e1, l1⟩ := plF_mem hx
      obtain ⟨e2, l2⟩ := plF_mem hy
      exact between_t r _ _ hsh hsy _ _ ⟨by omega, by rw [show (boxesR r (objsF r) (momsF r [])) = boxR r [] from rfl, hbl]; omega⟩ ⟨by omega, by rw [show (boxesR r (objsF r) (momsF r [])) = boxR r [] from rfl, hbl]; omega⟩
    have hSp := spreadNil_t r h.sml
    have lx : lookKV (placesF thgL 0 (objsF r)) (thgL x) [0] = ([if x ∈ objsF r then plF (objsF r) x else 0], decide (x ∈ objsF r)) := by
      by_cases hx : x ∈ objsF r
      · rw [look_obj hx, if_pos hx, decide_eq_true hx]
      · rw [look_noobj hx, if_neg hx, decide_eq_false hx]
    have ly : lookKV (placesF thgL 0 (objsF r)) (thgL y) [0] = ([if y ∈ objsF r then plF (objsF r) y else 0], decide (y ∈ objsF r)) := by
      by_cases hx : y ∈ objsF r
      · rw [look_obj hx, if_pos hx, decide_eq_true hx]
      · rw [look_noobj hx, if_neg hx, decide_eq_false hx]
    by_cases hx : x ∈ objsF r <;> by_cases hy : y ∈ objsF r
    · rw [if_pos ⟨hx, hy⟩] at e
      have hB := hB ⟨hx, hy⟩
      rw [if_pos hx, decide_eq_true hx] at lx
      rw [if_pos hy, decide_eq_true hy] at ly
      rw [e]
      generalize betweenF (boxR r []) (lnkR r []) (plF (objsF r) y) (plF (objsF r) x) = R at *
      generalize plF (objsF r) x = p at *
      generalize plF (objsF r) y = q at *
      generalize objsF r = os at *
      generalize momsF r [] = ms at *
      refine triple_of tB_ok Tryz.func34 rfl Tryz.call34 rfl ?_
      intro ρ w hH
      conv=>whnf
      refine call_step hC rfl rfl ?_
      conv=>whnf
      refine ⟨?_, ?_, ?_⟩
      iterate 2 · repeat' (first | exact trivial | exact rfl | refine And.intro ?_ ?_ | ((conv=>whnf); first | exact trivial | exact rfl | refine And.intro ?_ ?_ | omega))
      conv=>whnf
      refine ⟨fun hc => absurd hc (by simp), fun hc => ?_⟩
      conv=>whnf
      refine call_step hSp rfl rfl ?_
      conv=>whnf
      refine ⟨?_, ?_, ?_⟩
      iterate 2 · repeat' (first | exact trivial | exact rfl | refine And.intro ?_ ?_ | ((conv=>whnf); first | exact trivial | exact rfl | refine And.intro ?_ ?_ | omega))
      conv=>whnf
      refine lookKV_step tB_ok 30 3 true false 4 [0] keyThg zeroInt_ok rfl ?_
      conv=>whnf
      refine ⟨_, _, _, rfl, lx, ?_⟩
      conv=>whnf
      refine lookKV_step tB_ok 30 3 true false 4 [0] keyThg zeroInt_ok rfl ?_
      conv=>whnf
      refine ⟨_, _, _, rfl, ly, ?_⟩
      conv=>whnf
      refine ⟨fun hc => absurd hc (by simp), fun hc => ?_⟩
      conv=>whnf
      refine ⟨fun hc => absurd hc (by simp), fun hc => ?_⟩
      conv=>whnf
      refine call_step hB rfl rfl ?_
      conv=>whnf
      refine ⟨?_, ?_, ?_⟩
      iterate 2 · repeat' (first | exact trivial | exact rfl | refine And.intro ?_ ?_ | ((conv=>whnf); first | exact trivial | exact rfl | refine And.intro ?_ ?_ | omega))
      conv=>whnf
      repeat' (first | exact trivial | exact rfl | refine And.intro ?_ ?_ | ((conv=>whnf); first | exact trivial | exact rfl | refine And.intro ?_ ?_ | omega))
    · rw [if_neg (fun hh => hy hh.2)] at e
      rw [if_pos hx, decide_eq_true hx] at lx
      rw [if_neg hy, decide_eq_false hy] at ly
      rw [e]
      generalize plF (objsF r) x = p at *
      generalize objsF r = os at *
      generalize momsF r [] = ms at *
      refine triple_of tB_ok Tryz.func34 rfl Tryz.call34 rfl ?_
      intro ρ w hH
      conv=>whnf
      refine call_step hC rfl rfl ?_
      conv=>whnf
      refine ⟨?_, ?_, ?_⟩
      iterate 2 · repeat' (first | exact trivial | exact rfl | refine And.intro ?_ ?_ | ((conv=>whnf); first | exact trivial | exact rfl | refine And.intro ?_ ?_ | omega))
      conv=>whnf
      refine ⟨fun hc => absurd hc (by simp), fun hc => ?_⟩
      conv=>whnf
      refine call_step hSp rfl rfl ?_
      conv=>whnf
      refine ⟨?_, ?_, ?_⟩
      iterate 2 · repeat' (first | exact trivial | exact rfl | refine And.intro ?_ ?_ | ((conv=>whnf); first | exact trivial | exact rfl | refine And.intro ?_ ?_ | omega))
      conv=>whnf
      refine lookKV_step tB_ok 30 3 true false 4 [0] keyThg zeroInt_ok rfl ?_
      conv=>whnf
      refine ⟨_, _, _, rfl, lx, ?_⟩
      conv=>whnf
      refine lookKV_step tB_ok 30 3 true false 4 [0] keyThg zeroInt_ok rfl ?_
      conv=>whnf
      refine ⟨_, _, _, rfl, ly, ?_⟩
      conv=>whnf
      refine ⟨fun hc => absurd hc (by simp), fun hc => ?_⟩
      conv=>whnf
      refine ⟨fun hc => ?_, fun hc => absurd hc (by simp)⟩
      conv=>whnf
      repeat' (first | exact trivial | exact rfl | refine And.intro ?_ ?_ | ((conv=>whnf); first | exact trivial | exact rfl | refine And.intro ?_ ?_ | omega))
    all_goals
      rw [if_neg (fun hh => hx hh.1)] at e
      rw [if_neg hx, decide_eq_false hx] at lx
      rw [e]
      generalize (if y ∈ objsF r then plF (objsF r) y else 0) = q at *
      generalize decide (y ∈ objsF r) = iy at *
      generalize objsF r = os at *
      generalize momsF r [] = ms at *
      refine triple_of tB_ok Tryz.func34 rfl Tryz.call34 rfl ?_
      intro ρ w hH
      conv=>whnf
      refine call_step hC rfl rfl ?_
      conv=>whnf
      refine ⟨?_, ?_, ?_⟩
      iterate 2 · repeat' (first | exact trivial | exact rfl | refine And.intro ?_ ?_ | ((conv=>whnf); first | exact trivial | exact rfl | refine And.intro ?_ ?_ | omega))
      conv=>whnf
      refine ⟨fun hc => absurd hc (by simp), fun hc => ?_⟩
      conv=>whnf
      refine call_step hSp rfl rfl ?_
      conv=>whnf
      refine ⟨?_, ?_, ?_⟩
      iterate 2 · repeat' (first | exact trivial | exact rfl | refine And.intro ?_ ?_ | ((conv=>whnf); first | exact trivial | exact rfl | refine And.intro ?_ ?_ | omega))
      conv=>whnf
      refine lookKV_step tB_ok 30 3 true false 4 [0] keyThg zeroInt_ok rfl ?_
      conv=>whnf
      refine ⟨_, _, _, rfl, lx, ?_⟩
      conv=>whnf
      refine lookKV_step tB_ok 30 3 true false 4 [0] keyThg zeroInt_ok rfl ?_
      conv=>whnf
      refine ⟨_, _, _, rfl, ly, ?_⟩
      conv=>whnf
      refine ⟨fun hc => ?_, fun hc => absurd hc (by simp)⟩
      conv=>whnf
      repeat' (first | exact trivial | exact rfl | refine And.intro ?_ ?_ | ((conv=>whnf); first | exact trivial | exact rfl | refine And.intro ?_ ?_ | omega))
  · rw [if_neg h0] at e
    rw [e]
    generalize checkR r = c at *
    refine triple_of tB_ok Tryz.func34 rfl Tryz.call34 rfl ?_
    intro ρ w hH
    conv=>whnf
    refine call_step hC rfl rfl ?_
    conv=>whnf
    refine ⟨?_, ?_, ?_⟩
    iterate 2 · repeat' (first | exact trivial | exact rfl | refine And.intro ?_ ?_ | ((conv=>whnf); first | exact trivial | exact rfl | refine And.intro ?_ ?_ | omega))
    conv=>whnf
    refine ⟨fun hcc => ?_, fun hcc => absurd (by simpa using (show (c != 0) = false from hcc)) h0⟩
    conv=>whnf
    repeat' (first | exact trivial | exact rfl | refine And.intro ?_ ?_ | ((conv=>whnf); first | exact trivial | exact rfl | refine And.intro ?_ ?_ | omega))

theorem drifted_t (r : Rd) (m : Mom) (hs : Sml r) : Triple Tryz.prog 26 [rdA r, svMom m] (rdH r) 4 (rngT (driftedF r m)) [] := by
  have hC := check_rd_t r (Nat.le_trans hs.bs (by decide)) (Nat.le_trans hs.cs (by decide)) (Nat.le_trans hs.ns (by decide)) (Nat.le_trans hs.ws (by decide))
  have e : driftedF r m = if checkR r = 0 then (if momOK r m = true then betweenF (boxR r [m]) (lnkR r [m]) (-1) ((objsF r).length + plF (momsF r [m]) m) else ((0, 0), 1)) else ((0, 0), checkR r) := rfl
  have hMo := bMoment_t r m (Nat.le_trans hs.bs (by decide))
  by_cases h0 : checkR r = 0
  · rw [if_pos h0] at e
    rw [h0] at hC
    have h := checkR_ok.1 h0
    by_cases hm : momOK r m = true
    · rw [if_pos hm] at e
      rw [hm] at hMo
      have hmo : ∀ x ∈ [m], momOK r x = true := by simpa using hm
      have hsh := sheet_ok h (more := [m]) (by simp) hmo
      have hsy : SysOK (boxR r [m]) (lnkR r [m]) := rd_sys h (by simp) hmo
      have hbl := boxR_len r [m]
      have hin : m ∈ momsF r [m] := momsF_mem.2 (.inr (.inr (by simp)))
      obtain ⟨e1, l1⟩ := plF_mem hin
      have hB := between_t r _ _ hsh hsy (-1) ((objsF r).length + plF (momsF r [m]) m) ⟨by omega, by rw [show (boxesR r (objsF r) (momsF r [m])) = boxR r [m] from rfl, hbl]; omega⟩ ⟨by omega, by rw [show (boxesR r (objsF r) (momsF r [m])) = boxR r [m] from rfl, hbl]; omega⟩
      have hSp := spread_t r [m] (by simp) hs.ws hs.cs
      have lm := look_mom (n := (objsF r).length) hin
      have hB : Triple Tryz.prog 111 [.c (.p 4 0 0 0), iv .i64 (-1), iv .i64 ((objsF r).length + plF (momsF r [m]) m)] (shH r (objsF r) (momsF r [m])) 9 (rngT (betweenF (boxR r [m]) (lnkR r [m]) (-1) ((objsF r).length + plF (momsF r [m]) m))) [] := hB
      rw [e]
      generalize betweenF (boxR r [m]) (lnkR r [m]) (-1) ((objsF r).length + plF (momsF r [m]) m) = R at *
      generalize plF (momsF r [m]) m = p at *
      generalize objsF r = os at *
      generalize momsF r [m] = ms at *
      refine triple_of tB_ok Tryz.func26 rfl Tryz.call26 rfl ?_
      intro ρ w hH
      conv=>whnf
      refine call_step hC rfl rfl ?_
      conv=>whnf
      refine ⟨?_, ?_, ?_⟩
      iterate 2 · repeat' (first | exact trivial | exact rfl | refine And.intro ?_ ?_ | ((conv=>whnf); first | exact trivial | exact rfl | refine And.intro ?_ ?_ | omega))
      conv=>whnf
      refine ⟨fun hc => absurd hc (by simp), fun hc => ?_⟩
      conv=>whnf
      refine call_step hMo rfl rfl ?_
      conv=>whnf
      refine ⟨?_, ?_, ?_⟩
      iterate 2 · repeat' (first | exact trivial | exact rfl | refine And.intro ?_ ?_ | ((conv=>whnf); first | exact trivial | exact rfl | refine And.intro ?_ ?_ | omega))
      conv=>whnf
      refine ⟨fun hc => absurd hc (by simp), fun hc => ?_⟩
      conv=>whnf
      refine bs_step tB_ok (aMom [m]) rfl rfl ?_
      conv=>whnf
      refine ⟨⟨rfl, (by repeat' (first | exact trivial | exact rfl | refine And.intro ?_ ?_ | ((conv=>whnf); first | exact trivial | exact rfl | refine And.intro ?_ ?_ | omega)))⟩, ?_⟩
      conv=>whnf
      refine call_step hSp rfl rfl ?_
      conv=>whnf
      refine ⟨?_, ?_, ?_⟩
      iterate 2 · repeat' (first | exact trivial | exact rfl | refine And.intro ?_ ?_ | ((conv=>whnf); first | exact trivial | exact rfl | refine And.intro ?_ ?_ | omega))
      conv=>whnf
      refine lookKV_step tB_ok 53 3 true false 2 [0] keyMom zeroInt_ok rfl ?_
      conv=>whnf
      refine ⟨_, _, _, rfl, lm, ?_⟩
      conv=>whnf
      refine call_step hB rfl rfl ?_
      conv=>whnf
      refine ⟨?_, ?_, ?_⟩
      iterate 2 · repeat' (first | exact trivial | exact rfl | refine And.intro ?_ ?_ | ((conv=>whnf); first | exact trivial | exact rfl | refine And.intro ?_ ?_ | omega))
      conv=>whnf
      repeat' (first | exact trivial | exact rfl | refine And.intro ?_ ?_ | ((conv=>whnf); first | exact trivial | exact rfl | refine And.intro ?_ ?_ | omega))
    · rw [if_neg hm] at e
      have hm2 : momOK r m = false := by simpa using hm
      rw [hm2] at hMo
      rw [e]
      refine triple_of tB_ok Tryz.func26 rfl Tryz.call26 rfl ?_
      intro ρ w hH
      conv=>whnf
      refine call_step hC rfl rfl ?_
      conv=>whnf
      refine ⟨?_, ?_, ?_⟩
      iterate 2 · repeat' (first | exact trivial | exact rfl | refine And.intro ?_ ?_ | ((conv=>whnf); first | exact trivial | exact rfl | refine And.intro ?_ ?_ | omega))
      conv=>whnf
      refine ⟨fun hc => absurd hc (by simp), fun hc => ?_⟩
      conv=>whnf
      refine call_step hMo rfl rfl ?_
      conv=>whnf
      refine ⟨?_, ?_, ?_⟩
      iterate 2 · repeat' (first | exact trivial | exact rfl | refine And.intro ?_ ?_ | ((conv=>whnf); first | exact trivial | exact rfl | refine And.intro ?_ ?_ | omega))
      conv=>whnf
      refine ⟨fun hc => ?_, fun hc => absurd hc (by simp)⟩
      conv=>whnf
      repeat' (first | exact trivial | exact rfl | refine And.intro ?_ ?_ | ((conv=>whnf); first | exact trivial | exact rfl | refine And.intro ?_ ?_ | omega))
  · rw [if_neg h0] at e
    rw [e]
    generalize checkR r = c at *
    refine triple_of tB_ok Tryz.func26 rfl Tryz.call26 rfl ?_
    intro ρ w hH
    conv=>whnf
    refine call_step hC rfl rfl ?_
    conv=>whnf
    refine ⟨?_, ?_, ?_⟩
    iterate 2 · repeat' (first | exact trivial | exact rfl | refine And.intro ?_ ?_ | ((conv=>whnf); first | exact trivial | exact rfl | refine And.intro ?_ ?_ | omega))
    conv=>whnf
    refine ⟨fun hcc => ?_, fun hcc => absurd (by simpa using (show (c != 0) = false from hcc)) h0⟩
    conv=>whnf
    repeat' (first | exact trivial | exact rfl | refine And.intro ?_ ?_ | ((conv=>whnf); first | exact trivial | exact rfl | refine And.intro ?_ ?_ | omega))

end Go.Proofs

namespace Go.Proofs
open Go.Sx

theorem bIds_t (r : Rd) (hs : Sml r) : Triple Tryz.prog 107 [rdA r] (rdH r) 4 (.c (.s 4 0 (idsR r).length 1)) [(4, true, .arr (aInt (idsR r)))] := by
  have e : idsR r = distS (fun a b : Int => decide (a < b)) ((r.cs.map Chk.id ++ r.ns.map Ntc.id) ++ r.ws.map Wgh.id) := by unfold idsR allIds; rw [List.append_assoc]
  rw [e]
  clear e
  obtain ⟨h1, h2, h3, h4⟩ := hs
  obtain ⟨bs, cs, ns, ws⟩ := r
  dsimp only at *
  refine triple_of tB_ok Tryz.func107 rfl Tryz.call107 rfl ?_
  intro ρ w hH
  conv=>whnf
  refine loop_step tB_ok (G := Nat) 1 [] (fun i => [(13, iv .i64 i), (3, .c (.s 5 0 ((cs.take i).map Chk.id).length 1))]) (fun i => [(5, true, .arr (aInt ((cs.take i).map Chk.id)))]) (fun i => i ≤ cs.length) (fun i => cs.length - i) ?_
  conv=>whnf
  refine ⟨⟨0, Nat.zero_le _, ?_⟩, ?_⟩
  · conv=>whnf
    repeat' (first | exact trivial | exact rfl | refine And.intro ?_ ?_ | ((conv=>whnf); first | exact trivial | exact rfl | refine And.intro ?_ ?_ | omega))
  rintro i hi ρ1 t1 hρ1
  conv=>whnf
  refine ⟨fun hc => ?_, fun hc => ?_⟩
  · have hlt : i < cs.length := by simpa using hc
    have hL : ( (cs.take i).map Chk.id).length ≤ 100000 := by simp only [List.length_append, List.length_map, List.length_take]; omega
    have hnx :  (cs.take (i + 1)).map Chk.id = ( (cs.take i).map Chk.id) ++ [Chk.id cs[i]] := by rw [take_snoc hlt, List.map_append]; simp
    generalize  (cs.take i).map Chk.id = M at *
    conv=>whnf
    refine ⟨i, rfl, hlt, hlt, ?_⟩
    conv=>whnf
    refine bs_step tB_ok (aInt [Chk.id cs[i]]) rfl rfl ?_
    conv=>whnf
    refine ⟨⟨rfl, (by repeat' (first | exact trivial | exact rfl | refine And.intro ?_ ?_ | ((conv=>whnf); first | exact trivial | exact rfl | refine And.intro ?_ ?_ | omega)))⟩, ?_⟩
    conv=>whnf
    refine app_step tB_ok (aInt M) [Chk.id cs[i]] (fun _ => rfl) rfl rfl rfl rfl ?_
    conv=>whnf
    refine ⟨⟨rfl, rfl, Nat.le_refl _, Nat.le_refl _, by show (M.length + 1) * 9 ≤ _; omega⟩, ?_⟩
    conv=>whnf
    refine ⟨_, wrapId ⟨by omega, by omega⟩, ?_⟩
    refine ⟨i + 1, hlt, by show cs.length - (i + 1) < cs.length - i; omega, ?_⟩
    dsimp only
    rw [hnx]
    conv=>whnf
    refine ⟨rfl, ?_⟩
    conv=>whnf
    repeat' (first | exact trivial | exact rfl | refine And.intro ?_ ?_ | ((conv=>whnf); first | exact trivial | exact rfl | refine And.intro ?_ ?_ | omega))
    all_goals first | exact (congrArg aInt app1.symm : _) | exact (congrArg aInt app1 : _) | simp
  have hie : i = cs.length := by simp at hc; omega
  subst hie
  rw [List.take_length]
  have hL : (cs.map Chk.id).length ≤ 100000 := by rw [List.length_map]; omega
  generalize cs.map Chk.id = L1 at *
  conv=>whnf
  refine loop_step tB_ok (G := Nat) 1 [5] (fun i => [(26, iv .i64 i), (3, .c (.s 6 0 (L1 ++ (ns.take i).map Ntc.id).length 1))]) (fun i => [(6, true, .arr (aInt (L1 ++ (ns.take i).map Ntc.id)))]) (fun i => i ≤ ns.length) (fun i => ns.length - i) ?_
  conv=>whnf
  refine ⟨⟨0, Nat.zero_le _, ?_⟩, ?_⟩
  · conv=>whnf
    repeat' (first | exact trivial | exact rfl | refine And.intro ?_ ?_ | ((conv=>whnf); first | exact trivial | exact rfl | refine And.intro ?_ ?_ | omega))
    all_goals first | (show aInt L1 = aInt (L1 ++ []); rw [List.append_nil]) | simp
  rintro i hi ρ1 t1 hρ1
  conv=>whnf
  refine ⟨fun hc => ?_, fun hc => ?_⟩
  · have hlt : i < ns.length := by simpa using hc
    have hL : (L1 ++ (ns.take i).map Ntc.id).length ≤ 200000 := by simp only [List.length_append, List.length_map, List.length_take]; omega
    have hnx : L1 ++ (ns.take (i + 1)).map Ntc.id = (L1 ++ (ns.take i).map Ntc.id) ++ [Ntc.id ns[i]] := by rw [take_snoc hlt, List.map_append]; simp
    generalize L1 ++ (ns.take i).map Ntc.id = M at *
    conv=>whnf
    refine ⟨i, rfl, hlt, hlt, ?_⟩
    conv=>whnf
    refine bs_step tB_ok (aInt [Ntc.id ns[i]]) rfl rfl ?_
    conv=>whnf
    refine ⟨⟨rfl, (by repeat' (first | exact trivial | exact rfl | refine And.intro ?_ ?_ | ((conv=>whnf); first | exact trivial | exact rfl | refine And.intro ?_ ?_ | omega)))⟩, ?_⟩
    conv=>whnf
    refine app_step tB_ok (aInt M) [Ntc.id ns[i]] (fun _ => rfl) rfl rfl rfl rfl ?_
    conv=>whnf
    refine ⟨⟨rfl, rfl, Nat.le_refl _, Nat.le_refl _, by show (M.length + 1) * 9 ≤ _; omega⟩, ?_⟩
    conv=>whnf
    refine ⟨_, wrapId ⟨by omega, by omega⟩, ?_⟩
    refine ⟨i + 1, hlt, by show ns.length - (i + 1) < ns.length - i; omega, ?_⟩
    dsimp only
    rw [hnx]
    conv=>whnf
    refine ⟨rfl, ?_⟩
    conv=>whnf
    repeat' (first | exact trivial | exact rfl | refine And.intro ?_ ?_ | ((conv=>whnf); first | exact trivial | exact rfl | refine And.intro ?_ ?_ | omega))
    all_goals first | exact (congrArg aInt app1.symm : _) | exact (congrArg aInt app1 : _) | simp
  have hie : i = ns.length := by simp at hc; omega
  subst hie
  rw [List.take_length]
  have hL2 : (L1 ++ ns.map Ntc.id).length ≤ 200000 := by rw [List.length_append, List.length_map]; omega
  generalize L1 ++ ns.map Ntc.id = L2 at *
  conv=>whnf
  refine loop_step tB_ok (G := Nat) 1 [6] (fun i => [(39, iv .i64 i), (3, .c (.s 7 0 (L2 ++ (ws.take i).map Wgh.id).length 1))]) (fun i => [(7, true, .arr (aInt (L2 ++ (ws.take i).map Wgh.id)))]) (fun i => i ≤ ws.length) (fun i => ws.length - i) ?_
  conv=>whnf
  refine ⟨⟨0, Nat.zero_le _, ?_⟩, ?_⟩
  · conv=>whnf
    repeat' (first | exact trivial | exact rfl | refine And.intro ?_ ?_ | ((conv=>whnf); first | exact trivial | exact rfl | refine And.intro ?_ ?_ | omega))
    all_goals first | (show aInt L2 = aInt (L2 ++ []); rw [List.append_nil]) | simp
  rintro i hi ρ1 t1 hρ1
  conv=>whnf
  refine ⟨fun hc => ?_, fun hc => ?_⟩
  · have hlt : i < ws.length := by simpa using hc
    have hL : (L2 ++ (ws.take i).map Wgh.id).length ≤ 300000 := by simp only [List.length_append, List.length_map, List.length_take]; omega
    have hnx : L2 ++ (ws.take (i + 1)).map Wgh.id = (L2 ++ (ws.take i).map Wgh.id) ++ [Wgh.id ws[i]] := by rw [take_snoc hlt, List.map_append]; simp
    generalize L2 ++ (ws.take i).map Wgh.id = M at *
    conv=>whnf
    refine ⟨i, rfl, hlt, hlt, ?_⟩
    conv=>whnf
    refine bs_step tB_ok (aInt [Wgh.id ws[i]]) rfl rfl ?_
    conv=>whnf
    refine ⟨⟨rfl, (by repeat' (first | exact trivial | exact rfl | refine And.intro ?_ ?_ | ((conv=>whnf); first | exact trivial | exact rfl | refine And.intro ?_ ?_ | omega)))⟩, ?_⟩
    conv=>whnf
    refine app_step tB_ok (aInt M) [Wgh.id ws[i]] (fun _ => rfl) rfl rfl rfl rfl ?_
    conv=>whnf
    refine ⟨⟨rfl, rfl, Nat.le_refl _, Nat.le_refl _, by show (M.length + 1) * 9 ≤ _; omega⟩, ?_⟩
    conv=>whnf
    refine ⟨_, wrapId ⟨by omega, by omega⟩, ?_⟩
    refine ⟨i + 1, hlt, by show ws.length - (i + 1) < ws.length - i; omega, ?_⟩
    dsimp only
    rw [hnx]
    conv=>whnf
    refine ⟨rfl, ?_⟩
    conv=>whnf
    repeat' (first | exact trivial | exact rfl | refine And.intro ?_ ?_ | ((conv=>whnf); first | exact trivial | exact rfl | refine And.intro ?_ ?_ | omega))
    all_goals first | exact (congrArg aInt app1.symm : _) | exact (congrArg aInt app1 : _) | simp
  have hie : i = ws.length := by simp at hc; omega
  subst hie
  rw [List.take_length]
  have hL3 : (L2 ++ ws.map Wgh.id).length ≤ 300000 := by rw [List.length_append, List.length_map]; omega
  generalize L2 ++ ws.map Wgh.id = L3 at *
  conv=>whnf
  refine call_step (distinctInt_t L3 (by omega)) rfl rfl ?_
  conv=>whnf
  refine ⟨?_, ?_, ?_⟩
  iterate 2 · repeat' (first | exact trivial | exact rfl | refine And.intro ?_ ?_ | ((conv=>whnf); first | exact trivial | exact rfl | refine And.intro ?_ ?_ | omega))
  conv=>whnf
  repeat' (first | exact trivial | exact rfl | refine And.intro ?_ ?_ | ((conv=>whnf); first | exact trivial | exact rfl | refine And.intro ?_ ?_ | omega))

theorem plF_cons {x v : Int} {l : List Int} : plF (x :: l) v = if x = v then 0 else if v ∈ l then plF l v + 1 else -1 := by
  unfold plF
  by_cases h : x = v
  · subst h
    rw [if_pos (by simp), if_pos rfl, List.idxOf_cons_self]; rfl
  · have hb : (x == v) = false := by simpa using h
    rw [if_neg h]
    by_cases hm : v ∈ l
    · rw [if_pos (by simp [hm]), if_pos hm, if_pos hm, List.idxOf_cons, hb]
      simp
    · rw [if_neg (by simp [hm]; exact fun he => h he.symm), if_neg hm]

theorem plF_first {l : List Int} {v : Int} : ∀ {i : Nat} (h : i < l.length), (∀ x ∈ l.take i, x ≠ v) → l[i] = v → plF l v = i := by
  induction l with
  | nil => intro i h; simp at h
  | cons x r ih =>
    intro i h hn he
    rw [plF_cons]
    cases i with
    | zero => rw [if_pos (by simpa using he)]; rfl
    | succ i =>
      have h0 : x ≠ v := hn x (by simp)
      have hi : i < r.length := by simpa using h
      have he : r[i] = v := by simpa using he
      have := ih hi (fun y hy => hn y (by simp [hy])) he
      rw [if_neg h0, if_pos (he ▸ List.getElem_mem hi), this]; omega

theorem idxInt_t (l : List Int) (v : Int) (hl : l.length ≤ 1000000) : Triple Tryz.prog 254 [.c (.s 0 0 l.length 1), iv .i64 v] [(0, false, .arr (aInt l))] 1 (iv .i64 (plF l v)) [] := by
  have hs : ∀ (i : Nat) (h : i < l.length), (∀ x ∈ l.take i, x ≠ v) → l[i] = v → plF l v = i := fun i h => plF_first h
  have hz : (∀ x ∈ l, x ≠ v) → plF l v = -1 := fun h => by unfold plF; rw [if_neg fun hm => h v hm rfl]
  generalize plF l v = R at *
  refine triple_of tB_ok Tryz.func254 rfl Tryz.call254 rfl ?_
  intro ρ w hH
  conv=>whnf
  refine loop_step tB_ok (G := Nat) 0 [] (fun i => [(8, iv .i64 i)]) (fun _ => []) (fun i => i ≤ l.length ∧ ∀ x ∈ l.take i, x ≠ v) (fun i => l.length - i) ?_
  conv=>whnf
  refine ⟨⟨0, ⟨Nat.zero_le _, by simp⟩, ?_⟩, ?_⟩
  · conv=>whnf
    repeat' (first | exact trivial | exact rfl | refine And.intro ?_ ?_ | ((conv=>whnf); first | exact trivial | exact rfl | refine And.intro ?_ ?_ | omega))
  rintro i ⟨hi, hn⟩ ρ1 t1 hρ1
  conv=>whnf
  refine ⟨fun hc => ?_, fun hc => ?_⟩
  · have hlt : i < l.length := by simpa using hc
    conv=>whnf
    refine ⟨i, rfl, hlt, hlt, ?_⟩
    conv=>whnf
    refine ⟨fun hc => ?_, fun hc => ?_⟩
    · have h1 : v = l[i] := by simpa using (show (v == l[i]) = true from hc)
      have h2 := hs i hlt hn h1.symm
      subst h2
      conv=>whnf
      repeat' (first | exact trivial | exact rfl | refine And.intro ?_ ?_ | ((conv=>whnf); first | exact trivial | exact rfl | refine And.intro ?_ ?_ | omega))
    · have h1 : ¬ v = l[i] := by simpa using (show (v == l[i]) = false from hc)
      conv=>whnf
      refine ⟨_, wrapId ⟨by omega, by omega⟩, ?_⟩
      refine ⟨i + 1, ⟨hlt, ?_⟩, by show l.length - (i + 1) < l.length - i; omega, ?_⟩
      · intro x hx
        rw [take_snoc hlt] at hx
        rcases List.mem_append.1 hx with hx | hx
        · exact hn x hx
        · simp only [List.mem_singleton] at hx; rw [hx]; exact fun he => h1 he.symm
      conv=>whnf
      refine ⟨rfl, ?_⟩
      conv=>whnf
      repeat' (first | exact trivial | exact rfl | refine And.intro ?_ ?_ | ((conv=>whnf); first | exact trivial | exact rfl | refine And.intro ?_ ?_ | omega))
  · have hie : i = l.length := by simp at hc; omega
    subst hie
    rw [List.take_length] at hn
    have h1 := hz hn
    subst h1
    conv=>whnf
    repeat' (first | exact trivial | exact rfl | refine And.intro ?_ ?_ | ((conv=>whnf); first | exact trivial | exact rfl | refine And.intro ?_ ?_ | omega))

theorem cInt_t (l : List Int) (v : Int) (hl : l.length ≤ 1000000) : Triple Tryz.prog 222 [.c (.s 0 0 l.length 1), iv .i64 v] [(0, false, .arr (aInt l))] 1 (bv (l.contains v)) [] := by
  have e : decide (0 ≤ plF l v) = l.contains v := by
    by_cases h : v ∈ l
    · have := (plF_mem h).1
      rw [decide_eq_true (by omega)]
      simpa using h
    · unfold plF
      rw [if_neg h]
      simpa using h
  have hI := idxInt_t l v hl
  rw [← e]
  generalize plF l v = p at *
  refine triple_of tB_ok Tryz.func222 rfl Tryz.call222 rfl ?_
  intro ρ w hH
  conv=>whnf
  refine call_step hI rfl rfl ?_
  conv=>whnf
  refine ⟨?_, ?_, ?_⟩
  iterate 2 · repeat' (first | exact trivial | exact rfl | refine And.intro ?_ ?_ | ((conv=>whnf); first | exact trivial | exact rfl | refine And.intro ?_ ?_ | omega))
  conv=>whnf
  repeat' (first | exact trivial | exact rfl | refine And.intro ?_ ?_ | ((conv=>whnf); first | exact trivial | exact rfl | refine And.intro ?_ ?_ | omega))

theorem cloneBal_t (xs : List Bal) (hb : xs.length ≤ 1000000) : Triple Tryz.prog 169 [.c (.s 0 0 xs.length 6)] [(0, false, .arr (aBal xs))] 1 (.c (.s 1 0 xs.length 6)) [(1, true, .arr (aBal xs))] := by
  refine triple_of tB_ok Tryz.func169 rfl Tryz.call169 rfl ?_
  intro ρ w hH
  conv=>whnf
  have go : aBal (List.take 0 [] ++ List.take xs.length (List.drop 0 xs)) = aBal xs := by
    simp
  refine ⟨fun h0 => ?_, fun h0 => ?_⟩
  · conv=>whnf
    refine ⟨?_, ?_⟩
    · conv=>whnf
      repeat' (first | exact trivial | exact rfl | refine And.intro ?_ ?_ | ((conv=>whnf); first | exact trivial | exact rfl | refine And.intro ?_ ?_ | omega))
      all_goals first | exact h0 | exact List.length_eq_zero_iff.1 h0
    · conv=>whnf
      refine bs_step tB_ok (aBal []) rfl rfl ?_
      conv=>whnf
      refine ⟨⟨rfl, trivial⟩, ?_⟩
      conv=>whnf
      refine app_step tB_ok (aBal []) xs (fun _ => rfl) rfl rfl rfl rfl ?_
      conv=>whnf
      refine ⟨⟨rfl, rfl, Nat.le_refl _, by rw [Nat.zero_add]; exact Nat.le_refl _, by show (0 + xs.length) * 49 ≤ _; omega⟩, ?_⟩
      conv=>whnf
      repeat' (first | exact trivial | exact rfl | refine And.intro ?_ ?_ | ((conv=>whnf); first | exact trivial | exact rfl | refine And.intro ?_ ?_ | omega))
      all_goals first | exact go | simp
  · conv=>whnf
    refine bs_step tB_ok (aBal []) rfl rfl ?_
    conv=>whnf
    refine ⟨⟨rfl, trivial⟩, ?_⟩
    conv=>whnf
    refine app_step tB_ok (aBal []) xs (fun _ => rfl) rfl rfl rfl rfl ?_
    conv=>whnf
    refine ⟨⟨rfl, rfl, Nat.le_refl _, by rw [Nat.zero_add]; exact Nat.le_refl _, by show (0 + xs.length) * 49 ≤ _; omega⟩, ?_⟩
    conv=>whnf
    repeat' (first | exact trivial | exact rfl | refine And.intro ?_ ?_ | ((conv=>whnf); first | exact trivial | exact rfl | refine And.intro ?_ ?_ | omega))
    all_goals first | exact go | simp

theorem leftChk_t (xs : List Chk) (ids : List Int) (hx : xs.length ≤ 100000) (hi : ids.length ≤ 1000000) :
    Triple Tryz.prog 170 [.c (.s 0 0 xs.length 5), .c (.f 95 []), .c (.s 1 0 ids.length 1)] [(0, false, .arr (aChk xs)), (1, false, .arr (aInt ids))] 2
      (.c (.s 2 0 (xs.filter fun c => !ids.contains c.id).length 5)) [(2, true, .arr (aChk (xs.filter fun c => !ids.contains c.id)))] := by
  refine triple_of tB_ok Tryz.func170 rfl Tryz.call170 rfl ?_
  intro ρ w hH
  conv=>whnf
  refine loop_step tB_ok (G := Nat) 1 [] (fun i => [(12, iv .i64 i), (7, .c (.s 2 0 ((xs.take i).filter fun c => !ids.contains c.id).length 5))]) (fun i => [(2, true, .arr (aChk ((xs.take i).filter fun c => !ids.contains c.id)))]) (fun i => i ≤ xs.length) (fun i => xs.length - i) ?_
  conv=>whnf
  refine ⟨⟨0, Nat.zero_le _, ?_⟩, ?_⟩
  · conv=>whnf
    repeat' (first | exact trivial | exact rfl | refine And.intro ?_ ?_ | ((conv=>whnf); first | exact trivial | exact rfl | refine And.intro ?_ ?_ | omega))
  intro i hi ρ1 t1 hρ1
  conv=>whnf
  refine ⟨fun hc => ?_, fun hc => ?_⟩
  · have hlt : i < xs.length := by simpa using hc
    have hL : ((xs.take i).filter fun c => !ids.contains c.id).length ≤ 100000 := by
      have := List.length_filter_le (fun c : Chk => !ids.contains c.id) (xs.take i)
      rw [List.length_take] at this; omega
    have hnx := filter_take_succ (p := fun c : Chk => !ids.contains c.id) hlt
    generalize (xs.take i).filter (fun c => !ids.contains c.id) = M at *
    conv=>whnf
    refine ⟨i, rfl, hlt, hlt, ?_⟩
    conv=>whnf
    refine call_step (checkID_t xs[i]) rfl rfl ?_
    conv=>whnf
    refine ⟨?_, ?_, ?_⟩
    iterate 2 · repeat' (first | exact trivial | exact rfl | refine And.intro ?_ ?_ | ((conv=>whnf); first | exact trivial | exact rfl | refine And.intro ?_ ?_ | omega))
    conv=>whnf
    refine call_step (cInt_t ids xs[i].id (by assumption)) rfl rfl ?_
    conv=>whnf
    refine ⟨?_, ?_, ?_⟩
    iterate 2 · repeat' (first | exact trivial | exact rfl | refine And.intro ?_ ?_ | ((conv=>whnf); first | exact trivial | exact rfl | refine And.intro ?_ ?_ | omega))
    conv=>whnf
    refine ⟨fun hc => ?_, fun hc => ?_⟩
    · have h1 : (!ids.contains xs[i].id) = true := hc
      rw [h1] at hnx
      have hnx : (xs.take (i + 1)).filter (fun c => !ids.contains c.id) = M ++ [xs[i]] := hnx
      conv=>whnf
      refine bs_step tB_ok (aChk [xs[i]]) rfl rfl ?_
      conv=>whnf
      refine ⟨⟨rfl, (by repeat' (first | exact trivial | exact rfl | refine And.intro ?_ ?_ | ((conv=>whnf); first | exact trivial | exact rfl | refine And.intro ?_ ?_ | omega)))⟩, ?_⟩
      conv=>whnf
      refine app_step tB_ok (aChk M) [xs[i]] (fun _ => rfl) rfl rfl rfl rfl ?_
      conv=>whnf
      refine ⟨⟨rfl, rfl, Nat.le_refl _, Nat.le_refl _, by show (M.length + 1) * 41 ≤ _; omega⟩, ?_⟩
      conv=>whnf
      refine ⟨_, wrapId ⟨by omega, by omega⟩, ?_⟩
      refine ⟨i + 1, hlt, by show xs.length - (i + 1) < xs.length - i; omega, ?_⟩
      dsimp only
      rw [hnx]
      conv=>whnf
      refine ⟨rfl, ?_⟩
      conv=>whnf
      repeat' (first | exact trivial | exact rfl | refine And.intro ?_ ?_ | ((conv=>whnf); first | exact trivial | exact rfl | refine And.intro ?_ ?_ | omega))
      all_goals first | exact (congrArg aChk app1.symm : _) | exact (congrArg aChk app1 : _) | simp
    · have h1 : (!ids.contains xs[i].id) = false := hc
      rw [h1] at hnx
      have hnx : (xs.take (i + 1)).filter (fun c => !ids.contains c.id) = M := by rw [hnx]; simp
      conv=>whnf
      refine ⟨_, wrapId ⟨by omega, by omega⟩, ?_⟩
      refine ⟨i + 1, hlt, by show xs.length - (i + 1) < xs.length - i; omega, ?_⟩
      dsimp only
      rw [hnx]
      conv=>whnf
      refine ⟨rfl, ?_⟩
      conv=>whnf
      repeat' (first | exact trivial | exact rfl | refine And.intro ?_ ?_ | ((conv=>whnf); first | exact trivial | exact rfl | refine And.intro ?_ ?_ | omega))
  have hie : i = xs.length := by simp at hc; omega
  subst hie
  rw [List.take_length]
  conv=>whnf
  repeat' (first | exact trivial | exact rfl | refine And.intro ?_ ?_ | ((conv=>whnf); first | exact trivial | exact rfl | refine And.intro ?_ ?_ | omega))
theorem leftNtc_t (xs : List Ntc) (ids : List Int) (hx : xs.length ≤ 100000) (hi : ids.length ≤ 1000000) :
    Triple Tryz.prog 171 [.c (.s 0 0 xs.length 6), .c (.f 99 []), .c (.s 1 0 ids.length 1)] [(0, false, .arr (aNtc xs)), (1, false, .arr (aInt ids))] 2
      (.c (.s 2 0 (xs.filter fun c => !ids.contains c.id).length 6)) [(2, true, .arr (aNtc (xs.filter fun c => !ids.contains c.id)))] := by
  refine triple_of tB_ok Tryz.func171 rfl Tryz.call171 rfl ?_
  intro ρ w hH
  conv=>whnf
  refine loop_step tB_ok (G := Nat) 1 [] (fun i => [(12, iv .i64 i), (7, .c (.s 2 0 ((xs.take i).filter fun c => !ids.contains c.id).length 6))]) (fun i => [(2, true, .arr (aNtc ((xs.take i).filter fun c => !ids.contains c.id)))]) (fun i => i ≤ xs.length) (fun i => xs.length - i) ?_
  conv=>whnf
  refine ⟨⟨0, Nat.zero_le _, ?_⟩, ?_⟩
  · conv=>whnf
    repeat' (first | exact trivial | exact rfl | refine And.intro ?_ ?_ | ((conv=>whnf); first | exact trivial | exact rfl | refine And.intro ?_ ?_ | omega))
  intro i hi ρ1 t1 hρ1
  conv=>whnf
  refine ⟨fun hc => ?_, fun hc => ?_⟩
  · have hlt : i < xs.length := by simpa using hc
    have hL : ((xs.take i).filter fun c => !ids.contains c.id).length ≤ 100000 := by
      have := List.length_filter_le (fun c : Ntc => !ids.contains c.id) (xs.take i)
      rw [List.length_take] at this; omega
    have hnx := filter_take_succ (p := fun c : Ntc => !ids.contains c.id) hlt
    generalize (xs.take i).filter (fun c => !ids.contains c.id) = M at *
    conv=>whnf
    refine ⟨i, rfl, hlt, hlt, ?_⟩
    conv=>whnf
    refine call_step (noticeID_t xs[i]) rfl rfl ?_
    conv=>whnf
    refine ⟨?_, ?_, ?_⟩
    iterate 2 · repeat' (first | exact trivial | exact rfl | refine And.intro ?_ ?_ | ((conv=>whnf); first | exact trivial | exact rfl | refine And.intro ?_ ?_ | omega))
    conv=>whnf
    refine call_step (cInt_t ids xs[i].id (by assumption)) rfl rfl ?_
    conv=>whnf
    refine ⟨?_, ?_, ?_⟩
    iterate 2 · repeat' (first | exact trivial | exact rfl | refine And.intro ?_ ?_ | ((conv=>whnf); first | exact trivial | exact rfl | refine And.intro ?_ ?_ | omega))
    conv=>whnf
    refine ⟨fun hc => ?_, fun hc => ?_⟩
    · have h1 : (!ids.contains xs[i].id) = true := hc
      rw [h1] at hnx
      have hnx : (xs.take (i + 1)).filter (fun c => !ids.contains c.id) = M ++ [xs[i]] := hnx
      conv=>whnf
      refine bs_step tB_ok (aNtc [xs[i]]) rfl rfl ?_
      conv=>whnf
      refine ⟨⟨rfl, (by repeat' (first | exact trivial | exact rfl | refine And.intro ?_ ?_ | ((conv=>whnf); first | exact trivial | exact rfl | refine And.intro ?_ ?_ | omega)))⟩, ?_⟩
      conv=>whnf
      refine app_step tB_ok (aNtc M) [xs[i]] (fun _ => rfl) rfl rfl rfl rfl ?_
      conv=>whnf
      refine ⟨⟨rfl, rfl, Nat.le_refl _, Nat.le_refl _, by show (M.length + 1) * 49 ≤ _; omega⟩, ?_⟩
      conv=>whnf
      refine ⟨_, wrapId ⟨by omega, by omega⟩, ?_⟩
      refine ⟨i + 1, hlt, by show xs.length - (i + 1) < xs.length - i; omega, ?_⟩
      dsimp only
      rw [hnx]
      conv=>whnf
      refine ⟨rfl, ?_⟩
      conv=>whnf
      repeat' (first | exact trivial | exact rfl | refine And.intro ?_ ?_ | ((conv=>whnf); first | exact trivial | exact rfl | refine And.intro ?_ ?_ | omega))
      all_goals first | exact (congrArg aNtc app1.symm : _) | exact (congrArg aNtc app1 : _) | simp
    · have h1 : (!ids.contains xs[i].id) = false := hc
      rw [h1] at hnx
      have hnx : (xs.take (i + 1)).filter (fun c => !ids.contains c.id) = M := by rw [hnx]; simp
      conv=>whnf
      refine ⟨_, wrapId ⟨by omega, by omega⟩, ?_⟩
      refine ⟨i + 1, hlt, by show xs.length - (i + 1) < xs.length - i; omega, ?_⟩
      dsimp only
      rw [hnx]
      conv=>whnf
      refine ⟨rfl, ?_⟩
      conv=>whnf
      repeat' (first | exact trivial | exact rfl | refine And.intro ?_ ?_ | ((conv=>whnf); first | exact trivial | exact rfl | refine And.intro ?_ ?_ | omega))
  have hie : i = xs.length := by simp at hc; omega
  subst hie
  rw [List.take_length]
  conv=>whnf
  repeat' (first | exact trivial | exact rfl | refine And.intro ?_ ?_ | ((conv=>whnf); first | exact trivial | exact rfl | refine And.intro ?_ ?_ | omega))
theorem leftWgh_t (xs : List Wgh) (ids : List Int) (hx : xs.length ≤ 100000) (hi : ids.length ≤ 1000000) :
    Triple Tryz.prog 172 [.c (.s 0 0 xs.length 8), .c (.f 103 []), .c (.s 1 0 ids.length 1)] [(0, false, .arr (aWgh xs)), (1, false, .arr (aInt ids))] 2
      (.c (.s 2 0 (xs.filter fun c => !ids.contains c.id).length 8)) [(2, true, .arr (aWgh (xs.filter fun c => !ids.contains c.id)))] := by
  refine triple_of tB_ok Tryz.func172 rfl Tryz.call172 rfl ?_
  intro ρ w hH
  conv=>whnf
  refine loop_step tB_ok (G := Nat) 1 [] (fun i => [(12, iv .i64 i), (7, .c (.s 2 0 ((xs.take i).filter fun c => !ids.contains c.id).length 8))]) (fun i => [(2, true, .arr (aWgh ((xs.take i).filter fun c => !ids.contains c.id)))]) (fun i => i ≤ xs.length) (fun i => xs.length - i) ?_
  conv=>whnf
  refine ⟨⟨0, Nat.zero_le _, ?_⟩, ?_⟩
  · conv=>whnf
    repeat' (first | exact trivial | exact rfl | refine And.intro ?_ ?_ | ((conv=>whnf); first | exact trivial | exact rfl | refine And.intro ?_ ?_ | omega))
  intro i hi ρ1 t1 hρ1
  conv=>whnf
  refine ⟨fun hc => ?_, fun hc => ?_⟩
  · have hlt : i < xs.length := by simpa using hc
    have hL : ((xs.take i).filter fun c => !ids.contains c.id).length ≤ 100000 := by
      have := List.length_filter_le (fun c : Wgh => !ids.contains c.id) (xs.take i)
      rw [List.length_take] at this; omega
    have hnx := filter_take_succ (p := fun c : Wgh => !ids.contains c.id) hlt
    generalize (xs.take i).filter (fun c => !ids.contains c.id) = M at *
    conv=>whnf
    refine ⟨i, rfl, hlt, hlt, ?_⟩
    conv=>whnf
    refine call_step (weighingID_t xs[i]) rfl rfl ?_
    conv=>whnf
    refine ⟨?_, ?_, ?_⟩
    iterate 2 · repeat' (first | exact trivial | exact rfl | refine And.intro ?_ ?_ | ((conv=>whnf); first | exact trivial | exact rfl | refine And.intro ?_ ?_ | omega))
    conv=>whnf
    refine call_step (cInt_t ids xs[i].id (by assumption)) rfl rfl ?_
    conv=>whnf
    refine ⟨?_, ?_, ?_⟩
    iterate 2 · repeat' (first | exact trivial | exact rfl | refine And.intro ?_ ?_ | ((conv=>whnf); first | exact trivial | exact rfl | refine And.intro ?_ ?_ | omega))
    conv=>whnf
    refine ⟨fun hc => ?_, fun hc => ?_⟩
    · have h1 : (!ids.contains xs[i].id) = true := hc
      rw [h1] at hnx
      have hnx : (xs.take (i + 1)).filter (fun c => !ids.contains c.id) = M ++ [xs[i]] := hnx
      conv=>whnf
      refine bs_step tB_ok (aWgh [xs[i]]) rfl rfl ?_
      conv=>whnf
      refine ⟨⟨rfl, (by repeat' (first | exact trivial | exact rfl | refine And.intro ?_ ?_ | ((conv=>whnf); first | exact trivial | exact rfl | refine And.intro ?_ ?_ | omega)))⟩, ?_⟩
      conv=>whnf
      refine app_step tB_ok (aWgh M) [xs[i]] (fun _ => rfl) rfl rfl rfl rfl ?_
      conv=>whnf
      refine ⟨⟨rfl, rfl, Nat.le_refl _, Nat.le_refl _, by show (M.length + 1) * 65 ≤ _; omega⟩, ?_⟩
      conv=>whnf
      refine ⟨_, wrapId ⟨by omega, by omega⟩, ?_⟩
      refine ⟨i + 1, hlt, by show xs.length - (i + 1) < xs.length - i; omega, ?_⟩
      dsimp only
      rw [hnx]
      conv=>whnf
      refine ⟨rfl, ?_⟩
      conv=>whnf
      repeat' (first | exact trivial | exact rfl | refine And.intro ?_ ?_ | ((conv=>whnf); first | exact trivial | exact rfl | refine And.intro ?_ ?_ | omega))
      all_goals first | exact (congrArg aWgh app1.symm : _) | exact (congrArg aWgh app1 : _) | simp
    · have h1 : (!ids.contains xs[i].id) = false := hc
      rw [h1] at hnx
      have hnx : (xs.take (i + 1)).filter (fun c => !ids.contains c.id) = M := by rw [hnx]; simp
      conv=>whnf
      refine ⟨_, wrapId ⟨by omega, by omega⟩, ?_⟩
      refine ⟨i + 1, hlt, by show xs.length - (i + 1) < xs.length - i; omega, ?_⟩
      dsimp only
      rw [hnx]
      conv=>whnf
      refine ⟨rfl, ?_⟩
      conv=>whnf
      repeat' (first | exact trivial | exact rfl | refine And.intro ?_ ?_ | ((conv=>whnf); first | exact trivial | exact rfl | refine And.intro ?_ ?_ | omega))
  have hie : i = xs.length := by simp at hc; omega
  subst hie
  rw [List.take_length]
  conv=>whnf
  repeat' (first | exact trivial | exact rfl | refine And.intro ?_ ?_ | ((conv=>whnf); first | exact trivial | exact rfl | refine And.intro ?_ ?_ | omega))

theorem without_t (r : Rd) (ids : List Int) (hs : Sml r) (hi : ids.length ≤ 1000000) :
    Triple Tryz.prog 108 [rdA r, .c (.s 4 0 ids.length 1)] (rdH r ++ [(4, false, .arr (aInt ids))]) 5
      (.agg [.s 5 0 (lessR r ids).bs.length 6, .s 7 0 (lessR r ids).cs.length 5, .s 8 0 (lessR r ids).ns.length 6, .s 6 0 (lessR r ids).ws.length 8])
      [(5, true, .arr (aBal (lessR r ids).bs)), (6, true, .arr (aWgh (lessR r ids).ws)), (7, true, .arr (aChk (lessR r ids).cs)), (8, true, .arr (aNtc (lessR r ids).ns))] := by
  have h1 := cloneBal_t r.bs (Nat.le_trans hs.bs (by decide))
  have h2 := leftChk_t r.cs ids hs.cs hi
  have h3 := leftNtc_t r.ns ids hs.ns hi
  have h4 := leftWgh_t r.ws ids hs.ws hi
  have e : lessR r ids = ⟨r.bs, r.cs.filter (fun c => !ids.contains c.id), r.ns.filter (fun n => !ids.contains n.id), r.ws.filter (fun w => !ids.contains w.id)⟩ := rfl
  rw [e]
  clear e
  dsimp only
  generalize r.cs.filter (fun c => !ids.contains c.id) = cs' at *
  generalize r.ns.filter (fun c => !ids.contains c.id) = ns' at *
  generalize r.ws.filter (fun c => !ids.contains c.id) = ws' at *
  refine triple_of tB_ok Tryz.func108 rfl Tryz.call108 rfl ?_
  intro ρ w hH
  conv=>whnf
  refine call_step h1 rfl rfl ?_
  conv=>whnf
  refine ⟨?_, ?_, ?_⟩
  iterate 2 · repeat' (first | exact trivial | exact rfl | refine And.intro ?_ ?_ | ((conv=>whnf); first | exact trivial | exact rfl | refine And.intro ?_ ?_ | omega))
  conv=>whnf
  refine call_step h2 rfl rfl ?_
  conv=>whnf
  refine ⟨?_, ?_, ?_⟩
  iterate 2 · repeat' (first | exact trivial | exact rfl | refine And.intro ?_ ?_ | ((conv=>whnf); first | exact trivial | exact rfl | refine And.intro ?_ ?_ | omega))
  conv=>whnf
  refine call_step h3 rfl rfl ?_
  conv=>whnf
  refine ⟨?_, ?_, ?_⟩
  iterate 2 · repeat' (first | exact trivial | exact rfl | refine And.intro ?_ ?_ | ((conv=>whnf); first | exact trivial | exact rfl | refine And.intro ?_ ?_ | omega))
  conv=>whnf
  refine call_step h4 rfl rfl ?_
  conv=>whnf
  refine ⟨?_, ?_, ?_⟩
  iterate 2 · repeat' (first | exact trivial | exact rfl | refine And.intro ?_ ?_ | ((conv=>whnf); first | exact trivial | exact rfl | refine And.intro ?_ ?_ | omega))
  conv=>whnf
  repeat' (first | exact trivial | exact rfl | refine And.intro ?_ ?_ | ((conv=>whnf); first | exact trivial | exact rfl | refine And.intro ?_ ?_ | omega))

end Go.Proofs

