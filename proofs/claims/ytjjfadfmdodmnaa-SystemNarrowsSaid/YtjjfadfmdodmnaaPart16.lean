/-
  A part of the proof that a law of dryweightlaw03 answers true: lemmas of a symbolic walk, plain functions, or contracts of the functions walked (Wh, Wi, Wj, Wk, Wl). Conditions: none.
-/
import Derived.Test.YtjjfadfmdodmnaaPart15
set_option maxRecDepth 100000
set_option linter.unusedVariables false
set_option linter.unusedSimpArgs false
namespace Go.Proofs
open Go.Sx

theorem Best_t (bs : List (Int × Int)) (ls : List Lnk) (form : List (Int × Int)) (fuel : Nat) (v : Int) (us : List (Lnk × Int)) (pt by' : List Int) (hs : SysOK bs ls)
    (hfl : form.length ≤ 1000) (hF : formF form bs.length = 0) (hfb : FormB bs.length 1 form) (hby : by' = coefF 1 form (List.replicate bs.length 0))
    (hbl : by'.length = bs.length) (hbb : ∀ x ∈ by', -4503599627370496 ≤ x ∧ x ≤ 4503599627370496) (hB : bestF bs.length (graphF bs ls 0) fuel by' = some (v, us, pt)) :
    Triple Try.prog 28 [.c (.p 0 0 0 0), .c (.s 3 0 form.length 2)] ((3, false, .arr (aSpan form)) :: netH bs ls) 4
      (.tup [.inr [.v (.int .i64 v), .s 4 0 us.length 5, .s 5 0 pt.length 1], .inl (.v (.int .i64 0))]) [(4, true, .arr (aUse us)), (5, true, .arr (aInt pt))] := by
  refine triple_of tB_ok Try.func28 rfl Try.call28 rfl ?_
  intro ρ w hH
  conv => whnf
  have hnb := hs.nb
  refine call_step (formed_t form bs.length (by omega) (by omega)) rfl rfl ?_
  conv => whnf
  refine ⟨(by repeat' (first | exact trivial | exact rfl | refine And.intro ?_ ?_ | ((conv => whnf); first | exact trivial | exact rfl | refine And.intro ?_ ?_ | omega))), (by repeat' (first | exact trivial | exact rfl | refine And.intro ?_ ?_ | ((conv => whnf); first | exact trivial | exact rfl | refine And.intro ?_ ?_ | omega))), ?_⟩
  conv => whnf
  rw [hF]
  refine ⟨fun hc => ?_, fun hc => ?_⟩
  · cases hc
  have hco := coef_nil_t bs.length form 1 0 (by omega) hfl hfb
  rw [← hby] at hco
  conv => whnf
  refine call_step hco rfl rfl ?_
  conv => whnf
  refine ⟨(by repeat' (first | exact trivial | exact rfl | refine And.intro ?_ ?_ | ((conv => whnf); first | exact trivial | exact rfl | refine And.intro ?_ ?_ | omega))), (by repeat' (first | exact trivial | exact rfl | refine And.intro ?_ ?_ | ((conv => whnf); first | exact trivial | exact rfl | refine And.intro ?_ ?_ | omega))), ?_⟩
  conv => whnf
  refine call_step (best_t bs ls by' fuel v us pt hs hbl hbb hB) rfl rfl ?_
  conv => whnf
  refine ⟨(by repeat' (first | exact trivial | exact rfl | refine And.intro ?_ ?_ | ((conv => whnf); first | exact trivial | exact rfl | refine And.intro ?_ ?_ | omega))), (by repeat' (first | exact trivial | exact rfl | refine And.intro ?_ ?_ | ((conv => whnf); first | exact trivial | exact rfl | refine And.intro ?_ ?_ | omega))), ?_⟩
  conv => whnf
  repeat' (first | exact trivial | exact rfl | refine And.intro ?_ ?_ | ((conv => whnf); first | exact trivial | exact rfl | refine And.intro ?_ ?_ | omega))

end Go.Proofs

namespace Go.Proofs
open Go.Sx

def exB : List (Int × Int) := [(0, 10), (0, 10)]
def exL : List Lnk := [⟨0, 1, 3, 7⟩, ⟨1, 0, -1, 8⟩]

theorem Example_t : Triple Try.prog 78 [] [] 0 (.agg [.s 0 0 2 2, .s 1 0 2 4]) [(0, true, .arr (aSpan exB)), (1, true, .arr (aLink exL))] := by
  refine triple_of tB_ok Try.func78 rfl Try.call78 rfl ?_
  intro ρ w hH
  conv => whnf
  refine bs_step tB_ok (aSpan exB) rfl rfl ?_
  conv => whnf
  refine ⟨(by repeat' (first | exact trivial | exact rfl | refine And.intro ?_ ?_ | ((conv => whnf); first | exact trivial | exact rfl | refine And.intro ?_ ?_ | omega))), ?_⟩
  conv => whnf
  refine bs_step tB_ok (aLink exL) rfl rfl ?_
  conv => whnf
  refine ⟨(by repeat' (first | exact trivial | exact rfl | refine And.intro ?_ ?_ | ((conv => whnf); first | exact trivial | exact rfl | refine And.intro ?_ ?_ | omega))), ?_⟩
  conv => whnf
  repeat' (first | exact trivial | exact rfl | refine And.intro ?_ ?_ | ((conv => whnf); first | exact trivial | exact rfl | refine And.intro ?_ ?_ | omega))

theorem ex_ok : SysOK exB exL := checkF_ok.1 (by decide)
theorem ex_calm : Calm exB exL 0 := by unfold Calm; decide
theorem ex_ids : idsF exL = [7, 8] := by
  unfold idsF
  have h : idsP exL = [7, 8] := by decide
  rw [h]
  have hs : sortI [7, 8] = [7, 8] := List.mergeSort_of_pairwise (by simp)
  rw [hs]
  decide
theorem ex_needs : (idsF exL).filter (fun id => !decide (mostF exB.length (graphF exB exL id) 0 1 ≤ mostF exB.length (graphF exB exL 0) 0 1)) = [7] := by
  rw [ex_ids]; decide


def exUs : List (Lnk × Int) := [(⟨-1, 1, 10, 0⟩, 2), (⟨1, 0, -1, 8⟩, 1)]
def exPt : List Int := [9, 10]
theorem ex_best : bestF exB.length (graphF exB exL 0) 50 [1, 1] = some (19, exUs, exPt) := by decide

theorem ex_range : mostF exB.length (graphF exB exL 0) 0 1 = 3 ∧ mostF exB.length (graphF exB exL 0) 1 0 = -1 := by decide

theorem ex_form : FormB exB.length 1 [(0, 1), (1, 1)] := by
  intro t ht
  simp at ht
  rcases ht with rfl | rfl <;> decide

theorem head_t : Triple Try.prog 19 [] [] 0 (bv true) [] := by
  refine triple_of tB_ok Try.func19 rfl Try.call19 rfl ?_
  intro ρ w hH
  conv => whnf
  refine call_step Example_t rfl rfl ?_
  conv => whnf
  refine ⟨(by repeat' (first | exact trivial | exact rfl | refine And.intro ?_ ?_ | ((conv => whnf); first | exact trivial | exact rfl | refine And.intro ?_ ?_ | omega))), (by repeat' (first | exact trivial | exact rfl | refine And.intro ?_ ?_ | ((conv => whnf); first | exact trivial | exact rfl | refine And.intro ?_ ?_ | omega))), ?_⟩
  conv => whnf
  refine call_step (newNone_t exB exL ex_ok ex_calm) rfl rfl ?_
  conv => whnf
  refine ⟨(by repeat' (first | exact trivial | exact rfl | refine And.intro ?_ ?_ | ((conv => whnf); first | exact trivial | exact rfl | refine And.intro ?_ ?_ | omega))), (by repeat' (first | exact trivial | exact rfl | refine And.intro ?_ ?_ | ((conv => whnf); first | exact trivial | exact rfl | refine And.intro ?_ ?_ | omega))), ?_⟩
  conv => whnf
  refine ⟨fun hc => ?_, fun hc => ?_⟩
  · exact absurd hc (by decide)
  conv => whnf
  refine call_step (range_t exB exL 0 1 ex_ok (by decide) (by decide) (by decide) (by decide) 1 3 (by rw [ex_range.2]; rfl) ex_range.1.symm) rfl rfl ?_
  conv => whnf
  refine ⟨(by repeat' (first | exact trivial | exact rfl | refine And.intro ?_ ?_ | ((conv => whnf); first | exact trivial | exact rfl | refine And.intro ?_ ?_ | omega))), (by repeat' (first | exact trivial | exact rfl | refine And.intro ?_ ?_ | ((conv => whnf); first | exact trivial | exact rfl | refine And.intro ?_ ?_ | omega))), ?_⟩
  conv => whnf
  refine bs_step tB_ok (aSpan [(0, 1), (1, 1)]) rfl rfl ?_
  conv => whnf
  refine ⟨(by repeat' (first | exact trivial | exact rfl | refine And.intro ?_ ?_ | ((conv => whnf); first | exact trivial | exact rfl | refine And.intro ?_ ?_ | omega))), ?_⟩
  conv => whnf
  refine call_step (Best_t exB exL [(0, 1), (1, 1)] 50 19 exUs exPt [1, 1] ex_ok (by decide) (by decide) ex_form (by decide) (by decide) (by decide) ex_best) rfl rfl ?_
  conv => whnf
  refine ⟨(by repeat' (first | exact trivial | exact rfl | refine And.intro ?_ ?_ | ((conv => whnf); first | exact trivial | exact rfl | refine And.intro ?_ ?_ | omega))), (by repeat' (first | exact trivial | exact rfl | refine And.intro ?_ ?_ | ((conv => whnf); first | exact trivial | exact rfl | refine And.intro ?_ ?_ | omega))), ?_⟩
  conv => whnf
  have hne := needs_t exB exL 0 1 ex_ok (by decide) (by decide) (by decide) (by decide)
  rw [ex_needs] at hne
  refine call_step hne rfl rfl ?_
  conv => whnf
  refine ⟨(by repeat' (first | exact trivial | exact rfl | refine And.intro ?_ ?_ | ((conv => whnf); first | exact trivial | exact rfl | refine And.intro ?_ ?_ | omega))), (by repeat' (first | exact trivial | exact rfl | refine And.intro ?_ ?_ | ((conv => whnf); first | exact trivial | exact rfl | refine And.intro ?_ ?_ | omega))), ?_⟩
  conv => whnf
  refine ⟨fun hc => ?_, fun hc => ?_⟩
  · conv => whnf
    refine ⟨fun hc => ?_, fun hc => ?_⟩
    · conv => whnf
      refine ⟨fun hc => ?_, fun hc => ?_⟩
      · conv => whnf
        refine ⟨fun hc => ?_, fun hc => ?_⟩
        · conv => whnf
          refine ⟨fun hc => ?_, fun hc => ?_⟩
          · conv => whnf
            refine ⟨fun hc => ?_, fun hc => ?_⟩
            · conv => whnf
              refine ⟨0, rfl, by decide, (by decide : 0 < [(7 : Int)].length), ?_⟩
              conv => whnf
              repeat' (first | exact trivial | exact rfl | refine And.intro ?_ ?_ | ((conv => whnf); first | exact trivial | exact rfl | refine And.intro ?_ ?_ | omega))
            · exact absurd hc (by decide)
          · exact absurd hc (by decide)
        · exact absurd hc (by decide)
      · exact absurd hc (by decide)
    · exact absurd hc (by decide)
  · exact absurd hc (by decide)

end Go.Proofs

namespace Go.Proofs
open Go.Sx

theorem some_t (bs : List (Int × Int)) (ls : List Lnk) : Triple Try.prog 43 [sysA bs.length ls.length] (sysH bs ls) 2 (bv (decide (bs.length ≤ 480) && decide (ls.length ≤ 2400))) [] := by
  refine triple_of tB_ok Try.func43 rfl Try.call43 rfl ?_
  intro ρ w hH
  conv => whnf
  refine ⟨fun hc => ?_, fun hc => ?_⟩
  · have h1 : bs.length ≤ 480 := by have := of_decide_eq_true (show decide ((bs.length : Int) ≤ 480) = true from hc); omega
    conv => whnf
    refine ⟨?_, trivial⟩
    show decide ((ls.length : Int) ≤ 2400) = (decide (bs.length ≤ 480) && decide (ls.length ≤ 2400))
    rw [decide_eq_true h1, Bool.true_and]
    exact decide_eq_decide.2 (by omega)
  · have h1 : ¬ bs.length ≤ 480 := by have := of_decide_eq_false (show decide ((bs.length : Int) ≤ 480) = false from hc); omega
    conv => whnf
    refine ⟨?_, trivial⟩
    show false = (decide (bs.length ≤ 480) && decide (ls.length ≤ 2400))
    rw [decide_eq_false h1, Bool.false_and]

theorem place_within (n : Nat) (p : Int) : placeF n p = withinF p (-1) ((n : Int) - 1) := by
  unfold placeF withinF
  congr 1
  exact decide_eq_decide.2 (by omega)

theorem linked_t (bs : List (Int × Int)) (ls : List Lnk) (l : Lnk) : Triple Try.prog 90 [sysA bs.length ls.length, svL l] (sysH bs ls) 2 (bv (properF l bs.length)) [] := by
  refine triple_of tB_ok Try.func90 rfl Try.call90 rfl ?_
  intro ρ w hH
  conv => whnf
  refine call_step (refPlace_t bs ls l.f) rfl rfl ?_
  conv => whnf
  refine ⟨(by repeat' (first | exact trivial | exact rfl | refine And.intro ?_ ?_ | ((conv => whnf); first | exact trivial | exact rfl | refine And.intro ?_ ?_ | omega))), (by repeat' (first | exact trivial | exact rfl | refine And.intro ?_ ?_ | ((conv => whnf); first | exact trivial | exact rfl | refine And.intro ?_ ?_ | omega))), ?_⟩
  conv => whnf
  refine ⟨fun hc => ?_, fun hc => ?_⟩
  · have h1 : placeF bs.length l.f = true := hc
    conv => whnf
    refine call_step (refPlace_t bs ls l.t) rfl rfl ?_
    conv => whnf
    refine ⟨(by repeat' (first | exact trivial | exact rfl | refine And.intro ?_ ?_ | ((conv => whnf); first | exact trivial | exact rfl | refine And.intro ?_ ?_ | omega))), (by repeat' (first | exact trivial | exact rfl | refine And.intro ?_ ?_ | ((conv => whnf); first | exact trivial | exact rfl | refine And.intro ?_ ?_ | omega))), ?_⟩
    conv => whnf
    refine ⟨fun hc => ?_, fun hc => ?_⟩
    · have h2 : placeF bs.length l.t = true := hc
      conv => whnf
      refine ⟨fun hc => ?_, fun hc => ?_⟩
      · have h3 : (l.f != l.t) = true := hc
        conv => whnf
        refine ⟨fun hc => ?_, fun hc => ?_⟩
        · have h4 : -33554432 ≤ l.m := of_decide_eq_true (show decide (-33554432 ≤ l.m) = true from hc)
          conv => whnf
          refine ⟨fun hc => ?_, fun hc => ?_⟩
          · have h5 : l.m ≤ 33554432 := of_decide_eq_true (show decide (l.m ≤ 33554432) = true from hc)
            conv => whnf
            refine ⟨fun hc => ?_, fun hc => ?_⟩
            · have h6 : 0 ≤ l.i := of_decide_eq_true (show decide (0 ≤ l.i) = true from hc)
              conv => whnf
              refine ⟨?_, trivial⟩
              show decide (l.i ≤ 1099511627776) = properF l bs.length
              rw [place_within] at h1 h2
              unfold properF
              rw [h3, h1, h2]
              simp [withinF, h4, h5, h6]
            · have h6 : ¬ 0 ≤ l.i := of_decide_eq_false (show decide (0 ≤ l.i) = false from hc)
              conv => whnf
              refine ⟨?_, trivial⟩
              show false = properF l bs.length
              simp [properF, withinF, h6]
          · have h5 : ¬ l.m ≤ 33554432 := of_decide_eq_false (show decide (l.m ≤ 33554432) = false from hc)
            conv => whnf
            refine ⟨?_, trivial⟩
            show false = properF l bs.length
            simp [properF, withinF, h5]
        · have h4 : ¬ -33554432 ≤ l.m := of_decide_eq_false (show decide (-33554432 ≤ l.m) = false from hc)
          conv => whnf
          refine ⟨?_, trivial⟩
          show false = properF l bs.length
          simp [properF, withinF, h4]
      · have h3 : (l.f != l.t) = false := hc
        conv => whnf
        refine ⟨?_, trivial⟩
        show false = properF l bs.length
        simp [properF, h3]
    · have h2 : placeF bs.length l.t = false := hc
      conv => whnf
      refine ⟨?_, trivial⟩
      show false = properF l bs.length
      rw [place_within] at h2
      simp [properF, h2]
  · have h1 : placeF bs.length l.f = false := hc
    conv => whnf
    refine ⟨?_, trivial⟩
    show false = properF l bs.length
    rw [place_within] at h1
    simp [properF, h1]


theorem refCheck_t (bs : List (Int × Int)) (ls : List Lnk) (hb : bs.length ≤ 1000000) (hl : ls.length ≤ 1000000) :
    Triple Try.prog 39 [sysA bs.length ls.length] (sysH bs ls) 2 (iv .i64 (checkF bs ls)) [] := by
  refine triple_of tB_ok Try.func39 rfl Try.call39 rfl ?_
  intro ρ w hH
  conv => whnf
  have limit : (240 < bs.length ∨ 1200 < ls.length) → checkF bs ls = 2 := fun h => by
    unfold checkF
    rw [if_pos (by rcases h with h | h <;> simp [h])]
  have bad : ¬ (240 < bs.length ∨ 1200 < ls.length) → (bs.all boxOKF = false ∨ ls.all (fun l => properF l bs.length) = false) → checkF bs ls = 1 := fun h h2 => by
    unfold checkF
    rw [if_neg (by simp; omega)]
    cases h3 : bs.all boxOKF
    · rfl
    · rcases h2 with h2 | h2
      · rw [h3] at h2; cases h2
      · simp [h2]
  refine ⟨fun hc => ?_, fun hc => ?_⟩
  · have h1 : 240 < bs.length := by simp at hc; omega
    conv => whnf
    exact ⟨(limit (.inl h1)).symm, trivial⟩
  have h1 : ¬ 240 < bs.length := by simp at hc; omega
  conv => whnf
  refine ⟨fun hc => ?_, fun hc => ?_⟩
  · have h2 : 1200 < ls.length := by simp at hc; omega
    conv => whnf
    exact ⟨(limit (.inr h2)).symm, trivial⟩
  have h2 : ¬ 1200 < ls.length := by simp at hc; omega
  have hlim : ¬ (240 < bs.length ∨ 1200 < ls.length) := by omega
  conv => whnf
  refine loop_step tB_ok (G := Nat) 0 [] (fun i => [(3, iv .i64 i)]) (fun i => []) (fun i => i ≤ bs.length ∧ (bs.take i).all boxOKF = true) (fun i => bs.length - i) ?_
  conv => whnf
  refine ⟨⟨0, ⟨Nat.zero_le _, rfl⟩, ?_⟩, ?_⟩
  · conv => whnf
    repeat' (first | exact trivial | exact rfl | refine And.intro ?_ ?_ | ((conv => whnf); first | exact trivial | exact rfl | refine And.intro ?_ ?_ | omega))
  intro i hi ρ1 t1 hρ1
  obtain ⟨hi, hall⟩ := hi
  conv => whnf
  refine ⟨fun hc => ?_, fun hc => ?_⟩
  · have hlt : i < bs.length := by simpa using hc
    have out : boxOKF bs[i] = false → checkF bs ls = 1 := fun h => bad hlim (.inl (by
      rw [← Bool.not_eq_true, List.all_eq_true]
      intro hh
      rw [hh _ (List.getElem_mem hlt)] at h; cases h))
    conv => whnf
    refine ⟨i, rfl, hlt, hlt, ?_⟩
    conv => whnf
    refine ⟨i, rfl, hlt, hlt, ?_⟩
    conv => whnf
    refine ⟨fun hc => ?_, fun hc => ?_⟩
    · have hb : bs[i].2 < bs[i].1 := by simpa using (show decide (bs[i].2 < bs[i].1) = true from hc)
      conv => whnf
      exact ⟨(out (by simp [boxOKF, hb])).symm, trivial⟩
    have hb1 : ¬ bs[i].2 < bs[i].1 := by simpa using (show decide (bs[i].2 < bs[i].1) = false from hc)
    conv => whnf
    refine ⟨i, rfl, hlt, hlt, ?_⟩
    conv => whnf
    refine ⟨fun hc => ?_, fun hc => ?_⟩
    · have hb : bs[i].1 < -16777216 := by simpa using (show decide (bs[i].1 < -16777216) = true from hc)
      conv => whnf
      exact ⟨(out (by simp [boxOKF, hb])).symm, trivial⟩
    have hb2 : ¬ bs[i].1 < -16777216 := by simpa using (show decide (bs[i].1 < -16777216) = false from hc)
    conv => whnf
    refine ⟨i, rfl, hlt, hlt, ?_⟩
    conv => whnf
    refine ⟨fun hc => ?_, fun hc => ?_⟩
    · have hb : 16777216 < bs[i].2 := by simpa using (show decide (16777216 < bs[i].2) = true from hc)
      conv => whnf
      exact ⟨(out (by simp [boxOKF, hb])).symm, trivial⟩
    have hb3 : ¬ 16777216 < bs[i].2 := by simpa using (show decide (16777216 < bs[i].2) = false from hc)
    conv => whnf
    refine ⟨_, wrapId ⟨by omega, by omega⟩, ?_⟩
    refine ⟨i + 1, ⟨by omega, ?_⟩, by show bs.length - (i + 1) < bs.length - i; omega, ?_⟩
    · rw [take_snoc (by omega), List.all_append, hall]
      simp [boxOKF]; omega
    conv => whnf
    refine ⟨rfl, ?_⟩
    conv => whnf
    repeat' (first | exact trivial | exact rfl | refine And.intro ?_ ?_ | ((conv => whnf); first | exact trivial | exact rfl | refine And.intro ?_ ?_ | omega))
  have hi2 : i = bs.length := by simp at hc; omega
  subst hi2
  rw [List.take_length] at hall
  conv => whnf
  refine loop_step tB_ok (G := Nat) 0 [] (fun i => [(4, iv .i64 i)]) (fun i => []) (fun i => i ≤ ls.length ∧ (ls.take i).all (fun l => properF l bs.length) = true) (fun i => ls.length - i) ?_
  conv => whnf
  refine ⟨⟨0, ⟨Nat.zero_le _, rfl⟩, ?_⟩, ?_⟩
  · conv => whnf
    repeat' (first | exact trivial | exact rfl | refine And.intro ?_ ?_ | ((conv => whnf); first | exact trivial | exact rfl | refine And.intro ?_ ?_ | omega))
  intro j hj ρ2 t2 hρ2
  obtain ⟨hj, hall2⟩ := hj
  conv => whnf
  refine ⟨fun hc => ?_, fun hc => ?_⟩
  · have hc : j < ls.length := by simpa using hc
    conv => whnf
    refine ⟨j, rfl, hc, hc, ?_⟩
    conv => whnf
    refine call_step (linked_t bs ls ls[j]) rfl rfl ?_
    conv => whnf
    refine ⟨(by repeat' (first | exact trivial | exact rfl | refine And.intro ?_ ?_ | ((conv => whnf); first | exact trivial | exact rfl | refine And.intro ?_ ?_ | omega))), (by repeat' (first | exact trivial | exact rfl | refine And.intro ?_ ?_ | ((conv => whnf); first | exact trivial | exact rfl | refine And.intro ?_ ?_ | omega))), ?_⟩
    conv => whnf
    refine ⟨fun hc => ?_, fun hc => ?_⟩
    · have hp : properF ls[j] bs.length = false := by simpa using (show (!properF ls[j] bs.length) = true from hc)
      conv => whnf
      refine ⟨(bad hlim (.inr ?_)).symm, trivial⟩
      rw [← Bool.not_eq_true, List.all_eq_true]
      intro hh
      have := hh _ (List.getElem_mem (by assumption))
      simp only [hp] at this; cases this
    have hp : properF ls[j] bs.length = true := by simpa using (show (!properF ls[j] bs.length) = false from hc)
    conv => whnf
    refine ⟨_, wrapId ⟨by omega, by omega⟩, ?_⟩
    refine ⟨j + 1, ⟨by omega, ?_⟩, by show ls.length - (j + 1) < ls.length - j; omega, ?_⟩
    · rw [take_snoc (by omega), List.all_append, hall2]
      simp [hp]
    conv => whnf
    refine ⟨rfl, ?_⟩
    conv => whnf
    repeat' (first | exact trivial | exact rfl | refine And.intro ?_ ?_ | ((conv => whnf); first | exact trivial | exact rfl | refine And.intro ?_ ?_ | omega))
  have hj2 : j = ls.length := by simp at hc; omega
  subst hj2
  rw [List.take_length] at hall2
  conv => whnf
  refine ⟨?_, trivial⟩
  show (0 : Int) = checkF bs ls
  unfold checkF
  rw [if_neg (by simp; omega), hall, hall2]
  rfl

end Go.Proofs

namespace Go.Proofs
open Go.Sx

theorem seqRound (xs : List Lnk) (l : Lnk) (hlen : xs.length ≤ 1000000) : RoundT Try.prog Try.f137.ntmps [(2, .c (.p 1 0 0 0))] #[7]
    (rfA Try.f137) (rfB Try.f137) [svL l]
    [(1, true, .cells [.s 2 0 xs.length 4]), (2, true, .arr (aLink xs))] 3
    [(1, true, .cells [.s 3 0 (xs ++ [l]).length 4]), (3, true, .arr (aLink (xs ++ [l])))] := by
  refine round_of tB_ok rfl ?_
  intro Φ Φ' ρ w
  conv => whnf
  refine ⟨rfl, ?_⟩
  conv => whnf
  refine bs_step tB_ok (aLink [l]) rfl rfl ?_
  conv => whnf
  refine ⟨⟨rfl, ⟨rfl, rfl, rfl, rfl, trivial⟩⟩, ?_⟩
  conv => whnf
  refine app_step tB_ok (aLink xs) [l] (fun _ => rfl) rfl rfl rfl rfl ?_
  conv => whnf
  refine ⟨⟨rfl, rfl, Nat.le_refl _, Nat.le_refl _, by simp; omega⟩, ?_⟩
  conv => whnf
  refine ⟨rfl, ?_⟩
  conv => whnf
  repeat' (first | exact trivial | exact rfl | refine And.intro ?_ ?_ | ((conv => whnf); first | exact trivial | exact rfl | refine And.intro ?_ ?_ | omega))
  all_goals first | exact (congrArg aLink app1.symm : _) | exact (congrArg aLink app1 : _) | simp

theorem boxLinks_take {bs : List (Int × Int)} {i : Nat} (h : i < bs.length) : boxLinks 0 (bs.take (i + 1)) = (boxLinks 0 (bs.take i) ++ [⟨-1, i, bs[i].2, 0⟩]) ++ [⟨i, -1, -bs[i].1, 0⟩] := by
  rw [take_snoc h, boxLinks_append]
  have : 0 + (bs.take i).length = i := by simp; omega
  rw [this]
  simp [boxLinks]

theorem boxTake_len (bs : List (Int × Int)) (i : Nat) : (boxLinks 0 (bs.take i)).length ≤ 2 * bs.length := by
  rw [boxLinks_length, List.length_take]; omega

theorem appendSeq_t (bs : List (Int × Int)) (ls : List Lnk) (hb : bs.length ≤ 1000) (hB : BoxB bs) (hl : ls.length ≤ 100000) :
    Triple Try.prog 137 [.c (.v (.slice none 0 0)), .c (.f 138 [0])]
      [(0, false, .cells [.s 1 0 bs.length 2, .s 2 0 ls.length 4]), (1, false, .arr (aSpan bs)), (2, false, .arr (aLink ls))] 3 (.c (.s 3 0 (allF bs ls).length 4)) [(3, true, .arr (aLink (allF bs ls)))] := by
  refine triple_of tB_ok Try.func137 rfl Try.call137 rfl ?_
  intro ρ w hH
  conv => whnf
  refine range_step (asg := rfA Try.f137) (body := rfB Try.f137) tB_ok rfl Try.func138 rfl Try.call138 rfl ?_
  conv => whnf
  intro fo d l T0 ρ1 hT hE hl1
  have hA : ∀ i sv, (i, sv) ∈ [(2, SV.c (.p 3 0 0 0))] → sv.rel ρ1 (T0.getD i undef) := by
    intro i sv hm
    rcases List.mem_cons.1 hm with he | hm
    · cases he; exact hE 2
    · cases hm
  clear hE
  conv => whnf
  have hbl := boxTake_len bs
  refine loop_step tB_ok (G := Nat × List Lnk) 1 [] (fun g => [(10, iv .i64 g.1)]) (fun g => [(3, true, .cells [.s 6 0 g.2.length 4]), (6, true, .arr (aLink g.2)), (5, true, recO fo T0 #[7] (rfA Try.f137) (rfB Try.f137) d)])
    (fun g => g.1 ≤ bs.length ∧ g.2 = boxLinks 0 (bs.take g.1)) (fun g => bs.length - g.1) ?_
  conv => whnf
  refine ⟨⟨(0, []), ⟨Nat.zero_le _, rfl⟩, ?_⟩, ?_⟩
  · conv => whnf
    repeat' (first | exact trivial | exact rfl | refine And.intro ?_ ?_ | ((conv => whnf); first | exact trivial | exact rfl | refine And.intro ?_ ?_ | omega))
  rintro ⟨i, xs⟩ ⟨hi, hxs⟩ ρ2 t2 hρ2
  have hi : i ≤ bs.length := hi
  have hxs : xs = boxLinks 0 (bs.take i) := hxs
  have hxl : xs.length ≤ 2 * bs.length := by rw [hxs]; exact hbl i
  have hρ2 : ∀ k, k < 6 → ρ2 k = ρ1 k := hρ2
  dsimp only
  conv => whnf
  refine ⟨fun hc => ?_, fun hc => ?_⟩
  · conv => whnf
    have h : i < bs.length := by simpa using hc
    have hst := boxLinks_take h
    rw [← hxs] at hst
    refine ⟨i, rfl, h, h, ?_⟩
    conv => whnf
    refine yield_step (fn := fo) (d := d) [(2, .c (.p 3 0 0 0))] 5 (seqRound xs ⟨-1, i, bs[i].2, 0⟩ (by omega)) hT (relSt_agree hA rfl hρ2) ((congrArg Rg.blk (hρ2 5 (by omega))).trans hl1) rfl rfl rfl rfl ?_
    conv => whnf
    refine ⟨(by repeat' (first | exact trivial | exact rfl | refine And.intro ?_ ?_ | ((conv => whnf); first | exact trivial | exact rfl | refine And.intro ?_ ?_ | omega))), (by repeat' (first | exact trivial | exact rfl | refine And.intro ?_ ?_ | ((conv => whnf); first | exact trivial | exact rfl | refine And.intro ?_ ?_ | omega))), ?_⟩
    conv => whnf
    refine ⟨-bs[i].1, ?_, ?_⟩
    · have := (hB bs[i] (List.getElem_mem h)).1
      show IntKind.i64.wrap (0 - bs[i].1) = -bs[i].1
      rw [wrapId ⟨by omega, by omega⟩]; omega
    conv => whnf
    refine yield_step (fn := fo) (d := d) [(2, .c (.p 3 0 0 0))] 5 (seqRound (xs ++ [⟨-1, i, bs[i].2, 0⟩]) ⟨i, -1, -bs[i].1, 0⟩ (by simp; omega)) hT (relSt_agree hA rfl hρ2) ((congrArg Rg.blk (hρ2 5 (by omega))).trans hl1) rfl rfl rfl rfl ?_
    conv => whnf
    refine ⟨(by repeat' (first | exact trivial | exact rfl | refine And.intro ?_ ?_ | ((conv => whnf); first | exact trivial | exact rfl | refine And.intro ?_ ?_ | omega))), (by repeat' (first | exact trivial | exact rfl | refine And.intro ?_ ?_ | ((conv => whnf); first | exact trivial | exact rfl | refine And.intro ?_ ?_ | omega))), ?_⟩
    conv => whnf
    refine ⟨_, wrapId ⟨by omega, by omega⟩, ?_⟩
    refine ⟨(i + 1, (xs ++ [⟨-1, i, bs[i].2, 0⟩]) ++ [⟨i, -1, -bs[i].1, 0⟩]), ⟨h, hst.symm⟩, by show bs.length - (i + 1) < bs.length - i; omega, ?_⟩
    conv => whnf
    refine ⟨rfl, ?_⟩
    conv => whnf
    repeat' (first | exact trivial | exact rfl | refine And.intro ?_ ?_ | ((conv => whnf); first | exact trivial | exact rfl | refine And.intro ?_ ?_ | omega))
  have hie : i = bs.length := by simp at hc; omega
  rw [hie, List.take_length] at hxs
  conv => whnf
  refine loop_step tB_ok (G := Nat × List Lnk) 1 [6] (fun g => [(36, iv .i64 g.1)]) (fun g => [(3, true, .cells [.s 7 0 g.2.length 4]), (7, true, .arr (aLink g.2)), (5, true, recO fo T0 #[7] (rfA Try.f137) (rfB Try.f137) d)])
    (fun g => g.1 ≤ ls.length ∧ g.2 = xs ++ ls.take g.1) (fun g => ls.length - g.1) ?_
  conv => whnf
  refine ⟨⟨(0, xs), ⟨Nat.zero_le _, by simp⟩, ?_⟩, ?_⟩
  · conv => whnf
    repeat' (first | exact trivial | exact rfl | refine And.intro ?_ ?_ | ((conv => whnf); first | exact trivial | exact rfl | refine And.intro ?_ ?_ | omega))
  rintro ⟨j, ys⟩ ⟨hj, hys⟩ ρ3 t3 hρ3
  have hj : j ≤ ls.length := hj
  have hys : ys = xs ++ ls.take j := hys
  have hyl : ys.length ≤ xs.length + ls.length := by rw [hys, List.length_append, List.length_take]; omega
  have hρ3 : ∀ k, k < 6 → ρ3 k = ρ1 k := hρ3
  dsimp only
  conv => whnf
  refine ⟨fun hc => ?_, fun hc => ?_⟩
  · conv => whnf
    have h : j < ls.length := by simpa using hc
    have hst : ys ++ [ls[j]] = xs ++ ls.take (j + 1) := by rw [hys, List.append_assoc, ← take_snoc h]
    refine ⟨j, rfl, h, h, ?_⟩
    conv => whnf
    refine yield_step (fn := fo) (d := d) [(2, .c (.p 3 0 0 0))] 5 (seqRound ys ls[j] (by omega)) hT (relSt_agree hA rfl hρ3) ((congrArg Rg.blk (hρ3 5 (by omega))).trans hl1) rfl rfl rfl rfl ?_
    conv => whnf
    refine ⟨(by repeat' (first | exact trivial | exact rfl | refine And.intro ?_ ?_ | ((conv => whnf); first | exact trivial | exact rfl | refine And.intro ?_ ?_ | omega))), (by repeat' (first | exact trivial | exact rfl | refine And.intro ?_ ?_ | ((conv => whnf); first | exact trivial | exact rfl | refine And.intro ?_ ?_ | omega))), ?_⟩
    conv => whnf
    refine ⟨_, wrapId ⟨by omega, by omega⟩, ?_⟩
    refine ⟨(j + 1, ys ++ [ls[j]]), ⟨h, hst⟩, by show ls.length - (j + 1) < ls.length - j; omega, ?_⟩
    conv => whnf
    refine ⟨rfl, ?_⟩
    conv => whnf
    repeat' (first | exact trivial | exact rfl | refine And.intro ?_ ?_ | ((conv => whnf); first | exact trivial | exact rfl | refine And.intro ?_ ?_ | omega))
  have hje : j = ls.length := by simp at hc; omega
  rw [hje, List.take_length, hxs] at hys
  have hys : ys = allF bs ls := hys
  subst hys
  conv => whnf
  refine ⟨rfl, ?_⟩
  conv => whnf
  refine ⟨fun _ h => h, ?_⟩
  conv => whnf
  repeat' (first | exact trivial | exact rfl | refine And.intro ?_ ?_ | ((conv => whnf); first | exact trivial | exact rfl | refine And.intro ?_ ?_ | omega))

theorem appendSeqNil_t (bs : List (Int × Int)) (hb : bs.length ≤ 1000) (hB : BoxB bs) :
    Triple Try.prog 137 [.c (.v (.slice none 0 0)), .c (.f 138 [0])]
      [(0, false, .cells [.s 1 0 bs.length 2, .v (.slice none 0 0)]), (1, false, .arr (aSpan bs))] 2 (.c (.s 2 0 (boxLinks 0 bs).length 4)) [(2, true, .arr (aLink (boxLinks 0 bs)))] := by
  refine triple_of tB_ok Try.func137 rfl Try.call137 rfl ?_
  intro ρ w hH
  conv => whnf
  refine range_step (asg := rfA Try.f137) (body := rfB Try.f137) tB_ok rfl Try.func138 rfl Try.call138 rfl ?_
  conv => whnf
  intro fo d l T0 ρ1 hT hE hl1
  have hA : ∀ i sv, (i, sv) ∈ [(2, SV.c (.p 2 0 0 0))] → sv.rel ρ1 (T0.getD i undef) := by
    intro i sv hm
    rcases List.mem_cons.1 hm with he | hm
    · cases he; exact hE 2
    · cases hm
  clear hE
  conv => whnf
  have hbl := boxTake_len bs
  refine loop_step tB_ok (G := Nat × List Lnk) 1 [] (fun g => [(10, iv .i64 g.1)]) (fun g => [(2, true, .cells [.s 5 0 g.2.length 4]), (5, true, .arr (aLink g.2)), (4, true, recO fo T0 #[7] (rfA Try.f137) (rfB Try.f137) d)])
    (fun g => g.1 ≤ bs.length ∧ g.2 = boxLinks 0 (bs.take g.1)) (fun g => bs.length - g.1) ?_
  conv => whnf
  refine ⟨⟨(0, []), ⟨Nat.zero_le _, rfl⟩, ?_⟩, ?_⟩
  · conv => whnf
    repeat' (first | exact trivial | exact rfl | refine And.intro ?_ ?_ | ((conv => whnf); first | exact trivial | exact rfl | refine And.intro ?_ ?_ | omega))
  rintro ⟨i, xs⟩ ⟨hi, hxs⟩ ρ2 t2 hρ2
  have hi : i ≤ bs.length := hi
  have hxs : xs = boxLinks 0 (bs.take i) := hxs
  have hxl : xs.length ≤ 2 * bs.length := by rw [hxs]; exact hbl i
  have hρ2 : ∀ k, k < 5 → ρ2 k = ρ1 k := hρ2
  dsimp only
  conv => whnf
  refine ⟨fun hc => ?_, fun hc => ?_⟩
  · conv => whnf
    have h : i < bs.length := by simpa using hc
    have hst := boxLinks_take h
    rw [← hxs] at hst
    refine ⟨i, rfl, h, h, ?_⟩
    conv => whnf
    refine yield_step (fn := fo) (d := d) [(2, .c (.p 2 0 0 0))] 4 (seqRound xs ⟨-1, i, bs[i].2, 0⟩ (by omega)) hT (relSt_agree hA rfl hρ2) ((congrArg Rg.blk (hρ2 4 (by omega))).trans hl1) rfl rfl rfl rfl ?_
    conv => whnf
    refine ⟨(by repeat' (first | exact trivial | exact rfl | refine And.intro ?_ ?_ | ((conv => whnf); first | exact trivial | exact rfl | refine And.intro ?_ ?_ | omega))), (by repeat' (first | exact trivial | exact rfl | refine And.intro ?_ ?_ | ((conv => whnf); first | exact trivial | exact rfl | refine And.intro ?_ ?_ | omega))), ?_⟩
    conv => whnf
    refine ⟨-bs[i].1, ?_, ?_⟩
    · have := (hB bs[i] (List.getElem_mem h)).1
      show IntKind.i64.wrap (0 - bs[i].1) = -bs[i].1
      rw [wrapId ⟨by omega, by omega⟩]; omega
    conv => whnf
    refine yield_step (fn := fo) (d := d) [(2, .c (.p 2 0 0 0))] 4 (seqRound (xs ++ [⟨-1, i, bs[i].2, 0⟩]) ⟨i, -1, -bs[i].1, 0⟩ (by simp; omega)) hT (relSt_agree hA rfl hρ2) ((congrArg Rg.blk (hρ2 4 (by omega))).trans hl1) rfl rfl rfl rfl ?_
    conv => whnf
    refine ⟨(by repeat' (first | exact trivial | exact rfl | refine And.intro ?_ ?_ | ((conv => whnf); first | exact trivial | exact rfl | refine And.intro ?_ ?_ | omega))), (by repeat' (first | exact trivial | exact rfl | refine And.intro ?_ ?_ | ((conv => whnf); first | exact trivial | exact rfl | refine And.intro ?_ ?_ | omega))), ?_⟩
    conv => whnf
    refine ⟨_, wrapId ⟨by omega, by omega⟩, ?_⟩
    refine ⟨(i + 1, (xs ++ [⟨-1, i, bs[i].2, 0⟩]) ++ [⟨i, -1, -bs[i].1, 0⟩]), ⟨h, hst.symm⟩, by show bs.length - (i + 1) < bs.length - i; omega, ?_⟩
    conv => whnf
    refine ⟨rfl, ?_⟩
    conv => whnf
    repeat' (first | exact trivial | exact rfl | refine And.intro ?_ ?_ | ((conv => whnf); first | exact trivial | exact rfl | refine And.intro ?_ ?_ | omega))
  have hie : i = bs.length := by simp at hc; omega
  rw [hie, List.take_length] at hxs
  conv => whnf
  subst hxs
  refine loop_step tB_ok (G := Unit) 0 [] (fun g => [(36, iv .i64 0)]) (fun g => []) (fun g => True) (fun g => 0) ?_
  conv => whnf
  refine ⟨⟨(), trivial, ?_⟩, ?_⟩
  · conv => whnf
    repeat' (first | exact trivial | exact rfl | refine And.intro ?_ ?_ | ((conv => whnf); first | exact trivial | exact rfl | refine And.intro ?_ ?_ | omega))
  intro _ _ ρ3 t3 hρ3
  conv => whnf
  refine ⟨fun hc => ?_, fun hc => ?_⟩
  · simp at hc
  conv => whnf
  refine ⟨rfl, ?_⟩
  conv => whnf
  refine ⟨fun _ h => h, ?_⟩
  conv => whnf
  repeat' (first | exact trivial | exact rfl | refine And.intro ?_ ?_ | ((conv => whnf); first | exact trivial | exact rfl | refine And.intro ?_ ?_ | omega))

theorem allNil_t (bs : List (Int × Int)) : Triple Try.prog 101 [.agg [.s 0 0 bs.length 2, .v (.slice none 0 0)]] [(0, false, .arr (aSpan bs))] 1 (.c (.f 138 [1])) [(1, true, .cells [.s 0 0 bs.length 2, .v (.slice none 0 0)])] := by
  refine triple_of tB_ok Try.func101 rfl Try.call101 rfl ?_
  intro ρ w hH
  conv => whnf
  repeat' (first | exact trivial | exact rfl | refine And.intro ?_ ?_ | ((conv => whnf); first | exact trivial | exact rfl | refine And.intro ?_ ?_ | omega))

theorem collectNil_t (bs : List (Int × Int)) (hb : bs.length ≤ 1000) (hB : BoxB bs) :
    Triple Try.prog 100 [.c (.f 138 [0])]
      [(0, false, .cells [.s 1 0 bs.length 2, .v (.slice none 0 0)]), (1, false, .arr (aSpan bs))] 2 (.c (.s 2 0 (boxLinks 0 bs).length 4)) [(2, true, .arr (aLink (boxLinks 0 bs)))] := by
  refine triple_of tB_ok Try.func100 rfl Try.call100 rfl ?_
  intro ρ w hH
  conv => whnf
  refine call_step (appendSeqNil_t bs hb hB) rfl rfl ?_
  conv => whnf
  refine ⟨(by repeat' (first | exact trivial | exact rfl | refine And.intro ?_ ?_ | ((conv => whnf); first | exact trivial | exact rfl | refine And.intro ?_ ?_ | omega))), (by repeat' (first | exact trivial | exact rfl | refine And.intro ?_ ?_ | ((conv => whnf); first | exact trivial | exact rfl | refine And.intro ?_ ?_ | omega))), ?_⟩
  conv => whnf
  repeat' (first | exact trivial | exact rfl | refine And.intro ?_ ?_ | ((conv => whnf); first | exact trivial | exact rfl | refine And.intro ?_ ?_ | omega))

theorem collect_t (bs : List (Int × Int)) (ls : List Lnk) (hb : bs.length ≤ 1000) (hB : BoxB bs) (hl : ls.length ≤ 100000) :
    Triple Try.prog 100 [.c (.f 138 [0])]
      [(0, false, .cells [.s 1 0 bs.length 2, .s 2 0 ls.length 4]), (1, false, .arr (aSpan bs)), (2, false, .arr (aLink ls))] 3 (.c (.s 3 0 (allF bs ls).length 4)) [(3, true, .arr (aLink (allF bs ls)))] := by
  refine triple_of tB_ok Try.func100 rfl Try.call100 rfl ?_
  intro ρ w hH
  conv => whnf
  refine call_step (appendSeq_t bs ls hb hB hl) rfl rfl ?_
  conv => whnf
  refine ⟨(by repeat' (first | exact trivial | exact rfl | refine And.intro ?_ ?_ | ((conv => whnf); first | exact trivial | exact rfl | refine And.intro ?_ ?_ | omega))), (by repeat' (first | exact trivial | exact rfl | refine And.intro ?_ ?_ | ((conv => whnf); first | exact trivial | exact rfl | refine And.intro ?_ ?_ | omega))), ?_⟩
  conv => whnf
  repeat' (first | exact trivial | exact rfl | refine And.intro ?_ ?_ | ((conv => whnf); first | exact trivial | exact rfl | refine And.intro ?_ ?_ | omega))

theorem Base_t (bs : List (Int × Int)) (ls : List Lnk) (hs : SysOK bs ls) :
    Triple Try.prog 44 [sysA bs.length ls.length] (sysH bs ls) 2 (.tup [.inl (.s 2 0 (boxLinks 0 bs).length 4), .inl (.v (.int .i64 0))]) [(2, true, .arr (aLink (boxLinks 0 bs)))] := by
  refine triple_of tB_ok Try.func44 rfl Try.call44 rfl ?_
  intro ρ w hH
  conv => whnf
  have hnb := hs.nb
  have hnl := hs.nl
  refine call_step (check_t bs ls (by omega) (by omega)) rfl rfl ?_
  conv => whnf
  refine ⟨(by repeat' (first | exact trivial | exact rfl | refine And.intro ?_ ?_ | ((conv => whnf); first | exact trivial | exact rfl | refine And.intro ?_ ?_ | omega))), (by repeat' (first | exact trivial | exact rfl | refine And.intro ?_ ?_ | ((conv => whnf); first | exact trivial | exact rfl | refine And.intro ?_ ?_ | omega))), ?_⟩
  conv => whnf
  rw [checkF_ok.2 hs]
  refine ⟨fun hc => ?_, fun hc => ?_⟩
  · cases hc
  conv => whnf
  refine call_step (allNil_t bs) rfl rfl ?_
  conv => whnf
  refine ⟨(by repeat' (first | exact trivial | exact rfl | refine And.intro ?_ ?_ | ((conv => whnf); first | exact trivial | exact rfl | refine And.intro ?_ ?_ | omega))), (by repeat' (first | exact trivial | exact rfl | refine And.intro ?_ ?_ | ((conv => whnf); first | exact trivial | exact rfl | refine And.intro ?_ ?_ | omega))), ?_⟩
  conv => whnf
  refine call_step (collectNil_t bs (by omega) hs.boxB) rfl rfl ?_
  conv => whnf
  refine ⟨(by repeat' (first | exact trivial | exact rfl | refine And.intro ?_ ?_ | ((conv => whnf); first | exact trivial | exact rfl | refine And.intro ?_ ?_ | omega))), (by repeat' (first | exact trivial | exact rfl | refine And.intro ?_ ?_ | ((conv => whnf); first | exact trivial | exact rfl | refine And.intro ?_ ?_ | omega))), ?_⟩
  conv => whnf
  repeat' (first | exact trivial | exact rfl | refine And.intro ?_ ?_ | ((conv => whnf); first | exact trivial | exact rfl | refine And.intro ?_ ?_ | omega))

theorem BaseErr_t (bs : List (Int × Int)) (ls : List Lnk) (hb : bs.length ≤ 1000000) (hl : ls.length ≤ 1000000) (hc : checkF bs ls ≠ 0) :
    Triple Try.prog 44 [sysA bs.length ls.length] (sysH bs ls) 2 (.tup [.inl (.v (.slice none 0 0)), .inl (.v (.int .i64 (checkF bs ls)))]) [] := by
  refine triple_of tB_ok Try.func44 rfl Try.call44 rfl ?_
  intro ρ w hH
  conv => whnf
  refine call_step (check_t bs ls hb hl) rfl rfl ?_
  conv => whnf
  refine ⟨(by repeat' (first | exact trivial | exact rfl | refine And.intro ?_ ?_ | ((conv => whnf); first | exact trivial | exact rfl | refine And.intro ?_ ?_ | omega))), (by repeat' (first | exact trivial | exact rfl | refine And.intro ?_ ?_ | ((conv => whnf); first | exact trivial | exact rfl | refine And.intro ?_ ?_ | omega))), ?_⟩
  conv => whnf
  generalize checkF bs ls = c at *
  refine ⟨fun hcc => ?_, fun hcc => ?_⟩
  · conv => whnf
    repeat' (first | exact trivial | exact rfl | refine And.intro ?_ ?_ | ((conv => whnf); first | exact trivial | exact rfl | refine And.intro ?_ ?_ | omega))
  · exact absurd (by simpa using hcc) hc

end Go.Proofs

namespace Go.Proofs
open Go.Sx

theorem app2 {α : Type} {zs : List α} {k : Nat} {b : α} (h : zs.length = k) : List.take k zs ++ List.take 1 (List.drop 0 [b]) = zs ++ [b] := by
  rw [List.take_of_length_le (Nat.le_of_eq h)]; rfl

theorem refbase_t (bs : List (Int × Int)) (ls : List Lnk) (hb : bs.length ≤ 1000) (hB : BoxB bs) :
    Triple Try.prog 102 [sysA bs.length ls.length] (sysH bs ls) 2 (.c (.s 2 0 (boxLinks 0 bs).length 4)) [(2, true, .arr (aLink (boxLinks 0 bs)))] := by
  refine triple_of tB_ok Try.func102 rfl Try.call102 rfl ?_
  intro ρ w hH
  conv => whnf
  have hbl := boxTake_len bs
  refine loop_step tB_ok (G := Nat × List Lnk) 1 [] (fun g => [(4, iv .i64 g.1), (3, .c (.s 3 0 g.2.length 4))]) (fun g => [(3, true, .arr (aLink g.2))]) (fun g => g.1 ≤ bs.length ∧ g.2 = boxLinks 0 (bs.take g.1)) (fun g => bs.length - g.1) ?_
  conv => whnf
  refine ⟨⟨(0, []), ⟨Nat.zero_le _, rfl⟩, ?_⟩, ?_⟩
  · conv => whnf
    repeat' (first | exact trivial | exact rfl | refine And.intro ?_ ?_ | ((conv => whnf); first | exact trivial | exact rfl | refine And.intro ?_ ?_ | omega))
  rintro ⟨i, xs⟩ ⟨hi, hxs⟩ ρ1 t1 hρ1
  have hi : i ≤ bs.length := hi
  have hxs : xs = boxLinks 0 (bs.take i) := hxs
  have hxl : xs.length ≤ 2 * bs.length := by rw [hxs]; exact hbl i
  dsimp only
  conv => whnf
  refine ⟨fun hc => ?_, fun hc => ?_⟩
  · have h : i < bs.length := by simpa using hc
    have hst := boxLinks_take h
    rw [← hxs] at hst
    conv => whnf
    refine ⟨i, rfl, h, h, ?_⟩
    conv => whnf
    refine bs_step tB_ok (aLink [⟨-1, i, bs[i].2, 0⟩]) rfl rfl ?_
    conv => whnf
    refine ⟨(by repeat' (first | exact trivial | exact rfl | refine And.intro ?_ ?_ | ((conv => whnf); first | exact trivial | exact rfl | refine And.intro ?_ ?_ | omega))), ?_⟩
    conv => whnf
    refine app_step tB_ok (aLink xs) [⟨-1, i, bs[i].2, 0⟩] (fun _ => rfl) rfl rfl rfl rfl ?_
    conv => whnf
    refine ⟨⟨rfl, rfl, Nat.le_refl _, Nat.le_refl _, by show (xs.length + 1) * 33 ≤ _; omega⟩, ?_⟩
    conv => whnf
    refine ⟨i, rfl, h, h, ?_⟩
    conv => whnf
    refine ⟨-bs[i].1, ?_, ?_⟩
    · have := (hB bs[i] (List.getElem_mem h)).1
      show IntKind.i64.wrap (0 - bs[i].1) = -bs[i].1
      rw [wrapId ⟨by omega, by omega⟩]; omega
    conv => whnf
    refine bs_step tB_ok (aLink [⟨i, -1, -bs[i].1, 0⟩]) rfl rfl ?_
    conv => whnf
    refine ⟨(by repeat' (first | exact trivial | exact rfl | refine And.intro ?_ ?_ | ((conv => whnf); first | exact trivial | exact rfl | refine And.intro ?_ ?_ | omega))), ?_⟩
    conv => whnf
    refine app_step tB_ok (aLink (xs ++ [⟨-1, i, bs[i].2, 0⟩])) [⟨i, -1, -bs[i].1, 0⟩] (fun _ => rfl) rfl rfl rfl rfl ?_
    conv => whnf
    refine ⟨⟨congrArg aLink app1, rfl, by show xs.length + 1 ≤ (xs ++ [_]).length; simp, Nat.le_refl _, by show (xs.length + 1 + 1) * 33 ≤ _; omega⟩, ?_⟩
    conv => whnf
    refine ⟨_, wrapId ⟨by omega, by omega⟩, ?_⟩
    refine ⟨(i + 1, (xs ++ [⟨-1, i, bs[i].2, 0⟩]) ++ [⟨i, -1, -bs[i].1, 0⟩]), ⟨h, hst.symm⟩, by show bs.length - (i + 1) < bs.length - i; omega, ?_⟩
    conv => whnf
    refine ⟨rfl, ?_⟩
    conv => whnf
    repeat' (first | exact trivial | exact rfl | refine And.intro ?_ ?_ | ((conv => whnf); first | exact trivial | exact rfl | refine And.intro ?_ ?_ | omega))
    · simp
    · have e2 : (xs ++ [(⟨-1, i, bs[i].2, 0⟩ : Lnk)]).length = xs.length + 1 := by simp
      exact congrArg aLink (app2 e2)
  have hie : i = bs.length := by simp at hc; omega
  rw [hie, List.take_length] at hxs
  subst hxs
  conv => whnf
  repeat' (first | exact trivial | exact rfl | refine And.intro ?_ ?_ | ((conv => whnf); first | exact trivial | exact rfl | refine And.intro ?_ ?_ | omega))


theorem refBase_t (bs : List (Int × Int)) (ls : List Lnk) (hs : SysOK bs ls) :
    Triple Try.prog 45 [sysA bs.length ls.length] (sysH bs ls) 2 (.tup [.inl (.s 2 0 (boxLinks 0 bs).length 4), .inl (.v (.int .i64 0))]) [(2, true, .arr (aLink (boxLinks 0 bs)))] := by
  refine triple_of tB_ok Try.func45 rfl Try.call45 rfl ?_
  intro ρ w hH
  conv => whnf
  have hnb := hs.nb
  have hnl := hs.nl
  refine call_step (refCheck_t bs ls (by omega) (by omega)) rfl rfl ?_
  conv => whnf
  refine ⟨(by repeat' (first | exact trivial | exact rfl | refine And.intro ?_ ?_ | ((conv => whnf); first | exact trivial | exact rfl | refine And.intro ?_ ?_ | omega))), (by repeat' (first | exact trivial | exact rfl | refine And.intro ?_ ?_ | ((conv => whnf); first | exact trivial | exact rfl | refine And.intro ?_ ?_ | omega))), ?_⟩
  conv => whnf
  rw [checkF_ok.2 hs]
  refine ⟨fun hc => ?_, fun hc => ?_⟩
  · cases hc
  conv => whnf
  refine call_step (refbase_t bs ls (by omega) hs.boxB) rfl rfl ?_
  conv => whnf
  refine ⟨(by repeat' (first | exact trivial | exact rfl | refine And.intro ?_ ?_ | ((conv => whnf); first | exact trivial | exact rfl | refine And.intro ?_ ?_ | omega))), (by repeat' (first | exact trivial | exact rfl | refine And.intro ?_ ?_ | ((conv => whnf); first | exact trivial | exact rfl | refine And.intro ?_ ?_ | omega))), ?_⟩
  conv => whnf
  repeat' (first | exact trivial | exact rfl | refine And.intro ?_ ?_ | ((conv => whnf); first | exact trivial | exact rfl | refine And.intro ?_ ?_ | omega))

theorem refBaseErr_t (bs : List (Int × Int)) (ls : List Lnk) (hb : bs.length ≤ 1000000) (hl : ls.length ≤ 1000000) (hc : checkF bs ls ≠ 0) :
    Triple Try.prog 45 [sysA bs.length ls.length] (sysH bs ls) 2 (.tup [.inl (.v (.slice none 0 0)), .inl (.v (.int .i64 (checkF bs ls)))]) [] := by
  refine triple_of tB_ok Try.func45 rfl Try.call45 rfl ?_
  intro ρ w hH
  conv => whnf
  refine call_step (refCheck_t bs ls hb hl) rfl rfl ?_
  conv => whnf
  refine ⟨(by repeat' (first | exact trivial | exact rfl | refine And.intro ?_ ?_ | ((conv => whnf); first | exact trivial | exact rfl | refine And.intro ?_ ?_ | omega))), (by repeat' (first | exact trivial | exact rfl | refine And.intro ?_ ?_ | ((conv => whnf); first | exact trivial | exact rfl | refine And.intro ?_ ?_ | omega))), ?_⟩
  conv => whnf
  generalize checkF bs ls = c at *
  refine ⟨fun hcc => ?_, fun hcc => ?_⟩
  · conv => whnf
    repeat' (first | exact trivial | exact rfl | refine And.intro ?_ ?_ | ((conv => whnf); first | exact trivial | exact rfl | refine And.intro ?_ ?_ | omega))
  · exact absurd (by simpa using hcc) hc

theorem linksSame_t (xs : List Lnk) (hb : xs.length ≤ 1000000) : Triple Try.prog 46 [.c (.s 0 0 xs.length 4), .c (.s 1 0 xs.length 4)] [(0, false, .arr (aLink xs)), (1, false, .arr (aLink xs))] 2 (bv true) [] := by
  refine triple_of tB_ok Try.func46 rfl Try.call46 rfl ?_
  intro ρ w hH
  conv => whnf
  refine ⟨fun hc => ?_, fun hc => ?_⟩
  · simp at hc
  conv => whnf
  refine loop_step tB_ok (G := Nat) 0 [] (fun i => [(5, iv .i64 i)]) (fun _ => []) (fun i => i ≤ xs.length) (fun i => xs.length - i) ?_
  conv => whnf
  refine ⟨⟨0, Nat.zero_le _, ?_⟩, ?_⟩
  · conv => whnf
    repeat' (first | exact trivial | exact rfl | refine And.intro ?_ ?_ | ((conv => whnf); first | exact trivial | exact rfl | refine And.intro ?_ ?_ | omega))
  intro i hi ρ1 t1 hρ1
  conv => whnf
  refine ⟨fun hc => ?_, fun hc => ?_⟩
  · have h : i < xs.length := by simpa using hc
    conv => whnf
    refine ⟨i, rfl, h, h, ?_⟩
    conv => whnf
    refine ⟨i, rfl, h, h, ?_⟩
    conv => whnf
    refine ⟨fun hc => ?_, fun hc => ?_⟩
    · exact absurd hc (by simp)
    conv => whnf
    refine ⟨_, wrapId ⟨by omega, by omega⟩, ?_⟩
    refine ⟨i + 1, h, by show xs.length - (i + 1) < xs.length - i; omega, ?_⟩
    conv => whnf
    refine ⟨rfl, ?_⟩
    conv => whnf
    repeat' (first | exact trivial | exact rfl | refine And.intro ?_ ?_ | ((conv => whnf); first | exact trivial | exact rfl | refine And.intro ?_ ?_ | omega))
  · conv => whnf
    repeat' (first | exact trivial | exact rfl | refine And.intro ?_ ?_ | ((conv => whnf); first | exact trivial | exact rfl | refine And.intro ?_ ?_ | omega))

theorem linksNil_t : Triple Try.prog 46 [.c (.v (.slice none 0 0)), .c (.v (.slice none 0 0))] [] 0 (bv true) [] := by
  refine triple_of tB_ok Try.func46 rfl Try.call46 rfl ?_
  intro ρ w hH
  conv => whnf
  refine ⟨fun hc => ?_, fun hc => ?_⟩
  · simp at hc
  conv => whnf
  refine loop_step tB_ok (G := Unit) 0 [] (fun i => [(5, iv .i64 0)]) (fun _ => []) (fun i => True) (fun i => 0) ?_
  conv => whnf
  refine ⟨⟨(), trivial, ?_⟩, ?_⟩
  · conv => whnf
    repeat' (first | exact trivial | exact rfl | refine And.intro ?_ ?_ | ((conv => whnf); first | exact trivial | exact rfl | refine And.intro ?_ ?_ | omega))
  intro _ _ ρ1 t1 hρ1
  conv => whnf
  refine ⟨fun hc => ?_, fun hc => ?_⟩
  · simp at hc
  · conv => whnf
    repeat' (first | exact trivial | exact rfl | refine And.intro ?_ ?_ | ((conv => whnf); first | exact trivial | exact rfl | refine And.intro ?_ ?_ | omega))


theorem systemChecks_t (bs : List (Int × Int)) (ls : List Lnk) : Triple Try.prog 7 [sysA bs.length ls.length] (sysH bs ls) 2 (bv true) [] := by
  refine triple_of tB_ok Try.func7 rfl Try.call7 rfl ?_
  intro ρ w hH
  conv => whnf
  refine call_step head_t rfl rfl ?_
  conv => whnf
  refine ⟨(by repeat' (first | exact trivial | exact rfl | refine And.intro ?_ ?_ | ((conv => whnf); first | exact trivial | exact rfl | refine And.intro ?_ ?_ | omega))), (by repeat' (first | exact trivial | exact rfl | refine And.intro ?_ ?_ | ((conv => whnf); first | exact trivial | exact rfl | refine And.intro ?_ ?_ | omega))), ?_⟩
  conv => whnf
  refine call_step (some_t bs ls) rfl rfl ?_
  conv => whnf
  refine ⟨(by repeat' (first | exact trivial | exact rfl | refine And.intro ?_ ?_ | ((conv => whnf); first | exact trivial | exact rfl | refine And.intro ?_ ?_ | omega))), (by repeat' (first | exact trivial | exact rfl | refine And.intro ?_ ?_ | ((conv => whnf); first | exact trivial | exact rfl | refine And.intro ?_ ?_ | omega))), ?_⟩
  conv => whnf
  refine ⟨fun hc => ?_, fun hc => ?_⟩
  · conv => whnf
    repeat' (first | exact trivial | exact rfl | refine And.intro ?_ ?_ | ((conv => whnf); first | exact trivial | exact rfl | refine And.intro ?_ ?_ | omega))
  have hc : (decide (bs.length ≤ 480) && decide (ls.length ≤ 2400)) = true := by simpa using (show (!(decide (bs.length ≤ 480) && decide (ls.length ≤ 2400))) = false from hc)
  simp only [Bool.and_eq_true, decide_eq_true_eq] at hc
  obtain ⟨hb, hl⟩ := hc
  by_cases h0 : checkF bs ls = 0
  · have hs := checkF_ok.1 h0
    conv => whnf
    refine call_step (Base_t bs ls hs) rfl rfl ?_
    conv => whnf
    refine ⟨(by repeat' (first | exact trivial | exact rfl | refine And.intro ?_ ?_ | ((conv => whnf); first | exact trivial | exact rfl | refine And.intro ?_ ?_ | omega))), (by repeat' (first | exact trivial | exact rfl | refine And.intro ?_ ?_ | ((conv => whnf); first | exact trivial | exact rfl | refine And.intro ?_ ?_ | omega))), ?_⟩
    conv => whnf
    refine call_step (refBase_t bs ls hs) rfl rfl ?_
    conv => whnf
    refine ⟨(by repeat' (first | exact trivial | exact rfl | refine And.intro ?_ ?_ | ((conv => whnf); first | exact trivial | exact rfl | refine And.intro ?_ ?_ | omega))), (by repeat' (first | exact trivial | exact rfl | refine And.intro ?_ ?_ | ((conv => whnf); first | exact trivial | exact rfl | refine And.intro ?_ ?_ | omega))), ?_⟩
    conv => whnf
    refine call_step (linksSame_t (boxLinks 0 bs) (by rw [boxLinks_length]; omega)) rfl rfl ?_
    conv => whnf
    refine ⟨(by repeat' (first | exact trivial | exact rfl | refine And.intro ?_ ?_ | ((conv => whnf); first | exact trivial | exact rfl | refine And.intro ?_ ?_ | omega))), (by repeat' (first | exact trivial | exact rfl | refine And.intro ?_ ?_ | ((conv => whnf); first | exact trivial | exact rfl | refine And.intro ?_ ?_ | omega))), ?_⟩
    conv => whnf
    refine ⟨fun hc => ?_, fun hc => ?_⟩
    · conv => whnf
      refine call_step (check_t bs ls (by omega) (by omega)) rfl rfl ?_
      conv => whnf
      refine ⟨(by repeat' (first | exact trivial | exact rfl | refine And.intro ?_ ?_ | ((conv => whnf); first | exact trivial | exact rfl | refine And.intro ?_ ?_ | omega))), (by repeat' (first | exact trivial | exact rfl | refine And.intro ?_ ?_ | ((conv => whnf); first | exact trivial | exact rfl | refine And.intro ?_ ?_ | omega))), ?_⟩
      conv => whnf
      refine call_step (refCheck_t bs ls (by omega) (by omega)) rfl rfl ?_
      conv => whnf
      refine ⟨(by repeat' (first | exact trivial | exact rfl | refine And.intro ?_ ?_ | ((conv => whnf); first | exact trivial | exact rfl | refine And.intro ?_ ?_ | omega))), (by repeat' (first | exact trivial | exact rfl | refine And.intro ?_ ?_ | ((conv => whnf); first | exact trivial | exact rfl | refine And.intro ?_ ?_ | omega))), ?_⟩
      conv => whnf
      refine ⟨fun hc => ?_, fun hc => ?_⟩
      · conv => whnf
        refine ⟨fun hc => ?_, fun hc => ?_⟩
        · conv => whnf
          repeat' (first | exact trivial | exact rfl | refine And.intro ?_ ?_ | ((conv => whnf); first | exact trivial | exact rfl | refine And.intro ?_ ?_ | omega))
        · exact absurd hc (by simp)
      · exact absurd hc (by simp)
    · exact absurd hc (by simp)
  · conv => whnf
    refine call_step (BaseErr_t bs ls (by omega) (by omega) h0) rfl rfl ?_
    conv => whnf
    refine ⟨(by repeat' (first | exact trivial | exact rfl | refine And.intro ?_ ?_ | ((conv => whnf); first | exact trivial | exact rfl | refine And.intro ?_ ?_ | omega))), (by repeat' (first | exact trivial | exact rfl | refine And.intro ?_ ?_ | ((conv => whnf); first | exact trivial | exact rfl | refine And.intro ?_ ?_ | omega))), ?_⟩
    conv => whnf
    refine call_step (refBaseErr_t bs ls (by omega) (by omega) h0) rfl rfl ?_
    conv => whnf
    refine ⟨(by repeat' (first | exact trivial | exact rfl | refine And.intro ?_ ?_ | ((conv => whnf); first | exact trivial | exact rfl | refine And.intro ?_ ?_ | omega))), (by repeat' (first | exact trivial | exact rfl | refine And.intro ?_ ?_ | ((conv => whnf); first | exact trivial | exact rfl | refine And.intro ?_ ?_ | omega))), ?_⟩
    conv => whnf
    refine call_step linksNil_t rfl rfl ?_
    conv => whnf
    refine ⟨(by repeat' (first | exact trivial | exact rfl | refine And.intro ?_ ?_ | ((conv => whnf); first | exact trivial | exact rfl | refine And.intro ?_ ?_ | omega))), (by repeat' (first | exact trivial | exact rfl | refine And.intro ?_ ?_ | ((conv => whnf); first | exact trivial | exact rfl | refine And.intro ?_ ?_ | omega))), ?_⟩
    conv => whnf
    refine ⟨fun hc => ?_, fun hc => ?_⟩
    · conv => whnf
      refine call_step (check_t bs ls (by omega) (by omega)) rfl rfl ?_
      conv => whnf
      refine ⟨(by repeat' (first | exact trivial | exact rfl | refine And.intro ?_ ?_ | ((conv => whnf); first | exact trivial | exact rfl | refine And.intro ?_ ?_ | omega))), (by repeat' (first | exact trivial | exact rfl | refine And.intro ?_ ?_ | ((conv => whnf); first | exact trivial | exact rfl | refine And.intro ?_ ?_ | omega))), ?_⟩
      conv => whnf
      refine call_step (refCheck_t bs ls (by omega) (by omega)) rfl rfl ?_
      conv => whnf
      refine ⟨(by repeat' (first | exact trivial | exact rfl | refine And.intro ?_ ?_ | ((conv => whnf); first | exact trivial | exact rfl | refine And.intro ?_ ?_ | omega))), (by repeat' (first | exact trivial | exact rfl | refine And.intro ?_ ?_ | ((conv => whnf); first | exact trivial | exact rfl | refine And.intro ?_ ?_ | omega))), ?_⟩
      conv => whnf
      refine ⟨fun hc => ?_, fun hc => ?_⟩
      · conv => whnf
        refine ⟨fun hc => ?_, fun hc => ?_⟩
        · conv => whnf
          repeat' (first | exact trivial | exact rfl | refine And.intro ?_ ?_ | ((conv => whnf); first | exact trivial | exact rfl | refine And.intro ?_ ?_ | omega))
        · exact absurd hc (by simp)
      · exact absurd hc (by simp)
    · exact absurd hc (by simp)

end Go.Proofs

