/-
  A part of the proof that a law of dryweightlaw03 answers true: lemmas of a symbolic walk, plain functions, or contracts of the functions walked (Wh, Wi, Wj, Wk, Wl, Pm5, Pm6, Pm7, X1, Pm8). Conditions: none.
-/
import Derived.Test.YtjjfadfmdodmnaaPart15
import Derived.Test.YtjjfadfmdodmnaaPart09
set_option maxRecDepth 100000
set_option linter.unusedVariables false
set_option linter.unusedSimpArgs false
namespace Go.Proofs
open Go.Sx

theorem Best_t (bs : List (Int × Int)) (ls : List Lnk) (form : List (Int × Int)) (fuel : Nat) (v : Int) (us : List (Lnk × Int)) (pt by' : List Int) (hs : SysOK bs ls)
    (hfl : form.length ≤ 1000) (hF : formF form bs.length = 0) (hfb : FormB bs.length 1 form) (hby : by' = coefF 1 form (List.replicate bs.length 0))
    (hbl : by'.length = bs.length) (hbb : ∀ x ∈ by', -4503599627370496 ≤ x ∧ x ≤ 4503599627370496) (hB : bestF bs.length (graphF bs ls 0) fuel by' = some (v, us, pt)) :
    Triple Try.prog 28 [.c (.p 0 0 0 0), .c (.s 3 0 form.length 2)] ((3, false, .arr (aSpan form)) :: netH bs ls) 4
      (.tup [.inr [.v (.int .i64 v), .s 4 0 us.length 5, .s 5 0 pt.length 1], .inl (.v (.int .i64 0))]) [(4, true, .arr (aUse us)), (5, true, .arr (aInt pt))] := by
  refine triple_of tB_ok Try.func28 rfl Try.call28 rfl ?_
  intro ρ w hH
  conv => whnf
  have hnb := hs.nb
  refine call_step (formed_t form bs.length (by omega) (by omega)) rfl rfl ?_
  conv => whnf
  refine ⟨(by repeat' (first | exact trivial | exact rfl | refine And.intro ?_ ?_ | ((conv => whnf); first | exact trivial | exact rfl | refine And.intro ?_ ?_ | omega))), (by repeat' (first | exact trivial | exact rfl | refine And.intro ?_ ?_ | ((conv => whnf); first | exact trivial | exact rfl | refine And.intro ?_ ?_ | omega))), ?_⟩
  conv => whnf
  rw [hF]
  refine ⟨fun hc => ?_, fun hc => ?_⟩
  · cases hc
  have hco := coef_nil_t bs.length form 1 0 (by omega) hfl hfb
  rw [← hby] at hco
  conv => whnf
  refine call_step hco rfl rfl ?_
  conv => whnf
  refine ⟨(by repeat' (first | exact trivial | exact rfl | refine And.intro ?_ ?_ | ((conv => whnf); first | exact trivial | exact rfl | refine And.intro ?_ ?_ | omega))), (by repeat' (first | exact trivial | exact rfl | refine And.intro ?_ ?_ | ((conv => whnf); first | exact trivial | exact rfl | refine And.intro ?_ ?_ | omega))), ?_⟩
  conv => whnf
  refine call_step (best_t bs ls by' fuel v us pt hs hbl hbb hB) rfl rfl ?_
  conv => whnf
  refine ⟨(by repeat' (first | exact trivial | exact rfl | refine And.intro ?_ ?_ | ((conv => whnf); first | exact trivial | exact rfl | refine And.intro ?_ ?_ | omega))), (by repeat' (first | exact trivial | exact rfl | refine And.intro ?_ ?_ | ((conv => whnf); first | exact trivial | exact rfl | refine And.intro ?_ ?_ | omega))), ?_⟩
  conv => whnf
  repeat' (first | exact trivial | exact rfl | refine And.intro ?_ ?_ | ((conv => whnf); first | exact trivial | exact rfl | refine And.intro ?_ ?_ | omega))

end Go.Proofs

namespace Go.Proofs
open Go.Sx

def exB : List (Int × Int) := [(0, 10), (0, 10)]
def exL : List Lnk := [⟨0, 1, 3, 7⟩, ⟨1, 0, -1, 8⟩]

theorem Example_t : Triple Try.prog 78 [] [] 0 (.agg [.s 0 0 2 2, .s 1 0 2 4]) [(0, true, .arr (aSpan exB)), (1, true, .arr (aLink exL))] := by
  refine triple_of tB_ok Try.func78 rfl Try.call78 rfl ?_
  intro ρ w hH
  conv => whnf
  refine bs_step tB_ok (aSpan exB) rfl rfl ?_
  conv => whnf
  refine ⟨(by repeat' (first | exact trivial | exact rfl | refine And.intro ?_ ?_ | ((conv => whnf); first | exact trivial | exact rfl | refine And.intro ?_ ?_ | omega))), ?_⟩
  conv => whnf
  refine bs_step tB_ok (aLink exL) rfl rfl ?_
  conv => whnf
  refine ⟨(by repeat' (first | exact trivial | exact rfl | refine And.intro ?_ ?_ | ((conv => whnf); first | exact trivial | exact rfl | refine And.intro ?_ ?_ | omega))), ?_⟩
  conv => whnf
  repeat' (first | exact trivial | exact rfl | refine And.intro ?_ ?_ | ((conv => whnf); first | exact trivial | exact rfl | refine And.intro ?_ ?_ | omega))

theorem ex_ok : SysOK exB exL := checkF_ok.1 (by decide)
theorem ex_calm : Calm exB exL 0 := by unfold Calm; decide
theorem ex_ids : idsF exL = [7, 8] := by
  unfold idsF
  have h : idsP exL = [7, 8] := by decide
  rw [h]
  have hs : sortI [7, 8] = [7, 8] := List.mergeSort_of_pairwise (by simp)
  rw [hs]
  decide
theorem ex_needs : (idsF exL).filter (fun id => !decide (mostF exB.length (graphF exB exL id) 0 1 ≤ mostF exB.length (graphF exB exL 0) 0 1)) = [7] := by
  rw [ex_ids]; decide


def exUs : List (Lnk × Int) := [(⟨-1, 1, 10, 0⟩, 2), (⟨1, 0, -1, 8⟩, 1)]
def exPt : List Int := [9, 10]
theorem ex_best : bestF exB.length (graphF exB exL 0) 50 [1, 1] = some (19, exUs, exPt) := by decide

theorem ex_range : mostF exB.length (graphF exB exL 0) 0 1 = 3 ∧ mostF exB.length (graphF exB exL 0) 1 0 = -1 := by decide

theorem ex_form : FormB exB.length 1 [(0, 1), (1, 1)] := by
  intro t ht
  simp at ht
  rcases ht with rfl | rfl <;> decide

theorem head_t : Triple Try.prog 19 [] [] 0 (bv true) [] := by
  refine triple_of tB_ok Try.func19 rfl Try.call19 rfl ?_
  intro ρ w hH
  conv => whnf
  refine call_step Example_t rfl rfl ?_
  conv => whnf
  refine ⟨(by repeat' (first | exact trivial | exact rfl | refine And.intro ?_ ?_ | ((conv => whnf); first | exact trivial | exact rfl | refine And.intro ?_ ?_ | omega))), (by repeat' (first | exact trivial | exact rfl | refine And.intro ?_ ?_ | ((conv => whnf); first | exact trivial | exact rfl | refine And.intro ?_ ?_ | omega))), ?_⟩
  conv => whnf
  refine call_step (newNone_t exB exL ex_ok ex_calm) rfl rfl ?_
  conv => whnf
  refine ⟨(by repeat' (first | exact trivial | exact rfl | refine And.intro ?_ ?_ | ((conv => whnf); first | exact trivial | exact rfl | refine And.intro ?_ ?_ | omega))), (by repeat' (first | exact trivial | exact rfl | refine And.intro ?_ ?_ | ((conv => whnf); first | exact trivial | exact rfl | refine And.intro ?_ ?_ | omega))), ?_⟩
  conv => whnf
  refine ⟨fun hc => ?_, fun hc => ?_⟩
  · exact absurd hc (by decide)
  conv => whnf
  refine call_step (range_t exB exL 0 1 ex_ok (by decide) (by decide) (by decide) (by decide) 1 3 (by rw [ex_range.2]; rfl) ex_range.1.symm) rfl rfl ?_
  conv => whnf
  refine ⟨(by repeat' (first | exact trivial | exact rfl | refine And.intro ?_ ?_ | ((conv => whnf); first | exact trivial | exact rfl | refine And.intro ?_ ?_ | omega))), (by repeat' (first | exact trivial | exact rfl | refine And.intro ?_ ?_ | ((conv => whnf); first | exact trivial | exact rfl | refine And.intro ?_ ?_ | omega))), ?_⟩
  conv => whnf
  refine bs_step tB_ok (aSpan [(0, 1), (1, 1)]) rfl rfl ?_
  conv => whnf
  refine ⟨(by repeat' (first | exact trivial | exact rfl | refine And.intro ?_ ?_ | ((conv => whnf); first | exact trivial | exact rfl | refine And.intro ?_ ?_ | omega))), ?_⟩
  conv => whnf
  refine call_step (Best_t exB exL [(0, 1), (1, 1)] 50 19 exUs exPt [1, 1] ex_ok (by decide) (by decide) ex_form (by decide) (by decide) (by decide) ex_best) rfl rfl ?_
  conv => whnf
  refine ⟨(by repeat' (first | exact trivial | exact rfl | refine And.intro ?_ ?_ | ((conv => whnf); first | exact trivial | exact rfl | refine And.intro ?_ ?_ | omega))), (by repeat' (first | exact trivial | exact rfl | refine And.intro ?_ ?_ | ((conv => whnf); first | exact trivial | exact rfl | refine And.intro ?_ ?_ | omega))), ?_⟩
  conv => whnf
  have hne := needs_t exB exL 0 1 ex_ok (by decide) (by decide) (by decide) (by decide)
  rw [ex_needs] at hne
  refine call_step hne rfl rfl ?_
  conv => whnf
  refine ⟨(by repeat' (first | exact trivial | exact rfl | refine And.intro ?_ ?_ | ((conv => whnf); first | exact trivial | exact rfl | refine And.intro ?_ ?_ | omega))), (by repeat' (first | exact trivial | exact rfl | refine And.intro ?_ ?_ | ((conv => whnf); first | exact trivial | exact rfl | refine And.intro ?_ ?_ | omega))), ?_⟩
  conv => whnf
  refine ⟨fun hc => ?_, fun hc => ?_⟩
  · conv => whnf
    refine ⟨fun hc => ?_, fun hc => ?_⟩
    · conv => whnf
      refine ⟨fun hc => ?_, fun hc => ?_⟩
      · conv => whnf
        refine ⟨fun hc => ?_, fun hc => ?_⟩
        · conv => whnf
          refine ⟨fun hc => ?_, fun hc => ?_⟩
          · conv => whnf
            refine ⟨fun hc => ?_, fun hc => ?_⟩
            · conv => whnf
              refine ⟨0, rfl, by decide, (by decide : 0 < [(7 : Int)].length), ?_⟩
              conv => whnf
              repeat' (first | exact trivial | exact rfl | refine And.intro ?_ ?_ | ((conv => whnf); first | exact trivial | exact rfl | refine And.intro ?_ ?_ | omega))
            · exact absurd hc (by decide)
          · exact absurd hc (by decide)
        · exact absurd hc (by decide)
      · exact absurd hc (by decide)
    · exact absurd hc (by decide)
  · exact absurd hc (by decide)

end Go.Proofs

namespace Go.Proofs
open Go.Sx

theorem place_within (n : Nat) (p : Int) : placeF n p = withinF p (-1) ((n : Int) - 1) := by
  unfold placeF withinF
  congr 1
  exact decide_eq_decide.2 (by omega)

theorem linked_t (bs : List (Int × Int)) (ls : List Lnk) (l : Lnk) : Triple Try.prog 90 [sysA bs.length ls.length, svL l] (sysH bs ls) 2 (bv (properF l bs.length)) [] := by
  refine triple_of tB_ok Try.func90 rfl Try.call90 rfl ?_
  intro ρ w hH
  conv => whnf
  refine call_step (refPlace_t bs ls l.f) rfl rfl ?_
  conv => whnf
  refine ⟨(by repeat' (first | exact trivial | exact rfl | refine And.intro ?_ ?_ | ((conv => whnf); first | exact trivial | exact rfl | refine And.intro ?_ ?_ | omega))), (by repeat' (first | exact trivial | exact rfl | refine And.intro ?_ ?_ | ((conv => whnf); first | exact trivial | exact rfl | refine And.intro ?_ ?_ | omega))), ?_⟩
  conv => whnf
  refine ⟨fun hc => ?_, fun hc => ?_⟩
  · have h1 : placeF bs.length l.f = true := hc
    conv => whnf
    refine call_step (refPlace_t bs ls l.t) rfl rfl ?_
    conv => whnf
    refine ⟨(by repeat' (first | exact trivial | exact rfl | refine And.intro ?_ ?_ | ((conv => whnf); first | exact trivial | exact rfl | refine And.intro ?_ ?_ | omega))), (by repeat' (first | exact trivial | exact rfl | refine And.intro ?_ ?_ | ((conv => whnf); first | exact trivial | exact rfl | refine And.intro ?_ ?_ | omega))), ?_⟩
    conv => whnf
    refine ⟨fun hc => ?_, fun hc => ?_⟩
    · have h2 : placeF bs.length l.t = true := hc
      conv => whnf
      refine ⟨fun hc => ?_, fun hc => ?_⟩
      · have h3 : (l.f != l.t) = true := hc
        conv => whnf
        refine ⟨fun hc => ?_, fun hc => ?_⟩
        · have h4 : -33554432 ≤ l.m := of_decide_eq_true (show decide (-33554432 ≤ l.m) = true from hc)
          conv => whnf
          refine ⟨fun hc => ?_, fun hc => ?_⟩
          · have h5 : l.m ≤ 33554432 := of_decide_eq_true (show decide (l.m ≤ 33554432) = true from hc)
            conv => whnf
            refine ⟨fun hc => ?_, fun hc => ?_⟩
            · have h6 : 0 ≤ l.i := of_decide_eq_true (show decide (0 ≤ l.i) = true from hc)
              conv => whnf
              refine ⟨?_, trivial⟩
              show decide (l.i ≤ 1099511627776) = properF l bs.length
              rw [place_within] at h1 h2
              unfold properF
              rw [h3, h1, h2]
              simp [withinF, h4, h5, h6]
            · have h6 : ¬ 0 ≤ l.i := of_decide_eq_false (show decide (0 ≤ l.i) = false from hc)
              conv => whnf
              refine ⟨?_, trivial⟩
              show false = properF l bs.length
              simp [properF, withinF, h6]
          · have h5 : ¬ l.m ≤ 33554432 := of_decide_eq_false (show decide (l.m ≤ 33554432) = false from hc)
            conv => whnf
            refine ⟨?_, trivial⟩
            show false = properF l bs.length
            simp [properF, withinF, h5]
        · have h4 : ¬ -33554432 ≤ l.m := of_decide_eq_false (show decide (-33554432 ≤ l.m) = false from hc)
          conv => whnf
          refine ⟨?_, trivial⟩
          show false = properF l bs.length
          simp [properF, withinF, h4]
      · have h3 : (l.f != l.t) = false := hc
        conv => whnf
        refine ⟨?_, trivial⟩
        show false = properF l bs.length
        simp [properF, h3]
    · have h2 : placeF bs.length l.t = false := hc
      conv => whnf
      refine ⟨?_, trivial⟩
      show false = properF l bs.length
      rw [place_within] at h2
      simp [properF, h2]
  · have h1 : placeF bs.length l.f = false := hc
    conv => whnf
    refine ⟨?_, trivial⟩
    show false = properF l bs.length
    rw [place_within] at h1
    simp [properF, h1]


theorem refCheck_t (bs : List (Int × Int)) (ls : List Lnk) (hb : bs.length ≤ 1000000) (hl : ls.length ≤ 1000000) :
    Triple Try.prog 39 [sysA bs.length ls.length] (sysH bs ls) 2 (iv .i64 (checkF bs ls)) [] := by
  refine triple_of tB_ok Try.func39 rfl Try.call39 rfl ?_
  intro ρ w hH
  conv => whnf
  have limit : (240 < bs.length ∨ 1200 < ls.length) → checkF bs ls = 2 := fun h => by
    unfold checkF
    rw [if_pos (by rcases h with h | h <;> simp [h])]
  have bad : ¬ (240 < bs.length ∨ 1200 < ls.length) → (bs.all boxOKF = false ∨ ls.all (fun l => properF l bs.length) = false) → checkF bs ls = 1 := fun h h2 => by
    unfold checkF
    rw [if_neg (by simp; omega)]
    cases h3 : bs.all boxOKF
    · rfl
    · rcases h2 with h2 | h2
      · rw [h3] at h2; cases h2
      · simp [h2]
  refine ⟨fun hc => ?_, fun hc => ?_⟩
  · have h1 : 240 < bs.length := by simp at hc; omega
    conv => whnf
    exact ⟨(limit (.inl h1)).symm, trivial⟩
  have h1 : ¬ 240 < bs.length := by simp at hc; omega
  conv => whnf
  refine ⟨fun hc => ?_, fun hc => ?_⟩
  · have h2 : 1200 < ls.length := by simp at hc; omega
    conv => whnf
    exact ⟨(limit (.inr h2)).symm, trivial⟩
  have h2 : ¬ 1200 < ls.length := by simp at hc; omega
  have hlim : ¬ (240 < bs.length ∨ 1200 < ls.length) := by omega
  conv => whnf
  refine loop_step tB_ok (G := Nat) 0 [] (fun i => [(3, iv .i64 i)]) (fun i => []) (fun i => i ≤ bs.length ∧ (bs.take i).all boxOKF = true) (fun i => bs.length - i) ?_
  conv => whnf
  refine ⟨⟨0, ⟨Nat.zero_le _, rfl⟩, ?_⟩, ?_⟩
  · conv => whnf
    repeat' (first | exact trivial | exact rfl | refine And.intro ?_ ?_ | ((conv => whnf); first | exact trivial | exact rfl | refine And.intro ?_ ?_ | omega))
  intro i hi ρ1 t1 hρ1
  obtain ⟨hi, hall⟩ := hi
  conv => whnf
  refine ⟨fun hc => ?_, fun hc => ?_⟩
  · have hlt : i < bs.length := by simpa using hc
    have out : boxOKF bs[i] = false → checkF bs ls = 1 := fun h => bad hlim (.inl (by
      rw [← Bool.not_eq_true, List.all_eq_true]
      intro hh
      rw [hh _ (List.getElem_mem hlt)] at h; cases h))
    conv => whnf
    refine ⟨i, rfl, hlt, hlt, ?_⟩
    conv => whnf
    refine ⟨i, rfl, hlt, hlt, ?_⟩
    conv => whnf
    refine ⟨fun hc => ?_, fun hc => ?_⟩
    · have hb : bs[i].2 < bs[i].1 := by simpa using (show decide (bs[i].2 < bs[i].1) = true from hc)
      conv => whnf
      exact ⟨(out (by simp [boxOKF, hb])).symm, trivial⟩
    have hb1 : ¬ bs[i].2 < bs[i].1 := by simpa using (show decide (bs[i].2 < bs[i].1) = false from hc)
    conv => whnf
    refine ⟨i, rfl, hlt, hlt, ?_⟩
    conv => whnf
    refine ⟨fun hc => ?_, fun hc => ?_⟩
    · have hb : bs[i].1 < -16777216 := by simpa using (show decide (bs[i].1 < -16777216) = true from hc)
      conv => whnf
      exact ⟨(out (by simp [boxOKF, hb])).symm, trivial⟩
    have hb2 : ¬ bs[i].1 < -16777216 := by simpa using (show decide (bs[i].1 < -16777216) = false from hc)
    conv => whnf
    refine ⟨i, rfl, hlt, hlt, ?_⟩
    conv => whnf
    refine ⟨fun hc => ?_, fun hc => ?_⟩
    · have hb : 16777216 < bs[i].2 := by simpa using (show decide (16777216 < bs[i].2) = true from hc)
      conv => whnf
      exact ⟨(out (by simp [boxOKF, hb])).symm, trivial⟩
    have hb3 : ¬ 16777216 < bs[i].2 := by simpa using (show decide (16777216 < bs[i].2) = false from hc)
    conv => whnf
    refine ⟨_, wrapId ⟨by omega, by omega⟩, ?_⟩
    refine ⟨i + 1, ⟨by omega, ?_⟩, by show bs.length - (i + 1) < bs.length - i; omega, ?_⟩
    · rw [take_snoc (by omega), List.all_append, hall]
      simp [boxOKF]; omega
    conv => whnf
    refine ⟨rfl, ?_⟩
    conv => whnf
    repeat' (first | exact trivial | exact rfl | refine And.intro ?_ ?_ | ((conv => whnf); first | exact trivial | exact rfl | refine And.intro ?_ ?_ | omega))
  have hi2 : i = bs.length := by simp at hc; omega
  subst hi2
  rw [List.take_length] at hall
  conv => whnf
  refine loop_step tB_ok (G := Nat) 0 [] (fun i => [(4, iv .i64 i)]) (fun i => []) (fun i => i ≤ ls.length ∧ (ls.take i).all (fun l => properF l bs.length) = true) (fun i => ls.length - i) ?_
  conv => whnf
  refine ⟨⟨0, ⟨Nat.zero_le _, rfl⟩, ?_⟩, ?_⟩
  · conv => whnf
    repeat' (first | exact trivial | exact rfl | refine And.intro ?_ ?_ | ((conv => whnf); first | exact trivial | exact rfl | refine And.intro ?_ ?_ | omega))
  intro j hj ρ2 t2 hρ2
  obtain ⟨hj, hall2⟩ := hj
  conv => whnf
  refine ⟨fun hc => ?_, fun hc => ?_⟩
  · have hc : j < ls.length := by simpa using hc
    conv => whnf
    refine ⟨j, rfl, hc, hc, ?_⟩
    conv => whnf
    refine call_step (linked_t bs ls ls[j]) rfl rfl ?_
    conv => whnf
    refine ⟨(by repeat' (first | exact trivial | exact rfl | refine And.intro ?_ ?_ | ((conv => whnf); first | exact trivial | exact rfl | refine And.intro ?_ ?_ | omega))), (by repeat' (first | exact trivial | exact rfl | refine And.intro ?_ ?_ | ((conv => whnf); first | exact trivial | exact rfl | refine And.intro ?_ ?_ | omega))), ?_⟩
    conv => whnf
    refine ⟨fun hc => ?_, fun hc => ?_⟩
    · have hp : properF ls[j] bs.length = false := by simpa using (show (!properF ls[j] bs.length) = true from hc)
      conv => whnf
      refine ⟨(bad hlim (.inr ?_)).symm, trivial⟩
      rw [← Bool.not_eq_true, List.all_eq_true]
      intro hh
      have := hh _ (List.getElem_mem (by assumption))
      simp only [hp] at this; cases this
    have hp : properF ls[j] bs.length = true := by simpa using (show (!properF ls[j] bs.length) = false from hc)
    conv => whnf
    refine ⟨_, wrapId ⟨by omega, by omega⟩, ?_⟩
    refine ⟨j + 1, ⟨by omega, ?_⟩, by show ls.length - (j + 1) < ls.length - j; omega, ?_⟩
    · rw [take_snoc (by omega), List.all_append, hall2]
      simp [hp]
    conv => whnf
    refine ⟨rfl, ?_⟩
    conv => whnf
    repeat' (first | exact trivial | exact rfl | refine And.intro ?_ ?_ | ((conv => whnf); first | exact trivial | exact rfl | refine And.intro ?_ ?_ | omega))
  have hj2 : j = ls.length := by simp at hc; omega
  subst hj2
  rw [List.take_length] at hall2
  conv => whnf
  refine ⟨?_, trivial⟩
  show (0 : Int) = checkF bs ls
  unfold checkF
  rw [if_neg (by simp; omega), hall, hall2]
  rfl

end Go.Proofs

namespace Go.Proofs
open Go.Sx

theorem boxLinks_take {bs : List (Int × Int)} {i : Nat} (h : i < bs.length) : boxLinks 0 (bs.take (i + 1)) = (boxLinks 0 (bs.take i) ++ [⟨-1, i, bs[i].2, 0⟩]) ++ [⟨i, -1, -bs[i].1, 0⟩] := by
  rw [take_snoc h, boxLinks_append]
  have : 0 + (bs.take i).length = i := by simp; omega
  rw [this]
  simp [boxLinks]

theorem boxTake_len (bs : List (Int × Int)) (i : Nat) : (boxLinks 0 (bs.take i)).length ≤ 2 * bs.length := by
  rw [boxLinks_length, List.length_take]; omega

end Go.Proofs

namespace Go.Proofs
open Go.Sx

theorem app2 {α : Type} {zs : List α} {k : Nat} {b : α} (h : zs.length = k) : List.take k zs ++ List.take 1 (List.drop 0 [b]) = zs ++ [b] := by
  rw [List.take_of_length_le (Nat.le_of_eq h)]; rfl

theorem refbase_t (bs : List (Int × Int)) (ls : List Lnk) (hb : bs.length ≤ 1000) (hB : BoxB bs) :
    Triple Try.prog 102 [sysA bs.length ls.length] (sysH bs ls) 2 (.c (.s 2 0 (boxLinks 0 bs).length 4)) [(2, true, .arr (aLink (boxLinks 0 bs)))] := by
  refine triple_of tB_ok Try.func102 rfl Try.call102 rfl ?_
  intro ρ w hH
  conv => whnf
  have hbl := boxTake_len bs
  refine loop_step tB_ok (G := Nat × List Lnk) 1 [] (fun g => [(4, iv .i64 g.1), (3, .c (.s 3 0 g.2.length 4))]) (fun g => [(3, true, .arr (aLink g.2))]) (fun g => g.1 ≤ bs.length ∧ g.2 = boxLinks 0 (bs.take g.1)) (fun g => bs.length - g.1) ?_
  conv => whnf
  refine ⟨⟨(0, []), ⟨Nat.zero_le _, rfl⟩, ?_⟩, ?_⟩
  · conv => whnf
    repeat' (first | exact trivial | exact rfl | refine And.intro ?_ ?_ | ((conv => whnf); first | exact trivial | exact rfl | refine And.intro ?_ ?_ | omega))
  rintro ⟨i, xs⟩ ⟨hi, hxs⟩ ρ1 t1 hρ1
  have hi : i ≤ bs.length := hi
  have hxs : xs = boxLinks 0 (bs.take i) := hxs
  have hxl : xs.length ≤ 2 * bs.length := by rw [hxs]; exact hbl i
  dsimp only
  conv => whnf
  refine ⟨fun hc => ?_, fun hc => ?_⟩
  · have h : i < bs.length := by simpa using hc
    have hst := boxLinks_take h
    rw [← hxs] at hst
    conv => whnf
    refine ⟨i, rfl, h, h, ?_⟩
    conv => whnf
    refine bs_step tB_ok (aLink [⟨-1, i, bs[i].2, 0⟩]) rfl rfl ?_
    conv => whnf
    refine ⟨(by repeat' (first | exact trivial | exact rfl | refine And.intro ?_ ?_ | ((conv => whnf); first | exact trivial | exact rfl | refine And.intro ?_ ?_ | omega))), ?_⟩
    conv => whnf
    refine app_step tB_ok (aLink xs) [⟨-1, i, bs[i].2, 0⟩] (fun _ => rfl) rfl rfl rfl rfl ?_
    conv => whnf
    refine ⟨⟨rfl, rfl, Nat.le_refl _, Nat.le_refl _, by show (xs.length + 1) * 33 ≤ _; omega⟩, ?_⟩
    conv => whnf
    refine ⟨i, rfl, h, h, ?_⟩
    conv => whnf
    refine ⟨-bs[i].1, ?_, ?_⟩
    · have := (hB bs[i] (List.getElem_mem h)).1
      show IntKind.i64.wrap (0 - bs[i].1) = -bs[i].1
      rw [wrapId ⟨by omega, by omega⟩]; omega
    conv => whnf
    refine bs_step tB_ok (aLink [⟨i, -1, -bs[i].1, 0⟩]) rfl rfl ?_
    conv => whnf
    refine ⟨(by repeat' (first | exact trivial | exact rfl | refine And.intro ?_ ?_ | ((conv => whnf); first | exact trivial | exact rfl | refine And.intro ?_ ?_ | omega))), ?_⟩
    conv => whnf
    refine app_step tB_ok (aLink (xs ++ [⟨-1, i, bs[i].2, 0⟩])) [⟨i, -1, -bs[i].1, 0⟩] (fun _ => rfl) rfl rfl rfl rfl ?_
    conv => whnf
    refine ⟨⟨congrArg aLink app1, rfl, by show xs.length + 1 ≤ (xs ++ [_]).length; simp, Nat.le_refl _, by show (xs.length + 1 + 1) * 33 ≤ _; omega⟩, ?_⟩
    conv => whnf
    refine ⟨_, wrapId ⟨by omega, by omega⟩, ?_⟩
    refine ⟨(i + 1, (xs ++ [⟨-1, i, bs[i].2, 0⟩]) ++ [⟨i, -1, -bs[i].1, 0⟩]), ⟨h, hst.symm⟩, by show bs.length - (i + 1) < bs.length - i; omega, ?_⟩
    conv => whnf
    refine ⟨rfl, ?_⟩
    conv => whnf
    repeat' (first | exact trivial | exact rfl | refine And.intro ?_ ?_ | ((conv => whnf); first | exact trivial | exact rfl | refine And.intro ?_ ?_ | omega))
    · simp
    · have e2 : (xs ++ [(⟨-1, i, bs[i].2, 0⟩ : Lnk)]).length = xs.length + 1 := by simp
      exact congrArg aLink (app2 e2)
  have hie : i = bs.length := by simp at hc; omega
  rw [hie, List.take_length] at hxs
  subst hxs
  conv => whnf
  repeat' (first | exact trivial | exact rfl | refine And.intro ?_ ?_ | ((conv => whnf); first | exact trivial | exact rfl | refine And.intro ?_ ?_ | omega))


end Go.Proofs

/-
  Plain lemmas, part 5: relaxing arcs until nothing changes. A clock tells when each place was changed last; if a place is changed in a late round, the arcs over which the places were reached last form a cycle, and its sum is negative. Conditions: none; definitions and plain lemmas.
-/
namespace Go
namespace Proofs

structure Edg where
  k : Int
  a : Nat
  b : Nat
  w : Int

def relE (T : Tr) (e : Edg) : Tr := relax e.k e.a e.b e.w T

def edgs (n : Nat) (rev : Nat → Bool) : Nat → List Lnk → List Edg
  | _, [] => []
  | i, l :: r => ⟨2 * i, plc n l.f, plc n l.t, l.m⟩ :: ((if rev i then [⟨2 * i + 1, plc n l.t, plc n l.f, -l.m⟩] else []) ++ edgs n rev (i + 1) r)

theorem passF_edgs (n : Nat) (rev : Nat → Bool) : ∀ (xs : List Lnk) (i : Nat) (T : Tr), passF n rev i xs T = (edgs n rev i xs).foldl relE T
  | [], _, _ => rfl
  | l :: r, i, T => by
    simp only [passF, edgs, List.foldl_cons, List.foldl_append]
    rw [passF_edgs n rev r]
    congr 1
    unfold arcF
    cases rev i <;> rfl

theorem getD_set {α : Type} {xs : List α} {b v : Nat} {x d : α} (h : b < xs.length) : (xs.set b x).getD v d = if v = b then x else xs.getD v d := by
  simp only [List.getD_eq_getElem?_getD, List.getElem?_set]
  by_cases hv : b = v
  · subst hv; simp [h]
  · rw [if_neg hv, if_neg (fun h => hv h.symm)]

/-- An arc that has nothing more to do. -/
def OKE (e : Edg) (T : Tr) : Prop := T.there.getD e.b false = true ∧ T.sum.getD e.b 0 ≤ T.sum.getD e.a 0 + e.w

structure BF (E : List Edg) (N src r j : Nat) (ts : Nat → Nat) (T : Tr) : Prop where
  ls : T.sum.length = N
  lt : T.there.length = N
  ll : T.last.length = N
  so : src < N ∧ T.there.getD src false = true ∧ T.sum.getD src 0 ≤ 0 ∧ (T.sum.getD src 0 < 0 ∨ T.last.getD src (-1) = -1)
  low : ∀ q : Nat → Int, (∀ e ∈ E, q e.b ≤ q e.a + e.w) → ∀ v, v < N → T.there.getD v false = true → q v ≤ q src + T.sum.getD v 0
  root : ∀ v, v < N → T.last.getD v (-1) = -1 → (T.there.getD v false = true → v = src) ∧ ts v = 0
  par : ∀ v, v < N → T.last.getD v (-1) ≠ -1 → T.there.getD v false = true ∧ 1 ≤ ts v ∧ ∃ e ∈ E, e.k = T.last.getD v (-1) ∧ e.b = v ∧ T.there.getD e.a false = true ∧
    ts v ≤ ts e.a + E.length ∧ (T.sum.getD e.a 0 + e.w < T.sum.getD v 0 ∨ (T.sum.getD e.a 0 + e.w = T.sum.getD v 0 ∧ ts e.a < ts v))
  done : ∀ i e, E[i]? = some e → T.there.getD e.a false = true → (i < j → ts e.a ≤ r * E.length + i → OKE e T) ∧ (j ≤ i → ts e.a + E.length ≤ r * E.length + i → OKE e T)
  tm : ∀ v, ts v ≤ r * E.length + j

def EOK (N : Nat) (E : List Edg) : Prop := ∀ e ∈ E, e.a < N ∧ e.b < N ∧ 0 ≤ e.k

def relC (e : Edg) (T : Tr) : Bool := T.there.getD e.a false && (!T.there.getD e.b false || decide (T.sum.getD e.a 0 + e.w < T.sum.getD e.b 0))

theorem relC_no {e : Edg} {T : Tr} (h : relC e T = false) (ha : T.there.getD e.a false = true) : OKE e T := by
  unfold relC at h
  rw [ha, Bool.true_and, Bool.or_eq_false_iff] at h
  refine ⟨by simpa using h.1, ?_⟩
  have := of_decide_eq_false h.2
  omega

theorem relE_no {e : Edg} {T : Tr} (h : relC e T = false) : relE T e = T := by
  unfold relE relax
  unfold relC at h
  rw [h]; simp

theorem relE_yes {e : Edg} {T : Tr} (h : relC e T = true) : relE T e = ⟨T.sum.set e.b (T.sum.getD e.a 0 + e.w), T.there.set e.b true, T.last.set e.b e.k, e.b⟩ := by
  unfold relE relax
  unfold relC at h
  rw [h]; simp

theorem relC_yes {e : Edg} {T : Tr} (h : relC e T = true) : T.there.getD e.a false = true ∧ (T.there.getD e.b false = true → T.sum.getD e.a 0 + e.w < T.sum.getD e.b 0) := by
  unfold relC at h
  rw [Bool.and_eq_true, Bool.or_eq_true] at h
  refine ⟨h.1, fun hb => ?_⟩
  rcases h.2 with h2 | h2
  · rw [hb] at h2; cases h2
  · exact of_decide_eq_true h2

theorem BF.step {E : List Edg} {N src r j : Nat} {ts : Nat → Nat} {T : Tr} {e : Edg} (h : BF E N src r j ts T) (hE : EOK N E) (he : E[j]? = some e) :
    (relC e T = false ∧ BF E N src r (j + 1) ts T) ∨
    (relC e T = true ∧ BF E N src r (j + 1) (fun v => if v = e.b then r * E.length + j + 1 else ts v) (relE T e)) := by
  have hm : e ∈ E := List.mem_of_getElem? he
  have hjl : j < E.length := (List.getElem?_eq_some_iff.1 he).1
  obtain ⟨ha, hb, hk⟩ := hE e hm
  cases hc : relC e T with
  | false =>
    refine .inl ⟨rfl, h.ls, h.lt, h.ll, h.so, h.low, h.root, h.par, fun i e' hi ht => ⟨fun h1 h2 => ?_, fun h1 h2 => (h.done i e' hi ht).2 (by omega) h2⟩, fun v => by have := h.tm v; omega⟩
    by_cases hij : i = j
    · subst hij
      rw [he] at hi
      obtain rfl := Option.some.inj hi
      exact relC_no hc ht
    · exact (h.done i e' hi ht).1 (by omega) h2
  | true =>
    refine .inr ⟨rfl, ?_⟩
    obtain ⟨hta, htb⟩ := relC_yes hc
    rw [relE_yes hc]
    have hS : ∀ v, (T.sum.set e.b (T.sum.getD e.a 0 + e.w)).getD v 0 = if v = e.b then T.sum.getD e.a 0 + e.w else T.sum.getD v 0 := fun v => getD_set (by rw [h.ls]; exact hb)
    have hT : ∀ v, (T.there.set e.b true).getD v false = if v = e.b then true else T.there.getD v false := fun v => getD_set (by rw [h.lt]; exact hb)
    have hL : ∀ v, (T.last.set e.b e.k).getD v (-1) = if v = e.b then e.k else T.last.getD v (-1) := fun v => getD_set (by rw [h.ll]; exact hb)
    have hT1 : ∀ v, T.there.getD v false = true → (T.there.set e.b true).getD v false = true := fun v hv => by
      rw [hT]; split
      · rfl
      · exact hv
    refine ⟨by simp [h.ls], by simp [h.lt], by simp [h.ll], ⟨h.so.1, hT1 _ h.so.2.1, ?_⟩, ?_, ?_, ?_, ?_, ?_⟩
    · simp only [hS, hL]
      by_cases hs : src = e.b
      · rw [if_pos hs, if_pos hs]
        have h1 := htb (hs ▸ h.so.2.1)
        have h2 := h.so.2.2.1
        rw [hs] at h2
        exact ⟨by omega, .inl (by omega)⟩
      · rw [if_neg hs, if_neg hs]; exact h.so.2.2
    · intro q hq v hv ht
      simp only [hS]
      by_cases hvb : v = e.b
      · rw [if_pos hvb]
        have h1 := h.low q hq e.a ha hta
        have h2 := hq e hm
        rw [hvb]; omega
      · rw [if_neg hvb]
        simp only [hT, if_neg hvb] at ht
        exact h.low q hq v hv ht
    · intro v hv hl
      simp only [hL] at hl
      by_cases hvb : v = e.b
      · rw [if_pos hvb] at hl; omega
      · rw [if_neg hvb] at hl
        simp only [hT, if_neg hvb]
        exact h.root v hv hl
    · intro v hv hl
      simp only [hL] at hl
      by_cases hvb : v = e.b
      · subst hvb
        simp only [if_pos]
        refine ⟨by simp only [hT, if_pos], by omega, e, hm, by simp only [hL, if_pos], rfl, hT1 _ hta, ?_, ?_⟩
        · by_cases hab : e.a = e.b
          · rw [if_pos hab]; omega
          · rw [if_neg hab]
            rcases Nat.lt_or_ge (r * E.length + j) (ts e.a + E.length) with h1 | h1
            · omega
            · have := (h.done j e he hta).2 (Nat.le_refl _) h1
              have := htb this.1
              have := this
              unfold OKE at *
              omega
        · simp only [hS, if_pos]
          by_cases hab : e.a = e.b
          · left
            rw [if_pos hab]
            have := htb (hab ▸ hta)
            rw [hab] at this ⊢
            omega
          · right
            rw [if_neg hab, if_neg hab]
            have := h.tm e.a
            exact ⟨rfl, by omega⟩
      · rw [if_neg hvb] at hl
        obtain ⟨h1, h2, e', he', h3, h4, h5, h6, h7⟩ := h.par v hv hl
        simp only [if_neg hvb]
        refine ⟨hT1 _ h1, h2, e', he', by simp only [hL, if_neg hvb]; exact h3, h4, hT1 _ h5, ?_, ?_⟩
        · by_cases hab : e'.a = e.b
          · rw [if_pos hab]
            have := h.tm v
            omega
          · rw [if_neg hab]; exact h6
        · simp only [hS, if_neg hvb]
          by_cases hab : e'.a = e.b
          · rw [if_pos hab]
            have := htb (hab ▸ h5)
            rw [hab] at h7
            left
            rcases h7 with h7 | h7 <;> omega
          · rw [if_neg hab, if_neg hab]; exact h7
    · intro i e' hi ht
      have hil : i < E.length := (List.getElem?_eq_some_iff.1 hi).1
      have hup : e'.a ≠ e.b → OKE e' T → OKE e' ⟨T.sum.set e.b (T.sum.getD e.a 0 + e.w), T.there.set e.b true, T.last.set e.b e.k, e.b⟩ := by
        intro hne ho
        refine ⟨hT1 _ ho.1, ?_⟩
        simp only [hS, if_neg hne]
        split
        · rename_i hbb
          have := htb (hbb ▸ ho.1)
          have := ho.2
          rw [hbb] at this
          omega
        · exact ho.2
      by_cases hab : e'.a = e.b
      · simp only [if_pos hab]
        exact ⟨fun h1 h2 => by omega, fun h1 h2 => by omega⟩
      · simp only [if_neg hab]
        have ht' : T.there.getD e'.a false = true := by
          simp only [hT, if_neg hab] at ht; exact ht
        have hd := h.done i e' hi ht'
        refine ⟨fun h1 h2 => ?_, fun h1 h2 => hup hab (hd.2 (by omega) h2)⟩
        by_cases hij : i = j
        · subst hij
          rw [he] at hi
          obtain rfl := Option.some.inj hi
          refine ⟨by simp only [hT, if_pos], ?_⟩
          simp only [hS, if_pos, if_neg hab]
          omega
        · exact hup hab (hd.1 (by omega) h2)
    · intro v
      have := h.tm v
      show (if v = e.b then r * E.length + j + 1 else ts v) ≤ _
      split <;> omega

/-- All arcs have nothing more to do. -/
def Fix (E : List Edg) (T : Tr) : Prop := ∀ e ∈ E, T.there.getD e.a false = true → OKE e T

theorem BF.fold {E : List Edg} {N src r : Nat} (hE : EOK N E) : ∀ (suf pre : List Edg) (ts : Nat → Nat) (T : Tr), E = pre ++ suf → BF E N src r pre.length ts T →
    ∃ ts', BF E N src r E.length ts' (suf.foldl relE T) ∧ ((suf.foldl relE T = T ∧ (∀ e ∈ suf, relC e T = false)) ∨ (∃ v, v < N ∧ (suf.foldl relE T).ch = ((v : Nat) : Int) ∧ r * E.length + 1 ≤ ts' v))
  | [], pre, ts, T, hp, h => ⟨ts, by rw [hp, List.append_nil] at *; exact h, .inl ⟨rfl, fun e he => by cases he⟩⟩
  | e :: suf, pre, ts, T, hp, h => by
    have he : E[pre.length]? = some e := by rw [hp]; simp
    have hm : e ∈ E := List.mem_of_getElem? he
    have hp2 : E = (pre ++ [e]) ++ suf := by rw [hp]; simp
    have hl2 : (pre ++ [e]).length = pre.length + 1 := by simp
    rw [List.foldl_cons]
    rcases h.step hE he with ⟨hc, hB⟩ | ⟨hc, hB⟩
    · rw [relE_no hc]
      rw [← hl2] at hB
      obtain ⟨ts', hB', hr⟩ := BF.fold hE suf (pre ++ [e]) ts T hp2 hB
      refine ⟨ts', hB', ?_⟩
      rcases hr with ⟨h1, h2⟩ | h1
      · refine .inl ⟨h1, fun x hx => ?_⟩
        rcases List.mem_cons.1 hx with rfl | hx
        · exact hc
        · exact h2 x hx
      · exact .inr h1
    · have key : ∀ (suf pre : List Edg) (ts : Nat → Nat) (T : Tr) (v : Nat), v < N → T.ch = (v : Int) → r * E.length + 1 ≤ ts v → E = pre ++ suf → BF E N src r pre.length ts T →
          ∃ ts', BF E N src r E.length ts' (suf.foldl relE T) ∧ (∃ v, v < N ∧ (suf.foldl relE T).ch = ((v : Nat) : Int) ∧ r * E.length + 1 ≤ ts' v) := by
        intro suf
        induction suf with
        | nil => intro pre ts T v hv hch hts hp h; exact ⟨ts, by rw [hp, List.append_nil] at *; exact h, v, hv, hch, hts⟩
        | cons e suf ih =>
          intro pre ts T v hv hch hts hp h
          have he : E[pre.length]? = some e := by rw [hp]; simp
          have hm : e ∈ E := List.mem_of_getElem? he
          have hp2 : E = (pre ++ [e]) ++ suf := by rw [hp]; simp
          have hl2 : (pre ++ [e]).length = pre.length + 1 := by simp
          rw [List.foldl_cons]
          rcases h.step hE he with ⟨hc, hB⟩ | ⟨hc, hB⟩
          · rw [relE_no hc]
            rw [← hl2] at hB
            exact ih _ _ _ v hv hch hts hp2 hB
          · rw [← hl2] at hB
            refine ih _ _ _ e.b (hE e hm).2.1 (by rw [relE_yes hc]) ?_ hp2 hB
            simp only [if_pos]; omega
      rw [← hl2] at hB
      obtain ⟨ts', hB', hr⟩ := key suf _ _ _ e.b (hE e hm).2.1 (by rw [relE_yes hc]) (by simp only [if_pos]; omega) hp2 hB
      exact ⟨ts', hB', .inr hr⟩

theorem BF.next {E : List Edg} {N src r : Nat} {ts : Nat → Nat} {T : Tr} (h : BF E N src r E.length ts T) : BF E N src (r + 1) 0 ts T := by
  refine ⟨h.ls, h.lt, h.ll, h.so, h.low, h.root, h.par, fun i e hi ht => ⟨fun h1 _ => by omega, fun _ h2 => (h.done i e hi ht).1 (List.getElem?_eq_some_iff.1 hi).1 ?_⟩, fun v => ?_⟩
  · rw [Nat.add_mul] at h2; omega
  · have := h.tm v
    rw [Nat.add_mul]; omega

theorem BF.setCh {E : List Edg} {N src r j : Nat} {ts : Nat → Nat} {T : Tr} (h : BF E N src r j ts T) (c : Int) : BF E N src r j ts { T with ch := c } :=
  ⟨h.ls, h.lt, h.ll, h.so, h.low, h.root, h.par, h.done, h.tm⟩

theorem BF.start {E : List Edg} {n src : Nat} (hs : src ≤ n) : BF E (n + 1) src 0 0 (fun _ => 0) (startF n src) := by
  have hT : ∀ v, ((List.replicate (n + 1) false).set src true).getD v false = true → v = src := by
    intro v hv
    rw [getD_set (by simp; omega)] at hv
    split at hv
    · assumption
    · rw [List.getD_eq_getElem?_getD, List.getElem?_replicate] at hv
      split at hv <;> simp at hv
  have hlast : ∀ v, (List.replicate (n + 1) (-1 : Int)).getD v (-1) = -1 := by
    intro v
    rw [List.getD_eq_getElem?_getD, List.getElem?_replicate]
    split <;> rfl
  have h0 : ∀ v, (List.replicate (n + 1) (0 : Int)).getD v 0 = 0 := by
    intro v
    rw [List.getD_eq_getElem?_getD, List.getElem?_replicate]
    split <;> rfl
  refine ⟨by simp [startF], by simp [startF], by simp [startF], ⟨by omega, ?_, ?_, .inr (hlast src)⟩, ?_, ?_, ?_, ?_, ?_⟩
  · simp only [startF]
    rw [getD_set (by simp; omega), if_pos rfl]
  · simp only [startF, h0]; exact Int.le_refl _
  · intro q _ v _ ht
    have := hT v ht
    simp only [startF, h0]
    rw [this]; omega
  · intro v _ _
    exact ⟨hT v, rfl⟩
  · intro v _ h
    exact absurd (hlast v) h
  · intro i e hi ht
    have := (List.getElem?_eq_some_iff.1 hi).1
    exact ⟨fun h => by omega, fun _ h => by omega⟩
  · intro v; exact Nat.zero_le _

/-- What relaxing in rounds comes to: nothing changes any more, or a place was changed in the last round. -/
theorem BF.rounds {n : Nat} {rev : Nat → Bool} {arcs : List Lnk} {E : List Edg} {N src : Nat} (hEd : E = edgs n rev 0 arcs) (hE : EOK N E) : ∀ (k r : Nat) (ts : Nat → Nat) (T : Tr), BF E N src r 0 ts T →
    ∃ ts' r', BF E N src r' 0 ts' (roundsF n rev arcs k T).1 ∧ (((roundsF n rev arcs k T).2 = -1 ∧ Fix E (roundsF n rev arcs k T).1) ∨
      (∃ v, v < N ∧ (roundsF n rev arcs k T).2 = ((v : Nat) : Int) ∧ (r + k) * E.length + 1 ≤ ts' v)) := by
  have pass : ∀ (r : Nat) (ts : Nat → Nat) (T : Tr), BF E N src r 0 ts T → ∃ ts', BF E N src (r + 1) 0 ts' (passF n rev 0 arcs { T with ch := -1 }) ∧
      (((passF n rev 0 arcs { T with ch := -1 }).ch = -1 ∧ Fix E (passF n rev 0 arcs { T with ch := -1 })) ∨ (∃ v, v < N ∧ (passF n rev 0 arcs { T with ch := -1 }).ch = ((v : Nat) : Int) ∧ r * E.length + 1 ≤ ts' v)) := by
    intro r ts T h
    rw [passF_edgs, ← hEd]
    obtain ⟨ts', hB, hr⟩ := BF.fold hE E [] ts _ rfl (h.setCh (-1))
    refine ⟨ts', hB.next, ?_⟩
    rcases hr with ⟨h1, h2⟩ | h1
    · rw [h1]
      exact .inl ⟨rfl, fun e he ht => relC_no (h2 e he) ht⟩
    · exact .inr h1
  intro k
  induction k with
  | zero =>
    intro r ts T h
    obtain ⟨ts', hB, hr⟩ := pass r ts T h
    exact ⟨ts', r + 1, hB, hr⟩
  | succ k ih =>
    intro r ts T h
    obtain ⟨ts', hB, hr⟩ := pass r ts T h
    by_cases hd : (passF n rev 0 arcs { T with ch := -1 }).ch = -1
    · rw [roundsF_done hd]
      rcases hr with hr | ⟨v, _, hv, _⟩
      · exact ⟨ts', r + 1, hB, .inl ⟨rfl, hr.2⟩⟩
      · rw [hd] at hv; omega
    · rw [roundsF_next hd]
      obtain ⟨ts2, r2, hB2, hr2⟩ := ih (r + 1) ts' _ hB
      refine ⟨ts2, r2, hB2, ?_⟩
      rw [show r + (k + 1) = r + 1 + k from by omega]
      exact hr2

theorem pigeon : ∀ (N : Nat) (f : Nat → Nat), (∀ i, i ≤ N → f i < N) → ∃ i j, i < j ∧ j ≤ N ∧ f i = f j
  | 0, f, h => by have := h 0 (Nat.le_refl _); omega
  | N + 1, f, h => by
    by_cases hx : ∃ i, i < N + 1 ∧ f i = f (N + 1)
    · obtain ⟨i, hi, he⟩ := hx
      exact ⟨i, N + 1, hi, Nat.le_refl _, he⟩
    · have hne : ∀ i, i < N + 1 → f i ≠ f (N + 1) := fun i hi he => hx ⟨i, hi, he⟩
      obtain ⟨i, j, hij, hj, he⟩ := pigeon N (fun i => if f i = N then f (N + 1) else f i) (fun i hi => by
        show (if f i = N then f (N + 1) else f i) < N
        have h1 := h i (by omega)
        have h2 := h (N + 1) (Nat.le_refl _)
        have h3 := hne i (by omega)
        split <;> omega)
      refine ⟨i, j, hij, by omega, ?_⟩
      have h1 := hne i (by omega)
      have h2 := hne j (by omega)
      have he : (if f i = N then f (N + 1) else f i) = (if f j = N then f (N + 1) else f j) := he
      split at he <;> split at he <;> omega

/-- Going back over the arcs by which the places were reached. -/
def backF (G : Int → Edg) (T : Tr) (v : Nat) : Nat := (G (T.last.getD v (-1))).a
def backN (G : Int → Edg) (T : Tr) (v : Nat) : Nat → Nat
  | 0 => v
  | j + 1 => backF G T (backN G T v j)

theorem BF.back {E : List Edg} {N src r j : Nat} {ts : Nat → Nat} {T : Tr} {G : Int → Edg} (h : BF E N src r j ts T) (hG : ∀ e ∈ E, G e.k = e) {v : Nat} (hv : v < N) (hl : T.last.getD v (-1) ≠ -1) :
    G (T.last.getD v (-1)) ∈ E ∧ (G (T.last.getD v (-1))).k = T.last.getD v (-1) ∧ (G (T.last.getD v (-1))).b = v ∧ T.there.getD (backF G T v) false = true ∧ ts v ≤ ts (backF G T v) + E.length ∧
      (T.sum.getD (backF G T v) 0 + (G (T.last.getD v (-1))).w < T.sum.getD v 0 ∨ (T.sum.getD (backF G T v) 0 + (G (T.last.getD v (-1))).w = T.sum.getD v 0 ∧ ts (backF G T v) < ts v)) := by
  obtain ⟨h1, h2, e, he, h3, h4, h5, h6, h7⟩ := h.par v hv hl
  unfold backF
  rw [← h3, hG e he]
  exact ⟨he, rfl, h4, h5, h6, h7⟩

theorem BF.last_ne {E : List Edg} {N src r j : Nat} {ts : Nat → Nat} {T : Tr} (h : BF E N src r j ts T) {v : Nat} (hv : v < N) (ht : 1 ≤ ts v) : T.last.getD v (-1) ≠ -1 := fun hl => by
  have := (h.root v hv hl).2
  omega

theorem BF.chain {E : List Edg} {N src r j : Nat} {ts : Nat → Nat} {T : Tr} {G : Int → Edg} (h : BF E N src r j ts T) (hE : EOK N E) (hG : ∀ e ∈ E, G e.k = e) {v R : Nat} (hv : v < N) (ht : R * E.length + 1 ≤ ts v) :
    ∀ m, m ≤ R → backN G T v m < N ∧ (R - m) * E.length + 1 ≤ ts (backN G T v m) ∧ T.last.getD (backN G T v m) (-1) ≠ -1 := by
  intro m
  induction m with
  | zero => intro _; exact ⟨hv, ht, h.last_ne hv (by show 1 ≤ ts v; omega)⟩
  | succ m ih =>
    intro hm
    obtain ⟨h1, h2, h3⟩ := ih (by omega)
    obtain ⟨g1, g2, g3, g4, g5, g6⟩ := h.back hG h1 h3
    have hn : backN G T v (m + 1) < N := (hE _ g1).1
    have e : (R - m) * E.length = (R - (m + 1)) * E.length + E.length := by
      rw [show R - m = (R - (m + 1)) + 1 from by omega, Nat.add_mul]; omega
    have ht2 : (R - (m + 1)) * E.length + 1 ≤ ts (backN G T v (m + 1)) := by
      show _ ≤ ts (backF G T (backN G T v m))
      omega
    exact ⟨hn, ht2, h.last_ne hn (by omega)⟩

/-- Along the way back, the sums less the weights fall, or the clock does. -/
theorem BF.fall {E : List Edg} {N src r j : Nat} {ts : Nat → Nat} {T : Tr} {G : Int → Edg} (h : BF E N src r j ts T) (hG : ∀ e ∈ E, G e.k = e) {v i m : Nat} {Q : Nat → Int} (hall : ∀ k, i ≤ k → k < i + m → backN G T v k < N ∧ T.last.getD (backN G T v k) (-1) ≠ -1)
    (hq : ∀ k, i ≤ k → k < i + m → Q k ≤ Q (k + 1) + (G (T.last.getD (backN G T v k) (-1))).w) (hm : 1 ≤ m) :
    T.sum.getD (backN G T v (i + m)) 0 - Q (i + m) < T.sum.getD (backN G T v i) 0 - Q i ∨
    (T.sum.getD (backN G T v (i + m)) 0 - Q (i + m) = T.sum.getD (backN G T v i) 0 - Q i ∧ ts (backN G T v (i + m)) < ts (backN G T v i)) := by
  induction m with
  | zero => omega
  | succ m ih =>
    obtain ⟨h1, h2⟩ := hall (i + m) (by omega) (by omega)
    obtain ⟨g1, g2, g3, g4, g5, g6⟩ := h.back hG h1 h2
    have hqq := hq (i + m) (by omega) (by omega)
    have e : backN G T v (i + (m + 1)) = backF G T (backN G T v (i + m)) := rfl
    rw [e]
    have e2 : Q (i + (m + 1)) = Q (i + m + 1) := rfl
    rw [e2]
    rcases Nat.eq_zero_or_pos m with rfl | hm
    · simp only [Nat.add_zero] at *
      rcases g6 with g6 | g6 <;> omega
    · have := ih (fun k hk1 hk2 => hall k hk1 (by omega)) (fun k hk1 hk2 => hq k hk1 (by omega)) hm
      rcases g6 with g6 | g6 <;> rcases this with this | this <;> omega

/-- Numbers that no arc contradicts. -/
def Pot (q : Nat → Int) (E : List Edg) : Prop := ∀ e ∈ E, q e.b ≤ q e.a + e.w

theorem BF.nopot {E : List Edg} {N src r j : Nat} {ts : Nat → Nat} {T : Tr} {G : Int → Edg} (h : BF E N src r j ts T) (hE : EOK N E) (hG : ∀ e ∈ E, G e.k = e) {v R : Nat} (hv : v < N) (ht : R * E.length + 1 ≤ ts v) (hR : N ≤ R)
    {q : Nat → Int} (hq : Pot q E) : False := by
  have hc := h.chain hE hG hv ht
  obtain ⟨i, k, hik, hk, he⟩ := pigeon N (backN G T v) (fun i hi => (hc i (by omega)).1)
  have := h.fall hG (v := v) (i := i) (m := k - i) (Q := fun x => q (backN G T v x)) (fun x hx1 hx2 => ⟨(hc x (by omega)).1, (hc x (by omega)).2.2⟩) (fun x hx1 hx2 => by
    obtain ⟨g1, g2, g3, g4, g5, g6⟩ := h.back hG (hc x (by omega)).1 (hc x (by omega)).2.2
    have := hq _ g1
    rw [g3] at this
    exact this) (by omega)
  rw [show i + (k - i) = k from by omega, he] at this
  omega

end Proofs
end Go

/-
  Plain lemmas, part 6: numbers that no arc contradicts, and what follows for relaxing. Conditions: none; definitions and plain lemmas.
-/
namespace Go
namespace Proofs

def keyE (n : Nat) (arcs : List Lnk) (k : Int) : Edg := match arcs[k.toNat / 2]? with
  | some l => if k.toNat % 2 = 0 then ⟨k, plc n l.f, plc n l.t, l.m⟩ else ⟨k, plc n l.t, plc n l.f, -l.m⟩
  | none => ⟨k, 0, 0, 0⟩

theorem edgs_mem {n : Nat} {rev : Nat → Bool} {e : Edg} : ∀ {xs : List Lnk} {i : Nat}, e ∈ edgs n rev i xs ↔
    ∃ j l, xs[j]? = some l ∧ (e = ⟨2 * ((i + j : Nat) : Int), plc n l.f, plc n l.t, l.m⟩ ∨ (rev (i + j) = true ∧ e = ⟨2 * ((i + j : Nat) : Int) + 1, plc n l.t, plc n l.f, -l.m⟩))
  | [], i => by simp [edgs]
  | x :: xs, i => by
    simp only [edgs, List.mem_cons, List.mem_append]
    rw [edgs_mem (xs := xs) (i := i + 1)]
    constructor
    · rintro (h | h | ⟨j, l, hj, h⟩)
      · exact ⟨0, x, rfl, .inl h⟩
      · cases hr : rev i with
        | false => rw [hr] at h; simp at h
        | true =>
          rw [hr] at h
          simp at h
          exact ⟨0, x, rfl, .inr ⟨hr, h⟩⟩
      · refine ⟨j + 1, l, by simpa using hj, ?_⟩
        rw [show i + (j + 1) = i + 1 + j from by omega]
        exact h
    · rintro ⟨j, l, hj, h⟩
      cases j with
      | zero =>
        simp at hj
        subst hj
        rcases h with h | ⟨hr, h⟩
        · exact .inl h
        · refine .inr (.inl ?_)
          have hr : rev i = true := hr
          rw [hr]; simp; exact h
      | succ j =>
        refine .inr (.inr ⟨j, l, by simpa using hj, ?_⟩)
        rw [show i + 1 + j = i + (j + 1) from by omega]
        exact h

theorem edgs_key {n : Nat} {rev : Nat → Bool} {arcs : List Lnk} : ∀ e ∈ edgs n rev 0 arcs, keyE n arcs e.k = e := by
  intro e he
  obtain ⟨j, l, hj, h | ⟨_, h⟩⟩ := edgs_mem.1 he
  · subst h
    unfold keyE
    have h1 : (2 * ((0 + j : Nat) : Int)).toNat = 2 * j := by omega
    simp only [h1]
    rw [show 2 * j / 2 = j from by omega, hj]
    simp only [show 2 * j % 2 = 0 from by omega, if_true]
  · subst h
    unfold keyE
    have h1 : (2 * ((0 + j : Nat) : Int) + 1).toNat = 2 * j + 1 := by omega
    simp only [h1]
    rw [show (2 * j + 1) / 2 = j from by omega, hj]
    simp only [show (2 * j + 1) % 2 = 1 from by omega]
    rfl

theorem edgs_ok {n : Nat} {rev : Nat → Bool} {arcs : List Lnk} (h : ∀ l ∈ arcs, ArcOK n l) : EOK (n + 1) (edgs n rev 0 arcs) := by
  intro e he
  obtain ⟨j, l, hj, h1⟩ := edgs_mem.1 he
  obtain ⟨h2, h3, h4⟩ := h l (List.mem_of_getElem? hj)
  have := plc_le h2.2
  have := plc_le h3.2
  rcases h1 with h1 | ⟨_, h1⟩ <;> subst h1 <;> refine ⟨?_, ?_, ?_⟩ <;> simp only <;> omega

/-- Numbers for the places that no link contradicts. -/
def PotL (n : Nat) (q : Nat → Int) (arcs : List Lnk) : Prop := ∀ l ∈ arcs, q (plc n l.t) ≤ q (plc n l.f) + l.m

abbrev noR : Nat → Bool := fun _ => false

theorem potL_iff {n : Nat} {q : Nat → Int} {arcs : List Lnk} : PotL n q arcs ↔ Pot q (edgs n noR 0 arcs) := by
  constructor
  · intro h e he
    obtain ⟨j, l, hj, h1 | ⟨h1, _⟩⟩ := edgs_mem.1 he
    · subst h1
      exact h l (List.mem_of_getElem? hj)
    · cases h1
  · intro h l hl
    obtain ⟨j, hj⟩ := List.getElem?_of_mem hl
    exact h _ (edgs_mem.2 ⟨j, l, hj, .inl rfl⟩)

/-- Relaxing ends where no arc contradicts some numbers. -/
theorem rounds_pot {n : Nat} {rev : Nat → Bool} {arcs : List Lnk} {q : Nat → Int} {src k : Nat} (hok : ∀ l ∈ arcs, ArcOK n l) (hq : Pot q (edgs n rev 0 arcs)) (hs : src ≤ n) (hk : n + 1 ≤ k) :
    (roundsF n rev arcs k (startF n src)).2 = -1 ∧ Fix (edgs n rev 0 arcs) (roundsF n rev arcs k (startF n src)).1 ∧ ∃ ts r, BF (edgs n rev 0 arcs) (n + 1) src r 0 ts (roundsF n rev arcs k (startF n src)).1 := by
  obtain ⟨ts, r, hB, hr⟩ := BF.rounds (n := n) (rev := rev) (arcs := arcs) rfl (edgs_ok (rev := rev) hok) k 0 _ _ (BF.start hs)
  rcases hr with hr | ⟨v, hv, _, ht⟩
  · exact ⟨hr.1, hr.2, ts, r, hB⟩
  · rw [Nat.zero_add] at ht
    exact (hB.nopot (edgs_ok hok) edgs_key hv ht hk hq).elim

theorem rounds_more {n : Nat} {rev : Nat → Bool} {arcs : List Lnk} : ∀ {k : Nat} {T : Tr}, (roundsF n rev arcs k T).2 = -1 → roundsF n rev arcs (k + 1) T = roundsF n rev arcs k T
  | 0, T, h => by
    have h : (passF n rev 0 arcs { T with ch := -1 }).ch = -1 := h
    rw [roundsF_done h, roundsF_done h]
  | k + 1, T, h => by
    by_cases hd : (passF n rev 0 arcs { T with ch := -1 }).ch = -1
    · rw [roundsF_done hd, roundsF_done hd]
    · rw [roundsF_next hd] at h
      rw [roundsF_next hd, roundsF_next (k := k) hd]
      exact rounds_more h

/-- What relaxing comes to where it ends: numbers that no arc contradicts, if all places are reached. -/
theorem rounds_fix {n : Nat} {rev : Nat → Bool} {arcs : List Lnk} {src k : Nat} (hok : ∀ l ∈ arcs, ArcOK n l) (hs : src ≤ n) (h : (roundsF n rev arcs k (startF n src)).2 = -1) :
    Fix (edgs n rev 0 arcs) (roundsF n rev arcs k (startF n src)).1 ∧ ∃ ts r, BF (edgs n rev 0 arcs) (n + 1) src r 0 ts (roundsF n rev arcs k (startF n src)).1 := by
  obtain ⟨ts, r, hB, hr⟩ := BF.rounds (n := n) (rev := rev) (arcs := arcs) rfl (edgs_ok (rev := rev) hok) k 0 _ _ (BF.start hs)
  rcases hr with hr | ⟨v, hv, he, ht⟩
  · exact ⟨hr.2, ts, r, hB⟩
  · rw [h] at he; omega

theorem fix_pot {E : List Edg} {T : Tr} (hf : Fix E T) (hall : ∀ e ∈ E, T.there.getD e.a false = true) : Pot (fun v => T.sum.getD v 0) E := fun e he => (hf e he (hall e he)).2

end Proofs
end Go

/-
  Plain lemmas, part 7: relaxing as the reference implementation does it, in one list, with a far number for what is not reached; it comes to the same. Conditions: none; definitions and plain lemmas.
-/
namespace Go
namespace Proofs

abbrev farI : Int := 1099511627776

def relO (l : Lnk) (o : List Int × Bool) : List Int × Bool :=
  if decide (o.1.getD (l.f + 1).toNat 0 < farI) && decide (o.1.getD (l.f + 1).toNat 0 + l.m < o.1.getD (l.t + 1).toNat 0) then (o.1.set (l.t + 1).toNat (o.1.getD (l.f + 1).toNat 0 + l.m), true) else o

def passO (arcs : List Lnk) (out : List Int) : List Int × Bool := arcs.foldl (fun o l => relO l o) (out, false)

def roundsO (arcs : List Lnk) : Nat → List Int → Option (List Int)
  | 0, _ => none
  | k + 1, out => if (passO arcs out).2 then roundsO arcs k (passO arcs out).1 else some (passO arcs out).1

def startO (n : Nat) (a : Int) : List Int := (List.replicate (n + 1) farI).set (a + 1).toNat 0

def fromF (n : Nat) (arcs : List Lnk) (a : Int) : Option (List Int) := roundsO arcs (n + 2) (startO n a)

/-- Where a place lies in the list: the origin first. -/
def ixO (n : Nat) (v : Nat) : Nat := if v = n then 0 else v + 1

theorem ixO_plc {n : Nat} {p : Int} (h : -1 ≤ p ∧ p < n) : ixO n (plc n p) = (p + 1).toNat := by
  unfold ixO plc
  by_cases hp : p < 0
  · rw [if_pos hp, if_pos rfl]; omega
  · rw [if_neg hp, if_neg (by omega)]; omega

theorem ixO_inj {n v w : Nat} (hv : v ≤ n) (hw : w ≤ n) (h : ixO n v = ixO n w) : v = w := by
  unfold ixO at h
  split at h <;> split at h <;> omega

theorem ixO_lt {n v : Nat} (hv : v ≤ n) : ixO n v < n + 1 := by
  unfold ixO; split <;> omega

def oV (T : Tr) (v : Nat) : Int := if T.there.getD v false = true then T.sum.getD v 0 else farI

structure RelOT (n : Nat) (out : List Int) (T : Tr) : Prop where
  len : out.length = n + 1
  val : ∀ v, v ≤ n → out.getD (ixO n v) 0 = oV T v

theorem RelOT.relax {n : Nat} {B : Int} {out : List Int} {c : Bool} {T : Tr} {l : Lnk} {k : Int} (h : RelOT n out T) (hc : c = true ↔ T.ch ≠ -1) (hl : ArcOK n l) (hT : Tok n B T) (hB : B + 33554432 < farI) :
    RelOT n (relO l (out, c)).1 (relE T ⟨k, plc n l.f, plc n l.t, l.m⟩) ∧ ((relO l (out, c)).2 = true ↔ (relE T ⟨k, plc n l.f, plc n l.t, l.m⟩).ch ≠ -1) := by
  obtain ⟨h1, h2, h3⟩ := hl
  have ha := plc_le h1.2
  have hb := plc_le h2.2
  have e1 : out.getD (l.f + 1).toNat 0 = oV T (plc n l.f) := by rw [← ixO_plc h1]; exact h.val _ ha
  have e2 : out.getD (l.t + 1).toNat 0 = oV T (plc n l.t) := by rw [← ixO_plc h2]; exact h.val _ hb
  have b1 := hT.bd _ (getD_mem (xs := T.sum) (a := plc n l.f) (by rw [hT.ls]; omega))
  have b2 := hT.bd _ (getD_mem (xs := T.sum) (a := plc n l.t) (by rw [hT.ls]; omega))
  have ec : (decide (out.getD (l.f + 1).toNat 0 < farI) && decide (out.getD (l.f + 1).toNat 0 + l.m < out.getD (l.t + 1).toNat 0)) = relC ⟨k, plc n l.f, plc n l.t, l.m⟩ T := by
    rw [e1, e2]
    unfold relC oV
    cases ht1 : T.there.getD (plc n l.f) false
    · simp
    · simp only [if_true, Bool.true_and]
      rw [decide_eq_true (p := T.sum.getD (plc n l.f) 0 < farI) (by omega), Bool.true_and]
      cases ht2 : T.there.getD (plc n l.t) false
      · simp only [Bool.false_eq_true, if_false, Bool.not_false, Bool.true_or, decide_eq_true_eq]
        omega
      · simp
  unfold relO
  cases hr : relC ⟨k, plc n l.f, plc n l.t, l.m⟩ T with
  | false =>
    rw [relE_no hr]
    simp only [ec, hr]
    exact ⟨h, hc⟩
  | true =>
    rw [relE_yes hr]
    simp only [ec, hr, if_true]
    refine ⟨⟨by simp [h.len], fun v hv => ?_⟩, by simp⟩
    have hlt : (l.t + 1).toNat < out.length := by rw [h.len, ← ixO_plc h2]; exact ixO_lt hb
    rw [getD_set hlt]
    unfold oV
    simp only
    rw [getD_set (by rw [hT.lt]; omega), getD_set (by rw [hT.ls]; omega)]
    by_cases hvb : v = plc n l.t
    · subst hvb
      rw [if_pos (ixO_plc h2), if_pos rfl, if_pos rfl, if_pos rfl, e1]
      have := (relC_yes hr).1
      have this : T.there.getD (plc n l.f) false = true := this
      unfold oV
      rw [if_pos this]
    · rw [if_neg (fun he => hvb (ixO_inj hv hb (he.trans (ixO_plc h2).symm))), if_neg hvb, if_neg hvb]
      exact h.val v hv

theorem RelOT.pass {n : Nat} : ∀ {arcs : List Lnk} {i : Nat} {B : Int} {out : List Int} {c : Bool} {T : Tr}, RelOT n out T → (c = true ↔ T.ch ≠ -1) → (∀ l ∈ arcs, ArcOK n l) → Tok n B T → B + 67108864 * (arcs.length : Int) < farI →
    RelOT n (arcs.foldl (fun o l => relO l o) (out, c)).1 (passF n noR i arcs T) ∧ ((arcs.foldl (fun o l => relO l o) (out, c)).2 = true ↔ (passF n noR i arcs T).ch ≠ -1)
  | [], _, _, _, _, _, h, hc, _, _, _ => ⟨h, hc⟩
  | l :: r, i, B, out, c, T, h, hc, hok, hT, hB => by
    simp only [List.length_cons] at hB
    have hl := hok l (List.mem_cons_self ..)
    have := h.relax (k := 2 * i) hc hl hT (by omega)
    simp only [List.foldl_cons, passF]
    have e : arcF n noR i l T = relE T ⟨2 * i, plc n l.f, plc n l.t, l.m⟩ := rfl
    rw [e]
    have hT2 : Tok n (B + 67108864) (relE T ⟨2 * i, plc n l.f, plc n l.t, l.m⟩) := by rw [← e]; exact hT.arc hl
    exact RelOT.pass (i := i + 1) this.1 this.2 (fun x hx => hok x (List.mem_cons_of_mem _ hx)) hT2 (by omega)

theorem RelOT.rounds {n : Nat} {arcs : List Lnk} (hok : ∀ l ∈ arcs, ArcOK n l) : ∀ (k : Nat) {B : Int} {out : List Int} {T : Tr}, RelOT n out T → Tok n B T → B + ((k + 1 : Nat) : Int) * (67108864 * (arcs.length : Int)) < farI →
    ((roundsF n noR arcs k T).2 = -1 → ∃ o, roundsO arcs (k + 1) out = some o ∧ RelOT n o (roundsF n noR arcs k T).1) ∧ ((roundsF n noR arcs k T).2 ≠ -1 → roundsO arcs (k + 1) out = none)
  | 0, B, out, T, h, hT, hB => by
    have hB' : B + 67108864 * (arcs.length : Int) < farI := by simpa using hB
    have := RelOT.pass (arcs := arcs) (i := 0) (c := false) (T := { T with ch := -1 }) ⟨h.len, h.val⟩ (by simp) hok (hT.ch (-1)) hB'
    unfold roundsO passO
    have e : roundsF n noR arcs 0 T = (passF n noR 0 arcs { T with ch := -1 }, (passF n noR 0 arcs { T with ch := -1 }).ch) := rfl
    rw [e]
    refine ⟨fun hc => ?_, fun hc => ?_⟩
    · rw [if_neg (fun hx => this.2.1 hx hc)]
      exact ⟨_, rfl, this.1⟩
    · rw [if_pos (this.2.2 hc)]; rfl
  | k + 1, B, out, T, h, hT, hB => by
    have hz : ((k + 1 + 1 : Nat) : Int) * (67108864 * (arcs.length : Int)) = 67108864 * (arcs.length : Int) + ((k + 1 : Nat) : Int) * (67108864 * (arcs.length : Int)) := by
      rw [show ((k + 1 + 1 : Nat) : Int) = 1 + ((k + 1 : Nat) : Int) by omega, Int.add_mul, Int.one_mul]
    have hp : 0 ≤ ((k + 1 : Nat) : Int) * (67108864 * (arcs.length : Int)) := Int.mul_nonneg (by omega) (by omega)
    have hB' : B + 67108864 * (arcs.length : Int) < farI := by rw [hz] at hB; omega
    have := RelOT.pass (arcs := arcs) (i := 0) (c := false) (T := { T with ch := -1 }) ⟨h.len, h.val⟩ (by simp) hok (hT.ch (-1)) hB'
    rw [roundsO, passO]
    by_cases hc : (passF n noR 0 arcs { T with ch := -1 }).ch = -1
    · rw [roundsF_done hc, if_neg (fun hx => this.2.1 hx hc)]
      exact ⟨fun _ => ⟨_, rfl, this.1⟩, fun h => absurd rfl h⟩
    · rw [roundsF_next hc, if_pos (this.2.2 hc)]
      exact RelOT.rounds hok k this.1 (Tok.pass hok (hT.ch (-1))) (by rw [hz] at hB; omega)

theorem RelOT.start {n : Nat} {a : Int} (ha : -1 ≤ a ∧ a < n) : RelOT n (startO n a) (startF n (plc n a)) := by
  have hle := plc_le ha.2
  refine ⟨by simp [startO], fun v hv => ?_⟩
  unfold startO oV startF
  simp only
  have hx : (a + 1).toNat < n + 1 := by omega
  rw [getD_set (by rw [List.length_replicate]; exact hx), getD_set (by rw [List.length_replicate]; omega)]
  by_cases hva : v = plc n a
  · subst hva
    rw [if_pos (ixO_plc ha), if_pos rfl, if_pos rfl]
    rw [List.getD_eq_getElem?_getD, List.getElem?_replicate]
    split <;> rfl
  · rw [if_neg (fun he => hva (ixO_inj hv hle (he.trans (ixO_plc ha).symm))), if_neg hva]
    have e1 : (List.replicate (n + 1) farI).getD (ixO n v) 0 = farI := by
      rw [List.getD_eq_getElem?_getD, List.getElem?_replicate, if_pos (ixO_lt hv)]; rfl
    have e2 : (List.replicate (n + 1) false).getD v false = false := by
      rw [List.getD_eq_getElem?_getD, List.getElem?_replicate, if_pos (by omega)]; rfl
    rw [e1, e2]; rfl

/-- What the reference implementation's relaxing comes to. -/
theorem fromF_some {n : Nat} {arcs : List Lnk} {a : Int} (hok : ∀ l ∈ arcs, ArcOK n l) (ha : -1 ≤ a ∧ a < n) (hB : ((n + 2 : Nat) : Int) * (67108864 * (arcs.length : Int)) < farI) :
    ((roundsF n noR arcs (n + 1) (startF n (plc n a))).2 = -1 → ∃ o, fromF n arcs a = some o ∧ RelOT n o (roundsF n noR arcs (n + 1) (startF n (plc n a))).1) ∧ ((roundsF n noR arcs (n + 1) (startF n (plc n a))).2 ≠ -1 → fromF n arcs a = none) :=
  RelOT.rounds hok (n + 1) (RelOT.start ha) (Tok.start n _) (by rw [Int.zero_add]; exact hB)

end Proofs
end Go

namespace Go.Proofs
open Go.Sx

def fewF (bs : List (Int × Int)) (ls : List Lnk) : Bool := decide (bs.length ≤ 14) && decide (ls.length ≤ 40)

theorem few_t (bs : List (Int × Int)) (ls : List Lnk) : Triple Try.prog 35 [sysA bs.length ls.length] (sysH bs ls) 2 (bv (fewF bs ls)) [] := by
  refine triple_of tB_ok Try.func35 rfl Try.call35 rfl ?_
  intro ρ w hH
  conv => whnf
  refine ⟨fun hc => ?_, fun hc => ?_⟩
  · have h1 : bs.length ≤ 14 := by have := of_decide_eq_true (show decide ((bs.length : Int) ≤ 14) = true from hc); omega
    conv => whnf
    refine ⟨?_, trivial⟩
    show decide ((ls.length : Int) ≤ 40) = (decide (bs.length ≤ 14) && decide (ls.length ≤ 40))
    rw [decide_eq_true h1, Bool.true_and]
    exact decide_eq_decide.2 (by omega)
  · have h1 : ¬ bs.length ≤ 14 := by have := of_decide_eq_false (show decide ((bs.length : Int) ≤ 14) = false from hc); omega
    conv => whnf
    refine ⟨?_, trivial⟩
    show false = (decide (bs.length ≤ 14) && decide (ls.length ≤ 40))
    rw [decide_eq_false h1, Bool.false_and]

theorem allF_len (bs : List (Int × Int)) (ls : List Lnk) : (allF bs ls).length = 2 * bs.length + ls.length := by
  rw [allF, List.length_append, boxLinks_length]

theorem refAll_t (bs : List (Int × Int)) (ls : List Lnk) (hb : bs.length ≤ 1000) (hB : BoxB bs) (hl : ls.length ≤ 100000) :
    Triple Try.prog 107 [sysA bs.length ls.length] (sysH bs ls) 2 (.c (.s 2 0 (allF bs ls).length 4)) [(2, true, .arr (aLink (allF bs ls)))] := by
  refine triple_of tB_ok Try.func107 rfl Try.call107 rfl ?_
  intro ρ w hH
  conv => whnf
  refine call_step (refbase_t bs ls hb hB) rfl rfl ?_
  conv => whnf
  refine ⟨(by repeat' (first | exact trivial | exact rfl | refine And.intro ?_ ?_ | ((conv => whnf); first | exact trivial | exact rfl | refine And.intro ?_ ?_ | omega))), (by repeat' (first | exact trivial | exact rfl | refine And.intro ?_ ?_ | ((conv => whnf); first | exact trivial | exact rfl | refine And.intro ?_ ?_ | omega))), ?_⟩
  conv => whnf
  refine app_step tB_ok (aLink (boxLinks 0 bs)) ls (fun _ => rfl) rfl rfl rfl rfl ?_
  conv => whnf
  have hbl := boxLinks_length bs 0
  refine ⟨⟨rfl, rfl, Nat.le_refl _, by rw [Nat.zero_add]; exact Nat.le_refl _, by show ((boxLinks 0 bs).length + ls.length) * 33 ≤ _; omega⟩, ?_⟩
  conv => whnf
  have e : (aLink (List.take (boxLinks 0 bs).length (boxLinks 0 bs) ++ List.take ls.length (List.drop 0 ls))) = aLink (allF bs ls) := congrArg aLink appAll
  repeat' (first | exact trivial | exact rfl | refine And.intro ?_ ?_ | ((conv => whnf); first | exact trivial | exact rfl | refine And.intro ?_ ?_ | omega))
  all_goals first | exact e | (show _ = (allF bs ls).length; rw [allF, List.length_append])

end Go.Proofs

/-
  Plain lemmas, part 8: sizes in the reference implementation's relaxing. Conditions: none; definitions and plain lemmas.
-/
namespace Go
namespace Proofs

structure OkO (n : Nat) (B : Int) (o : List Int) : Prop where
  len : o.length = n + 1
  bd : ∀ x ∈ o, -B ≤ x ∧ x ≤ farI

theorem OkO.mono {n : Nat} {B C : Int} {o : List Int} (h : OkO n B o) (hc : B ≤ C) : OkO n C o := ⟨h.len, fun x hx => by have := h.bd x hx; omega⟩

theorem OkO.rel {n : Nat} {B : Int} {o : List Int × Bool} {l : Lnk} (h : OkO n B o.1) (hl : ArcOK n l) : OkO n (B + 33554432) (relO l o).1 := by
  obtain ⟨h1, h2, h3⟩ := hl
  unfold relO
  split
  · rename_i hc
    simp only [Bool.and_eq_true, decide_eq_true_eq] at hc
    refine ⟨by simp [h.len], fun x hx => ?_⟩
    have ha : (l.f + 1).toNat < o.1.length := by rw [h.len]; omega
    have hb : (l.t + 1).toNat < o.1.length := by rw [h.len]; omega
    have b1 := h.bd _ (getD_mem ha)
    have b2 := h.bd _ (getD_mem hb)
    rcases List.mem_or_eq_of_mem_set hx with hx | hx
    · have := h.bd x hx; omega
    · omega
  · exact h.mono (by omega)

theorem OkO.fold {n : Nat} : ∀ {xs : List Lnk} {B : Int} {o : List Int × Bool}, (∀ l ∈ xs, ArcOK n l) → OkO n B o.1 → OkO n (B + 33554432 * (xs.length : Int)) (xs.foldl (fun o l => relO l o) o).1
  | [], B, o, _, h => by simpa using h
  | x :: xs, B, o, hl, h => by
    simp only [List.foldl_cons, List.length_cons]
    have := OkO.fold (xs := xs) (fun l hm => hl l (List.mem_cons_of_mem _ hm)) (h.rel (hl x (List.mem_cons_self ..)))
    exact this.mono (by omega)

theorem passO_snoc {xs : List Lnk} {i : Nat} {o : List Int × Bool} (h : i < xs.length) : (xs.take (i + 1)).foldl (fun o l => relO l o) o = relO xs[i] ((xs.take i).foldl (fun o l => relO l o) o) := by
  rw [take_snoc h, List.foldl_append]; rfl

theorem startO_ok (n : Nat) (a : Int) : OkO n 0 (startO n a) := by
  refine ⟨by simp [startO], fun x hx => ?_⟩
  have h : x = farI ∨ x = 0 := by
    rcases List.mem_or_eq_of_mem_set hx with hx | hx
    · exact .inl (List.mem_replicate.1 hx).2
    · exact .inr hx
  rcases h with h | h <;> subst h <;> exact ⟨by decide, by decide⟩

/-- Arcs that link the origin with each place, both ways. -/
def Hub (n : Nat) (arcs : List Lnk) : Prop := ∀ v, v < n → (∃ l ∈ arcs, plc n l.f = n ∧ plc n l.t = v) ∧ (∃ l ∈ arcs, plc n l.f = v ∧ plc n l.t = n)

theorem Hub.all {n : Nat} {rev : Nat → Bool} {arcs : List Lnk} {T : Tr} {src : Nat} (h : Hub n arcs) (hf : Fix (edgs n rev 0 arcs) T) (hs : src ≤ n) (hT : T.there.getD src false = true) : ∀ v, v ≤ n → T.there.getD v false = true := by
  have arc : ∀ l ∈ arcs, T.there.getD (plc n l.f) false = true → T.there.getD (plc n l.t) false = true := by
    intro l hl ht
    obtain ⟨j, hj⟩ := List.getElem?_of_mem hl
    exact (hf _ (edgs_mem.2 ⟨j, l, hj, .inl rfl⟩) ht).1
  have h0 : T.there.getD n false = true := by
    rcases Nat.lt_or_ge src n with hlt | hge
    · obtain ⟨_, l, hl, h1, h2⟩ := h src hlt
      have := arc l hl (by rw [h1]; exact hT)
      rwa [h2] at this
    · rwa [show src = n from by omega] at hT
  intro v hv
  rcases Nat.lt_or_ge v n with hlt | hge
  · obtain ⟨⟨l, hl, h1, h2⟩, _⟩ := h v hlt
    have := arc l hl (by rw [h1]; exact h0)
    rwa [h2] at this
  · rw [show v = n from by omega]; exact h0

/-- Where relaxing ends, the sums are numbers that no arc contradicts. -/
theorem rounds_hub {n : Nat} {rev : Nat → Bool} {arcs : List Lnk} {src k : Nat} (hok : ∀ l ∈ arcs, ArcOK n l) (hub : Hub n arcs) (hs : src ≤ n) (h : (roundsF n rev arcs k (startF n src)).2 = -1) :
    (∀ v, v ≤ n → (roundsF n rev arcs k (startF n src)).1.there.getD v false = true) ∧ Pot (fun v => (roundsF n rev arcs k (startF n src)).1.sum.getD v 0) (edgs n rev 0 arcs) := by
  obtain ⟨hf, ts, r, hB⟩ := rounds_fix hok hs h
  have hall := hub.all hf hs hB.so.2.1
  exact ⟨hall, fix_pot hf fun e he => hall _ (by have := (edgs_ok hok e he).1; omega)⟩

theorem from_calm {n : Nat} {arcs : List Lnk} {o : List Int} {a : Int} (hn : n ≤ 14) (hl : arcs.length ≤ 200) (hok : ∀ l ∈ arcs, ArcOK n l) (ha : -1 ≤ a ∧ a < n) (h : fromF n arcs a = some o) : (shortF n noR arcs (plc n a)).2 = -1 := by
  have hB : ((n + 2 : Nat) : Int) * (67108864 * (arcs.length : Int)) < farI := by
    have : ((n + 2 : Nat) : Int) * (67108864 * (arcs.length : Int)) ≤ 16 * (67108864 * 200) := Int.mul_le_mul (by omega) (by omega) (by omega) (by omega)
    show _ < (1099511627776 : Int)
    omega
  have hr : (roundsF n noR arcs (n + 1) (startF n (plc n a))).2 = -1 := by
    by_cases hc : (roundsF n noR arcs (n + 1) (startF n (plc n a))).2 = -1
    · exact hc
    · rw [(fromF_some hok ha hB).2 hc] at h; cases h
  have e : shortF n noR arcs (plc n a) = roundsF n noR arcs (n + 1) (startF n (plc n a)) := rounds_more hr
  rw [e]; exact hr

theorem replicate_snoc {α : Type} (n : Nat) (x : α) : List.replicate n x ++ [x] = List.replicate (n + 1) x := by
  rw [List.replicate_succ']

end Proofs
end Go

