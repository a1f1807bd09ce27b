/-
  A part of the proof that a law answers true: lemmas of a symbolic walk, plain functions, or contracts of the functions walked (RV, RT2, RF, RG, RH, RI, RW1, RX, RC, Rx, Ry, RY). Conditions: none.
-/
import Derived.Test.YtagedjfjcnemoaaGreatPart29
import Derived.Test.YtagedjfjcnemoaaGreatPart13
import Derived.Test.YtagedjfjcnemoaaGreatPart27
import Derived.Test.YtagedjfjcnemoaaGreatPart28
set_option maxRecDepth 100000
set_option linter.unusedVariables false
set_option linter.unusedSimpArgs false
namespace Go.Proofs
open Go.Sx

def turnL {α : Type} (z : Int) (l : List α) : List α := l.drop (z.toNat % l.length) ++ l.take (z.toNat % l.length)

theorem turnL_nil {α : Type} (z : Int) : turnL z ([] : List α) = [] := by simp [turnL]

theorem turnL_perm {α : Type} (z : Int) (l : List α) : (turnL z l).Perm l := by
  unfold turnL
  have := List.perm_append_comm (l₁ := l.drop (z.toNat % l.length)) (l₂ := l.take (z.toNat % l.length))
  rwa [List.take_append_drop] at this

theorem turnYBal_t (l : List Bal) (z : Int) (hz : 0 ≤ z ∧ z < 256) (hl : l.length ≤ 100000) (h0 : 0 < l.length) : Triple Tryz.prog 54 [.c (.s 0 0 l.length 6), iv .u8 z] [(0, false, .arr (aBal l))] 1 (.c (.s 1 0 (turnL z l).length 6)) [(1, true, .arr (aBal (turnL z l)))] := by
  obtain ⟨y, rfl⟩ : ∃ y : Nat, z = y := ⟨z.toNat, by omega⟩
  have hk : y % l.length < l.length := Nat.mod_lt _ h0
  have e : turnL (y : Int) l = l.drop (y % l.length) ++ l.take (y % l.length) := by unfold turnL; rw [Int.toNat_natCast]
  rw [e]
  refine triple_of tB_ok Tryz.func54 rfl Tryz.call54 rfl ?_
  intro ρ w hH
  conv=>whnf
  refine ⟨fun hc => absurd (show ((l.length : Int) == 0) = true from hc) (by simpa [List.length_pos_iff] using h0), fun hc => ?_⟩
  conv=>whnf
  refine ⟨(y : Int), wrapId ⟨by omega, by omega⟩, ?_⟩
  conv=>whnf
  refine ⟨by omega, ((y % l.length : Nat) : Int), rfl, ?_⟩
  generalize y % l.length = k at *
  conv=>whnf
  refine bs_step tB_ok (aBal []) rfl rfl ?_
  conv=>whnf
  refine ⟨⟨rfl, trivial⟩, ?_⟩
  conv=>whnf
  refine ⟨Nat.le_refl _, k, rfl, Nat.le_of_lt hk, ?_⟩
  conv=>whnf
  have hm := subN_eq l.length k
  generalize subN l.length k = m at *
  have hs := addN_eq 0 k
  generalize addN 0 k = s at *
  refine app_step tB_ok (aBal []) l (fun _ => rfl) rfl rfl rfl rfl ?_
  conv=>whnf
  refine ⟨⟨rfl, rfl, Nat.le_refl _, by show s + m ≤ l.length; omega, by show (0 + m) * 49 ≤ _; omega⟩, ?_⟩
  conv=>whnf
  refine ⟨k, rfl, Nat.le_of_lt hk, Nat.zero_le _, ?_⟩
  conv=>whnf
  have hm2 := subN_eq k 0
  generalize subN k 0 = m2 at *
  have hs2 := addN_eq 0 0
  generalize addN 0 0 = s2 at *
  have hD : (([] : List Bal).take 0 ++ (l.drop s).take m) = l.drop k := by rw [hs, hm, Nat.zero_add, List.take_of_length_le (l := l.drop k) (by rw [List.length_drop]; exact Nat.le_refl _)]; rfl
  have hDl : (([] : List Bal).take 0 ++ (l.drop s).take m).length = l.length - k := by rw [hD, List.length_drop]
  generalize hDd : (([] : List Bal).take 0 ++ (l.drop s).take m) = D at *
  refine app_step tB_ok (aBal D) l (fun _ => rfl) rfl rfl rfl rfl ?_
  conv=>whnf
  refine ⟨⟨congrArg aBal hDd, rfl, by show 0 + m ≤ D.length; omega, by show s2 + m2 ≤ l.length; omega, by show (0 + m + m2) * 49 ≤ _; omega⟩, ?_⟩
  have hE : D.take (0 + m) ++ (l.drop s2).take m2 = l.drop k ++ l.take k := by rw [hD, List.take_of_length_le (by rw [List.length_drop]; omega), hs2, hm2]; rfl
  conv=>whnf
  repeat' (first | exact trivial | exact rfl | refine And.intro ?_ ?_ | ((conv=>whnf); first | exact trivial | exact rfl | refine And.intro ?_ ?_ | omega))
  · show 0 + m + m2 = (l.drop k ++ l.take k).length
    rw [← hE, List.length_append, List.length_take, List.length_take, List.length_drop]; omega
  · exact congrArg aBal hE

theorem turnNBal_t (z : Int) : Triple Tryz.prog 54 [.c (.s 0 0 0 6), iv .u8 z] [(0, false, .arr (aBal []))] 1 (.c (.s 0 0 0 6)) [] := by
  refine triple_of tB_ok Tryz.func54 rfl Tryz.call54 rfl ?_
  intro ρ w hH
  conv=>whnf
  refine ⟨fun hc => ?_, fun hc => absurd hc (by simp)⟩
  conv=>whnf
  repeat' (first | exact trivial | exact rfl | refine And.intro ?_ ?_ | ((conv=>whnf); first | exact trivial | exact rfl | refine And.intro ?_ ?_ | omega))

theorem turnBal_t (l : List Bal) (z : Int) (hz : 0 ≤ z ∧ z < 256) (hl : l.length ≤ 100000) : TripleA Tryz.prog 54 (aBal l) (iv .u8 z) (turnL z l) := by
  cases l with
  | nil =>
    have key : ∀ R : List Bal, R = [] → TripleA Tryz.prog 54 (aBal []) (iv .u8 z) R := by
      rintro R rfl
      exact (turnNBal_t z).toA0 rfl
    exact key _ (turnL_nil z)
  | cons x r => exact (turnYBal_t (x :: r) z hz hl (by simp)).toA rfl
theorem turnYChk_t (l : List Chk) (z : Int) (hz : 0 ≤ z ∧ z < 256) (hl : l.length ≤ 100000) (h0 : 0 < l.length) : Triple Tryz.prog 55 [.c (.s 0 0 l.length 5), iv .u8 z] [(0, false, .arr (aChk l))] 1 (.c (.s 1 0 (turnL z l).length 5)) [(1, true, .arr (aChk (turnL z l)))] := by
  obtain ⟨y, rfl⟩ : ∃ y : Nat, z = y := ⟨z.toNat, by omega⟩
  have hk : y % l.length < l.length := Nat.mod_lt _ h0
  have e : turnL (y : Int) l = l.drop (y % l.length) ++ l.take (y % l.length) := by unfold turnL; rw [Int.toNat_natCast]
  rw [e]
  refine triple_of tB_ok Tryz.func55 rfl Tryz.call55 rfl ?_
  intro ρ w hH
  conv=>whnf
  refine ⟨fun hc => absurd (show ((l.length : Int) == 0) = true from hc) (by simpa [List.length_pos_iff] using h0), fun hc => ?_⟩
  conv=>whnf
  refine ⟨(y : Int), wrapId ⟨by omega, by omega⟩, ?_⟩
  conv=>whnf
  refine ⟨by omega, ((y % l.length : Nat) : Int), rfl, ?_⟩
  generalize y % l.length = k at *
  conv=>whnf
  refine bs_step tB_ok (aChk []) rfl rfl ?_
  conv=>whnf
  refine ⟨⟨rfl, trivial⟩, ?_⟩
  conv=>whnf
  refine ⟨Nat.le_refl _, k, rfl, Nat.le_of_lt hk, ?_⟩
  conv=>whnf
  have hm := subN_eq l.length k
  generalize subN l.length k = m at *
  have hs := addN_eq 0 k
  generalize addN 0 k = s at *
  refine app_step tB_ok (aChk []) l (fun _ => rfl) rfl rfl rfl rfl ?_
  conv=>whnf
  refine ⟨⟨rfl, rfl, Nat.le_refl _, by show s + m ≤ l.length; omega, by show (0 + m) * 41 ≤ _; omega⟩, ?_⟩
  conv=>whnf
  refine ⟨k, rfl, Nat.le_of_lt hk, Nat.zero_le _, ?_⟩
  conv=>whnf
  have hm2 := subN_eq k 0
  generalize subN k 0 = m2 at *
  have hs2 := addN_eq 0 0
  generalize addN 0 0 = s2 at *
  have hD : (([] : List Chk).take 0 ++ (l.drop s).take m) = l.drop k := by rw [hs, hm, Nat.zero_add, List.take_of_length_le (l := l.drop k) (by rw [List.length_drop]; exact Nat.le_refl _)]; rfl
  have hDl : (([] : List Chk).take 0 ++ (l.drop s).take m).length = l.length - k := by rw [hD, List.length_drop]
  generalize hDd : (([] : List Chk).take 0 ++ (l.drop s).take m) = D at *
  refine app_step tB_ok (aChk D) l (fun _ => rfl) rfl rfl rfl rfl ?_
  conv=>whnf
  refine ⟨⟨congrArg aChk hDd, rfl, by show 0 + m ≤ D.length; omega, by show s2 + m2 ≤ l.length; omega, by show (0 + m + m2) * 41 ≤ _; omega⟩, ?_⟩
  have hE : D.take (0 + m) ++ (l.drop s2).take m2 = l.drop k ++ l.take k := by rw [hD, List.take_of_length_le (by rw [List.length_drop]; omega), hs2, hm2]; rfl
  conv=>whnf
  repeat' (first | exact trivial | exact rfl | refine And.intro ?_ ?_ | ((conv=>whnf); first | exact trivial | exact rfl | refine And.intro ?_ ?_ | omega))
  · show 0 + m + m2 = (l.drop k ++ l.take k).length
    rw [← hE, List.length_append, List.length_take, List.length_take, List.length_drop]; omega
  · exact congrArg aChk hE

theorem turnNChk_t (z : Int) : Triple Tryz.prog 55 [.c (.s 0 0 0 5), iv .u8 z] [(0, false, .arr (aChk []))] 1 (.c (.s 0 0 0 5)) [] := by
  refine triple_of tB_ok Tryz.func55 rfl Tryz.call55 rfl ?_
  intro ρ w hH
  conv=>whnf
  refine ⟨fun hc => ?_, fun hc => absurd hc (by simp)⟩
  conv=>whnf
  repeat' (first | exact trivial | exact rfl | refine And.intro ?_ ?_ | ((conv=>whnf); first | exact trivial | exact rfl | refine And.intro ?_ ?_ | omega))

theorem turnChk_t (l : List Chk) (z : Int) (hz : 0 ≤ z ∧ z < 256) (hl : l.length ≤ 100000) : TripleA Tryz.prog 55 (aChk l) (iv .u8 z) (turnL z l) := by
  cases l with
  | nil =>
    have key : ∀ R : List Chk, R = [] → TripleA Tryz.prog 55 (aChk []) (iv .u8 z) R := by
      rintro R rfl
      exact (turnNChk_t z).toA0 rfl
    exact key _ (turnL_nil z)
  | cons x r => exact (turnYChk_t (x :: r) z hz hl (by simp)).toA rfl
theorem turnYNtc_t (l : List Ntc) (z : Int) (hz : 0 ≤ z ∧ z < 256) (hl : l.length ≤ 100000) (h0 : 0 < l.length) : Triple Tryz.prog 56 [.c (.s 0 0 l.length 6), iv .u8 z] [(0, false, .arr (aNtc l))] 1 (.c (.s 1 0 (turnL z l).length 6)) [(1, true, .arr (aNtc (turnL z l)))] := by
  obtain ⟨y, rfl⟩ : ∃ y : Nat, z = y := ⟨z.toNat, by omega⟩
  have hk : y % l.length < l.length := Nat.mod_lt _ h0
  have e : turnL (y : Int) l = l.drop (y % l.length) ++ l.take (y % l.length) := by unfold turnL; rw [Int.toNat_natCast]
  rw [e]
  refine triple_of tB_ok Tryz.func56 rfl Tryz.call56 rfl ?_
  intro ρ w hH
  conv=>whnf
  refine ⟨fun hc => absurd (show ((l.length : Int) == 0) = true from hc) (by simpa [List.length_pos_iff] using h0), fun hc => ?_⟩
  conv=>whnf
  refine ⟨(y : Int), wrapId ⟨by omega, by omega⟩, ?_⟩
  conv=>whnf
  refine ⟨by omega, ((y % l.length : Nat) : Int), rfl, ?_⟩
  generalize y % l.length = k at *
  conv=>whnf
  refine bs_step tB_ok (aNtc []) rfl rfl ?_
  conv=>whnf
  refine ⟨⟨rfl, trivial⟩, ?_⟩
  conv=>whnf
  refine ⟨Nat.le_refl _, k, rfl, Nat.le_of_lt hk, ?_⟩
  conv=>whnf
  have hm := subN_eq l.length k
  generalize subN l.length k = m at *
  have hs := addN_eq 0 k
  generalize addN 0 k = s at *
  refine app_step tB_ok (aNtc []) l (fun _ => rfl) rfl rfl rfl rfl ?_
  conv=>whnf
  refine ⟨⟨rfl, rfl, Nat.le_refl _, by show s + m ≤ l.length; omega, by show (0 + m) * 49 ≤ _; omega⟩, ?_⟩
  conv=>whnf
  refine ⟨k, rfl, Nat.le_of_lt hk, Nat.zero_le _, ?_⟩
  conv=>whnf
  have hm2 := subN_eq k 0
  generalize subN k 0 = m2 at *
  have hs2 := addN_eq 0 0
  generalize addN 0 0 = s2 at *
  have hD : (([] : List Ntc).take 0 ++ (l.drop s).take m) = l.drop k := by rw [hs, hm, Nat.zero_add, List.take_of_length_le (l := l.drop k) (by rw [List.length_drop]; exact Nat.le_refl _)]; rfl
  have hDl : (([] : List Ntc).take 0 ++ (l.drop s).take m).length = l.length - k := by rw [hD, List.length_drop]
  generalize hDd : (([] : List Ntc).take 0 ++ (l.drop s).take m) = D at *
  refine app_step tB_ok (aNtc D) l (fun _ => rfl) rfl rfl rfl rfl ?_
  conv=>whnf
  refine ⟨⟨congrArg aNtc hDd, rfl, by show 0 + m ≤ D.length; omega, by show s2 + m2 ≤ l.length; omega, by show (0 + m + m2) * 49 ≤ _; omega⟩, ?_⟩
  have hE : D.take (0 + m) ++ (l.drop s2).take m2 = l.drop k ++ l.take k := by rw [hD, List.take_of_length_le (by rw [List.length_drop]; omega), hs2, hm2]; rfl
  conv=>whnf
  repeat' (first | exact trivial | exact rfl | refine And.intro ?_ ?_ | ((conv=>whnf); first | exact trivial | exact rfl | refine And.intro ?_ ?_ | omega))
  · show 0 + m + m2 = (l.drop k ++ l.take k).length
    rw [← hE, List.length_append, List.length_take, List.length_take, List.length_drop]; omega
  · exact congrArg aNtc hE

theorem turnNNtc_t (z : Int) : Triple Tryz.prog 56 [.c (.s 0 0 0 6), iv .u8 z] [(0, false, .arr (aNtc []))] 1 (.c (.s 0 0 0 6)) [] := by
  refine triple_of tB_ok Tryz.func56 rfl Tryz.call56 rfl ?_
  intro ρ w hH
  conv=>whnf
  refine ⟨fun hc => ?_, fun hc => absurd hc (by simp)⟩
  conv=>whnf
  repeat' (first | exact trivial | exact rfl | refine And.intro ?_ ?_ | ((conv=>whnf); first | exact trivial | exact rfl | refine And.intro ?_ ?_ | omega))

theorem turnNtc_t (l : List Ntc) (z : Int) (hz : 0 ≤ z ∧ z < 256) (hl : l.length ≤ 100000) : TripleA Tryz.prog 56 (aNtc l) (iv .u8 z) (turnL z l) := by
  cases l with
  | nil =>
    have key : ∀ R : List Ntc, R = [] → TripleA Tryz.prog 56 (aNtc []) (iv .u8 z) R := by
      rintro R rfl
      exact (turnNNtc_t z).toA0 rfl
    exact key _ (turnL_nil z)
  | cons x r => exact (turnYNtc_t (x :: r) z hz hl (by simp)).toA rfl
theorem turnYWgh_t (l : List Wgh) (z : Int) (hz : 0 ≤ z ∧ z < 256) (hl : l.length ≤ 100000) (h0 : 0 < l.length) : Triple Tryz.prog 57 [.c (.s 0 0 l.length 8), iv .u8 z] [(0, false, .arr (aWgh l))] 1 (.c (.s 1 0 (turnL z l).length 8)) [(1, true, .arr (aWgh (turnL z l)))] := by
  obtain ⟨y, rfl⟩ : ∃ y : Nat, z = y := ⟨z.toNat, by omega⟩
  have hk : y % l.length < l.length := Nat.mod_lt _ h0
  have e : turnL (y : Int) l = l.drop (y % l.length) ++ l.take (y % l.length) := by unfold turnL; rw [Int.toNat_natCast]
  rw [e]
  refine triple_of tB_ok Tryz.func57 rfl Tryz.call57 rfl ?_
  intro ρ w hH
  conv=>whnf
  refine ⟨fun hc => absurd (show ((l.length : Int) == 0) = true from hc) (by simpa [List.length_pos_iff] using h0), fun hc => ?_⟩
  conv=>whnf
  refine ⟨(y : Int), wrapId ⟨by omega, by omega⟩, ?_⟩
  conv=>whnf
  refine ⟨by omega, ((y % l.length : Nat) : Int), rfl, ?_⟩
  generalize y % l.length = k at *
  conv=>whnf
  refine bs_step tB_ok (aWgh []) rfl rfl ?_
  conv=>whnf
  refine ⟨⟨rfl, trivial⟩, ?_⟩
  conv=>whnf
  refine ⟨Nat.le_refl _, k, rfl, Nat.le_of_lt hk, ?_⟩
  conv=>whnf
  have hm := subN_eq l.length k
  generalize subN l.length k = m at *
  have hs := addN_eq 0 k
  generalize addN 0 k = s at *
  refine app_step tB_ok (aWgh []) l (fun _ => rfl) rfl rfl rfl rfl ?_
  conv=>whnf
  refine ⟨⟨rfl, rfl, Nat.le_refl _, by show s + m ≤ l.length; omega, by show (0 + m) * 65 ≤ _; omega⟩, ?_⟩
  conv=>whnf
  refine ⟨k, rfl, Nat.le_of_lt hk, Nat.zero_le _, ?_⟩
  conv=>whnf
  have hm2 := subN_eq k 0
  generalize subN k 0 = m2 at *
  have hs2 := addN_eq 0 0
  generalize addN 0 0 = s2 at *
  have hD : (([] : List Wgh).take 0 ++ (l.drop s).take m) = l.drop k := by rw [hs, hm, Nat.zero_add, List.take_of_length_le (l := l.drop k) (by rw [List.length_drop]; exact Nat.le_refl _)]; rfl
  have hDl : (([] : List Wgh).take 0 ++ (l.drop s).take m).length = l.length - k := by rw [hD, List.length_drop]
  generalize hDd : (([] : List Wgh).take 0 ++ (l.drop s).take m) = D at *
  refine app_step tB_ok (aWgh D) l (fun _ => rfl) rfl rfl rfl rfl ?_
  conv=>whnf
  refine ⟨⟨congrArg aWgh hDd, rfl, by show 0 + m ≤ D.length; omega, by show s2 + m2 ≤ l.length; omega, by show (0 + m + m2) * 65 ≤ _; omega⟩, ?_⟩
  have hE : D.take (0 + m) ++ (l.drop s2).take m2 = l.drop k ++ l.take k := by rw [hD, List.take_of_length_le (by rw [List.length_drop]; omega), hs2, hm2]; rfl
  conv=>whnf
  repeat' (first | exact trivial | exact rfl | refine And.intro ?_ ?_ | ((conv=>whnf); first | exact trivial | exact rfl | refine And.intro ?_ ?_ | omega))
  · show 0 + m + m2 = (l.drop k ++ l.take k).length
    rw [← hE, List.length_append, List.length_take, List.length_take, List.length_drop]; omega
  · exact congrArg aWgh hE

theorem turnNWgh_t (z : Int) : Triple Tryz.prog 57 [.c (.s 0 0 0 8), iv .u8 z] [(0, false, .arr (aWgh []))] 1 (.c (.s 0 0 0 8)) [] := by
  refine triple_of tB_ok Tryz.func57 rfl Tryz.call57 rfl ?_
  intro ρ w hH
  conv=>whnf
  refine ⟨fun hc => ?_, fun hc => absurd hc (by simp)⟩
  conv=>whnf
  repeat' (first | exact trivial | exact rfl | refine And.intro ?_ ?_ | ((conv=>whnf); first | exact trivial | exact rfl | refine And.intro ?_ ?_ | omega))

theorem turnWgh_t (l : List Wgh) (z : Int) (hz : 0 ≤ z ∧ z < 256) (hl : l.length ≤ 100000) : TripleA Tryz.prog 57 (aWgh l) (iv .u8 z) (turnL z l) := by
  cases l with
  | nil =>
    have key : ∀ R : List Wgh, R = [] → TripleA Tryz.prog 57 (aWgh []) (iv .u8 z) R := by
      rintro R rfl
      exact (turnNWgh_t z).toA0 rfl
    exact key _ (turnL_nil z)
  | cons x r => exact (turnYWgh_t (x :: r) z hz hl (by simp)).toA rfl

end Go.Proofs

namespace Go.Proofs
open Go.Sx

end Go.Proofs

namespace Go.Proofs
open Go.Sx

end Go.Proofs

namespace Go.Proofs
open Go.Sx Go.ChangeShapes Go.WideShapes Go.RowKit Go.Deep

end Go.Proofs

namespace Go.Proofs
open Go.Sx

end Go.Proofs

namespace Go.Proofs
open Go.Sx

theorem u8_of {z : Int} (h : (Lit.int .u8 z).wf = true) : 0 ≤ z ∧ z < 256 := by
  simp [Lit.wf] at h
  have h1 : IntKind.u8.min = 0 := rfl
  have h2 : IntKind.u8.max = 255 := rfl
  omega

end Go.Proofs

namespace Go.Proofs
open Go.Sx Go.ChangeShapes Go.WideShapes Go.RowKit Go.Deep

end Go.Proofs

namespace Go.Proofs
open Go.Sx

theorem merge_of {a b : Rd} (ha : checkR a = 0) (hb : checkR b = 0) (hj : Joins a b) (hc : checkR (outR a b) = 0) : mergeR a b = (outR a b, 0) := by
  classical
  unfold mergeR
  rw [if_pos ha, if_pos hb, if_pos hj, if_pos hc]

theorem merge_sml {a b : Rd} : Sml (mergeR a b).1 := by
  classical
  have hz : Sml zRd := ⟨Nat.zero_le _, Nat.zero_le _, Nat.zero_le _, Nat.zero_le _⟩
  unfold mergeR
  split
  · split
    · split
      · split
        · rename_i hc; exact (checkR_ok.1 hc).sml
        · exact hz
      · exact hz
    · exact hz
  · exact hz

end Go.Proofs

namespace Go.Proofs
open Go.Sx

theorem sameSys_t (bs : List (Int × Int)) (ls : List Lnk) (hb : bs.length ≤ 1000000) (hl : ls.length ≤ 1000000) : Triple Tryz.prog 52 [.agg [.s 0 0 bs.length 2, .s 1 0 ls.length 4], .agg [.s 2 0 bs.length 2, .s 3 0 ls.length 4]]
    [(0, false, .arr (aSpan bs)), (1, false, .arr (aLink ls)), (2, false, .arr (aSpan bs)), (3, false, .arr (aLink ls))] 4 (bv true) [] := by
  refine triple_of tB_ok Tryz.func52 rfl Tryz.call52 rfl ?_
  intro ρ w hH
  conv=>whnf
  refine ⟨fun h => absurd (show ((bs.length : Int) != bs.length) = true from h) (by simp), fun h => ?_⟩
  conv=>whnf
  refine ⟨fun h => absurd (show ((ls.length : Int) != ls.length) = true from h) (by simp), fun h => ?_⟩
  conv=>whnf
  refine loop_step tB_ok (G := Nat) 0 [] (fun i => [(26, iv .i64 i)]) (fun _ => []) (fun i => i ≤ bs.length) (fun i => bs.length - i) ?_
  conv=>whnf
  refine ⟨⟨0, Nat.zero_le _, ?_⟩, ?_⟩
  · conv=>whnf
    repeat' (first | exact trivial | exact rfl | refine And.intro ?_ ?_ | ((conv=>whnf); first | exact trivial | exact rfl | refine And.intro ?_ ?_ | omega))
  rintro i hi ρ1 t1 hρ1
  conv=>whnf
  refine ⟨fun h1 => ?_, fun h1 => ?_⟩
  · have h1 : i < bs.length := by simpa using h1
    conv=>whnf
    refine ⟨i, rfl, h1, h1, ?_⟩
    conv=>whnf
    refine ⟨i, rfl, h1, h1, ?_⟩
    conv=>whnf
    refine ⟨fun h3 => absurd (show ([bs[i].1, bs[i].2] != [bs[i].1, bs[i].2]) = true from h3) (by simp), fun h3 => ?_⟩
    conv=>whnf
    refine ⟨_, wrapId ⟨by omega, by omega⟩, ?_⟩
    refine ⟨i + 1, h1, by show bs.length - (i + 1) < bs.length - i; omega, ?_⟩
    conv=>whnf
    refine ⟨rfl, ?_⟩
    conv=>whnf
    repeat' (first | exact trivial | exact rfl | refine And.intro ?_ ?_ | ((conv=>whnf); first | exact trivial | exact rfl | refine And.intro ?_ ?_ | omega))
  conv=>whnf
  refine loop_step tB_ok (G := Nat) 0 [] (fun i => [(44, iv .i64 i)]) (fun _ => []) (fun i => i ≤ ls.length) (fun i => ls.length - i) ?_
  conv=>whnf
  refine ⟨⟨0, Nat.zero_le _, ?_⟩, ?_⟩
  · conv=>whnf
    repeat' (first | exact trivial | exact rfl | refine And.intro ?_ ?_ | ((conv=>whnf); first | exact trivial | exact rfl | refine And.intro ?_ ?_ | omega))
  rintro i hi ρ2 t2 hρ2
  conv=>whnf
  refine ⟨fun h1 => ?_, fun h1 => ?_⟩
  · have h1 : i < ls.length := by simpa using h1
    conv=>whnf
    refine ⟨i, rfl, h1, h1, ?_⟩
    conv=>whnf
    refine ⟨i, rfl, h1, h1, ?_⟩
    conv=>whnf
    refine ⟨fun h3 => absurd (show ([ls[i].f, ls[i].t, ls[i].m, ls[i].i] != [ls[i].f, ls[i].t, ls[i].m, ls[i].i]) = true from h3) (by simp), fun h3 => ?_⟩
    conv=>whnf
    refine ⟨_, wrapId ⟨by omega, by omega⟩, ?_⟩
    refine ⟨i + 1, h1, by show ls.length - (i + 1) < ls.length - i; omega, ?_⟩
    conv=>whnf
    refine ⟨rfl, ?_⟩
    conv=>whnf
    repeat' (first | exact trivial | exact rfl | refine And.intro ?_ ?_ | ((conv=>whnf); first | exact trivial | exact rfl | refine And.intro ?_ ?_ | omega))
  conv=>whnf
  repeat' (first | exact trivial | exact rfl | refine And.intro ?_ ?_ | ((conv=>whnf); first | exact trivial | exact rfl | refine And.intro ?_ ?_ | omega))

end Go.Proofs

namespace Go.Proofs
open Go.Sx

end Go.Proofs

namespace Go.Proofs
open Go.Sx

theorem sus_len (r : Rd) : (suspectsF r).1.length ≤ 1000000 := by
  unfold suspectsF
  split
  · rename_i h0
    split
    · simp
    · have h := checkR_ok.1 h0
      have := idsR_len r h
      have := List.length_filter_le (fun i => decide (Calm (boxR (lessR r [i]) []) (lnkR (lessR r [i]) []) 0)) (idsR r)
      dsimp only; omega
  · simp

theorem need_len (r : Rd) (o : Thg) : (neededF r o).1.length ≤ 1000000 := by
  unfold neededF
  split
  · rename_i h0
    have hck : checkR r = 0 := by
      unfold massF at h0
      by_cases h1 : checkR r = 0
      · exact h1
      · rw [if_neg h1] at h0; exact h0
    have := idsR_len r (checkR_ok.1 hck)
    have := List.length_filter_le (fun i => !(decide (massV (lessR r [i]) o = massF r o))) (idsR r)
    dsimp only; omega
  · simp

end Go.Proofs

namespace Go.Proofs
open Go.Sx

theorem perm_massV {r t : Rd} (h : RdOK r) (hp : RdPerm r t) (o : Thg) : massV t o = massV r o := by
  unfold massV
  rw [perm_objs hp, (perm_sys h hp []).1, (perm_sys h hp []).2]

theorem perm_massF {r t : Rd} (h : RdOK r) (hp : RdPerm r t) (o : Thg) : massF t o = massF r o := by
  unfold massF
  rw [if_pos (checkR_ok.2 h), if_pos (checkR_ok.2 (perm_ok h hp)), perm_massV h hp]

theorem perm_susp {r t : Rd} (h : RdOK r) (hp : RdPerm r t) : suspectsF t = suspectsF r := by
  unfold suspectsF
  rw [if_pos (checkR_ok.2 h), if_pos (checkR_ok.2 (perm_ok h hp)), (perm_sys h hp []).1, (perm_sys h hp []).2, ids_perm hp]
  have e : (fun i => decide (Calm (boxR (lessR t [i]) []) (lnkR (lessR t [i]) []) 0)) = (fun i => decide (Calm (boxR (lessR r [i]) []) (lnkR (lessR r [i]) []) 0)) := funext fun i => by
    have hs := perm_sys (less_ok h [i]) (less_perm hp [i]) []
    rw [hs.1, hs.2]
  rw [e]

theorem perm_need {r t : Rd} (h : RdOK r) (hp : RdPerm r t) (o : Thg) : neededF t o = neededF r o := by
  unfold neededF
  rw [perm_massF h hp, ids_perm hp]
  have e : (fun i => !(decide (massV (lessR t [i]) o = massF r o))) = (fun i => !(decide (massV (lessR r [i]) o = massF r o))) := funext fun i => by
    rw [perm_massV (less_ok h [i]) (less_perm hp [i])]
  rw [e]

theorem perm_pSys {r t : Rd} (h : RdOK r) (hp : RdPerm r t) : pSys t = pSys r := by
  unfold pSys
  rw [if_pos (checkR_ok.2 h), if_pos (checkR_ok.2 (perm_ok h hp)), (perm_sys h hp []).1, (perm_sys h hp []).2]

theorem union_nil_len {α : Type} [DecidableEq α] {key : α → Int} {l : List α} : (unionK key l []).length = l.length := by
  unfold unionK
  rw [sortK_len]; simp

theorem order_merge {r t : Rd} (h : RdOK r) (hp : RdPerm r t) : mergeR r zRd = (outR r zRd, 0) ∧ mergeR t r = (outR r zRd, 0) := by
  obtain ⟨j1, e1, j2⟩ := perm_joins h hp
  have hz : RdOK zRd := ⟨Nat.zero_le _, Nat.zero_le _, (fun b hb => by cases hb), List.nodup_nil, (fun b hb => by cases hb), (fun b hb => by cases hb), (fun b hb => by cases hb), List.nodup_nil⟩
  have hc : checkR (outR r zRd) = 0 := by
    rw [out_check h hz j2, if_neg]
    have q1 := h.nb
    have q2 := h.nr
    show ¬ (8 < (unionK Bal.id r.bs []).length ∨ 100 < (unionK Chk.id r.cs []).length + (unionK Ntc.id r.ns []).length + (unionK Wgh.id r.ws []).length)
    rw [union_nil_len, union_nil_len, union_nil_len, union_nil_len]
    omega
  refine ⟨merge_of (checkR_ok.2 h) (checkR_ok.2 hz) j2 hc, ?_⟩
  have e1 : outR t r = outR r zRd := e1
  rw [merge_of (checkR_ok.2 (perm_ok h hp)) (checkR_ok.2 h) j1 (by rw [e1]; exact hc), e1]

theorem rel_up {ρ : Asg} {k : Nat} {x : Rg} {c : SC} {v : Value} (h : ∀ j ∈ c.nms, j < k) (hr : c.rel ρ v) : c.rel (upd ρ k x) v := SC.rel_agree (fun j hj => upd_ne (Nat.ne_of_lt (h j hj))) hr

theorem relL_up {ρ : Asg} {k : Nat} {x : Rg} : ∀ {l : List SC} {vs : List Value}, (∀ c ∈ l, ∀ j ∈ c.nms, j < k) → relL ρ l vs → relL (upd ρ k x) l vs := fun h hr => relL_agree (fun c hc j hj => upd_ne (Nat.ne_of_lt (h c hc j hj))) hr

theorem rel_nilS {ρ : Asg} {k sz : Nat} {v : Value} (h : (SC.v (.slice none 0 0)).rel ρ v) : (SC.s k 0 0 sz).rel (upd ρ k ⟨0, 0, 0⟩) v := by
  have h : v = .slice none 0 0 := h
  subst h
  exact ⟨none, by rw [upd_eq]; rfl, by rw [upd_eq]; exact Nat.le_refl _, fun h => by rw [upd_eq] at h; cases h⟩

theorem mergeNil_t (r : Rd) (sr : Sml r) : Triple Tryz.prog 58 [rdA r, .agg [.v (.slice none 0 0), .v (.slice none 0 0), .v (.slice none 0 0), .v (.slice none 0 0)]] (rdH r) 4 (retRd 8 9 10 11 (mergeR r zRd)) (ownRd 8 9 10 11 (mergeR r zRd).1) := by
  have h0 := bMerge_t r zRd sr ⟨Nat.zero_le _, Nat.zero_le _, Nat.zero_le _, Nat.zero_le _⟩
  have h1 : Triple Tryz.prog 58 [rdA r, .agg [.s 4 0 0 6, .s 6 0 0 5, .v (.slice none 0 0), .s 5 0 0 8]] (rdH r ++ [(4, false, .arr (aBal [])), (5, false, .arr (aWgh [])), (6, false, .arr (aChk []))]) 7 (retRd 8 9 10 11 (mergeR r zRd)) (ownRd 8 9 10 11 (mergeR r zRd).1) :=
    Triple.nilK (k := 7) (o := .arr (aNtc [])) (H := rdH r ++ [(4, false, .arr (aBal [])), (5, false, .arr (aWgh [])), (6, false, .arr (aChk []))]) h0 rfl rfl rfl (by
      intro ρ vals hv
      match vals, hv with
      | [x, y], hv =>
        obtain ⟨h1, ⟨xs, rfl, h2⟩, _⟩ := hv
        refine ⟨?_, ⟨xs, rfl, ?_⟩, trivial⟩
        · obtain ⟨zs, rfl, h3⟩ := h1
          exact ⟨zs, rfl, relL_up (fun c hc j hj => by simp at hc; rcases hc with rfl | rfl | rfl | rfl <;> (simp [SC.nms] at hj; omega)) h3⟩
        · obtain ⟨l⟩ := xs
          match l, h2 with
          | [v0, v1, v2, v3], h2 =>
            obtain ⟨g0, g1, g2, g3, _⟩ := h2
            exact ⟨rel_up (by simp [SC.nms]) g0, rel_up (by simp [SC.nms]) g1, rel_nilS g2, rel_up (by simp [SC.nms]) g3, trivial⟩
      )
  have h2 : Triple Tryz.prog 58 [rdA r, .agg [.s 4 0 0 6, .v (.slice none 0 0), .v (.slice none 0 0), .s 5 0 0 8]] (rdH r ++ [(4, false, .arr (aBal [])), (5, false, .arr (aWgh []))]) 6 (retRd 8 9 10 11 (mergeR r zRd)) (ownRd 8 9 10 11 (mergeR r zRd).1) :=
    Triple.nilK (k := 6) (o := .arr (aChk [])) (H := rdH r ++ [(4, false, .arr (aBal [])), (5, false, .arr (aWgh []))]) h1 rfl rfl rfl (by
      intro ρ vals hv
      match vals, hv with
      | [x, y], hv =>
        obtain ⟨h1, ⟨xs, rfl, h2⟩, _⟩ := hv
        refine ⟨?_, ⟨xs, rfl, ?_⟩, trivial⟩
        · obtain ⟨zs, rfl, h3⟩ := h1
          exact ⟨zs, rfl, relL_up (fun c hc j hj => by simp at hc; rcases hc with rfl | rfl | rfl | rfl <;> (simp [SC.nms] at hj; omega)) h3⟩
        · obtain ⟨l⟩ := xs
          match l, h2 with
          | [v0, v1, v2, v3], h2 =>
            obtain ⟨g0, g1, g2, g3, _⟩ := h2
            exact ⟨rel_up (by simp [SC.nms]) g0, rel_nilS g1, rel_up (by simp [SC.nms]) g2, rel_up (by simp [SC.nms]) g3, trivial⟩
      )
  have h3 : Triple Tryz.prog 58 [rdA r, .agg [.s 4 0 0 6, .v (.slice none 0 0), .v (.slice none 0 0), .v (.slice none 0 0)]] (rdH r ++ [(4, false, .arr (aBal []))]) 5 (retRd 8 9 10 11 (mergeR r zRd)) (ownRd 8 9 10 11 (mergeR r zRd).1) :=
    Triple.nilK (k := 5) (o := .arr (aWgh [])) (H := rdH r ++ [(4, false, .arr (aBal []))]) h2 rfl rfl rfl (by
      intro ρ vals hv
      match vals, hv with
      | [x, y], hv =>
        obtain ⟨h1, ⟨xs, rfl, h2⟩, _⟩ := hv
        refine ⟨?_, ⟨xs, rfl, ?_⟩, trivial⟩
        · obtain ⟨zs, rfl, h3⟩ := h1
          exact ⟨zs, rfl, relL_up (fun c hc j hj => by simp at hc; rcases hc with rfl | rfl | rfl | rfl <;> (simp [SC.nms] at hj; omega)) h3⟩
        · obtain ⟨l⟩ := xs
          match l, h2 with
          | [v0, v1, v2, v3], h2 =>
            obtain ⟨g0, g1, g2, g3, _⟩ := h2
            exact ⟨rel_up (by simp [SC.nms]) g0, rel_up (by simp [SC.nms]) g1, rel_up (by simp [SC.nms]) g2, rel_nilS g3, trivial⟩
      )
  exact Triple.nilK (k := 4) (o := .arr (aBal [])) (H := rdH r) h3 rfl rfl rfl (by
      intro ρ vals hv
      match vals, hv with
      | [x, y], hv =>
        obtain ⟨h1, ⟨xs, rfl, h2⟩, _⟩ := hv
        refine ⟨?_, ⟨xs, rfl, ?_⟩, trivial⟩
        · obtain ⟨zs, rfl, h3⟩ := h1
          exact ⟨zs, rfl, relL_up (fun c hc j hj => by simp at hc; rcases hc with rfl | rfl | rfl | rfl <;> (simp [SC.nms] at hj; omega)) h3⟩
        · obtain ⟨l⟩ := xs
          match l, h2 with
          | [v0, v1, v2, v3], h2 =>
            obtain ⟨g0, g1, g2, g3, _⟩ := h2
            exact ⟨rel_nilS g0, rel_up (by simp [SC.nms]) g1, rel_up (by simp [SC.nms]) g2, rel_up (by simp [SC.nms]) g3, trivial⟩
      )

def turnR (z : Int) (r : Rd) : Rd := ⟨turnL z r.bs, turnL (z.tdiv 3) r.cs, turnL (z.tdiv 5) r.ns, turnL (z.tdiv 7) r.ws⟩

theorem turnR_perm (z : Int) (r : Rd) : RdPerm r (turnR z r) := ⟨turnL_perm _ _, turnL_perm _ _, turnL_perm _ _, turnL_perm _ _⟩

theorem tdiv_u8 {z : Int} (hz : 0 ≤ z ∧ z < 256) (k : Nat) (hk : 0 < k) : 0 ≤ z.tdiv k ∧ z.tdiv k < 256 := by
  obtain ⟨n, rfl⟩ : ∃ n : Nat, z = n := ⟨z.toNat, by omega⟩
  have h1 : (n : Int).tdiv (k : Int) = ((n / k : Nat) : Int) := rfl
  rw [h1]
  have := Nat.div_le_self n k
  generalize n / k = q at *
  omega

theorem wrapU8 {z : Int} (h : 0 ≤ z ∧ z < 256) : IntKind.u8.wrap z = z := by
  have h1 : IntKind.u8.wrap z = z % 256 := by
    unfold IntKind.wrap
    simp [IntKind.signed, IntKind.bits]
  rw [h1]
  omega

set_option maxHeartbeats 4000000 in
theorem balanceOrder_t (r : Rd) (hw : Wide r) (z : Int) (hz : 0 ≤ z ∧ z < 256) (o : Thg) : Triple Tryz.prog 9 [rdA r, iv .u8 z, svThg o] (rdH r) 4 (bv true) [] := by
  have hFew := few_rd_t r hw
  by_cases hfew : fewRd r = true
  rotate_left
  · rw [Bool.not_eq_true] at hfew
    rw [hfew] at hFew
    refine triple_of tB_ok Tryz.func9 rfl Tryz.call9 rfl ?_
    intro ρ w hH
    conv=>whnf
    refine call_step hFew (by exact rfl) (by exact rfl) ?_
    conv=>whnf
    refine ⟨?_, ?_, ?_⟩
    iterate 2 · repeat' (first | exact trivial | exact rfl | refine And.intro ?_ ?_ | ((conv=>whnf); first | exact trivial | exact rfl | refine And.intro ?_ ?_ | omega))
    conv=>whnf
    refine ⟨fun hc => ?_, fun hc => absurd hc (by simp)⟩
    conv=>whnf
    refine call_step sanity_t (by exact rfl) (by exact rfl) ?_
    conv=>whnf
    refine ⟨?_, ?_, ?_⟩
    iterate 2 · repeat' (first | exact trivial | exact rfl | refine And.intro ?_ ?_ | ((conv=>whnf); first | exact trivial | exact rfl | refine And.intro ?_ ?_ | omega))
    conv=>whnf
    repeat' (first | exact trivial | exact rfl | refine And.intro ?_ ?_ | ((conv=>whnf); first | exact trivial | exact rfl | refine And.intro ?_ ?_ | omega))
  rw [hfew] at hFew
  have hs := few_sml hfew
  have hC := check_rd_t r (Nat.le_trans hs.bs (by decide)) (Nat.le_trans hs.cs (by decide)) (Nat.le_trans hs.ns (by decide)) (Nat.le_trans hs.ws (by decide))
  by_cases h0 : checkR r = 0
  rotate_left
  · generalize checkR r = c at *
    refine triple_of tB_ok Tryz.func9 rfl Tryz.call9 rfl ?_
    intro ρ w hH
    conv=>whnf
    refine call_step hFew (by exact rfl) (by exact rfl) ?_
    conv=>whnf
    refine ⟨?_, ?_, ?_⟩
    iterate 2 · repeat' (first | exact trivial | exact rfl | refine And.intro ?_ ?_ | ((conv=>whnf); first | exact trivial | exact rfl | refine And.intro ?_ ?_ | omega))
    conv=>whnf
    refine ⟨fun hc => absurd hc (by simp), fun hc => ?_⟩
    conv=>whnf
    refine call_step hC (by exact rfl) (by exact rfl) ?_
    conv=>whnf
    refine ⟨?_, ?_, ?_⟩
    iterate 2 · repeat' (first | exact trivial | exact rfl | refine And.intro ?_ ?_ | ((conv=>whnf); first | exact trivial | exact rfl | refine And.intro ?_ ?_ | omega))
    conv=>whnf
    refine ⟨fun hcc => ?_, fun hcc => absurd (by simpa using (show (c != 0) = false from hcc)) h0⟩
    conv=>whnf
    refine call_step sanity_t (by exact rfl) (by exact rfl) ?_
    conv=>whnf
    refine ⟨?_, ?_, ?_⟩
    iterate 2 · repeat' (first | exact trivial | exact rfl | refine And.intro ?_ ?_ | ((conv=>whnf); first | exact trivial | exact rfl | refine And.intro ?_ ?_ | omega))
    conv=>whnf
    repeat' (first | exact trivial | exact rfl | refine And.intro ?_ ?_ | ((conv=>whnf); first | exact trivial | exact rfl | refine And.intro ?_ ?_ | omega))
  have h := checkR_ok.1 h0
  have hp := turnR_perm z r
  have ht := perm_ok h hp
  have hts := ht.sml
  rw [h0] at hC
  have hCt := check_rd_t (turnR z r) (Nat.le_trans hts.bs (by decide)) (Nat.le_trans hts.cs (by decide)) (Nat.le_trans hts.ns (by decide)) (Nat.le_trans hts.ws (by decide))
  rw [checkR_ok.2 ht] at hCt
  have cT0 : ∀ R : List Bal, R = turnL z r.bs → TripleA Tryz.prog 54 (aBal r.bs) (iv .u8 z) R := by
    rintro R rfl
    exact turnBal_t r.bs z hz hs.bs
  have cT1 : ∀ R : List Chk, R = turnL (z.tdiv 3) r.cs → TripleA Tryz.prog 55 (aChk r.cs) (iv .u8 (z.tdiv 3)) R := by
    rintro R rfl
    exact turnChk_t r.cs (z.tdiv 3) (tdiv_u8 hz 3 (by decide)) hs.cs
  have cT2 : ∀ R : List Ntc, R = turnL (z.tdiv 5) r.ns → TripleA Tryz.prog 56 (aNtc r.ns) (iv .u8 (z.tdiv 5)) R := by
    rintro R rfl
    exact turnNtc_t r.ns (z.tdiv 5) (tdiv_u8 hz 5 (by decide)) hs.ns
  have cT3 : ∀ R : List Wgh, R = turnL (z.tdiv 7) r.ws → TripleA Tryz.prog 57 (aWgh r.ws) (iv .u8 (z.tdiv 7)) R := by
    rintro R rfl
    exact turnWgh_t r.ws (z.tdiv 7) (tdiv_u8 hz 7 (by decide)) hs.ws
  have cP := bCompile_t r hs
  have cPt := bCompile_t (turnR z r) hts
  rw [perm_pSys h hp] at cPt
  have cM := mass_t r o hs
  have cMt := mass_t (turnR z r) o hts
  rw [perm_massF h hp] at cMt
  have cS := suspects_t r hs
  have cSt := suspects_t (turnR z r) hts
  rw [perm_susp h hp] at cSt
  have cN := needed_t r o hs
  have cNt := needed_t (turnR z r) o hts
  rw [perm_need h hp] at cNt
  have cG := mergeNil_t r hs
  have cGt := bMerge_t (turnR z r) r hts hs
  obtain ⟨m1, m2⟩ := order_merge h hp
  rw [m1] at cG
  rw [m2] at cGt
  have hOs : Sml (outR r zRd) := by
    have := merge_sml (a := r) (b := zRd)
    rw [m1] at this; exact this
  have cSame := rSame_t (outR r zRd) hOs
  have hl1 := sus_len r
  have hl2 := need_len r o
  have cI1 := bInts_t (suspectsF r).1 (suspectsF r).1 hl1
  have cI2 := bInts_t (neededF r o).1 (neededF r o).1 hl2
  rw [beq_self_eq_true] at cI1 cI2
  have hb1 : (pSys r).1.1.length ≤ 1000000 := by
    unfold pSys; rw [if_pos h0]
    show (boxR r []).length ≤ _
    have h1 := momsF_len r []; rw [List.length_nil] at h1; rw [boxR_len]; have := objsF_len r; have := h.nr; omega
  have hb2 : (pSys r).1.2.length ≤ 1000000 := by
    unfold pSys; rw [if_pos h0]
    show (lnkR r []).length ≤ _
    have := (rd_sys h (more := []) (by simp) (by simp)).nl
    omega
  have cY := sameSys_t (pSys r).1.1 (pSys r).1.2 hb1 hb2
  have eT : turnR z r = ⟨turnL z r.bs, turnL (z.tdiv 3) r.cs, turnL (z.tdiv 5) r.ns, turnL (z.tdiv 7) r.ws⟩ := rfl
  rw [eT] at hCt cPt cMt cSt cNt cGt
  clear eT m1 m2 hp ht hts h hl1 hl2 hb1 hb2 hOs
  generalize turnL z r.bs = tb at *
  generalize turnL (z.tdiv 3) r.cs = tc at *
  generalize turnL (z.tdiv 5) r.ns = tn at *
  generalize turnL (z.tdiv 7) r.ws = tw at *
  have cT0 := cT0 tb rfl
  have cT1 := cT1 tc rfl
  have cT2 := cT2 tn rfl
  have cT3 := cT3 tw rfl
  generalize pSys r = P at *
  generalize massF r o = M at *
  generalize suspectsF r = S at *
  generalize neededF r o = N at *
  generalize outR r zRd = Q at *
  refine triple_of tB_ok Tryz.func9 rfl Tryz.call9 rfl ?_
  intro ρ w hH
  conv=>whnf
  refine call_step hFew (by exact rfl) (by exact rfl) ?_
  conv=>whnf
  refine ⟨?_, ?_, ?_⟩
  iterate 2 · repeat' (first | exact trivial | exact rfl | refine And.intro ?_ ?_ | ((conv=>whnf); first | exact trivial | exact rfl | refine And.intro ?_ ?_ | omega))
  conv=>whnf
  refine ⟨fun hc => absurd hc (by simp), fun hc => ?_⟩
  conv=>whnf
  refine call_step hC (by exact rfl) (by exact rfl) ?_
  conv=>whnf
  refine ⟨?_, ?_, ?_⟩
  iterate 2 · repeat' (first | exact trivial | exact rfl | refine And.intro ?_ ?_ | ((conv=>whnf); first | exact trivial | exact rfl | refine And.intro ?_ ?_ | omega))
  conv=>whnf
  refine ⟨fun hc => absurd hc (by simp), fun hc => ?_⟩
  conv=>whnf
  refine callA_step cT0 rfl (by exact rfl) (by exact rfl) ?_
  conv=>whnf
  refine ⟨⟨rfl, rfl, rfl, rfl⟩, ?_⟩
  conv=>whnf
  refine ⟨by decide, z.tdiv 3, wrapU8 (tdiv_u8 hz 3 (by decide)), ?_⟩
  conv=>whnf
  refine callA_step cT1 rfl (by exact rfl) (by exact rfl) ?_
  conv=>whnf
  refine ⟨⟨rfl, rfl, rfl, rfl⟩, ?_⟩
  conv=>whnf
  refine ⟨by decide, z.tdiv 5, wrapU8 (tdiv_u8 hz 5 (by decide)), ?_⟩
  conv=>whnf
  refine callA_step cT2 rfl (by exact rfl) (by exact rfl) ?_
  conv=>whnf
  refine ⟨⟨rfl, rfl, rfl, rfl⟩, ?_⟩
  conv=>whnf
  refine ⟨by decide, z.tdiv 7, wrapU8 (tdiv_u8 hz 7 (by decide)), ?_⟩
  conv=>whnf
  refine callA_step cT3 rfl (by exact rfl) (by exact rfl) ?_
  conv=>whnf
  refine ⟨⟨rfl, rfl, rfl, rfl⟩, ?_⟩
  conv=>whnf
  refine call_step cP (by exact rfl) (by exact rfl) ?_
  conv=>whnf
  refine ⟨?_, ?_, ?_⟩
  iterate 2 · repeat' (first | exact trivial | exact rfl | refine And.intro ?_ ?_ | ((conv=>whnf); first | exact trivial | exact rfl | refine And.intro ?_ ?_ | omega))
  conv=>whnf
  refine call_step cPt (by exact rfl) (by exact rfl) ?_
  conv=>whnf
  refine ⟨?_, ?_, ?_⟩
  iterate 2 · repeat' (first | exact trivial | exact rfl | refine And.intro ?_ ?_ | ((conv=>whnf); first | exact trivial | exact rfl | refine And.intro ?_ ?_ | omega))
  conv=>whnf
  refine call_step cM (by exact rfl) (by exact rfl) ?_
  conv=>whnf
  refine ⟨?_, ?_, ?_⟩
  iterate 2 · repeat' (first | exact trivial | exact rfl | refine And.intro ?_ ?_ | ((conv=>whnf); first | exact trivial | exact rfl | refine And.intro ?_ ?_ | omega))
  conv=>whnf
  refine call_step cMt (by exact rfl) (by exact rfl) ?_
  conv=>whnf
  refine ⟨?_, ?_, ?_⟩
  iterate 2 · repeat' (first | exact trivial | exact rfl | refine And.intro ?_ ?_ | ((conv=>whnf); first | exact trivial | exact rfl | refine And.intro ?_ ?_ | omega))
  conv=>whnf
  refine ⟨fun hc => absurd (show (P.2 != P.2) = true from hc) (by simp), fun hc => ?_⟩
  conv=>whnf
  refine call_step cY (by exact rfl) (by exact rfl) ?_
  conv=>whnf
  refine ⟨?_, ?_, ?_⟩
  iterate 2 · repeat' (first | exact trivial | exact rfl | refine And.intro ?_ ?_ | ((conv=>whnf); first | exact trivial | exact rfl | refine And.intro ?_ ?_ | omega))
  conv=>whnf
  refine ⟨fun hc => absurd hc (by simp), fun hc => ?_⟩
  conv=>whnf
  refine ⟨fun hc => absurd (show ([M.1.1, M.1.2] != [M.1.1, M.1.2]) = true from hc) (by simp), fun hc => ?_⟩
  conv=>whnf
  refine ⟨fun hc => absurd (show (M.2 != M.2) = true from hc) (by simp), fun hc => ?_⟩
  conv=>whnf
  refine call_step hCt (by exact rfl) (by exact rfl) ?_
  conv=>whnf
  refine ⟨?_, ?_, ?_⟩
  iterate 2 · repeat' (first | exact trivial | exact rfl | refine And.intro ?_ ?_ | ((conv=>whnf); first | exact trivial | exact rfl | refine And.intro ?_ ?_ | omega))
  conv=>whnf
  refine ⟨fun hc => absurd hc (by simp), fun hc => ?_⟩
  conv=>whnf
  refine call_step cS (by exact rfl) (by exact rfl) ?_
  conv=>whnf
  refine ⟨?_, ?_, ?_⟩
  iterate 2 · repeat' (first | exact trivial | exact rfl | refine And.intro ?_ ?_ | ((conv=>whnf); first | exact trivial | exact rfl | refine And.intro ?_ ?_ | omega))
  conv=>whnf
  refine call_step cSt (by exact rfl) (by exact rfl) ?_
  conv=>whnf
  refine ⟨?_, ?_, ?_⟩
  iterate 2 · repeat' (first | exact trivial | exact rfl | refine And.intro ?_ ?_ | ((conv=>whnf); first | exact trivial | exact rfl | refine And.intro ?_ ?_ | omega))
  conv=>whnf
  refine call_step cN (by exact rfl) (by exact rfl) ?_
  conv=>whnf
  refine ⟨?_, ?_, ?_⟩
  iterate 2 · repeat' (first | exact trivial | exact rfl | refine And.intro ?_ ?_ | ((conv=>whnf); first | exact trivial | exact rfl | refine And.intro ?_ ?_ | omega))
  conv=>whnf
  refine call_step cNt (by exact rfl) (by exact rfl) ?_
  conv=>whnf
  refine ⟨?_, ?_, ?_⟩
  iterate 2 · repeat' (first | exact trivial | exact rfl | refine And.intro ?_ ?_ | ((conv=>whnf); first | exact trivial | exact rfl | refine And.intro ?_ ?_ | omega))
  conv=>whnf
  refine ⟨fun hc => absurd (show (S.2 != S.2) = true from hc) (by simp), fun hc => ?_⟩
  conv=>whnf
  refine call_step cI1 (by exact rfl) (by exact rfl) ?_
  conv=>whnf
  refine ⟨?_, ?_, ?_⟩
  iterate 2 · repeat' (first | exact trivial | exact rfl | refine And.intro ?_ ?_ | ((conv=>whnf); first | exact trivial | exact rfl | refine And.intro ?_ ?_ | omega))
  conv=>whnf
  refine ⟨fun hc => absurd hc (by simp), fun hc => ?_⟩
  conv=>whnf
  refine ⟨fun hc => absurd (show (N.2 != N.2) = true from hc) (by simp), fun hc => ?_⟩
  conv=>whnf
  refine call_step cI2 (by exact rfl) (by exact rfl) ?_
  conv=>whnf
  refine ⟨?_, ?_, ?_⟩
  iterate 2 · repeat' (first | exact trivial | exact rfl | refine And.intro ?_ ?_ | ((conv=>whnf); first | exact trivial | exact rfl | refine And.intro ?_ ?_ | omega))
  conv=>whnf
  refine ⟨fun hc => absurd hc (by simp), fun hc => ?_⟩
  conv=>whnf
  refine call_step cG (by exact rfl) (by exact rfl) ?_
  conv=>whnf
  refine ⟨?_, ?_, ?_⟩
  iterate 2 · repeat' (first | exact trivial | exact rfl | refine And.intro ?_ ?_ | ((conv=>whnf); first | exact trivial | exact rfl | refine And.intro ?_ ?_ | omega))
  conv=>whnf
  refine call_step cGt (by exact rfl) (by exact rfl) ?_
  conv=>whnf
  refine ⟨?_, ?_, ?_⟩
  iterate 2 · repeat' (first | exact trivial | exact rfl | refine And.intro ?_ ?_ | ((conv=>whnf); first | exact trivial | exact rfl | refine And.intro ?_ ?_ | omega))
  conv=>whnf
  refine call_step sanity_t (by exact rfl) (by exact rfl) ?_
  conv=>whnf
  refine ⟨?_, ?_, ?_⟩
  iterate 2 · repeat' (first | exact trivial | exact rfl | refine And.intro ?_ ?_ | ((conv=>whnf); first | exact trivial | exact rfl | refine And.intro ?_ ?_ | omega))
  conv=>whnf
  refine ⟨fun hc => ?_, fun hc => absurd hc (by simp)⟩
  conv=>whnf
  refine ⟨fun hc => ?_, fun hc => absurd hc (by simp)⟩
  conv=>whnf
  refine ⟨fun hc => ?_, fun hc => absurd hc (by simp)⟩
  conv=>whnf
  refine call_step cSame (by exact rfl) (by exact rfl) ?_
  conv=>whnf
  refine ⟨?_, ?_, ?_⟩
  iterate 2 · repeat' (first | exact trivial | exact rfl | refine And.intro ?_ ?_ | ((conv=>whnf); first | exact trivial | exact rfl | refine And.intro ?_ ?_ | omega))
  conv=>whnf
  repeat' (first | exact trivial | exact rfl | refine And.intro ?_ ?_ | ((conv=>whnf); first | exact trivial | exact rfl | refine And.intro ?_ ?_ | omega))

end Go.Proofs

