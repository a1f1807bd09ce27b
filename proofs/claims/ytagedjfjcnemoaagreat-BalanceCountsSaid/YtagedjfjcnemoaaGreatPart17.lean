/-
  A part of the proof that a law answers true: lemmas of a symbolic walk, plain functions, or contracts of the functions walked (R4, R5). Conditions: none.
-/
import Derived.Test.YtagedjfjcnemoaaGreatPart16
set_option maxRecDepth 100000
set_option linter.unusedVariables false
set_option linter.unusedSimpArgs false
namespace Go.Proofs
open Go.Sx

def eqI (x y : Int) : Bool := x == y
theorem eqI_t {x y : Int} (h : eqI x y = true) : x = y := by simpa [eqI] using h
theorem eqI_r (x : Int) : eqI x x = true := by simp [eqI]
def eqThg (x y : Thg) : Bool := thgL x == thgL y
theorem thgL_inj {x y : Thg} (h : thgL x = thgL y) : x = y := by
  obtain ⟨⟩ := x
  obtain ⟨⟩ := y
  simp [thgL] at h
  simp_all
theorem eqThg_t {x y : Thg} (h : eqThg x y = true) : x = y := thgL_inj (by simpa [eqThg] using h)
theorem eqThg_r (x : Thg) : eqThg x x = true := by simp [eqThg]
def eqMom (x y : Mom) : Bool := momL x == momL y
theorem momL_inj {x y : Mom} (h : momL x = momL y) : x = y := by
  obtain ⟨⟩ := x
  obtain ⟨⟩ := y
  simp [momL] at h
  simp_all
theorem eqMom_t {x y : Mom} (h : eqMom x y = true) : x = y := momL_inj (by simpa [eqMom] using h)
theorem eqMom_r (x : Mom) : eqMom x x = true := by simp [eqMom]

theorem compS_snoc {α : Type} [DecidableEq α] {x y : α} : ∀ l : List α, compS (l ++ [x, y]) = if x = y then compS (l ++ [x]) else compS (l ++ [x]) ++ [y]
  | [] => by
    simp only [List.nil_append, compS]
    by_cases h : x = y
    · rw [if_pos h, if_pos h, h]
    · rw [if_neg h, if_neg h]; rfl
  | [a] => by
    have ih := compS_snoc (x := x) (y := y) []
    have u1 : compS ([a] ++ [x, y]) = if a = x then compS [x, y] else a :: compS [x, y] := rfl
    have u2 : compS ([a] ++ [x]) = if a = x then compS [x] else a :: compS [x] := rfl
    rw [List.nil_append, List.nil_append] at ih
    rw [u1, u2, ih]
    by_cases h : x = y <;> by_cases h2 : a = x
    · rw [if_pos h, if_pos h, if_pos h2]
    · rw [if_pos h, if_pos h, if_neg h2]
    · rw [if_neg h, if_neg h, if_pos h2, if_pos h2]
    · rw [if_neg h, if_neg h, if_neg h2, if_neg h2]; rfl
  | a :: b :: r => by
    have ih := compS_snoc (x := x) (y := y) (b :: r)
    have u1 : compS ((a :: b :: r) ++ [x, y]) = if a = b then compS ((b :: r) ++ [x, y]) else a :: compS ((b :: r) ++ [x, y]) := rfl
    have u2 : compS ((a :: b :: r) ++ [x]) = if a = b then compS ((b :: r) ++ [x]) else a :: compS ((b :: r) ++ [x]) := rfl
    rw [u1, u2, ih]
    by_cases h : x = y <;> by_cases h2 : a = b
    · rw [if_pos h, if_pos h, if_pos h2]
    · rw [if_pos h, if_pos h, if_neg h2]
    · rw [if_neg h, if_neg h, if_pos h2, if_pos h2]
    · rw [if_neg h, if_neg h, if_neg h2, if_neg h2]; rfl

theorem compS_take {α : Type} [DecidableEq α] {xs : List α} {j : Nat} (h1 : 1 ≤ j) (h : j < xs.length) :
    compS (xs.take (j + 1)) = if xs[j - 1]'(by omega) = xs[j] then compS (xs.take j) else compS (xs.take j) ++ [xs[j]] := by
  obtain ⟨i, rfl⟩ : ∃ i, j = i + 1 := ⟨j - 1, by omega⟩
  have e2 : xs.take (i + 1) = xs.take i ++ [xs[i]] := by rw [List.take_add_one, List.getElem?_eq_getElem (by omega)]; rfl
  have e1 : xs.take (i + 1 + 1) = xs.take i ++ [xs[i], xs[i + 1]] := by rw [List.take_add_one, List.getElem?_eq_getElem h, e2, List.append_assoc]; rfl
  rw [e1, e2, compS_snoc]
  simp only [Nat.add_sub_cancel]

theorem compS_same {α : Type} [DecidableEq α] {xs : List α} {k : Nat} (hk : k ≤ xs.length) (h : compS (xs.take k) = xs.take k) (h1 : 1 ≤ k) (hlt : k < xs.length) (hne : ¬ xs[k - 1]'(by omega) = xs[k]) : compS (xs.take (k + 1)) = xs.take (k + 1) := by
  rw [compS_take h1 hlt, if_neg hne, h, List.take_add_one, List.getElem?_eq_getElem hlt]; rfl

theorem compactInt_t (xs : List Int) (h : xs.length ≤ 1000000) : Triple Tryz.prog 221 [.c (.s 0 0 xs.length 1)] [(0, true, .arr (aInt xs))] 1 (.c (.s 0 0 (compS xs).length 1)) [(0, true, .arr (aInt (compS xs)))] := by
  refine triple_of tB_ok Tryz.func221 rfl Tryz.call221 rfl ?_
  intro ρ w hH
  conv=>whnf
  refine ⟨fun hc => ?_, fun hc => ?_⟩
  · have hl : xs.length < 2 := by have := of_decide_eq_true (show decide ((xs.length : Int) < 2) = true from hc); omega
    have e : compS xs = xs := by
      match xs, hl with
      | [], _ => rfl
      | [x], _ => rfl
    rw [e]
    conv=>whnf
    repeat' (first | exact trivial | exact rfl | refine And.intro ?_ ?_ | ((conv=>whnf); first | exact trivial | exact rfl | refine And.intro ?_ ?_ | omega))
  have hl : ¬ xs.length < 2 := by have := of_decide_eq_false (show decide ((xs.length : Int) < 2) = false from hc); omega
  conv=>whnf
  refine loop_step tB_ok (G := Nat) 0 [] (fun k => [(3, iv .i64 k)]) (fun _ => [(0, true, .arr (aInt xs))]) (fun k => 1 ≤ k ∧ k ≤ xs.length ∧ compS (xs.take k) = xs.take k) (fun k => xs.length - k) ?_
  conv=>whnf
  refine ⟨⟨1, ⟨Nat.le_refl _, by omega, ?_⟩, ?_⟩, ?_⟩
  · match xs, hl with
    | x :: r, _ => rfl
  · conv=>whnf
    repeat' (first | exact trivial | exact rfl | refine And.intro ?_ ?_ | ((conv=>whnf); first | exact trivial | exact rfl | refine And.intro ?_ ?_ | omega))
  rintro k ⟨h1, h2, h3⟩ ρ1 t1 hρ1
  dsimp only
  conv=>whnf
  refine ⟨fun hc => ?_, fun hc => ?_⟩
  · have hlt : k < xs.length := by simpa using hc
    conv=>whnf
    refine ⟨k, rfl, hlt, hlt, ?_⟩
    conv=>whnf
    obtain ⟨j, rfl⟩ : ∃ j, k = j + 1 := ⟨k - 1, by omega⟩
    refine ⟨(j : Nat), by have e : ((j + 1 : Nat) : Int) - 1 = (j : Nat) := by omega
                          rw [e]; exact wrapId (z := (j : Int)) ⟨by omega, by omega⟩, ?_⟩
    conv=>whnf
    refine ⟨j, rfl, (show j < xs.length by omega), (show j < xs.length by omega), ?_⟩
    conv=>whnf
    refine ⟨fun hc => ?_, fun hc => ?_⟩
    · have heq : xs[j + 1] = xs[j] := eqI_t (show eqI xs[j + 1] xs[j] = true from hc)
      conv=>whnf
      refine ⟨Nat.le_refl _, ?_⟩
      conv=>whnf
      refine ⟨j + 1, rfl, ?_⟩
      conv=>whnf
      refine ⟨h2, ?_⟩
      conv=>whnf
      have hcj : (compS (xs.take (j + 1))).length = j + 1 := by rw [h3, List.length_take]; omega
      have e0 : xs = compS (xs.take (j + 1 + 1)) ++ xs.drop (j + 1) := by
        rw [compS_take (by omega) hlt, if_pos (by simpa using heq.symm), h3, List.take_append_drop]
      refine loop_step tB_ok (G := Nat × Nat × List Int) 0 [] (fun g => [(5, iv .i64 g.2.1), (3, iv .i64 g.1)]) (fun g => [(0, true, .arr (aInt g.2.2))])
        (fun g => 1 ≤ g.2.1 ∧ j + 1 + g.2.1 ≤ xs.length ∧ g.1 = (compS (xs.take (j + 1 + g.2.1))).length ∧ g.1 ≤ j + g.2.1 ∧ g.2.2 = compS (xs.take (j + 1 + g.2.1)) ++ xs.drop g.1) (fun g => xs.length - g.2.1) ?_
      conv=>whnf
      refine ⟨⟨(j + 1, 1, xs), ⟨Nat.le_refl _, (show j + 1 + 1 ≤ xs.length from hlt), ?_, Nat.le_refl _, e0⟩, ?_⟩, ?_⟩
      · rw [compS_take (by omega) hlt, if_pos (by simpa using heq.symm)]; exact hcj.symm
      · conv=>whnf
        repeat' (first | exact trivial | exact rfl | refine And.intro ?_ ?_ | ((conv=>whnf); first | exact trivial | exact rfl | refine And.intro ?_ ?_ | omega))
      rintro ⟨k, m, ys⟩ ⟨g1, g2, g3, g4, g5⟩ ρ2 t2 hρ2
      dsimp only at g1 g2 g3 g4 g5 ⊢
      have hyl : ys.length = xs.length := by rw [g5, List.length_append, ← g3, List.length_drop]; omega
      have hyg : ∀ i, k ≤ i → ys[i]? = xs[i]? := by
        intro i hi
        rw [g5, List.getElem?_append_right (by omega), ← g3, List.getElem?_drop]
        congr 1; omega
      conv=>whnf
      refine ⟨fun hc => ?_, fun hc => ?_⟩
      · have hm : j + 1 + m < xs.length := by have := of_decide_eq_true (show decide ((m : Int) < ((xs.length - (j + 1) : Nat) : Int)) = true from hc); omega
        have hms : m < xs.length - (j + 1) := by omega
        have hmy : j + 1 + m < ys.length := by omega
        conv=>whnf
        refine ⟨m, rfl, hms, hmy, ?_⟩
        conv=>whnf
        obtain ⟨i, rfl⟩ : ∃ i, m = i + 1 := ⟨m - 1, by omega⟩
        refine ⟨(i : Nat), by have e : ((i + 1 : Nat) : Int) - 1 = (i : Nat) := by omega
                              rw [e]; exact wrapId (z := (i : Int)) ⟨by omega, by omega⟩, ?_⟩
        conv=>whnf
        refine ⟨i, rfl, (show i < xs.length - (j + 1) by omega), (show j + 1 + i < ys.length by omega), ?_⟩
        conv=>whnf
        have hkl : k < ys.length := by omega
        have ea : ys[j + 1 + (i + 1)]'hmy = xs[j + 1 + (i + 1)]'hm := by
          have := hyg (j + 1 + (i + 1)) (by omega)
          rw [List.getElem?_eq_getElem hmy, List.getElem?_eq_getElem hm] at this
          exact Option.some.inj this
        have eb : ys[j + 1 + i]'(by omega) = xs[j + 1 + i]'(by omega) := by
          have := hyg (j + 1 + i) (by omega)
          rw [List.getElem?_eq_getElem (by omega), List.getElem?_eq_getElem (by omega)] at this
          exact Option.some.inj this
        have hct : compS (xs.take (j + 1 + (i + 1) + 1)) = if xs[j + 1 + i]'(by omega) = xs[j + 1 + (i + 1)]'hm then compS (xs.take (j + 1 + (i + 1))) else compS (xs.take (j + 1 + (i + 1))) ++ [xs[j + 1 + (i + 1)]'hm] := compS_take (xs := xs) (j := j + 1 + (i + 1)) (by omega) hm
        refine ⟨fun hc => ?_, fun hc => ?_⟩
        · have hne : ¬ xs[j + 1 + i]'(by omega) = xs[j + 1 + (i + 1)] := fun he => by
            have hb : eqI (ys[j + 1 + (i + 1)]'hmy) (ys[j + 1 + i]'(by omega)) = true := by rw [ea, eb, he]; exact eqI_r _
            have hb2 : (!eqI (ys[j + 1 + (i + 1)]'hmy) (ys[j + 1 + i]'(by omega))) = true := hc
            rw [hb] at hb2; cases hb2
          conv=>whnf
          refine ⟨i + 1, rfl, hms, hmy, ?_⟩
          conv=>whnf
          refine ⟨k, rfl, (show k < xs.length by omega), hkl, ?_⟩
          conv=>whnf
          refine ⟨ys[j + 1 + (i + 1)]'hmy, rfl, ?_⟩
          conv=>whnf
          refine ⟨(k : Int) + 1, wrapId (z := (k : Int) + 1) ⟨by omega, by omega⟩, ?_⟩
          conv=>whnf
          refine ⟨((i + 1 : Nat) : Int) + 1, wrapId (z := ((i + 1 : Nat) : Int) + 1) ⟨by omega, by omega⟩, ?_⟩
          conv=>whnf
          rw [if_neg hne] at hct
          have hnew : ys.set k (ys[j + 1 + (i + 1)]'hmy) = compS (xs.take (j + 1 + (i + 2))) ++ xs.drop (k + 1) := by
            have e3 : xs.take (j + 1 + (i + 2)) = xs.take (j + 1 + (i + 1) + 1) := rfl
            rw [e3, hct, ea, g5, List.set_append_right _ _ (by omega), ← g3, Nat.sub_self, List.drop_eq_getElem_cons (show k < xs.length by omega), List.append_assoc]
            rfl
          refine ⟨(k + 1, i + 2, ys.set k (ys[j + 1 + (i + 1)]'hmy)), ⟨(show 1 ≤ i + 2 by omega), (show j + 1 + (i + 2) ≤ xs.length by omega), ?_, (show k + 1 ≤ j + (i + 2) by omega), hnew⟩, (show xs.length - (i + 2) < xs.length - (i + 1) by omega), ?_⟩
          · show k + 1 = (compS (xs.take (j + 1 + (i + 1) + 1))).length
            rw [hct, List.length_append, ← g3]; rfl
          conv=>whnf
          refine ⟨rfl, ?_⟩
          conv=>whnf
          repeat' (first | exact trivial | exact rfl | refine And.intro ?_ ?_ | ((conv=>whnf); first | exact trivial | exact rfl | refine And.intro ?_ ?_ | omega))
        · have heq2 : xs[j + 1 + i]'(by omega) = xs[j + 1 + (i + 1)] := by
            have hb2 : (!eqI (ys[j + 1 + (i + 1)]'hmy) (ys[j + 1 + i]'(by omega))) = false := hc
            rw [ea, eb] at hb2
            exact (eqI_t (by simpa using hb2)).symm
          conv=>whnf
          refine ⟨((i + 1 : Nat) : Int) + 1, wrapId (z := ((i + 1 : Nat) : Int) + 1) ⟨by omega, by omega⟩, ?_⟩
          conv=>whnf
          rw [if_pos heq2] at hct
          have e3 : compS (xs.take (j + 1 + (i + 2))) = compS (xs.take (j + 1 + (i + 1))) := hct
          refine ⟨(k, i + 2, ys), ⟨(show 1 ≤ i + 2 by omega), (show j + 1 + (i + 2) ≤ xs.length by omega), by rw [e3]; exact g3, (show k ≤ j + (i + 2) by omega), by rw [e3]; exact g5⟩, (show xs.length - (i + 2) < xs.length - (i + 1) by omega), ?_⟩
          conv=>whnf
          refine ⟨rfl, ?_⟩
          conv=>whnf
          repeat' (first | exact trivial | exact rfl | refine And.intro ?_ ?_ | ((conv=>whnf); first | exact trivial | exact rfl | refine And.intro ?_ ?_ | omega))
      · have hm : j + 1 + m = xs.length := by have hq := of_decide_eq_false (show decide ((m : Int) < ((xs.length - (j + 1) : Nat) : Int)) = false from hc); omega
        rw [hm, List.take_length] at g3 g5
        have hkl : k ≤ xs.length := by omega
        conv=>whnf
        refine ⟨Nat.le_refl _, ?_⟩
        conv=>whnf
        refine ⟨k, rfl, hkl, ?_⟩
        conv=>whnf
        refine clear_step tB_ok rfl rfl rfl rfl ?_
        conv=>whnf
        refine ⟨⟨rfl, ?_⟩, ?_⟩
        · show addN 0 k + subN xs.length k ≤ ys.length
          rw [addN_eq, subN_eq]; omega
        conv=>whnf
        refine ⟨k, rfl, hkl, ?_⟩
        conv=>whnf
        refine ⟨Nat.zero_le _, ?_⟩
        have hys : ys.take k = compS xs := by rw [g5, List.take_left' g3.symm]
        conv=>whnf
        repeat' (first | exact trivial | exact rfl | refine And.intro ?_ ?_ | ((conv=>whnf); first | exact trivial | exact rfl | refine And.intro ?_ ?_ | omega))
        all_goals first | (rw [subN_eq]; omega) | (rw [← hys]; repeat' (first | exact trivial | exact rfl | refine And.intro ?_ ?_ | ((conv=>whnf); first | exact trivial | exact rfl | refine And.intro ?_ ?_ | omega)))
    · have hne : ¬ xs[j] = xs[j + 1] := fun he => by have h3 : eqI xs[j + 1] xs[j] = false := hc; rw [he, eqI_r] at h3; cases h3
      conv=>whnf
      refine ⟨_, wrapId ⟨by omega, by omega⟩, ?_⟩
      refine ⟨j + 2, ⟨by omega, hlt, compS_same h2 h3 (by omega) hlt hne⟩, by omega, ?_⟩
      conv=>whnf
      refine ⟨rfl, ?_⟩
      conv=>whnf
      repeat' (first | exact trivial | exact rfl | refine And.intro ?_ ?_ | ((conv=>whnf); first | exact trivial | exact rfl | refine And.intro ?_ ?_ | omega))
  have hk : k = xs.length := by simp at hc; omega
  rw [hk, List.take_length] at h3
  rw [h3]
  conv=>whnf
  repeat' (first | exact trivial | exact rfl | refine And.intro ?_ ?_ | ((conv=>whnf); first | exact trivial | exact rfl | refine And.intro ?_ ?_ | omega))

theorem compactThg_t (xs : List Thg) (h : xs.length ≤ 1000000) : Triple Tryz.prog 224 [.c (.s 0 0 xs.length 4)] [(0, true, .arr (aThg xs))] 1 (.c (.s 0 0 (compS xs).length 4)) [(0, true, .arr (aThg (compS xs)))] := by
  refine triple_of tB_ok Tryz.func224 rfl Tryz.call224 rfl ?_
  intro ρ w hH
  conv=>whnf
  refine ⟨fun hc => ?_, fun hc => ?_⟩
  · have hl : xs.length < 2 := by have := of_decide_eq_true (show decide ((xs.length : Int) < 2) = true from hc); omega
    have e : compS xs = xs := by
      match xs, hl with
      | [], _ => rfl
      | [x], _ => rfl
    rw [e]
    conv=>whnf
    repeat' (first | exact trivial | exact rfl | refine And.intro ?_ ?_ | ((conv=>whnf); first | exact trivial | exact rfl | refine And.intro ?_ ?_ | omega))
  have hl : ¬ xs.length < 2 := by have := of_decide_eq_false (show decide ((xs.length : Int) < 2) = false from hc); omega
  conv=>whnf
  refine loop_step tB_ok (G := Nat) 0 [] (fun k => [(3, iv .i64 k)]) (fun _ => [(0, true, .arr (aThg xs))]) (fun k => 1 ≤ k ∧ k ≤ xs.length ∧ compS (xs.take k) = xs.take k) (fun k => xs.length - k) ?_
  conv=>whnf
  refine ⟨⟨1, ⟨Nat.le_refl _, by omega, ?_⟩, ?_⟩, ?_⟩
  · match xs, hl with
    | x :: r, _ => rfl
  · conv=>whnf
    repeat' (first | exact trivial | exact rfl | refine And.intro ?_ ?_ | ((conv=>whnf); first | exact trivial | exact rfl | refine And.intro ?_ ?_ | omega))
  rintro k ⟨h1, h2, h3⟩ ρ1 t1 hρ1
  dsimp only
  conv=>whnf
  refine ⟨fun hc => ?_, fun hc => ?_⟩
  · have hlt : k < xs.length := by simpa using hc
    conv=>whnf
    refine ⟨k, rfl, hlt, hlt, ?_⟩
    conv=>whnf
    obtain ⟨j, rfl⟩ : ∃ j, k = j + 1 := ⟨k - 1, by omega⟩
    refine ⟨(j : Nat), by have e : ((j + 1 : Nat) : Int) - 1 = (j : Nat) := by omega
                          rw [e]; exact wrapId (z := (j : Int)) ⟨by omega, by omega⟩, ?_⟩
    conv=>whnf
    refine ⟨j, rfl, (show j < xs.length by omega), (show j < xs.length by omega), ?_⟩
    conv=>whnf
    refine ⟨fun hc => ?_, fun hc => ?_⟩
    · have heq : xs[j + 1] = xs[j] := eqThg_t (show eqThg xs[j + 1] xs[j] = true from hc)
      conv=>whnf
      refine ⟨Nat.le_refl _, ?_⟩
      conv=>whnf
      refine ⟨j + 1, rfl, ?_⟩
      conv=>whnf
      refine ⟨h2, ?_⟩
      conv=>whnf
      have hcj : (compS (xs.take (j + 1))).length = j + 1 := by rw [h3, List.length_take]; omega
      have e0 : xs = compS (xs.take (j + 1 + 1)) ++ xs.drop (j + 1) := by
        rw [compS_take (by omega) hlt, if_pos (by simpa using heq.symm), h3, List.take_append_drop]
      refine loop_step tB_ok (G := Nat × Nat × List Thg) 0 [] (fun g => [(5, iv .i64 g.2.1), (3, iv .i64 g.1)]) (fun g => [(0, true, .arr (aThg g.2.2))])
        (fun g => 1 ≤ g.2.1 ∧ j + 1 + g.2.1 ≤ xs.length ∧ g.1 = (compS (xs.take (j + 1 + g.2.1))).length ∧ g.1 ≤ j + g.2.1 ∧ g.2.2 = compS (xs.take (j + 1 + g.2.1)) ++ xs.drop g.1) (fun g => xs.length - g.2.1) ?_
      conv=>whnf
      refine ⟨⟨(j + 1, 1, xs), ⟨Nat.le_refl _, (show j + 1 + 1 ≤ xs.length from hlt), ?_, Nat.le_refl _, e0⟩, ?_⟩, ?_⟩
      · rw [compS_take (by omega) hlt, if_pos (by simpa using heq.symm)]; exact hcj.symm
      · conv=>whnf
        repeat' (first | exact trivial | exact rfl | refine And.intro ?_ ?_ | ((conv=>whnf); first | exact trivial | exact rfl | refine And.intro ?_ ?_ | omega))
      rintro ⟨k, m, ys⟩ ⟨g1, g2, g3, g4, g5⟩ ρ2 t2 hρ2
      dsimp only at g1 g2 g3 g4 g5 ⊢
      have hyl : ys.length = xs.length := by rw [g5, List.length_append, ← g3, List.length_drop]; omega
      have hyg : ∀ i, k ≤ i → ys[i]? = xs[i]? := by
        intro i hi
        rw [g5, List.getElem?_append_right (by omega), ← g3, List.getElem?_drop]
        congr 1; omega
      conv=>whnf
      refine ⟨fun hc => ?_, fun hc => ?_⟩
      · have hm : j + 1 + m < xs.length := by have := of_decide_eq_true (show decide ((m : Int) < ((xs.length - (j + 1) : Nat) : Int)) = true from hc); omega
        have hms : m < xs.length - (j + 1) := by omega
        have hmy : j + 1 + m < ys.length := by omega
        conv=>whnf
        refine ⟨m, rfl, hms, hmy, ?_⟩
        conv=>whnf
        obtain ⟨i, rfl⟩ : ∃ i, m = i + 1 := ⟨m - 1, by omega⟩
        refine ⟨(i : Nat), by have e : ((i + 1 : Nat) : Int) - 1 = (i : Nat) := by omega
                              rw [e]; exact wrapId (z := (i : Int)) ⟨by omega, by omega⟩, ?_⟩
        conv=>whnf
        refine ⟨i, rfl, (show i < xs.length - (j + 1) by omega), (show j + 1 + i < ys.length by omega), ?_⟩
        conv=>whnf
        have hkl : k < ys.length := by omega
        have ea : ys[j + 1 + (i + 1)]'hmy = xs[j + 1 + (i + 1)]'hm := by
          have := hyg (j + 1 + (i + 1)) (by omega)
          rw [List.getElem?_eq_getElem hmy, List.getElem?_eq_getElem hm] at this
          exact Option.some.inj this
        have eb : ys[j + 1 + i]'(by omega) = xs[j + 1 + i]'(by omega) := by
          have := hyg (j + 1 + i) (by omega)
          rw [List.getElem?_eq_getElem (by omega), List.getElem?_eq_getElem (by omega)] at this
          exact Option.some.inj this
        have hct : compS (xs.take (j + 1 + (i + 1) + 1)) = if xs[j + 1 + i]'(by omega) = xs[j + 1 + (i + 1)]'hm then compS (xs.take (j + 1 + (i + 1))) else compS (xs.take (j + 1 + (i + 1))) ++ [xs[j + 1 + (i + 1)]'hm] := compS_take (xs := xs) (j := j + 1 + (i + 1)) (by omega) hm
        refine ⟨fun hc => ?_, fun hc => ?_⟩
        · have hne : ¬ xs[j + 1 + i]'(by omega) = xs[j + 1 + (i + 1)] := fun he => by
            have hb : eqThg (ys[j + 1 + (i + 1)]'hmy) (ys[j + 1 + i]'(by omega)) = true := by rw [ea, eb, he]; exact eqThg_r _
            have hb2 : (!eqThg (ys[j + 1 + (i + 1)]'hmy) (ys[j + 1 + i]'(by omega))) = true := hc
            rw [hb] at hb2; cases hb2
          conv=>whnf
          refine ⟨i + 1, rfl, hms, hmy, ?_⟩
          conv=>whnf
          refine ⟨k, rfl, (show k < xs.length by omega), hkl, ?_⟩
          conv=>whnf
          refine ⟨ys[j + 1 + (i + 1)]'hmy, rfl, ?_⟩
          conv=>whnf
          refine ⟨(k : Int) + 1, wrapId (z := (k : Int) + 1) ⟨by omega, by omega⟩, ?_⟩
          conv=>whnf
          refine ⟨((i + 1 : Nat) : Int) + 1, wrapId (z := ((i + 1 : Nat) : Int) + 1) ⟨by omega, by omega⟩, ?_⟩
          conv=>whnf
          rw [if_neg hne] at hct
          have hnew : ys.set k (ys[j + 1 + (i + 1)]'hmy) = compS (xs.take (j + 1 + (i + 2))) ++ xs.drop (k + 1) := by
            have e3 : xs.take (j + 1 + (i + 2)) = xs.take (j + 1 + (i + 1) + 1) := rfl
            rw [e3, hct, ea, g5, List.set_append_right _ _ (by omega), ← g3, Nat.sub_self, List.drop_eq_getElem_cons (show k < xs.length by omega), List.append_assoc]
            rfl
          refine ⟨(k + 1, i + 2, ys.set k (ys[j + 1 + (i + 1)]'hmy)), ⟨(show 1 ≤ i + 2 by omega), (show j + 1 + (i + 2) ≤ xs.length by omega), ?_, (show k + 1 ≤ j + (i + 2) by omega), hnew⟩, (show xs.length - (i + 2) < xs.length - (i + 1) by omega), ?_⟩
          · show k + 1 = (compS (xs.take (j + 1 + (i + 1) + 1))).length
            rw [hct, List.length_append, ← g3]; rfl
          conv=>whnf
          refine ⟨rfl, ?_⟩
          conv=>whnf
          repeat' (first | exact trivial | exact rfl | refine And.intro ?_ ?_ | ((conv=>whnf); first | exact trivial | exact rfl | refine And.intro ?_ ?_ | omega))
        · have heq2 : xs[j + 1 + i]'(by omega) = xs[j + 1 + (i + 1)] := by
            have hb2 : (!eqThg (ys[j + 1 + (i + 1)]'hmy) (ys[j + 1 + i]'(by omega))) = false := hc
            rw [ea, eb] at hb2
            exact (eqThg_t (by simpa using hb2)).symm
          conv=>whnf
          refine ⟨((i + 1 : Nat) : Int) + 1, wrapId (z := ((i + 1 : Nat) : Int) + 1) ⟨by omega, by omega⟩, ?_⟩
          conv=>whnf
          rw [if_pos heq2] at hct
          have e3 : compS (xs.take (j + 1 + (i + 2))) = compS (xs.take (j + 1 + (i + 1))) := hct
          refine ⟨(k, i + 2, ys), ⟨(show 1 ≤ i + 2 by omega), (show j + 1 + (i + 2) ≤ xs.length by omega), by rw [e3]; exact g3, (show k ≤ j + (i + 2) by omega), by rw [e3]; exact g5⟩, (show xs.length - (i + 2) < xs.length - (i + 1) by omega), ?_⟩
          conv=>whnf
          refine ⟨rfl, ?_⟩
          conv=>whnf
          repeat' (first | exact trivial | exact rfl | refine And.intro ?_ ?_ | ((conv=>whnf); first | exact trivial | exact rfl | refine And.intro ?_ ?_ | omega))
      · have hm : j + 1 + m = xs.length := by have hq := of_decide_eq_false (show decide ((m : Int) < ((xs.length - (j + 1) : Nat) : Int)) = false from hc); omega
        rw [hm, List.take_length] at g3 g5
        have hkl : k ≤ xs.length := by omega
        conv=>whnf
        refine ⟨Nat.le_refl _, ?_⟩
        conv=>whnf
        refine ⟨k, rfl, hkl, ?_⟩
        conv=>whnf
        refine clear_step tB_ok rfl rfl rfl rfl ?_
        conv=>whnf
        refine ⟨⟨rfl, ?_⟩, ?_⟩
        · show addN 0 k + subN xs.length k ≤ ys.length
          rw [addN_eq, subN_eq]; omega
        conv=>whnf
        refine ⟨k, rfl, hkl, ?_⟩
        conv=>whnf
        refine ⟨Nat.zero_le _, ?_⟩
        have hys : ys.take k = compS xs := by rw [g5, List.take_left' g3.symm]
        conv=>whnf
        repeat' (first | exact trivial | exact rfl | refine And.intro ?_ ?_ | ((conv=>whnf); first | exact trivial | exact rfl | refine And.intro ?_ ?_ | omega))
        all_goals first | (rw [subN_eq]; omega) | (rw [← hys]; repeat' (first | exact trivial | exact rfl | refine And.intro ?_ ?_ | ((conv=>whnf); first | exact trivial | exact rfl | refine And.intro ?_ ?_ | omega)))
    · have hne : ¬ xs[j] = xs[j + 1] := fun he => by have h3 : eqThg xs[j + 1] xs[j] = false := hc; rw [he, eqThg_r] at h3; cases h3
      conv=>whnf
      refine ⟨_, wrapId ⟨by omega, by omega⟩, ?_⟩
      refine ⟨j + 2, ⟨by omega, hlt, compS_same h2 h3 (by omega) hlt hne⟩, by omega, ?_⟩
      conv=>whnf
      refine ⟨rfl, ?_⟩
      conv=>whnf
      repeat' (first | exact trivial | exact rfl | refine And.intro ?_ ?_ | ((conv=>whnf); first | exact trivial | exact rfl | refine And.intro ?_ ?_ | omega))
  have hk : k = xs.length := by simp at hc; omega
  rw [hk, List.take_length] at h3
  rw [h3]
  conv=>whnf
  repeat' (first | exact trivial | exact rfl | refine And.intro ?_ ?_ | ((conv=>whnf); first | exact trivial | exact rfl | refine And.intro ?_ ?_ | omega))

theorem compactMom_t (xs : List Mom) (h : xs.length ≤ 1000000) : Triple Tryz.prog 228 [.c (.s 0 0 xs.length 2)] [(0, true, .arr (aMom xs))] 1 (.c (.s 0 0 (compS xs).length 2)) [(0, true, .arr (aMom (compS xs)))] := by
  refine triple_of tB_ok Tryz.func228 rfl Tryz.call228 rfl ?_
  intro ρ w hH
  conv=>whnf
  refine ⟨fun hc => ?_, fun hc => ?_⟩
  · have hl : xs.length < 2 := by have := of_decide_eq_true (show decide ((xs.length : Int) < 2) = true from hc); omega
    have e : compS xs = xs := by
      match xs, hl with
      | [], _ => rfl
      | [x], _ => rfl
    rw [e]
    conv=>whnf
    repeat' (first | exact trivial | exact rfl | refine And.intro ?_ ?_ | ((conv=>whnf); first | exact trivial | exact rfl | refine And.intro ?_ ?_ | omega))
  have hl : ¬ xs.length < 2 := by have := of_decide_eq_false (show decide ((xs.length : Int) < 2) = false from hc); omega
  conv=>whnf
  refine loop_step tB_ok (G := Nat) 0 [] (fun k => [(3, iv .i64 k)]) (fun _ => [(0, true, .arr (aMom xs))]) (fun k => 1 ≤ k ∧ k ≤ xs.length ∧ compS (xs.take k) = xs.take k) (fun k => xs.length - k) ?_
  conv=>whnf
  refine ⟨⟨1, ⟨Nat.le_refl _, by omega, ?_⟩, ?_⟩, ?_⟩
  · match xs, hl with
    | x :: r, _ => rfl
  · conv=>whnf
    repeat' (first | exact trivial | exact rfl | refine And.intro ?_ ?_ | ((conv=>whnf); first | exact trivial | exact rfl | refine And.intro ?_ ?_ | omega))
  rintro k ⟨h1, h2, h3⟩ ρ1 t1 hρ1
  dsimp only
  conv=>whnf
  refine ⟨fun hc => ?_, fun hc => ?_⟩
  · have hlt : k < xs.length := by simpa using hc
    conv=>whnf
    refine ⟨k, rfl, hlt, hlt, ?_⟩
    conv=>whnf
    obtain ⟨j, rfl⟩ : ∃ j, k = j + 1 := ⟨k - 1, by omega⟩
    refine ⟨(j : Nat), by have e : ((j + 1 : Nat) : Int) - 1 = (j : Nat) := by omega
                          rw [e]; exact wrapId (z := (j : Int)) ⟨by omega, by omega⟩, ?_⟩
    conv=>whnf
    refine ⟨j, rfl, (show j < xs.length by omega), (show j < xs.length by omega), ?_⟩
    conv=>whnf
    refine ⟨fun hc => ?_, fun hc => ?_⟩
    · have heq : xs[j + 1] = xs[j] := eqMom_t (show eqMom xs[j + 1] xs[j] = true from hc)
      conv=>whnf
      refine ⟨Nat.le_refl _, ?_⟩
      conv=>whnf
      refine ⟨j + 1, rfl, ?_⟩
      conv=>whnf
      refine ⟨h2, ?_⟩
      conv=>whnf
      have hcj : (compS (xs.take (j + 1))).length = j + 1 := by rw [h3, List.length_take]; omega
      have e0 : xs = compS (xs.take (j + 1 + 1)) ++ xs.drop (j + 1) := by
        rw [compS_take (by omega) hlt, if_pos (by simpa using heq.symm), h3, List.take_append_drop]
      refine loop_step tB_ok (G := Nat × Nat × List Mom) 0 [] (fun g => [(5, iv .i64 g.2.1), (3, iv .i64 g.1)]) (fun g => [(0, true, .arr (aMom g.2.2))])
        (fun g => 1 ≤ g.2.1 ∧ j + 1 + g.2.1 ≤ xs.length ∧ g.1 = (compS (xs.take (j + 1 + g.2.1))).length ∧ g.1 ≤ j + g.2.1 ∧ g.2.2 = compS (xs.take (j + 1 + g.2.1)) ++ xs.drop g.1) (fun g => xs.length - g.2.1) ?_
      conv=>whnf
      refine ⟨⟨(j + 1, 1, xs), ⟨Nat.le_refl _, (show j + 1 + 1 ≤ xs.length from hlt), ?_, Nat.le_refl _, e0⟩, ?_⟩, ?_⟩
      · rw [compS_take (by omega) hlt, if_pos (by simpa using heq.symm)]; exact hcj.symm
      · conv=>whnf
        repeat' (first | exact trivial | exact rfl | refine And.intro ?_ ?_ | ((conv=>whnf); first | exact trivial | exact rfl | refine And.intro ?_ ?_ | omega))
      rintro ⟨k, m, ys⟩ ⟨g1, g2, g3, g4, g5⟩ ρ2 t2 hρ2
      dsimp only at g1 g2 g3 g4 g5 ⊢
      have hyl : ys.length = xs.length := by rw [g5, List.length_append, ← g3, List.length_drop]; omega
      have hyg : ∀ i, k ≤ i → ys[i]? = xs[i]? := by
        intro i hi
        rw [g5, List.getElem?_append_right (by omega), ← g3, List.getElem?_drop]
        congr 1; omega
      conv=>whnf
      refine ⟨fun hc => ?_, fun hc => ?_⟩
      · have hm : j + 1 + m < xs.length := by have := of_decide_eq_true (show decide ((m : Int) < ((xs.length - (j + 1) : Nat) : Int)) = true from hc); omega
        have hms : m < xs.length - (j + 1) := by omega
        have hmy : j + 1 + m < ys.length := by omega
        conv=>whnf
        refine ⟨m, rfl, hms, hmy, ?_⟩
        conv=>whnf
        obtain ⟨i, rfl⟩ : ∃ i, m = i + 1 := ⟨m - 1, by omega⟩
        refine ⟨(i : Nat), by have e : ((i + 1 : Nat) : Int) - 1 = (i : Nat) := by omega
                              rw [e]; exact wrapId (z := (i : Int)) ⟨by omega, by omega⟩, ?_⟩
        conv=>whnf
        refine ⟨i, rfl, (show i < xs.length - (j + 1) by omega), (show j + 1 + i < ys.length by omega), ?_⟩
        conv=>whnf
        have hkl : k < ys.length := by omega
        have ea : ys[j + 1 + (i + 1)]'hmy = xs[j + 1 + (i + 1)]'hm := by
          have := hyg (j + 1 + (i + 1)) (by omega)
          rw [List.getElem?_eq_getElem hmy, List.getElem?_eq_getElem hm] at this
          exact Option.some.inj this
        have eb : ys[j + 1 + i]'(by omega) = xs[j + 1 + i]'(by omega) := by
          have := hyg (j + 1 + i) (by omega)
          rw [List.getElem?_eq_getElem (by omega), List.getElem?_eq_getElem (by omega)] at this
          exact Option.some.inj this
        have hct : compS (xs.take (j + 1 + (i + 1) + 1)) = if xs[j + 1 + i]'(by omega) = xs[j + 1 + (i + 1)]'hm then compS (xs.take (j + 1 + (i + 1))) else compS (xs.take (j + 1 + (i + 1))) ++ [xs[j + 1 + (i + 1)]'hm] := compS_take (xs := xs) (j := j + 1 + (i + 1)) (by omega) hm
        refine ⟨fun hc => ?_, fun hc => ?_⟩
        · have hne : ¬ xs[j + 1 + i]'(by omega) = xs[j + 1 + (i + 1)] := fun he => by
            have hb : eqMom (ys[j + 1 + (i + 1)]'hmy) (ys[j + 1 + i]'(by omega)) = true := by rw [ea, eb, he]; exact eqMom_r _
            have hb2 : (!eqMom (ys[j + 1 + (i + 1)]'hmy) (ys[j + 1 + i]'(by omega))) = true := hc
            rw [hb] at hb2; cases hb2
          conv=>whnf
          refine ⟨i + 1, rfl, hms, hmy, ?_⟩
          conv=>whnf
          refine ⟨k, rfl, (show k < xs.length by omega), hkl, ?_⟩
          conv=>whnf
          refine ⟨ys[j + 1 + (i + 1)]'hmy, rfl, ?_⟩
          conv=>whnf
          refine ⟨(k : Int) + 1, wrapId (z := (k : Int) + 1) ⟨by omega, by omega⟩, ?_⟩
          conv=>whnf
          refine ⟨((i + 1 : Nat) : Int) + 1, wrapId (z := ((i + 1 : Nat) : Int) + 1) ⟨by omega, by omega⟩, ?_⟩
          conv=>whnf
          rw [if_neg hne] at hct
          have hnew : ys.set k (ys[j + 1 + (i + 1)]'hmy) = compS (xs.take (j + 1 + (i + 2))) ++ xs.drop (k + 1) := by
            have e3 : xs.take (j + 1 + (i + 2)) = xs.take (j + 1 + (i + 1) + 1) := rfl
            rw [e3, hct, ea, g5, List.set_append_right _ _ (by omega), ← g3, Nat.sub_self, List.drop_eq_getElem_cons (show k < xs.length by omega), List.append_assoc]
            rfl
          refine ⟨(k + 1, i + 2, ys.set k (ys[j + 1 + (i + 1)]'hmy)), ⟨(show 1 ≤ i + 2 by omega), (show j + 1 + (i + 2) ≤ xs.length by omega), ?_, (show k + 1 ≤ j + (i + 2) by omega), hnew⟩, (show xs.length - (i + 2) < xs.length - (i + 1) by omega), ?_⟩
          · show k + 1 = (compS (xs.take (j + 1 + (i + 1) + 1))).length
            rw [hct, List.length_append, ← g3]; rfl
          conv=>whnf
          refine ⟨rfl, ?_⟩
          conv=>whnf
          repeat' (first | exact trivial | exact rfl | refine And.intro ?_ ?_ | ((conv=>whnf); first | exact trivial | exact rfl | refine And.intro ?_ ?_ | omega))
        · have heq2 : xs[j + 1 + i]'(by omega) = xs[j + 1 + (i + 1)] := by
            have hb2 : (!eqMom (ys[j + 1 + (i + 1)]'hmy) (ys[j + 1 + i]'(by omega))) = false := hc
            rw [ea, eb] at hb2
            exact (eqMom_t (by simpa using hb2)).symm
          conv=>whnf
          refine ⟨((i + 1 : Nat) : Int) + 1, wrapId (z := ((i + 1 : Nat) : Int) + 1) ⟨by omega, by omega⟩, ?_⟩
          conv=>whnf
          rw [if_pos heq2] at hct
          have e3 : compS (xs.take (j + 1 + (i + 2))) = compS (xs.take (j + 1 + (i + 1))) := hct
          refine ⟨(k, i + 2, ys), ⟨(show 1 ≤ i + 2 by omega), (show j + 1 + (i + 2) ≤ xs.length by omega), by rw [e3]; exact g3, (show k ≤ j + (i + 2) by omega), by rw [e3]; exact g5⟩, (show xs.length - (i + 2) < xs.length - (i + 1) by omega), ?_⟩
          conv=>whnf
          refine ⟨rfl, ?_⟩
          conv=>whnf
          repeat' (first | exact trivial | exact rfl | refine And.intro ?_ ?_ | ((conv=>whnf); first | exact trivial | exact rfl | refine And.intro ?_ ?_ | omega))
      · have hm : j + 1 + m = xs.length := by have hq := of_decide_eq_false (show decide ((m : Int) < ((xs.length - (j + 1) : Nat) : Int)) = false from hc); omega
        rw [hm, List.take_length] at g3 g5
        have hkl : k ≤ xs.length := by omega
        conv=>whnf
        refine ⟨Nat.le_refl _, ?_⟩
        conv=>whnf
        refine ⟨k, rfl, hkl, ?_⟩
        conv=>whnf
        refine clear_step tB_ok rfl rfl rfl rfl ?_
        conv=>whnf
        refine ⟨⟨rfl, ?_⟩, ?_⟩
        · show addN 0 k + subN xs.length k ≤ ys.length
          rw [addN_eq, subN_eq]; omega
        conv=>whnf
        refine ⟨k, rfl, hkl, ?_⟩
        conv=>whnf
        refine ⟨Nat.zero_le _, ?_⟩
        have hys : ys.take k = compS xs := by rw [g5, List.take_left' g3.symm]
        conv=>whnf
        repeat' (first | exact trivial | exact rfl | refine And.intro ?_ ?_ | ((conv=>whnf); first | exact trivial | exact rfl | refine And.intro ?_ ?_ | omega))
        all_goals first | (rw [subN_eq]; omega) | (rw [← hys]; repeat' (first | exact trivial | exact rfl | refine And.intro ?_ ?_ | ((conv=>whnf); first | exact trivial | exact rfl | refine And.intro ?_ ?_ | omega)))
    · have hne : ¬ xs[j] = xs[j + 1] := fun he => by have h3 : eqMom xs[j + 1] xs[j] = false := hc; rw [he, eqMom_r] at h3; cases h3
      conv=>whnf
      refine ⟨_, wrapId ⟨by omega, by omega⟩, ?_⟩
      refine ⟨j + 2, ⟨by omega, hlt, compS_same h2 h3 (by omega) hlt hne⟩, by omega, ?_⟩
      conv=>whnf
      refine ⟨rfl, ?_⟩
      conv=>whnf
      repeat' (first | exact trivial | exact rfl | refine And.intro ?_ ?_ | ((conv=>whnf); first | exact trivial | exact rfl | refine And.intro ?_ ?_ | omega))
  have hk : k = xs.length := by simp at hc; omega
  rw [hk, List.take_length] at h3
  rw [h3]
  conv=>whnf
  repeat' (first | exact trivial | exact rfl | refine And.intro ?_ ?_ | ((conv=>whnf); first | exact trivial | exact rfl | refine And.intro ?_ ?_ | omega))

end Go.Proofs

namespace Go.Proofs
open Go.Sx

theorem isNaN_t (x : Int) : Triple Tryz.prog 215 [iv .i64 x] [] 0 (bv false) [] := by
  refine triple_of tB_ok Tryz.func215 rfl Tryz.call215 rfl ?_
  intro ρ w hH
  conv=>whnf
  exact ⟨(by simp : (x != x) = false), trivial⟩
theorem isNaNS_t (x : Int) : Triple Tryz.prog 256 [iv .i64 x] [] 0 (bv false) [] := by
  refine triple_of tB_ok Tryz.func256 rfl Tryz.call256 rfl ?_
  intro ρ w hH
  conv=>whnf
  exact ⟨(by simp : (x != x) = false), trivial⟩

theorem compare_t (a b : Int) : Triple Tryz.prog 157 [iv .i64 a, iv .i64 b] [] 0 (iv .i64 (cmpI a b)) [] := by
  have e : cmpI a b = if a < b then -1 else if b < a then 1 else 0 := rfl
  generalize cmpI a b = R at *
  refine triple_of tB_ok Tryz.func157 rfl Tryz.call157 rfl ?_
  intro ρ w hH
  conv=>whnf
  refine call_step (isNaN_t a) rfl rfl ?_
  conv=>whnf
  refine ⟨?_, ?_, ?_⟩
  iterate 2 · repeat' (first | exact trivial | exact rfl | refine And.intro ?_ ?_ | ((conv=>whnf); first | exact trivial | exact rfl | refine And.intro ?_ ?_ | omega))
  conv=>whnf
  refine call_step (isNaN_t b) rfl rfl ?_
  conv=>whnf
  refine ⟨?_, ?_, ?_⟩
  iterate 2 · repeat' (first | exact trivial | exact rfl | refine And.intro ?_ ?_ | ((conv=>whnf); first | exact trivial | exact rfl | refine And.intro ?_ ?_ | omega))
  conv=>whnf
  refine ⟨fun hc => absurd hc (by simp), fun hc => ?_⟩
  conv=>whnf
  refine ⟨fun hc => absurd hc (by simp), fun hc => ?_⟩
  conv=>whnf
  refine ⟨fun hc => ?_, fun hc => ?_⟩
  · have h1 : a < b := of_decide_eq_true hc
    rw [if_pos h1] at e
    subst e
    conv=>whnf
    repeat' (first | exact trivial | exact rfl | refine And.intro ?_ ?_ | ((conv=>whnf); first | exact trivial | exact rfl | refine And.intro ?_ ?_ | omega))
  have h1 : ¬ a < b := of_decide_eq_false hc
  rw [if_neg h1] at e
  conv=>whnf
  refine ⟨fun hc => ?_, fun hc => ?_⟩
  · have h2 : b < a := of_decide_eq_true hc
    rw [if_pos h2] at e
    subst e
    conv=>whnf
    repeat' (first | exact trivial | exact rfl | refine And.intro ?_ ?_ | ((conv=>whnf); first | exact trivial | exact rfl | refine And.intro ?_ ?_ | omega))
  · have h2 : ¬ b < a := of_decide_eq_false hc
    rw [if_neg h2] at e
    subst e
    conv=>whnf
    repeat' (first | exact trivial | exact rfl | refine And.intro ?_ ?_ | ((conv=>whnf); first | exact trivial | exact rfl | refine And.intro ?_ ?_ | omega))
theorem compareS_t (a b : Int) : Triple Tryz.prog 226 [iv .i64 a, iv .i64 b] [] 0 (iv .i64 (cmpI a b)) [] := by
  have e : cmpI a b = if a < b then -1 else if b < a then 1 else 0 := rfl
  generalize cmpI a b = R at *
  refine triple_of tB_ok Tryz.func226 rfl Tryz.call226 rfl ?_
  intro ρ w hH
  conv=>whnf
  refine call_step (isNaNS_t a) rfl rfl ?_
  conv=>whnf
  refine ⟨?_, ?_, ?_⟩
  iterate 2 · repeat' (first | exact trivial | exact rfl | refine And.intro ?_ ?_ | ((conv=>whnf); first | exact trivial | exact rfl | refine And.intro ?_ ?_ | omega))
  conv=>whnf
  refine call_step (isNaNS_t b) rfl rfl ?_
  conv=>whnf
  refine ⟨?_, ?_, ?_⟩
  iterate 2 · repeat' (first | exact trivial | exact rfl | refine And.intro ?_ ?_ | ((conv=>whnf); first | exact trivial | exact rfl | refine And.intro ?_ ?_ | omega))
  conv=>whnf
  refine ⟨fun hc => absurd hc (by simp), fun hc => ?_⟩
  conv=>whnf
  refine ⟨fun hc => absurd hc (by simp), fun hc => ?_⟩
  conv=>whnf
  refine ⟨fun hc => ?_, fun hc => ?_⟩
  · have h1 : a < b := of_decide_eq_true hc
    rw [if_pos h1] at e
    subst e
    conv=>whnf
    repeat' (first | exact trivial | exact rfl | refine And.intro ?_ ?_ | ((conv=>whnf); first | exact trivial | exact rfl | refine And.intro ?_ ?_ | omega))
  have h1 : ¬ a < b := of_decide_eq_false hc
  rw [if_neg h1] at e
  conv=>whnf
  refine ⟨fun hc => ?_, fun hc => ?_⟩
  · have h2 : b < a := of_decide_eq_true hc
    rw [if_pos h2] at e
    subst e
    conv=>whnf
    repeat' (first | exact trivial | exact rfl | refine And.intro ?_ ?_ | ((conv=>whnf); first | exact trivial | exact rfl | refine And.intro ?_ ?_ | omega))
  · have h2 : ¬ b < a := of_decide_eq_false hc
    rw [if_neg h2] at e
    subst e
    conv=>whnf
    repeat' (first | exact trivial | exact rfl | refine And.intro ?_ ?_ | ((conv=>whnf); first | exact trivial | exact rfl | refine And.intro ?_ ?_ | omega))

theorem orI_take {l : List Int} {i : Nat} (h : i < l.length) (hz : ∀ x ∈ l.take i, x = 0) (hn : l[i] ≠ 0) : orI l = l[i] := by
  induction l generalizing i with
  | nil => simp at h
  | cons x r ih =>
    cases i with
    | zero => simp only [orI, List.getElem_cons_zero] at *; rw [if_neg hn]
    | succ i =>
      have h0 : x = 0 := hz x (by simp)
      simp only [orI, h0, if_pos, List.getElem_cons_succ] at *
      exact ih (by simpa using h) (fun y hy => hz y (by simp [hy])) hn

theorem orI_zero {l : List Int} (hz : ∀ x ∈ l, x = 0) : orI l = 0 := by
  induction l with
  | nil => rfl
  | cons x r ih =>
    simp only [orI]
    rw [if_pos (hz x (by simp))]
    exact ih fun y hy => hz y (by simp [hy])

theorem or_t (l : List Int) (hl : l.length ≤ 1000000) : Triple Tryz.prog 225 [.c (.s 0 0 l.length 1)] [(0, false, .arr (aInt l))] 1 (iv .i64 (orI l)) [] := by
  have hs : ∀ (i : Nat) (h : i < l.length), (∀ x ∈ l.take i, x = 0) → l[i] ≠ 0 → orI l = l[i] := fun i h => orI_take h
  have hz : (∀ x ∈ l, x = 0) → orI l = 0 := orI_zero
  generalize orI l = R at *
  refine triple_of tB_ok Tryz.func225 rfl Tryz.call225 rfl ?_
  intro ρ w hH
  conv=>whnf
  refine loop_step tB_ok (G := Nat) 0 [] (fun i => [(8, iv .i64 i)]) (fun _ => []) (fun i => i ≤ l.length ∧ ∀ x ∈ l.take i, x = 0) (fun i => l.length - i) ?_
  conv=>whnf
  refine ⟨⟨0, ⟨Nat.zero_le _, by simp⟩, ?_⟩, ?_⟩
  · conv=>whnf
    repeat' (first | exact trivial | exact rfl | refine And.intro ?_ ?_ | ((conv=>whnf); first | exact trivial | exact rfl | refine And.intro ?_ ?_ | omega))
  rintro i ⟨hi, hn⟩ ρ1 t1 hρ1
  conv=>whnf
  refine ⟨fun hc => ?_, fun hc => ?_⟩
  · have hlt : i < l.length := by simpa using hc
    conv=>whnf
    refine ⟨i, rfl, hlt, hlt, ?_⟩
    conv=>whnf
    refine ⟨fun hc => ?_, fun hc => ?_⟩
    · have h1 := hs i hlt hn (by simpa using (show (l[i] != 0) = true from hc))
      subst h1
      conv=>whnf
      repeat' (first | exact trivial | exact rfl | refine And.intro ?_ ?_ | ((conv=>whnf); first | exact trivial | exact rfl | refine And.intro ?_ ?_ | omega))
    · have h1 : l[i] = 0 := by simpa using (show (l[i] != 0) = false from hc)
      conv=>whnf
      refine ⟨_, wrapId ⟨by omega, by omega⟩, ?_⟩
      refine ⟨i + 1, ⟨hlt, ?_⟩, by show l.length - (i + 1) < l.length - i; omega, ?_⟩
      · intro x hx
        rw [take_snoc hlt] at hx
        rcases List.mem_append.1 hx with hx | hx
        · exact hn x hx
        · simp only [List.mem_singleton] at hx; rw [hx]; exact h1
      conv=>whnf
      refine ⟨rfl, ?_⟩
      conv=>whnf
      repeat' (first | exact trivial | exact rfl | refine And.intro ?_ ?_ | ((conv=>whnf); first | exact trivial | exact rfl | refine And.intro ?_ ?_ | omega))
  · have hie : i = l.length := by simp at hc; omega
    subst hie
    rw [List.take_length] at hn
    have h1 := hz hn
    subst h1
    conv=>whnf
    repeat' (first | exact trivial | exact rfl | refine And.intro ?_ ?_ | ((conv=>whnf); first | exact trivial | exact rfl | refine And.intro ?_ ?_ | omega))

theorem byObject_t (a b : Thg) : Triple Tryz.prog 175 [svThg a, svThg b] [] 1 (iv .i64 (orI [cmpI a.lot b.lot, cmpI a.bale b.bale, cmpI a.smp b.smp, cmpI a.st b.st])) [] := by
  refine triple_of tB_ok Tryz.func175 rfl Tryz.call175 rfl ?_
  intro ρ w hH
  conv=>whnf
  refine call_step (compare_t a.lot b.lot) rfl rfl ?_
  conv=>whnf
  refine ⟨?_, ?_, ?_⟩
  iterate 2 · repeat' (first | exact trivial | exact rfl | refine And.intro ?_ ?_ | ((conv=>whnf); first | exact trivial | exact rfl | refine And.intro ?_ ?_ | omega))
  conv=>whnf
  refine call_step (compare_t a.bale b.bale) rfl rfl ?_
  conv=>whnf
  refine ⟨?_, ?_, ?_⟩
  iterate 2 · repeat' (first | exact trivial | exact rfl | refine And.intro ?_ ?_ | ((conv=>whnf); first | exact trivial | exact rfl | refine And.intro ?_ ?_ | omega))
  conv=>whnf
  refine call_step (compare_t a.smp b.smp) rfl rfl ?_
  conv=>whnf
  refine ⟨?_, ?_, ?_⟩
  iterate 2 · repeat' (first | exact trivial | exact rfl | refine And.intro ?_ ?_ | ((conv=>whnf); first | exact trivial | exact rfl | refine And.intro ?_ ?_ | omega))
  conv=>whnf
  refine call_step (compareS_t a.st b.st) rfl rfl ?_
  conv=>whnf
  refine ⟨?_, ?_, ?_⟩
  iterate 2 · repeat' (first | exact trivial | exact rfl | refine And.intro ?_ ?_ | ((conv=>whnf); first | exact trivial | exact rfl | refine And.intro ?_ ?_ | omega))
  conv=>whnf
  refine bs_step tB_ok (aInt [cmpI a.lot b.lot, cmpI a.bale b.bale, cmpI a.smp b.smp, cmpI a.st b.st]) rfl rfl ?_
  conv=>whnf
  refine ⟨⟨rfl, (by repeat' (first | exact trivial | exact rfl | refine And.intro ?_ ?_ | ((conv=>whnf); first | exact trivial | exact rfl | refine And.intro ?_ ?_ | omega)))⟩, ?_⟩
  conv=>whnf
  refine call_step (or_t [cmpI a.lot b.lot, cmpI a.bale b.bale, cmpI a.smp b.smp, cmpI a.st b.st] (by simp)) rfl rfl ?_
  conv=>whnf
  refine ⟨?_, ?_, ?_⟩
  iterate 2 · repeat' (first | exact trivial | exact rfl | refine And.intro ?_ ?_ | ((conv=>whnf); first | exact trivial | exact rfl | refine And.intro ?_ ?_ | omega))
  conv=>whnf
  repeat' (first | exact trivial | exact rfl | refine And.intro ?_ ?_ | ((conv=>whnf); first | exact trivial | exact rfl | refine And.intro ?_ ?_ | omega))

theorem byMoment_t (a b : Mom) : Triple Tryz.prog 178 [svMom a, svMom b] [] 1 (iv .i64 (orI [cmpI a.bal b.bal, cmpI a.tick b.tick])) [] := by
  refine triple_of tB_ok Tryz.func178 rfl Tryz.call178 rfl ?_
  intro ρ w hH
  conv=>whnf
  refine call_step (compare_t a.bal b.bal) rfl rfl ?_
  conv=>whnf
  refine ⟨?_, ?_, ?_⟩
  iterate 2 · repeat' (first | exact trivial | exact rfl | refine And.intro ?_ ?_ | ((conv=>whnf); first | exact trivial | exact rfl | refine And.intro ?_ ?_ | omega))
  conv=>whnf
  refine call_step (compare_t a.tick b.tick) rfl rfl ?_
  conv=>whnf
  refine ⟨?_, ?_, ?_⟩
  iterate 2 · repeat' (first | exact trivial | exact rfl | refine And.intro ?_ ?_ | ((conv=>whnf); first | exact trivial | exact rfl | refine And.intro ?_ ?_ | omega))
  conv=>whnf
  refine bs_step tB_ok (aInt [cmpI a.bal b.bal, cmpI a.tick b.tick]) rfl rfl ?_
  conv=>whnf
  refine ⟨⟨rfl, (by repeat' (first | exact trivial | exact rfl | refine And.intro ?_ ?_ | ((conv=>whnf); first | exact trivial | exact rfl | refine And.intro ?_ ?_ | omega)))⟩, ?_⟩
  conv=>whnf
  refine call_step (or_t [cmpI a.bal b.bal, cmpI a.tick b.tick] (by simp)) rfl rfl ?_
  conv=>whnf
  refine ⟨?_, ?_, ?_⟩
  iterate 2 · repeat' (first | exact trivial | exact rfl | refine And.intro ?_ ?_ | ((conv=>whnf); first | exact trivial | exact rfl | refine And.intro ?_ ?_ | omega))
  conv=>whnf
  repeat' (first | exact trivial | exact rfl | refine And.intro ?_ ?_ | ((conv=>whnf); first | exact trivial | exact rfl | refine And.intro ?_ ?_ | omega))

theorem byIdWgh_t (a b : Wgh) : Triple Tryz.prog 156 [svWgh a, svWgh b] [] 1 (iv .i64 (cmpI a.id b.id)) [] := by
  refine triple_of tB_ok Tryz.func156 rfl Tryz.call156 rfl ?_
  intro ρ w hH
  conv=>whnf
  refine call_step (compare_t a.id b.id) rfl rfl ?_
  conv=>whnf
  refine ⟨?_, ?_, ?_⟩
  iterate 2 · repeat' (first | exact trivial | exact rfl | refine And.intro ?_ ?_ | ((conv=>whnf); first | exact trivial | exact rfl | refine And.intro ?_ ?_ | omega))
  conv=>whnf
  repeat' (first | exact trivial | exact rfl | refine And.intro ?_ ?_ | ((conv=>whnf); first | exact trivial | exact rfl | refine And.intro ?_ ?_ | omega))

theorem valuesWgh_t (xs : List Wgh) : Triple Tryz.prog 155 [.c (.s 0 0 xs.length 8)] [(0, false, .arr (aWgh xs))] 1 (.c (.f 214 [1])) [(1, true, .cells [.s 0 0 xs.length 8])] := by
  refine triple_of tB_ok Tryz.func155 rfl Tryz.call155 rfl ?_
  intro ρ w hH
  conv=>whnf
  repeat' (first | exact trivial | exact rfl | refine And.intro ?_ ?_ | ((conv=>whnf); first | exact trivial | exact rfl | refine And.intro ?_ ?_ | omega))

theorem seqRoundWgh (xs : List Wgh) (l : Wgh) (hlen : xs.length ≤ 1000000) : RoundT Tryz.prog Tryz.f248.ntmps [(2, .c (.p 1 0 0 0))] #[7]
    (rfA Tryz.f248) (rfB Tryz.f248) [svWgh l]
    [(1, true, .cells [.s 2 0 xs.length 8]), (2, true, .arr (aWgh xs))] 3
    [(1, true, .cells [.s 3 0 (xs ++ [l]).length 8]), (3, true, .arr (aWgh (xs ++ [l])))] := by
  refine round_of tB_ok rfl ?_
  intro Φ Φ' ρ w
  conv=>whnf
  refine ⟨rfl, ?_⟩
  conv=>whnf
  refine bs_step tB_ok (aWgh [l]) rfl rfl ?_
  conv=>whnf
  refine ⟨⟨rfl, (by repeat' (first | exact trivial | exact rfl | refine And.intro ?_ ?_ | ((conv=>whnf); first | exact trivial | exact rfl | refine And.intro ?_ ?_ | omega)))⟩, ?_⟩
  conv=>whnf
  refine app_step tB_ok (aWgh xs) [l] (fun _ => rfl) rfl rfl rfl rfl ?_
  conv=>whnf
  refine ⟨⟨rfl, rfl, Nat.le_refl _, Nat.le_refl _, by show (xs.length + 1) * 65 ≤ _; omega⟩, ?_⟩
  conv=>whnf
  refine ⟨rfl, ?_⟩
  conv=>whnf
  repeat' (first | exact trivial | exact rfl | refine And.intro ?_ ?_ | ((conv=>whnf); first | exact trivial | exact rfl | refine And.intro ?_ ?_ | omega))
  all_goals first | exact (congrArg aWgh app1.symm : _) | exact (congrArg aWgh app1 : _) | simp

theorem appendSeqWgh_t (xs : List Wgh) (hb : xs.length ≤ 1000) :
    Triple Tryz.prog 248 [.c (.v (.slice none 0 0)), .c (.f 214 [0])]
      [(0, false, .cells [.s 1 0 xs.length 8]), (1, false, .arr (aWgh xs))] 2 (.c (.s 2 0 xs.length 8)) [(2, true, .arr (aWgh xs))] := by
  refine triple_of tB_ok Tryz.func248 rfl Tryz.call248 rfl ?_
  intro ρ w hH
  conv=>whnf
  refine range_step (asg := rfA Tryz.f248) (body := rfB Tryz.f248) tB_ok rfl Tryz.func214 rfl Tryz.call214 rfl ?_
  conv=>whnf
  intro fo d l T0 ρ1 hT hE hl1
  have hA : ∀ i sv, (i, sv) ∈ [(2, SV.c (.p 2 0 0 0))] → sv.rel ρ1 (T0.getD i undef) := by
    intro i sv hm
    rcases List.mem_cons.1 hm with he | hm
    · cases he; exact hE 2
    · cases hm
  clear hE
  conv=>whnf
  refine loop_step tB_ok (G := Nat) 1 [] (fun i => [(7, iv .i64 i)]) (fun i => [(2, true, .cells [.s 5 0 (xs.take i).length 8]), (5, true, .arr (aWgh (xs.take i))), (4, true, recO fo T0 #[7] (rfA Tryz.f248) (rfB Tryz.f248) d)])
    (fun i => i ≤ xs.length) (fun i => xs.length - i) ?_
  conv=>whnf
  refine ⟨⟨0, Nat.zero_le _, ?_⟩, ?_⟩
  · conv=>whnf
    repeat' (first | exact trivial | exact rfl | refine And.intro ?_ ?_ | ((conv=>whnf); first | exact trivial | exact rfl | refine And.intro ?_ ?_ | omega))
  intro i hi ρ2 t2 hρ2
  have hρ2 : ∀ k, k < 5 → ρ2 k = ρ1 k := hρ2
  conv=>whnf
  refine ⟨fun hc => ?_, fun hc => ?_⟩
  · have h : i < xs.length := by simpa using hc
    have htl : (xs.take i).length ≤ 1000 := by rw [List.length_take]; omega
    conv=>whnf
    refine ⟨i, rfl, h, h, ?_⟩
    conv=>whnf
    refine yield_step (fn := fo) (d := d) [(2, .c (.p 2 0 0 0))] 4 (seqRoundWgh (xs.take i) xs[i] (by omega)) hT (relSt_agree hA rfl hρ2) ((congrArg Rg.blk (hρ2 4 (by omega))).trans hl1) rfl rfl rfl rfl ?_
    conv=>whnf
    refine ⟨?_, ?_, ?_⟩
    iterate 2 · repeat' (first | exact trivial | exact rfl | refine And.intro ?_ ?_ | ((conv=>whnf); first | exact trivial | exact rfl | refine And.intro ?_ ?_ | omega))
    conv=>whnf
    refine ⟨_, wrapId ⟨by omega, by omega⟩, ?_⟩
    refine ⟨i + 1, h, by show xs.length - (i + 1) < xs.length - i; omega, ?_⟩
    conv=>whnf
    refine ⟨rfl, ?_⟩
    conv=>whnf
    repeat' (first | exact trivial | exact rfl | refine And.intro ?_ ?_ | ((conv=>whnf); first | exact trivial | exact rfl | refine And.intro ?_ ?_ | omega))
    all_goals first | (exact congrArg aWgh (take_snoc h).symm) | (rw [take_snoc h])
  have hie : i = xs.length := by simp at hc; omega
  subst hie
  rw [List.take_length]
  conv=>whnf
  refine ⟨rfl, ?_⟩
  conv=>whnf
  refine ⟨fun _ h => h, ?_⟩
  conv=>whnf
  repeat' (first | exact trivial | exact rfl | refine And.intro ?_ ?_ | ((conv=>whnf); first | exact trivial | exact rfl | refine And.intro ?_ ?_ | omega))

theorem collectWgh_t (xs : List Wgh) (hb : xs.length ≤ 1000) :
    Triple Tryz.prog 212 [.c (.f 214 [0])]
      [(0, false, .cells [.s 1 0 xs.length 8]), (1, false, .arr (aWgh xs))] 2 (.c (.s 2 0 xs.length 8)) [(2, true, .arr (aWgh xs))] := by
  refine triple_of tB_ok Tryz.func212 rfl Tryz.call212 rfl ?_
  intro ρ w hH
  conv=>whnf
  refine call_step (appendSeqWgh_t xs hb) rfl rfl ?_
  conv=>whnf
  refine ⟨?_, ?_, ?_⟩
  iterate 2 · repeat' (first | exact trivial | exact rfl | refine And.intro ?_ ?_ | ((conv=>whnf); first | exact trivial | exact rfl | refine And.intro ?_ ?_ | omega))
  conv=>whnf
  repeat' (first | exact trivial | exact rfl | refine And.intro ?_ ?_ | ((conv=>whnf); first | exact trivial | exact rfl | refine And.intro ?_ ?_ | omega))

theorem byIdChk_t (a b : Chk) : Triple Tryz.prog 160 [svChk a, svChk b] [] 1 (iv .i64 (cmpI a.id b.id)) [] := by
  refine triple_of tB_ok Tryz.func160 rfl Tryz.call160 rfl ?_
  intro ρ w hH
  conv=>whnf
  refine call_step (compare_t a.id b.id) rfl rfl ?_
  conv=>whnf
  refine ⟨?_, ?_, ?_⟩
  iterate 2 · repeat' (first | exact trivial | exact rfl | refine And.intro ?_ ?_ | ((conv=>whnf); first | exact trivial | exact rfl | refine And.intro ?_ ?_ | omega))
  conv=>whnf
  repeat' (first | exact trivial | exact rfl | refine And.intro ?_ ?_ | ((conv=>whnf); first | exact trivial | exact rfl | refine And.intro ?_ ?_ | omega))

theorem valuesChk_t (xs : List Chk) : Triple Tryz.prog 159 [.c (.s 0 0 xs.length 5)] [(0, false, .arr (aChk xs))] 1 (.c (.f 218 [1])) [(1, true, .cells [.s 0 0 xs.length 5])] := by
  refine triple_of tB_ok Tryz.func159 rfl Tryz.call159 rfl ?_
  intro ρ w hH
  conv=>whnf
  repeat' (first | exact trivial | exact rfl | refine And.intro ?_ ?_ | ((conv=>whnf); first | exact trivial | exact rfl | refine And.intro ?_ ?_ | omega))

theorem seqRoundChk (xs : List Chk) (l : Chk) (hlen : xs.length ≤ 1000000) : RoundT Tryz.prog Tryz.f251.ntmps [(2, .c (.p 1 0 0 0))] #[7]
    (rfA Tryz.f251) (rfB Tryz.f251) [svChk l]
    [(1, true, .cells [.s 2 0 xs.length 5]), (2, true, .arr (aChk xs))] 3
    [(1, true, .cells [.s 3 0 (xs ++ [l]).length 5]), (3, true, .arr (aChk (xs ++ [l])))] := by
  refine round_of tB_ok rfl ?_
  intro Φ Φ' ρ w
  conv=>whnf
  refine ⟨rfl, ?_⟩
  conv=>whnf
  refine bs_step tB_ok (aChk [l]) rfl rfl ?_
  conv=>whnf
  refine ⟨⟨rfl, (by repeat' (first | exact trivial | exact rfl | refine And.intro ?_ ?_ | ((conv=>whnf); first | exact trivial | exact rfl | refine And.intro ?_ ?_ | omega)))⟩, ?_⟩
  conv=>whnf
  refine app_step tB_ok (aChk xs) [l] (fun _ => rfl) rfl rfl rfl rfl ?_
  conv=>whnf
  refine ⟨⟨rfl, rfl, Nat.le_refl _, Nat.le_refl _, by show (xs.length + 1) * 41 ≤ _; omega⟩, ?_⟩
  conv=>whnf
  refine ⟨rfl, ?_⟩
  conv=>whnf
  repeat' (first | exact trivial | exact rfl | refine And.intro ?_ ?_ | ((conv=>whnf); first | exact trivial | exact rfl | refine And.intro ?_ ?_ | omega))
  all_goals first | exact (congrArg aChk app1.symm : _) | exact (congrArg aChk app1 : _) | simp

theorem appendSeqChk_t (xs : List Chk) (hb : xs.length ≤ 1000) :
    Triple Tryz.prog 251 [.c (.v (.slice none 0 0)), .c (.f 218 [0])]
      [(0, false, .cells [.s 1 0 xs.length 5]), (1, false, .arr (aChk xs))] 2 (.c (.s 2 0 xs.length 5)) [(2, true, .arr (aChk xs))] := by
  refine triple_of tB_ok Tryz.func251 rfl Tryz.call251 rfl ?_
  intro ρ w hH
  conv=>whnf
  refine range_step (asg := rfA Tryz.f251) (body := rfB Tryz.f251) tB_ok rfl Tryz.func218 rfl Tryz.call218 rfl ?_
  conv=>whnf
  intro fo d l T0 ρ1 hT hE hl1
  have hA : ∀ i sv, (i, sv) ∈ [(2, SV.c (.p 2 0 0 0))] → sv.rel ρ1 (T0.getD i undef) := by
    intro i sv hm
    rcases List.mem_cons.1 hm with he | hm
    · cases he; exact hE 2
    · cases hm
  clear hE
  conv=>whnf
  refine loop_step tB_ok (G := Nat) 1 [] (fun i => [(7, iv .i64 i)]) (fun i => [(2, true, .cells [.s 5 0 (xs.take i).length 5]), (5, true, .arr (aChk (xs.take i))), (4, true, recO fo T0 #[7] (rfA Tryz.f251) (rfB Tryz.f251) d)])
    (fun i => i ≤ xs.length) (fun i => xs.length - i) ?_
  conv=>whnf
  refine ⟨⟨0, Nat.zero_le _, ?_⟩, ?_⟩
  · conv=>whnf
    repeat' (first | exact trivial | exact rfl | refine And.intro ?_ ?_ | ((conv=>whnf); first | exact trivial | exact rfl | refine And.intro ?_ ?_ | omega))
  intro i hi ρ2 t2 hρ2
  have hρ2 : ∀ k, k < 5 → ρ2 k = ρ1 k := hρ2
  conv=>whnf
  refine ⟨fun hc => ?_, fun hc => ?_⟩
  · have h : i < xs.length := by simpa using hc
    have htl : (xs.take i).length ≤ 1000 := by rw [List.length_take]; omega
    conv=>whnf
    refine ⟨i, rfl, h, h, ?_⟩
    conv=>whnf
    refine yield_step (fn := fo) (d := d) [(2, .c (.p 2 0 0 0))] 4 (seqRoundChk (xs.take i) xs[i] (by omega)) hT (relSt_agree hA rfl hρ2) ((congrArg Rg.blk (hρ2 4 (by omega))).trans hl1) rfl rfl rfl rfl ?_
    conv=>whnf
    refine ⟨?_, ?_, ?_⟩
    iterate 2 · repeat' (first | exact trivial | exact rfl | refine And.intro ?_ ?_ | ((conv=>whnf); first | exact trivial | exact rfl | refine And.intro ?_ ?_ | omega))
    conv=>whnf
    refine ⟨_, wrapId ⟨by omega, by omega⟩, ?_⟩
    refine ⟨i + 1, h, by show xs.length - (i + 1) < xs.length - i; omega, ?_⟩
    conv=>whnf
    refine ⟨rfl, ?_⟩
    conv=>whnf
    repeat' (first | exact trivial | exact rfl | refine And.intro ?_ ?_ | ((conv=>whnf); first | exact trivial | exact rfl | refine And.intro ?_ ?_ | omega))
    all_goals first | (exact congrArg aChk (take_snoc h).symm) | (rw [take_snoc h])
  have hie : i = xs.length := by simp at hc; omega
  subst hie
  rw [List.take_length]
  conv=>whnf
  refine ⟨rfl, ?_⟩
  conv=>whnf
  refine ⟨fun _ h => h, ?_⟩
  conv=>whnf
  repeat' (first | exact trivial | exact rfl | refine And.intro ?_ ?_ | ((conv=>whnf); first | exact trivial | exact rfl | refine And.intro ?_ ?_ | omega))

theorem collectChk_t (xs : List Chk) (hb : xs.length ≤ 1000) :
    Triple Tryz.prog 216 [.c (.f 218 [0])]
      [(0, false, .cells [.s 1 0 xs.length 5]), (1, false, .arr (aChk xs))] 2 (.c (.s 2 0 xs.length 5)) [(2, true, .arr (aChk xs))] := by
  refine triple_of tB_ok Tryz.func216 rfl Tryz.call216 rfl ?_
  intro ρ w hH
  conv=>whnf
  refine call_step (appendSeqChk_t xs hb) rfl rfl ?_
  conv=>whnf
  refine ⟨?_, ?_, ?_⟩
  iterate 2 · repeat' (first | exact trivial | exact rfl | refine And.intro ?_ ?_ | ((conv=>whnf); first | exact trivial | exact rfl | refine And.intro ?_ ?_ | omega))
  conv=>whnf
  repeat' (first | exact trivial | exact rfl | refine And.intro ?_ ?_ | ((conv=>whnf); first | exact trivial | exact rfl | refine And.intro ?_ ?_ | omega))

theorem byIdNtc_t (a b : Ntc) : Triple Tryz.prog 181 [svNtc a, svNtc b] [] 1 (iv .i64 (cmpI a.id b.id)) [] := by
  refine triple_of tB_ok Tryz.func181 rfl Tryz.call181 rfl ?_
  intro ρ w hH
  conv=>whnf
  refine call_step (compare_t a.id b.id) rfl rfl ?_
  conv=>whnf
  refine ⟨?_, ?_, ?_⟩
  iterate 2 · repeat' (first | exact trivial | exact rfl | refine And.intro ?_ ?_ | ((conv=>whnf); first | exact trivial | exact rfl | refine And.intro ?_ ?_ | omega))
  conv=>whnf
  repeat' (first | exact trivial | exact rfl | refine And.intro ?_ ?_ | ((conv=>whnf); first | exact trivial | exact rfl | refine And.intro ?_ ?_ | omega))

theorem valuesNtc_t (xs : List Ntc) : Triple Tryz.prog 180 [.c (.s 0 0 xs.length 6)] [(0, false, .arr (aNtc xs))] 1 (.c (.f 231 [1])) [(1, true, .cells [.s 0 0 xs.length 6])] := by
  refine triple_of tB_ok Tryz.func180 rfl Tryz.call180 rfl ?_
  intro ρ w hH
  conv=>whnf
  repeat' (first | exact trivial | exact rfl | refine And.intro ?_ ?_ | ((conv=>whnf); first | exact trivial | exact rfl | refine And.intro ?_ ?_ | omega))

theorem seqRoundNtc (xs : List Ntc) (l : Ntc) (hlen : xs.length ≤ 1000000) : RoundT Tryz.prog Tryz.f258.ntmps [(2, .c (.p 1 0 0 0))] #[7]
    (rfA Tryz.f258) (rfB Tryz.f258) [svNtc l]
    [(1, true, .cells [.s 2 0 xs.length 6]), (2, true, .arr (aNtc xs))] 3
    [(1, true, .cells [.s 3 0 (xs ++ [l]).length 6]), (3, true, .arr (aNtc (xs ++ [l])))] := by
  refine round_of tB_ok rfl ?_
  intro Φ Φ' ρ w
  conv=>whnf
  refine ⟨rfl, ?_⟩
  conv=>whnf
  refine bs_step tB_ok (aNtc [l]) rfl rfl ?_
  conv=>whnf
  refine ⟨⟨rfl, (by repeat' (first | exact trivial | exact rfl | refine And.intro ?_ ?_ | ((conv=>whnf); first | exact trivial | exact rfl | refine And.intro ?_ ?_ | omega)))⟩, ?_⟩
  conv=>whnf
  refine app_step tB_ok (aNtc xs) [l] (fun _ => rfl) rfl rfl rfl rfl ?_
  conv=>whnf
  refine ⟨⟨rfl, rfl, Nat.le_refl _, Nat.le_refl _, by show (xs.length + 1) * 49 ≤ _; omega⟩, ?_⟩
  conv=>whnf
  refine ⟨rfl, ?_⟩
  conv=>whnf
  repeat' (first | exact trivial | exact rfl | refine And.intro ?_ ?_ | ((conv=>whnf); first | exact trivial | exact rfl | refine And.intro ?_ ?_ | omega))
  all_goals first | exact (congrArg aNtc app1.symm : _) | exact (congrArg aNtc app1 : _) | simp

theorem appendSeqNtc_t (xs : List Ntc) (hb : xs.length ≤ 1000) :
    Triple Tryz.prog 258 [.c (.v (.slice none 0 0)), .c (.f 231 [0])]
      [(0, false, .cells [.s 1 0 xs.length 6]), (1, false, .arr (aNtc xs))] 2 (.c (.s 2 0 xs.length 6)) [(2, true, .arr (aNtc xs))] := by
  refine triple_of tB_ok Tryz.func258 rfl Tryz.call258 rfl ?_
  intro ρ w hH
  conv=>whnf
  refine range_step (asg := rfA Tryz.f258) (body := rfB Tryz.f258) tB_ok rfl Tryz.func231 rfl Tryz.call231 rfl ?_
  conv=>whnf
  intro fo d l T0 ρ1 hT hE hl1
  have hA : ∀ i sv, (i, sv) ∈ [(2, SV.c (.p 2 0 0 0))] → sv.rel ρ1 (T0.getD i undef) := by
    intro i sv hm
    rcases List.mem_cons.1 hm with he | hm
    · cases he; exact hE 2
    · cases hm
  clear hE
  conv=>whnf
  refine loop_step tB_ok (G := Nat) 1 [] (fun i => [(7, iv .i64 i)]) (fun i => [(2, true, .cells [.s 5 0 (xs.take i).length 6]), (5, true, .arr (aNtc (xs.take i))), (4, true, recO fo T0 #[7] (rfA Tryz.f258) (rfB Tryz.f258) d)])
    (fun i => i ≤ xs.length) (fun i => xs.length - i) ?_
  conv=>whnf
  refine ⟨⟨0, Nat.zero_le _, ?_⟩, ?_⟩
  · conv=>whnf
    repeat' (first | exact trivial | exact rfl | refine And.intro ?_ ?_ | ((conv=>whnf); first | exact trivial | exact rfl | refine And.intro ?_ ?_ | omega))
  intro i hi ρ2 t2 hρ2
  have hρ2 : ∀ k, k < 5 → ρ2 k = ρ1 k := hρ2
  conv=>whnf
  refine ⟨fun hc => ?_, fun hc => ?_⟩
  · have h : i < xs.length := by simpa using hc
    have htl : (xs.take i).length ≤ 1000 := by rw [List.length_take]; omega
    conv=>whnf
    refine ⟨i, rfl, h, h, ?_⟩
    conv=>whnf
    refine yield_step (fn := fo) (d := d) [(2, .c (.p 2 0 0 0))] 4 (seqRoundNtc (xs.take i) xs[i] (by omega)) hT (relSt_agree hA rfl hρ2) ((congrArg Rg.blk (hρ2 4 (by omega))).trans hl1) rfl rfl rfl rfl ?_
    conv=>whnf
    refine ⟨?_, ?_, ?_⟩
    iterate 2 · repeat' (first | exact trivial | exact rfl | refine And.intro ?_ ?_ | ((conv=>whnf); first | exact trivial | exact rfl | refine And.intro ?_ ?_ | omega))
    conv=>whnf
    refine ⟨_, wrapId ⟨by omega, by omega⟩, ?_⟩
    refine ⟨i + 1, h, by show xs.length - (i + 1) < xs.length - i; omega, ?_⟩
    conv=>whnf
    refine ⟨rfl, ?_⟩
    conv=>whnf
    repeat' (first | exact trivial | exact rfl | refine And.intro ?_ ?_ | ((conv=>whnf); first | exact trivial | exact rfl | refine And.intro ?_ ?_ | omega))
    all_goals first | (exact congrArg aNtc (take_snoc h).symm) | (rw [take_snoc h])
  have hie : i = xs.length := by simp at hc; omega
  subst hie
  rw [List.take_length]
  conv=>whnf
  refine ⟨rfl, ?_⟩
  conv=>whnf
  refine ⟨fun _ h => h, ?_⟩
  conv=>whnf
  repeat' (first | exact trivial | exact rfl | refine And.intro ?_ ?_ | ((conv=>whnf); first | exact trivial | exact rfl | refine And.intro ?_ ?_ | omega))

theorem collectNtc_t (xs : List Ntc) (hb : xs.length ≤ 1000) :
    Triple Tryz.prog 229 [.c (.f 231 [0])]
      [(0, false, .cells [.s 1 0 xs.length 6]), (1, false, .arr (aNtc xs))] 2 (.c (.s 2 0 xs.length 6)) [(2, true, .arr (aNtc xs))] := by
  refine triple_of tB_ok Tryz.func229 rfl Tryz.call229 rfl ?_
  intro ρ w hH
  conv=>whnf
  refine call_step (appendSeqNtc_t xs hb) rfl rfl ?_
  conv=>whnf
  refine ⟨?_, ?_, ?_⟩
  iterate 2 · repeat' (first | exact trivial | exact rfl | refine And.intro ?_ ?_ | ((conv=>whnf); first | exact trivial | exact rfl | refine And.intro ?_ ?_ | omega))
  conv=>whnf
  repeat' (first | exact trivial | exact rfl | refine And.intro ?_ ?_ | ((conv=>whnf); first | exact trivial | exact rfl | refine And.intro ?_ ?_ | omega))

end Go.Proofs

