/-
  A part of the proof that a law answers true: lemmas of a symbolic walk, plain functions, or contracts of the functions walked (R4). Conditions: none.
-/
import Derived.Test.YtagedjfjcnemoaaGreatPart16
set_option maxRecDepth 100000
set_option linter.unusedVariables false
set_option linter.unusedSimpArgs false
namespace Go.Proofs
open Go.Sx

def eqI (x y : Int) : Bool := x == y
theorem eqI_t {x y : Int} (h : eqI x y = true) : x = y := by simpa [eqI] using h
theorem eqI_r (x : Int) : eqI x x = true := by simp [eqI]
def eqBal (x y : Bal) : Bool := balL x == balL y
theorem balL_inj {x y : Bal} (h : balL x = balL y) : x = y := by
  obtain ⟨⟩ := x
  obtain ⟨⟩ := y
  simp [balL] at h
  simp_all
theorem eqBal_t {x y : Bal} (h : eqBal x y = true) : x = y := balL_inj (by simpa [eqBal] using h)
theorem eqBal_r (x : Bal) : eqBal x x = true := by simp [eqBal]
def eqChk (x y : Chk) : Bool := chkL x == chkL y
theorem chkL_inj {x y : Chk} (h : chkL x = chkL y) : x = y := by
  obtain ⟨⟩ := x
  obtain ⟨⟩ := y
  simp [chkL] at h
  simp_all
theorem eqChk_t {x y : Chk} (h : eqChk x y = true) : x = y := chkL_inj (by simpa [eqChk] using h)
theorem eqChk_r (x : Chk) : eqChk x x = true := by simp [eqChk]
def eqNtc (x y : Ntc) : Bool := ntcL x == ntcL y
theorem ntcL_inj {x y : Ntc} (h : ntcL x = ntcL y) : x = y := by
  obtain ⟨⟩ := x
  obtain ⟨⟩ := y
  simp [ntcL] at h
  simp_all
theorem eqNtc_t {x y : Ntc} (h : eqNtc x y = true) : x = y := ntcL_inj (by simpa [eqNtc] using h)
theorem eqNtc_r (x : Ntc) : eqNtc x x = true := by simp [eqNtc]
def eqWgh (x y : Wgh) : Bool := wghL x == wghL y
theorem wghL_inj {x y : Wgh} (h : wghL x = wghL y) : x = y := by
  obtain ⟨⟩ := x
  obtain ⟨⟩ := y
  rename_i o1 _ _ _ _ o2 _
  obtain ⟨⟩ := o1
  obtain ⟨⟩ := o2
  simp [wghL] at h
  simp_all
theorem eqWgh_t {x y : Wgh} (h : eqWgh x y = true) : x = y := wghL_inj (by simpa [eqWgh] using h)
theorem eqWgh_r (x : Wgh) : eqWgh x x = true := by simp [eqWgh]
def eqThg (x y : Thg) : Bool := thgL x == thgL y
theorem thgL_inj {x y : Thg} (h : thgL x = thgL y) : x = y := by
  obtain ⟨⟩ := x
  obtain ⟨⟩ := y
  simp [thgL] at h
  simp_all
theorem eqThg_t {x y : Thg} (h : eqThg x y = true) : x = y := thgL_inj (by simpa [eqThg] using h)
theorem eqThg_r (x : Thg) : eqThg x x = true := by simp [eqThg]
def eqMom (x y : Mom) : Bool := momL x == momL y
theorem momL_inj {x y : Mom} (h : momL x = momL y) : x = y := by
  obtain ⟨⟩ := x
  obtain ⟨⟩ := y
  simp [momL] at h
  simp_all
theorem eqMom_t {x y : Mom} (h : eqMom x y = true) : x = y := momL_inj (by simpa [eqMom] using h)
theorem eqMom_r (x : Mom) : eqMom x x = true := by simp [eqMom]

theorem compS_snoc {α : Type} [DecidableEq α] {x y : α} : ∀ l : List α, compS (l ++ [x, y]) = if x = y then compS (l ++ [x]) else compS (l ++ [x]) ++ [y]
  | [] => by
    simp only [List.nil_append, compS]
    by_cases h : x = y
    · rw [if_pos h, if_pos h, h]
    · rw [if_neg h, if_neg h]; rfl
  | [a] => by
    have ih := compS_snoc (x := x) (y := y) []
    have u1 : compS ([a] ++ [x, y]) = if a = x then compS [x, y] else a :: compS [x, y] := rfl
    have u2 : compS ([a] ++ [x]) = if a = x then compS [x] else a :: compS [x] := rfl
    rw [List.nil_append, List.nil_append] at ih
    rw [u1, u2, ih]
    by_cases h : x = y <;> by_cases h2 : a = x
    · rw [if_pos h, if_pos h, if_pos h2]
    · rw [if_pos h, if_pos h, if_neg h2]
    · rw [if_neg h, if_neg h, if_pos h2, if_pos h2]
    · rw [if_neg h, if_neg h, if_neg h2, if_neg h2]; rfl
  | a :: b :: r => by
    have ih := compS_snoc (x := x) (y := y) (b :: r)
    have u1 : compS ((a :: b :: r) ++ [x, y]) = if a = b then compS ((b :: r) ++ [x, y]) else a :: compS ((b :: r) ++ [x, y]) := rfl
    have u2 : compS ((a :: b :: r) ++ [x]) = if a = b then compS ((b :: r) ++ [x]) else a :: compS ((b :: r) ++ [x]) := rfl
    rw [u1, u2, ih]
    by_cases h : x = y <;> by_cases h2 : a = b
    · rw [if_pos h, if_pos h, if_pos h2]
    · rw [if_pos h, if_pos h, if_neg h2]
    · rw [if_neg h, if_neg h, if_pos h2, if_pos h2]
    · rw [if_neg h, if_neg h, if_neg h2, if_neg h2]; rfl

theorem compS_take {α : Type} [DecidableEq α] {xs : List α} {j : Nat} (h1 : 1 ≤ j) (h : j < xs.length) :
    compS (xs.take (j + 1)) = if xs[j - 1]'(by omega) = xs[j] then compS (xs.take j) else compS (xs.take j) ++ [xs[j]] := by
  obtain ⟨i, rfl⟩ : ∃ i, j = i + 1 := ⟨j - 1, by omega⟩
  have e2 : xs.take (i + 1) = xs.take i ++ [xs[i]] := by rw [List.take_add_one, List.getElem?_eq_getElem (by omega)]; rfl
  have e1 : xs.take (i + 1 + 1) = xs.take i ++ [xs[i], xs[i + 1]] := by rw [List.take_add_one, List.getElem?_eq_getElem h, e2, List.append_assoc]; rfl
  rw [e1, e2, compS_snoc]
  simp only [Nat.add_sub_cancel]

theorem compS_same {α : Type} [DecidableEq α] {xs : List α} {k : Nat} (hk : k ≤ xs.length) (h : compS (xs.take k) = xs.take k) (h1 : 1 ≤ k) (hlt : k < xs.length) (hne : ¬ xs[k - 1]'(by omega) = xs[k]) : compS (xs.take (k + 1)) = xs.take (k + 1) := by
  rw [compS_take h1 hlt, if_neg hne, h, List.take_add_one, List.getElem?_eq_getElem hlt]; rfl

theorem compactInt_t (xs : List Int) (h : xs.length ≤ 1000000) : Triple Tryz.prog 221 [.c (.s 0 0 xs.length 1)] [(0, true, .arr (aInt xs))] 1 (.c (.s 0 0 (compS xs).length 1)) [(0, true, .arr (aInt (compS xs)))] := by
  refine triple_of tB_ok Tryz.func221 rfl Tryz.call221 rfl ?_
  intro ρ w hH
  conv=>whnf
  refine ⟨fun hc => ?_, fun hc => ?_⟩
  · have hl : xs.length < 2 := by have := of_decide_eq_true (show decide ((xs.length : Int) < 2) = true from hc); omega
    have e : compS xs = xs := by
      match xs, hl with
      | [], _ => rfl
      | [x], _ => rfl
    rw [e]
    conv=>whnf
    repeat' (first | exact trivial | exact rfl | refine And.intro ?_ ?_ | ((conv=>whnf); first | exact trivial | exact rfl | refine And.intro ?_ ?_ | omega))
  have hl : ¬ xs.length < 2 := by have := of_decide_eq_false (show decide ((xs.length : Int) < 2) = false from hc); omega
  conv=>whnf
  refine loop_step tB_ok (G := Nat) 0 [] (fun k => [(3, iv .i64 k)]) (fun _ => [(0, true, .arr (aInt xs))]) (fun k => 1 ≤ k ∧ k ≤ xs.length ∧ compS (xs.take k) = xs.take k) (fun k => xs.length - k) ?_
  conv=>whnf
  refine ⟨⟨1, ⟨Nat.le_refl _, by omega, ?_⟩, ?_⟩, ?_⟩
  · match xs, hl with
    | x :: r, _ => rfl
  · conv=>whnf
    repeat' (first | exact trivial | exact rfl | refine And.intro ?_ ?_ | ((conv=>whnf); first | exact trivial | exact rfl | refine And.intro ?_ ?_ | omega))
  rintro k ⟨h1, h2, h3⟩ ρ1 t1 hρ1
  dsimp only
  conv=>whnf
  refine ⟨fun hc => ?_, fun hc => ?_⟩
  · have hlt : k < xs.length := by simpa using hc
    conv=>whnf
    refine ⟨k, rfl, hlt, hlt, ?_⟩
    conv=>whnf
    obtain ⟨j, rfl⟩ : ∃ j, k = j + 1 := ⟨k - 1, by omega⟩
    refine ⟨(j : Nat), by have e : ((j + 1 : Nat) : Int) - 1 = (j : Nat) := by omega
                          rw [e]; exact wrapId (z := (j : Int)) ⟨by omega, by omega⟩, ?_⟩
    conv=>whnf
    refine ⟨j, rfl, (show j < xs.length by omega), (show j < xs.length by omega), ?_⟩
    conv=>whnf
    refine ⟨fun hc => ?_, fun hc => ?_⟩
    · have heq : xs[j + 1] = xs[j] := eqI_t (show eqI xs[j + 1] xs[j] = true from hc)
      conv=>whnf
      refine ⟨Nat.le_refl _, ?_⟩
      conv=>whnf
      refine ⟨j + 1, rfl, ?_⟩
      conv=>whnf
      refine ⟨h2, ?_⟩
      conv=>whnf
      have hcj : (compS (xs.take (j + 1))).length = j + 1 := by rw [h3, List.length_take]; omega
      have e0 : xs = compS (xs.take (j + 1 + 1)) ++ xs.drop (j + 1) := by
        rw [compS_take (by omega) hlt, if_pos (by simpa using heq.symm), h3, List.take_append_drop]
      refine loop_step tB_ok (G := Nat × Nat × List Int) 0 [] (fun g => [(5, iv .i64 g.2.1), (3, iv .i64 g.1)]) (fun g => [(0, true, .arr (aInt g.2.2))])
        (fun g => 1 ≤ g.2.1 ∧ j + 1 + g.2.1 ≤ xs.length ∧ g.1 = (compS (xs.take (j + 1 + g.2.1))).length ∧ g.1 ≤ j + g.2.1 ∧ g.2.2 = compS (xs.take (j + 1 + g.2.1)) ++ xs.drop g.1) (fun g => xs.length - g.2.1) ?_
      conv=>whnf
      refine ⟨⟨(j + 1, 1, xs), ⟨Nat.le_refl _, (show j + 1 + 1 ≤ xs.length from hlt), ?_, Nat.le_refl _, e0⟩, ?_⟩, ?_⟩
      · rw [compS_take (by omega) hlt, if_pos (by simpa using heq.symm)]; exact hcj.symm
      · conv=>whnf
        repeat' (first | exact trivial | exact rfl | refine And.intro ?_ ?_ | ((conv=>whnf); first | exact trivial | exact rfl | refine And.intro ?_ ?_ | omega))
      rintro ⟨k, m, ys⟩ ⟨g1, g2, g3, g4, g5⟩ ρ2 t2 hρ2
      dsimp only at g1 g2 g3 g4 g5 ⊢
      have hyl : ys.length = xs.length := by rw [g5, List.length_append, ← g3, List.length_drop]; omega
      have hyg : ∀ i, k ≤ i → ys[i]? = xs[i]? := by
        intro i hi
        rw [g5, List.getElem?_append_right (by omega), ← g3, List.getElem?_drop]
        congr 1; omega
      conv=>whnf
      refine ⟨fun hc => ?_, fun hc => ?_⟩
      · have hm : j + 1 + m < xs.length := by have := of_decide_eq_true (show decide ((m : Int) < ((xs.length - (j + 1) : Nat) : Int)) = true from hc); omega
        have hms : m < xs.length - (j + 1) := by omega
        have hmy : j + 1 + m < ys.length := by omega
        conv=>whnf
        refine ⟨m, rfl, hms, hmy, ?_⟩
        conv=>whnf
        obtain ⟨i, rfl⟩ : ∃ i, m = i + 1 := ⟨m - 1, by omega⟩
        refine ⟨(i : Nat), by have e : ((i + 1 : Nat) : Int) - 1 = (i : Nat) := by omega
                              rw [e]; exact wrapId (z := (i : Int)) ⟨by omega, by omega⟩, ?_⟩
        conv=>whnf
        refine ⟨i, rfl, (show i < xs.length - (j + 1) by omega), (show j + 1 + i < ys.length by omega), ?_⟩
        conv=>whnf
        have hkl : k < ys.length := by omega
        have ea : ys[j + 1 + (i + 1)]'hmy = xs[j + 1 + (i + 1)]'hm := by
          have := hyg (j + 1 + (i + 1)) (by omega)
          rw [List.getElem?_eq_getElem hmy, List.getElem?_eq_getElem hm] at this
          exact Option.some.inj this
        have eb : ys[j + 1 + i]'(by omega) = xs[j + 1 + i]'(by omega) := by
          have := hyg (j + 1 + i) (by omega)
          rw [List.getElem?_eq_getElem (by omega), List.getElem?_eq_getElem (by omega)] at this
          exact Option.some.inj this
        have hct : compS (xs.take (j + 1 + (i + 1) + 1)) = if xs[j + 1 + i]'(by omega) = xs[j + 1 + (i + 1)]'hm then compS (xs.take (j + 1 + (i + 1))) else compS (xs.take (j + 1 + (i + 1))) ++ [xs[j + 1 + (i + 1)]'hm] := compS_take (xs := xs) (j := j + 1 + (i + 1)) (by omega) hm
        refine ⟨fun hc => ?_, fun hc => ?_⟩
        · have hne : ¬ xs[j + 1 + i]'(by omega) = xs[j + 1 + (i + 1)] := fun he => by
            have hb : eqI (ys[j + 1 + (i + 1)]'hmy) (ys[j + 1 + i]'(by omega)) = true := by rw [ea, eb, he]; exact eqI_r _
            have hb2 : (!eqI (ys[j + 1 + (i + 1)]'hmy) (ys[j + 1 + i]'(by omega))) = true := hc
            rw [hb] at hb2; cases hb2
          conv=>whnf
          refine ⟨i + 1, rfl, hms, hmy, ?_⟩
          conv=>whnf
          refine ⟨k, rfl, (show k < xs.length by omega), hkl, ?_⟩
          conv=>whnf
          refine ⟨ys[j + 1 + (i + 1)]'hmy, rfl, ?_⟩
          conv=>whnf
          refine ⟨(k : Int) + 1, wrapId (z := (k : Int) + 1) ⟨by omega, by omega⟩, ?_⟩
          conv=>whnf
          refine ⟨((i + 1 : Nat) : Int) + 1, wrapId (z := ((i + 1 : Nat) : Int) + 1) ⟨by omega, by omega⟩, ?_⟩
          conv=>whnf
          rw [if_neg hne] at hct
          have hnew : ys.set k (ys[j + 1 + (i + 1)]'hmy) = compS (xs.take (j + 1 + (i + 2))) ++ xs.drop (k + 1) := by
            have e3 : xs.take (j + 1 + (i + 2)) = xs.take (j + 1 + (i + 1) + 1) := rfl
            rw [e3, hct, ea, g5, List.set_append_right _ _ (by omega), ← g3, Nat.sub_self, List.drop_eq_getElem_cons (show k < xs.length by omega), List.append_assoc]
            rfl
          refine ⟨(k + 1, i + 2, ys.set k (ys[j + 1 + (i + 1)]'hmy)), ⟨(show 1 ≤ i + 2 by omega), (show j + 1 + (i + 2) ≤ xs.length by omega), ?_, (show k + 1 ≤ j + (i + 2) by omega), hnew⟩, (show xs.length - (i + 2) < xs.length - (i + 1) by omega), ?_⟩
          · show k + 1 = (compS (xs.take (j + 1 + (i + 1) + 1))).length
            rw [hct, List.length_append, ← g3]; rfl
          conv=>whnf
          refine ⟨rfl, ?_⟩
          conv=>whnf
          repeat' (first | exact trivial | exact rfl | refine And.intro ?_ ?_ | ((conv=>whnf); first | exact trivial | exact rfl | refine And.intro ?_ ?_ | omega))
        · have heq2 : xs[j + 1 + i]'(by omega) = xs[j + 1 + (i + 1)] := by
            have hb2 : (!eqI (ys[j + 1 + (i + 1)]'hmy) (ys[j + 1 + i]'(by omega))) = false := hc
            rw [ea, eb] at hb2
            exact (eqI_t (by simpa using hb2)).symm
          conv=>whnf
          refine ⟨((i + 1 : Nat) : Int) + 1, wrapId (z := ((i + 1 : Nat) : Int) + 1) ⟨by omega, by omega⟩, ?_⟩
          conv=>whnf
          rw [if_pos heq2] at hct
          have e3 : compS (xs.take (j + 1 + (i + 2))) = compS (xs.take (j + 1 + (i + 1))) := hct
          refine ⟨(k, i + 2, ys), ⟨(show 1 ≤ i + 2 by omega), (show j + 1 + (i + 2) ≤ xs.length by omega), by rw [e3]; exact g3, (show k ≤ j + (i + 2) by omega), by rw [e3]; exact g5⟩, (show xs.length - (i + 2) < xs.length - (i + 1) by omega), ?_⟩
          conv=>whnf
          refine ⟨rfl, ?_⟩
          conv=>whnf
          repeat' (first | exact trivial | exact rfl | refine And.intro ?_ ?_ | ((conv=>whnf); first | exact trivial | exact rfl | refine And.intro ?_ ?_ | omega))
      · have hm : j + 1 + m = xs.length := by have hq := of_decide_eq_false (show decide ((m : Int) < ((xs.length - (j + 1) : Nat) : Int)) = false from hc); omega
        rw [hm, List.take_length] at g3 g5
        have hkl : k ≤ xs.length := by omega
        conv=>whnf
        refine ⟨Nat.le_refl _, ?_⟩
        conv=>whnf
        refine ⟨k, rfl, hkl, ?_⟩
        conv=>whnf
        refine clear_step tB_ok rfl rfl rfl rfl ?_
        conv=>whnf
        refine ⟨⟨rfl, ?_⟩, ?_⟩
        · show addN 0 k + subN xs.length k ≤ ys.length
          rw [addN_eq, subN_eq]; omega
        conv=>whnf
        refine ⟨k, rfl, hkl, ?_⟩
        conv=>whnf
        refine ⟨Nat.zero_le _, ?_⟩
        have hys : ys.take k = compS xs := by rw [g5, List.take_left' g3.symm]
        conv=>whnf
        repeat' (first | exact trivial | exact rfl | refine And.intro ?_ ?_ | ((conv=>whnf); first | exact trivial | exact rfl | refine And.intro ?_ ?_ | omega))
        all_goals first | (rw [subN_eq]; omega) | (rw [← hys]; repeat' (first | exact trivial | exact rfl | refine And.intro ?_ ?_ | ((conv=>whnf); first | exact trivial | exact rfl | refine And.intro ?_ ?_ | omega)))
    · have hne : ¬ xs[j] = xs[j + 1] := fun he => by have h3 : eqI xs[j + 1] xs[j] = false := hc; rw [he, eqI_r] at h3; cases h3
      conv=>whnf
      refine ⟨_, wrapId ⟨by omega, by omega⟩, ?_⟩
      refine ⟨j + 2, ⟨by omega, hlt, compS_same h2 h3 (by omega) hlt hne⟩, by omega, ?_⟩
      conv=>whnf
      refine ⟨rfl, ?_⟩
      conv=>whnf
      repeat' (first | exact trivial | exact rfl | refine And.intro ?_ ?_ | ((conv=>whnf); first | exact trivial | exact rfl | refine And.intro ?_ ?_ | omega))
  have hk : k = xs.length := by simp at hc; omega
  rw [hk, List.take_length] at h3
  rw [h3]
  conv=>whnf
  repeat' (first | exact trivial | exact rfl | refine And.intro ?_ ?_ | ((conv=>whnf); first | exact trivial | exact rfl | refine And.intro ?_ ?_ | omega))

theorem compactThg_t (xs : List Thg) (h : xs.length ≤ 1000000) : Triple Tryz.prog 224 [.c (.s 0 0 xs.length 4)] [(0, true, .arr (aThg xs))] 1 (.c (.s 0 0 (compS xs).length 4)) [(0, true, .arr (aThg (compS xs)))] := by
  refine triple_of tB_ok Tryz.func224 rfl Tryz.call224 rfl ?_
  intro ρ w hH
  conv=>whnf
  refine ⟨fun hc => ?_, fun hc => ?_⟩
  · have hl : xs.length < 2 := by have := of_decide_eq_true (show decide ((xs.length : Int) < 2) = true from hc); omega
    have e : compS xs = xs := by
      match xs, hl with
      | [], _ => rfl
      | [x], _ => rfl
    rw [e]
    conv=>whnf
    repeat' (first | exact trivial | exact rfl | refine And.intro ?_ ?_ | ((conv=>whnf); first | exact trivial | exact rfl | refine And.intro ?_ ?_ | omega))
  have hl : ¬ xs.length < 2 := by have := of_decide_eq_false (show decide ((xs.length : Int) < 2) = false from hc); omega
  conv=>whnf
  refine loop_step tB_ok (G := Nat) 0 [] (fun k => [(3, iv .i64 k)]) (fun _ => [(0, true, .arr (aThg xs))]) (fun k => 1 ≤ k ∧ k ≤ xs.length ∧ compS (xs.take k) = xs.take k) (fun k => xs.length - k) ?_
  conv=>whnf
  refine ⟨⟨1, ⟨Nat.le_refl _, by omega, ?_⟩, ?_⟩, ?_⟩
  · match xs, hl with
    | x :: r, _ => rfl
  · conv=>whnf
    repeat' (first | exact trivial | exact rfl | refine And.intro ?_ ?_ | ((conv=>whnf); first | exact trivial | exact rfl | refine And.intro ?_ ?_ | omega))
  rintro k ⟨h1, h2, h3⟩ ρ1 t1 hρ1
  dsimp only
  conv=>whnf
  refine ⟨fun hc => ?_, fun hc => ?_⟩
  · have hlt : k < xs.length := by simpa using hc
    conv=>whnf
    refine ⟨k, rfl, hlt, hlt, ?_⟩
    conv=>whnf
    obtain ⟨j, rfl⟩ : ∃ j, k = j + 1 := ⟨k - 1, by omega⟩
    refine ⟨(j : Nat), by have e : ((j + 1 : Nat) : Int) - 1 = (j : Nat) := by omega
                          rw [e]; exact wrapId (z := (j : Int)) ⟨by omega, by omega⟩, ?_⟩
    conv=>whnf
    refine ⟨j, rfl, (show j < xs.length by omega), (show j < xs.length by omega), ?_⟩
    conv=>whnf
    refine ⟨fun hc => ?_, fun hc => ?_⟩
    · have heq : xs[j + 1] = xs[j] := eqThg_t (show eqThg xs[j + 1] xs[j] = true from hc)
      conv=>whnf
      refine ⟨Nat.le_refl _, ?_⟩
      conv=>whnf
      refine ⟨j + 1, rfl, ?_⟩
      conv=>whnf
      refine ⟨h2, ?_⟩
      conv=>whnf
      have hcj : (compS (xs.take (j + 1))).length = j + 1 := by rw [h3, List.length_take]; omega
      have e0 : xs = compS (xs.take (j + 1 + 1)) ++ xs.drop (j + 1) := by
        rw [compS_take (by omega) hlt, if_pos (by simpa using heq.symm), h3, List.take_append_drop]
      refine loop_step tB_ok (G := Nat × Nat × List Thg) 0 [] (fun g => [(5, iv .i64 g.2.1), (3, iv .i64 g.1)]) (fun g => [(0, true, .arr (aThg g.2.2))])
        (fun g => 1 ≤ g.2.1 ∧ j + 1 + g.2.1 ≤ xs.length ∧ g.1 = (compS (xs.take (j + 1 + g.2.1))).length ∧ g.1 ≤ j + g.2.1 ∧ g.2.2 = compS (xs.take (j + 1 + g.2.1)) ++ xs.drop g.1) (fun g => xs.length - g.2.1) ?_
      conv=>whnf
      refine ⟨⟨(j + 1, 1, xs), ⟨Nat.le_refl _, (show j + 1 + 1 ≤ xs.length from hlt), ?_, Nat.le_refl _, e0⟩, ?_⟩, ?_⟩
      · rw [compS_take (by omega) hlt, if_pos (by simpa using heq.symm)]; exact hcj.symm
      · conv=>whnf
        repeat' (first | exact trivial | exact rfl | refine And.intro ?_ ?_ | ((conv=>whnf); first | exact trivial | exact rfl | refine And.intro ?_ ?_ | omega))
      rintro ⟨k, m, ys⟩ ⟨g1, g2, g3, g4, g5⟩ ρ2 t2 hρ2
      dsimp only at g1 g2 g3 g4 g5 ⊢
      have hyl : ys.length = xs.length := by rw [g5, List.length_append, ← g3, List.length_drop]; omega
      have hyg : ∀ i, k ≤ i → ys[i]? = xs[i]? := by
        intro i hi
        rw [g5, List.getElem?_append_right (by omega), ← g3, List.getElem?_drop]
        congr 1; omega
      conv=>whnf
      refine ⟨fun hc => ?_, fun hc => ?_⟩
      · have hm : j + 1 + m < xs.length := by have := of_decide_eq_true (show decide ((m : Int) < ((xs.length - (j + 1) : Nat) : Int)) = true from hc); omega
        have hms : m < xs.length - (j + 1) := by omega
        have hmy : j + 1 + m < ys.length := by omega
        conv=>whnf
        refine ⟨m, rfl, hms, hmy, ?_⟩
        conv=>whnf
        obtain ⟨i, rfl⟩ : ∃ i, m = i + 1 := ⟨m - 1, by omega⟩
        refine ⟨(i : Nat), by have e : ((i + 1 : Nat) : Int) - 1 = (i : Nat) := by omega
                              rw [e]; exact wrapId (z := (i : Int)) ⟨by omega, by omega⟩, ?_⟩
        conv=>whnf
        refine ⟨i, rfl, (show i < xs.length - (j + 1) by omega), (show j + 1 + i < ys.length by omega), ?_⟩
        conv=>whnf
        have hkl : k < ys.length := by omega
        have ea : ys[j + 1 + (i + 1)]'hmy = xs[j + 1 + (i + 1)]'hm := by
          have := hyg (j + 1 + (i + 1)) (by omega)
          rw [List.getElem?_eq_getElem hmy, List.getElem?_eq_getElem hm] at this
          exact Option.some.inj this
        have eb : ys[j + 1 + i]'(by omega) = xs[j + 1 + i]'(by omega) := by
          have := hyg (j + 1 + i) (by omega)
          rw [List.getElem?_eq_getElem (by omega), List.getElem?_eq_getElem (by omega)] at this
          exact Option.some.inj this
        have hct : compS (xs.take (j + 1 + (i + 1) + 1)) = if xs[j + 1 + i]'(by omega) = xs[j + 1 + (i + 1)]'hm then compS (xs.take (j + 1 + (i + 1))) else compS (xs.take (j + 1 + (i + 1))) ++ [xs[j + 1 + (i + 1)]'hm] := compS_take (xs := xs) (j := j + 1 + (i + 1)) (by omega) hm
        refine ⟨fun hc => ?_, fun hc => ?_⟩
        · have hne : ¬ xs[j + 1 + i]'(by omega) = xs[j + 1 + (i + 1)] := fun he => by
            have hb : eqThg (ys[j + 1 + (i + 1)]'hmy) (ys[j + 1 + i]'(by omega)) = true := by rw [ea, eb, he]; exact eqThg_r _
            have hb2 : (!eqThg (ys[j + 1 + (i + 1)]'hmy) (ys[j + 1 + i]'(by omega))) = true := hc
            rw [hb] at hb2; cases hb2
          conv=>whnf
          refine ⟨i + 1, rfl, hms, hmy, ?_⟩
          conv=>whnf
          refine ⟨k, rfl, (show k < xs.length by omega), hkl, ?_⟩
          conv=>whnf
          refine ⟨ys[j + 1 + (i + 1)]'hmy, rfl, ?_⟩
          conv=>whnf
          refine ⟨(k : Int) + 1, wrapId (z := (k : Int) + 1) ⟨by omega, by omega⟩, ?_⟩
          conv=>whnf
          refine ⟨((i + 1 : Nat) : Int) + 1, wrapId (z := ((i + 1 : Nat) : Int) + 1) ⟨by omega, by omega⟩, ?_⟩
          conv=>whnf
          rw [if_neg hne] at hct
          have hnew : ys.set k (ys[j + 1 + (i + 1)]'hmy) = compS (xs.take (j + 1 + (i + 2))) ++ xs.drop (k + 1) := by
            have e3 : xs.take (j + 1 + (i + 2)) = xs.take (j + 1 + (i + 1) + 1) := rfl
            rw [e3, hct, ea, g5, List.set_append_right _ _ (by omega), ← g3, Nat.sub_self, List.drop_eq_getElem_cons (show k < xs.length by omega), List.append_assoc]
            rfl
          refine ⟨(k + 1, i + 2, ys.set k (ys[j + 1 + (i + 1)]'hmy)), ⟨(show 1 ≤ i + 2 by omega), (show j + 1 + (i + 2) ≤ xs.length by omega), ?_, (show k + 1 ≤ j + (i + 2) by omega), hnew⟩, (show xs.length - (i + 2) < xs.length - (i + 1) by omega), ?_⟩
          · show k + 1 = (compS (xs.take (j + 1 + (i + 1) + 1))).length
            rw [hct, List.length_append, ← g3]; rfl
          conv=>whnf
          refine ⟨rfl, ?_⟩
          conv=>whnf
          repeat' (first | exact trivial | exact rfl | refine And.intro ?_ ?_ | ((conv=>whnf); first | exact trivial | exact rfl | refine And.intro ?_ ?_ | omega))
        · have heq2 : xs[j + 1 + i]'(by omega) = xs[j + 1 + (i + 1)] := by
            have hb2 : (!eqThg (ys[j + 1 + (i + 1)]'hmy) (ys[j + 1 + i]'(by omega))) = false := hc
            rw [ea, eb] at hb2
            exact (eqThg_t (by simpa using hb2)).symm
          conv=>whnf
          refine ⟨((i + 1 : Nat) : Int) + 1, wrapId (z := ((i + 1 : Nat) : Int) + 1) ⟨by omega, by omega⟩, ?_⟩
          conv=>whnf
          rw [if_pos heq2] at hct
          have e3 : compS (xs.take (j + 1 + (i + 2))) = compS (xs.take (j + 1 + (i + 1))) := hct
          refine ⟨(k, i + 2, ys), ⟨(show 1 ≤ i + 2 by omega), (show j + 1 + (i + 2) ≤ xs.length by omega), by rw [e3]; exact g3, (show k ≤ j + (i + 2) by omega), by rw [e3]; exact g5⟩, (show xs.length - (i + 2) < xs.length - (i + 1) by omega), ?_⟩
          conv=>whnf
          refine ⟨rfl, ?_⟩
          conv=>whnf
          repeat' (first | exact trivial | exact rfl | refine And.intro ?_ ?_ | ((conv=>whnf); first | exact trivial | exact rfl | refine And.intro ?_ ?_ | omega))
      · have hm : j + 1 + m = xs.length := by have hq := of_decide_eq_false (show decide ((m : Int) < ((xs.length - (j + 1) : Nat) : Int)) = false from hc); omega
        rw [hm, List.take_length] at g3 g5
        have hkl : k ≤ xs.length := by omega
        conv=>whnf
        refine ⟨Nat.le_refl _, ?_⟩
        conv=>whnf
        refine ⟨k, rfl, hkl, ?_⟩
        conv=>whnf
        refine clear_step tB_ok rfl rfl rfl rfl ?_
        conv=>whnf
        refine ⟨⟨rfl, ?_⟩, ?_⟩
        · show addN 0 k + subN xs.length k ≤ ys.length
          rw [addN_eq, subN_eq]; omega
        conv=>whnf
        refine ⟨k, rfl, hkl, ?_⟩
        conv=>whnf
        refine ⟨Nat.zero_le _, ?_⟩
        have hys : ys.take k = compS xs := by rw [g5, List.take_left' g3.symm]
        conv=>whnf
        repeat' (first | exact trivial | exact rfl | refine And.intro ?_ ?_ | ((conv=>whnf); first | exact trivial | exact rfl | refine And.intro ?_ ?_ | omega))
        all_goals first | (rw [subN_eq]; omega) | (rw [← hys]; repeat' (first | exact trivial | exact rfl | refine And.intro ?_ ?_ | ((conv=>whnf); first | exact trivial | exact rfl | refine And.intro ?_ ?_ | omega)))
    · have hne : ¬ xs[j] = xs[j + 1] := fun he => by have h3 : eqThg xs[j + 1] xs[j] = false := hc; rw [he, eqThg_r] at h3; cases h3
      conv=>whnf
      refine ⟨_, wrapId ⟨by omega, by omega⟩, ?_⟩
      refine ⟨j + 2, ⟨by omega, hlt, compS_same h2 h3 (by omega) hlt hne⟩, by omega, ?_⟩
      conv=>whnf
      refine ⟨rfl, ?_⟩
      conv=>whnf
      repeat' (first | exact trivial | exact rfl | refine And.intro ?_ ?_ | ((conv=>whnf); first | exact trivial | exact rfl | refine And.intro ?_ ?_ | omega))
  have hk : k = xs.length := by simp at hc; omega
  rw [hk, List.take_length] at h3
  rw [h3]
  conv=>whnf
  repeat' (first | exact trivial | exact rfl | refine And.intro ?_ ?_ | ((conv=>whnf); first | exact trivial | exact rfl | refine And.intro ?_ ?_ | omega))

theorem compactMom_t (xs : List Mom) (h : xs.length ≤ 1000000) : Triple Tryz.prog 228 [.c (.s 0 0 xs.length 2)] [(0, true, .arr (aMom xs))] 1 (.c (.s 0 0 (compS xs).length 2)) [(0, true, .arr (aMom (compS xs)))] := by
  refine triple_of tB_ok Tryz.func228 rfl Tryz.call228 rfl ?_
  intro ρ w hH
  conv=>whnf
  refine ⟨fun hc => ?_, fun hc => ?_⟩
  · have hl : xs.length < 2 := by have := of_decide_eq_true (show decide ((xs.length : Int) < 2) = true from hc); omega
    have e : compS xs = xs := by
      match xs, hl with
      | [], _ => rfl
      | [x], _ => rfl
    rw [e]
    conv=>whnf
    repeat' (first | exact trivial | exact rfl | refine And.intro ?_ ?_ | ((conv=>whnf); first | exact trivial | exact rfl | refine And.intro ?_ ?_ | omega))
  have hl : ¬ xs.length < 2 := by have := of_decide_eq_false (show decide ((xs.length : Int) < 2) = false from hc); omega
  conv=>whnf
  refine loop_step tB_ok (G := Nat) 0 [] (fun k => [(3, iv .i64 k)]) (fun _ => [(0, true, .arr (aMom xs))]) (fun k => 1 ≤ k ∧ k ≤ xs.length ∧ compS (xs.take k) = xs.take k) (fun k => xs.length - k) ?_
  conv=>whnf
  refine ⟨⟨1, ⟨Nat.le_refl _, by omega, ?_⟩, ?_⟩, ?_⟩
  · match xs, hl with
    | x :: r, _ => rfl
  · conv=>whnf
    repeat' (first | exact trivial | exact rfl | refine And.intro ?_ ?_ | ((conv=>whnf); first | exact trivial | exact rfl | refine And.intro ?_ ?_ | omega))
  rintro k ⟨h1, h2, h3⟩ ρ1 t1 hρ1
  dsimp only
  conv=>whnf
  refine ⟨fun hc => ?_, fun hc => ?_⟩
  · have hlt : k < xs.length := by simpa using hc
    conv=>whnf
    refine ⟨k, rfl, hlt, hlt, ?_⟩
    conv=>whnf
    obtain ⟨j, rfl⟩ : ∃ j, k = j + 1 := ⟨k - 1, by omega⟩
    refine ⟨(j : Nat), by have e : ((j + 1 : Nat) : Int) - 1 = (j : Nat) := by omega
                          rw [e]; exact wrapId (z := (j : Int)) ⟨by omega, by omega⟩, ?_⟩
    conv=>whnf
    refine ⟨j, rfl, (show j < xs.length by omega), (show j < xs.length by omega), ?_⟩
    conv=>whnf
    refine ⟨fun hc => ?_, fun hc => ?_⟩
    · have heq : xs[j + 1] = xs[j] := eqMom_t (show eqMom xs[j + 1] xs[j] = true from hc)
      conv=>whnf
      refine ⟨Nat.le_refl _, ?_⟩
      conv=>whnf
      refine ⟨j + 1, rfl, ?_⟩
      conv=>whnf
      refine ⟨h2, ?_⟩
      conv=>whnf
      have hcj : (compS (xs.take (j + 1))).length = j + 1 := by rw [h3, List.length_take]; omega
      have e0 : xs = compS (xs.take (j + 1 + 1)) ++ xs.drop (j + 1) := by
        rw [compS_take (by omega) hlt, if_pos (by simpa using heq.symm), h3, List.take_append_drop]
      refine loop_step tB_ok (G := Nat × Nat × List Mom) 0 [] (fun g => [(5, iv .i64 g.2.1), (3, iv .i64 g.1)]) (fun g => [(0, true, .arr (aMom g.2.2))])
        (fun g => 1 ≤ g.2.1 ∧ j + 1 + g.2.1 ≤ xs.length ∧ g.1 = (compS (xs.take (j + 1 + g.2.1))).length ∧ g.1 ≤ j + g.2.1 ∧ g.2.2 = compS (xs.take (j + 1 + g.2.1)) ++ xs.drop g.1) (fun g => xs.length - g.2.1) ?_
      conv=>whnf
      refine ⟨⟨(j + 1, 1, xs), ⟨Nat.le_refl _, (show j + 1 + 1 ≤ xs.length from hlt), ?_, Nat.le_refl _, e0⟩, ?_⟩, ?_⟩
      · rw [compS_take (by omega) hlt, if_pos (by simpa using heq.symm)]; exact hcj.symm
      · conv=>whnf
        repeat' (first | exact trivial | exact rfl | refine And.intro ?_ ?_ | ((conv=>whnf); first | exact trivial | exact rfl | refine And.intro ?_ ?_ | omega))
      rintro ⟨k, m, ys⟩ ⟨g1, g2, g3, g4, g5⟩ ρ2 t2 hρ2
      dsimp only at g1 g2 g3 g4 g5 ⊢
      have hyl : ys.length = xs.length := by rw [g5, List.length_append, ← g3, List.length_drop]; omega
      have hyg : ∀ i, k ≤ i → ys[i]? = xs[i]? := by
        intro i hi
        rw [g5, List.getElem?_append_right (by omega), ← g3, List.getElem?_drop]
        congr 1; omega
      conv=>whnf
      refine ⟨fun hc => ?_, fun hc => ?_⟩
      · have hm : j + 1 + m < xs.length := by have := of_decide_eq_true (show decide ((m : Int) < ((xs.length - (j + 1) : Nat) : Int)) = true from hc); omega
        have hms : m < xs.length - (j + 1) := by omega
        have hmy : j + 1 + m < ys.length := by omega
        conv=>whnf
        refine ⟨m, rfl, hms, hmy, ?_⟩
        conv=>whnf
        obtain ⟨i, rfl⟩ : ∃ i, m = i + 1 := ⟨m - 1, by omega⟩
        refine ⟨(i : Nat), by have e : ((i + 1 : Nat) : Int) - 1 = (i : Nat) := by omega
                              rw [e]; exact wrapId (z := (i : Int)) ⟨by omega, by omega⟩, ?_⟩
        conv=>whnf
        refine ⟨i, rfl, (show i < xs.length - (j + 1) by omega), (show j + 1 + i < ys.length by omega), ?_⟩
        conv=>whnf
        have hkl : k < ys.length := by omega
        have ea : ys[j + 1 + (i + 1)]'hmy = xs[j + 1 + (i + 1)]'hm := by
          have := hyg (j + 1 + (i + 1)) (by omega)
          rw [List.getElem?_eq_getElem hmy, List.getElem?_eq_getElem hm] at this
          exact Option.some.inj this
        have eb : ys[j + 1 + i]'(by omega) = xs[j + 1 + i]'(by omega) := by
          have := hyg (j + 1 + i) (by omega)
          rw [List.getElem?_eq_getElem (by omega), List.getElem?_eq_getElem (by omega)] at this
          exact Option.some.inj this
        have hct : compS (xs.take (j + 1 + (i + 1) + 1)) = if xs[j + 1 + i]'(by omega) = xs[j + 1 + (i + 1)]'hm then compS (xs.take (j + 1 + (i + 1))) else compS (xs.take (j + 1 + (i + 1))) ++ [xs[j + 1 + (i + 1)]'hm] := compS_take (xs := xs) (j := j + 1 + (i + 1)) (by omega) hm
        refine ⟨fun hc => ?_, fun hc => ?_⟩
        · have hne : ¬ xs[j + 1 + i]'(by omega) = xs[j + 1 + (i + 1)] := fun he => by
            have hb : eqMom (ys[j + 1 + (i + 1)]'hmy) (ys[j + 1 + i]'(by omega)) = true := by rw [ea, eb, he]; exact eqMom_r _
            have hb2 : (!eqMom (ys[j + 1 + (i + 1)]'hmy) (ys[j + 1 + i]'(by omega))) = true := hc
            rw [hb] at hb2; cases hb2
          conv=>whnf
          refine ⟨i + 1, rfl, hms, hmy, ?_⟩
          conv=>whnf
          refine ⟨k, rfl, (show k < xs.length by omega), hkl, ?_⟩
          conv=>whnf
          refine ⟨ys[j + 1 + (i + 1)]'hmy, rfl, ?_⟩
          conv=>whnf
          refine ⟨(k : Int) + 1, wrapId (z := (k : Int) + 1) ⟨by omega, by omega⟩, ?_⟩
          conv=>whnf
          refine ⟨((i + 1 : Nat) : Int) + 1, wrapId (z := ((i + 1 : Nat) : Int) + 1) ⟨by omega, by omega⟩, ?_⟩
          conv=>whnf
          rw [if_neg hne] at hct
          have hnew : ys.set k (ys[j + 1 + (i + 1)]'hmy) = compS (xs.take (j + 1 + (i + 2))) ++ xs.drop (k + 1) := by
            have e3 : xs.take (j + 1 + (i + 2)) = xs.take (j + 1 + (i + 1) + 1) := rfl
            rw [e3, hct, ea, g5, List.set_append_right _ _ (by omega), ← g3, Nat.sub_self, List.drop_eq_getElem_cons (show k < xs.length by omega), List.append_assoc]
            rfl
          refine ⟨(k + 1, i + 2, ys.set k (ys[j + 1 + (i + 1)]'hmy)), ⟨(show 1 ≤ i + 2 by omega), (show j + 1 + (i + 2) ≤ xs.length by omega), ?_, (show k + 1 ≤ j + (i + 2) by omega), hnew⟩, (show xs.length - (i + 2) < xs.length - (i + 1) by omega), ?_⟩
          · show k + 1 = (compS (xs.take (j + 1 + (i + 1) + 1))).length
            rw [hct, List.length_append, ← g3]; rfl
          conv=>whnf
          refine ⟨rfl, ?_⟩
          conv=>whnf
          repeat' (first | exact trivial | exact rfl | refine And.intro ?_ ?_ | ((conv=>whnf); first | exact trivial | exact rfl | refine And.intro ?_ ?_ | omega))
        · have heq2 : xs[j + 1 + i]'(by omega) = xs[j + 1 + (i + 1)] := by
            have hb2 : (!eqMom (ys[j + 1 + (i + 1)]'hmy) (ys[j + 1 + i]'(by omega))) = false := hc
            rw [ea, eb] at hb2
            exact (eqMom_t (by simpa using hb2)).symm
          conv=>whnf
          refine ⟨((i + 1 : Nat) : Int) + 1, wrapId (z := ((i + 1 : Nat) : Int) + 1) ⟨by omega, by omega⟩, ?_⟩
          conv=>whnf
          rw [if_pos heq2] at hct
          have e3 : compS (xs.take (j + 1 + (i + 2))) = compS (xs.take (j + 1 + (i + 1))) := hct
          refine ⟨(k, i + 2, ys), ⟨(show 1 ≤ i + 2 by omega), (show j + 1 + (i + 2) ≤ xs.length by omega), by rw [e3]; exact g3, (show k ≤ j + (i + 2) by omega), by rw [e3]; exact g5⟩, (show xs.length - (i + 2) < xs.length - (i + 1) by omega), ?_⟩
          conv=>whnf
          refine ⟨rfl, ?_⟩
          conv=>whnf
          repeat' (first | exact trivial | exact rfl | refine And.intro ?_ ?_ | ((conv=>whnf); first | exact trivial | exact rfl | refine And.intro ?_ ?_ | omega))
      · have hm : j + 1 + m = xs.length := by have hq := of_decide_eq_false (show decide ((m : Int) < ((xs.length - (j + 1) : Nat) : Int)) = false from hc); omega
        rw [hm, List.take_length] at g3 g5
        have hkl : k ≤ xs.length := by omega
        conv=>whnf
        refine ⟨Nat.le_refl _, ?_⟩
        conv=>whnf
        refine ⟨k, rfl, hkl, ?_⟩
        conv=>whnf
        refine clear_step tB_ok rfl rfl rfl rfl ?_
        conv=>whnf
        refine ⟨⟨rfl, ?_⟩, ?_⟩
        · show addN 0 k + subN xs.length k ≤ ys.length
          rw [addN_eq, subN_eq]; omega
        conv=>whnf
        refine ⟨k, rfl, hkl, ?_⟩
        conv=>whnf
        refine ⟨Nat.zero_le _, ?_⟩
        have hys : ys.take k = compS xs := by rw [g5, List.take_left' g3.symm]
        conv=>whnf
        repeat' (first | exact trivial | exact rfl | refine And.intro ?_ ?_ | ((conv=>whnf); first | exact trivial | exact rfl | refine And.intro ?_ ?_ | omega))
        all_goals first | (rw [subN_eq]; omega) | (rw [← hys]; repeat' (first | exact trivial | exact rfl | refine And.intro ?_ ?_ | ((conv=>whnf); first | exact trivial | exact rfl | refine And.intro ?_ ?_ | omega)))
    · have hne : ¬ xs[j] = xs[j + 1] := fun he => by have h3 : eqMom xs[j + 1] xs[j] = false := hc; rw [he, eqMom_r] at h3; cases h3
      conv=>whnf
      refine ⟨_, wrapId ⟨by omega, by omega⟩, ?_⟩
      refine ⟨j + 2, ⟨by omega, hlt, compS_same h2 h3 (by omega) hlt hne⟩, by omega, ?_⟩
      conv=>whnf
      refine ⟨rfl, ?_⟩
      conv=>whnf
      repeat' (first | exact trivial | exact rfl | refine And.intro ?_ ?_ | ((conv=>whnf); first | exact trivial | exact rfl | refine And.intro ?_ ?_ | omega))
  have hk : k = xs.length := by simp at hc; omega
  rw [hk, List.take_length] at h3
  rw [h3]
  conv=>whnf
  repeat' (first | exact trivial | exact rfl | refine And.intro ?_ ?_ | ((conv=>whnf); first | exact trivial | exact rfl | refine And.intro ?_ ?_ | omega))

theorem compactBal_t (xs : List Bal) (h : xs.length ≤ 1000000) : Triple Tryz.prog 233 [.c (.s 0 0 xs.length 6)] [(0, true, .arr (aBal xs))] 1 (.c (.s 0 0 (compS xs).length 6)) [(0, true, .arr (aBal (compS xs)))] := by
  refine triple_of tB_ok Tryz.func233 rfl Tryz.call233 rfl ?_
  intro ρ w hH
  conv=>whnf
  refine ⟨fun hc => ?_, fun hc => ?_⟩
  · have hl : xs.length < 2 := by have := of_decide_eq_true (show decide ((xs.length : Int) < 2) = true from hc); omega
    have e : compS xs = xs := by
      match xs, hl with
      | [], _ => rfl
      | [x], _ => rfl
    rw [e]
    conv=>whnf
    repeat' (first | exact trivial | exact rfl | refine And.intro ?_ ?_ | ((conv=>whnf); first | exact trivial | exact rfl | refine And.intro ?_ ?_ | omega))
  have hl : ¬ xs.length < 2 := by have := of_decide_eq_false (show decide ((xs.length : Int) < 2) = false from hc); omega
  conv=>whnf
  refine loop_step tB_ok (G := Nat) 0 [] (fun k => [(3, iv .i64 k)]) (fun _ => [(0, true, .arr (aBal xs))]) (fun k => 1 ≤ k ∧ k ≤ xs.length ∧ compS (xs.take k) = xs.take k) (fun k => xs.length - k) ?_
  conv=>whnf
  refine ⟨⟨1, ⟨Nat.le_refl _, by omega, ?_⟩, ?_⟩, ?_⟩
  · match xs, hl with
    | x :: r, _ => rfl
  · conv=>whnf
    repeat' (first | exact trivial | exact rfl | refine And.intro ?_ ?_ | ((conv=>whnf); first | exact trivial | exact rfl | refine And.intro ?_ ?_ | omega))
  rintro k ⟨h1, h2, h3⟩ ρ1 t1 hρ1
  dsimp only
  conv=>whnf
  refine ⟨fun hc => ?_, fun hc => ?_⟩
  · have hlt : k < xs.length := by simpa using hc
    conv=>whnf
    refine ⟨k, rfl, hlt, hlt, ?_⟩
    conv=>whnf
    obtain ⟨j, rfl⟩ : ∃ j, k = j + 1 := ⟨k - 1, by omega⟩
    refine ⟨(j : Nat), by have e : ((j + 1 : Nat) : Int) - 1 = (j : Nat) := by omega
                          rw [e]; exact wrapId (z := (j : Int)) ⟨by omega, by omega⟩, ?_⟩
    conv=>whnf
    refine ⟨j, rfl, (show j < xs.length by omega), (show j < xs.length by omega), ?_⟩
    conv=>whnf
    refine ⟨fun hc => ?_, fun hc => ?_⟩
    · have heq : xs[j + 1] = xs[j] := eqBal_t (show eqBal xs[j + 1] xs[j] = true from hc)
      conv=>whnf
      refine ⟨Nat.le_refl _, ?_⟩
      conv=>whnf
      refine ⟨j + 1, rfl, ?_⟩
      conv=>whnf
      refine ⟨h2, ?_⟩
      conv=>whnf
      have hcj : (compS (xs.take (j + 1))).length = j + 1 := by rw [h3, List.length_take]; omega
      have e0 : xs = compS (xs.take (j + 1 + 1)) ++ xs.drop (j + 1) := by
        rw [compS_take (by omega) hlt, if_pos (by simpa using heq.symm), h3, List.take_append_drop]
      refine loop_step tB_ok (G := Nat × Nat × List Bal) 0 [] (fun g => [(5, iv .i64 g.2.1), (3, iv .i64 g.1)]) (fun g => [(0, true, .arr (aBal g.2.2))])
        (fun g => 1 ≤ g.2.1 ∧ j + 1 + g.2.1 ≤ xs.length ∧ g.1 = (compS (xs.take (j + 1 + g.2.1))).length ∧ g.1 ≤ j + g.2.1 ∧ g.2.2 = compS (xs.take (j + 1 + g.2.1)) ++ xs.drop g.1) (fun g => xs.length - g.2.1) ?_
      conv=>whnf
      refine ⟨⟨(j + 1, 1, xs), ⟨Nat.le_refl _, (show j + 1 + 1 ≤ xs.length from hlt), ?_, Nat.le_refl _, e0⟩, ?_⟩, ?_⟩
      · rw [compS_take (by omega) hlt, if_pos (by simpa using heq.symm)]; exact hcj.symm
      · conv=>whnf
        repeat' (first | exact trivial | exact rfl | refine And.intro ?_ ?_ | ((conv=>whnf); first | exact trivial | exact rfl | refine And.intro ?_ ?_ | omega))
      rintro ⟨k, m, ys⟩ ⟨g1, g2, g3, g4, g5⟩ ρ2 t2 hρ2
      dsimp only at g1 g2 g3 g4 g5 ⊢
      have hyl : ys.length = xs.length := by rw [g5, List.length_append, ← g3, List.length_drop]; omega
      have hyg : ∀ i, k ≤ i → ys[i]? = xs[i]? := by
        intro i hi
        rw [g5, List.getElem?_append_right (by omega), ← g3, List.getElem?_drop]
        congr 1; omega
      conv=>whnf
      refine ⟨fun hc => ?_, fun hc => ?_⟩
      · have hm : j + 1 + m < xs.length := by have := of_decide_eq_true (show decide ((m : Int) < ((xs.length - (j + 1) : Nat) : Int)) = true from hc); omega
        have hms : m < xs.length - (j + 1) := by omega
        have hmy : j + 1 + m < ys.length := by omega
        conv=>whnf
        refine ⟨m, rfl, hms, hmy, ?_⟩
        conv=>whnf
        obtain ⟨i, rfl⟩ : ∃ i, m = i + 1 := ⟨m - 1, by omega⟩
        refine ⟨(i : Nat), by have e : ((i + 1 : Nat) : Int) - 1 = (i : Nat) := by omega
                              rw [e]; exact wrapId (z := (i : Int)) ⟨by omega, by omega⟩, ?_⟩
        conv=>whnf
        refine ⟨i, rfl, (show i < xs.length - (j + 1) by omega), (show j + 1 + i < ys.length by omega), ?_⟩
        conv=>whnf
        have hkl : k < ys.length := by omega
        have ea : ys[j + 1 + (i + 1)]'hmy = xs[j + 1 + (i + 1)]'hm := by
          have := hyg (j + 1 + (i + 1)) (by omega)
          rw [List.getElem?_eq_getElem hmy, List.getElem?_eq_getElem hm] at this
          exact Option.some.inj this
        have eb : ys[j + 1 + i]'(by omega) = xs[j + 1 + i]'(by omega) := by
          have := hyg (j + 1 + i) (by omega)
          rw [List.getElem?_eq_getElem (by omega), List.getElem?_eq_getElem (by omega)] at this
          exact Option.some.inj this
        have hct : compS (xs.take (j + 1 + (i + 1) + 1)) = if xs[j + 1 + i]'(by omega) = xs[j + 1 + (i + 1)]'hm then compS (xs.take (j + 1 + (i + 1))) else compS (xs.take (j + 1 + (i + 1))) ++ [xs[j + 1 + (i + 1)]'hm] := compS_take (xs := xs) (j := j + 1 + (i + 1)) (by omega) hm
        refine ⟨fun hc => ?_, fun hc => ?_⟩
        · have hne : ¬ xs[j + 1 + i]'(by omega) = xs[j + 1 + (i + 1)] := fun he => by
            have hb : eqBal (ys[j + 1 + (i + 1)]'hmy) (ys[j + 1 + i]'(by omega)) = true := by rw [ea, eb, he]; exact eqBal_r _
            have hb2 : (!eqBal (ys[j + 1 + (i + 1)]'hmy) (ys[j + 1 + i]'(by omega))) = true := hc
            rw [hb] at hb2; cases hb2
          conv=>whnf
          refine ⟨i + 1, rfl, hms, hmy, ?_⟩
          conv=>whnf
          refine ⟨k, rfl, (show k < xs.length by omega), hkl, ?_⟩
          conv=>whnf
          refine ⟨ys[j + 1 + (i + 1)]'hmy, rfl, ?_⟩
          conv=>whnf
          refine ⟨(k : Int) + 1, wrapId (z := (k : Int) + 1) ⟨by omega, by omega⟩, ?_⟩
          conv=>whnf
          refine ⟨((i + 1 : Nat) : Int) + 1, wrapId (z := ((i + 1 : Nat) : Int) + 1) ⟨by omega, by omega⟩, ?_⟩
          conv=>whnf
          rw [if_neg hne] at hct
          have hnew : ys.set k (ys[j + 1 + (i + 1)]'hmy) = compS (xs.take (j + 1 + (i + 2))) ++ xs.drop (k + 1) := by
            have e3 : xs.take (j + 1 + (i + 2)) = xs.take (j + 1 + (i + 1) + 1) := rfl
            rw [e3, hct, ea, g5, List.set_append_right _ _ (by omega), ← g3, Nat.sub_self, List.drop_eq_getElem_cons (show k < xs.length by omega), List.append_assoc]
            rfl
          refine ⟨(k + 1, i + 2, ys.set k (ys[j + 1 + (i + 1)]'hmy)), ⟨(show 1 ≤ i + 2 by omega), (show j + 1 + (i + 2) ≤ xs.length by omega), ?_, (show k + 1 ≤ j + (i + 2) by omega), hnew⟩, (show xs.length - (i + 2) < xs.length - (i + 1) by omega), ?_⟩
          · show k + 1 = (compS (xs.take (j + 1 + (i + 1) + 1))).length
            rw [hct, List.length_append, ← g3]; rfl
          conv=>whnf
          refine ⟨rfl, ?_⟩
          conv=>whnf
          repeat' (first | exact trivial | exact rfl | refine And.intro ?_ ?_ | ((conv=>whnf); first | exact trivial | exact rfl | refine And.intro ?_ ?_ | omega))
        · have heq2 : xs[j + 1 + i]'(by omega) = xs[j + 1 + (i + 1)] := by
            have hb2 : (!eqBal (ys[j + 1 + (i + 1)]'hmy) (ys[j + 1 + i]'(by omega))) = false := hc
            rw [ea, eb] at hb2
            exact (eqBal_t (by simpa using hb2)).symm
          conv=>whnf
          refine ⟨((i + 1 : Nat) : Int) + 1, wrapId (z := ((i + 1 : Nat) : Int) + 1) ⟨by omega, by omega⟩, ?_⟩
          conv=>whnf
          rw [if_pos heq2] at hct
          have e3 : compS (xs.take (j + 1 + (i + 2))) = compS (xs.take (j + 1 + (i + 1))) := hct
          refine ⟨(k, i + 2, ys), ⟨(show 1 ≤ i + 2 by omega), (show j + 1 + (i + 2) ≤ xs.length by omega), by rw [e3]; exact g3, (show k ≤ j + (i + 2) by omega), by rw [e3]; exact g5⟩, (show xs.length - (i + 2) < xs.length - (i + 1) by omega), ?_⟩
          conv=>whnf
          refine ⟨rfl, ?_⟩
          conv=>whnf
          repeat' (first | exact trivial | exact rfl | refine And.intro ?_ ?_ | ((conv=>whnf); first | exact trivial | exact rfl | refine And.intro ?_ ?_ | omega))
      · have hm : j + 1 + m = xs.length := by have hq := of_decide_eq_false (show decide ((m : Int) < ((xs.length - (j + 1) : Nat) : Int)) = false from hc); omega
        rw [hm, List.take_length] at g3 g5
        have hkl : k ≤ xs.length := by omega
        conv=>whnf
        refine ⟨Nat.le_refl _, ?_⟩
        conv=>whnf
        refine ⟨k, rfl, hkl, ?_⟩
        conv=>whnf
        refine clear_step tB_ok rfl rfl rfl rfl ?_
        conv=>whnf
        refine ⟨⟨rfl, ?_⟩, ?_⟩
        · show addN 0 k + subN xs.length k ≤ ys.length
          rw [addN_eq, subN_eq]; omega
        conv=>whnf
        refine ⟨k, rfl, hkl, ?_⟩
        conv=>whnf
        refine ⟨Nat.zero_le _, ?_⟩
        have hys : ys.take k = compS xs := by rw [g5, List.take_left' g3.symm]
        conv=>whnf
        repeat' (first | exact trivial | exact rfl | refine And.intro ?_ ?_ | ((conv=>whnf); first | exact trivial | exact rfl | refine And.intro ?_ ?_ | omega))
        all_goals first | (rw [subN_eq]; omega) | (rw [← hys]; repeat' (first | exact trivial | exact rfl | refine And.intro ?_ ?_ | ((conv=>whnf); first | exact trivial | exact rfl | refine And.intro ?_ ?_ | omega)))
    · have hne : ¬ xs[j] = xs[j + 1] := fun he => by have h3 : eqBal xs[j + 1] xs[j] = false := hc; rw [he, eqBal_r] at h3; cases h3
      conv=>whnf
      refine ⟨_, wrapId ⟨by omega, by omega⟩, ?_⟩
      refine ⟨j + 2, ⟨by omega, hlt, compS_same h2 h3 (by omega) hlt hne⟩, by omega, ?_⟩
      conv=>whnf
      refine ⟨rfl, ?_⟩
      conv=>whnf
      repeat' (first | exact trivial | exact rfl | refine And.intro ?_ ?_ | ((conv=>whnf); first | exact trivial | exact rfl | refine And.intro ?_ ?_ | omega))
  have hk : k = xs.length := by simp at hc; omega
  rw [hk, List.take_length] at h3
  rw [h3]
  conv=>whnf
  repeat' (first | exact trivial | exact rfl | refine And.intro ?_ ?_ | ((conv=>whnf); first | exact trivial | exact rfl | refine And.intro ?_ ?_ | omega))

theorem compactChk_t (xs : List Chk) (h : xs.length ≤ 1000000) : Triple Tryz.prog 235 [.c (.s 0 0 xs.length 5)] [(0, true, .arr (aChk xs))] 1 (.c (.s 0 0 (compS xs).length 5)) [(0, true, .arr (aChk (compS xs)))] := by
  refine triple_of tB_ok Tryz.func235 rfl Tryz.call235 rfl ?_
  intro ρ w hH
  conv=>whnf
  refine ⟨fun hc => ?_, fun hc => ?_⟩
  · have hl : xs.length < 2 := by have := of_decide_eq_true (show decide ((xs.length : Int) < 2) = true from hc); omega
    have e : compS xs = xs := by
      match xs, hl with
      | [], _ => rfl
      | [x], _ => rfl
    rw [e]
    conv=>whnf
    repeat' (first | exact trivial | exact rfl | refine And.intro ?_ ?_ | ((conv=>whnf); first | exact trivial | exact rfl | refine And.intro ?_ ?_ | omega))
  have hl : ¬ xs.length < 2 := by have := of_decide_eq_false (show decide ((xs.length : Int) < 2) = false from hc); omega
  conv=>whnf
  refine loop_step tB_ok (G := Nat) 0 [] (fun k => [(3, iv .i64 k)]) (fun _ => [(0, true, .arr (aChk xs))]) (fun k => 1 ≤ k ∧ k ≤ xs.length ∧ compS (xs.take k) = xs.take k) (fun k => xs.length - k) ?_
  conv=>whnf
  refine ⟨⟨1, ⟨Nat.le_refl _, by omega, ?_⟩, ?_⟩, ?_⟩
  · match xs, hl with
    | x :: r, _ => rfl
  · conv=>whnf
    repeat' (first | exact trivial | exact rfl | refine And.intro ?_ ?_ | ((conv=>whnf); first | exact trivial | exact rfl | refine And.intro ?_ ?_ | omega))
  rintro k ⟨h1, h2, h3⟩ ρ1 t1 hρ1
  dsimp only
  conv=>whnf
  refine ⟨fun hc => ?_, fun hc => ?_⟩
  · have hlt : k < xs.length := by simpa using hc
    conv=>whnf
    refine ⟨k, rfl, hlt, hlt, ?_⟩
    conv=>whnf
    obtain ⟨j, rfl⟩ : ∃ j, k = j + 1 := ⟨k - 1, by omega⟩
    refine ⟨(j : Nat), by have e : ((j + 1 : Nat) : Int) - 1 = (j : Nat) := by omega
                          rw [e]; exact wrapId (z := (j : Int)) ⟨by omega, by omega⟩, ?_⟩
    conv=>whnf
    refine ⟨j, rfl, (show j < xs.length by omega), (show j < xs.length by omega), ?_⟩
    conv=>whnf
    refine ⟨fun hc => ?_, fun hc => ?_⟩
    · have heq : xs[j + 1] = xs[j] := eqChk_t (show eqChk xs[j + 1] xs[j] = true from hc)
      conv=>whnf
      refine ⟨Nat.le_refl _, ?_⟩
      conv=>whnf
      refine ⟨j + 1, rfl, ?_⟩
      conv=>whnf
      refine ⟨h2, ?_⟩
      conv=>whnf
      have hcj : (compS (xs.take (j + 1))).length = j + 1 := by rw [h3, List.length_take]; omega
      have e0 : xs = compS (xs.take (j + 1 + 1)) ++ xs.drop (j + 1) := by
        rw [compS_take (by omega) hlt, if_pos (by simpa using heq.symm), h3, List.take_append_drop]
      refine loop_step tB_ok (G := Nat × Nat × List Chk) 0 [] (fun g => [(5, iv .i64 g.2.1), (3, iv .i64 g.1)]) (fun g => [(0, true, .arr (aChk g.2.2))])
        (fun g => 1 ≤ g.2.1 ∧ j + 1 + g.2.1 ≤ xs.length ∧ g.1 = (compS (xs.take (j + 1 + g.2.1))).length ∧ g.1 ≤ j + g.2.1 ∧ g.2.2 = compS (xs.take (j + 1 + g.2.1)) ++ xs.drop g.1) (fun g => xs.length - g.2.1) ?_
      conv=>whnf
      refine ⟨⟨(j + 1, 1, xs), ⟨Nat.le_refl _, (show j + 1 + 1 ≤ xs.length from hlt), ?_, Nat.le_refl _, e0⟩, ?_⟩, ?_⟩
      · rw [compS_take (by omega) hlt, if_pos (by simpa using heq.symm)]; exact hcj.symm
      · conv=>whnf
        repeat' (first | exact trivial | exact rfl | refine And.intro ?_ ?_ | ((conv=>whnf); first | exact trivial | exact rfl | refine And.intro ?_ ?_ | omega))
      rintro ⟨k, m, ys⟩ ⟨g1, g2, g3, g4, g5⟩ ρ2 t2 hρ2
      dsimp only at g1 g2 g3 g4 g5 ⊢
      have hyl : ys.length = xs.length := by rw [g5, List.length_append, ← g3, List.length_drop]; omega
      have hyg : ∀ i, k ≤ i → ys[i]? = xs[i]? := by
        intro i hi
        rw [g5, List.getElem?_append_right (by omega), ← g3, List.getElem?_drop]
        congr 1; omega
      conv=>whnf
      refine ⟨fun hc => ?_, fun hc => ?_⟩
      · have hm : j + 1 + m < xs.length := by have := of_decide_eq_true (show decide ((m : Int) < ((xs.length - (j + 1) : Nat) : Int)) = true from hc); omega
        have hms : m < xs.length - (j + 1) := by omega
        have hmy : j + 1 + m < ys.length := by omega
        conv=>whnf
        refine ⟨m, rfl, hms, hmy, ?_⟩
        conv=>whnf
        obtain ⟨i, rfl⟩ : ∃ i, m = i + 1 := ⟨m - 1, by omega⟩
        refine ⟨(i : Nat), by have e : ((i + 1 : Nat) : Int) - 1 = (i : Nat) := by omega
                              rw [e]; exact wrapId (z := (i : Int)) ⟨by omega, by omega⟩, ?_⟩
        conv=>whnf
        refine ⟨i, rfl, (show i < xs.length - (j + 1) by omega), (show j + 1 + i < ys.length by omega), ?_⟩
        conv=>whnf
        have hkl : k < ys.length := by omega
        have ea : ys[j + 1 + (i + 1)]'hmy = xs[j + 1 + (i + 1)]'hm := by
          have := hyg (j + 1 + (i + 1)) (by omega)
          rw [List.getElem?_eq_getElem hmy, List.getElem?_eq_getElem hm] at this
          exact Option.some.inj this
        have eb : ys[j + 1 + i]'(by omega) = xs[j + 1 + i]'(by omega) := by
          have := hyg (j + 1 + i) (by omega)
          rw [List.getElem?_eq_getElem (by omega), List.getElem?_eq_getElem (by omega)] at this
          exact Option.some.inj this
        have hct : compS (xs.take (j + 1 + (i + 1) + 1)) = if xs[j + 1 + i]'(by omega) = xs[j + 1 + (i + 1)]'hm then compS (xs.take (j + 1 + (i + 1))) else compS (xs.take (j + 1 + (i + 1))) ++ [xs[j + 1 + (i + 1)]'hm] := compS_take (xs := xs) (j := j + 1 + (i + 1)) (by omega) hm
        refine ⟨fun hc => ?_, fun hc => ?_⟩
        · have hne : ¬ xs[j + 1 + i]'(by omega) = xs[j + 1 + (i + 1)] := fun he => by
            have hb : eqChk (ys[j + 1 + (i + 1)]'hmy) (ys[j + 1 + i]'(by omega)) = true := by rw [ea, eb, he]; exact eqChk_r _
            have hb2 : (!eqChk (ys[j + 1 + (i + 1)]'hmy) (ys[j + 1 + i]'(by omega))) = true := hc
            rw [hb] at hb2; cases hb2
          conv=>whnf
          refine ⟨i + 1, rfl, hms, hmy, ?_⟩
          conv=>whnf
          refine ⟨k, rfl, (show k < xs.length by omega), hkl, ?_⟩
          conv=>whnf
          refine ⟨ys[j + 1 + (i + 1)]'hmy, rfl, ?_⟩
          conv=>whnf
          refine ⟨(k : Int) + 1, wrapId (z := (k : Int) + 1) ⟨by omega, by omega⟩, ?_⟩
          conv=>whnf
          refine ⟨((i + 1 : Nat) : Int) + 1, wrapId (z := ((i + 1 : Nat) : Int) + 1) ⟨by omega, by omega⟩, ?_⟩
          conv=>whnf
          rw [if_neg hne] at hct
          have hnew : ys.set k (ys[j + 1 + (i + 1)]'hmy) = compS (xs.take (j + 1 + (i + 2))) ++ xs.drop (k + 1) := by
            have e3 : xs.take (j + 1 + (i + 2)) = xs.take (j + 1 + (i + 1) + 1) := rfl
            rw [e3, hct, ea, g5, List.set_append_right _ _ (by omega), ← g3, Nat.sub_self, List.drop_eq_getElem_cons (show k < xs.length by omega), List.append_assoc]
            rfl
          refine ⟨(k + 1, i + 2, ys.set k (ys[j + 1 + (i + 1)]'hmy)), ⟨(show 1 ≤ i + 2 by omega), (show j + 1 + (i + 2) ≤ xs.length by omega), ?_, (show k + 1 ≤ j + (i + 2) by omega), hnew⟩, (show xs.length - (i + 2) < xs.length - (i + 1) by omega), ?_⟩
          · show k + 1 = (compS (xs.take (j + 1 + (i + 1) + 1))).length
            rw [hct, List.length_append, ← g3]; rfl
          conv=>whnf
          refine ⟨rfl, ?_⟩
          conv=>whnf
          repeat' (first | exact trivial | exact rfl | refine And.intro ?_ ?_ | ((conv=>whnf); first | exact trivial | exact rfl | refine And.intro ?_ ?_ | omega))
        · have heq2 : xs[j + 1 + i]'(by omega) = xs[j + 1 + (i + 1)] := by
            have hb2 : (!eqChk (ys[j + 1 + (i + 1)]'hmy) (ys[j + 1 + i]'(by omega))) = false := hc
            rw [ea, eb] at hb2
            exact (eqChk_t (by simpa using hb2)).symm
          conv=>whnf
          refine ⟨((i + 1 : Nat) : Int) + 1, wrapId (z := ((i + 1 : Nat) : Int) + 1) ⟨by omega, by omega⟩, ?_⟩
          conv=>whnf
          rw [if_pos heq2] at hct
          have e3 : compS (xs.take (j + 1 + (i + 2))) = compS (xs.take (j + 1 + (i + 1))) := hct
          refine ⟨(k, i + 2, ys), ⟨(show 1 ≤ i + 2 by omega), (show j + 1 + (i + 2) ≤ xs.length by omega), by rw [e3]; exact g3, (show k ≤ j + (i + 2) by omega), by rw [e3]; exact g5⟩, (show xs.length - (i + 2) < xs.length - (i + 1) by omega), ?_⟩
          conv=>whnf
          refine ⟨rfl, ?_⟩
          conv=>whnf
          repeat' (first | exact trivial | exact rfl | refine And.intro ?_ ?_ | ((conv=>whnf); first | exact trivial | exact rfl | refine And.intro ?_ ?_ | omega))
      · have hm : j + 1 + m = xs.length := by have hq := of_decide_eq_false (show decide ((m : Int) < ((xs.length - (j + 1) : Nat) : Int)) = false from hc); omega
        rw [hm, List.take_length] at g3 g5
        have hkl : k ≤ xs.length := by omega
        conv=>whnf
        refine ⟨Nat.le_refl _, ?_⟩
        conv=>whnf
        refine ⟨k, rfl, hkl, ?_⟩
        conv=>whnf
        refine clear_step tB_ok rfl rfl rfl rfl ?_
        conv=>whnf
        refine ⟨⟨rfl, ?_⟩, ?_⟩
        · show addN 0 k + subN xs.length k ≤ ys.length
          rw [addN_eq, subN_eq]; omega
        conv=>whnf
        refine ⟨k, rfl, hkl, ?_⟩
        conv=>whnf
        refine ⟨Nat.zero_le _, ?_⟩
        have hys : ys.take k = compS xs := by rw [g5, List.take_left' g3.symm]
        conv=>whnf
        repeat' (first | exact trivial | exact rfl | refine And.intro ?_ ?_ | ((conv=>whnf); first | exact trivial | exact rfl | refine And.intro ?_ ?_ | omega))
        all_goals first | (rw [subN_eq]; omega) | (rw [← hys]; repeat' (first | exact trivial | exact rfl | refine And.intro ?_ ?_ | ((conv=>whnf); first | exact trivial | exact rfl | refine And.intro ?_ ?_ | omega)))
    · have hne : ¬ xs[j] = xs[j + 1] := fun he => by have h3 : eqChk xs[j + 1] xs[j] = false := hc; rw [he, eqChk_r] at h3; cases h3
      conv=>whnf
      refine ⟨_, wrapId ⟨by omega, by omega⟩, ?_⟩
      refine ⟨j + 2, ⟨by omega, hlt, compS_same h2 h3 (by omega) hlt hne⟩, by omega, ?_⟩
      conv=>whnf
      refine ⟨rfl, ?_⟩
      conv=>whnf
      repeat' (first | exact trivial | exact rfl | refine And.intro ?_ ?_ | ((conv=>whnf); first | exact trivial | exact rfl | refine And.intro ?_ ?_ | omega))
  have hk : k = xs.length := by simp at hc; omega
  rw [hk, List.take_length] at h3
  rw [h3]
  conv=>whnf
  repeat' (first | exact trivial | exact rfl | refine And.intro ?_ ?_ | ((conv=>whnf); first | exact trivial | exact rfl | refine And.intro ?_ ?_ | omega))

theorem compactNtc_t (xs : List Ntc) (h : xs.length ≤ 1000000) : Triple Tryz.prog 237 [.c (.s 0 0 xs.length 6)] [(0, true, .arr (aNtc xs))] 1 (.c (.s 0 0 (compS xs).length 6)) [(0, true, .arr (aNtc (compS xs)))] := by
  refine triple_of tB_ok Tryz.func237 rfl Tryz.call237 rfl ?_
  intro ρ w hH
  conv=>whnf
  refine ⟨fun hc => ?_, fun hc => ?_⟩
  · have hl : xs.length < 2 := by have := of_decide_eq_true (show decide ((xs.length : Int) < 2) = true from hc); omega
    have e : compS xs = xs := by
      match xs, hl with
      | [], _ => rfl
      | [x], _ => rfl
    rw [e]
    conv=>whnf
    repeat' (first | exact trivial | exact rfl | refine And.intro ?_ ?_ | ((conv=>whnf); first | exact trivial | exact rfl | refine And.intro ?_ ?_ | omega))
  have hl : ¬ xs.length < 2 := by have := of_decide_eq_false (show decide ((xs.length : Int) < 2) = false from hc); omega
  conv=>whnf
  refine loop_step tB_ok (G := Nat) 0 [] (fun k => [(3, iv .i64 k)]) (fun _ => [(0, true, .arr (aNtc xs))]) (fun k => 1 ≤ k ∧ k ≤ xs.length ∧ compS (xs.take k) = xs.take k) (fun k => xs.length - k) ?_
  conv=>whnf
  refine ⟨⟨1, ⟨Nat.le_refl _, by omega, ?_⟩, ?_⟩, ?_⟩
  · match xs, hl with
    | x :: r, _ => rfl
  · conv=>whnf
    repeat' (first | exact trivial | exact rfl | refine And.intro ?_ ?_ | ((conv=>whnf); first | exact trivial | exact rfl | refine And.intro ?_ ?_ | omega))
  rintro k ⟨h1, h2, h3⟩ ρ1 t1 hρ1
  dsimp only
  conv=>whnf
  refine ⟨fun hc => ?_, fun hc => ?_⟩
  · have hlt : k < xs.length := by simpa using hc
    conv=>whnf
    refine ⟨k, rfl, hlt, hlt, ?_⟩
    conv=>whnf
    obtain ⟨j, rfl⟩ : ∃ j, k = j + 1 := ⟨k - 1, by omega⟩
    refine ⟨(j : Nat), by have e : ((j + 1 : Nat) : Int) - 1 = (j : Nat) := by omega
                          rw [e]; exact wrapId (z := (j : Int)) ⟨by omega, by omega⟩, ?_⟩
    conv=>whnf
    refine ⟨j, rfl, (show j < xs.length by omega), (show j < xs.length by omega), ?_⟩
    conv=>whnf
    refine ⟨fun hc => ?_, fun hc => ?_⟩
    · have heq : xs[j + 1] = xs[j] := eqNtc_t (show eqNtc xs[j + 1] xs[j] = true from hc)
      conv=>whnf
      refine ⟨Nat.le_refl _, ?_⟩
      conv=>whnf
      refine ⟨j + 1, rfl, ?_⟩
      conv=>whnf
      refine ⟨h2, ?_⟩
      conv=>whnf
      have hcj : (compS (xs.take (j + 1))).length = j + 1 := by rw [h3, List.length_take]; omega
      have e0 : xs = compS (xs.take (j + 1 + 1)) ++ xs.drop (j + 1) := by
        rw [compS_take (by omega) hlt, if_pos (by simpa using heq.symm), h3, List.take_append_drop]
      refine loop_step tB_ok (G := Nat × Nat × List Ntc) 0 [] (fun g => [(5, iv .i64 g.2.1), (3, iv .i64 g.1)]) (fun g => [(0, true, .arr (aNtc g.2.2))])
        (fun g => 1 ≤ g.2.1 ∧ j + 1 + g.2.1 ≤ xs.length ∧ g.1 = (compS (xs.take (j + 1 + g.2.1))).length ∧ g.1 ≤ j + g.2.1 ∧ g.2.2 = compS (xs.take (j + 1 + g.2.1)) ++ xs.drop g.1) (fun g => xs.length - g.2.1) ?_
      conv=>whnf
      refine ⟨⟨(j + 1, 1, xs), ⟨Nat.le_refl _, (show j + 1 + 1 ≤ xs.length from hlt), ?_, Nat.le_refl _, e0⟩, ?_⟩, ?_⟩
      · rw [compS_take (by omega) hlt, if_pos (by simpa using heq.symm)]; exact hcj.symm
      · conv=>whnf
        repeat' (first | exact trivial | exact rfl | refine And.intro ?_ ?_ | ((conv=>whnf); first | exact trivial | exact rfl | refine And.intro ?_ ?_ | omega))
      rintro ⟨k, m, ys⟩ ⟨g1, g2, g3, g4, g5⟩ ρ2 t2 hρ2
      dsimp only at g1 g2 g3 g4 g5 ⊢
      have hyl : ys.length = xs.length := by rw [g5, List.length_append, ← g3, List.length_drop]; omega
      have hyg : ∀ i, k ≤ i → ys[i]? = xs[i]? := by
        intro i hi
        rw [g5, List.getElem?_append_right (by omega), ← g3, List.getElem?_drop]
        congr 1; omega
      conv=>whnf
      refine ⟨fun hc => ?_, fun hc => ?_⟩
      · have hm : j + 1 + m < xs.length := by have := of_decide_eq_true (show decide ((m : Int) < ((xs.length - (j + 1) : Nat) : Int)) = true from hc); omega
        have hms : m < xs.length - (j + 1) := by omega
        have hmy : j + 1 + m < ys.length := by omega
        conv=>whnf
        refine ⟨m, rfl, hms, hmy, ?_⟩
        conv=>whnf
        obtain ⟨i, rfl⟩ : ∃ i, m = i + 1 := ⟨m - 1, by omega⟩
        refine ⟨(i : Nat), by have e : ((i + 1 : Nat) : Int) - 1 = (i : Nat) := by omega
                              rw [e]; exact wrapId (z := (i : Int)) ⟨by omega, by omega⟩, ?_⟩
        conv=>whnf
        refine ⟨i, rfl, (show i < xs.length - (j + 1) by omega), (show j + 1 + i < ys.length by omega), ?_⟩
        conv=>whnf
        have hkl : k < ys.length := by omega
        have ea : ys[j + 1 + (i + 1)]'hmy = xs[j + 1 + (i + 1)]'hm := by
          have := hyg (j + 1 + (i + 1)) (by omega)
          rw [List.getElem?_eq_getElem hmy, List.getElem?_eq_getElem hm] at this
          exact Option.some.inj this
        have eb : ys[j + 1 + i]'(by omega) = xs[j + 1 + i]'(by omega) := by
          have := hyg (j + 1 + i) (by omega)
          rw [List.getElem?_eq_getElem (by omega), List.getElem?_eq_getElem (by omega)] at this
          exact Option.some.inj this
        have hct : compS (xs.take (j + 1 + (i + 1) + 1)) = if xs[j + 1 + i]'(by omega) = xs[j + 1 + (i + 1)]'hm then compS (xs.take (j + 1 + (i + 1))) else compS (xs.take (j + 1 + (i + 1))) ++ [xs[j + 1 + (i + 1)]'hm] := compS_take (xs := xs) (j := j + 1 + (i + 1)) (by omega) hm
        refine ⟨fun hc => ?_, fun hc => ?_⟩
        · have hne : ¬ xs[j + 1 + i]'(by omega) = xs[j + 1 + (i + 1)] := fun he => by
            have hb : eqNtc (ys[j + 1 + (i + 1)]'hmy) (ys[j + 1 + i]'(by omega)) = true := by rw [ea, eb, he]; exact eqNtc_r _
            have hb2 : (!eqNtc (ys[j + 1 + (i + 1)]'hmy) (ys[j + 1 + i]'(by omega))) = true := hc
            rw [hb] at hb2; cases hb2
          conv=>whnf
          refine ⟨i + 1, rfl, hms, hmy, ?_⟩
          conv=>whnf
          refine ⟨k, rfl, (show k < xs.length by omega), hkl, ?_⟩
          conv=>whnf
          refine ⟨ys[j + 1 + (i + 1)]'hmy, rfl, ?_⟩
          conv=>whnf
          refine ⟨(k : Int) + 1, wrapId (z := (k : Int) + 1) ⟨by omega, by omega⟩, ?_⟩
          conv=>whnf
          refine ⟨((i + 1 : Nat) : Int) + 1, wrapId (z := ((i + 1 : Nat) : Int) + 1) ⟨by omega, by omega⟩, ?_⟩
          conv=>whnf
          rw [if_neg hne] at hct
          have hnew : ys.set k (ys[j + 1 + (i + 1)]'hmy) = compS (xs.take (j + 1 + (i + 2))) ++ xs.drop (k + 1) := by
            have e3 : xs.take (j + 1 + (i + 2)) = xs.take (j + 1 + (i + 1) + 1) := rfl
            rw [e3, hct, ea, g5, List.set_append_right _ _ (by omega), ← g3, Nat.sub_self, List.drop_eq_getElem_cons (show k < xs.length by omega), List.append_assoc]
            rfl
          refine ⟨(k + 1, i + 2, ys.set k (ys[j + 1 + (i + 1)]'hmy)), ⟨(show 1 ≤ i + 2 by omega), (show j + 1 + (i + 2) ≤ xs.length by omega), ?_, (show k + 1 ≤ j + (i + 2) by omega), hnew⟩, (show xs.length - (i + 2) < xs.length - (i + 1) by omega), ?_⟩
          · show k + 1 = (compS (xs.take (j + 1 + (i + 1) + 1))).length
            rw [hct, List.length_append, ← g3]; rfl
          conv=>whnf
          refine ⟨rfl, ?_⟩
          conv=>whnf
          repeat' (first | exact trivial | exact rfl | refine And.intro ?_ ?_ | ((conv=>whnf); first | exact trivial | exact rfl | refine And.intro ?_ ?_ | omega))
        · have heq2 : xs[j + 1 + i]'(by omega) = xs[j + 1 + (i + 1)] := by
            have hb2 : (!eqNtc (ys[j + 1 + (i + 1)]'hmy) (ys[j + 1 + i]'(by omega))) = false := hc
            rw [ea, eb] at hb2
            exact (eqNtc_t (by simpa using hb2)).symm
          conv=>whnf
          refine ⟨((i + 1 : Nat) : Int) + 1, wrapId (z := ((i + 1 : Nat) : Int) + 1) ⟨by omega, by omega⟩, ?_⟩
          conv=>whnf
          rw [if_pos heq2] at hct
          have e3 : compS (xs.take (j + 1 + (i + 2))) = compS (xs.take (j + 1 + (i + 1))) := hct
          refine ⟨(k, i + 2, ys), ⟨(show 1 ≤ i + 2 by omega), (show j + 1 + (i + 2) ≤ xs.length by omega), by rw [e3]; exact g3, (show k ≤ j + (i + 2) by omega), by rw [e3]; exact g5⟩, (show xs.length - (i + 2) < xs.length - (i + 1) by omega), ?_⟩
          conv=>whnf
          refine ⟨rfl, ?_⟩
          conv=>whnf
          repeat' (first | exact trivial | exact rfl | refine And.intro ?_ ?_ | ((conv=>whnf); first | exact trivial | exact rfl | refine And.intro ?_ ?_ | omega))
      · have hm : j + 1 + m = xs.length := by have hq := of_decide_eq_false (show decide ((m : Int) < ((xs.length - (j + 1) : Nat) : Int)) = false from hc); omega
        rw [hm, List.take_length] at g3 g5
        have hkl : k ≤ xs.length := by omega
        conv=>whnf
        refine ⟨Nat.le_refl _, ?_⟩
        conv=>whnf
        refine ⟨k, rfl, hkl, ?_⟩
        conv=>whnf
        refine clear_step tB_ok rfl rfl rfl rfl ?_
        conv=>whnf
        refine ⟨⟨rfl, ?_⟩, ?_⟩
        · show addN 0 k + subN xs.length k ≤ ys.length
          rw [addN_eq, subN_eq]; omega
        conv=>whnf
        refine ⟨k, rfl, hkl, ?_⟩
        conv=>whnf
        refine ⟨Nat.zero_le _, ?_⟩
        have hys : ys.take k = compS xs := by rw [g5, List.take_left' g3.symm]
        conv=>whnf
        repeat' (first | exact trivial | exact rfl | refine And.intro ?_ ?_ | ((conv=>whnf); first | exact trivial | exact rfl | refine And.intro ?_ ?_ | omega))
        all_goals first | (rw [subN_eq]; omega) | (rw [← hys]; repeat' (first | exact trivial | exact rfl | refine And.intro ?_ ?_ | ((conv=>whnf); first | exact trivial | exact rfl | refine And.intro ?_ ?_ | omega)))
    · have hne : ¬ xs[j] = xs[j + 1] := fun he => by have h3 : eqNtc xs[j + 1] xs[j] = false := hc; rw [he, eqNtc_r] at h3; cases h3
      conv=>whnf
      refine ⟨_, wrapId ⟨by omega, by omega⟩, ?_⟩
      refine ⟨j + 2, ⟨by omega, hlt, compS_same h2 h3 (by omega) hlt hne⟩, by omega, ?_⟩
      conv=>whnf
      refine ⟨rfl, ?_⟩
      conv=>whnf
      repeat' (first | exact trivial | exact rfl | refine And.intro ?_ ?_ | ((conv=>whnf); first | exact trivial | exact rfl | refine And.intro ?_ ?_ | omega))
  have hk : k = xs.length := by simp at hc; omega
  rw [hk, List.take_length] at h3
  rw [h3]
  conv=>whnf
  repeat' (first | exact trivial | exact rfl | refine And.intro ?_ ?_ | ((conv=>whnf); first | exact trivial | exact rfl | refine And.intro ?_ ?_ | omega))

theorem compactWgh_t (xs : List Wgh) (h : xs.length ≤ 1000000) : Triple Tryz.prog 239 [.c (.s 0 0 xs.length 8)] [(0, true, .arr (aWgh xs))] 1 (.c (.s 0 0 (compS xs).length 8)) [(0, true, .arr (aWgh (compS xs)))] := by
  refine triple_of tB_ok Tryz.func239 rfl Tryz.call239 rfl ?_
  intro ρ w hH
  conv=>whnf
  refine ⟨fun hc => ?_, fun hc => ?_⟩
  · have hl : xs.length < 2 := by have := of_decide_eq_true (show decide ((xs.length : Int) < 2) = true from hc); omega
    have e : compS xs = xs := by
      match xs, hl with
      | [], _ => rfl
      | [x], _ => rfl
    rw [e]
    conv=>whnf
    repeat' (first | exact trivial | exact rfl | refine And.intro ?_ ?_ | ((conv=>whnf); first | exact trivial | exact rfl | refine And.intro ?_ ?_ | omega))
  have hl : ¬ xs.length < 2 := by have := of_decide_eq_false (show decide ((xs.length : Int) < 2) = false from hc); omega
  conv=>whnf
  refine loop_step tB_ok (G := Nat) 0 [] (fun k => [(3, iv .i64 k)]) (fun _ => [(0, true, .arr (aWgh xs))]) (fun k => 1 ≤ k ∧ k ≤ xs.length ∧ compS (xs.take k) = xs.take k) (fun k => xs.length - k) ?_
  conv=>whnf
  refine ⟨⟨1, ⟨Nat.le_refl _, by omega, ?_⟩, ?_⟩, ?_⟩
  · match xs, hl with
    | x :: r, _ => rfl
  · conv=>whnf
    repeat' (first | exact trivial | exact rfl | refine And.intro ?_ ?_ | ((conv=>whnf); first | exact trivial | exact rfl | refine And.intro ?_ ?_ | omega))
  rintro k ⟨h1, h2, h3⟩ ρ1 t1 hρ1
  dsimp only
  conv=>whnf
  refine ⟨fun hc => ?_, fun hc => ?_⟩
  · have hlt : k < xs.length := by simpa using hc
    conv=>whnf
    refine ⟨k, rfl, hlt, hlt, ?_⟩
    conv=>whnf
    obtain ⟨j, rfl⟩ : ∃ j, k = j + 1 := ⟨k - 1, by omega⟩
    refine ⟨(j : Nat), by have e : ((j + 1 : Nat) : Int) - 1 = (j : Nat) := by omega
                          rw [e]; exact wrapId (z := (j : Int)) ⟨by omega, by omega⟩, ?_⟩
    conv=>whnf
    refine ⟨j, rfl, (show j < xs.length by omega), (show j < xs.length by omega), ?_⟩
    conv=>whnf
    refine ⟨fun hc => ?_, fun hc => ?_⟩
    · have heq : xs[j + 1] = xs[j] := eqWgh_t (show eqWgh xs[j + 1] xs[j] = true from hc)
      conv=>whnf
      refine ⟨Nat.le_refl _, ?_⟩
      conv=>whnf
      refine ⟨j + 1, rfl, ?_⟩
      conv=>whnf
      refine ⟨h2, ?_⟩
      conv=>whnf
      have hcj : (compS (xs.take (j + 1))).length = j + 1 := by rw [h3, List.length_take]; omega
      have e0 : xs = compS (xs.take (j + 1 + 1)) ++ xs.drop (j + 1) := by
        rw [compS_take (by omega) hlt, if_pos (by simpa using heq.symm), h3, List.take_append_drop]
      refine loop_step tB_ok (G := Nat × Nat × List Wgh) 0 [] (fun g => [(5, iv .i64 g.2.1), (3, iv .i64 g.1)]) (fun g => [(0, true, .arr (aWgh g.2.2))])
        (fun g => 1 ≤ g.2.1 ∧ j + 1 + g.2.1 ≤ xs.length ∧ g.1 = (compS (xs.take (j + 1 + g.2.1))).length ∧ g.1 ≤ j + g.2.1 ∧ g.2.2 = compS (xs.take (j + 1 + g.2.1)) ++ xs.drop g.1) (fun g => xs.length - g.2.1) ?_
      conv=>whnf
      refine ⟨⟨(j + 1, 1, xs), ⟨Nat.le_refl _, (show j + 1 + 1 ≤ xs.length from hlt), ?_, Nat.le_refl _, e0⟩, ?_⟩, ?_⟩
      · rw [compS_take (by omega) hlt, if_pos (by simpa using heq.symm)]; exact hcj.symm
      · conv=>whnf
        repeat' (first | exact trivial | exact rfl | refine And.intro ?_ ?_ | ((conv=>whnf); first | exact trivial | exact rfl | refine And.intro ?_ ?_ | omega))
      rintro ⟨k, m, ys⟩ ⟨g1, g2, g3, g4, g5⟩ ρ2 t2 hρ2
      dsimp only at g1 g2 g3 g4 g5 ⊢
      have hyl : ys.length = xs.length := by rw [g5, List.length_append, ← g3, List.length_drop]; omega
      have hyg : ∀ i, k ≤ i → ys[i]? = xs[i]? := by
        intro i hi
        rw [g5, List.getElem?_append_right (by omega), ← g3, List.getElem?_drop]
        congr 1; omega
      conv=>whnf
      refine ⟨fun hc => ?_, fun hc => ?_⟩
      · have hm : j + 1 + m < xs.length := by have := of_decide_eq_true (show decide ((m : Int) < ((xs.length - (j + 1) : Nat) : Int)) = true from hc); omega
        have hms : m < xs.length - (j + 1) := by omega
        have hmy : j + 1 + m < ys.length := by omega
        conv=>whnf
        refine ⟨m, rfl, hms, hmy, ?_⟩
        conv=>whnf
        obtain ⟨i, rfl⟩ : ∃ i, m = i + 1 := ⟨m - 1, by omega⟩
        refine ⟨(i : Nat), by have e : ((i + 1 : Nat) : Int) - 1 = (i : Nat) := by omega
                              rw [e]; exact wrapId (z := (i : Int)) ⟨by omega, by omega⟩, ?_⟩
        conv=>whnf
        refine ⟨i, rfl, (show i < xs.length - (j + 1) by omega), (show j + 1 + i < ys.length by omega), ?_⟩
        conv=>whnf
        have hkl : k < ys.length := by omega
        have ea : ys[j + 1 + (i + 1)]'hmy = xs[j + 1 + (i + 1)]'hm := by
          have := hyg (j + 1 + (i + 1)) (by omega)
          rw [List.getElem?_eq_getElem hmy, List.getElem?_eq_getElem hm] at this
          exact Option.some.inj this
        have eb : ys[j + 1 + i]'(by omega) = xs[j + 1 + i]'(by omega) := by
          have := hyg (j + 1 + i) (by omega)
          rw [List.getElem?_eq_getElem (by omega), List.getElem?_eq_getElem (by omega)] at this
          exact Option.some.inj this
        have hct : compS (xs.take (j + 1 + (i + 1) + 1)) = if xs[j + 1 + i]'(by omega) = xs[j + 1 + (i + 1)]'hm then compS (xs.take (j + 1 + (i + 1))) else compS (xs.take (j + 1 + (i + 1))) ++ [xs[j + 1 + (i + 1)]'hm] := compS_take (xs := xs) (j := j + 1 + (i + 1)) (by omega) hm
        refine ⟨fun hc => ?_, fun hc => ?_⟩
        · have hne : ¬ xs[j + 1 + i]'(by omega) = xs[j + 1 + (i + 1)] := fun he => by
            have hb : eqWgh (ys[j + 1 + (i + 1)]'hmy) (ys[j + 1 + i]'(by omega)) = true := by rw [ea, eb, he]; exact eqWgh_r _
            have hb2 : (!eqWgh (ys[j + 1 + (i + 1)]'hmy) (ys[j + 1 + i]'(by omega))) = true := hc
            rw [hb] at hb2; cases hb2
          conv=>whnf
          refine ⟨i + 1, rfl, hms, hmy, ?_⟩
          conv=>whnf
          refine ⟨k, rfl, (show k < xs.length by omega), hkl, ?_⟩
          conv=>whnf
          refine ⟨ys[j + 1 + (i + 1)]'hmy, rfl, ?_⟩
          conv=>whnf
          refine ⟨(k : Int) + 1, wrapId (z := (k : Int) + 1) ⟨by omega, by omega⟩, ?_⟩
          conv=>whnf
          refine ⟨((i + 1 : Nat) : Int) + 1, wrapId (z := ((i + 1 : Nat) : Int) + 1) ⟨by omega, by omega⟩, ?_⟩
          conv=>whnf
          rw [if_neg hne] at hct
          have hnew : ys.set k (ys[j + 1 + (i + 1)]'hmy) = compS (xs.take (j + 1 + (i + 2))) ++ xs.drop (k + 1) := by
            have e3 : xs.take (j + 1 + (i + 2)) = xs.take (j + 1 + (i + 1) + 1) := rfl
            rw [e3, hct, ea, g5, List.set_append_right _ _ (by omega), ← g3, Nat.sub_self, List.drop_eq_getElem_cons (show k < xs.length by omega), List.append_assoc]
            rfl
          refine ⟨(k + 1, i + 2, ys.set k (ys[j + 1 + (i + 1)]'hmy)), ⟨(show 1 ≤ i + 2 by omega), (show j + 1 + (i + 2) ≤ xs.length by omega), ?_, (show k + 1 ≤ j + (i + 2) by omega), hnew⟩, (show xs.length - (i + 2) < xs.length - (i + 1) by omega), ?_⟩
          · show k + 1 = (compS (xs.take (j + 1 + (i + 1) + 1))).length
            rw [hct, List.length_append, ← g3]; rfl
          conv=>whnf
          refine ⟨rfl, ?_⟩
          conv=>whnf
          repeat' (first | exact trivial | exact rfl | refine And.intro ?_ ?_ | ((conv=>whnf); first | exact trivial | exact rfl | refine And.intro ?_ ?_ | omega))
        · have heq2 : xs[j + 1 + i]'(by omega) = xs[j + 1 + (i + 1)] := by
            have hb2 : (!eqWgh (ys[j + 1 + (i + 1)]'hmy) (ys[j + 1 + i]'(by omega))) = false := hc
            rw [ea, eb] at hb2
            exact (eqWgh_t (by simpa using hb2)).symm
          conv=>whnf
          refine ⟨((i + 1 : Nat) : Int) + 1, wrapId (z := ((i + 1 : Nat) : Int) + 1) ⟨by omega, by omega⟩, ?_⟩
          conv=>whnf
          rw [if_pos heq2] at hct
          have e3 : compS (xs.take (j + 1 + (i + 2))) = compS (xs.take (j + 1 + (i + 1))) := hct
          refine ⟨(k, i + 2, ys), ⟨(show 1 ≤ i + 2 by omega), (show j + 1 + (i + 2) ≤ xs.length by omega), by rw [e3]; exact g3, (show k ≤ j + (i + 2) by omega), by rw [e3]; exact g5⟩, (show xs.length - (i + 2) < xs.length - (i + 1) by omega), ?_⟩
          conv=>whnf
          refine ⟨rfl, ?_⟩
          conv=>whnf
          repeat' (first | exact trivial | exact rfl | refine And.intro ?_ ?_ | ((conv=>whnf); first | exact trivial | exact rfl | refine And.intro ?_ ?_ | omega))
      · have hm : j + 1 + m = xs.length := by have hq := of_decide_eq_false (show decide ((m : Int) < ((xs.length - (j + 1) : Nat) : Int)) = false from hc); omega
        rw [hm, List.take_length] at g3 g5
        have hkl : k ≤ xs.length := by omega
        conv=>whnf
        refine ⟨Nat.le_refl _, ?_⟩
        conv=>whnf
        refine ⟨k, rfl, hkl, ?_⟩
        conv=>whnf
        refine clear_step tB_ok rfl rfl rfl rfl ?_
        conv=>whnf
        refine ⟨⟨rfl, ?_⟩, ?_⟩
        · show addN 0 k + subN xs.length k ≤ ys.length
          rw [addN_eq, subN_eq]; omega
        conv=>whnf
        refine ⟨k, rfl, hkl, ?_⟩
        conv=>whnf
        refine ⟨Nat.zero_le _, ?_⟩
        have hys : ys.take k = compS xs := by rw [g5, List.take_left' g3.symm]
        conv=>whnf
        repeat' (first | exact trivial | exact rfl | refine And.intro ?_ ?_ | ((conv=>whnf); first | exact trivial | exact rfl | refine And.intro ?_ ?_ | omega))
        all_goals first | (rw [subN_eq]; omega) | (rw [← hys]; repeat' (first | exact trivial | exact rfl | refine And.intro ?_ ?_ | ((conv=>whnf); first | exact trivial | exact rfl | refine And.intro ?_ ?_ | omega)))
    · have hne : ¬ xs[j] = xs[j + 1] := fun he => by have h3 : eqWgh xs[j + 1] xs[j] = false := hc; rw [he, eqWgh_r] at h3; cases h3
      conv=>whnf
      refine ⟨_, wrapId ⟨by omega, by omega⟩, ?_⟩
      refine ⟨j + 2, ⟨by omega, hlt, compS_same h2 h3 (by omega) hlt hne⟩, by omega, ?_⟩
      conv=>whnf
      refine ⟨rfl, ?_⟩
      conv=>whnf
      repeat' (first | exact trivial | exact rfl | refine And.intro ?_ ?_ | ((conv=>whnf); first | exact trivial | exact rfl | refine And.intro ?_ ?_ | omega))
  have hk : k = xs.length := by simp at hc; omega
  rw [hk, List.take_length] at h3
  rw [h3]
  conv=>whnf
  repeat' (first | exact trivial | exact rfl | refine And.intro ?_ ?_ | ((conv=>whnf); first | exact trivial | exact rfl | refine And.intro ?_ ?_ | omega))

end Go.Proofs

