/-
  A part of the proof that a law of dryweightlaw03 answers true: lemmas of a symbolic walk, plain functions, or contracts of the functions walked (Pm14, Pm15, Xj, Xk, Pm16, Xl). Conditions: none.
-/
import Derived.Test.YtjjfadfmdodmnaaPart17
import Derived.Test.YtjjfadfmdodmnaaPart16
set_option maxRecDepth 100000
set_option linter.unusedVariables false
set_option linter.unusedSimpArgs false
/-
  Plain lemmas, part 14: the greatest value of a form is found: the flow is carried along cheapest paths until nothing is left. Conditions: none; definitions and plain lemmas.
-/
namespace Go
namespace Proofs

structure Flo (n : Nat) (arcs : List Lnk) (need0 : List Int) (S : Int) (need flow : List Int) : Prop where
  fl : flow.length = arcs.length
  nl : need.length = n + 1
  fp : ∀ i, 0 ≤ flow.getD i 0
  cons : ∀ v, v ≤ n → need.getD v 0 + netV n arcs flow v = need0.getD v 0
  pot : ∃ q : Nat → Int, Pot q (edgs n (flowRev flow) 0 arcs)
  bd : ∀ i, flow.getD i 0 + sumR (n + 1) (fun v => max (need.getD v 0) 0) ≤ S
  sm : sumR (n + 1) (fun v => need.getD v 0) = 0

theorem Flo.posS {n : Nat} {arcs : List Lnk} {need0 : List Int} {S : Int} {need flow : List Int} (h : Flo n arcs need0 S need flow) : sumR (n + 1) (fun v => max (need.getD v 0) 0) ≤ S := by
  have h1 := h.bd flow.length
  have h2 := h.fp flow.length
  omega

theorem Flo.need {n : Nat} {arcs : List Lnk} {need0 : List Int} {S : Int} {need flow : List Int} (h : Flo n arcs need0 S need flow) {v : Nat} (hv : v ≤ n) : -S ≤ need.getD v 0 ∧ need.getD v 0 ≤ S := by
  have hp := h.posS
  have h1 := sumR_pos (f := fun v => max (need.getD v 0) 0) (k := n + 1) (i := v) (fun w _ => by show 0 ≤ max (need.getD w 0) 0; omega) (by omega)
  have h1 : max (need.getD v 0) 0 ≤ sumR (n + 1) (fun v => max (need.getD v 0) 0) := h1
  have h2 := sumR_set (f := fun v => need.getD v 0) (i := v) (x := 0) (k := n + 1) (by omega)
  have h3 := sumR_le (f := fun w => if w = v then 0 else need.getD w 0) (g := fun v => max (need.getD v 0) 0) (k := n + 1) (fun w _ => by show (if w = v then 0 else need.getD w 0) ≤ max (need.getD w 0) 0; split <;> omega)
  rw [h2, h.sm] at h3
  have h3 : 0 - need.getD v 0 + 0 ≤ sumR (n + 1) (fun v => max (need.getD v 0) 0) := h3
  omega

theorem pickF_cases (need sum : List Int) : ∀ i, (pickF need sum i = -1 ∧ ∀ k, k < i → need.getD k 0 ≤ 0) ∨ ∃ k : Nat, k < i ∧ pickF need sum i = k ∧ 0 < need.getD k 0
  | 0 => .inl ⟨rfl, fun k hk => by omega⟩
  | i + 1 => by
    rw [pickF]
    by_cases hn : 0 < need.getD i 0
    · rcases pickF_cases need sum i with ⟨h, _⟩ | ⟨k, hk, h, h2⟩
      · right
        rw [h, if_pos (by rw [decide_eq_true hn]; simp)]
        exact ⟨i, Nat.lt_succ_self i, rfl, hn⟩
      · right
        split
        · exact ⟨i, Nat.lt_succ_self i, rfl, hn⟩
        · exact ⟨k, by omega, h, h2⟩
    · rw [if_neg (by rw [decide_eq_false hn]; simp)]
      rcases pickF_cases need sum i with ⟨h, h3⟩ | ⟨k, hk, h, h2⟩
      · refine .inl ⟨h, fun k hk => ?_⟩
        by_cases hki : k = i
        · subst hki; omega
        · exact h3 k (by omega)
      · exact .inr ⟨k, by omega, h, h2⟩

theorem StepP.desc {n : Nat} {arcs : List Lnk} {E : List Edg} {T : Tr} {ts : Nat → Nat} {src : Nat} : ∀ {ks : List Nat} {p : Nat}, StepP n arcs E T ts src ks p → ∀ k ∈ ks, ts (keyE n arcs k).a < ts (keyE n arcs k).b ∧ ts (keyE n arcs k).b ≤ ts p
  | [], _, _, _, hk => by cases hk
  | k :: r, p, h, k', hk' => by
    obtain ⟨_, _, _, hb, _, _, ht, hr⟩ := h
    rcases List.mem_cons.1 hk' with rfl | hk'
    · rw [hb]; exact ⟨ht, Nat.le_refl _⟩
    · have := StepP.desc hr k' hk'
      omega

theorem StepP.arcs {n : Nat} {arcs : List Lnk} {rev : Nat → Bool} {T : Tr} {ts : Nat → Nat} {src : Nat} : ∀ {ks : List Nat} {p : Nat}, StepP n arcs (edgs n rev 0 arcs) T ts src ks p → (ks.map fun k => k / 2).Nodup
  | [], _, _ => List.nodup_nil
  | k :: r, p, h => by
    have h' := h
    obtain ⟨_, he, hk, hb, _, _, ht, hr⟩ := h
    rw [List.map_cons, List.nodup_cons]
    refine ⟨fun hm => ?_, StepP.arcs hr⟩
    obtain ⟨k', hk', hkk⟩ := List.mem_map.1 hm
    have hd := hr.desc k' hk'
    have hmem : keyE n arcs k' ∈ edgs n rev 0 arcs ∧ (keyE n arcs k').k = (k' : Int) := by
      have : ∀ {ks : List Nat} {p : Nat}, StepP n arcs (edgs n rev 0 arcs) T ts src ks p → ∀ k ∈ ks, keyE n arcs k ∈ edgs n rev 0 arcs ∧ (keyE n arcs k).k = (k : Int) := by
        intro ks
        induction ks with
        | nil => intro p _ k hk; cases hk
        | cons k r ih =>
          intro p h k' hk'
          rcases List.mem_cons.1 hk' with rfl | hk'
          · exact ⟨h.2.1, h.2.2.1⟩
          · exact ih h.2.2.2.2.2.2.2 k' hk'
      exact this hr k' hk'
    obtain ⟨_, _, l1, g1, c1⟩ := key_befF he hk
    obtain ⟨_, _, l2, g2, c2⟩ := key_befF hmem.1 hmem.2
    have hkk : k' / 2 = k / 2 := hkk
    rw [hkk, g1] at g2
    have hl := Option.some.inj g2
    subst hl
    by_cases hkeq : k' = k
    · subst hkeq; omega
    · rcases c1 with ⟨d1, d2, d3, _⟩ | ⟨d1, _, d2, d3, _⟩ <;> rcases c2 with ⟨e1, e2, e3, _⟩ | ⟨e1, _, e2, e3, _⟩
      · omega
      · rw [e2, e3] at hd; rw [d2] at ht hd; rw [← hb, d3] at ht; omega
      · rw [e2, e3] at hd; rw [d2] at ht hd; rw [← hb, d3] at ht; omega
      · omega

theorem Flo.inner {n : Nat} {arcs : List Lnk} {need0 : List Int} {S : Int} (hok : ∀ l ∈ arcs, ArcOK n l) (hub : Hub n arcs) (hS : S ≤ 1152921504606846976) {src : Nat} (hs : src ≤ n) : ∀ (f : Nat) (need flow : List Int), Flo n arcs need0 S need flow → (-(need.getD src 0)).toNat < f →
    ∃ need' flow', innerF n arcs src f need flow = some (false, need', flow') ∧ Flo n arcs need0 S need' flow' ∧ 0 ≤ need'.getD src 0 ∧ ∀ v, v ≤ n → 0 ≤ need.getD v 0 → 0 ≤ need'.getD v 0
  | 0, _, _, _, h => by omega
  | f + 1, need, flow, h, hf => by
    by_cases hneg : need.getD src 0 < 0
    · obtain ⟨q, hq⟩ := h.pot
      have hr := rounds_pot (rev := flowRev flow) (k := n + 2) hok hq hs (by omega)
      obtain ⟨ts, hT⟩ := tree_of (rev := flowRev flow) hok hub hs hr.1
      have hTd : (shortF n (flowRev flow) arcs src).1 = (roundsF n (flowRev flow) arcs (n + 2) (startF n src)).1 := rfl
      rw [← hTd] at hT
      generalize hTT : (shortF n (flowRev flow) arcs src).1 = T at *
      have hE := edgs_ok (rev := flowRev flow) hok
      rcases pickF_cases need T.sum (n + 1) with ⟨_, hnone⟩ | ⟨to, hto, hpick, hpos⟩
      · exfalso
        have hz := sumR_zero_all (f := fun v => -need.getD v 0) (k := n + 1) (fun v hv => by have := hnone v hv; show 0 ≤ -need.getD v 0; omega) (by
          have e : sumR (n + 1) (fun v => -need.getD v 0) = (-1) * sumR (n + 1) (fun v => need.getD v 0) := by
            rw [← sumR_mul]; exact sumR_congr fun v _ => by omega
          rw [e, h.sm]; rfl) src (by omega)
        have hz : -need.getD src 0 = 0 := hz
        omega
      · have hne : to ≠ src := by rintro rfl; omega
        obtain ⟨ks, hst, hlen, hsp⟩ := hT.path hok hs (show to ≤ n by omega)
        have hnd := hsp.nodes hE (show to ≤ n by omega)
        have hodd : ∀ k ∈ ks, k % 2 = 1 → 1 ≤ flow.getD (k / 2) 0 := by
          intro k hk ho
          obtain ⟨_, _, _, he, hkk, _⟩ := hnd.1 k hk
          obtain ⟨_, _, l, hl, hcase⟩ := key_befF he hkk
          rcases hcase with h1 | h1
          · omega
          · have := h1.2.1
            simp only [flowRev, decide_eq_true_eq] at this
            omega
        obtain ⟨a, ha⟩ : ∃ a, a = amtF flow ks (min (-need.getD src 0) (need.getD to 0)) := ⟨_, rfl⟩
        have hle := amtF_le flow ks (min (-need.getD src 0) (need.getD to 0))
        rw [← ha] at hle
        have hpa : 1 ≤ a := by rw [ha]; exact amtF_pos flow ks _ (by omega) hodd
        have hns := h.need hs
        have hnt := h.need (show to ≤ n by omega)
        have hfb : ∀ i, 0 ≤ flow.getD i 0 ∧ flow.getD i 0 ≤ S := fun i => by
          have h1 := h.fp i
          have h2 := h.bd i
          have h3 := sumR_nonneg (f := fun v => max (need.getD v 0) 0) (k := n + 1) (fun w _ => by show 0 ≤ max (need.getD w 0) 0; omega)
          omega
        obtain ⟨flow', g1, g2, g3, g4, g5⟩ := addF_some (n := n) (arcs := arcs) (rev := flowRev flow) (a := a) (S := S) (by omega) (by omega) h.fl hsp.arcs (fun k hk => ⟨(hnd.1 k hk).2.2.2.1, (hnd.1 k hk).2.2.2.2.1⟩) hfb (fun k hk ho => hle.2 k hk ho)
        have hn1 : ∀ v, (need.set src (need.getD src 0 + a)).getD v 0 = if v = src then need.getD src 0 + a else need.getD v 0 := fun v => getD_set (by rw [h.nl]; omega)
        have hn1t : (need.set src (need.getD src 0 + a)).getD to 0 = need.getD to 0 := by rw [hn1, if_neg hne]
        obtain ⟨need2, hneed2⟩ : ∃ x, x = (need.set src (need.getD src 0 + a)).set to (need.getD to 0 - a) := ⟨_, rfl⟩
        have hn2 : ∀ v, need2.getD v 0 = if v = to then need.getD to 0 - a else if v = src then need.getD src 0 + a else need.getD v 0 := fun v => by
          rw [hneed2, getD_set (by rw [List.length_set, h.nl]; exact hto), hn1]
        have hstep : innerF n arcs src (f + 1) need flow = innerF n arcs src f need2 flow' := by
          rw [innerF, if_pos hneg]
          simp only [hTT, hpick]
          rw [if_neg (by omega)]
          simp only [Int.toNat_natCast, hst, ← ha, g1]
          rw [hn1t, ← hneed2, if_pos]
          rw [Bool.and_eq_true, Bool.and_eq_true, inI_iff, inI_iff, inI_iff]
          omega
        have hkSum : ∀ v, kSum n arcs v ks = ind (to = v) - ind (src = v) := fun v => kSum_path hsp
        have hF2 : Flo n arcs need0 S need2 flow' := by
          refine ⟨by rw [g2, h.fl], by rw [hneed2]; simp [h.nl], fun i => ?_, fun v hv => ?_, ⟨fun v => T.sum.getD v 0, ?_⟩, fun i => ?_, ?_⟩
          · by_cases hi : ∃ k ∈ ks, k / 2 = i
            · obtain ⟨k, hk, rfl⟩ := hi
              rw [g4 k hk]
              have h1 := h.fp (k / 2)
              rcases Nat.mod_two_eq_zero_or_one k with h0 | h0
              · have hd0 : a * (1 - 2 * ((k % 2 : Nat) : Int)) = a := by rw [h0]; simp
                rw [hd0]; omega
              · have := hle.2 k hk h0
                have hd0 : a * (1 - 2 * ((k % 2 : Nat) : Int)) = -a := by rw [h0]; simp
                rw [hd0]; omega
            · rw [g3 i fun k hk he => hi ⟨k, hk, he⟩]; exact h.fp i
          · have hc := h.cons v hv
            rw [hn2, g5, hkSum, ← hc]
            by_cases h1 : v = to
            · rw [if_pos h1, ind_true h1.symm, ind_false (by rw [h1]; exact fun h => hne h.symm), h1, Int.sub_zero, Int.mul_one]
              omega
            · rw [if_neg h1, ind_false (fun h => h1 h.symm)]
              by_cases h2 : v = src
              · rw [if_pos h2, ind_true h2.symm, h2, Int.zero_sub, Int.mul_neg, Int.mul_one]
                omega
              · rw [if_neg h2, ind_false (fun h => h2 h.symm)]
                simp
          · have hp := hT.pot hE
            intro e he
            obtain ⟨j, l, hj, h1 | ⟨hrv, h1⟩⟩ := edgs_mem.1 he
            · exact hp e (edgs_mem.2 ⟨j, l, hj, .inl h1⟩)
            · rw [Nat.zero_add] at hrv
              have hrv : 0 < flow'.getD j 0 := by simpa [flowRev] using hrv
              by_cases hold : 0 < flow.getD j 0
              · exact hp e (edgs_mem.2 ⟨j, l, hj, .inr ⟨by rw [Nat.zero_add]; simpa [flowRev] using hold, h1⟩⟩)
              · have h0 := h.fp j
                have hin : ∃ k ∈ ks, k / 2 = j := by
                  by_cases hi : ∃ k ∈ ks, k / 2 = j
                  · exact hi
                  · have := g3 j fun k hk he => hi ⟨k, hk, he⟩
                    omega
                obtain ⟨k, hk, hkj⟩ := hin
                obtain ⟨_, _, _, hke, hkk, htight⟩ := hnd.1 k hk
                obtain ⟨_, _, l', hl', hcase⟩ := key_befF hke hkk
                rw [hkj, hj] at hl'
                have hl' := Option.some.inj hl'
                subst hl'
                rcases hcase with ⟨d1, d2, d3, d4⟩ | ⟨d1, d2, _⟩
                · rw [d2, d3, d4] at htight
                  subst h1
                  show T.sum.getD (plc n l.f) 0 ≤ T.sum.getD (plc n l.t) 0 + -l.m
                  omega
                · have := hodd k hk d1
                  rw [hkj] at this; omega
          · have hpn : sumR (n + 1) (fun v => max (need2.getD v 0) 0) = sumR (n + 1) (fun v => max (need.getD v 0) 0) - a := by
              have e1 : sumR (n + 1) (fun v => max (need2.getD v 0) 0) = sumR (n + 1) (fun v => if v = to then max (need.getD to 0) 0 - a else max (need.getD v 0) 0) := by
                refine sumR_congr fun v _ => ?_
                show max (need2.getD v 0) 0 = if v = to then max (need.getD to 0) 0 - a else max (need.getD v 0) 0
                rw [hn2]
                by_cases h1 : v = to
                · rw [if_pos h1, if_pos h1]; omega
                · rw [if_neg h1, if_neg h1]
                  by_cases h2 : v = src
                  · rw [if_pos h2, h2]; omega
                  · rw [if_neg h2]
              rw [e1, sumR_set (f := fun v => max (need.getD v 0) 0) hto]
              show sumR (n + 1) (fun v => max (need.getD v 0) 0) - max (need.getD to 0) 0 + (max (need.getD to 0) 0 - a) = _
              omega
            have hbi := h.bd i
            rw [hpn]
            by_cases hi : ∃ k ∈ ks, k / 2 = i
            · obtain ⟨k, hk, rfl⟩ := hi
              rw [g4 k hk]
              have hd : a * (1 - 2 * ((k % 2 : Nat) : Int)) ≤ a := by
                rcases Nat.mod_two_eq_zero_or_one k with h0 | h0
                · rw [h0]; simp
                · rw [h0]; simp; omega
              omega
            · rw [g3 i fun k hk he => hi ⟨k, hk, he⟩]; omega
          · have e1 : sumR (n + 1) (fun v => need2.getD v 0) = sumR (n + 1) (fun v => if v = to then need.getD to 0 - a else (fun v => if v = src then need.getD src 0 + a else need.getD v 0) v) := sumR_congr fun v _ => hn2 v
            rw [e1, sumR_set (f := fun v => if v = src then need.getD src 0 + a else need.getD v 0) hto, sumR_set (f := fun v => need.getD v 0) (show src < n + 1 by omega), h.sm]
            show 0 - need.getD src 0 + (need.getD src 0 + a) - (if to = src then need.getD src 0 + a else need.getD to 0) + (need.getD to 0 - a) = 0
            rw [if_neg hne]; omega
        have hms : need2.getD src 0 = need.getD src 0 + a := by rw [hn2, if_neg (fun h => hne h.symm), if_pos rfl]
        obtain ⟨need', fl', i1, i2, i3, i4⟩ := Flo.inner hok hub hS hs f need2 flow' hF2 (by rw [hms]; omega)
        refine ⟨need', fl', by rw [hstep]; exact i1, i2, i3, fun v hv hnv => i4 v hv ?_⟩
        rw [hn2]
        by_cases h1 : v = to
        · rw [if_pos h1]; omega
        · rw [if_neg h1]
          by_cases h2 : v = src
          · subst h2; omega
          · rw [if_neg h2]; exact hnv
    · refine ⟨need, flow, ?_, h, by omega, fun v _ hv => hv⟩
      rw [innerF, if_neg hneg]

theorem Flo.outer {n : Nat} {arcs : List Lnk} {need0 : List Int} {S : Int} (hok : ∀ l ∈ arcs, ArcOK n l) (hub : Hub n arcs) (hS : S ≤ 1152921504606846976) {fuel : Nat} (hfu : S.toNat < fuel) : ∀ (m i : Nat) (need flow : List Int), Flo n arcs need0 S need flow → i + m = n + 1 → (∀ v, v < i → 0 ≤ need.getD v 0) →
    ∃ need' flow', outerF n arcs fuel m i need flow = some flow' ∧ Flo n arcs need0 S need' flow' ∧ ∀ v, v ≤ n → need'.getD v 0 = 0
  | 0, i, need, flow, h, hi, hp => by
    refine ⟨need, flow, rfl, h, fun v hv => ?_⟩
    exact sumR_zero_all (f := fun v => need.getD v 0) (k := n + 1) (fun v hv => hp v (by omega)) h.sm v (by omega)
  | m + 1, i, need, flow, h, hi, hp => by
    have hns := h.need (show i ≤ n by omega)
    obtain ⟨need', flow', g1, g2, g3, g4⟩ := h.inner hok hub hS (src := i) (by omega) fuel need flow (by omega)
    obtain ⟨need2, flow2, k1, k2, k3⟩ := Flo.outer hok hub hS hfu m (i + 1) need' flow' g2 (by omega) (fun v hv => by
      by_cases hvi : v = i
      · rw [hvi]; exact g3
      · exact g4 v (by omega) (hp v (by omega)))
    refine ⟨need2, flow2, ?_, k2, k3⟩
    rw [outerF, g1]
    exact k1

end Proofs
end Go

/-
  Plain lemmas, part 15: the greatest value of a form is what the program's function answers: a flow, its cost, an allowed point at which the form has this value. Conditions: none; definitions and plain lemmas.
-/
namespace Go
namespace Proofs

theorem sumR_shift (f : Nat → Int) : ∀ k, sumR (k + 1) f = f 0 + sumR k (fun v => f (v + 1))
  | 0 => by simp [sumR]
  | k + 1 => by
    have ih := sumR_shift f k
    rw [sumR, ih, sumR]
    omega

theorem sumR_list : ∀ {l : List Int} {n : Nat}, l.length = n → sumR n (fun v => l.getD v 0) = l.sum
  | [], n, h => by subst h; rfl
  | x :: l, 0, h => by simp at h
  | x :: l, n + 1, h => by
    rw [sumR_shift, List.sum_cons, List.getD_cons_zero]
    have ih := sumR_list (l := l) (n := n) (by simpa using h)
    rw [← ih]
    congr 1

/-- The product of two lists. -/
def dotI : List Int → List Int → Int
  | x :: r, y :: s => x * y + dotI r s
  | _, _ => 0

theorem dotI_sumR : ∀ {x y : List Int} {n : Nat}, x.length = n → dotI x y = sumR n (fun v => x.getD v 0 * y.getD v 0)
  | [], y, n, h => by subst h; rfl
  | a :: x, y, 0, h => by simp at h
  | a :: x, [], n + 1, h => by
    rw [sumR_congr (g := fun _ => 0) fun v _ => by simp, sumR_zero]
    rfl
  | a :: x, b :: y, n + 1, h => by
    rw [sumR_shift, List.getD_cons_zero, List.getD_cons_zero]
    have ih := dotI_sumR (x := x) (y := y) (n := n) (by simpa using h)
    show a * b + dotI x y = _
    rw [ih]
    congr 1

theorem mul_bd {x y C D : Int} (hx : -C ≤ x ∧ x ≤ C) (hy : -D ≤ y ∧ y ≤ D) : -(C * D) ≤ x * y ∧ x * y ≤ C * D := by
  have h1 : (x * y).natAbs = x.natAbs * y.natAbs := Int.natAbs_mul x y
  have h2 : x.natAbs * y.natAbs ≤ C.toNat * D.toNat := Nat.mul_le_mul (by omega) (by omega)
  have h3 : ((C.toNat * D.toNat : Nat) : Int) = C * D := by
    rw [Int.natCast_mul, Int.toNat_of_nonneg (by omega), Int.toNat_of_nonneg (by omega)]
  omega

theorem valF_some {C D : Int} (hC : 0 ≤ C) (hD : 0 ≤ D) : ∀ {x y : List Int} {a : Int}, x.length ≤ y.length → (∀ z ∈ x, -C ≤ z ∧ z ≤ C) → (∀ z ∈ y, -D ≤ z ∧ z ≤ D) → C * D ≤ 4611686018427387904 →
    -4611686018427387904 ≤ a - x.length * (C * D) ∧ a + x.length * (C * D) ≤ 4611686018427387904 → valF x y a = some (a + dotI x y)
  | [], y, a, _, _, _, _, _ => by simp [valF, dotI]
  | u :: x, [], a, h, _, _, _, _ => by simp at h
  | u :: x, w :: y, a, h, hx, hy, hcd, ha => by
    have hm := mul_bd (hx u (List.mem_cons_self ..)) (hy w (List.mem_cons_self ..))
    have h0 : 0 ≤ C * D := Int.mul_nonneg hC hD
    have hl : ((x.length + 1 : Nat) : Int) * (C * D) = x.length * (C * D) + C * D := by rw [Int.natCast_add, Int.add_mul]; simp
    have hl0 : 0 ≤ (x.length : Int) * (C * D) := Int.mul_nonneg (by omega) h0
    rw [List.length_cons, hl] at ha
    have ih := valF_some hC hD (x := x) (y := y) (a := a + u * w) (by simpa using h) (fun z hz => hx z (List.mem_cons_of_mem _ hz)) (fun z hz => hy z (List.mem_cons_of_mem _ hz)) hcd (by omega)
    simp only [valF]
    rw [if_pos (by rw [Bool.and_eq_true, inI_iff, inI_iff]; omega), ih]
    show some (a + u * w + dotI x y) = some (a + (u * w + dotI x y))
    rw [Int.add_assoc]

theorem getD_append_left' {a b : List Int} {v : Nat} (h : v < a.length) : (a ++ b).getD v 0 = a.getD v 0 := by
  rw [List.getD_eq_getElem?_getD, List.getD_eq_getElem?_getD, List.getElem?_append_left h]

theorem needL_lt {by' : List Int} {v : Nat} (h : v < by'.length) : (needL by').getD v 0 = by'.getD v 0 := getD_append_left' h

theorem needL_at {by' : List Int} : (needL by').getD by'.length 0 = -by'.sum := by
  rw [List.getD_eq_getElem?_getD, needL, List.getElem?_append_right (Nat.le_refl _), Nat.sub_self]
  rfl

/-- What the greatest value of a form comes with. -/
structure BestOK (n : Nat) (arcs : List Lnk) (by' flow pt : List Int) (v S : Int) : Prop where
  fl : flow.length = arcs.length
  fp : ∀ i, 0 ≤ flow.getD i 0 ∧ flow.getD i 0 ≤ S
  net : ∀ p, p < n → netV n arcs flow p = by'.getD p 0
  cost : costV arcs flow = v
  pl : pt.length = n
  pot : PotL n (fun v => pt.getD v 0) arcs
  val : dotI by' pt = v

theorem best_gen {n : Nat} {arcs : List Lnk} {by' : List Int} {q0 : Nat → Int} {C : Int} (hok : ∀ l ∈ arcs, ArcOK n l) (hub : Hub n arcs) (hq : PotL n q0 arcs)
    (hbox : ∀ v, v < n → (∃ l ∈ arcs, plc n l.f = n ∧ plc n l.t = v ∧ l.m ≤ 16777216) ∧ (∃ l ∈ arcs, plc n l.f = v ∧ plc n l.t = n ∧ l.m ≤ 16777216))
    (hbl : by'.length = n) (hC : 0 ≤ C ∧ C ≤ 68719476736) (hbb : ∀ x ∈ by', -C ≤ x ∧ x ≤ C) (hS : n * C ≤ 68719476736) (hn : n ≤ 240) :
    ∃ flow pt v, bestF n arcs 68719476737 by' = some (v, usesF arcs flow, pt) ∧ BestOK n arcs by' flow pt v (n * C) := by
  have hnl : (needL by').length = n + 1 := by simp [needL, hbl]
  have hna : (needL by').getD n 0 = -by'.sum := by rw [← hbl]; exact needL_at
  have hlt : ∀ v, v < n → (needL by').getD v 0 = by'.getD v 0 := fun v hv => needL_lt (by omega)
  have hbd : ∀ v, v < n → -C ≤ by'.getD v 0 ∧ by'.getD v 0 ≤ C := fun v hv => hbb _ (getD_mem (by omega))
  have hsum : by'.sum = sumR n (fun v => by'.getD v 0) := (sumR_list hbl).symm
  have hCn : ∀ k : Nat, sumR k (fun _ => C) = k * C := by
    intro k
    induction k with
    | zero => simp [sumR]
    | succ k ih => rw [sumR, ih, Int.natCast_add, Int.add_mul]; simp
  have hpos : sumR (n + 1) (fun v => max ((needL by').getD v 0) 0) ≤ n * C := by
    have e1 : sumR (n + 1) (fun v => max ((needL by').getD v 0) 0) = sumR n (fun v => max (by'.getD v 0) 0) + max (-by'.sum) 0 := by
      rw [sumR, hna]
      congr 1
      exact sumR_congr fun v hv => by show max ((needL by').getD v 0) 0 = max (by'.getD v 0) 0; rw [hlt v hv]
    rw [e1]
    by_cases hs : -by'.sum ≤ 0
    · have := sumR_le (f := fun v => max (by'.getD v 0) 0) (g := fun _ => C) (k := n) fun v hv => by have := hbd v hv; show max (by'.getD v 0) 0 ≤ C; omega
      rw [hCn] at this
      omega
    · have e2 : sumR n (fun v => max (by'.getD v 0) 0) + max (-by'.sum) 0 = sumR n (fun v => max (by'.getD v 0) 0 + (-1) * by'.getD v 0) := by
        rw [sumR_add, sumR_mul, ← hsum]; omega
      rw [e2]
      have := sumR_le (f := fun v => max (by'.getD v 0) 0 + (-1) * by'.getD v 0) (g := fun _ => C) (k := n) fun v hv => by have := hbd v hv; show max (by'.getD v 0) 0 + (-1) * by'.getD v 0 ≤ C; omega
      rw [hCn] at this
      omega
  have hz : ∀ i, (List.replicate arcs.length (0 : Int)).getD i 0 = 0 := fun i => by
    rw [List.getD_eq_getElem?_getD, List.getElem?_replicate]; split <;> rfl
  have hF : Flo n arcs (needL by') (n * C) (needL by') (List.replicate arcs.length 0) := by
    refine ⟨List.length_replicate, hnl, fun i => by rw [hz i]; exact Int.le_refl _, fun v hv => by rw [netV_zero]; omega, ⟨q0, ?_⟩, fun i => by rw [hz i]; omega, ?_⟩
    · intro e he
      obtain ⟨j, l, hj, h1 | ⟨hrv, _⟩⟩ := edgs_mem.1 he
      · exact potL_iff.1 hq e (edgs_mem.2 ⟨j, l, hj, .inl h1⟩)
      · rw [Nat.zero_add] at hrv
        have : 0 < (List.replicate arcs.length (0 : Int)).getD j 0 := by simpa only [flowRev, decide_eq_true_eq] using hrv
        rw [hz] at this; omega
    · rw [sumR, hna, sumR_congr (f := fun v => (needL by').getD v 0) (g := fun v => by'.getD v 0) hlt, ← hsum]; omega
  obtain ⟨need', flow, h1, h2, h3⟩ := Flo.outer hok hub (show (n : Int) * C ≤ 1152921504606846976 by omega) (fuel := 68719476737) (by omega) (n + 1) 0 _ _ hF (by omega) (fun v hv => by omega)
  have hnet : ∀ p, p ≤ n → netV n arcs flow p = (needL by').getD p 0 := fun p hp => by
    have := h2.cons p hp
    rw [h3 p hp] at this; omega
  obtain ⟨q, hqp⟩ := h2.pot
  have hr := rounds_pot (rev := flowRev flow) (k := n + 2) hok hqp (Nat.le_refl n) (by omega)
  obtain ⟨ts, hT⟩ := tree_of (rev := flowRev flow) hok hub (Nat.le_refl n) hr.1
  have hpt := hT.pot (edgs_ok hok)
  obtain ⟨rr, hBF⟩ := hT.bf
  have hs0 := hT.src0.1
  have htl : (shortF n (flowRev flow) arcs n).1.sum.length = n + 1 := hBF.ls
  have hsh : (roundsF n (flowRev flow) arcs (n + 2) (startF n n)).1 = (shortF n (flowRev flow) arcs n).1 := rfl
  rw [hsh] at hpt hs0
  generalize hTT : (shortF n (flowRev flow) arcs n).1 = T at *
  have hptl : (T.sum.take n).length = n := by simp; omega
  have hpte : ∀ v, v ≤ n → (T.sum.take n).getD v 0 = T.sum.getD v 0 := fun v hv => by
    by_cases hvn : v = n
    · rw [hvn, hs0, List.getD_eq_getElem?_getD, List.getElem?_eq_none (by omega)]; rfl
    · rw [List.getD_eq_getElem?_getD, List.getD_eq_getElem?_getD, List.getElem?_take_of_lt (by omega)]
  have hpL : PotL n (fun v => T.sum.getD v 0) arcs := by
    intro l hl
    obtain ⟨j, hj⟩ := List.mem_iff_getElem?.1 hl
    exact hpt _ (edgs_mem.2 ⟨j, l, hj, .inl rfl⟩)
  have hptb : ∀ x ∈ T.sum.take n, -16777216 ≤ x ∧ x ≤ 16777216 := by
    intro x hx
    obtain ⟨v, hv, rfl⟩ := List.mem_iff_getElem.1 hx
    have hvn : v < n := by omega
    have e : (T.sum.take n)[v] = T.sum.getD v 0 := by
      rw [← hpte v (by omega), List.getD_eq_getElem?_getD, List.getElem?_eq_getElem hv]; rfl
    rw [e]
    obtain ⟨⟨l, hl, l1, l2, l3⟩, ⟨m, hm, m1, m2, m3⟩⟩ := hbox v hvn
    have p1 := hpL l hl
    have p2 := hpL m hm
    rw [l1, l2] at p1
    rw [m1, m2] at p2
    have p1 : T.sum.getD v 0 ≤ T.sum.getD n 0 + l.m := p1
    have p2 : T.sum.getD n 0 ≤ T.sum.getD v 0 + m.m := p2
    omega
  have hval := valF_some (C := C) (D := 16777216) hC.1 (by omega) (x := by') (y := T.sum.take n) (a := 0) (by omega) hbb hptb
  have hn0 : 0 ≤ (n : Int) * C := Int.mul_nonneg (by omega) hC.1
  have hb2 : (by'.length : Int) * (C * 16777216) = n * C * 16777216 := by rw [hbl, Int.mul_assoc]
  rw [hb2] at hval
  have hval := hval (by omega) (by omega)
  have hdot := netV_dot n (fun v => T.sum.getD v 0) hok h2.fl.symm (fun i l hi hf => by
    have a1 := hpL l (List.mem_of_getElem? hi)
    have a2 := hpt _ (edgs_mem.2 ⟨i, l, hi, .inr ⟨by rw [Nat.zero_add]; simpa [flowRev] using hf, rfl⟩⟩)
    have a2 : T.sum.getD (plc n l.f) 0 ≤ T.sum.getD (plc n l.t) 0 + -l.m := a2
    have a1 : T.sum.getD (plc n l.t) 0 ≤ T.sum.getD (plc n l.f) 0 + l.m := a1
    show T.sum.getD (plc n l.t) 0 - T.sum.getD (plc n l.f) 0 = l.m
    omega) h2.fp
  have hcost : costV arcs flow = dotI by' (T.sum.take n) := by
    rw [← hdot, dotI_sumR hbl, sumR]
    show _ + netV n arcs flow n * T.sum.getD n 0 = _
    rw [hs0, Int.mul_zero, Int.add_zero]
    refine sumR_congr fun v hv => ?_
    show netV n arcs flow v * T.sum.getD v 0 = by'.getD v 0 * (T.sum.take n).getD v 0
    rw [hnet v (by omega), hlt v hv, hpte v (by omega)]
  refine ⟨flow, T.sum.take n, dotI by' (T.sum.take n), ?_, h2.fl, fun i => ⟨h2.fp i, ?_⟩, fun p hp => by rw [hnet p (by omega), hlt p hp], hcost, hptl, ?_, rfl⟩
  · unfold bestF
    rw [h1]
    dsimp only
    rw [hTT, hval, Int.zero_add]
  · have := h2.bd i
    have := sumR_nonneg (f := fun v => max (need'.getD v 0) 0) (k := n + 1) (fun w _ => by show 0 ≤ max (need'.getD w 0) 0; omega)
    omega
  · intro l hl
    obtain ⟨o1, o2, _⟩ := hok l hl
    show (T.sum.take n).getD (plc n l.t) 0 ≤ (T.sum.take n).getD (plc n l.f) 0 + l.m
    rw [hpte _ (plc_le o2.2), hpte _ (plc_le o1.2)]
    exact hpL l hl

/-- No allowed point gives a form a greater value. -/
theorem BestOK.most {n : Nat} {arcs : List Lnk} {by' flow pt p : List Int} {v S : Int} (h : BestOK n arcs by' flow pt v S) (hok : ∀ l ∈ arcs, ArcOK n l) (hbl : by'.length = n) (hpl : p.length = n)
    (hp : PotL n (fun v => p.getD v 0) arcs) : dotI by' p ≤ v := by
  have h1 := netV_le n (fun v => p.getD v 0) hok h.fl.symm hp (fun i => (h.fp i).1)
  rw [h.cost, sumR] at h1
  have h2 : p.getD n 0 = 0 := by rw [List.getD_eq_getElem?_getD, List.getElem?_eq_none (by omega)]; rfl
  have h1 : sumR n (fun v => netV n arcs flow v * p.getD v 0) + netV n arcs flow n * p.getD n 0 ≤ v := h1
  rw [h2, Int.mul_zero, Int.add_zero] at h1
  rw [dotI_sumR hbl]
  rw [sumR_congr (f := fun v => by'.getD v 0 * p.getD v 0) (g := fun v => netV n arcs flow v * p.getD v 0) fun v hv => by show by'.getD v 0 * p.getD v 0 = netV n arcs flow v * p.getD v 0; rw [h.net v hv]]
  exact h1

end Proofs
end Go

namespace Go.Proofs
open Go.Sx

theorem Least_t (bs : List (Int × Int)) (ls : List Lnk) (form : List (Int × Int)) (fuel : Nat) (v : Int) (us : List (Lnk × Int)) (pt by' : List Int) (hs : SysOK bs ls)
    (hfl : form.length ≤ 1000) (hF : formF form bs.length = 0) (hfb : FormB bs.length (-1) form) (hby : by' = coefF (-1) form (List.replicate bs.length 0))
    (hbl : by'.length = bs.length) (hbb : ∀ x ∈ by', -4503599627370496 ≤ x ∧ x ≤ 4503599627370496) (hB : bestF bs.length (graphF bs ls 0) fuel by' = some (v, us, pt)) (hv : -4611686018427387904 ≤ v ∧ v ≤ 4611686018427387904) :
    Triple Try.prog 29 [.c (.p 0 0 0 0), .c (.s 3 0 form.length 2)] ((3, false, .arr (aSpan form)) :: netH bs ls) 4
      (.tup [.inr [.v (.int .i64 (-v)), .s 4 0 us.length 5, .s 5 0 pt.length 1], .inl (.v (.int .i64 0))]) [(4, true, .arr (aUse us)), (5, true, .arr (aInt pt))] := by
  refine triple_of tB_ok Try.func29 rfl Try.call29 rfl ?_
  intro ρ w hH
  conv => whnf
  have hnb := hs.nb
  refine call_step (formed_t form bs.length (by omega) (by omega)) rfl rfl ?_
  conv => whnf
  refine ⟨(by repeat' (first | exact trivial | exact rfl | refine And.intro ?_ ?_ | ((conv => whnf); first | exact trivial | exact rfl | refine And.intro ?_ ?_ | omega))), (by repeat' (first | exact trivial | exact rfl | refine And.intro ?_ ?_ | ((conv => whnf); first | exact trivial | exact rfl | refine And.intro ?_ ?_ | omega))), ?_⟩
  conv => whnf
  rw [hF]
  refine ⟨fun hc => ?_, fun hc => ?_⟩
  · cases hc
  have hco := coef_nil_t bs.length form (-1) 0 (by omega) hfl hfb
  rw [← hby] at hco
  conv => whnf
  refine call_step hco rfl rfl ?_
  conv => whnf
  refine ⟨(by repeat' (first | exact trivial | exact rfl | refine And.intro ?_ ?_ | ((conv => whnf); first | exact trivial | exact rfl | refine And.intro ?_ ?_ | omega))), (by repeat' (first | exact trivial | exact rfl | refine And.intro ?_ ?_ | ((conv => whnf); first | exact trivial | exact rfl | refine And.intro ?_ ?_ | omega))), ?_⟩
  conv => whnf
  refine call_step (best_t bs ls by' fuel v us pt hs hbl hbb hB) rfl rfl ?_
  conv => whnf
  refine ⟨(by repeat' (first | exact trivial | exact rfl | refine And.intro ?_ ?_ | ((conv => whnf); first | exact trivial | exact rfl | refine And.intro ?_ ?_ | omega))), (by repeat' (first | exact trivial | exact rfl | refine And.intro ?_ ?_ | ((conv => whnf); first | exact trivial | exact rfl | refine And.intro ?_ ?_ | omega))), ?_⟩
  conv => whnf
  refine ⟨-v, (congrArg IntKind.i64.wrap (show (0 : Int) - v = -v by omega)).trans (wrapId ⟨by omega, by omega⟩), ?_⟩
  conv => whnf
  repeat' (first | exact trivial | exact rfl | refine And.intro ?_ ?_ | ((conv => whnf); first | exact trivial | exact rfl | refine And.intro ?_ ?_ | omega))

theorem BestErr_t (bs : List (Int × Int)) (ls : List Lnk) (form : List (Int × Int)) (hb : bs.length ≤ 1000) (hfl : form.length ≤ 100000) (hF : formF form bs.length ≠ 0) :
    Triple Try.prog 28 [.c (.p 0 0 0 0), .c (.s 3 0 form.length 2)] ((3, false, .arr (aSpan form)) :: netH bs ls) 4
      (.tup [.inr [.v (.int .i64 0), .v (.slice none 0 0), .v (.slice none 0 0)], .inl (.v (.int .i64 (formF form bs.length)))]) [] := by
  refine triple_of tB_ok Try.func28 rfl Try.call28 rfl ?_
  intro ρ w hH
  conv => whnf
  refine call_step (formed_t form bs.length (by omega) (by omega)) rfl rfl ?_
  conv => whnf
  refine ⟨(by repeat' (first | exact trivial | exact rfl | refine And.intro ?_ ?_ | ((conv => whnf); first | exact trivial | exact rfl | refine And.intro ?_ ?_ | omega))), (by repeat' (first | exact trivial | exact rfl | refine And.intro ?_ ?_ | ((conv => whnf); first | exact trivial | exact rfl | refine And.intro ?_ ?_ | omega))), ?_⟩
  conv => whnf
  refine ⟨fun hc => ?_, fun hc => absurd (by simpa using (show (formF form bs.length != 0) = false from hc)) hF⟩
  conv => whnf
  repeat' (first | exact trivial | exact rfl | refine And.intro ?_ ?_ | ((conv => whnf); first | exact trivial | exact rfl | refine And.intro ?_ ?_ | omega))

end Go.Proofs

namespace Go.Proofs
open Go.Sx

/-! ### Forms -/

def termOK (vars : Int) (t : Int × Int) : Bool := withinF t.1 0 (vars - 1) && withinF t.2 (-1024) 1024

theorem termOK_iff {vars : Int} {t : Int × Int} : termOK vars t = true ↔ (0 ≤ t.1 ∧ t.1 < vars) ∧ (-1024 ≤ t.2 ∧ t.2 ≤ 1024) := by
  simp only [termOK, withinF, Bool.and_eq_true, decide_eq_true_eq]
  omega

theorem formG_bad {vars : Int} : ∀ {form : List (Int × Int)} {seen : List Int} {e : Int}, (∃ t ∈ form, termOK vars t = false) → formG vars seen e form = 1
  | [], _, _, ⟨t, ht, _⟩ => by cases ht
  | t :: r, seen, e, ⟨x, hx, hb⟩ => by
    rw [formG]
    by_cases ht : (withinF t.1 0 (vars - 1) && withinF t.2 (-1024) 1024) = true
    · rw [if_pos ht]
      rcases List.mem_cons.1 hx with rfl | hx
      · have : termOK vars x = true := ht
        rw [this] at hb; cases hb
      · exact formG_bad ⟨x, hx, hb⟩
    · rw [if_neg ht]

theorem formG_six {vars : Int} : ∀ {form : List (Int × Int)} {seen : List Int}, (∀ t ∈ form, termOK vars t = true) → formG vars seen 6 form = 6
  | [], _, _ => rfl
  | t :: r, seen, h => by
    have ht : (withinF t.1 0 (vars - 1) && withinF t.2 (-1024) 1024) = true := h t (List.mem_cons_self ..)
    rw [formG, if_pos ht]
    split <;> exact formG_six fun t ht => h t (List.mem_cons_of_mem _ ht)

theorem formG_dup {vars : Int} : ∀ {form : List (Int × Int)} {seen : List Int} {e : Int}, (∀ t ∈ form, termOK vars t = true) → (∃ t ∈ form, t.1 ∈ seen) ∨ ¬ (form.map (·.1)).Nodup → formG vars seen e form = 6
  | [], _, _, _, h => by rcases h with ⟨t, ht, _⟩ | h; cases ht; exact absurd List.nodup_nil h
  | t :: r, seen, e, h, hd => by
    have ht : (withinF t.1 0 (vars - 1) && withinF t.2 (-1024) 1024) = true := h t (List.mem_cons_self ..)
    have hr : ∀ t ∈ r, termOK vars t = true := fun t ht => h t (List.mem_cons_of_mem _ ht)
    rw [formG, if_pos ht]
    by_cases hs : t.1 ∈ seen
    · rw [if_pos hs]; exact formG_six hr
    · rw [if_neg hs]
      refine formG_dup hr ?_
      rcases hd with ⟨x, hx, hxs⟩ | hd
      · rcases List.mem_cons.1 hx with rfl | hx
        · exact absurd hxs hs
        · exact .inl ⟨x, hx, List.mem_cons_of_mem _ hxs⟩
      · rw [List.map_cons, List.nodup_cons] at hd
        by_cases hm : t.1 ∈ r.map (·.1)
        · obtain ⟨x, hx, he⟩ := List.mem_map.1 hm
          exact .inl ⟨x, hx, by rw [he]; exact List.mem_cons_self ..⟩
        · exact .inr fun hn => hd ⟨hm, hn⟩

theorem formG_good {vars : Int} : ∀ {form : List (Int × Int)} {seen : List Int} {e : Int}, (∀ t ∈ form, termOK vars t = true) → (∀ t ∈ form, t.1 ∉ seen) → (form.map (·.1)).Nodup → formG vars seen e form = e
  | [], _, _, _, _, _ => rfl
  | t :: r, seen, e, h, hs, hn => by
    have ht : (withinF t.1 0 (vars - 1) && withinF t.2 (-1024) 1024) = true := h t (List.mem_cons_self ..)
    rw [List.map_cons, List.nodup_cons] at hn
    rw [formG, if_pos ht, if_neg (hs t (List.mem_cons_self ..))]
    refine formG_good (fun t ht => h t (List.mem_cons_of_mem _ ht)) (fun x hx hm => ?_) hn.2
    rcases List.mem_cons.1 hm with he | hm
    · exact hn.1 (he ▸ List.mem_map_of_mem hx)
    · exact hs x (List.mem_cons_of_mem _ hx) hm

/-- What a form is like that has no error. -/
theorem formF_ok {form : List (Int × Int)} {vars : Int} (h : formF form vars = 0) : form.length ≤ 240 ∧ (∀ t ∈ form, (0 ≤ t.1 ∧ t.1 < vars) ∧ (-1024 ≤ t.2 ∧ t.2 ≤ 1024)) ∧ (form.map (·.1)).Nodup := by
  unfold formF at h
  by_cases hl : 240 < form.length
  · rw [if_pos hl] at h; cases h
  rw [if_neg hl] at h
  have hg : ∀ t ∈ form, termOK vars t = true := by
    intro t ht
    by_cases hb : termOK vars t = true
    · exact hb
    · rw [formG_bad ⟨t, ht, by simpa using hb⟩] at h; cases h
  refine ⟨by omega, fun t ht => termOK_iff.1 (hg t ht), ?_⟩
  by_cases hd : (form.map (·.1)).Nodup
  · exact hd
  · rw [formG_dup hg (.inr hd)] at h; cases h

theorem formF_of {form : List (Int × Int)} {vars : Int} (hl : form.length ≤ 240) (hg : ∀ t ∈ form, (0 ≤ t.1 ∧ t.1 < vars) ∧ (-1024 ≤ t.2 ∧ t.2 ≤ 1024)) (hn : (form.map (·.1)).Nodup) : formF form vars = 0 := by
  unfold formF
  rw [if_neg (by omega)]
  exact formG_good (fun t ht => termOK_iff.2 (hg t ht)) (fun t _ h => by cases h) hn

theorem refForm_t (bs : List (Int × Int)) (ls : List Lnk) (form : List (Int × Int)) (hb : bs.length ≤ 1000000) (hfl : form.length ≤ 1000000) :
    Triple Try.prog 30 [sysA bs.length ls.length, .c (.s 2 0 form.length 2)] ((2, false, .arr (aSpan form)) :: sysH bs ls) 3 (iv .i64 (formF form bs.length)) [] := by
  refine triple_of tB_ok Try.func30 rfl Try.call30 rfl ?_
  intro ρ w hH
  conv => whnf
  refine ⟨fun hc => ?_, fun hc => ?_⟩
  · have hc : 240 < form.length := by have hc := of_decide_eq_true (show decide ((240 : Int) < form.length) = true from hc); omega
    conv => whnf
    refine ⟨?_, trivial⟩
    show (2 : Int) = formF form bs.length
    unfold formF
    rw [if_pos hc]
  have hc : ¬ 240 < form.length := by have hc := of_decide_eq_false (show decide ((240 : Int) < form.length) = false from hc); omega
  have hF : formF form bs.length = formG bs.length [] 0 form := by unfold formF; rw [if_neg hc]
  rw [hF]
  generalize hR : formG bs.length [] 0 form = R
  conv => whnf
  refine loop_step tB_ok (G := Nat) 0 [] (fun i => [(5, iv .i64 i)]) (fun _ => []) (fun i => i ≤ form.length ∧ ∀ t ∈ form.take i, termOK bs.length t = true) (fun i => form.length - i) ?_
  conv => whnf
  refine ⟨⟨0, ⟨Nat.zero_le _, by simp⟩, ?_⟩, ?_⟩
  · conv => whnf
    repeat' (first | exact trivial | exact rfl | refine And.intro ?_ ?_ | ((conv => whnf); first | exact trivial | exact rfl | refine And.intro ?_ ?_ | omega))
  intro i hi ρ1 t1 hρ1
  obtain ⟨hi, hg⟩ := hi
  conv => whnf
  refine ⟨fun hc => ?_, fun hc => ?_⟩
  · have hlt : i < form.length := by simpa using hc
    conv => whnf
    refine ⟨i, rfl, hlt, hlt, ?_⟩
    conv => whnf
    obtain ⟨B, hB⟩ : ∃ B, B = decide (termOK bs.length form[i] = false) := ⟨_, rfl⟩
    have hdone : ∀ R', R' = R → termOK bs.length form[i] = false → R' = 1 := fun R' h1 h2 => by rw [h1, ← hR]; exact formG_bad ⟨_, List.getElem_mem hlt, h2⟩
    have hbad : ¬ ((0 ≤ form[i].1 ∧ form[i].1 < bs.length) ∧ (-1024 ≤ form[i].2 ∧ form[i].2 ≤ 1024)) → termOK bs.length form[i] = false := fun h => by
      rw [← Bool.not_eq_true, termOK_iff]; exact h
    refine ⟨fun hc => ?_, fun hc => ?_⟩
    · have hc : form[i].1 < 0 := of_decide_eq_true (show decide (form[i].1 < 0) = true from hc)
      have e := hdone R rfl (hbad (by omega))
      conv => whnf
      rw [e]
      repeat' (first | exact trivial | exact rfl | refine And.intro ?_ ?_ | ((conv => whnf); first | exact trivial | exact rfl | refine And.intro ?_ ?_ | omega))
    have c1 : ¬ form[i].1 < 0 := of_decide_eq_false (show decide (form[i].1 < 0) = false from hc)
    conv => whnf
    refine ⟨i, rfl, hlt, hlt, ?_⟩
    conv => whnf
    refine ⟨fun hc => ?_, fun hc => ?_⟩
    · have hc : (bs.length : Int) ≤ form[i].1 := of_decide_eq_true (show decide ((bs.length : Int) ≤ form[i].1) = true from hc)
      have e := hdone R rfl (hbad (by omega))
      conv => whnf
      rw [e]
      repeat' (first | exact trivial | exact rfl | refine And.intro ?_ ?_ | ((conv => whnf); first | exact trivial | exact rfl | refine And.intro ?_ ?_ | omega))
    have c2 : ¬ (bs.length : Int) ≤ form[i].1 := of_decide_eq_false (show decide ((bs.length : Int) ≤ form[i].1) = false from hc)
    conv => whnf
    refine ⟨i, rfl, hlt, hlt, ?_⟩
    conv => whnf
    refine ⟨fun hc => ?_, fun hc => ?_⟩
    · have hc : form[i].2 < -1024 := of_decide_eq_true (show decide (form[i].2 < -1024) = true from hc)
      have e := hdone R rfl (hbad (by omega))
      conv => whnf
      rw [e]
      repeat' (first | exact trivial | exact rfl | refine And.intro ?_ ?_ | ((conv => whnf); first | exact trivial | exact rfl | refine And.intro ?_ ?_ | omega))
    have c3 : ¬ form[i].2 < -1024 := of_decide_eq_false (show decide (form[i].2 < -1024) = false from hc)
    conv => whnf
    refine ⟨i, rfl, hlt, hlt, ?_⟩
    conv => whnf
    refine ⟨fun hc => ?_, fun hc => ?_⟩
    · have hc : 1024 < form[i].2 := of_decide_eq_true (show decide (1024 < form[i].2) = true from hc)
      have e := hdone R rfl (hbad (by omega))
      conv => whnf
      rw [e]
      repeat' (first | exact trivial | exact rfl | refine And.intro ?_ ?_ | ((conv => whnf); first | exact trivial | exact rfl | refine And.intro ?_ ?_ | omega))
    have c4 : ¬ 1024 < form[i].2 := of_decide_eq_false (show decide (1024 < form[i].2) = false from hc)
    conv => whnf
    refine ⟨(i : Int) + 1, wrapId (z := (i : Int) + 1) ⟨by omega, by omega⟩, ?_⟩
    refine ⟨i + 1, ⟨hlt, fun t ht => ?_⟩, by show form.length - (i + 1) < form.length - i; omega, ?_⟩
    · rw [take_snoc hlt] at ht
      rcases List.mem_append.1 ht with ht | ht
      · exact hg t ht
      · simp at ht; rw [ht, termOK_iff]; omega
    conv => whnf
    refine ⟨rfl, ?_⟩
    conv => whnf
    repeat' (first | exact trivial | exact rfl | refine And.intro ?_ ?_ | ((conv => whnf); first | exact trivial | exact rfl | refine And.intro ?_ ?_ | omega))
  have hie : i = form.length := by simp at hc; omega
  subst hie
  rw [List.take_length] at hg
  conv => whnf
  refine loop_step tB_ok (G := Nat) 2 [] (fun i => [(6, iv .i64 i)]) (fun _ => []) (fun i => i ≤ form.length ∧ ((form.take i).map (·.1)).Nodup) (fun i => form.length - i) ?_
  conv => whnf
  refine ⟨⟨0, ⟨Nat.zero_le _, by simp⟩, ?_⟩, ?_⟩
  · conv => whnf
    repeat' (first | exact trivial | exact rfl | refine And.intro ?_ ?_ | ((conv => whnf); first | exact trivial | exact rfl | refine And.intro ?_ ?_ | omega))
  intro i hi ρ2 t2 hρ2
  obtain ⟨hi, hn⟩ := hi
  conv => whnf
  refine ⟨fun hc => ?_, fun hc => ?_⟩
  · have hlt : i < form.length := by simpa using hc
    conv => whnf
    refine loop_step tB_ok (G := Nat) 4 [] (fun k => [(7, iv .i64 k)]) (fun _ => []) (fun k => k ≤ i ∧ ∀ t ∈ form.take k, t.1 ≠ form[i].1) (fun k => i - k) ?_
    conv => whnf
    refine ⟨⟨0, ⟨Nat.zero_le _, by simp⟩, ?_⟩, ?_⟩
    · conv => whnf
      repeat' (first | exact trivial | exact rfl | refine And.intro ?_ ?_ | ((conv => whnf); first | exact trivial | exact rfl | refine And.intro ?_ ?_ | omega))
    intro k hk ρ3 t3 hρ3
    obtain ⟨hk, hq⟩ := hk
    conv => whnf
    refine ⟨fun hc => ?_, fun hc => ?_⟩
    · have hkl : k < i := by simpa using hc
      have hkf : k < form.length := by omega
      conv => whnf
      refine ⟨k, rfl, hkf, hkf, ?_⟩
      conv => whnf
      refine ⟨i, rfl, hlt, hlt, ?_⟩
      conv => whnf
      refine ⟨fun hc => ?_, fun hc => ?_⟩
      · have he : form[k].1 = form[i].1 := by simpa using (show (form[k].1 == form[i].1) = true from hc)
        have e : R = 6 := by
          rw [← hR]
          refine formG_dup hg (.inr fun hnd => ?_)
          have := (List.nodup_iff_pairwise_ne.1 hnd)
          rw [List.pairwise_iff_getElem] at this
          exact this k i (by simpa using hkf) (by simpa using hlt) hkl (by simpa using he)
        rw [e]
        conv => whnf
        repeat' (first | exact trivial | exact rfl | refine And.intro ?_ ?_ | ((conv => whnf); first | exact trivial | exact rfl | refine And.intro ?_ ?_ | omega))
      · have he : form[k].1 ≠ form[i].1 := by simpa using (show (form[k].1 == form[i].1) = false from hc)
        conv => whnf
        refine ⟨(k : Int) + 1, wrapId (z := (k : Int) + 1) ⟨by omega, by omega⟩, ?_⟩
        refine ⟨k + 1, ⟨hkl, fun t ht => ?_⟩, by show i - (k + 1) < i - k; omega, ?_⟩
        · rw [take_snoc hkf] at ht
          rcases List.mem_append.1 ht with ht | ht
          · exact hq t ht
          · simp at ht; rw [ht]; exact he
        conv => whnf
        refine ⟨rfl, ?_⟩
        conv => whnf
        repeat' (first | exact trivial | exact rfl | refine And.intro ?_ ?_ | ((conv => whnf); first | exact trivial | exact rfl | refine And.intro ?_ ?_ | omega))
    have hke : k = i := by simp at hc; omega
    subst hke
    conv => whnf
    refine ⟨(k : Int) + 1, wrapId (z := (k : Int) + 1) ⟨by omega, by omega⟩, ?_⟩
    refine ⟨k + 1, ⟨hlt, ?_⟩, by show form.length - (k + 1) < form.length - k; omega, ?_⟩
    · rw [take_snoc hlt, List.map_append, List.nodup_append]
      refine ⟨hn, by simp, fun x hx y hy => ?_⟩
      obtain ⟨t, ht, rfl⟩ := List.mem_map.1 hx
      simp at hy
      rw [hy]; exact hq t ht
    conv => whnf
    refine ⟨rfl, ?_⟩
    conv => whnf
    repeat' (first | exact trivial | exact rfl | refine And.intro ?_ ?_ | ((conv => whnf); first | exact trivial | exact rfl | refine And.intro ?_ ?_ | omega))
  have hie : i = form.length := by simp at hc; omega
  subst hie
  rw [List.take_length] at hn
  have e : R = 0 := by rw [← hR]; exact formG_good hg (fun t _ h => by cases h) hn
  rw [e]
  conv => whnf
  repeat' (first | exact trivial | exact rfl | refine And.intro ?_ ?_ | ((conv => whnf); first | exact trivial | exact rfl | refine And.intro ?_ ?_ | omega))

end Go.Proofs

/-
  Plain lemmas, part 16: the value of a form at a point, its coefficients, and what uses of links show. Conditions: none; definitions and plain lemmas.
-/
namespace Go
namespace Proofs

/-- The value of a form at a point. -/
def valM : List (Int × Int) → List Int → Int
  | [], _ => 0
  | t :: r, pt => t.2 * pt.getD t.1.toNat 0 + valM r pt

theorem valM_snoc (pt : List Int) (t : Int × Int) : ∀ xs : List (Int × Int), valM (xs ++ [t]) pt = valM xs pt + t.2 * pt.getD t.1.toNat 0
  | [] => by simp [valM]
  | x :: xs => by
    simp only [List.cons_append, valM, valM_snoc pt t xs]
    omega

def useOK (arcs : List Lnk) (u : Lnk × Int) : Bool := decide (u.1 ∈ arcs) && (decide (1 ≤ u.2) && decide (u.2 ≤ 68719476736))

theorem useOK_iff {arcs : List Lnk} {u : Lnk × Int} : useOK arcs u = true ↔ u.1 ∈ arcs ∧ 1 ≤ u.2 ∧ u.2 ≤ 68719476736 := by simp [useOK]

/-- So much more at a place. -/
def gotP (p x : Int) (got : List Int) : List Int := if p < 0 then got else got.set p.toNat (got.getD p.toNat 0 + x)

theorem gotP_len (p x : Int) (got : List Int) : (gotP p x got).length = got.length := by
  unfold gotP; split <;> simp

theorem gotP_bd {p x B C : Int} {got : List Int} (h : ∀ y ∈ got, -B ≤ y ∧ y ≤ B) (hx : -C ≤ x ∧ x ≤ C) (hp : p < got.length) : ∀ y ∈ gotP p x got, -(B + C) ≤ y ∧ y ≤ B + C := by
  intro y hy
  unfold gotP at hy
  split at hy
  · have := h y hy; omega
  · rcases List.mem_or_eq_of_mem_set hy with hy | rfl
    · have := h y hy; omega
    · have := h _ (getD_mem (show p.toNat < got.length by omega)); omega

/-- What uses of links bring to each place. -/
def gotF : List (Lnk × Int) → List Int → List Int
  | [], g => g
  | u :: r, g => gotF r (gotP u.1.f (-u.2) (gotP u.1.t u.2 g))

def costU : List (Lnk × Int) → Int
  | [] => 0
  | u :: r => u.2 * u.1.m + costU r

theorem costU_snoc (u : Lnk × Int) : ∀ xs : List (Lnk × Int), costU (xs ++ [u]) = costU xs + u.2 * u.1.m
  | [] => by simp [costU]
  | x :: xs => by simp only [List.cons_append, costU, costU_snoc u xs]; omega

/-- Do uses of links show that a form with some coefficients is at most a number? -/
def showsF (arcs : List Lnk) (n : Nat) (by' : List Int) (us : List (Lnk × Int)) (most : Int) : Bool :=
  decide (us.length ≤ 2000) && (us.all (useOK arcs) && (decide (gotF us (List.replicate n 0) = by') && decide (costU us = most)))

theorem showsF_iff {arcs : List Lnk} {n : Nat} {by' : List Int} {us : List (Lnk × Int)} {most : Int} : showsF arcs n by' us most = true ↔
    us.length ≤ 2000 ∧ (∀ u ∈ us, useOK arcs u = true) ∧ gotF us (List.replicate n 0) = by' ∧ costU us = most := by simp [showsF]

/-! ### A flow's uses -/

theorem gotF_getD {n : Nat} {arcs : List Lnk} (v : Nat) (hv : v < n) : ∀ {us : List (Lnk × Int)} {g : List Int}, (∀ u ∈ us, ArcOK n u.1) → g.length = n →
    (gotF us g).length = n ∧ (gotF us g).getD v 0 = g.getD v 0 + netV n (us.map (·.1)) (us.map (·.2)) v
  | [], g, _, hg => ⟨hg, by simp [gotF, netV]⟩
  | u :: r, g, hok, hg => by
    obtain ⟨o1, o2, _⟩ := hok u (List.mem_cons_self ..)
    have hl1 : (gotP u.1.t u.2 g).length = n := by rw [gotP_len]; exact hg
    have hl2 : (gotP u.1.f (-u.2) (gotP u.1.t u.2 g)).length = n := by rw [gotP_len]; exact hl1
    obtain ⟨h1, h2⟩ := gotF_getD (arcs := arcs) v hv (us := r) (fun u hu => hok u (List.mem_cons_of_mem _ hu)) hl2
    refine ⟨h1, ?_⟩
    have key : ∀ (p x : Int) (g : List Int), -1 ≤ p ∧ p < n → g.length = n → (gotP p x g).getD v 0 = g.getD v 0 + x * ind (plc n p = v) := by
      intro p x g hp hg
      unfold gotP plc
      by_cases h0 : p < 0
      · rw [if_pos h0, if_pos h0, ind_false (by omega)]; simp
      · rw [if_neg h0, if_neg h0, getD_set (by omega)]
        by_cases h1 : v = p.toNat
        · rw [if_pos h1, ind_true h1.symm, h1]; simp
        · rw [if_neg h1, ind_false (fun h => h1 h.symm)]; simp
    show (gotF r (gotP u.1.f (-u.2) (gotP u.1.t u.2 g))).getD v 0 = g.getD v 0 + netV n (u.1 :: r.map (·.1)) (u.2 :: r.map (·.2)) v
    rw [h2, key _ _ _ o1 hl1, key _ _ _ o2 hg, netV, Int.mul_sub, Int.neg_mul]
    omega

theorem usesF_net (n v : Nat) : ∀ {arcs : List Lnk} {flow : List Int}, (∀ i, 0 ≤ flow.getD i 0) → arcs.length = flow.length →
    netV n ((usesF arcs flow).map (·.1)) ((usesF arcs flow).map (·.2)) v = netV n arcs flow v ∧ costU (usesF arcs flow) = costV arcs flow
  | [], flow, _, _ => by simp [usesF, netV, costU, costV]
  | l :: r, [], _, h => by simp at h
  | l :: r, x :: s, hp, hl => by
    obtain ⟨h1, h2⟩ := usesF_net n v (arcs := r) (flow := s) (fun i => by have := hp (i + 1); simpa using this) (by simpa using hl)
    have h0 := hp 0
    rw [List.getD_cons_zero] at h0
    simp only [usesF]
    by_cases hx : 0 < x
    · rw [if_pos hx]
      simp only [List.map_cons, netV, costU, costV, h1, h2]
      exact ⟨trivial, trivial⟩
    · have hx0 : x = 0 := by omega
      rw [if_neg hx, h1, h2, hx0]
      simp [netV, costV]

theorem usesF_mem {u : Lnk × Int} : ∀ {arcs : List Lnk} {flow : List Int}, u ∈ usesF arcs flow → u.1 ∈ arcs ∧ 1 ≤ u.2 ∧ ∃ i, flow.getD i 0 = u.2
  | [], flow, h => by simp [usesF] at h
  | l :: r, [], h => by simp [usesF] at h
  | l :: r, x :: s, h => by
    simp only [usesF] at h
    have hr : u ∈ usesF r s → u.1 ∈ l :: r ∧ 1 ≤ u.2 ∧ ∃ i, (x :: s).getD i 0 = u.2 := fun h => by
      obtain ⟨h1, h2, i, h3⟩ := usesF_mem h
      exact ⟨List.mem_cons_of_mem _ h1, h2, i + 1, by simpa using h3⟩
    split at h
    · rcases List.mem_cons.1 h with rfl | h
      · exact ⟨List.mem_cons_self .., by show 1 ≤ x; omega, 0, rfl⟩
      · exact hr h
    · exact hr h

/-- What the greatest value of a form comes with shows it. -/
theorem BestOK.shows {n : Nat} {arcs : List Lnk} {by' flow pt : List Int} {v S : Int} (h : BestOK n arcs by' flow pt v S) (hok : ∀ l ∈ arcs, ArcOK n l) (hbl : by'.length = n) (hS : S ≤ 68719476736) (ha : arcs.length ≤ 2000) :
    showsF arcs n by' (usesF arcs flow) v = true := by
  have hfp : ∀ i, 0 ≤ flow.getD i 0 := fun i => (h.fp i).1
  rw [showsF_iff]
  have hle := usesF_len arcs flow
  have hmem : ∀ u ∈ usesF arcs flow, ArcOK n u.1 := fun u hu => hok _ (usesF_mem hu).1
  refine ⟨by omega, fun u hu => ?_, ?_, ?_⟩
  · obtain ⟨h1, h2, i, h3⟩ := usesF_mem hu
    rw [useOK_iff]
    have := (h.fp i).2
    rw [h3] at this
    exact ⟨h1, h2, by omega⟩
  · refine List.ext_getElem ?_ fun v hv1 hv2 => ?_
    · by_cases h0 : n = 0
      · have hgl : ∀ {us : List (Lnk × Int)} {g : List Int}, (gotF us g).length = g.length := by
          intro us
          induction us with
          | nil => intro g; rfl
          | cons u r ih => intro g; rw [gotF, ih, gotP_len, gotP_len]
        rw [hgl, List.length_replicate, hbl]
      · rw [(gotF_getD (arcs := arcs) 0 (by omega) hmem List.length_replicate).1, hbl]
    · have hvn : v < n := by omega
      have h1 := (gotF_getD (arcs := arcs) v hvn hmem (g := List.replicate n 0) List.length_replicate).2
      rw [(usesF_net n v hfp h.fl.symm).1, h.net v hvn, List.getD_eq_getElem?_getD, List.getD_eq_getElem?_getD, List.getElem?_replicate, List.getElem?_eq_getElem hv1, List.getD_eq_getElem?_getD, List.getElem?_eq_getElem hv2] at h1
      rw [if_pos hvn] at h1
      simpa using h1
  · rw [(usesF_net n 0 hfp h.fl.symm).2, h.cost]

end Proofs
end Go

namespace Go.Proofs
open Go.Sx

theorem coefF_len (p : Int) : ∀ (form : List (Int × Int)) (out : List Int), (coefF p form out).length = out.length
  | [], out => rfl
  | t :: r, out => by rw [coefF, coefF_len p r]; simp

theorem coefF_bd {p C : Int} : ∀ {form : List (Int × Int)} {out : List Int}, (form.map (·.1)).Nodup → (∀ t ∈ form, (0 ≤ t.1 ∧ t.1 < out.length) ∧ (-C ≤ p * t.2 ∧ p * t.2 ≤ C)) →
    (∀ t ∈ form, out.getD t.1.toNat 0 = 0) → (∀ y ∈ out, -C ≤ y ∧ y ≤ C) → ∀ y ∈ coefF p form out, -C ≤ y ∧ y ≤ C
  | [], out, _, _, _, h => h
  | t :: r, out, hn, hb, hz, h => by
    rw [List.map_cons, List.nodup_cons] at hn
    obtain ⟨⟨h0, h1⟩, h2, h3⟩ := hb t (List.mem_cons_self ..)
    refine coefF_bd (form := r) hn.2 (fun x hx => ?_) (fun x hx => ?_) (fun y hy => ?_)
    · rw [List.length_set]; exact hb x (List.mem_cons_of_mem _ hx)
    · have hb2 := (hb x (List.mem_cons_of_mem _ hx)).1
      rw [getD_set (by omega), if_neg, hz x (List.mem_cons_of_mem _ hx)]
      intro he
      exact hn.1 (List.mem_map.2 ⟨x, hx, by omega⟩)
    · rcases List.mem_or_eq_of_mem_set hy with hy | rfl
      · exact h y hy
      · rw [hz t (List.mem_cons_self ..)]; omega

theorem dotI_set {x : Int} : ∀ {out pt : List Int} {k : Nat}, k < out.length → dotI (out.set k (out.getD k 0 + x)) pt = dotI out pt + x * pt.getD k 0
  | [], pt, k, h => by simp at h
  | a :: out, [], k, h => by cases k <;> simp [dotI]
  | a :: out, b :: pt, 0, h => by simp [dotI, Int.add_mul]; omega
  | a :: out, b :: pt, k + 1, h => by
    have := dotI_set (x := x) (out := out) (pt := pt) (k := k) (by simpa using h)
    simp only [List.set_cons_succ, dotI, List.getD_cons_succ, this]
    omega

/-- The value of a form by its coefficients. -/
theorem coefF_dot (p : Int) (pt : List Int) : ∀ {form : List (Int × Int)} {out : List Int}, (∀ t ∈ form, 0 ≤ t.1 ∧ t.1 < out.length) → dotI (coefF p form out) pt = dotI out pt + p * valM form pt
  | [], out, _ => by simp [coefF, valM]
  | t :: r, out, h => by
    obtain ⟨h0, h1⟩ := h t (List.mem_cons_self ..)
    rw [coefF, coefF_dot p pt (form := r) (fun x hx => by rw [List.length_set]; exact h x (List.mem_cons_of_mem _ hx)), dotI_set (by omega), valM, Int.mul_add, Int.mul_assoc]
    omega

theorem dotI_zero : ∀ (n : Nat) (pt : List Int), dotI (List.replicate n 0) pt = 0
  | 0, _ => rfl
  | n + 1, [] => rfl
  | n + 1, b :: pt => by rw [List.replicate_succ, dotI, dotI_zero n pt]; simp

theorem replicate_getD (n k : Nat) : (List.replicate n (0 : Int)).getD k 0 = 0 := by
  rw [List.getD_eq_getElem?_getD, List.getElem?_replicate]; split <;> rfl

theorem At_t (form : List (Int × Int)) (pt : List Int) (hfl : form.length ≤ 1000) (hf : ∀ t ∈ form, (0 ≤ t.1 ∧ t.1 < pt.length) ∧ (-1024 ≤ t.2 ∧ t.2 ≤ 1024)) (hp : ∀ x ∈ pt, -33554432 ≤ x ∧ x ≤ 33554432) :
    Triple Try.prog 73 [.c (.s 0 0 form.length 2), .c (.s 1 0 pt.length 1)] [(0, false, .arr (aSpan form)), (1, false, .arr (aInt pt))] 2 (iv .i64 (valM form pt)) [] := by
  refine triple_of tB_ok Try.func73 rfl Try.call73 rfl ?_
  intro ρ w hH
  conv => whnf
  refine loop_step tB_ok (G := Nat × Int) 0 [] (fun g => [(6, iv .i64 g.1), (5, iv .i64 g.2)]) (fun _ => []) (fun g => g.1 ≤ form.length ∧ g.2 = valM (form.take g.1) pt ∧ (-(34359738368 * (g.1 : Int)) ≤ g.2 ∧ g.2 ≤ 34359738368 * (g.1 : Int))) (fun g => form.length - g.1) ?_
  conv => whnf
  refine ⟨⟨(0, 0), ⟨Nat.zero_le _, rfl, ⟨by simp, by simp⟩⟩, ?_⟩, ?_⟩
  · conv => whnf
    repeat' (first | exact trivial | exact rfl | refine And.intro ?_ ?_ | ((conv => whnf); first | exact trivial | exact rfl | refine And.intro ?_ ?_ | omega))
  rintro ⟨i, s⟩ ⟨hi, hs, hb⟩ ρ1 t1 hρ1
  have hi : i ≤ form.length := hi
  have hs : s = valM (form.take i) pt := hs
  have hb : -(34359738368 * (i : Int)) ≤ s ∧ s ≤ 34359738368 * (i : Int) := hb
  dsimp only
  conv => whnf
  refine ⟨fun hc => ?_, fun hc => ?_⟩
  · have hlt : i < form.length := by simpa using hc
    obtain ⟨⟨hv0, hv1⟩, hc0, hc1⟩ := hf form[i] (List.getElem_mem hlt)
    obtain ⟨v, hve⟩ : ∃ v : Nat, form[i].1 = (v : Int) := ⟨form[i].1.toNat, by omega⟩
    have hvl : v < pt.length := by omega
    have hpv := hp pt[v] (List.getElem_mem hvl)
    obtain ⟨z, hz⟩ : ∃ z, z = form[i].2 * pt[v] := ⟨_, rfl⟩
    have hzb := mul_bd (C := 1024) (D := 33554432) ⟨hc0, hc1⟩ hpv
    rw [← hz] at hzb
    conv => whnf
    refine ⟨i, rfl, hlt, hlt, ?_⟩
    conv => whnf
    refine ⟨i, rfl, hlt, hlt, ?_⟩
    conv => whnf
    refine ⟨v, hve, hvl, hvl, ?_⟩
    conv => whnf
    refine ⟨z, (congrArg IntKind.i64.wrap hz.symm).trans (wrapId ⟨by omega, by omega⟩), ?_⟩
    conv => whnf
    refine ⟨s + z, wrapId (z := s + z) ⟨by omega, by omega⟩, ?_⟩
    conv => whnf
    refine ⟨(i : Int) + 1, wrapId (z := (i : Int) + 1) ⟨by omega, by omega⟩, ?_⟩
    refine ⟨(i + 1, s + z), ⟨hlt, ?_, ⟨by show -(34359738368 * ((i + 1 : Nat) : Int)) ≤ s + z; omega, by show s + z ≤ 34359738368 * ((i + 1 : Nat) : Int); omega⟩⟩, by show form.length - (i + 1) < form.length - i; omega, ?_⟩
    · show s + z = valM (form.take (i + 1)) pt
      rw [take_snoc hlt, valM_snoc, ← hs, hz, hve, Int.toNat_natCast, getD_of hvl]
    conv => whnf
    refine ⟨rfl, ?_⟩
    conv => whnf
    repeat' (first | exact trivial | exact rfl | refine And.intro ?_ ?_ | ((conv => whnf); first | exact trivial | exact rfl | refine And.intro ?_ ?_ | omega))
  have hie : i = form.length := by simp at hc; omega
  subst hie
  rw [List.take_length] at hs
  rw [← hs]
  conv => whnf
  repeat' (first | exact trivial | exact rfl | refine And.intro ?_ ?_ | ((conv => whnf); first | exact trivial | exact rfl | refine And.intro ?_ ?_ | omega))

/-- Same numbers, one of them in two parts. -/
theorem same_t (high low n : Int) (hh : -4611686018427387904 ≤ high ∧ high ≤ 4611686018427387904) (hl : -4611686018427387904 ≤ low ∧ low ≤ 4611686018427387904) (hn : -9223372036854775808 ≤ n ∧ n ≤ 9223372036854775807) :
    Triple Try.prog 135 [iv .i64 high, iv .i64 low, iv .i64 n] [] 0 (bv (decide (high * 262144 + low = n))) [] := by
  have q1 : ∀ x : Int, ∃ q r, Int.tmod x 262144 = r ∧ x = 262144 * q + r ∧ (-262144 < r ∧ r < 262144) ∧ (0 ≤ x → 0 ≤ r) ∧ (x ≤ 0 → r ≤ 0) := fun x => by
    refine ⟨Int.tdiv x 262144, Int.tmod x 262144, rfl, (Int.mul_tdiv_add_tmod x 262144).symm, ?_, ?_, ?_⟩
    · rcases Int.le_total 0 x with h | h
      · have h1 := Int.tmod_nonneg 262144 h
        have h2 := Int.tmod_lt_of_pos x (show (0 : Int) < 262144 by omega)
        omega
      · have h1 := Int.tmod_nonneg (a := -x) 262144 (by omega)
        have h2 := Int.tmod_lt_of_pos (-x) (show (0 : Int) < 262144 by omega)
        rw [Int.neg_tmod] at h1 h2
        omega
    · intro h; exact Int.tmod_nonneg 262144 h
    · intro h
      have h1 := Int.tmod_nonneg (a := -x) 262144 (by omega)
      rw [Int.neg_tmod] at h1; omega
  obtain ⟨ql, rl, l1, l2, l3, l4, l5⟩ := q1 low
  obtain ⟨qn, rn, n1, n2, n3, n4, n5⟩ := q1 n
  have hdiv : ∀ q : Int, Int.tdiv (262144 * q) 262144 = q := fun q => by rw [Int.mul_comm]; exact Int.mul_tdiv_cancel q (by omega)
  refine triple_of tB_ok Try.func135 rfl Try.call135 rfl ?_
  intro ρ w hH
  conv => whnf
  refine ⟨by decide, rl, l1, ?_⟩
  conv => whnf
  refine ⟨fun hc => ?_, fun hc => ?_⟩
  · have hc : rl < 0 := of_decide_eq_true (show decide (rl < 0) = true from hc)
    conv => whnf
    refine ⟨rl + 262144, wrapId (z := rl + 262144) ⟨by omega, by omega⟩, ?_⟩
    conv => whnf
    refine ⟨low - (rl + 262144), wrapId (z := low - (rl + 262144)) ⟨by omega, by omega⟩, ?_⟩
    conv => whnf
    refine ⟨by decide, ql - 1, (congrArg IntKind.i64.wrap (show Int.tdiv (low - (rl + 262144)) 262144 = ql - 1 by rw [show low - (rl + 262144) = 262144 * (ql - 1) by omega, hdiv])).trans (wrapId ⟨by omega, by omega⟩), ?_⟩
    conv => whnf
    obtain ⟨rest, hrest⟩ : ∃ rest, rest = rl + 262144 := ⟨_, rfl⟩
    obtain ⟨q, hq⟩ : ∃ q, q = ql - 1 := ⟨_, rfl⟩
    have hlow : low = 262144 * q + rest ∧ 0 ≤ rest ∧ rest < 262144 := by omega
    rw [← hrest, ← hq]
    refine ⟨high + q, wrapId (z := high + q) ⟨by omega, by omega⟩, ?_⟩
    conv => whnf
    refine ⟨by decide, rn, n1, ?_⟩
    conv => whnf
    refine ⟨fun hc => ?_, fun hc => ?_⟩
    · have hc : rn < 0 := of_decide_eq_true (show decide (rn < 0) = true from hc)
      conv => whnf
      refine ⟨rn + 262144, wrapId (z := rn + 262144) ⟨by omega, by omega⟩, ?_⟩
      obtain ⟨part, hpart⟩ : ∃ part, part = rn + 262144 := ⟨_, rfl⟩
      obtain ⟨qq, hqq⟩ : ∃ qq, qq = qn - 1 := ⟨_, rfl⟩
      have hnn : n = 262144 * qq + part ∧ 0 ≤ part ∧ part < 262144 := by omega
      rw [← hpart]
      conv => whnf
      refine ⟨fun hc => ?_, fun hc => ?_⟩
      · have he : rest = part := by simpa using (show (rest == part) = true from hc)
        conv => whnf
        refine ⟨n - part, wrapId (z := n - part) ⟨by omega, by omega⟩, ?_⟩
        conv => whnf
        refine ⟨by decide, qq, (congrArg IntKind.i64.wrap (show Int.tdiv (n - part) 262144 = qq by rw [show n - part = 262144 * qq by omega, hdiv])).trans (wrapId ⟨by omega, by omega⟩), ?_⟩
        conv => whnf
        refine ⟨?_, trivial⟩
        show (high + q == qq) = decide (high * 262144 + low = n)
        rw [Bool.eq_iff_iff]
        simp only [beq_iff_eq, decide_eq_true_eq]
        omega
      · have he : rest ≠ part := by simpa using (show (rest == part) = false from hc)
        conv => whnf
        refine ⟨?_, trivial⟩
        show false = decide (high * 262144 + low = n)
        rw [eq_comm, decide_eq_false_iff_not]
        omega
    · have hc : ¬ rn < 0 := of_decide_eq_false (show decide (rn < 0) = false from hc)
      conv => whnf
      obtain ⟨part, hpart⟩ : ∃ part, part = rn := ⟨_, rfl⟩
      obtain ⟨qq, hqq⟩ : ∃ qq, qq = qn := ⟨_, rfl⟩
      have hnn : n = 262144 * qq + part ∧ 0 ≤ part ∧ part < 262144 := by omega
      rw [← hpart]
      refine ⟨fun hc => ?_, fun hc => ?_⟩
      · have he : rest = part := by simpa using (show (rest == part) = true from hc)
        conv => whnf
        refine ⟨n - part, wrapId (z := n - part) ⟨by omega, by omega⟩, ?_⟩
        conv => whnf
        refine ⟨by decide, qq, (congrArg IntKind.i64.wrap (show Int.tdiv (n - part) 262144 = qq by rw [show n - part = 262144 * qq by omega, hdiv])).trans (wrapId ⟨by omega, by omega⟩), ?_⟩
        conv => whnf
        refine ⟨?_, trivial⟩
        show (high + q == qq) = decide (high * 262144 + low = n)
        rw [Bool.eq_iff_iff]
        simp only [beq_iff_eq, decide_eq_true_eq]
        omega
      · have he : rest ≠ part := by simpa using (show (rest == part) = false from hc)
        conv => whnf
        refine ⟨?_, trivial⟩
        show false = decide (high * 262144 + low = n)
        rw [eq_comm, decide_eq_false_iff_not]
        omega
  · have hc : ¬ rl < 0 := of_decide_eq_false (show decide (rl < 0) = false from hc)
    conv => whnf
    refine ⟨low - rl, wrapId (z := low - rl) ⟨by omega, by omega⟩, ?_⟩
    conv => whnf
    refine ⟨by decide, ql, (congrArg IntKind.i64.wrap (show Int.tdiv (low - rl) 262144 = ql by rw [show low - rl = 262144 * ql by omega, hdiv])).trans (wrapId ⟨by omega, by omega⟩), ?_⟩
    conv => whnf
    obtain ⟨rest, hrest⟩ : ∃ rest, rest = rl := ⟨_, rfl⟩
    obtain ⟨q, hq⟩ : ∃ q, q = ql := ⟨_, rfl⟩
    have hlow : low = 262144 * q + rest ∧ 0 ≤ rest ∧ rest < 262144 := by omega
    rw [← hrest, ← hq]
    refine ⟨high + q, wrapId (z := high + q) ⟨by omega, by omega⟩, ?_⟩
    conv => whnf
    refine ⟨by decide, rn, n1, ?_⟩
    conv => whnf
    refine ⟨fun hc => ?_, fun hc => ?_⟩
    · have hc : rn < 0 := of_decide_eq_true (show decide (rn < 0) = true from hc)
      conv => whnf
      refine ⟨rn + 262144, wrapId (z := rn + 262144) ⟨by omega, by omega⟩, ?_⟩
      obtain ⟨part, hpart⟩ : ∃ part, part = rn + 262144 := ⟨_, rfl⟩
      obtain ⟨qq, hqq⟩ : ∃ qq, qq = qn - 1 := ⟨_, rfl⟩
      have hnn : n = 262144 * qq + part ∧ 0 ≤ part ∧ part < 262144 := by omega
      rw [← hpart]
      conv => whnf
      refine ⟨fun hc => ?_, fun hc => ?_⟩
      · have he : rest = part := by simpa using (show (rest == part) = true from hc)
        conv => whnf
        refine ⟨n - part, wrapId (z := n - part) ⟨by omega, by omega⟩, ?_⟩
        conv => whnf
        refine ⟨by decide, qq, (congrArg IntKind.i64.wrap (show Int.tdiv (n - part) 262144 = qq by rw [show n - part = 262144 * qq by omega, hdiv])).trans (wrapId ⟨by omega, by omega⟩), ?_⟩
        conv => whnf
        refine ⟨?_, trivial⟩
        show (high + q == qq) = decide (high * 262144 + low = n)
        rw [Bool.eq_iff_iff]
        simp only [beq_iff_eq, decide_eq_true_eq]
        omega
      · have he : rest ≠ part := by simpa using (show (rest == part) = false from hc)
        conv => whnf
        refine ⟨?_, trivial⟩
        show false = decide (high * 262144 + low = n)
        rw [eq_comm, decide_eq_false_iff_not]
        omega
    · have hc : ¬ rn < 0 := of_decide_eq_false (show decide (rn < 0) = false from hc)
      conv => whnf
      obtain ⟨part, hpart⟩ : ∃ part, part = rn := ⟨_, rfl⟩
      obtain ⟨qq, hqq⟩ : ∃ qq, qq = qn := ⟨_, rfl⟩
      have hnn : n = 262144 * qq + part ∧ 0 ≤ part ∧ part < 262144 := by omega
      rw [← hpart]
      refine ⟨fun hc => ?_, fun hc => ?_⟩
      · have he : rest = part := by simpa using (show (rest == part) = true from hc)
        conv => whnf
        refine ⟨n - part, wrapId (z := n - part) ⟨by omega, by omega⟩, ?_⟩
        conv => whnf
        refine ⟨by decide, qq, (congrArg IntKind.i64.wrap (show Int.tdiv (n - part) 262144 = qq by rw [show n - part = 262144 * qq by omega, hdiv])).trans (wrapId ⟨by omega, by omega⟩), ?_⟩
        conv => whnf
        refine ⟨?_, trivial⟩
        show (high + q == qq) = decide (high * 262144 + low = n)
        rw [Bool.eq_iff_iff]
        simp only [beq_iff_eq, decide_eq_true_eq]
        omega
      · have he : rest ≠ part := by simpa using (show (rest == part) = false from hc)
        conv => whnf
        refine ⟨?_, trivial⟩
        show false = decide (high * 262144 + low = n)
        rw [eq_comm, decide_eq_false_iff_not]
        omega

end Go.Proofs

