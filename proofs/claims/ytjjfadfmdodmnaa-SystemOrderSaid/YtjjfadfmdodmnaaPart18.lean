/-
  A part of the proof that a law of dryweightlaw03 answers true: lemmas of a symbolic walk, plain functions, or contracts of the functions walked (Pm14, Pm15, Xj, Xk, Pm16, Xl, Xm, Xn, Xo, Xp, Xr, Pm17, Xs, Sx32). Conditions: none.
-/
import Derived.Test.YtjjfadfmdodmnaaPart17
import Derived.Test.YtjjfadfmdodmnaaPart16
import Derived.Test.YtjjfadfmdodmnaaPart07
import Derived.Lib.AppendZeros
set_option maxRecDepth 100000
set_option linter.unusedVariables false
set_option linter.unusedSimpArgs false
/-
  Plain lemmas, part 14: the greatest value of a form is found: the flow is carried along cheapest paths until nothing is left. Conditions: none; definitions and plain lemmas.
-/
namespace Go
namespace Proofs

structure Flo (n : Nat) (arcs : List Lnk) (need0 : List Int) (S : Int) (need flow : List Int) : Prop where
  fl : flow.length = arcs.length
  nl : need.length = n + 1
  fp : ∀ i, 0 ≤ flow.getD i 0
  cons : ∀ v, v ≤ n → need.getD v 0 + netV n arcs flow v = need0.getD v 0
  pot : ∃ q : Nat → Int, Pot q (edgs n (flowRev flow) 0 arcs)
  bd : ∀ i, flow.getD i 0 + sumR (n + 1) (fun v => max (need.getD v 0) 0) ≤ S
  sm : sumR (n + 1) (fun v => need.getD v 0) = 0

theorem Flo.posS {n : Nat} {arcs : List Lnk} {need0 : List Int} {S : Int} {need flow : List Int} (h : Flo n arcs need0 S need flow) : sumR (n + 1) (fun v => max (need.getD v 0) 0) ≤ S := by
  have h1 := h.bd flow.length
  have h2 := h.fp flow.length
  omega

theorem Flo.need {n : Nat} {arcs : List Lnk} {need0 : List Int} {S : Int} {need flow : List Int} (h : Flo n arcs need0 S need flow) {v : Nat} (hv : v ≤ n) : -S ≤ need.getD v 0 ∧ need.getD v 0 ≤ S := by
  have hp := h.posS
  have h1 := sumR_pos (f := fun v => max (need.getD v 0) 0) (k := n + 1) (i := v) (fun w _ => by show 0 ≤ max (need.getD w 0) 0; omega) (by omega)
  have h1 : max (need.getD v 0) 0 ≤ sumR (n + 1) (fun v => max (need.getD v 0) 0) := h1
  have h2 := sumR_set (f := fun v => need.getD v 0) (i := v) (x := 0) (k := n + 1) (by omega)
  have h3 := sumR_le (f := fun w => if w = v then 0 else need.getD w 0) (g := fun v => max (need.getD v 0) 0) (k := n + 1) (fun w _ => by show (if w = v then 0 else need.getD w 0) ≤ max (need.getD w 0) 0; split <;> omega)
  rw [h2, h.sm] at h3
  have h3 : 0 - need.getD v 0 + 0 ≤ sumR (n + 1) (fun v => max (need.getD v 0) 0) := h3
  omega

theorem pickF_cases (need sum : List Int) : ∀ i, (pickF need sum i = -1 ∧ ∀ k, k < i → need.getD k 0 ≤ 0) ∨ ∃ k : Nat, k < i ∧ pickF need sum i = k ∧ 0 < need.getD k 0
  | 0 => .inl ⟨rfl, fun k hk => by omega⟩
  | i + 1 => by
    rw [pickF]
    by_cases hn : 0 < need.getD i 0
    · rcases pickF_cases need sum i with ⟨h, _⟩ | ⟨k, hk, h, h2⟩
      · right
        rw [h, if_pos (by rw [decide_eq_true hn]; simp)]
        exact ⟨i, Nat.lt_succ_self i, rfl, hn⟩
      · right
        split
        · exact ⟨i, Nat.lt_succ_self i, rfl, hn⟩
        · exact ⟨k, by omega, h, h2⟩
    · rw [if_neg (by rw [decide_eq_false hn]; simp)]
      rcases pickF_cases need sum i with ⟨h, h3⟩ | ⟨k, hk, h, h2⟩
      · refine .inl ⟨h, fun k hk => ?_⟩
        by_cases hki : k = i
        · subst hki; omega
        · exact h3 k (by omega)
      · exact .inr ⟨k, by omega, h, h2⟩

theorem StepP.desc {n : Nat} {arcs : List Lnk} {E : List Edg} {T : Tr} {ts : Nat → Nat} {src : Nat} : ∀ {ks : List Nat} {p : Nat}, StepP n arcs E T ts src ks p → ∀ k ∈ ks, ts (keyE n arcs k).a < ts (keyE n arcs k).b ∧ ts (keyE n arcs k).b ≤ ts p
  | [], _, _, _, hk => by cases hk
  | k :: r, p, h, k', hk' => by
    obtain ⟨_, _, _, hb, _, _, ht, hr⟩ := h
    rcases List.mem_cons.1 hk' with rfl | hk'
    · rw [hb]; exact ⟨ht, Nat.le_refl _⟩
    · have := StepP.desc hr k' hk'
      omega

theorem StepP.arcs {n : Nat} {arcs : List Lnk} {rev : Nat → Bool} {T : Tr} {ts : Nat → Nat} {src : Nat} : ∀ {ks : List Nat} {p : Nat}, StepP n arcs (edgs n rev 0 arcs) T ts src ks p → (ks.map fun k => k / 2).Nodup
  | [], _, _ => List.nodup_nil
  | k :: r, p, h => by
    have h' := h
    obtain ⟨_, he, hk, hb, _, _, ht, hr⟩ := h
    rw [List.map_cons, List.nodup_cons]
    refine ⟨fun hm => ?_, StepP.arcs hr⟩
    obtain ⟨k', hk', hkk⟩ := List.mem_map.1 hm
    have hd := hr.desc k' hk'
    have hmem : keyE n arcs k' ∈ edgs n rev 0 arcs ∧ (keyE n arcs k').k = (k' : Int) := by
      have : ∀ {ks : List Nat} {p : Nat}, StepP n arcs (edgs n rev 0 arcs) T ts src ks p → ∀ k ∈ ks, keyE n arcs k ∈ edgs n rev 0 arcs ∧ (keyE n arcs k).k = (k : Int) := by
        intro ks
        induction ks with
        | nil => intro p _ k hk; cases hk
        | cons k r ih =>
          intro p h k' hk'
          rcases List.mem_cons.1 hk' with rfl | hk'
          · exact ⟨h.2.1, h.2.2.1⟩
          · exact ih h.2.2.2.2.2.2.2 k' hk'
      exact this hr k' hk'
    obtain ⟨_, _, l1, g1, c1⟩ := key_befF he hk
    obtain ⟨_, _, l2, g2, c2⟩ := key_befF hmem.1 hmem.2
    have hkk : k' / 2 = k / 2 := hkk
    rw [hkk, g1] at g2
    have hl := Option.some.inj g2
    subst hl
    by_cases hkeq : k' = k
    · subst hkeq; omega
    · rcases c1 with ⟨d1, d2, d3, _⟩ | ⟨d1, _, d2, d3, _⟩ <;> rcases c2 with ⟨e1, e2, e3, _⟩ | ⟨e1, _, e2, e3, _⟩
      · omega
      · rw [e2, e3] at hd; rw [d2] at ht hd; rw [← hb, d3] at ht; omega
      · rw [e2, e3] at hd; rw [d2] at ht hd; rw [← hb, d3] at ht; omega
      · omega

theorem Flo.inner {n : Nat} {arcs : List Lnk} {need0 : List Int} {S : Int} (hok : ∀ l ∈ arcs, ArcOK n l) (hub : Hub n arcs) (hS : S ≤ 1152921504606846976) {src : Nat} (hs : src ≤ n) : ∀ (f : Nat) (need flow : List Int), Flo n arcs need0 S need flow → (-(need.getD src 0)).toNat < f →
    ∃ need' flow', innerF n arcs src f need flow = some (false, need', flow') ∧ Flo n arcs need0 S need' flow' ∧ 0 ≤ need'.getD src 0 ∧ ∀ v, v ≤ n → 0 ≤ need.getD v 0 → 0 ≤ need'.getD v 0
  | 0, _, _, _, h => by omega
  | f + 1, need, flow, h, hf => by
    by_cases hneg : need.getD src 0 < 0
    · obtain ⟨q, hq⟩ := h.pot
      have hr := rounds_pot (rev := flowRev flow) (k := n + 2) hok hq hs (by omega)
      obtain ⟨ts, hT⟩ := tree_of (rev := flowRev flow) hok hub hs hr.1
      have hTd : (shortF n (flowRev flow) arcs src).1 = (roundsF n (flowRev flow) arcs (n + 2) (startF n src)).1 := rfl
      rw [← hTd] at hT
      generalize hTT : (shortF n (flowRev flow) arcs src).1 = T at *
      have hE := edgs_ok (rev := flowRev flow) hok
      rcases pickF_cases need T.sum (n + 1) with ⟨_, hnone⟩ | ⟨to, hto, hpick, hpos⟩
      · exfalso
        have hz := sumR_zero_all (f := fun v => -need.getD v 0) (k := n + 1) (fun v hv => by have := hnone v hv; show 0 ≤ -need.getD v 0; omega) (by
          have e : sumR (n + 1) (fun v => -need.getD v 0) = (-1) * sumR (n + 1) (fun v => need.getD v 0) := by
            rw [← sumR_mul]; exact sumR_congr fun v _ => by omega
          rw [e, h.sm]; rfl) src (by omega)
        have hz : -need.getD src 0 = 0 := hz
        omega
      · have hne : to ≠ src := by rintro rfl; omega
        obtain ⟨ks, hst, hlen, hsp⟩ := hT.path hok hs (show to ≤ n by omega)
        have hnd := hsp.nodes hE (show to ≤ n by omega)
        have hodd : ∀ k ∈ ks, k % 2 = 1 → 1 ≤ flow.getD (k / 2) 0 := by
          intro k hk ho
          obtain ⟨_, _, _, he, hkk, _⟩ := hnd.1 k hk
          obtain ⟨_, _, l, hl, hcase⟩ := key_befF he hkk
          rcases hcase with h1 | h1
          · omega
          · have := h1.2.1
            simp only [flowRev, decide_eq_true_eq] at this
            omega
        obtain ⟨a, ha⟩ : ∃ a, a = amtF flow ks (min (-need.getD src 0) (need.getD to 0)) := ⟨_, rfl⟩
        have hle := amtF_le flow ks (min (-need.getD src 0) (need.getD to 0))
        rw [← ha] at hle
        have hpa : 1 ≤ a := by rw [ha]; exact amtF_pos flow ks _ (by omega) hodd
        have hns := h.need hs
        have hnt := h.need (show to ≤ n by omega)
        have hfb : ∀ i, 0 ≤ flow.getD i 0 ∧ flow.getD i 0 ≤ S := fun i => by
          have h1 := h.fp i
          have h2 := h.bd i
          have h3 := sumR_nonneg (f := fun v => max (need.getD v 0) 0) (k := n + 1) (fun w _ => by show 0 ≤ max (need.getD w 0) 0; omega)
          omega
        obtain ⟨flow', g1, g2, g3, g4, g5⟩ := addF_some (n := n) (arcs := arcs) (rev := flowRev flow) (a := a) (S := S) (by omega) (by omega) h.fl hsp.arcs (fun k hk => ⟨(hnd.1 k hk).2.2.2.1, (hnd.1 k hk).2.2.2.2.1⟩) hfb (fun k hk ho => hle.2 k hk ho)
        have hn1 : ∀ v, (need.set src (need.getD src 0 + a)).getD v 0 = if v = src then need.getD src 0 + a else need.getD v 0 := fun v => getD_set (by rw [h.nl]; omega)
        have hn1t : (need.set src (need.getD src 0 + a)).getD to 0 = need.getD to 0 := by rw [hn1, if_neg hne]
        obtain ⟨need2, hneed2⟩ : ∃ x, x = (need.set src (need.getD src 0 + a)).set to (need.getD to 0 - a) := ⟨_, rfl⟩
        have hn2 : ∀ v, need2.getD v 0 = if v = to then need.getD to 0 - a else if v = src then need.getD src 0 + a else need.getD v 0 := fun v => by
          rw [hneed2, getD_set (by rw [List.length_set, h.nl]; exact hto), hn1]
        have hstep : innerF n arcs src (f + 1) need flow = innerF n arcs src f need2 flow' := by
          rw [innerF, if_pos hneg]
          simp only [hTT, hpick]
          rw [if_neg (by omega)]
          simp only [Int.toNat_natCast, hst, ← ha, g1]
          rw [hn1t, ← hneed2, if_pos]
          rw [Bool.and_eq_true, Bool.and_eq_true, inI_iff, inI_iff, inI_iff]
          omega
        have hkSum : ∀ v, kSum n arcs v ks = ind (to = v) - ind (src = v) := fun v => kSum_path hsp
        have hF2 : Flo n arcs need0 S need2 flow' := by
          refine ⟨by rw [g2, h.fl], by rw [hneed2]; simp [h.nl], fun i => ?_, fun v hv => ?_, ⟨fun v => T.sum.getD v 0, ?_⟩, fun i => ?_, ?_⟩
          · by_cases hi : ∃ k ∈ ks, k / 2 = i
            · obtain ⟨k, hk, rfl⟩ := hi
              rw [g4 k hk]
              have h1 := h.fp (k / 2)
              rcases Nat.mod_two_eq_zero_or_one k with h0 | h0
              · have hd0 : a * (1 - 2 * ((k % 2 : Nat) : Int)) = a := by rw [h0]; simp
                rw [hd0]; omega
              · have := hle.2 k hk h0
                have hd0 : a * (1 - 2 * ((k % 2 : Nat) : Int)) = -a := by rw [h0]; simp
                rw [hd0]; omega
            · rw [g3 i fun k hk he => hi ⟨k, hk, he⟩]; exact h.fp i
          · have hc := h.cons v hv
            rw [hn2, g5, hkSum, ← hc]
            by_cases h1 : v = to
            · rw [if_pos h1, ind_true h1.symm, ind_false (by rw [h1]; exact fun h => hne h.symm), h1, Int.sub_zero, Int.mul_one]
              omega
            · rw [if_neg h1, ind_false (fun h => h1 h.symm)]
              by_cases h2 : v = src
              · rw [if_pos h2, ind_true h2.symm, h2, Int.zero_sub, Int.mul_neg, Int.mul_one]
                omega
              · rw [if_neg h2, ind_false (fun h => h2 h.symm)]
                simp
          · have hp := hT.pot hE
            intro e he
            obtain ⟨j, l, hj, h1 | ⟨hrv, h1⟩⟩ := edgs_mem.1 he
            · exact hp e (edgs_mem.2 ⟨j, l, hj, .inl h1⟩)
            · rw [Nat.zero_add] at hrv
              have hrv : 0 < flow'.getD j 0 := by simpa [flowRev] using hrv
              by_cases hold : 0 < flow.getD j 0
              · exact hp e (edgs_mem.2 ⟨j, l, hj, .inr ⟨by rw [Nat.zero_add]; simpa [flowRev] using hold, h1⟩⟩)
              · have h0 := h.fp j
                have hin : ∃ k ∈ ks, k / 2 = j := by
                  by_cases hi : ∃ k ∈ ks, k / 2 = j
                  · exact hi
                  · have := g3 j fun k hk he => hi ⟨k, hk, he⟩
                    omega
                obtain ⟨k, hk, hkj⟩ := hin
                obtain ⟨_, _, _, hke, hkk, htight⟩ := hnd.1 k hk
                obtain ⟨_, _, l', hl', hcase⟩ := key_befF hke hkk
                rw [hkj, hj] at hl'
                have hl' := Option.some.inj hl'
                subst hl'
                rcases hcase with ⟨d1, d2, d3, d4⟩ | ⟨d1, d2, _⟩
                · rw [d2, d3, d4] at htight
                  subst h1
                  show T.sum.getD (plc n l.f) 0 ≤ T.sum.getD (plc n l.t) 0 + -l.m
                  omega
                · have := hodd k hk d1
                  rw [hkj] at this; omega
          · have hpn : sumR (n + 1) (fun v => max (need2.getD v 0) 0) = sumR (n + 1) (fun v => max (need.getD v 0) 0) - a := by
              have e1 : sumR (n + 1) (fun v => max (need2.getD v 0) 0) = sumR (n + 1) (fun v => if v = to then max (need.getD to 0) 0 - a else max (need.getD v 0) 0) := by
                refine sumR_congr fun v _ => ?_
                show max (need2.getD v 0) 0 = if v = to then max (need.getD to 0) 0 - a else max (need.getD v 0) 0
                rw [hn2]
                by_cases h1 : v = to
                · rw [if_pos h1, if_pos h1]; omega
                · rw [if_neg h1, if_neg h1]
                  by_cases h2 : v = src
                  · rw [if_pos h2, h2]; omega
                  · rw [if_neg h2]
              rw [e1, sumR_set (f := fun v => max (need.getD v 0) 0) hto]
              show sumR (n + 1) (fun v => max (need.getD v 0) 0) - max (need.getD to 0) 0 + (max (need.getD to 0) 0 - a) = _
              omega
            have hbi := h.bd i
            rw [hpn]
            by_cases hi : ∃ k ∈ ks, k / 2 = i
            · obtain ⟨k, hk, rfl⟩ := hi
              rw [g4 k hk]
              have hd : a * (1 - 2 * ((k % 2 : Nat) : Int)) ≤ a := by
                rcases Nat.mod_two_eq_zero_or_one k with h0 | h0
                · rw [h0]; simp
                · rw [h0]; simp; omega
              omega
            · rw [g3 i fun k hk he => hi ⟨k, hk, he⟩]; omega
          · have e1 : sumR (n + 1) (fun v => need2.getD v 0) = sumR (n + 1) (fun v => if v = to then need.getD to 0 - a else (fun v => if v = src then need.getD src 0 + a else need.getD v 0) v) := sumR_congr fun v _ => hn2 v
            rw [e1, sumR_set (f := fun v => if v = src then need.getD src 0 + a else need.getD v 0) hto, sumR_set (f := fun v => need.getD v 0) (show src < n + 1 by omega), h.sm]
            show 0 - need.getD src 0 + (need.getD src 0 + a) - (if to = src then need.getD src 0 + a else need.getD to 0) + (need.getD to 0 - a) = 0
            rw [if_neg hne]; omega
        have hms : need2.getD src 0 = need.getD src 0 + a := by rw [hn2, if_neg (fun h => hne h.symm), if_pos rfl]
        obtain ⟨need', fl', i1, i2, i3, i4⟩ := Flo.inner hok hub hS hs f need2 flow' hF2 (by rw [hms]; omega)
        refine ⟨need', fl', by rw [hstep]; exact i1, i2, i3, fun v hv hnv => i4 v hv ?_⟩
        rw [hn2]
        by_cases h1 : v = to
        · rw [if_pos h1]; omega
        · rw [if_neg h1]
          by_cases h2 : v = src
          · subst h2; omega
          · rw [if_neg h2]; exact hnv
    · refine ⟨need, flow, ?_, h, by omega, fun v _ hv => hv⟩
      rw [innerF, if_neg hneg]

theorem Flo.outer {n : Nat} {arcs : List Lnk} {need0 : List Int} {S : Int} (hok : ∀ l ∈ arcs, ArcOK n l) (hub : Hub n arcs) (hS : S ≤ 1152921504606846976) {fuel : Nat} (hfu : S.toNat < fuel) : ∀ (m i : Nat) (need flow : List Int), Flo n arcs need0 S need flow → i + m = n + 1 → (∀ v, v < i → 0 ≤ need.getD v 0) →
    ∃ need' flow', outerF n arcs fuel m i need flow = some flow' ∧ Flo n arcs need0 S need' flow' ∧ ∀ v, v ≤ n → need'.getD v 0 = 0
  | 0, i, need, flow, h, hi, hp => by
    refine ⟨need, flow, rfl, h, fun v hv => ?_⟩
    exact sumR_zero_all (f := fun v => need.getD v 0) (k := n + 1) (fun v hv => hp v (by omega)) h.sm v (by omega)
  | m + 1, i, need, flow, h, hi, hp => by
    have hns := h.need (show i ≤ n by omega)
    obtain ⟨need', flow', g1, g2, g3, g4⟩ := h.inner hok hub hS (src := i) (by omega) fuel need flow (by omega)
    obtain ⟨need2, flow2, k1, k2, k3⟩ := Flo.outer hok hub hS hfu m (i + 1) need' flow' g2 (by omega) (fun v hv => by
      by_cases hvi : v = i
      · rw [hvi]; exact g3
      · exact g4 v (by omega) (hp v (by omega)))
    refine ⟨need2, flow2, ?_, k2, k3⟩
    rw [outerF, g1]
    exact k1

end Proofs
end Go

/-
  Plain lemmas, part 15: the greatest value of a form is what the program's function answers: a flow, its cost, an allowed point at which the form has this value. Conditions: none; definitions and plain lemmas.
-/
namespace Go
namespace Proofs

theorem sumR_shift (f : Nat → Int) : ∀ k, sumR (k + 1) f = f 0 + sumR k (fun v => f (v + 1))
  | 0 => by simp [sumR]
  | k + 1 => by
    have ih := sumR_shift f k
    rw [sumR, ih, sumR]
    omega

theorem sumR_list : ∀ {l : List Int} {n : Nat}, l.length = n → sumR n (fun v => l.getD v 0) = l.sum
  | [], n, h => by subst h; rfl
  | x :: l, 0, h => by simp at h
  | x :: l, n + 1, h => by
    rw [sumR_shift, List.sum_cons, List.getD_cons_zero]
    have ih := sumR_list (l := l) (n := n) (by simpa using h)
    rw [← ih]
    congr 1

/-- The product of two lists. -/
def dotI : List Int → List Int → Int
  | x :: r, y :: s => x * y + dotI r s
  | _, _ => 0

theorem dotI_sumR : ∀ {x y : List Int} {n : Nat}, x.length = n → dotI x y = sumR n (fun v => x.getD v 0 * y.getD v 0)
  | [], y, n, h => by subst h; rfl
  | a :: x, y, 0, h => by simp at h
  | a :: x, [], n + 1, h => by
    rw [sumR_congr (g := fun _ => 0) fun v _ => by simp, sumR_zero]
    rfl
  | a :: x, b :: y, n + 1, h => by
    rw [sumR_shift, List.getD_cons_zero, List.getD_cons_zero]
    have ih := dotI_sumR (x := x) (y := y) (n := n) (by simpa using h)
    show a * b + dotI x y = _
    rw [ih]
    congr 1

theorem mul_bd {x y C D : Int} (hx : -C ≤ x ∧ x ≤ C) (hy : -D ≤ y ∧ y ≤ D) : -(C * D) ≤ x * y ∧ x * y ≤ C * D := by
  have h1 : (x * y).natAbs = x.natAbs * y.natAbs := Int.natAbs_mul x y
  have h2 : x.natAbs * y.natAbs ≤ C.toNat * D.toNat := Nat.mul_le_mul (by omega) (by omega)
  have h3 : ((C.toNat * D.toNat : Nat) : Int) = C * D := by
    rw [Int.natCast_mul, Int.toNat_of_nonneg (by omega), Int.toNat_of_nonneg (by omega)]
  omega

theorem valF_some {C D : Int} (hC : 0 ≤ C) (hD : 0 ≤ D) : ∀ {x y : List Int} {a : Int}, x.length ≤ y.length → (∀ z ∈ x, -C ≤ z ∧ z ≤ C) → (∀ z ∈ y, -D ≤ z ∧ z ≤ D) → C * D ≤ 4611686018427387904 →
    -4611686018427387904 ≤ a - x.length * (C * D) ∧ a + x.length * (C * D) ≤ 4611686018427387904 → valF x y a = some (a + dotI x y)
  | [], y, a, _, _, _, _, _ => by simp [valF, dotI]
  | u :: x, [], a, h, _, _, _, _ => by simp at h
  | u :: x, w :: y, a, h, hx, hy, hcd, ha => by
    have hm := mul_bd (hx u (List.mem_cons_self ..)) (hy w (List.mem_cons_self ..))
    have h0 : 0 ≤ C * D := Int.mul_nonneg hC hD
    have hl : ((x.length + 1 : Nat) : Int) * (C * D) = x.length * (C * D) + C * D := by rw [Int.natCast_add, Int.add_mul]; simp
    have hl0 : 0 ≤ (x.length : Int) * (C * D) := Int.mul_nonneg (by omega) h0
    rw [List.length_cons, hl] at ha
    have ih := valF_some hC hD (x := x) (y := y) (a := a + u * w) (by simpa using h) (fun z hz => hx z (List.mem_cons_of_mem _ hz)) (fun z hz => hy z (List.mem_cons_of_mem _ hz)) hcd (by omega)
    simp only [valF]
    rw [if_pos (by rw [Bool.and_eq_true, inI_iff, inI_iff]; omega), ih]
    show some (a + u * w + dotI x y) = some (a + (u * w + dotI x y))
    rw [Int.add_assoc]

theorem getD_append_left' {a b : List Int} {v : Nat} (h : v < a.length) : (a ++ b).getD v 0 = a.getD v 0 := by
  rw [List.getD_eq_getElem?_getD, List.getD_eq_getElem?_getD, List.getElem?_append_left h]

theorem needL_lt {by' : List Int} {v : Nat} (h : v < by'.length) : (needL by').getD v 0 = by'.getD v 0 := getD_append_left' h

theorem needL_at {by' : List Int} : (needL by').getD by'.length 0 = -by'.sum := by
  rw [List.getD_eq_getElem?_getD, needL, List.getElem?_append_right (Nat.le_refl _), Nat.sub_self]
  rfl

/-- What the greatest value of a form comes with. -/
structure BestOK (n : Nat) (arcs : List Lnk) (by' flow pt : List Int) (v S : Int) : Prop where
  fl : flow.length = arcs.length
  fp : ∀ i, 0 ≤ flow.getD i 0 ∧ flow.getD i 0 ≤ S
  net : ∀ p, p < n → netV n arcs flow p = by'.getD p 0
  cost : costV arcs flow = v
  pl : pt.length = n
  pot : PotL n (fun v => pt.getD v 0) arcs
  val : dotI by' pt = v

theorem best_gen {n : Nat} {arcs : List Lnk} {by' : List Int} {q0 : Nat → Int} {C : Int} (hok : ∀ l ∈ arcs, ArcOK n l) (hub : Hub n arcs) (hq : PotL n q0 arcs)
    (hbox : ∀ v, v < n → (∃ l ∈ arcs, plc n l.f = n ∧ plc n l.t = v ∧ l.m ≤ 16777216) ∧ (∃ l ∈ arcs, plc n l.f = v ∧ plc n l.t = n ∧ l.m ≤ 16777216))
    (hbl : by'.length = n) (hC : 0 ≤ C ∧ C ≤ 68719476736) (hbb : ∀ x ∈ by', -C ≤ x ∧ x ≤ C) (hS : n * C ≤ 68719476736) (hn : n ≤ 240) :
    ∃ flow pt v, bestF n arcs 68719476737 by' = some (v, usesF arcs flow, pt) ∧ BestOK n arcs by' flow pt v (n * C) := by
  have hnl : (needL by').length = n + 1 := by simp [needL, hbl]
  have hna : (needL by').getD n 0 = -by'.sum := by rw [← hbl]; exact needL_at
  have hlt : ∀ v, v < n → (needL by').getD v 0 = by'.getD v 0 := fun v hv => needL_lt (by omega)
  have hbd : ∀ v, v < n → -C ≤ by'.getD v 0 ∧ by'.getD v 0 ≤ C := fun v hv => hbb _ (getD_mem (by omega))
  have hsum : by'.sum = sumR n (fun v => by'.getD v 0) := (sumR_list hbl).symm
  have hCn : ∀ k : Nat, sumR k (fun _ => C) = k * C := by
    intro k
    induction k with
    | zero => simp [sumR]
    | succ k ih => rw [sumR, ih, Int.natCast_add, Int.add_mul]; simp
  have hpos : sumR (n + 1) (fun v => max ((needL by').getD v 0) 0) ≤ n * C := by
    have e1 : sumR (n + 1) (fun v => max ((needL by').getD v 0) 0) = sumR n (fun v => max (by'.getD v 0) 0) + max (-by'.sum) 0 := by
      rw [sumR, hna]
      congr 1
      exact sumR_congr fun v hv => by show max ((needL by').getD v 0) 0 = max (by'.getD v 0) 0; rw [hlt v hv]
    rw [e1]
    by_cases hs : -by'.sum ≤ 0
    · have := sumR_le (f := fun v => max (by'.getD v 0) 0) (g := fun _ => C) (k := n) fun v hv => by have := hbd v hv; show max (by'.getD v 0) 0 ≤ C; omega
      rw [hCn] at this
      omega
    · have e2 : sumR n (fun v => max (by'.getD v 0) 0) + max (-by'.sum) 0 = sumR n (fun v => max (by'.getD v 0) 0 + (-1) * by'.getD v 0) := by
        rw [sumR_add, sumR_mul, ← hsum]; omega
      rw [e2]
      have := sumR_le (f := fun v => max (by'.getD v 0) 0 + (-1) * by'.getD v 0) (g := fun _ => C) (k := n) fun v hv => by have := hbd v hv; show max (by'.getD v 0) 0 + (-1) * by'.getD v 0 ≤ C; omega
      rw [hCn] at this
      omega
  have hz : ∀ i, (List.replicate arcs.length (0 : Int)).getD i 0 = 0 := fun i => by
    rw [List.getD_eq_getElem?_getD, List.getElem?_replicate]; split <;> rfl
  have hF : Flo n arcs (needL by') (n * C) (needL by') (List.replicate arcs.length 0) := by
    refine ⟨List.length_replicate, hnl, fun i => by rw [hz i]; exact Int.le_refl _, fun v hv => by rw [netV_zero]; omega, ⟨q0, ?_⟩, fun i => by rw [hz i]; omega, ?_⟩
    · intro e he
      obtain ⟨j, l, hj, h1 | ⟨hrv, _⟩⟩ := edgs_mem.1 he
      · exact potL_iff.1 hq e (edgs_mem.2 ⟨j, l, hj, .inl h1⟩)
      · rw [Nat.zero_add] at hrv
        have : 0 < (List.replicate arcs.length (0 : Int)).getD j 0 := by simpa only [flowRev, decide_eq_true_eq] using hrv
        rw [hz] at this; omega
    · rw [sumR, hna, sumR_congr (f := fun v => (needL by').getD v 0) (g := fun v => by'.getD v 0) hlt, ← hsum]; omega
  obtain ⟨need', flow, h1, h2, h3⟩ := Flo.outer hok hub (show (n : Int) * C ≤ 1152921504606846976 by omega) (fuel := 68719476737) (by omega) (n + 1) 0 _ _ hF (by omega) (fun v hv => by omega)
  have hnet : ∀ p, p ≤ n → netV n arcs flow p = (needL by').getD p 0 := fun p hp => by
    have := h2.cons p hp
    rw [h3 p hp] at this; omega
  obtain ⟨q, hqp⟩ := h2.pot
  have hr := rounds_pot (rev := flowRev flow) (k := n + 2) hok hqp (Nat.le_refl n) (by omega)
  obtain ⟨ts, hT⟩ := tree_of (rev := flowRev flow) hok hub (Nat.le_refl n) hr.1
  have hpt := hT.pot (edgs_ok hok)
  obtain ⟨rr, hBF⟩ := hT.bf
  have hs0 := hT.src0.1
  have htl : (shortF n (flowRev flow) arcs n).1.sum.length = n + 1 := hBF.ls
  have hsh : (roundsF n (flowRev flow) arcs (n + 2) (startF n n)).1 = (shortF n (flowRev flow) arcs n).1 := rfl
  rw [hsh] at hpt hs0
  generalize hTT : (shortF n (flowRev flow) arcs n).1 = T at *
  have hptl : (T.sum.take n).length = n := by simp; omega
  have hpte : ∀ v, v ≤ n → (T.sum.take n).getD v 0 = T.sum.getD v 0 := fun v hv => by
    by_cases hvn : v = n
    · rw [hvn, hs0, List.getD_eq_getElem?_getD, List.getElem?_eq_none (by omega)]; rfl
    · rw [List.getD_eq_getElem?_getD, List.getD_eq_getElem?_getD, List.getElem?_take_of_lt (by omega)]
  have hpL : PotL n (fun v => T.sum.getD v 0) arcs := by
    intro l hl
    obtain ⟨j, hj⟩ := List.mem_iff_getElem?.1 hl
    exact hpt _ (edgs_mem.2 ⟨j, l, hj, .inl rfl⟩)
  have hptb : ∀ x ∈ T.sum.take n, -16777216 ≤ x ∧ x ≤ 16777216 := by
    intro x hx
    obtain ⟨v, hv, rfl⟩ := List.mem_iff_getElem.1 hx
    have hvn : v < n := by omega
    have e : (T.sum.take n)[v] = T.sum.getD v 0 := by
      rw [← hpte v (by omega), List.getD_eq_getElem?_getD, List.getElem?_eq_getElem hv]; rfl
    rw [e]
    obtain ⟨⟨l, hl, l1, l2, l3⟩, ⟨m, hm, m1, m2, m3⟩⟩ := hbox v hvn
    have p1 := hpL l hl
    have p2 := hpL m hm
    rw [l1, l2] at p1
    rw [m1, m2] at p2
    have p1 : T.sum.getD v 0 ≤ T.sum.getD n 0 + l.m := p1
    have p2 : T.sum.getD n 0 ≤ T.sum.getD v 0 + m.m := p2
    omega
  have hval := valF_some (C := C) (D := 16777216) hC.1 (by omega) (x := by') (y := T.sum.take n) (a := 0) (by omega) hbb hptb
  have hn0 : 0 ≤ (n : Int) * C := Int.mul_nonneg (by omega) hC.1
  have hb2 : (by'.length : Int) * (C * 16777216) = n * C * 16777216 := by rw [hbl, Int.mul_assoc]
  rw [hb2] at hval
  have hval := hval (by omega) (by omega)
  have hdot := netV_dot n (fun v => T.sum.getD v 0) hok h2.fl.symm (fun i l hi hf => by
    have a1 := hpL l (List.mem_of_getElem? hi)
    have a2 := hpt _ (edgs_mem.2 ⟨i, l, hi, .inr ⟨by rw [Nat.zero_add]; simpa [flowRev] using hf, rfl⟩⟩)
    have a2 : T.sum.getD (plc n l.f) 0 ≤ T.sum.getD (plc n l.t) 0 + -l.m := a2
    have a1 : T.sum.getD (plc n l.t) 0 ≤ T.sum.getD (plc n l.f) 0 + l.m := a1
    show T.sum.getD (plc n l.t) 0 - T.sum.getD (plc n l.f) 0 = l.m
    omega) h2.fp
  have hcost : costV arcs flow = dotI by' (T.sum.take n) := by
    rw [← hdot, dotI_sumR hbl, sumR]
    show _ + netV n arcs flow n * T.sum.getD n 0 = _
    rw [hs0, Int.mul_zero, Int.add_zero]
    refine sumR_congr fun v hv => ?_
    show netV n arcs flow v * T.sum.getD v 0 = by'.getD v 0 * (T.sum.take n).getD v 0
    rw [hnet v (by omega), hlt v hv, hpte v (by omega)]
  refine ⟨flow, T.sum.take n, dotI by' (T.sum.take n), ?_, h2.fl, fun i => ⟨h2.fp i, ?_⟩, fun p hp => by rw [hnet p (by omega), hlt p hp], hcost, hptl, ?_, rfl⟩
  · unfold bestF
    rw [h1]
    dsimp only
    rw [hTT, hval, Int.zero_add]
  · have := h2.bd i
    have := sumR_nonneg (f := fun v => max (need'.getD v 0) 0) (k := n + 1) (fun w _ => by show 0 ≤ max (need'.getD w 0) 0; omega)
    omega
  · intro l hl
    obtain ⟨o1, o2, _⟩ := hok l hl
    show (T.sum.take n).getD (plc n l.t) 0 ≤ (T.sum.take n).getD (plc n l.f) 0 + l.m
    rw [hpte _ (plc_le o2.2), hpte _ (plc_le o1.2)]
    exact hpL l hl

/-- No allowed point gives a form a greater value. -/
theorem BestOK.most {n : Nat} {arcs : List Lnk} {by' flow pt p : List Int} {v S : Int} (h : BestOK n arcs by' flow pt v S) (hok : ∀ l ∈ arcs, ArcOK n l) (hbl : by'.length = n) (hpl : p.length = n)
    (hp : PotL n (fun v => p.getD v 0) arcs) : dotI by' p ≤ v := by
  have h1 := netV_le n (fun v => p.getD v 0) hok h.fl.symm hp (fun i => (h.fp i).1)
  rw [h.cost, sumR] at h1
  have h2 : p.getD n 0 = 0 := by rw [List.getD_eq_getElem?_getD, List.getElem?_eq_none (by omega)]; rfl
  have h1 : sumR n (fun v => netV n arcs flow v * p.getD v 0) + netV n arcs flow n * p.getD n 0 ≤ v := h1
  rw [h2, Int.mul_zero, Int.add_zero] at h1
  rw [dotI_sumR hbl]
  rw [sumR_congr (f := fun v => by'.getD v 0 * p.getD v 0) (g := fun v => netV n arcs flow v * p.getD v 0) fun v hv => by show by'.getD v 0 * p.getD v 0 = netV n arcs flow v * p.getD v 0; rw [h.net v hv]]
  exact h1

end Proofs
end Go

namespace Go.Proofs
open Go.Sx

theorem BestErr_t (bs : List (Int × Int)) (ls : List Lnk) (form : List (Int × Int)) (hb : bs.length ≤ 1000) (hfl : form.length ≤ 100000) (hF : formF form bs.length ≠ 0) :
    Triple Try.prog 28 [.c (.p 0 0 0 0), .c (.s 3 0 form.length 2)] ((3, false, .arr (aSpan form)) :: netH bs ls) 4
      (.tup [.inr [.v (.int .i64 0), .v (.slice none 0 0), .v (.slice none 0 0)], .inl (.v (.int .i64 (formF form bs.length)))]) [] := by
  refine triple_of tB_ok Try.func28 rfl Try.call28 rfl ?_
  intro ρ w hH
  conv => whnf
  refine call_step (formed_t form bs.length (by omega) (by omega)) rfl rfl ?_
  conv => whnf
  refine ⟨(by repeat' (first | exact trivial | exact rfl | refine And.intro ?_ ?_ | ((conv => whnf); first | exact trivial | exact rfl | refine And.intro ?_ ?_ | omega))), (by repeat' (first | exact trivial | exact rfl | refine And.intro ?_ ?_ | ((conv => whnf); first | exact trivial | exact rfl | refine And.intro ?_ ?_ | omega))), ?_⟩
  conv => whnf
  refine ⟨fun hc => ?_, fun hc => absurd (by simpa using (show (formF form bs.length != 0) = false from hc)) hF⟩
  conv => whnf
  repeat' (first | exact trivial | exact rfl | refine And.intro ?_ ?_ | ((conv => whnf); first | exact trivial | exact rfl | refine And.intro ?_ ?_ | omega))

end Go.Proofs

namespace Go.Proofs
open Go.Sx

/-! ### Forms -/

def termOK (vars : Int) (t : Int × Int) : Bool := withinF t.1 0 (vars - 1) && withinF t.2 (-1024) 1024

theorem termOK_iff {vars : Int} {t : Int × Int} : termOK vars t = true ↔ (0 ≤ t.1 ∧ t.1 < vars) ∧ (-1024 ≤ t.2 ∧ t.2 ≤ 1024) := by
  simp only [termOK, withinF, Bool.and_eq_true, decide_eq_true_eq]
  omega

theorem formG_bad {vars : Int} : ∀ {form : List (Int × Int)} {seen : List Int} {e : Int}, (∃ t ∈ form, termOK vars t = false) → formG vars seen e form = 1
  | [], _, _, ⟨t, ht, _⟩ => by cases ht
  | t :: r, seen, e, ⟨x, hx, hb⟩ => by
    rw [formG]
    by_cases ht : (withinF t.1 0 (vars - 1) && withinF t.2 (-1024) 1024) = true
    · rw [if_pos ht]
      rcases List.mem_cons.1 hx with rfl | hx
      · have : termOK vars x = true := ht
        rw [this] at hb; cases hb
      · exact formG_bad ⟨x, hx, hb⟩
    · rw [if_neg ht]

theorem formG_six {vars : Int} : ∀ {form : List (Int × Int)} {seen : List Int}, (∀ t ∈ form, termOK vars t = true) → formG vars seen 6 form = 6
  | [], _, _ => rfl
  | t :: r, seen, h => by
    have ht : (withinF t.1 0 (vars - 1) && withinF t.2 (-1024) 1024) = true := h t (List.mem_cons_self ..)
    rw [formG, if_pos ht]
    split <;> exact formG_six fun t ht => h t (List.mem_cons_of_mem _ ht)

theorem formG_dup {vars : Int} : ∀ {form : List (Int × Int)} {seen : List Int} {e : Int}, (∀ t ∈ form, termOK vars t = true) → (∃ t ∈ form, t.1 ∈ seen) ∨ ¬ (form.map (·.1)).Nodup → formG vars seen e form = 6
  | [], _, _, _, h => by rcases h with ⟨t, ht, _⟩ | h; cases ht; exact absurd List.nodup_nil h
  | t :: r, seen, e, h, hd => by
    have ht : (withinF t.1 0 (vars - 1) && withinF t.2 (-1024) 1024) = true := h t (List.mem_cons_self ..)
    have hr : ∀ t ∈ r, termOK vars t = true := fun t ht => h t (List.mem_cons_of_mem _ ht)
    rw [formG, if_pos ht]
    by_cases hs : t.1 ∈ seen
    · rw [if_pos hs]; exact formG_six hr
    · rw [if_neg hs]
      refine formG_dup hr ?_
      rcases hd with ⟨x, hx, hxs⟩ | hd
      · rcases List.mem_cons.1 hx with rfl | hx
        · exact absurd hxs hs
        · exact .inl ⟨x, hx, List.mem_cons_of_mem _ hxs⟩
      · rw [List.map_cons, List.nodup_cons] at hd
        by_cases hm : t.1 ∈ r.map (·.1)
        · obtain ⟨x, hx, he⟩ := List.mem_map.1 hm
          exact .inl ⟨x, hx, by rw [he]; exact List.mem_cons_self ..⟩
        · exact .inr fun hn => hd ⟨hm, hn⟩

/-- What a form is like that has no error. -/
theorem formF_ok {form : List (Int × Int)} {vars : Int} (h : formF form vars = 0) : form.length ≤ 240 ∧ (∀ t ∈ form, (0 ≤ t.1 ∧ t.1 < vars) ∧ (-1024 ≤ t.2 ∧ t.2 ≤ 1024)) ∧ (form.map (·.1)).Nodup := by
  unfold formF at h
  by_cases hl : 240 < form.length
  · rw [if_pos hl] at h; cases h
  rw [if_neg hl] at h
  have hg : ∀ t ∈ form, termOK vars t = true := by
    intro t ht
    by_cases hb : termOK vars t = true
    · exact hb
    · rw [formG_bad ⟨t, ht, by simpa using hb⟩] at h; cases h
  refine ⟨by omega, fun t ht => termOK_iff.1 (hg t ht), ?_⟩
  by_cases hd : (form.map (·.1)).Nodup
  · exact hd
  · rw [formG_dup hg (.inr hd)] at h; cases h

end Go.Proofs

/-
  Plain lemmas, part 16: the value of a form at a point, its coefficients, and what uses of links show. Conditions: none; definitions and plain lemmas.
-/
namespace Go
namespace Proofs

/-- The value of a form at a point. -/
def valM : List (Int × Int) → List Int → Int
  | [], _ => 0
  | t :: r, pt => t.2 * pt.getD t.1.toNat 0 + valM r pt

def useOK (arcs : List Lnk) (u : Lnk × Int) : Bool := decide (u.1 ∈ arcs) && (decide (1 ≤ u.2) && decide (u.2 ≤ 68719476736))

theorem useOK_iff {arcs : List Lnk} {u : Lnk × Int} : useOK arcs u = true ↔ u.1 ∈ arcs ∧ 1 ≤ u.2 ∧ u.2 ≤ 68719476736 := by simp [useOK]

/-- So much more at a place. -/
def gotP (p x : Int) (got : List Int) : List Int := if p < 0 then got else got.set p.toNat (got.getD p.toNat 0 + x)

theorem gotP_len (p x : Int) (got : List Int) : (gotP p x got).length = got.length := by
  unfold gotP; split <;> simp

/-- What uses of links bring to each place. -/
def gotF : List (Lnk × Int) → List Int → List Int
  | [], g => g
  | u :: r, g => gotF r (gotP u.1.f (-u.2) (gotP u.1.t u.2 g))

def costU : List (Lnk × Int) → Int
  | [] => 0
  | u :: r => u.2 * u.1.m + costU r

/-- Do uses of links show that a form with some coefficients is at most a number? -/
def showsF (arcs : List Lnk) (n : Nat) (by' : List Int) (us : List (Lnk × Int)) (most : Int) : Bool :=
  decide (us.length ≤ 2000) && (us.all (useOK arcs) && (decide (gotF us (List.replicate n 0) = by') && decide (costU us = most)))

theorem showsF_iff {arcs : List Lnk} {n : Nat} {by' : List Int} {us : List (Lnk × Int)} {most : Int} : showsF arcs n by' us most = true ↔
    us.length ≤ 2000 ∧ (∀ u ∈ us, useOK arcs u = true) ∧ gotF us (List.replicate n 0) = by' ∧ costU us = most := by simp [showsF]

/-! ### A flow's uses -/

theorem gotF_getD {n : Nat} {arcs : List Lnk} (v : Nat) (hv : v < n) : ∀ {us : List (Lnk × Int)} {g : List Int}, (∀ u ∈ us, ArcOK n u.1) → g.length = n →
    (gotF us g).length = n ∧ (gotF us g).getD v 0 = g.getD v 0 + netV n (us.map (·.1)) (us.map (·.2)) v
  | [], g, _, hg => ⟨hg, by simp [gotF, netV]⟩
  | u :: r, g, hok, hg => by
    obtain ⟨o1, o2, _⟩ := hok u (List.mem_cons_self ..)
    have hl1 : (gotP u.1.t u.2 g).length = n := by rw [gotP_len]; exact hg
    have hl2 : (gotP u.1.f (-u.2) (gotP u.1.t u.2 g)).length = n := by rw [gotP_len]; exact hl1
    obtain ⟨h1, h2⟩ := gotF_getD (arcs := arcs) v hv (us := r) (fun u hu => hok u (List.mem_cons_of_mem _ hu)) hl2
    refine ⟨h1, ?_⟩
    have key : ∀ (p x : Int) (g : List Int), -1 ≤ p ∧ p < n → g.length = n → (gotP p x g).getD v 0 = g.getD v 0 + x * ind (plc n p = v) := by
      intro p x g hp hg
      unfold gotP plc
      by_cases h0 : p < 0
      · rw [if_pos h0, if_pos h0, ind_false (by omega)]; simp
      · rw [if_neg h0, if_neg h0, getD_set (by omega)]
        by_cases h1 : v = p.toNat
        · rw [if_pos h1, ind_true h1.symm, h1]; simp
        · rw [if_neg h1, ind_false (fun h => h1 h.symm)]; simp
    show (gotF r (gotP u.1.f (-u.2) (gotP u.1.t u.2 g))).getD v 0 = g.getD v 0 + netV n (u.1 :: r.map (·.1)) (u.2 :: r.map (·.2)) v
    rw [h2, key _ _ _ o1 hl1, key _ _ _ o2 hg, netV, Int.mul_sub, Int.neg_mul]
    omega

theorem usesF_net (n v : Nat) : ∀ {arcs : List Lnk} {flow : List Int}, (∀ i, 0 ≤ flow.getD i 0) → arcs.length = flow.length →
    netV n ((usesF arcs flow).map (·.1)) ((usesF arcs flow).map (·.2)) v = netV n arcs flow v ∧ costU (usesF arcs flow) = costV arcs flow
  | [], flow, _, _ => by simp [usesF, netV, costU, costV]
  | l :: r, [], _, h => by simp at h
  | l :: r, x :: s, hp, hl => by
    obtain ⟨h1, h2⟩ := usesF_net n v (arcs := r) (flow := s) (fun i => by have := hp (i + 1); simpa using this) (by simpa using hl)
    have h0 := hp 0
    rw [List.getD_cons_zero] at h0
    simp only [usesF]
    by_cases hx : 0 < x
    · rw [if_pos hx]
      simp only [List.map_cons, netV, costU, costV, h1, h2]
      exact ⟨trivial, trivial⟩
    · have hx0 : x = 0 := by omega
      rw [if_neg hx, h1, h2, hx0]
      simp [netV, costV]

theorem usesF_mem {u : Lnk × Int} : ∀ {arcs : List Lnk} {flow : List Int}, u ∈ usesF arcs flow → u.1 ∈ arcs ∧ 1 ≤ u.2 ∧ ∃ i, flow.getD i 0 = u.2
  | [], flow, h => by simp [usesF] at h
  | l :: r, [], h => by simp [usesF] at h
  | l :: r, x :: s, h => by
    simp only [usesF] at h
    have hr : u ∈ usesF r s → u.1 ∈ l :: r ∧ 1 ≤ u.2 ∧ ∃ i, (x :: s).getD i 0 = u.2 := fun h => by
      obtain ⟨h1, h2, i, h3⟩ := usesF_mem h
      exact ⟨List.mem_cons_of_mem _ h1, h2, i + 1, by simpa using h3⟩
    split at h
    · rcases List.mem_cons.1 h with rfl | h
      · exact ⟨List.mem_cons_self .., by show 1 ≤ x; omega, 0, rfl⟩
      · exact hr h
    · exact hr h

/-- What the greatest value of a form comes with shows it. -/
theorem BestOK.shows {n : Nat} {arcs : List Lnk} {by' flow pt : List Int} {v S : Int} (h : BestOK n arcs by' flow pt v S) (hok : ∀ l ∈ arcs, ArcOK n l) (hbl : by'.length = n) (hS : S ≤ 68719476736) (ha : arcs.length ≤ 2000) :
    showsF arcs n by' (usesF arcs flow) v = true := by
  have hfp : ∀ i, 0 ≤ flow.getD i 0 := fun i => (h.fp i).1
  rw [showsF_iff]
  have hle := usesF_len arcs flow
  have hmem : ∀ u ∈ usesF arcs flow, ArcOK n u.1 := fun u hu => hok _ (usesF_mem hu).1
  refine ⟨by omega, fun u hu => ?_, ?_, ?_⟩
  · obtain ⟨h1, h2, i, h3⟩ := usesF_mem hu
    rw [useOK_iff]
    have := (h.fp i).2
    rw [h3] at this
    exact ⟨h1, h2, by omega⟩
  · refine List.ext_getElem ?_ fun v hv1 hv2 => ?_
    · by_cases h0 : n = 0
      · have hgl : ∀ {us : List (Lnk × Int)} {g : List Int}, (gotF us g).length = g.length := by
          intro us
          induction us with
          | nil => intro g; rfl
          | cons u r ih => intro g; rw [gotF, ih, gotP_len, gotP_len]
        rw [hgl, List.length_replicate, hbl]
      · rw [(gotF_getD (arcs := arcs) 0 (by omega) hmem List.length_replicate).1, hbl]
    · have hvn : v < n := by omega
      have h1 := (gotF_getD (arcs := arcs) v hvn hmem (g := List.replicate n 0) List.length_replicate).2
      rw [(usesF_net n v hfp h.fl.symm).1, h.net v hvn, List.getD_eq_getElem?_getD, List.getD_eq_getElem?_getD, List.getElem?_replicate, List.getElem?_eq_getElem hv1, List.getD_eq_getElem?_getD, List.getElem?_eq_getElem hv2] at h1
      rw [if_pos hvn] at h1
      simpa using h1
  · rw [(usesF_net n 0 hfp h.fl.symm).2, h.cost]

end Proofs
end Go

namespace Go.Proofs
open Go.Sx

theorem coefF_len (p : Int) : ∀ (form : List (Int × Int)) (out : List Int), (coefF p form out).length = out.length
  | [], out => rfl
  | t :: r, out => by rw [coefF, coefF_len p r]; simp

theorem coefF_bd {p C : Int} : ∀ {form : List (Int × Int)} {out : List Int}, (form.map (·.1)).Nodup → (∀ t ∈ form, (0 ≤ t.1 ∧ t.1 < out.length) ∧ (-C ≤ p * t.2 ∧ p * t.2 ≤ C)) →
    (∀ t ∈ form, out.getD t.1.toNat 0 = 0) → (∀ y ∈ out, -C ≤ y ∧ y ≤ C) → ∀ y ∈ coefF p form out, -C ≤ y ∧ y ≤ C
  | [], out, _, _, _, h => h
  | t :: r, out, hn, hb, hz, h => by
    rw [List.map_cons, List.nodup_cons] at hn
    obtain ⟨⟨h0, h1⟩, h2, h3⟩ := hb t (List.mem_cons_self ..)
    refine coefF_bd (form := r) hn.2 (fun x hx => ?_) (fun x hx => ?_) (fun y hy => ?_)
    · rw [List.length_set]; exact hb x (List.mem_cons_of_mem _ hx)
    · have hb2 := (hb x (List.mem_cons_of_mem _ hx)).1
      rw [getD_set (by omega), if_neg, hz x (List.mem_cons_of_mem _ hx)]
      intro he
      exact hn.1 (List.mem_map.2 ⟨x, hx, by omega⟩)
    · rcases List.mem_or_eq_of_mem_set hy with hy | rfl
      · exact h y hy
      · rw [hz t (List.mem_cons_self ..)]; omega

theorem dotI_set {x : Int} : ∀ {out pt : List Int} {k : Nat}, k < out.length → dotI (out.set k (out.getD k 0 + x)) pt = dotI out pt + x * pt.getD k 0
  | [], pt, k, h => by simp at h
  | a :: out, [], k, h => by cases k <;> simp [dotI]
  | a :: out, b :: pt, 0, h => by simp [dotI, Int.add_mul]; omega
  | a :: out, b :: pt, k + 1, h => by
    have := dotI_set (x := x) (out := out) (pt := pt) (k := k) (by simpa using h)
    simp only [List.set_cons_succ, dotI, List.getD_cons_succ, this]
    omega

/-- The value of a form by its coefficients. -/
theorem coefF_dot (p : Int) (pt : List Int) : ∀ {form : List (Int × Int)} {out : List Int}, (∀ t ∈ form, 0 ≤ t.1 ∧ t.1 < out.length) → dotI (coefF p form out) pt = dotI out pt + p * valM form pt
  | [], out, _ => by simp [coefF, valM]
  | t :: r, out, h => by
    obtain ⟨h0, h1⟩ := h t (List.mem_cons_self ..)
    rw [coefF, coefF_dot p pt (form := r) (fun x hx => by rw [List.length_set]; exact h x (List.mem_cons_of_mem _ hx)), dotI_set (by omega), valM, Int.mul_add, Int.mul_assoc]
    omega

theorem dotI_zero : ∀ (n : Nat) (pt : List Int), dotI (List.replicate n 0) pt = 0
  | 0, _ => rfl
  | n + 1, [] => rfl
  | n + 1, b :: pt => by rw [List.replicate_succ, dotI, dotI_zero n pt]; simp

theorem replicate_getD (n k : Nat) : (List.replicate n (0 : Int)).getD k 0 = 0 := by
  rw [List.getD_eq_getElem?_getD, List.getElem?_replicate]; split <;> rfl

end Go.Proofs

namespace Go.Proofs
open Go.Sx

end Go.Proofs

namespace Go.Proofs
open Go.Sx

end Go.Proofs

namespace Go.Proofs
open Go.Sx

theorem plc_at {n : Nat} {pt : List Int} {i : Int} (hl : pt.length = n) (hi : -1 ≤ i ∧ i < n) : pt.getD (plc n i) 0 = atF pt i := by
  unfold plc atF
  by_cases h : i < 0
  · rw [if_pos h, if_pos h, List.getD_eq_getElem?_getD, List.getElem?_eq_none (by omega)]; rfl
  · rw [if_neg h, if_neg h]

theorem box_arcs {bs : List (Int × Int)} {ls : List Lnk} (hs : SysOK bs ls) {v : Nat} (hv : v < bs.length) :
    (∃ l ∈ allF bs ls, plc bs.length l.f = bs.length ∧ plc bs.length l.t = v ∧ l.m ≤ 16777216) ∧ (∃ l ∈ allF bs ls, plc bs.length l.f = v ∧ plc bs.length l.t = bs.length ∧ l.m ≤ 16777216) := by
  have hb := boxLinks_has (bs := bs) (v := 0) hv
  rw [Nat.zero_add] at hb
  have hbx := hs.box _ (List.getElem_mem hv)
  refine ⟨⟨_, List.mem_append.2 (.inl hb.1), rfl, ?_, hbx.2.2⟩, ⟨_, List.mem_append.2 (.inl hb.2), ?_, rfl, by show -bs[v].1 ≤ 16777216; omega⟩⟩
  · simp only [plc]; rw [if_neg (by omega)]; omega
  · simp only [plc]; rw [if_neg (by omega)]; omega

theorem pot_bd {bs : List (Int × Int)} {ls : List Lnk} {pt : List Int} (hs : SysOK bs ls) (hl : pt.length = bs.length) (hp : PotL bs.length (fun v => pt.getD v 0) (allF bs ls)) : ∀ x ∈ pt, -16777216 ≤ x ∧ x ≤ 16777216 := by
  intro x hx
  obtain ⟨v, hv, rfl⟩ := List.mem_iff_getElem.1 hx
  obtain ⟨⟨l, hl1, a1, a2, a3⟩, ⟨m, hm1, b1, b2, b3⟩⟩ := box_arcs (ls := ls) hs (show v < bs.length by omega)
  have p1 : pt.getD (plc bs.length l.t) 0 ≤ pt.getD (plc bs.length l.f) 0 + l.m := hp l hl1
  have p2 : pt.getD (plc bs.length m.t) 0 ≤ pt.getD (plc bs.length m.f) 0 + m.m := hp m hm1
  have z : pt.getD bs.length 0 = 0 := by rw [List.getD_eq_getElem?_getD, List.getElem?_eq_none (by omega)]; rfl
  rw [a1, a2, z, getD_of hv] at p1
  rw [b1, b2, z, getD_of hv] at p2
  omega

/-- The allowed points are those that no link contradicts. -/
theorem allows_iff {bs : List (Int × Int)} {ls : List Lnk} {pt : List Int} (hs : SysOK bs ls) : (allowsF bs ls pt).2 = true ↔ pt.length = bs.length ∧ PotL bs.length (fun v => pt.getD v 0) (allF bs ls) := by
  unfold allowsF
  have hok := allF_ok hs
  by_cases hl : pt.length = bs.length
  · rw [if_pos hl]
    have hv : (∀ l ∈ allF bs ls, violF pt l = false) ↔ PotL bs.length (fun v => pt.getD v 0) (allF bs ls) := by
      constructor
      · intro h
        have hc : ∀ v, v < bs.length → -16777216 ≤ atF pt v ∧ atF pt v ≤ 16777216 := by
          intro v hv
          obtain ⟨h1, h2⟩ := boxLinks_has (bs := bs) (v := 0) hv
          have hbx := hs.box _ (List.getElem_mem hv)
          have g1 := h _ (List.mem_append.2 (.inl h1))
          have g2 := h _ (List.mem_append.2 (.inl h2))
          rw [Nat.zero_add] at g1 g2
          have e0 : valI pt (-1) = 0 := rfl
          have e1 : valI pt ((v : Nat) : Int) = max (-1099511627776) (min 1099511627776 (pt.getD v 0)) := by
            unfold valI; rw [if_neg (by omega), Int.toNat_natCast]
          have e2 : atF pt ((v : Nat) : Int) = pt.getD v 0 := by unfold atF; rw [if_neg (by omega), Int.toNat_natCast]
          have g1 : decide (bs[v].2 < valI pt ((v : Nat) : Int) - valI pt (-1)) = false := g1
          have g2 : decide (-bs[v].1 < valI pt (-1) - valI pt ((v : Nat) : Int)) = false := g2
          rw [e0, e1, decide_eq_false_iff_not] at g1 g2
          rw [e2]
          omega
        have hat : ∀ i : Int, -1 ≤ i ∧ i < bs.length → valI pt i = atF pt i := fun i hi => by
          refine valI_at ?_
          by_cases h0 : i < 0
          · unfold atF; rw [if_pos h0]; omega
          · have := hc i.toNat (by omega)
            rw [Int.toNat_of_nonneg (by omega)] at this
            omega
        intro l hl2
        obtain ⟨o1, o2, _⟩ := hok l hl2
        have g := h l hl2
        unfold violF at g
        rw [hat _ o1, hat _ o2] at g
        simp only [decide_eq_false_iff_not] at g
        show pt.getD (plc bs.length l.t) 0 ≤ pt.getD (plc bs.length l.f) 0 + l.m
        rw [plc_at hl o1, plc_at hl o2]
        omega
      · intro hp l hl2
        obtain ⟨o1, o2, _⟩ := hok l hl2
        have hb := pot_bd hs hl hp
        have hbd : ∀ i : Int, -1 ≤ i ∧ i < bs.length → valI pt i = atF pt i := fun i hi => by
          refine valI_at ?_
          unfold atF
          by_cases h0 : i < 0
          · rw [if_pos h0]; omega
          · rw [if_neg h0]
            have := hb _ (getD_mem (show i.toNat < pt.length by omega))
            omega
        have g : pt.getD (plc bs.length l.t) 0 ≤ pt.getD (plc bs.length l.f) 0 + l.m := hp l hl2
        rw [plc_at hl o1, plc_at hl o2] at g
        unfold violF
        rw [hbd _ o1, hbd _ o2, decide_eq_false_iff_not]
        omega
    rw [← hv]
    constructor
    · intro h
      refine ⟨hl, fun l hl2 => ?_⟩
      cases hf : (allF bs ls).find? (violF pt) with
      | none =>
        rw [List.find?_eq_none] at hf
        simpa using hf l hl2
      | some x => rw [hf] at h; cases h
    · intro h
      have : (allF bs ls).find? (violF pt) = none := List.find?_eq_none.2 fun l hl2 => by rw [h.2 l hl2]; simp
      rw [this]
  · rw [if_neg hl]
    exact ⟨fun h => by simp at h, fun h => absurd h.1 hl⟩

theorem formB_of {form : List (Int × Int)} {n : Nat} (h : formF form n = 0) {p : Int} (hp : -4294967296 ≤ p ∧ p ≤ 4294967296) : FormB n p form := by
  intro t ht
  obtain ⟨h1, h2⟩ := (formF_ok h).2.1 t ht
  have := mul_bd (C := 4294967296) (D := 1024) hp h2
  exact ⟨h1, by omega⟩

end Go.Proofs

namespace Go.Proofs
open Go.Sx

/-- A system that does not contradict itself and is not too large. -/
structure NetW (bs : List (Int × Int)) (ls : List Lnk) : Prop where
  few : bs.length ≤ 14 ∧ ls.length ≤ 150
  sys : SysOK bs ls
  calm : Calm bs ls 0

theorem NetOK.w {bs : List (Int × Int)} {ls : List Lnk} (h : NetOK bs ls) : NetW bs ls := ⟨⟨h.few.1, by have := h.few; omega⟩, h.sys, h.calm⟩

theorem best_net {bs : List (Int × Int)} {ls : List Lnk} (h : NetW bs ls) {by' : List Int} {C : Int} (hbl : by'.length = bs.length) (hC : 0 ≤ C ∧ C ≤ 4294967296) (hbb : ∀ x ∈ by', -C ≤ x ∧ x ≤ C) :
    ∃ flow pt v, bestF bs.length (graphF bs ls 0) 68719476737 by' = some (v, usesF (allF bs ls) flow, pt) ∧ BestOK bs.length (allF bs ls) by' flow pt v (bs.length * C) ∧ bs.length * C ≤ 68719476736 := by
  have hf := h.few
  have hn : (bs.length : Int) * C ≤ 14 * 4294967296 := Int.mul_le_mul (by omega) hC.2 hC.1 (by omega)
  obtain ⟨q, hq⟩ := calm_pot h.sys h.calm
  have hok := allF_ok h.sys
  have hub := hub_graph bs ls 0
  have hq := hq 0
  rw [graphF_zero] at hub hq ⊢
  obtain ⟨flow, pt, v, h1, h2⟩ := best_gen (C := C) hok hub hq (fun v hv => box_arcs h.sys hv) hbl (by omega) hbb (by omega) (by omega)
  exact ⟨flow, pt, v, h1, h2, by omega⟩

theorem BestOK.bd {bs : List (Int × Int)} {ls : List Lnk} (h : NetW bs ls) {by' flow pt : List Int} {v S C : Int} (hb : BestOK bs.length (allF bs ls) by' flow pt v S) (hbl : by'.length = bs.length) (hC : 0 ≤ C ∧ C ≤ 4294967296) (hbb : ∀ x ∈ by', -C ≤ x ∧ x ≤ C) : -1152921504606846976 ≤ v ∧ v ≤ 1152921504606846976 := by
  have hpb := pot_bd h.sys hb.pl hb.pot
  have hf := h.few
  rw [← hb.val]
  have key : ∀ {x y : List Int}, (∀ z ∈ x, -C ≤ z ∧ z ≤ C) → (∀ z ∈ y, -16777216 ≤ z ∧ z ≤ 16777216) → -(x.length * (C * 16777216)) ≤ dotI x y ∧ dotI x y ≤ x.length * (C * 16777216) := by
    intro x
    induction x with
    | nil => intro y _ _; simp [dotI]
    | cons a x ih =>
      intro y hx hy
      have h0 : 0 ≤ C * 16777216 := by omega
      have hl : ((x.length + 1 : Nat) : Int) * (C * 16777216) = x.length * (C * 16777216) + C * 16777216 := by rw [Int.natCast_add, Int.add_mul]; simp
      have hl0 : 0 ≤ (x.length : Int) * (C * 16777216) := Int.mul_nonneg (by omega) h0
      rw [List.length_cons, hl]
      cases y with
      | nil => show -(_ + _) ≤ (0 : Int) ∧ (0 : Int) ≤ _; omega
      | cons b y =>
        have := ih (fun z hz => hx z (List.mem_cons_of_mem _ hz)) (fun z hz => hy z (List.mem_cons_of_mem _ hz))
        have hm := mul_bd (hx a (List.mem_cons_self ..)) (hy b (List.mem_cons_self ..))
        show _ ≤ a * b + dotI x y ∧ a * b + dotI x y ≤ _
        omega
  have := key hbb hpb
  have h2 : (by'.length : Int) * (C * 16777216) ≤ 14 * (4294967296 * 16777216) := Int.mul_le_mul (by omega) (by omega) (by omega) (by omega)
  omega

/-- The greatest and the least value of a form of a system that does not contradict itself. -/
theorem form_net {bs : List (Int × Int)} {ls : List Lnk} (h : NetW bs ls) {form : List (Int × Int)} (hf : formF form bs.length = 0) {p : Int} (hp : p = 1 ∨ p = -1) :
    (coefF p form (List.replicate bs.length 0)).length = bs.length ∧ (∀ x ∈ coefF p form (List.replicate bs.length 0), -1024 ≤ x ∧ x ≤ 1024) ∧
    ∃ flow pt v, bestF bs.length (graphF bs ls 0) 68719476737 (coefF p form (List.replicate bs.length 0)) = some (v, usesF (allF bs ls) flow, pt) ∧
      BestOK bs.length (allF bs ls) (coefF p form (List.replicate bs.length 0)) flow pt v (bs.length * 1024) ∧ (-1152921504606846976 ≤ v ∧ v ≤ 1152921504606846976) ∧
      showsF (allF bs ls) bs.length (coefF p form (List.replicate bs.length 0)) (usesF (allF bs ls) flow) v = true ∧ (allowsF bs ls pt).2 = true ∧ p * valM form pt = v ∧ (usesF (allF bs ls) flow).length ≤ 2000 ∧
      ∀ pt', (allowsF bs ls pt').2 = true → p * valM form pt' ≤ v := by
  obtain ⟨f1, f2, f3⟩ := formF_ok hf
  have hfew := h.few
  have hl : (coefF p form (List.replicate bs.length 0)).length = bs.length := by rw [coefF_len, List.length_replicate]
  have hb : ∀ x ∈ coefF p form (List.replicate bs.length 0), -1024 ≤ x ∧ x ≤ 1024 := by
    refine coefF_bd f3 (fun t ht => ⟨by rw [List.length_replicate]; exact (f2 t ht).1, ?_⟩) (fun t _ => replicate_getD _ _) (fun y hy => ?_)
    · have := (f2 t ht).2
      rcases hp with rfl | rfl <;> omega
    · obtain ⟨_, rfl⟩ := List.mem_replicate.1 hy; omega
  refine ⟨hl, hb, ?_⟩
  have hd : ∀ pt', dotI (coefF p form (List.replicate bs.length 0)) pt' = p * valM form pt' := fun pt' => by
    rw [coefF_dot p pt' (fun t ht => by rw [List.length_replicate]; exact (f2 t ht).1), dotI_zero]; omega
  generalize coefF p form (List.replicate bs.length 0) = cf at *
  obtain ⟨flow, pt, v, h1, h2, h3⟩ := best_net h (C := 1024) hl (by omega) hb
  have hal := allF_len bs ls
  have hus := usesF_len (allF bs ls) flow
  refine ⟨flow, pt, v, h1, h2, h2.bd h hl (by omega) hb, h2.shows (allF_ok h.sys) hl h3 (by omega), (allows_iff h.sys).2 ⟨h2.pl, h2.pot⟩, by rw [← hd, h2.val], by omega, fun pt' hpt' => ?_⟩
  obtain ⟨a1, a2⟩ := (allows_iff h.sys).1 hpt'
  rw [← hd]
  exact h2.most (allF_ok h.sys) hl a1 a2

theorem best_call {bs : List (Int × Int)} {ls : List Lnk} (h : NetW bs ls) {form : List (Int × Int)} (hf : formF form bs.length = 0) :
    ∃ v us pt, Triple Try.prog 28 [.c (.p 0 0 0 0), .c (.s 3 0 form.length 2)] ((3, false, .arr (aSpan form)) :: netH bs ls) 4
      (.tup [.inr [.v (.int .i64 v), .s 4 0 us.length 5, .s 5 0 pt.length 1], .inl (.v (.int .i64 0))]) [(4, true, .arr (aUse us)), (5, true, .arr (aInt pt))] ∧
      (-1152921504606846976 ≤ v ∧ v ≤ 1152921504606846976) ∧ us.length ≤ 2000 ∧ (allowsF bs ls pt).2 = true ∧ 1 * valM form pt = v ∧ ∀ pt', (allowsF bs ls pt').2 = true → 1 * valM form pt' ≤ v := by
  obtain ⟨f1, _, _⟩ := formF_ok hf
  obtain ⟨l1, b1, flow1, pt1, v1, hB1, hO1, hv1, hsh1, hal1, hval1, hul1, hm1⟩ := form_net h hf (p := 1) (.inl rfl)
  exact ⟨v1, _, pt1, Best_t bs ls form 68719476737 v1 (usesF (allF bs ls) flow1) pt1 _ h.sys (by omega) hf (formB_of hf (by omega)) rfl l1 (fun x hx => by have := b1 x hx; omega) hB1, hv1, hul1, hal1, hval1, hm1⟩

end Go.Proofs

namespace Go.Proofs
open Go.Sx

theorem newErr_t (bs : List (Int × Int)) (ls : List Lnk) (hb : bs.length ≤ 1000000) (hl : ls.length ≤ 1000000) (hc : checkF bs ls ≠ 0) :
    Triple Try.prog 64 [sysA bs.length ls.length] (sysH bs ls) 2 (.tup [.inl (.v (.pointer none)), .inl (.v (.int .i64 (checkF bs ls)))]) [] := by
  have hce := conflictErr_t bs ls hb hl hc
  generalize checkF bs ls = c at *
  refine triple_of tB_ok Try.func64 rfl Try.call64 rfl ?_
  intro ρ w hH
  conv => whnf
  refine call_step hce rfl rfl ?_
  conv => whnf
  refine ⟨(by repeat' (first | exact trivial | exact rfl | refine And.intro ?_ ?_ | ((conv => whnf); first | exact trivial | exact rfl | refine And.intro ?_ ?_ | omega))), (by repeat' (first | exact trivial | exact rfl | refine And.intro ?_ ?_ | ((conv => whnf); first | exact trivial | exact rfl | refine And.intro ?_ ?_ | omega))), ?_⟩
  conv => whnf
  refine ⟨fun h2 => ?_, fun h2 => absurd (by simpa using (show (c != 0) = false from h2)) hc⟩
  conv => whnf
  repeat' (first | exact trivial | exact rfl | refine And.intro ?_ ?_ | ((conv => whnf); first | exact trivial | exact rfl | refine And.intro ?_ ?_ | omega))

theorem newClash_t (bs : List (Int × Int)) (ls : List Lnk) (hs : SysOK bs ls) (h : ¬ Calm bs ls 0) :
    Triple Try.prog 64 [sysA bs.length ls.length] (sysH bs ls) 2 (.tup [.inl (.v (.pointer none)), .inl (.v (.int .i64 9))]) [] := by
  obtain ⟨v, P, kk, M, hch, hv, hcy⟩ := cyc_of (graphF_ok hs 0) (Nat.le_refl _) h
  have hce := conflictYes_t bs ls v P kk M hs hch hcy
  refine triple_of tB_ok Try.func64 rfl Try.call64 rfl ?_
  intro ρ w hH
  conv => whnf
  refine call_step hce rfl rfl ?_
  conv => whnf
  refine ⟨(by repeat' (first | exact trivial | exact rfl | refine And.intro ?_ ?_ | ((conv => whnf); first | exact trivial | exact rfl | refine And.intro ?_ ?_ | omega))), (by repeat' (first | exact trivial | exact rfl | refine And.intro ?_ ?_ | ((conv => whnf); first | exact trivial | exact rfl | refine And.intro ?_ ?_ | omega))), ?_⟩
  conv => whnf
  refine ⟨fun hc => absurd hc (by simp), fun hc => ?_⟩
  conv => whnf
  repeat' (first | exact trivial | exact rfl | refine And.intro ?_ ?_ | ((conv => whnf); first | exact trivial | exact rfl | refine And.intro ?_ ?_ | omega))

theorem startYes_t (bs : List (Int × Int)) (ls : List Lnk) (h : NetOK bs ls) : Triple Try.prog 33 [sysA bs.length ls.length] (sysH bs ls) 2 (.tup [.inl (.p 2 0 0 0), .inl (.b true)])
      [(2, true, netC 3 4 bs.length ls.length), (3, true, .arr (aSpan bs)), (4, true, .arr (aLink ls))] := by
  refine triple_of tB_ok Try.func33 rfl Try.call33 rfl ?_
  intro ρ w hH
  conv => whnf
  have hf := h.few
  have hs := h.sys
  have hfe : fewF bs ls = true := by simp [fewF]; omega
  refine call_step (few_t bs ls) rfl rfl ?_
  conv => whnf
  refine ⟨(by repeat' (first | exact trivial | exact rfl | refine And.intro ?_ ?_ | ((conv => whnf); first | exact trivial | exact rfl | refine And.intro ?_ ?_ | omega))), (by repeat' (first | exact trivial | exact rfl | refine And.intro ?_ ?_ | ((conv => whnf); first | exact trivial | exact rfl | refine And.intro ?_ ?_ | omega))), ?_⟩
  conv => whnf
  rw [hfe]
  refine ⟨fun hc => absurd hc (by simp), fun hc => ?_⟩
  conv => whnf
  refine call_step (newNone_t bs ls hs h.calm) rfl rfl ?_
  conv => whnf
  refine ⟨(by repeat' (first | exact trivial | exact rfl | refine And.intro ?_ ?_ | ((conv => whnf); first | exact trivial | exact rfl | refine And.intro ?_ ?_ | omega))), (by repeat' (first | exact trivial | exact rfl | refine And.intro ?_ ?_ | ((conv => whnf); first | exact trivial | exact rfl | refine And.intro ?_ ?_ | omega))), ?_⟩
  conv => whnf
  refine ⟨fun hc => ?_, fun hc => absurd hc (by simp)⟩
  conv => whnf
  repeat' (first | exact trivial | exact rfl | refine And.intro ?_ ?_ | ((conv => whnf); first | exact trivial | exact rfl | refine And.intro ?_ ?_ | omega))

theorem startNo_t (bs : List (Int × Int)) (ls : List Lnk) (h : ¬ NetOK bs ls) : Triple Try.prog 33 [sysA bs.length ls.length] (sysH bs ls) 2 (.tup [.inl (.v (.pointer none)), .inl (.b false)]) [] := by
  refine triple_of tB_ok Try.func33 rfl Try.call33 rfl ?_
  intro ρ w hH
  conv => whnf
  refine call_step (few_t bs ls) rfl rfl ?_
  conv => whnf
  refine ⟨(by repeat' (first | exact trivial | exact rfl | refine And.intro ?_ ?_ | ((conv => whnf); first | exact trivial | exact rfl | refine And.intro ?_ ?_ | omega))), (by repeat' (first | exact trivial | exact rfl | refine And.intro ?_ ?_ | ((conv => whnf); first | exact trivial | exact rfl | refine And.intro ?_ ?_ | omega))), ?_⟩
  conv => whnf
  refine ⟨fun hc => ?_, fun hc => ?_⟩
  · conv => whnf
    repeat' (first | exact trivial | exact rfl | refine And.intro ?_ ?_ | ((conv => whnf); first | exact trivial | exact rfl | refine And.intro ?_ ?_ | omega))
  have hfe : fewF bs ls = true := by simpa using (show (!fewF bs ls) = false from hc)
  have hf : bs.length ≤ 14 ∧ ls.length ≤ 40 := by simpa [fewF] using hfe
  by_cases hck : checkF bs ls = 0
  · have hs := checkF_ok.1 hck
    have hcalm : ¬ Calm bs ls 0 := fun hcm => by
      refine h ⟨hf, hs, ?_⟩
      have h00 := few_calm hs hf 0
      rw [graphF_zero] at h00
      rw [h00]
      have hcb : clashB bs ls 0 = false := decide_eq_false (fun hn => hn hcm)
      rw [hcb]; rfl
    have hn := newClash_t bs ls hs hcalm
    conv => whnf
    refine call_step hn rfl rfl ?_
    conv => whnf
    refine ⟨(by repeat' (first | exact trivial | exact rfl | refine And.intro ?_ ?_ | ((conv => whnf); first | exact trivial | exact rfl | refine And.intro ?_ ?_ | omega))), (by repeat' (first | exact trivial | exact rfl | refine And.intro ?_ ?_ | ((conv => whnf); first | exact trivial | exact rfl | refine And.intro ?_ ?_ | omega))), ?_⟩
    conv => whnf
    refine ⟨fun hc => absurd hc (by simp), fun hc => ?_⟩
    conv => whnf
    repeat' (first | exact trivial | exact rfl | refine And.intro ?_ ?_ | ((conv => whnf); first | exact trivial | exact rfl | refine And.intro ?_ ?_ | omega))
  · have hn := newErr_t bs ls (by omega) (by omega) hck
    generalize checkF bs ls = c at *
    conv => whnf
    refine call_step hn rfl rfl ?_
    conv => whnf
    refine ⟨(by repeat' (first | exact trivial | exact rfl | refine And.intro ?_ ?_ | ((conv => whnf); first | exact trivial | exact rfl | refine And.intro ?_ ?_ | omega))), (by repeat' (first | exact trivial | exact rfl | refine And.intro ?_ ?_ | ((conv => whnf); first | exact trivial | exact rfl | refine And.intro ?_ ?_ | omega))), ?_⟩
    conv => whnf
    refine ⟨fun h2 => absurd (by simpa using (show (c == 0) = true from h2)) hck, fun h2 => ?_⟩
    conv => whnf
    repeat' (first | exact trivial | exact rfl | refine And.intro ?_ ?_ | ((conv => whnf); first | exact trivial | exact rfl | refine And.intro ?_ ?_ | omega))

end Go.Proofs

/-
  Plain lemmas, part 17: sums of forms. Conditions: none; definitions and plain lemmas.
-/
namespace Go
namespace Proofs

end Proofs
end Go

namespace Go.Proofs
open Go.Sx

end Go.Proofs

namespace Go
namespace Sx

/-! ### Making room where there is no slice yet: cap(nil), append(nil, make(..)...) -/

def capNilK (B : Tabs) (t : TypeId) (x : SV) (K : Eff → Prop) : Prop :=
  match x, lookT B.T t with
  | .c (.v (.slice none 0 0)), some ⟨.slice _, _, _, _⟩ => K ⟨iv .i64 0, [], [], []⟩
  | _, _ => False

theorem capNil_step {cx : Cx} {B : Tabs} (hB : TabsOK cx.P B) {o : Oper} {e : Env} {H : Heap} {nx : Nat} {K : Eff → Prop} {c : Call} {x : Operand} {t : TypeId} (ho : o.op = .call c) (hc : c.callee = .builtin .cap) (hca : c.args = #[x]) (hct : c.argTypes = #[t])
    (h : capNilK B t (ev e x) K) : ∃ F, CallOK cx o e H nx F ∧ K F := by
  have hx : x ∈ o.op.operands.toList := by simp [ho, Op.operands, Call.operands, hc, hca]
  unfold capNilK at h
  split at h
  · rename_i el s0 b0 z0 hex ht
    refine ⟨_, ⟨?_, fun j hj => by cases hj⟩, h⟩
    intro ρ s a w hs hr _ _ hdst KK Q hKK
    have hx1 := reads_fit hx (fun t ht => by rw [← hr t ht]; exact hs.env t)
    rw [hex] at hx1
    simp only [SV.rel, SC.rel] at hx1
    obtain ⟨ds, hds, hks⟩ := run_und_kd hB.T ht w
    have e1 := kd_slice hks; subst e1
    have hrun : (execOp a.eval o).run cx.P w = .ok (.value (.int .i64 0)) w := by
      rw [run_builtin ho hc]
      simp [builtin, hca, hct, Builtin.cap_, hx1, hds, goInt]
    refine wpIn_of_value (by simp [ho]) hrun (hKK ρ _ w ?_ (fun _ _ => rfl))
    exact hs.putO hdst rfl (below_iv _ _ _)
  · exact h.elim

def growK (B : Tabs) (A : Arr) (t tn : TypeId) (x y : SV) (nx : Nat) (K : Eff → Prop) : Prop :=
  match lookT B.T t, lookT B.T tn, x, y with
  | some ⟨.slice el, _, _, _⟩, some ⟨.int .i64, _, _, _⟩, .c (.v (.slice none 0 0)), .c (.v (.int .i64 n)) => (match lookT B.T el with
    | some ti => bif Nat.beq ti.size A.sz && Nat.ble 1 A.sz then
        ∃ N : Nat, (n = (N : Int) ∧ 0 < N ∧ N * (ti.bytes + 1) ≤ 140737488355328 ∧ A.xs = []) ∧
        K ⟨.c (.s nx 0 N A.sz), [], [(nx, true, .arr A)], [nx]⟩ else False
    | none => False)
  | _, _, _, _ => False

theorem grow_step {cx : Cx} {B : Tabs} (hB : TabsOK cx.P B) {o : Oper} {e : Env} {H : Heap} {nx : Nat} {K : Eff → Prop} {c : Call} {x y : Operand} {t tn : TypeId} (A : Arr) (hA : A.nm = []) (ho : o.op = .call c) (hc : c.callee = .builtin .append) (hca : c.args = #[x, y]) (hct : c.argTypes = #[t, tn])
    (h : growK B A t tn (ev e x) (ev e y) nx K) : ∃ F, CallOK cx o e H nx F ∧ K F := by
  have hx : x ∈ o.op.operands.toList := by simp [ho, Op.operands, Call.operands, hc, hca]
  have hy : y ∈ o.op.operands.toList := by simp [ho, Op.operands, Call.operands, hc, hca]
  unfold growK at h
  split at h
  · rename_i el s0 b0 z0 s1 b1 z1 n ht htn hex hey
    split at h
    · rename_i ti hti
      obtain ⟨hb, N, ⟨rfl, hN, h3, hxs⟩, hK⟩ := bif_and h
      simp only [Bool.and_eq_true] at hb
      have hb1 := Nat.eq_of_beq_eq_true hb.1
      have hb2 := Nat.le_of_ble_eq_true hb.2
      refine ⟨_, ⟨?_, fun j hj => by simp at hj; subst hj; simp⟩, hK⟩
      intro ρ s a w hs hr _ hnew hdst KK Q hKK
      obtain ⟨hfr, hlt, hn0⟩ := hnew nx (by simp)
      have hx1 := reads_fit hx (fun t ht => by rw [← hr t ht]; exact hs.env t)
      have hy1 := reads_fit hy (fun t ht => by rw [← hr t ht]; exact hs.env t)
      rw [hex] at hx1; rw [hey] at hy1
      simp only [SV.rel, SC.rel] at hx1 hy1
      obtain ⟨i, z, hi, hz, hisz, hiby, hzz⟩ := ti_parts hB hti
      have hbd : N * i.bytes ≤ 140737488355328 := by rw [hiby]; exact Nat.le_trans (Nat.mul_le_mul_left _ (Nat.le_succ _)) h3
      have hln : N * 1 ≤ 140737488355328 := Nat.le_trans (Nat.mul_le_mul_left _ (by omega)) h3
      have htn' : cx.P.underlying tn = some (.int .i64) := by
        obtain ⟨i, d, z, hi, hd, hz, hk, _⟩ := tiOf_parts (hB.T.get htn)
        cases d <;> simp [kdOf] at hk
        rw [hd, hk]
      have hrunA := Lib.run_append_nil_zeros (P := cx.P) w t tn o.type el i z .i64 .i64 (und_slice hB ht) htn' hi hz N hN (by omega) (by omega) (by omega)
      have hge := grownCap_ge w N 0 el
      generalize hgc : grownCap w N 0 el = gc at hrunA hge
      have hzsz : z.cells.size = A.sz := by
        have := congrArg List.length hzz
        rw [← hb1]
        have hz2 := hB.zsz el ti hti
        simpa [hz2] using this
      have hrun : (execOp a.eval o).run cx.P w = .ok (.value (.slice (some ⟨w.heap.size, 0, none⟩) N gc)) (w.drew.alloc (.cells (Builtin.zeroCells z.cells N ++ Builtin.zeroCells z.cells (gc - N)) el)) := by
        rw [run_builtin ho hc, hca, hct]
        simp only [List.map_toArray, List.map_cons, List.map_nil, builtin, hx1, hy1, Sem.run_bind, hrunA, Result.andThen_ok, Sem.run_pure]
      refine wpIn_of_value (by simp [ho]) hrun (hKK (upd ρ nx ⟨w.heap.size, 0, gc⟩) _ _ ?_ (fun j hj => upd_ne (by simpa using hj)))
      have hbelow : (SO.arr A).below s.nx := fun (j : Nat) (hj : anyMem [j] A.nm = true) => by rw [hA] at hj; cases hj
      have hsat := hs.newAt (k := nx) (cap := gc) (o := .arr A) (ob := .cells (Builtin.zeroCells z.cells N ++ Builtin.zeroCells z.cells (gc - N)) el (0, 0)) hfr hlt hn0 hbelow ?_
      · refine (hsat.eqHeap (w' := w.drew.alloc _) rfl).putO hdst ?_ (by rw [SV.below_c]; intro j hj; simp [SC.nms] at hj; subst hj; exact hlt)
        simp only [SV.rel, SC.rel, upd_eq, Nat.sub_zero, Nat.zero_mul, Nat.zero_add]
        exact ⟨_, rfl, hge, fun _ => by simp [adr, upd_eq]⟩
      · refine satO_new_arr (by rw [hxs]; exact Nat.zero_le _) ?_ ?_
        · simp only [Array.size_append, size_zeroCells, hzsz]
          rw [← Nat.add_mul]; congr 1; omega
        · intro i' xx hxx
          rw [hxs] at hxx; cases hxx
    · exact h.elim
  · exact h.elim

end Sx
end Go

