/-
  A part of the proof that a law of dryweightlaw03 answers true: lemmas of a symbolic walk, plain functions, or contracts of the functions walked (Zc, Zi, Sx35, Zj, Sx36, Zk, Zl, Pm18, Zm, Zn, Zo, Zp). Conditions: none.
-/
import Derived.Test.YtjjfadfmdodmnaaPart19
import Derived.Test.YtjjfadfmdodmnaaPart18
set_option maxRecDepth 100000
set_option linter.unusedVariables false
set_option linter.unusedSimpArgs false
namespace Go.Proofs
open Go.Sx

/-- What Top and Least are at two forms that make a quotient. -/
theorem top_cases {bs : List (Int × Int)} {ls : List Lnk} (h : NetW bs ls) {num den : List (Int × Int)} (hn : num.length ≤ 1000) (hd : den.length ≤ 1000) (hF : formsF bs num den = 0) :
    ∃ v us0 pt0, Triple Try.prog 29 [.c (.p 0 0 0 0), .c (.s 3 0 den.length 2)] ((3, false, .arr (aSpan den)) :: netH bs ls) 4
      (.tup [.inr [.v (.int .i64 (-v)), .s 4 0 us0.length 5, .s 5 0 pt0.length 1], .inl (.v (.int .i64 0))]) [(4, true, .arr (aUse us0)), (5, true, .arr (aInt pt0))] ∧
      (-1152921504606846976 ≤ v ∧ v ≤ 1152921504606846976) ∧ us0.length ≤ 2000 ∧ pt0.length = bs.length ∧ checkBestF bs ls (negL den) v us0 pt0 = 0 ∧ (allowsF bs ls pt0).2 = true ∧ -1 * valM den pt0 = v ∧
      (∀ pt, (allowsF bs ls pt).2 = true → -1 * valM den pt ≤ v) ∧
      ((0 ≤ v ∧ Triple Try.prog 59 [.c (.p 0 0 0 0), .c (.s 3 0 num.length 2), .c (.s 4 0 den.length 2)] ((3, false, .arr (aSpan num)) :: (4, false, .arr (aSpan den)) :: netH bs ls) 5
        (.tup [.inr [.v (.int .i64 0), .v (.int .i64 0), .v (.slice none 0 0), .v (.slice none 0 0)], .inl (.v (.int .i64 3))]) []) ∨
      (v < 0 ∧ ∃ p q us pt, Triple Try.prog 59 [.c (.p 0 0 0 0), .c (.s 3 0 num.length 2), .c (.s 4 0 den.length 2)] ((3, false, .arr (aSpan num)) :: (4, false, .arr (aSpan den)) :: netH bs ls) 5
        (.tup [.inr [.v (.int .i64 p), .v (.int .i64 q), .s 5 0 us.length 5, .s 6 0 pt.length 1], .inl (.v (.int .i64 0))]) [(5, true, .arr (aUse us)), (6, true, .arr (aInt pt))] ∧
        TopOK bs ls num den p q us pt ∧ pt.length = bs.length ∧ checkTopF bs ls num den p q us pt = 0)) := by
  obtain ⟨fn, fd, pn, pd⟩ := formsF_ok hF
  obtain ⟨f1, _, _⟩ := formF_ok fd
  obtain ⟨l2, b2, flow, pt0, v, hB2, hO2, hv2, hsh2, hal2, hval2, hul2, hm2⟩ := form_net h fd (p := -1) (.inr rfl)
  refine ⟨v, usesF (allF bs ls) flow, pt0, Least_t bs ls den 68719476737 v (usesF (allF bs ls) flow) pt0 _ h.sys (by omega) fd (formB_of fd (by omega)) rfl l2 (fun x hx => by have := b2 x hx; omega) hB2 (by omega), hv2, hul2, hO2.pl,
    checkBest_zero h.sys (formF_neg fd) hal2 (by rw [valM_neg]; omega) (by rw [coefF_neg]; exact hsh2), hal2, hval2, hm2, ?_⟩
  by_cases hv : 0 ≤ v
  · exact .inl ⟨hv, topRange_t bs ls num den h hn hd hF v flow pt0 l2 b2 hB2 hv⟩
  · have hpos : ∀ pt, (allowsF bs ls pt).2 = true → 1 ≤ valM den pt := fun pt hpt => by have := hm2 pt hpt; omega
    obtain ⟨p, q, us, pt, hT, hok⟩ := top_ok h hF hpos _ pt0 hal2 (Nat.lt_succ_self _)
    exact .inr ⟨by omega, p, q, us, pt, topYes_t bs ls num den h hn hd hF v flow pt0 l2 b2 hB2 (by omega) hal2 hpos _ p q us pt hT hok, hok, ((allows_iff h.sys).1 hok.al).1, checkTop_zero h.sys hF hok (hpos pt hok.al)⟩

end Go.Proofs

namespace Go.Proofs
open Go.Sx

/-- A difference at an allowed point lies within the least and the greatest one. -/
theorem sharp_diff {bs : List (Int × Int)} {ls : List Lnk} {pt : List Int} (h : NetW bs ls) (ha : (allowsF bs ls pt).2 = true) {a b : Int} (h1 : -1 ≤ a ∧ a < bs.length) (h2 : -1 ≤ b ∧ b < bs.length) :
    -mostF bs.length (graphF bs ls 0) b a ≤ atF pt b - atF pt a ∧ atF pt b - atF pt a ≤ mostF bs.length (graphF bs ls 0) a b := by
  obtain ⟨hl, hp⟩ := (allows_iff h.sys).1 ha
  rw [← graphF_zero] at hp
  have m1 : pt.getD (plc bs.length b) 0 ≤ pt.getD (plc bs.length a) 0 + _ := most_ge h hp h1.2 h2.2
  have m2 : pt.getD (plc bs.length a) 0 ≤ pt.getD (plc bs.length b) 0 + _ := most_ge h hp h2.2 h1.2
  rw [plc_at hl h1, plc_at hl h2] at m1 m2
  omega

end Go.Proofs

namespace Go
namespace Sx

end Sx
end Go

namespace Go.Proofs
open Go.Sx

theorem calm_of {bs : List (Int × Int)} {ls : List Lnk} (hs : SysOK bs ls) {q : Nat → Int} (hq : PotL bs.length q (graphF bs ls 0)) : Calm bs ls 0 :=
  (rounds_pot (rev := noR) (k := bs.length + 2) (graphF_ok hs 0) (potL_iff.1 hq) (Nat.le_refl _) (by omega)).1

end Go.Proofs

namespace Go
namespace Sx

end Sx
end Go

namespace Go.Proofs
open Go.Sx

/-! ### Two nets with the same links -/

end Go.Proofs

namespace Go.Proofs
open Go.Sx

end Go.Proofs

namespace Go
namespace Proofs

/-! ### All points of small boxes, one after another -/

def InBox : List (Int × Int) → List Int → Prop
  | [], [] => True
  | b :: bs, x :: p => (b.1 ≤ x ∧ x ≤ b.2) ∧ InBox bs p
  | _, _ => False

def nextF : List (Int × Int) → List Int → List Int × Bool
  | b :: bs, x :: p => if x < b.2 then ((x + 1) :: p, true) else (b.1 :: (nextF bs p).1, (nextF bs p).2)
  | _, p => (p, false)

def rankF : List (Int × Int) → List Int → Int
  | b :: bs, x :: p => (x - b.1) + (b.2 - b.1 + 1) * rankF bs p
  | _, _ => 0

def manyF : List (Int × Int) → Int
  | [] => 1
  | b :: bs => (b.2 - b.1 + 1) * manyF bs

theorem InBox.len : ∀ {bs : List (Int × Int)} {p : List Int}, InBox bs p → p.length = bs.length
  | [], [], _ => rfl
  | _ :: bs, _ :: p, h => by simp [InBox.len h.2]
  | [], _ :: _, h => h.elim
  | _ :: _, [], h => h.elim

theorem inBox_lo : ∀ {bs : List (Int × Int)}, (∀ b ∈ bs, b.1 ≤ b.2) → InBox bs (bs.map (·.1))
  | [], _ => trivial
  | b :: bs, h => ⟨⟨Int.le_refl _, h b (List.mem_cons_self ..)⟩, inBox_lo fun c hc => h c (List.mem_cons_of_mem _ hc)⟩

theorem rank_lo : ∀ {bs : List (Int × Int)}, rankF bs (bs.map (·.1)) = 0
  | [] => rfl
  | b :: bs => by simp only [List.map_cons, rankF, rank_lo (bs := bs)]; omega

theorem rank_nonneg : ∀ {bs : List (Int × Int)} {p : List Int}, InBox bs p → 0 ≤ rankF bs p ∧ rankF bs p < manyF bs
  | [], [], _ => ⟨Int.le_refl _, by decide⟩
  | b :: bs, x :: p, h => by
    obtain ⟨h1, h2⟩ := rank_nonneg h.2
    obtain ⟨hx1, hx2⟩ := h.1
    simp only [rankF, manyF]
    have hs : 1 ≤ b.2 - b.1 + 1 := by omega
    have e1 : 0 ≤ (b.2 - b.1 + 1) * rankF bs p := Int.mul_nonneg (by omega) h1
    have e2 : (b.2 - b.1 + 1) * (rankF bs p + 1) ≤ (b.2 - b.1 + 1) * manyF bs := Int.mul_le_mul_of_nonneg_left (by omega) (by omega)
    rw [Int.mul_add, Int.mul_one] at e2
    omega
  | [], _ :: _, h => h.elim
  | _ :: _, [], h => h.elim

theorem rank_inj : ∀ {bs : List (Int × Int)} {p q : List Int}, InBox bs p → InBox bs q → rankF bs p = rankF bs q → p = q
  | [], [], [], _, _, _ => rfl
  | b :: bs, x :: p, y :: q, hp, hq, h => by
    simp only [rankF] at h
    obtain ⟨hx1, hx2⟩ := hp.1
    obtain ⟨hy1, hy2⟩ := hq.1
    have hr : rankF bs p = rankF bs q := by
      have key : ∀ {s t : List Int} {u v : Int}, InBox bs s → InBox bs t → (b.1 ≤ u ∧ u ≤ b.2) → (b.1 ≤ v ∧ v ≤ b.2) → (u - b.1) + (b.2 - b.1 + 1) * rankF bs s = (v - b.1) + (b.2 - b.1 + 1) * rankF bs t → ¬ rankF bs s < rankF bs t := by
        intro s t u v hs ht hu hv he hlt
        have := Int.mul_le_mul_of_nonneg_left (show rankF bs s + 1 ≤ rankF bs t by omega) (show 0 ≤ b.2 - b.1 + 1 by omega)
        rw [Int.mul_add, Int.mul_one] at this
        omega
      have k1 := key hp.2 hq.2 hp.1 hq.1 h
      have k2 := key hq.2 hp.2 hq.1 hp.1 h.symm
      omega
    rw [hr] at h
    rw [rank_inj hp.2 hq.2 hr, show x = y by omega]
  | [], _ :: _, _, h, _, _ => h.elim
  | _ :: _, [], _, h, _, _ => h.elim
  | [], [], _ :: _, _, h, _ => h.elim
  | _ :: _, _ :: _, [], _, h, _ => h.elim

theorem nextF_true : ∀ {bs : List (Int × Int)} {p : List Int}, InBox bs p → (nextF bs p).2 = true → InBox bs (nextF bs p).1 ∧ rankF bs (nextF bs p).1 = rankF bs p + 1
  | [], [], _, h => by cases h
  | b :: bs, x :: p, hb, h => by
    simp only [nextF] at h ⊢
    by_cases hx : x < b.2
    · rw [if_pos hx]
      refine ⟨⟨⟨by have := hb.1; omega, by omega⟩, hb.2⟩, ?_⟩
      simp only [rankF]; omega
    · rw [if_neg hx] at h ⊢
      obtain ⟨h1, h2⟩ := nextF_true hb.2 h
      have := hb.1
      refine ⟨⟨⟨by omega, by omega⟩, h1⟩, ?_⟩
      simp only [rankF, h2]
      rw [Int.mul_add, Int.mul_one]
      omega
  | [], _ :: _, h, _ => h.elim
  | _ :: _, [], h, _ => h.elim

theorem nextF_false : ∀ {bs : List (Int × Int)} {p q : List Int}, InBox bs p → InBox bs q → (nextF bs p).2 = false → rankF bs q ≤ rankF bs p
  | [], [], [], _, _, _ => Int.le_refl _
  | b :: bs, x :: p, y :: q, hp, hq, h => by
    simp only [nextF] at h
    by_cases hx : x < b.2
    · rw [if_pos hx] at h; cases h
    · rw [if_neg hx] at h
      have h1 := nextF_false hp.2 hq.2 h
      have h2 := hp.1
      have h3 := hq.1
      simp only [rankF]
      have := Int.mul_le_mul_of_nonneg_left h1 (show 0 ≤ b.2 - b.1 + 1 by omega)
      omega
  | [], _ :: _, _, h, _, _ => h.elim
  | _ :: _, [], _, h, _, _ => h.elim
  | [], [], _ :: _, _, h, _ => h.elim
  | _ :: _, _ :: _, [], _, h, _ => h.elim

/-! ### What is seen -/

structure SeenS where
  some : Bool
  lo : Int
  hi : Int
  most : Int
  least : Int
  num : Int
  den : Int
  low : Bool

def seen0 : SeenS := ⟨false, 0, 0, 0, 0, 0, 0, false⟩

def seenStart (S : SeenS) (d v w : Int) : SeenS := if S.some then S else ⟨true, d, d, v, v, v, w, false⟩

def seenStep (S0 : SeenS) (d v w : Int) : SeenS :=
  let S := seenStart S0 d v w
  let up := decide (0 < w) && decide (0 < S.den) && decide (S.num * w < v * S.den)
  ⟨S.some, min S.lo d, max S.hi d, max S.most v, min S.least v, if up then v else S.num, if up then w else S.den, S.low || decide (w ≤ 0)⟩

/-- What has been seen of the points `A`. -/
structure Seen (A : List Int → Prop) (d v w : List Int → Int) (S : SeenS) : Prop where
  zero : S.some = false → S = seen0 ∧ ∀ q, ¬ A q
  rng : S.some = true → ∀ q, A q → (S.lo ≤ d q ∧ d q ≤ S.hi) ∧ (S.least ≤ v q ∧ v q ≤ S.most)
  lo_ : S.some = true → ∃ q, A q ∧ d q = S.lo
  hi_ : S.some = true → ∃ q, A q ∧ d q = S.hi
  mo_ : S.some = true → ∃ q, A q ∧ v q = S.most
  le_ : S.some = true → ∃ q, A q ∧ v q = S.least
  quo : S.some = true → ∃ q, A q ∧ v q = S.num ∧ w q = S.den
  low : S.low = true → ∃ q, A q ∧ w q ≤ 0
  pos : S.some = true → S.low = false → ∀ q, A q → 1 ≤ w q ∧ v q * S.den ≤ S.num * w q

theorem seen_start (d v w : List Int → Int) : Seen (fun _ => False) d v w seen0 where
  zero _ := ⟨rfl, fun _ h => h⟩
  rng h := by cases h
  lo_ h := by cases h
  hi_ h := by cases h
  mo_ h := by cases h
  le_ h := by cases h
  quo h := by cases h
  low h := by cases h
  pos h := by cases h

theorem Seen.congr {A A' : List Int → Prop} {d v w : List Int → Int} {S : SeenS} (h : Seen A d v w S) (he : ∀ q, A q ↔ A' q) : Seen A' d v w S := by
  have : A = A' := funext fun q => propext (he q)
  rw [← this]; exact h

theorem quo_trans {v1 w1 n d v w : Int} (h1 : v1 * d ≤ n * w1) (h2 : n * w ≤ v * d) (hd : 0 < d) (hw : 0 ≤ w) (hw1 : 0 ≤ w1) : v1 * w ≤ v * w1 := by
  have a : v1 * d * w ≤ n * w1 * w := Int.mul_le_mul_of_nonneg_right h1 hw
  have b : n * w * w1 ≤ v * d * w1 := Int.mul_le_mul_of_nonneg_right h2 hw1
  have e1 : v1 * d * w = (v1 * w) * d := by rw [Int.mul_assoc, Int.mul_comm d w, ← Int.mul_assoc]
  have e2 : n * w1 * w = n * w * w1 := by rw [Int.mul_assoc, Int.mul_comm w1 w, ← Int.mul_assoc]
  have e3 : v * d * w1 = (v * w1) * d := by rw [Int.mul_assoc, Int.mul_comm d w1, ← Int.mul_assoc]
  have : (v1 * w) * d ≤ (v * w1) * d := by omega
  exact Int.le_of_mul_le_mul_right this hd

theorem Seen.add {A : List Int → Prop} {d v w : List Int → Int} {S : SeenS} (h : Seen A d v w S) (p : List Int) : Seen (fun q => A q ∨ q = p) d v w (seenStep S (d p) (v p) (w p)) := by
  have hs : (seenStep S (d p) (v p) (w p)).some = true := by
    simp only [seenStep, seenStart]
    cases h1 : S.some <;> simp [h1]
  -- the state behind the start
  obtain ⟨T, hT⟩ : ∃ T, T = seenStart S (d p) (v p) (w p) := ⟨_, rfl⟩
  have hTs : T.some = true := by rw [hT, seenStart]; cases h1 : S.some <;> simp [h1]
  have wit : ∀ {f : List Int → Int} {z : Int}, (S.some = true → ∃ q, A q ∧ f q = z) → (S.some = false → z = f p) → ∃ q, (A q ∨ q = p) ∧ f q = z := fun {f z} h1 h2 => by
    cases hb : S.some with
    | true => obtain ⟨q, hq, he⟩ := h1 hb; exact ⟨q, .inl hq, he⟩
    | false => exact ⟨p, .inr rfl, (h2 hb).symm⟩
  have cases2 : (S.some = true ∧ T = S) ∨ (S.some = false ∧ T = ⟨true, d p, d p, v p, v p, v p, w p, false⟩ ∧ (∀ q, ¬ A q)) := by
    cases hb : S.some with
    | true => exact .inl ⟨rfl, by rw [hT, seenStart, if_pos hb]⟩
    | false => exact .inr ⟨rfl, by rw [hT, seenStart, hb]; rfl, (h.zero hb).2⟩
  have rngT : ∀ q, A q → (T.lo ≤ d q ∧ d q ≤ T.hi) ∧ (T.least ≤ v q ∧ v q ≤ T.most) := fun q hq => by
    rcases cases2 with ⟨hb, e⟩ | ⟨_, _, hn⟩
    · rw [e]; exact h.rng hb q hq
    · exact absurd hq (hn q)
  have witT : ∀ (g : SeenS → Int) (f : List Int → Int), (S.some = true → ∃ q, A q ∧ f q = g S) → g ⟨true, d p, d p, v p, v p, v p, w p, false⟩ = f p → ∃ q, (A q ∨ q = p) ∧ f q = g T := fun g f h1 h2 => by
    rcases cases2 with ⟨hb, e⟩ | ⟨hb, e, _⟩
    · obtain ⟨q, hq, he⟩ := h1 hb
      exact ⟨q, .inl hq, by rw [e]; exact he⟩
    · exact ⟨p, .inr rfl, by rw [e]; exact h2.symm⟩
  have quoT : ∃ q, (A q ∨ q = p) ∧ v q = T.num ∧ w q = T.den := by
    rcases cases2 with ⟨hb, e⟩ | ⟨hb, e, _⟩
    · obtain ⟨q, hq, he⟩ := h.quo hb
      exact ⟨q, .inl hq, by rw [e]; exact he⟩
    · exact ⟨p, .inr rfl, by rw [e]; exact ⟨rfl, rfl⟩⟩
  have lowT : T.low = true → ∃ q, A q ∧ w q ≤ 0 := fun hl => by
    rcases cases2 with ⟨hb, e⟩ | ⟨hb, e, _⟩
    · rw [e] at hl; exact h.low hl
    · rw [e] at hl; cases hl
  have posT : T.low = false → ∀ q, A q → 1 ≤ w q ∧ v q * T.den ≤ T.num * w q := fun hl q hq => by
    rcases cases2 with ⟨hb, e⟩ | ⟨_, _, hn⟩
    · rw [e] at hl ⊢; exact h.pos hb hl q hq
    · exact absurd hq (hn q)
  obtain ⟨up, hup⟩ : ∃ up, up = (decide (0 < w p) && decide (0 < T.den) && decide (T.num * w p < v p * T.den)) := ⟨_, rfl⟩
  have hR : seenStep S (d p) (v p) (w p) = ⟨T.some, min T.lo (d p), max T.hi (d p), max T.most (v p), min T.least (v p), if up then v p else T.num, if up then w p else T.den, T.low || decide (w p ≤ 0)⟩ := by
    rw [hup, hT]; rfl
  have l1 := witT (·.lo) d h.lo_ rfl
  have l2 := witT (·.hi) d h.hi_ rfl
  have l3 := witT (·.most) v h.mo_ rfl
  have l4 := witT (·.least) v h.le_ rfl
  have denT : T.low = false → 0 < T.den ∨ T.den = w p := fun hl => by
    rcases cases2 with ⟨hb, e⟩ | ⟨hb, e, _⟩
    · obtain ⟨q, hq, _, he⟩ := h.quo hb
      rw [e] at hl ⊢
      have := (h.pos hb hl q hq).1
      exact .inl (by omega)
    · rw [e]; exact .inr rfl
  rw [hR]
  refine ⟨fun hf => ?_, fun _ q hq => ?_, fun _ => ?_, fun _ => ?_, fun _ => ?_, fun _ => ?_, fun _ => ?_, fun hl => ?_, fun _ hl q hq => ?_⟩
  · have : T.some = false := hf
    rw [hTs] at this; cases this
  · show (min T.lo (d p) ≤ d q ∧ d q ≤ max T.hi (d p)) ∧ (min T.least (v p) ≤ v q ∧ v q ≤ max T.most (v p))
    rcases hq with hq | rfl
    · have := rngT q hq; omega
    · omega
  · show ∃ q, (A q ∨ q = p) ∧ d q = min T.lo (d p)
    obtain ⟨q, hq, he⟩ := l1
    rcases Int.le_total T.lo (d p) with h1 | h1
    · exact ⟨q, hq, by rw [he, Int.min_eq_left h1]⟩
    · exact ⟨p, .inr rfl, (Int.min_eq_right h1).symm⟩
  · show ∃ q, (A q ∨ q = p) ∧ d q = max T.hi (d p)
    obtain ⟨q, hq, he⟩ := l2
    rcases Int.le_total T.hi (d p) with h1 | h1
    · exact ⟨p, .inr rfl, (Int.max_eq_right h1).symm⟩
    · exact ⟨q, hq, by rw [he, Int.max_eq_left h1]⟩
  · show ∃ q, (A q ∨ q = p) ∧ v q = max T.most (v p)
    obtain ⟨q, hq, he⟩ := l3
    rcases Int.le_total T.most (v p) with h1 | h1
    · exact ⟨p, .inr rfl, (Int.max_eq_right h1).symm⟩
    · exact ⟨q, hq, by rw [he, Int.max_eq_left h1]⟩
  · show ∃ q, (A q ∨ q = p) ∧ v q = min T.least (v p)
    obtain ⟨q, hq, he⟩ := l4
    rcases Int.le_total T.least (v p) with h1 | h1
    · exact ⟨q, hq, by rw [he, Int.min_eq_left h1]⟩
    · exact ⟨p, .inr rfl, (Int.min_eq_right h1).symm⟩
  · show ∃ q, (A q ∨ q = p) ∧ v q = (if up then v p else T.num) ∧ w q = (if up then w p else T.den)
    cases up with
    | true => exact ⟨p, .inr rfl, rfl, rfl⟩
    | false => exact quoT
  · have hl : (T.low || decide (w p ≤ 0)) = true := hl
    rw [Bool.or_eq_true] at hl
    rcases hl with hl | hl
    · obtain ⟨q, hq, he⟩ := lowT hl; exact ⟨q, .inl hq, he⟩
    · exact ⟨p, .inr rfl, of_decide_eq_true hl⟩
  · have hl : (T.low || decide (w p ≤ 0)) = false := hl
    rw [Bool.or_eq_false_iff] at hl
    obtain ⟨hl1, hl2⟩ := hl
    have hwp : 0 < w p := by have := of_decide_eq_false hl2; omega
    have hden : 0 < T.den := by rcases denT hl1 with h1 | h1 <;> omega
    show 1 ≤ w q ∧ v q * (if up then w p else T.den) ≤ (if up then v p else T.num) * w q
    cases hu : up with
    | true =>
      rw [hup] at hu
      simp only [Bool.and_eq_true, decide_eq_true_eq] at hu
      rw [if_pos rfl, if_pos rfl]
      rcases hq with hq | rfl
      · obtain ⟨k1, k2⟩ := posT hl1 q hq
        exact ⟨k1, quo_trans k2 (by omega) hden (by omega) (by omega)⟩
      · exact ⟨by omega, Int.le_refl _⟩
    | false =>
      rw [if_neg (by simp), if_neg (by simp)]
      rcases hq with hq | rfl
      · exact posT hl1 q hq
      · rw [hup] at hu
        refine ⟨by omega, ?_⟩
        have h1 : decide (0 < w q) = true := decide_eq_true hwp
        have h2 : decide (0 < T.den) = true := decide_eq_true hden
        rw [h1, h2] at hu
        have := of_decide_eq_false (by simpa using hu : decide (T.num * w q < v q * T.den) = false)
        omega

end Proofs
end Go

namespace Go.Proofs
open Go.Sx

def tinyB (b : Int × Int) : Bool := decide (b.1 ≤ b.2) && decide (-16777216 ≤ b.1) && decide (b.2 ≤ IntKind.i64.wrap (b.1 + 6))
def tinyF (bs : List (Int × Int)) : Bool := decide (1 ≤ bs.length) && decide (bs.length ≤ 3) && bs.all tinyB

theorem tinyF_iff {bs : List (Int × Int)} : tinyF bs = true ↔ (1 ≤ bs.length ∧ bs.length ≤ 3) ∧ ∀ b ∈ bs, tinyB b = true := by simp [tinyF]

theorem tiny_t (bs : List (Int × Int)) (ls : List Lnk) : Triple Try.prog 62 [sysA bs.length ls.length] (sysH bs ls) 2 (bv (tinyF bs)) [] := by
  have hR := @tinyF_iff bs
  generalize tinyF bs = R at *
  refine triple_of tB_ok Try.func62 rfl Try.call62 rfl ?_
  intro ρ w hH
  conv => whnf
  refine ⟨fun hc => ?_, fun hc => ?_⟩
  · have hc : (bs.length : Int) < 1 := of_decide_eq_true (show decide ((bs.length : Int) < 1) = true from hc)
    have e : R = false := by rw [← Bool.not_eq_true, hR]; omega
    rw [e]
    conv => whnf
    repeat' (first | exact trivial | exact rfl | refine And.intro ?_ ?_ | ((conv => whnf); first | exact trivial | exact rfl | refine And.intro ?_ ?_ | omega))
  have h1 : ¬ (bs.length : Int) < 1 := of_decide_eq_false (show decide ((bs.length : Int) < 1) = false from hc)
  conv => whnf
  refine ⟨fun hc => ?_, fun hc => ?_⟩
  · have hc : (3 : Int) < bs.length := of_decide_eq_true (show decide ((3 : Int) < bs.length) = true from hc)
    have e : R = false := by rw [← Bool.not_eq_true, hR]; omega
    rw [e]
    conv => whnf
    repeat' (first | exact trivial | exact rfl | refine And.intro ?_ ?_ | ((conv => whnf); first | exact trivial | exact rfl | refine And.intro ?_ ?_ | omega))
  have h3 : ¬ (3 : Int) < bs.length := of_decide_eq_false (show decide ((3 : Int) < bs.length) = false from hc)
  conv => whnf
  refine loop_step tB_ok (G := Nat) 0 [] (fun i => [(3, iv .i64 i)]) (fun _ => []) (fun i => i ≤ bs.length ∧ ∀ b ∈ bs.take i, tinyB b = true) (fun i => bs.length - i) ?_
  conv => whnf
  refine ⟨⟨0, ⟨Nat.zero_le _, by simp⟩, ?_⟩, ?_⟩
  · conv => whnf
    repeat' (first | exact trivial | exact rfl | refine And.intro ?_ ?_ | ((conv => whnf); first | exact trivial | exact rfl | refine And.intro ?_ ?_ | omega))
  intro i hi ρ1 t1 hρ1
  obtain ⟨hi, hn⟩ := hi
  conv => whnf
  refine ⟨fun hc => ?_, fun hc => ?_⟩
  · have hlt : i < bs.length := by simpa using hc
    have hbad : tinyB bs[i] = false → R = false := fun hh => by
      rw [← Bool.not_eq_true, hR]
      intro h2
      rw [h2.2 _ (List.getElem_mem hlt)] at hh; cases hh
    have hT : tinyB bs[i] = (decide (bs[i].1 ≤ bs[i].2) && decide (-16777216 ≤ bs[i].1) && decide (bs[i].2 ≤ IntKind.i64.wrap (bs[i].1 + 6))) := rfl
    conv => whnf
    refine ⟨i, rfl, hlt, hlt, ?_⟩
    conv => whnf
    refine ⟨i, rfl, hlt, hlt, ?_⟩
    conv => whnf
    refine ⟨fun hc => ?_, fun hc => ?_⟩
    · have hc : bs[i].2 < bs[i].1 := of_decide_eq_true (show decide (bs[i].2 < bs[i].1) = true from hc)
      rw [hbad (by rw [hT, decide_eq_false (show ¬ bs[i].1 ≤ bs[i].2 by omega)]; rfl)]
      conv => whnf
      repeat' (first | exact trivial | exact rfl | refine And.intro ?_ ?_ | ((conv => whnf); first | exact trivial | exact rfl | refine And.intro ?_ ?_ | omega))
    have c1 : ¬ bs[i].2 < bs[i].1 := of_decide_eq_false (show decide (bs[i].2 < bs[i].1) = false from hc)
    conv => whnf
    refine ⟨i, rfl, hlt, hlt, ?_⟩
    conv => whnf
    refine ⟨fun hc => ?_, fun hc => ?_⟩
    · have hc : bs[i].1 < -16777216 := of_decide_eq_true (show decide (bs[i].1 < -16777216) = true from hc)
      rw [hbad (by rw [hT, decide_eq_false (show ¬ -16777216 ≤ bs[i].1 by omega), Bool.and_false]; rfl)]
      conv => whnf
      repeat' (first | exact trivial | exact rfl | refine And.intro ?_ ?_ | ((conv => whnf); first | exact trivial | exact rfl | refine And.intro ?_ ?_ | omega))
    have c2 : ¬ bs[i].1 < -16777216 := of_decide_eq_false (show decide (bs[i].1 < -16777216) = false from hc)
    conv => whnf
    refine ⟨i, rfl, hlt, hlt, ?_⟩
    conv => whnf
    refine ⟨i, rfl, hlt, hlt, ?_⟩
    conv => whnf
    obtain ⟨u, hu⟩ : ∃ u, u = IntKind.i64.wrap (bs[i].1 + 6) := ⟨_, rfl⟩
    rw [← hu] at hT
    refine ⟨u, hu.symm, ?_⟩
    conv => whnf
    refine ⟨fun hc => ?_, fun hc => ?_⟩
    · have hc : u < bs[i].2 := of_decide_eq_true (show decide (u < bs[i].2) = true from hc)
      rw [hbad (by rw [hT, decide_eq_false (show ¬ bs[i].2 ≤ u by omega), Bool.and_false])]
      conv => whnf
      repeat' (first | exact trivial | exact rfl | refine And.intro ?_ ?_ | ((conv => whnf); first | exact trivial | exact rfl | refine And.intro ?_ ?_ | omega))
    have c3 : ¬ u < bs[i].2 := of_decide_eq_false (show decide (u < bs[i].2) = false from hc)
    conv => whnf
    refine ⟨(i : Int) + 1, wrapId (z := (i : Int) + 1) ⟨by omega, by omega⟩, ?_⟩
    refine ⟨i + 1, ⟨hlt, fun b hb => ?_⟩, by show bs.length - (i + 1) < bs.length - i; omega, ?_⟩
    · rw [take_snoc hlt] at hb
      rcases List.mem_append.1 hb with hb | hb
      · exact hn b hb
      · simp at hb
        rw [hb, hT, decide_eq_true (show bs[i].1 ≤ bs[i].2 by omega), decide_eq_true (show -16777216 ≤ bs[i].1 by omega), decide_eq_true (show bs[i].2 ≤ u by omega)]
        rfl
    conv => whnf
    refine ⟨rfl, ?_⟩
    conv => whnf
    repeat' (first | exact trivial | exact rfl | refine And.intro ?_ ?_ | ((conv => whnf); first | exact trivial | exact rfl | refine And.intro ?_ ?_ | omega))
  have hie : i = bs.length := by simp at hc; omega
  rw [hie, List.take_length] at hn
  have e : R = true := hR.2 ⟨by omega, hn⟩
  rw [e]
  conv => whnf
  repeat' (first | exact trivial | exact rfl | refine And.intro ?_ ?_ | ((conv => whnf); first | exact trivial | exact rfl | refine And.intro ?_ ?_ | omega))

theorem nextF_cons {bs : List (Int × Int)} {q : List Int} {i : Nat} (h : i < bs.length) (hl : i < q.length) :
    nextF (bs.drop i) (q.drop i) = if q[i] < bs[i].2 then ((q[i] + 1) :: q.drop (i + 1), true) else (bs[i].1 :: (nextF (bs.drop (i + 1)) (q.drop (i + 1))).1, (nextF (bs.drop (i + 1)) (q.drop (i + 1))).2) := by
  rw [List.drop_eq_getElem_cons h, List.drop_eq_getElem_cons hl]; rfl

theorem next_t (bs : List (Int × Int)) (ls : List Lnk) (p : List Int) (hl : p.length = bs.length) (hb : bs.length ≤ 1000000) (hpb : ∀ x ∈ p, -33554432 ≤ x ∧ x ≤ 33554432) (hbb : BoxB bs) :
    Triple Try.prog 121 [sysA bs.length ls.length, .c (.s 2 0 bs.length 1)] ((2, true, .arr (aInt p)) :: sysH bs ls) 3 (bv (nextF bs p).2) [(2, true, .arr (aInt (nextF bs p).1))] := by
  obtain ⟨R, hR⟩ : ∃ R, R = nextF bs p := ⟨_, rfl⟩
  rw [← hR]
  refine triple_of tB_ok Try.func121 rfl Try.call121 rfl ?_
  intro ρ w hH
  conv => whnf
  refine loop_step tB_ok (G := Nat × List Int) 0 [] (fun g => [(5, iv .i64 g.1)]) (fun g => [(2, true, .arr (aInt g.2))]) (fun g => g.1 ≤ bs.length ∧ g.2.length = bs.length ∧ (∀ x ∈ g.2, -33554432 ≤ x ∧ x ≤ 33554432) ∧ R = (g.2.take g.1 ++ (nextF (bs.drop g.1) (g.2.drop g.1)).1, (nextF (bs.drop g.1) (g.2.drop g.1)).2)) (fun g => bs.length - g.1) ?_
  conv => whnf
  refine ⟨⟨(0, p), ⟨Nat.zero_le _, hl, hpb, by rw [hR]; rfl⟩, ?_⟩, ?_⟩
  · conv => whnf
    repeat' (first | exact trivial | exact rfl | refine And.intro ?_ ?_ | ((conv => whnf); first | exact trivial | exact rfl | refine And.intro ?_ ?_ | omega))
  rintro ⟨i, q⟩ ⟨hi, hql, hqb, hq⟩ ρ1 t1 hρ1
  have hi : i ≤ bs.length := hi
  have hql : q.length = bs.length := hql
  have hqb : ∀ x ∈ q, -33554432 ≤ x ∧ x ≤ 33554432 := hqb
  have hq : R = (q.take i ++ (nextF (bs.drop i) (q.drop i)).1, (nextF (bs.drop i) (q.drop i)).2) := hq
  dsimp only
  conv => whnf
  refine ⟨fun hc => ?_, fun hc => ?_⟩
  · have hlt : i < bs.length := by simpa using hc
    have hlq : i < q.length := by omega
    have hqi := hqb _ (List.getElem_mem hlq)
    have hbi := hbb _ (List.getElem_mem hlt)
    rw [nextF_cons hlt hlq] at hq
    conv => whnf
    refine ⟨i, rfl, hlt, hlq, ?_⟩
    conv => whnf
    refine ⟨i, rfl, hlt, hlt, ?_⟩
    conv => whnf
    refine ⟨fun hc => ?_, fun hc => ?_⟩
    · have hc : q[i] < bs[i].2 := of_decide_eq_true (show decide (q[i] < bs[i].2) = true from hc)
      rw [if_pos hc] at hq
      have e : q.set i (q[i] + 1) = q.take i ++ (q[i] + 1) :: q.drop (i + 1) := List.set_eq_take_append_cons_drop.trans (by rw [if_pos hlq])
      rw [← e] at hq
      conv => whnf
      refine ⟨i, rfl, hlt, hlq, ?_⟩
      conv => whnf
      refine ⟨q[i] + 1, (show IntKind.i64.wrap (q[i] + 1) = q[i] + 1 from wrapId ⟨by omega, by omega⟩), ?_⟩
      conv => whnf
      refine ⟨i, rfl, hlt, hlq, q[i] + 1, rfl, ?_⟩
      conv => whnf
      rw [hq]
      repeat' (first | exact trivial | exact rfl | refine And.intro ?_ ?_ | ((conv => whnf); first | exact trivial | exact rfl | refine And.intro ?_ ?_ | omega))
    · have hc : ¬ q[i] < bs[i].2 := of_decide_eq_false (show decide (q[i] < bs[i].2) = false from hc)
      rw [if_neg hc] at hq
      have e : q.set i bs[i].1 = q.take i ++ bs[i].1 :: q.drop (i + 1) := List.set_eq_take_append_cons_drop.trans (by rw [if_pos hlq])
      have hti : (q.take i).length = i := by simp; omega
      have e1 : (q.set i bs[i].1).take (i + 1) = q.take i ++ [bs[i].1] := by
        rw [e, List.take_append, hti, List.take_of_length_le (by omega)]
        simp
      have e2 : (q.set i bs[i].1).drop (i + 1) = q.drop (i + 1) := by
        rw [e, List.drop_append, hti, List.drop_of_length_le (by omega)]
        simp
      conv => whnf
      refine ⟨i, rfl, hlt, hlt, ?_⟩
      conv => whnf
      refine ⟨i, rfl, hlt, hlq, bs[i].1, rfl, ?_⟩
      conv => whnf
      refine ⟨(i : Int) + 1, wrapId (z := (i : Int) + 1) ⟨by omega, by omega⟩, ?_⟩
      refine ⟨(i + 1, q.set i bs[i].1), ⟨hlt, by rw [List.length_set]; exact hql, fun x hx => ?_, by rw [e1, e2, hq]; simp⟩, by show bs.length - (i + 1) < bs.length - i; omega, ?_⟩
      · rcases List.mem_or_eq_of_mem_set hx with hx | rfl
        · exact hqb x hx
        · omega
      conv => whnf
      refine ⟨rfl, ?_⟩
      conv => whnf
      repeat' (first | exact trivial | exact rfl | refine And.intro ?_ ?_ | ((conv => whnf); first | exact trivial | exact rfl | refine And.intro ?_ ?_ | omega))
  have hie : i = bs.length := by have := of_decide_eq_false (show decide ((i : Int) < bs.length) = false from hc); omega
  subst hie
  have e0 : nextF (bs.drop bs.length) (q.drop bs.length) = ([], false) := by
    rw [List.drop_length, List.drop_of_length_le (by omega)]; rfl
  rw [e0, List.append_nil, List.take_of_length_le (by omega)] at hq
  rw [hq]
  conv => whnf
  repeat' (first | exact trivial | exact rfl | refine And.intro ?_ ?_ | ((conv => whnf); first | exact trivial | exact rfl | refine And.intro ?_ ?_ | omega))

end Go.Proofs

namespace Go.Proofs
open Go.Sx

/-- What is seen of points of which some are allowed. -/
abbrev seenC (S : SeenS) : List SC := [.v (.bool S.some), .v (.int .i64 S.lo), .v (.int .i64 S.hi), .v (.int .i64 S.most), .v (.int .i64 S.least), .v (.int .i64 S.num), .v (.int .i64 S.den), .v (.bool S.low)]

theorem diff_bd {n : Nat} {pt : List Int} (hp : ∀ x ∈ pt, -16777216 ≤ x ∧ x ≤ 16777216) {i : Int} (hi : i < n) (hl : pt.length = n) : -16777216 ≤ atF pt i ∧ atF pt i ≤ 16777216 := by
  unfold atF
  split
  · omega
  · exact hp _ (getD_mem (by omega))

theorem valM_bd {pt : List Int} (hp : ∀ x ∈ pt, -16777216 ≤ x ∧ x ≤ 16777216) : ∀ {form : List (Int × Int)}, (∀ t ∈ form, (0 ≤ t.1 ∧ t.1 < pt.length) ∧ (-8 ≤ t.2 ∧ t.2 ≤ 8)) → -(form.length * 134217728) ≤ valM form pt ∧ valM form pt ≤ form.length * 134217728
  | [], _ => by simp [valM]
  | t :: r, h => by
    have ih := valM_bd hp (form := r) fun t ht => h t (List.mem_cons_of_mem _ ht)
    obtain ⟨h1, h2⟩ := h t (List.mem_cons_self ..)
    have hx := hp (pt.getD t.1.toNat 0) (getD_mem (by omega))
    have hm := mul_bd (C := 8) (D := 16777216) h2 hx
    show -(((r.length + 1 : Nat) : Int) * 134217728) ≤ t.2 * pt.getD t.1.toNat 0 + valM r pt ∧ t.2 * pt.getD t.1.toNat 0 + valM r pt ≤ ((r.length + 1 : Nat) : Int) * 134217728
    omega

theorem inBox_bd {bs : List (Int × Int)} (hB : BoxB bs) : ∀ {p : List Int}, InBox bs p → ∀ x ∈ p, -16777216 ≤ x ∧ x ≤ 16777216 := by
  induction bs with
  | nil =>
    intro p h x hx
    cases p with
    | nil => cases hx
    | cons _ _ => exact h.elim
  | cons b bs ih =>
    intro p h x hx
    cases p with
    | nil => cases hx
    | cons y p =>
      rcases List.mem_cons.1 hx with rfl | hx
      · have := hB b (List.mem_cons_self ..)
        have := h.1
        omega
      · exact ih (fun c hc => hB c (List.mem_cons_of_mem _ hc)) h.2 x hx

theorem inBox_get {bs : List (Int × Int)} : ∀ {p : List Int}, p.length = bs.length → (∀ v (h : v < bs.length), bs[v].1 ≤ p.getD v 0 ∧ p.getD v 0 ≤ bs[v].2) → InBox bs p := by
  induction bs with
  | nil =>
    intro p hl h
    cases p with
    | nil => trivial
    | cons _ _ => cases hl
  | cons b bs ih =>
    intro p hl h
    cases p with
    | nil => cases hl
    | cons y p =>
      exact ⟨h 0 (by simp), ih (by simpa using hl) fun v hv => h (v + 1) (by simpa using hv)⟩

/-- An allowed point lies within the boxes. -/
theorem allows_inBox {bs : List (Int × Int)} {ls : List Lnk} {pt : List Int} (hs : SysOK bs ls) (ha : (allowsF bs ls pt).2 = true) : InBox bs pt :=
  inBox_get ((allows_iff hs).1 ha).1 fun _ hv => allows_box hs ha hv

/-- The state behind a round. -/
def goneS (bs : List (Int × Int)) (ls : List Lnk) (a b : Int) (form den : List (Int × Int)) (S : SeenS) (p : List Int) : SeenS :=
  if (allowsF bs ls p).2 then seenStep S (atF p b - atF p a) (valM form p) (valM den p) else S

abbrev SeenG (bs : List (Int × Int)) (ls : List Lnk) (a b : Int) (form den : List (Int × Int)) (A : List Int → Prop) (S : SeenS) : Prop :=
  Seen (fun q => A q ∧ (allowsF bs ls q).2 = true) (fun q => atF q b - atF q a) (valM form) (valM den) S

theorem goneS_seen {bs : List (Int × Int)} {ls : List Lnk} {a b : Int} {form den : List (Int × Int)} {A : List Int → Prop} {S : SeenS} (h : SeenG bs ls a b form den A S) (p : List Int) : SeenG bs ls a b form den (fun q => A q ∨ q = p) (goneS bs ls a b form den S p) := by
  unfold goneS
  cases ha : (allowsF bs ls p).2 with
  | true =>
    rw [if_pos rfl]
    refine (Seen.add h p).congr fun q => ⟨?_, ?_⟩
    · rintro (⟨h1, h2⟩ | rfl)
      · exact ⟨.inl h1, h2⟩
      · exact ⟨.inr rfl, ha⟩
    · rintro ⟨h1 | h1, h2⟩
      · exact .inl ⟨h1, h2⟩
      · exact .inr h1
  | false =>
    rw [if_neg (by simp)]
    refine Seen.congr h fun q => ⟨fun ⟨h1, h2⟩ => ⟨.inl h1, h2⟩, ?_⟩
    rintro ⟨h1 | rfl, h2⟩
    · exact ⟨h1, h2⟩
    · rw [ha] at h2; cases h2

end Go.Proofs

namespace Go.Proofs
open Go.Sx

def goneF (bs : List (Int × Int)) (ls : List Lnk) (a b : Int) (form den : List (Int × Int)) : Nat → List Int → SeenS → SeenS
  | 0, _, S => S
  | k + 1, p, S => if (nextF bs p).2 = true then goneF bs ls a b form den k (nextF bs p).1 (goneS bs ls a b form den S p) else goneS bs ls a b form den S p

theorem goneF_seen {bs : List (Int × Int)} {ls : List Lnk} {a b : Int} {form den : List (Int × Int)} : ∀ {k : Nat} {p : List Int} {S : SeenS}, InBox bs p → manyF bs - rankF bs p ≤ k → SeenG bs ls a b form den (fun q => InBox bs q ∧ rankF bs q < rankF bs p) S →
    SeenG bs ls a b form den (InBox bs) (goneF bs ls a b form den k p S)
  | 0, p, S, hp, hk, h => by have := (rank_nonneg hp).2; omega
  | k + 1, p, S, hp, hk, h => by
    have h1 := goneS_seen h p
    unfold goneF
    cases hn : (nextF bs p).2 with
    | true =>
      rw [if_pos rfl]
      obtain ⟨n1, n2⟩ := nextF_true hp hn
      refine goneF_seen n1 (by omega) (h1.congr fun q => ?_)
      have : (InBox bs q ∧ rankF bs q < rankF bs p) ∨ q = p ↔ InBox bs q ∧ rankF bs q < rankF bs (nextF bs p).1 := by
        rw [n2]
        constructor
        · rintro (⟨h2, h3⟩ | rfl)
          · exact ⟨h2, by omega⟩
          · exact ⟨hp, by omega⟩
        · rintro ⟨h2, h3⟩
          by_cases he : rankF bs q < rankF bs p
          · exact .inl ⟨h2, he⟩
          · exact .inr (rank_inj h2 hp (by omega))
      exact and_congr this Iff.rfl
    | false =>
      rw [if_neg (by simp)]
      refine h1.congr fun q => ?_
      have : (InBox bs q ∧ rankF bs q < rankF bs p) ∨ q = p ↔ InBox bs q := by
        constructor
        · rintro (⟨h2, _⟩ | rfl)
          · exact h2
          · exact hp
        · intro h2
          by_cases he : rankF bs q < rankF bs p
          · exact .inl ⟨h2, he⟩
          · exact .inr (rank_inj h2 hp (by have := nextF_false hp h2 hn; omega))
      exact and_congr this Iff.rfl

abbrev formS (n : Nat) (form : List (Int × Int)) : Prop := form.length ≤ n ∧ ∀ t ∈ form, (0 ≤ t.1 ∧ t.1 < n) ∧ (-8 ≤ t.2 ∧ t.2 ≤ 8)

theorem gone_t (bs : List (Int × Int)) (ls : List Lnk) (a b : Int) (form den : List (Int × Int)) (hs : SysOK bs ls) (hb : bs.length ≤ 3) (ha : a < bs.length) (hb2 : b < bs.length) (hf : formS bs.length form) (hd : formS bs.length den) (K : Nat) (hK : manyF bs ≤ K) (hlo : ∀ c ∈ bs, c.1 ≤ c.2)
    (R : SeenS) (hR : goneF bs ls a b form den K (bs.map (·.1)) seen0 = R) :
    Triple Try.prog 63 [sysA bs.length ls.length, iv .i64 a, iv .i64 b, .c (.s 2 0 form.length 2), .c (.s 3 0 den.length 2)] ((2, false, .arr (aSpan form)) :: (3, false, .arr (aSpan den)) :: sysH bs ls) 4
      (.agg (seenC R)) [] := by
  refine triple_of tB_ok Try.func63 rfl Try.call63 rfl ?_
  intro ρ w hH
  conv => whnf
  refine loop_step tB_ok (G := Nat × List Int) 1 [] (fun g => [(13, iv .i64 g.1), (12, .c (.s 7 0 g.2.length 1))]) (fun g => [(7, true, .arr (aInt g.2))]) (fun g => g.1 ≤ bs.length ∧ g.2 = (bs.map (·.1)).take g.1) (fun g => bs.length - g.1) ?_
  conv => whnf
  refine ⟨⟨(0, []), ⟨Nat.zero_le _, rfl⟩, ?_⟩, ?_⟩
  · conv => whnf
    repeat' (first | exact trivial | exact rfl | refine And.intro ?_ ?_ | ((conv => whnf); first | exact trivial | exact rfl | refine And.intro ?_ ?_ | omega))
  rintro ⟨i, ps⟩ ⟨hi, hps⟩ ρ1 t1 hρ1
  have hi : i ≤ bs.length := hi
  have hps : ps = (bs.map (·.1)).take i := hps
  have hpl : ps.length = i := by rw [hps]; simp; omega
  dsimp only
  conv => whnf
  refine ⟨fun hc => ?_, fun hc => ?_⟩
  · have hlt : i < bs.length := by simpa using hc
    conv => whnf
    refine ⟨i, rfl, hlt, hlt, ?_⟩
    conv => whnf
    refine bs_step tB_ok (aInt [bs[i].1]) rfl rfl ?_
    conv => whnf
    refine ⟨(by repeat' (first | exact trivial | exact rfl | refine And.intro ?_ ?_ | ((conv => whnf); first | exact trivial | exact rfl | refine And.intro ?_ ?_ | omega))), ?_⟩
    conv => whnf
    refine app_step tB_ok (aInt ps) [bs[i].1] (fun _ => rfl) rfl rfl rfl rfl ?_
    conv => whnf
    refine ⟨⟨rfl, rfl, Nat.le_refl _, Nat.le_refl _, by show (ps.length + 1) * 9 ≤ _; omega⟩, ?_⟩
    conv => whnf
    refine ⟨(i : Int) + 1, wrapId (z := (i : Int) + 1) ⟨by omega, by omega⟩, ?_⟩
    refine ⟨(i + 1, ps ++ [bs[i].1]), ⟨hlt, by show ps ++ [bs[i].1] = _; rw [take_snoc (by simpa using hlt), hps]; simp⟩, by show bs.length - (i + 1) < bs.length - i; omega, ?_⟩
    conv => whnf
    refine ⟨rfl, ?_⟩
    conv => whnf
    repeat' (first | exact trivial | exact rfl | refine And.intro ?_ ?_ | ((conv => whnf); first | exact trivial | exact rfl | refine And.intro ?_ ?_ | omega))
    all_goals first | exact (congrArg aInt app1 : _) | simp
  have hie : i = bs.length := by simp at hc; omega
  rw [hie, List.take_of_length_le (by simp)] at hps
  subst hps
  clear hi hpl hie hc
  have hB : BoxB bs := hs.boxB
  have hm0 := inBox_lo hlo
  have hm1 := rank_lo (bs := bs)
  generalize bs.map (·.1) = m0 at *
  have hml := hm0.len
  conv => whnf
  refine loop_step tB_ok (G := Nat × List Int × SeenS × Bool) 0 [] (fun g => [(14, bv g.2.2.2)]) (fun g => [(7, true, .arr (aInt g.2.1)), (6, true, .cells (seenC g.2.2.1))])
    (fun g => ((-536870912 ≤ g.2.2.1.num ∧ g.2.2.1.num ≤ 536870912) ∧ (-536870912 ≤ g.2.2.1.den ∧ g.2.2.1.den ≤ 536870912)) ∧ (g.2.2.2 = true → InBox bs g.2.1 ∧ manyF bs - rankF bs g.2.1 ≤ g.1 ∧ goneF bs ls a b form den g.1 g.2.1 g.2.2.1 = R) ∧ (g.2.2.2 = false → g.2.2.1 = R))
    (fun g => if g.2.2.2 = true then g.1 + 1 else 0) ?_
  conv => whnf
  refine ⟨⟨(K, m0, seen0, true), ⟨by show ((-536870912 : Int) ≤ 0 ∧ (0 : Int) ≤ 536870912) ∧ ((-536870912 : Int) ≤ 0 ∧ (0 : Int) ≤ 536870912); omega, fun _ => ⟨hm0, by show manyF bs - rankF bs m0 ≤ K; omega, hR⟩, fun h => by cases h⟩, ?_⟩, ?_⟩
  · conv => whnf
    repeat' (first | exact trivial | exact rfl | refine And.intro ?_ ?_ | ((conv => whnf); first | exact trivial | exact rfl | refine And.intro ?_ ?_ | omega))
  rintro ⟨k, p, S, more⟩ ⟨hbd, hmt, hmf⟩ ρ2 t2 hρ2
  obtain ⟨sm, slo, shi, smo, sle, snu, sde, slw⟩ := S
  have hbd : (-536870912 ≤ snu ∧ snu ≤ 536870912) ∧ (-536870912 ≤ sde ∧ sde ≤ 536870912) := hbd
  have hmt : more = true → InBox bs p ∧ manyF bs - rankF bs p ≤ k ∧ goneF bs ls a b form den k p ⟨sm, slo, shi, smo, sle, snu, sde, slw⟩ = R := hmt
  have hmf : more = false → (⟨sm, slo, shi, smo, sle, snu, sde, slw⟩ : SeenS) = R := hmf
  dsimp only
  conv => whnf
  refine ⟨fun hc => ?_, fun hc => ?_⟩
  · have hmo : more = true := hc
    subst hmo
    obtain ⟨hbox, hrk, hgo⟩ := hmt rfl
    clear hmt hmf
    have hrn := (rank_nonneg hbox).2
    obtain ⟨k', rfl⟩ : ∃ k', k = k' + 1 := ⟨k - 1, by omega⟩
    have hpl := hbox.len
    have hpb := inBox_bd hB hbox
    obtain ⟨r, al, hal⟩ : ∃ r al, allowsF bs ls p = (r, al) := ⟨_, _, rfl⟩
    have hra := refAllows_t bs ls p hs (by omega)
    rw [hal] at hra
    have hnx := next_t bs ls p hpl (by omega) (fun x hx => by have := hpb x hx; omega) hB
    have hnt := nextF_true hbox
    have hgo : (if (nextF bs p).2 = true then goneF bs ls a b form den k' (nextF bs p).1 (goneS bs ls a b form den ⟨sm, slo, shi, smo, sle, snu, sde, slw⟩ p) else goneS bs ls a b form den ⟨sm, slo, shi, smo, sle, snu, sde, slw⟩ p) = R := hgo
    generalize nextF bs p = nx at *
    have hG : goneS bs ls a b form den ⟨sm, slo, shi, smo, sle, snu, sde, slw⟩ p = if al = true then seenStep ⟨sm, slo, shi, smo, sle, snu, sde, slw⟩ (atF p b - atF p a) (valM form p) (valM den p) else ⟨sm, slo, shi, smo, sle, snu, sde, slw⟩ := by unfold goneS; rw [hal]
    conv => whnf
    refine call_step hra rfl rfl ?_
    conv => whnf
    refine ⟨(by repeat' (first | exact trivial | exact rfl | refine And.intro ?_ ?_ | ((conv => whnf); first | exact trivial | exact rfl | refine And.intro ?_ ?_ | omega))), (by repeat' (first | exact trivial | exact rfl | refine And.intro ?_ ?_ | ((conv => whnf); first | exact trivial | exact rfl | refine And.intro ?_ ?_ | omega))), ?_⟩
    conv => whnf
    refine ⟨fun hc => ?_, fun hc => ?_⟩
    · have hc : al = false := by simpa using (show (!al) = true from hc)
      rw [hc, if_neg (by simp)] at hG
      rw [hG] at hgo
      conv => whnf
      refine call_step hnx rfl rfl ?_
      conv => whnf
      refine ⟨(by repeat' (first | exact trivial | exact rfl | refine And.intro ?_ ?_ | ((conv => whnf); first | exact trivial | exact rfl | refine And.intro ?_ ?_ | omega))), (by repeat' (first | exact trivial | exact rfl | refine And.intro ?_ ?_ | ((conv => whnf); first | exact trivial | exact rfl | refine And.intro ?_ ?_ | omega))), ?_⟩
      conv => whnf
      refine ⟨(k', nx.1, ⟨sm, slo, shi, smo, sle, snu, sde, slw⟩, nx.2), ⟨by show (-536870912 ≤ snu ∧ snu ≤ 536870912) ∧ (-536870912 ≤ sde ∧ sde ≤ 536870912) <;> omega, fun hn => ⟨(hnt hn).1, by have := (hnt hn).2 <;> show manyF bs - rankF bs nx.1 ≤ (k' : Int) <;> omega, (if_pos hn).symm.trans hgo⟩, fun hn => (if_neg (by rw [show nx.2 = false from hn] <;> simp)).symm.trans hgo⟩, ?_, ?_⟩
      · show (if nx.2 = true then k' + 1 else 0) < k' + 1 + 1
        split <;> omega
      conv => whnf
      refine ⟨rfl, ?_⟩
      conv => whnf
      repeat' (first | exact trivial | exact rfl | refine And.intro ?_ ?_ | ((conv => whnf); first | exact trivial | exact rfl | refine And.intro ?_ ?_ | omega))
    have hc : al = true := by simpa using (show (!al) = false from hc)
    rw [hc, if_pos rfl] at hG
    rw [hG] at hgo
    clear hG hra hal hc
    have b1 := diff_bd (n := bs.length) hpb ha hpl
    have b2 := diff_bd (n := bs.length) hpb hb2 hpl
    have v1 := valM_bd hpb (fun t ht => by rw [hpl]; exact hf.2 t ht)
    have v2 := valM_bd hpb (fun t ht => by rw [hpl]; exact hd.2 t ht)
    have l1 := hf.1
    have l2 := hd.1
    have ta := at_t p a (by omega)
    have tb := at_t p b (by omega)
    have tf := At_t form p (by omega) (fun t ht => by have := hf.2 t ht; rw [hpl]; omega) (fun x hx => by have := hpb x hx; omega)
    have td := At_t den p (by omega) (fun t ht => by have := hd.2 t ht; rw [hpl]; omega) (fun x hx => by have := hpb x hx; omega)
    have v1 : -402653184 ≤ valM form p ∧ valM form p ≤ 402653184 := by omega
    have v2 : -402653184 ≤ valM den p ∧ valM den p ≤ 402653184 := by omega
    generalize atF p a = za at *
    generalize atF p b = zb at *
    generalize valM form p = v at *
    generalize valM den p = w0 at *
    conv => whnf
    refine call_step tb rfl rfl ?_
    conv => whnf
    refine ⟨(by repeat' (first | exact trivial | exact rfl | refine And.intro ?_ ?_ | ((conv => whnf); first | exact trivial | exact rfl | refine And.intro ?_ ?_ | omega))), (by repeat' (first | exact trivial | exact rfl | refine And.intro ?_ ?_ | ((conv => whnf); first | exact trivial | exact rfl | refine And.intro ?_ ?_ | omega))), ?_⟩
    conv => whnf
    refine call_step ta rfl rfl ?_
    conv => whnf
    refine ⟨(by repeat' (first | exact trivial | exact rfl | refine And.intro ?_ ?_ | ((conv => whnf); first | exact trivial | exact rfl | refine And.intro ?_ ?_ | omega))), (by repeat' (first | exact trivial | exact rfl | refine And.intro ?_ ?_ | ((conv => whnf); first | exact trivial | exact rfl | refine And.intro ?_ ?_ | omega))), ?_⟩
    conv => whnf
    refine ⟨zb - za, wrapId (z := zb - za) ⟨by omega, by omega⟩, ?_⟩
    conv => whnf
    refine call_step tf rfl rfl ?_
    conv => whnf
    refine ⟨(by repeat' (first | exact trivial | exact rfl | refine And.intro ?_ ?_ | ((conv => whnf); first | exact trivial | exact rfl | refine And.intro ?_ ?_ | omega))), (by repeat' (first | exact trivial | exact rfl | refine And.intro ?_ ?_ | ((conv => whnf); first | exact trivial | exact rfl | refine And.intro ?_ ?_ | omega))), ?_⟩
    conv => whnf
    refine call_step td rfl rfl ?_
    conv => whnf
    refine ⟨(by repeat' (first | exact trivial | exact rfl | refine And.intro ?_ ?_ | ((conv => whnf); first | exact trivial | exact rfl | refine And.intro ?_ ?_ | omega))), (by repeat' (first | exact trivial | exact rfl | refine And.intro ?_ ?_ | ((conv => whnf); first | exact trivial | exact rfl | refine And.intro ?_ ?_ | omega))), ?_⟩
    conv => whnf
    generalize zb - za = d at *
    have m1 := mul_bd (x := v) (y := sde) (C := 402653184) (D := 536870912) v1 hbd.2
    have m2 := mul_bd (x := snu) (y := w0) (C := 536870912) (D := 402653184) hbd.1 v2
    have m3 := mul_bd (x := v) (y := w0) (C := 402653184) (D := 402653184) v1 v2
    refine ⟨fun hc => ?_, fun hc => ?_⟩
    · have hsm : sm = false := by simpa using (show (!sm) = true from hc)
      subst hsm
      conv => whnf
      have hst : seenStep ⟨false, slo, shi, smo, sle, snu, sde, slw⟩ d v w0 = ⟨true, min d d, max d d, max v v, min v v, if (decide (0 < w0) && decide (0 < w0) && decide (v * w0 < v * w0)) = true then v else v, if (decide (0 < w0) && decide (0 < w0) && decide (v * w0 < v * w0)) = true then w0 else w0, false || decide (w0 ≤ 0)⟩ := rfl
      rw [ite_self, ite_self, Bool.false_or] at hst
      rw [hst] at hgo
      refine ⟨fun h1 => ?_, fun h1 => ?_⟩
      · conv => whnf
        refine ⟨fun h2 => ?_, fun h2 => absurd (show decide (0 < w0) = true from h1) (by rw [show decide (0 < w0) = false from h2]; simp)⟩
        conv => whnf
        refine ⟨v * w0, (show IntKind.i64.wrap (v * w0) = v * w0 from wrapId ⟨by omega, by omega⟩), ?_⟩
        conv => whnf
        refine ⟨v * w0, (show IntKind.i64.wrap (v * w0) = v * w0 from wrapId ⟨by omega, by omega⟩), ?_⟩
        conv => whnf
        refine ⟨fun h3 => absurd (of_decide_eq_true (show decide (v * w0 < v * w0) = true from h3)) (Int.lt_irrefl _), fun h3 => ?_⟩
        conv => whnf
        refine call_step hnx rfl rfl ?_
        conv => whnf
        refine ⟨(by repeat' (first | exact trivial | exact rfl | refine And.intro ?_ ?_ | ((conv => whnf); first | exact trivial | exact rfl | refine And.intro ?_ ?_ | omega))), (by repeat' (first | exact trivial | exact rfl | refine And.intro ?_ ?_ | ((conv => whnf); first | exact trivial | exact rfl | refine And.intro ?_ ?_ | omega))), ?_⟩
        conv => whnf
        refine ⟨(k', nx.1, ⟨true, min d d, max d d, max v v, min v v, v, w0, decide (w0 ≤ 0)⟩, nx.2), ⟨by show (-536870912 ≤ v ∧ v ≤ 536870912) ∧ (-536870912 ≤ w0 ∧ w0 ≤ 536870912) <;> omega, fun hn => ⟨(hnt hn).1, by have := (hnt hn).2 <;> show manyF bs - rankF bs nx.1 ≤ (k' : Int) <;> omega, (if_pos hn).symm.trans hgo⟩, fun hn => (if_neg (by rw [show nx.2 = false from hn] <;> simp)).symm.trans hgo⟩, ?_, ?_⟩
        · show (if nx.2 = true then k' + 1 else 0) < k' + 1 + 1
          split <;> omega
        conv => whnf
        refine ⟨rfl, ?_⟩
        conv => whnf
        repeat' (first | exact trivial | exact rfl | refine And.intro ?_ ?_ | ((conv => whnf); first | exact trivial | exact rfl | refine And.intro ?_ ?_ | omega))
      · conv => whnf
        refine call_step hnx rfl rfl ?_
        conv => whnf
        refine ⟨(by repeat' (first | exact trivial | exact rfl | refine And.intro ?_ ?_ | ((conv => whnf); first | exact trivial | exact rfl | refine And.intro ?_ ?_ | omega))), (by repeat' (first | exact trivial | exact rfl | refine And.intro ?_ ?_ | ((conv => whnf); first | exact trivial | exact rfl | refine And.intro ?_ ?_ | omega))), ?_⟩
        conv => whnf
        refine ⟨(k', nx.1, ⟨true, min d d, max d d, max v v, min v v, v, w0, decide (w0 ≤ 0)⟩, nx.2), ⟨by show (-536870912 ≤ v ∧ v ≤ 536870912) ∧ (-536870912 ≤ w0 ∧ w0 ≤ 536870912) <;> omega, fun hn => ⟨(hnt hn).1, by have := (hnt hn).2 <;> show manyF bs - rankF bs nx.1 ≤ (k' : Int) <;> omega, (if_pos hn).symm.trans hgo⟩, fun hn => (if_neg (by rw [show nx.2 = false from hn] <;> simp)).symm.trans hgo⟩, ?_, ?_⟩
        · show (if nx.2 = true then k' + 1 else 0) < k' + 1 + 1
          split <;> omega
        conv => whnf
        refine ⟨rfl, ?_⟩
        conv => whnf
        repeat' (first | exact trivial | exact rfl | refine And.intro ?_ ?_ | ((conv => whnf); first | exact trivial | exact rfl | refine And.intro ?_ ?_ | omega))
    · have hsm : sm = true := by simpa using (show (!sm) = false from hc)
      subst hsm
      conv => whnf
      have hst : seenStep ⟨true, slo, shi, smo, sle, snu, sde, slw⟩ d v w0 = ⟨true, min slo d, max shi d, max smo v, min sle v, if (decide (0 < w0) && decide (0 < sde) && decide (snu * w0 < v * sde)) = true then v else snu, if (decide (0 < w0) && decide (0 < sde) && decide (snu * w0 < v * sde)) = true then w0 else sde, slw || decide (w0 ≤ 0)⟩ := rfl
      rw [hst] at hgo
      refine ⟨fun hc => ?_, fun hc => ?_⟩
      · have hlw : slw = true := hc
        subst hlw
        rw [Bool.true_or] at hgo
        conv => whnf
        refine ⟨fun h1 => ?_, fun h1 => ?_⟩
        · have h1 : decide (0 < w0) = true := h1
          rw [h1, Bool.true_and] at hgo
          conv => whnf
          refine ⟨fun h2 => ?_, fun h2 => ?_⟩
          · have h2 : decide (0 < sde) = true := h2
            rw [h2, Bool.true_and] at hgo
            conv => whnf
            refine ⟨v * sde, (show IntKind.i64.wrap (v * sde) = v * sde from wrapId ⟨by omega, by omega⟩), ?_⟩
            conv => whnf
            refine ⟨snu * w0, (show IntKind.i64.wrap (snu * w0) = snu * w0 from wrapId ⟨by omega, by omega⟩), ?_⟩
            conv => whnf
            refine ⟨fun h3 => ?_, fun h3 => ?_⟩
            · have h3 : decide (snu * w0 < v * sde) = true := h3
              rw [h3, if_pos rfl, if_pos rfl] at hgo
              conv => whnf
              refine call_step hnx rfl rfl ?_
              conv => whnf
              refine ⟨(by repeat' (first | exact trivial | exact rfl | refine And.intro ?_ ?_ | ((conv => whnf); first | exact trivial | exact rfl | refine And.intro ?_ ?_ | omega))), (by repeat' (first | exact trivial | exact rfl | refine And.intro ?_ ?_ | ((conv => whnf); first | exact trivial | exact rfl | refine And.intro ?_ ?_ | omega))), ?_⟩
              conv => whnf
              refine ⟨(k', nx.1, ⟨true, min slo d, max shi d, max smo v, min sle v, v, w0, true⟩, nx.2), ⟨by show (-536870912 ≤ v ∧ v ≤ 536870912) ∧ (-536870912 ≤ w0 ∧ w0 ≤ 536870912) <;> omega, fun hn => ⟨(hnt hn).1, by have := (hnt hn).2 <;> show manyF bs - rankF bs nx.1 ≤ (k' : Int) <;> omega, (if_pos hn).symm.trans hgo⟩, fun hn => (if_neg (by rw [show nx.2 = false from hn] <;> simp)).symm.trans hgo⟩, ?_, ?_⟩
              · show (if nx.2 = true then k' + 1 else 0) < k' + 1 + 1
                split <;> omega
              conv => whnf
              refine ⟨rfl, ?_⟩
              conv => whnf
              repeat' (first | exact trivial | exact rfl | refine And.intro ?_ ?_ | ((conv => whnf); first | exact trivial | exact rfl | refine And.intro ?_ ?_ | omega))
            · have h3 : decide (snu * w0 < v * sde) = false := h3
              rw [h3] at hgo
              simp only [Bool.false_eq_true, if_false] at hgo
              conv => whnf
              refine call_step hnx rfl rfl ?_
              conv => whnf
              refine ⟨(by repeat' (first | exact trivial | exact rfl | refine And.intro ?_ ?_ | ((conv => whnf); first | exact trivial | exact rfl | refine And.intro ?_ ?_ | omega))), (by repeat' (first | exact trivial | exact rfl | refine And.intro ?_ ?_ | ((conv => whnf); first | exact trivial | exact rfl | refine And.intro ?_ ?_ | omega))), ?_⟩
              conv => whnf
              refine ⟨(k', nx.1, ⟨true, min slo d, max shi d, max smo v, min sle v, snu, sde, true⟩, nx.2), ⟨by show (-536870912 ≤ snu ∧ snu ≤ 536870912) ∧ (-536870912 ≤ sde ∧ sde ≤ 536870912) <;> omega, fun hn => ⟨(hnt hn).1, by have := (hnt hn).2 <;> show manyF bs - rankF bs nx.1 ≤ (k' : Int) <;> omega, (if_pos hn).symm.trans hgo⟩, fun hn => (if_neg (by rw [show nx.2 = false from hn] <;> simp)).symm.trans hgo⟩, ?_, ?_⟩
              · show (if nx.2 = true then k' + 1 else 0) < k' + 1 + 1
                split <;> omega
              conv => whnf
              refine ⟨rfl, ?_⟩
              conv => whnf
              repeat' (first | exact trivial | exact rfl | refine And.intro ?_ ?_ | ((conv => whnf); first | exact trivial | exact rfl | refine And.intro ?_ ?_ | omega))
          · have h2 : decide (0 < sde) = false := h2
            rw [h2, Bool.false_and] at hgo
            simp only [Bool.false_eq_true, if_false] at hgo
            conv => whnf
            refine call_step hnx rfl rfl ?_
            conv => whnf
            refine ⟨(by repeat' (first | exact trivial | exact rfl | refine And.intro ?_ ?_ | ((conv => whnf); first | exact trivial | exact rfl | refine And.intro ?_ ?_ | omega))), (by repeat' (first | exact trivial | exact rfl | refine And.intro ?_ ?_ | ((conv => whnf); first | exact trivial | exact rfl | refine And.intro ?_ ?_ | omega))), ?_⟩
            conv => whnf
            refine ⟨(k', nx.1, ⟨true, min slo d, max shi d, max smo v, min sle v, snu, sde, true⟩, nx.2), ⟨by show (-536870912 ≤ snu ∧ snu ≤ 536870912) ∧ (-536870912 ≤ sde ∧ sde ≤ 536870912) <;> omega, fun hn => ⟨(hnt hn).1, by have := (hnt hn).2 <;> show manyF bs - rankF bs nx.1 ≤ (k' : Int) <;> omega, (if_pos hn).symm.trans hgo⟩, fun hn => (if_neg (by rw [show nx.2 = false from hn] <;> simp)).symm.trans hgo⟩, ?_, ?_⟩
            · show (if nx.2 = true then k' + 1 else 0) < k' + 1 + 1
              split <;> omega
            conv => whnf
            refine ⟨rfl, ?_⟩
            conv => whnf
            repeat' (first | exact trivial | exact rfl | refine And.intro ?_ ?_ | ((conv => whnf); first | exact trivial | exact rfl | refine And.intro ?_ ?_ | omega))
        · have h1 : decide (0 < w0) = false := h1
          rw [h1, Bool.false_and, Bool.false_and] at hgo
          simp only [Bool.false_eq_true, if_false] at hgo
          conv => whnf
          refine call_step hnx rfl rfl ?_
          conv => whnf
          refine ⟨(by repeat' (first | exact trivial | exact rfl | refine And.intro ?_ ?_ | ((conv => whnf); first | exact trivial | exact rfl | refine And.intro ?_ ?_ | omega))), (by repeat' (first | exact trivial | exact rfl | refine And.intro ?_ ?_ | ((conv => whnf); first | exact trivial | exact rfl | refine And.intro ?_ ?_ | omega))), ?_⟩
          conv => whnf
          refine ⟨(k', nx.1, ⟨true, min slo d, max shi d, max smo v, min sle v, snu, sde, true⟩, nx.2), ⟨by show (-536870912 ≤ snu ∧ snu ≤ 536870912) ∧ (-536870912 ≤ sde ∧ sde ≤ 536870912) <;> omega, fun hn => ⟨(hnt hn).1, by have := (hnt hn).2 <;> show manyF bs - rankF bs nx.1 ≤ (k' : Int) <;> omega, (if_pos hn).symm.trans hgo⟩, fun hn => (if_neg (by rw [show nx.2 = false from hn] <;> simp)).symm.trans hgo⟩, ?_, ?_⟩
          · show (if nx.2 = true then k' + 1 else 0) < k' + 1 + 1
            split <;> omega
          conv => whnf
          refine ⟨rfl, ?_⟩
          conv => whnf
          repeat' (first | exact trivial | exact rfl | refine And.intro ?_ ?_ | ((conv => whnf); first | exact trivial | exact rfl | refine And.intro ?_ ?_ | omega))
      · have hlw : slw = false := hc
        subst hlw
        rw [Bool.false_or] at hgo
        conv => whnf
        refine ⟨fun h1 => ?_, fun h1 => ?_⟩
        · have h1 : decide (0 < w0) = true := h1
          rw [h1, Bool.true_and] at hgo
          conv => whnf
          refine ⟨fun h2 => ?_, fun h2 => ?_⟩
          · have h2 : decide (0 < sde) = true := h2
            rw [h2, Bool.true_and] at hgo
            conv => whnf
            refine ⟨v * sde, (show IntKind.i64.wrap (v * sde) = v * sde from wrapId ⟨by omega, by omega⟩), ?_⟩
            conv => whnf
            refine ⟨snu * w0, (show IntKind.i64.wrap (snu * w0) = snu * w0 from wrapId ⟨by omega, by omega⟩), ?_⟩
            conv => whnf
            refine ⟨fun h3 => ?_, fun h3 => ?_⟩
            · have h3 : decide (snu * w0 < v * sde) = true := h3
              rw [h3, if_pos rfl, if_pos rfl] at hgo
              conv => whnf
              refine call_step hnx rfl rfl ?_
              conv => whnf
              refine ⟨(by repeat' (first | exact trivial | exact rfl | refine And.intro ?_ ?_ | ((conv => whnf); first | exact trivial | exact rfl | refine And.intro ?_ ?_ | omega))), (by repeat' (first | exact trivial | exact rfl | refine And.intro ?_ ?_ | ((conv => whnf); first | exact trivial | exact rfl | refine And.intro ?_ ?_ | omega))), ?_⟩
              conv => whnf
              refine ⟨(k', nx.1, ⟨true, min slo d, max shi d, max smo v, min sle v, v, w0, decide (w0 ≤ 0)⟩, nx.2), ⟨by show (-536870912 ≤ v ∧ v ≤ 536870912) ∧ (-536870912 ≤ w0 ∧ w0 ≤ 536870912) <;> omega, fun hn => ⟨(hnt hn).1, by have := (hnt hn).2 <;> show manyF bs - rankF bs nx.1 ≤ (k' : Int) <;> omega, (if_pos hn).symm.trans hgo⟩, fun hn => (if_neg (by rw [show nx.2 = false from hn] <;> simp)).symm.trans hgo⟩, ?_, ?_⟩
              · show (if nx.2 = true then k' + 1 else 0) < k' + 1 + 1
                split <;> omega
              conv => whnf
              refine ⟨rfl, ?_⟩
              conv => whnf
              repeat' (first | exact trivial | exact rfl | refine And.intro ?_ ?_ | ((conv => whnf); first | exact trivial | exact rfl | refine And.intro ?_ ?_ | omega))
            · have h3 : decide (snu * w0 < v * sde) = false := h3
              rw [h3] at hgo
              simp only [Bool.false_eq_true, if_false] at hgo
              conv => whnf
              refine call_step hnx rfl rfl ?_
              conv => whnf
              refine ⟨(by repeat' (first | exact trivial | exact rfl | refine And.intro ?_ ?_ | ((conv => whnf); first | exact trivial | exact rfl | refine And.intro ?_ ?_ | omega))), (by repeat' (first | exact trivial | exact rfl | refine And.intro ?_ ?_ | ((conv => whnf); first | exact trivial | exact rfl | refine And.intro ?_ ?_ | omega))), ?_⟩
              conv => whnf
              refine ⟨(k', nx.1, ⟨true, min slo d, max shi d, max smo v, min sle v, snu, sde, decide (w0 ≤ 0)⟩, nx.2), ⟨by show (-536870912 ≤ snu ∧ snu ≤ 536870912) ∧ (-536870912 ≤ sde ∧ sde ≤ 536870912) <;> omega, fun hn => ⟨(hnt hn).1, by have := (hnt hn).2 <;> show manyF bs - rankF bs nx.1 ≤ (k' : Int) <;> omega, (if_pos hn).symm.trans hgo⟩, fun hn => (if_neg (by rw [show nx.2 = false from hn] <;> simp)).symm.trans hgo⟩, ?_, ?_⟩
              · show (if nx.2 = true then k' + 1 else 0) < k' + 1 + 1
                split <;> omega
              conv => whnf
              refine ⟨rfl, ?_⟩
              conv => whnf
              repeat' (first | exact trivial | exact rfl | refine And.intro ?_ ?_ | ((conv => whnf); first | exact trivial | exact rfl | refine And.intro ?_ ?_ | omega))
          · have h2 : decide (0 < sde) = false := h2
            rw [h2, Bool.false_and] at hgo
            simp only [Bool.false_eq_true, if_false] at hgo
            conv => whnf
            refine call_step hnx rfl rfl ?_
            conv => whnf
            refine ⟨(by repeat' (first | exact trivial | exact rfl | refine And.intro ?_ ?_ | ((conv => whnf); first | exact trivial | exact rfl | refine And.intro ?_ ?_ | omega))), (by repeat' (first | exact trivial | exact rfl | refine And.intro ?_ ?_ | ((conv => whnf); first | exact trivial | exact rfl | refine And.intro ?_ ?_ | omega))), ?_⟩
            conv => whnf
            refine ⟨(k', nx.1, ⟨true, min slo d, max shi d, max smo v, min sle v, snu, sde, decide (w0 ≤ 0)⟩, nx.2), ⟨by show (-536870912 ≤ snu ∧ snu ≤ 536870912) ∧ (-536870912 ≤ sde ∧ sde ≤ 536870912) <;> omega, fun hn => ⟨(hnt hn).1, by have := (hnt hn).2 <;> show manyF bs - rankF bs nx.1 ≤ (k' : Int) <;> omega, (if_pos hn).symm.trans hgo⟩, fun hn => (if_neg (by rw [show nx.2 = false from hn] <;> simp)).symm.trans hgo⟩, ?_, ?_⟩
            · show (if nx.2 = true then k' + 1 else 0) < k' + 1 + 1
              split <;> omega
            conv => whnf
            refine ⟨rfl, ?_⟩
            conv => whnf
            repeat' (first | exact trivial | exact rfl | refine And.intro ?_ ?_ | ((conv => whnf); first | exact trivial | exact rfl | refine And.intro ?_ ?_ | omega))
        · have h1 : decide (0 < w0) = false := h1
          rw [h1, Bool.false_and, Bool.false_and] at hgo
          simp only [Bool.false_eq_true, if_false] at hgo
          conv => whnf
          refine call_step hnx rfl rfl ?_
          conv => whnf
          refine ⟨(by repeat' (first | exact trivial | exact rfl | refine And.intro ?_ ?_ | ((conv => whnf); first | exact trivial | exact rfl | refine And.intro ?_ ?_ | omega))), (by repeat' (first | exact trivial | exact rfl | refine And.intro ?_ ?_ | ((conv => whnf); first | exact trivial | exact rfl | refine And.intro ?_ ?_ | omega))), ?_⟩
          conv => whnf
          refine ⟨(k', nx.1, ⟨true, min slo d, max shi d, max smo v, min sle v, snu, sde, decide (w0 ≤ 0)⟩, nx.2), ⟨by show (-536870912 ≤ snu ∧ snu ≤ 536870912) ∧ (-536870912 ≤ sde ∧ sde ≤ 536870912) <;> omega, fun hn => ⟨(hnt hn).1, by have := (hnt hn).2 <;> show manyF bs - rankF bs nx.1 ≤ (k' : Int) <;> omega, (if_pos hn).symm.trans hgo⟩, fun hn => (if_neg (by rw [show nx.2 = false from hn] <;> simp)).symm.trans hgo⟩, ?_, ?_⟩
          · show (if nx.2 = true then k' + 1 else 0) < k' + 1 + 1
            split <;> omega
          conv => whnf
          refine ⟨rfl, ?_⟩
          conv => whnf
          repeat' (first | exact trivial | exact rfl | refine And.intro ?_ ?_ | ((conv => whnf); first | exact trivial | exact rfl | refine And.intro ?_ ?_ | omega))
  · have hmo : more = false := hc
    subst hmo
    have := hmf rfl
    subst this
    conv => whnf
    repeat' (first | exact trivial | exact rfl | refine And.intro ?_ ?_ | ((conv => whnf); first | exact trivial | exact rfl | refine And.intro ?_ ?_ | omega))

end Go.Proofs

namespace Go.Proofs
open Go.Sx

theorem getD_range (n : Nat) (f : Nat → Int) (v : Nat) (hv : v ≤ n) : ((List.range n).map fun u => f u - f n).getD v 0 = f v - f n := by
  rcases Nat.lt_or_eq_of_le hv with h | h
  · rw [List.getD_eq_getElem?_getD, List.getElem?_map, List.getElem?_range h]; rfl
  · rw [List.getD_eq_getElem?_getD, List.getElem?_eq_none (by simp; omega), h]; simp

/-- The greatest difference is that of an allowed point. -/
theorem most_att {bs : List (Int × Int)} {ls : List Lnk} (h : NetW bs ls) {a b : Int} (ha : -1 ≤ a ∧ a < bs.length) (hb : -1 ≤ b ∧ b < bs.length) :
    ∃ pt, (allowsF bs ls pt).2 = true ∧ atF pt b - atF pt a = mostF bs.length (graphF bs ls 0) a b := by
  obtain ⟨q, hq, h0, he⟩ := most_pot h ha.2
  obtain ⟨pt, hpt⟩ : ∃ pt : List Int, pt = (List.range bs.length).map fun v => q v - q bs.length := ⟨_, rfl⟩
  have hg : ∀ v, v ≤ bs.length → pt.getD v 0 = q v - q bs.length := fun v hv => by rw [hpt]; exact getD_range _ q v hv
  have hl : pt.length = bs.length := by rw [hpt]; simp
  have hpl : ∀ {i : Int}, i < bs.length → plc bs.length i ≤ bs.length := fun {i} hi => plc_le hi
  refine ⟨pt, (allows_iff h.sys).2 ⟨hl, fun l hm => ?_⟩, ?_⟩
  · obtain ⟨_, h1, h2⟩ := allF_ok h.sys l hm
    rw [← graphF_zero] at hm
    have := hq l hm
    show pt.getD (plc bs.length l.t) 0 ≤ pt.getD (plc bs.length l.f) 0 + l.m
    rw [hg _ (hpl (by omega)), hg _ (hpl (by omega))]
    omega
  · rw [← plc_at hl ha, ← plc_at hl hb, hg _ (hpl ha.2), hg _ (hpl hb.2), he]
    omega

/-- A system with an allowed point does not contradict itself. -/
theorem allowed_calm {bs : List (Int × Int)} {ls : List Lnk} {pt : List Int} (hs : SysOK bs ls) (ha : (allowsF bs ls pt).2 = true) : Calm bs ls 0 := by
  have := ((allows_iff hs).1 ha).2
  rw [← graphF_zero] at this
  exact calm_of hs this

theorem seen_none {bs : List (Int × Int)} {ls : List Lnk} {a b : Int} {form den : List (Int × Int)} {R : SeenS} (hs : SysOK bs ls) (hc : ¬ Calm bs ls 0) (h : SeenG bs ls a b form den (InBox bs) R) : R.some = false := by
  cases hb : R.some with
  | false => rfl
  | true =>
    obtain ⟨q, ⟨_, hq⟩, _⟩ := h.lo_ hb
    exact absurd (allowed_calm hs hq) hc

theorem seen_some {bs : List (Int × Int)} {ls : List Lnk} {a b : Int} {form den : List (Int × Int)} {R : SeenS} (hw : NetW bs ls) (h : SeenG bs ls a b form den (InBox bs) R) : R.some = true := by
  cases hb : R.some with
  | true => rfl
  | false =>
    obtain ⟨pt, hpt, _⟩ := most_att hw (a := -1) (b := -1) ⟨by omega, by omega⟩ ⟨by omega, by omega⟩
    exact absurd ⟨allows_inBox hw.sys hpt, hpt⟩ ((h.zero hb).2 pt)

theorem quo_eq {vp wp p q n d : Int} (h1 : q * n ≤ p * d) (h2 : vp * d ≤ n * wp) (h3 : vp * q = wp * p) (hw : 1 ≤ wp) (hq : 1 ≤ q) : p * d = n * q := by
  refine Int.le_antisymm ?_ (by rw [Int.mul_comm n q]; exact h1)
  have a := Int.mul_le_mul_of_nonneg_right h2 (show 0 ≤ q by omega)
  have e1 : vp * d * q = wp * p * d := by rw [Int.mul_assoc, Int.mul_comm d q, ← Int.mul_assoc, h3]
  have e2 : n * wp * q = wp * (n * q) := by rw [Int.mul_comm n wp, Int.mul_assoc]
  rw [e1, e2, Int.mul_assoc] at a
  exact Int.le_of_mul_le_mul_left a (by omega)

/-- What is seen is what the net answers. -/
theorem seen_law {bs : List (Int × Int)} {ls : List Lnk} {a b : Int} {form den : List (Int × Int)} {R : SeenS} (hw : NetW bs ls) (ha : -1 ≤ a ∧ a < bs.length) (hb : -1 ≤ b ∧ b < bs.length) (h : SeenG bs ls a b form den (InBox bs) R) :
    R.lo = -mostF bs.length (graphF bs ls 0) b a ∧ R.hi = mostF bs.length (graphF bs ls 0) a b ∧
    (∀ v pt, (allowsF bs ls pt).2 = true → 1 * valM form pt = v → (∀ pt', (allowsF bs ls pt').2 = true → 1 * valM form pt' ≤ v) → v = R.most) ∧
    (∀ v pt, (allowsF bs ls pt).2 = true → -1 * valM form pt = v → (∀ pt', (allowsF bs ls pt').2 = true → -1 * valM form pt' ≤ v) → -v = R.least) := by
  have hs := seen_some hw h
  have hall : ∀ q, (allowsF bs ls q).2 = true → InBox bs q ∧ (allowsF bs ls q).2 = true := fun q hq => ⟨allows_inBox hw.sys hq, hq⟩
  refine ⟨?_, ?_, fun v pt hpt hv hm => ?_, fun v pt hpt hv hm => ?_⟩
  · obtain ⟨q, ⟨_, hq⟩, he⟩ := h.lo_ hs
    obtain ⟨pt, hpt, hd⟩ := most_att hw hb ha
    have h1 := ((h.rng hs pt (hall pt hpt)).1).1
    have h2 := (sharp_diff hw hq ha hb).1
    omega
  · obtain ⟨q, ⟨_, hq⟩, he⟩ := h.hi_ hs
    obtain ⟨pt, hpt, hd⟩ := most_att hw ha hb
    have h1 := ((h.rng hs pt (hall pt hpt)).1).2
    have h2 := (sharp_diff hw hq ha hb).2
    omega
  · obtain ⟨q, ⟨_, hq⟩, he⟩ := h.mo_ hs
    have h1 := ((h.rng hs pt (hall pt hpt)).2).2
    have h2 := hm q hq
    omega
  · obtain ⟨q, ⟨_, hq⟩, he⟩ := h.le_ hs
    have h1 := ((h.rng hs pt (hall pt hpt)).2).1
    have h2 := hm q hq
    omega

end Go.Proofs

