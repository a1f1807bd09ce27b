/-
  A part of the proof that a law answers true: lemmas of a symbolic walk, plain functions, or contracts of the functions walked (Wh, Wi, Wj, Wk, Wl, Pm5, Pm6, Pm7, X1, Pm8, X2, X3, Pm11, X6, X7, X8, Pm9, Pm10, Sx30, X4, W2, X5, X9, Xa, Pm13, Pm14, Pm15, Xj, Xk, Pm16, Xl, Xm, Xn, Xo, Pm19, B1, Pm20, Pm21). Conditions: none.
-/
import Derived.Test.YtagedjfjcnemoaaGreatPart12
import Derived.Test.YtagedjfjcnemoaaGreatPart09
import Derived.Test.YtagedjfjcnemoaaGreatPart11
import Derived.Lib.SlicesCompact
import Derived.Test.YtagedjfjcnemoaaGreatPart06
set_option maxRecDepth 100000
set_option linter.unusedVariables false
set_option linter.unusedSimpArgs false
namespace Go.Proofs
open Go.Sx

end Go.Proofs

namespace Go.Proofs
open Go.Sx

end Go.Proofs

namespace Go.Proofs
open Go.Sx

end Go.Proofs

namespace Go.Proofs
open Go.Sx

end Go.Proofs

namespace Go.Proofs
open Go.Sx

end Go.Proofs

/-
  Plain lemmas, part 5: relaxing arcs until nothing changes. A clock tells when each place was changed last; if a place is changed in a late round, the arcs over which the places were reached last form a cycle, and its sum is negative. Conditions: none; definitions and plain lemmas.
-/
namespace Go
namespace Proofs

structure Edg where
  k : Int
  a : Nat
  b : Nat
  w : Int

def relE (T : Tr) (e : Edg) : Tr := relax e.k e.a e.b e.w T

def edgs (n : Nat) (rev : Nat → Bool) : Nat → List Lnk → List Edg
  | _, [] => []
  | i, l :: r => ⟨2 * i, plc n l.f, plc n l.t, l.m⟩ :: ((if rev i then [⟨2 * i + 1, plc n l.t, plc n l.f, -l.m⟩] else []) ++ edgs n rev (i + 1) r)

theorem passF_edgs (n : Nat) (rev : Nat → Bool) : ∀ (xs : List Lnk) (i : Nat) (T : Tr), passF n rev i xs T = (edgs n rev i xs).foldl relE T
  | [], _, _ => rfl
  | l :: r, i, T => by
    simp only [passF, edgs, List.foldl_cons, List.foldl_append]
    rw [passF_edgs n rev r]
    congr 1
    unfold arcF
    cases rev i <;> rfl

theorem getD_set {α : Type} {xs : List α} {b v : Nat} {x d : α} (h : b < xs.length) : (xs.set b x).getD v d = if v = b then x else xs.getD v d := by
  simp only [List.getD_eq_getElem?_getD, List.getElem?_set]
  by_cases hv : b = v
  · subst hv; simp [h]
  · rw [if_neg hv, if_neg (fun h => hv h.symm)]

def OKE (e : Edg) (T : Tr) : Prop := T.there.getD e.b false = true ∧ T.sum.getD e.b 0 ≤ T.sum.getD e.a 0 + e.w

structure BF (E : List Edg) (N src r j : Nat) (ts : Nat → Nat) (T : Tr) : Prop where
  ls : T.sum.length = N
  lt : T.there.length = N
  ll : T.last.length = N
  so : src < N ∧ T.there.getD src false = true ∧ T.sum.getD src 0 ≤ 0 ∧ (T.sum.getD src 0 < 0 ∨ T.last.getD src (-1) = -1)
  low : ∀ q : Nat → Int, (∀ e ∈ E, q e.b ≤ q e.a + e.w) → ∀ v, v < N → T.there.getD v false = true → q v ≤ q src + T.sum.getD v 0
  root : ∀ v, v < N → T.last.getD v (-1) = -1 → (T.there.getD v false = true → v = src) ∧ ts v = 0
  par : ∀ v, v < N → T.last.getD v (-1) ≠ -1 → T.there.getD v false = true ∧ 1 ≤ ts v ∧ ∃ e ∈ E, e.k = T.last.getD v (-1) ∧ e.b = v ∧ T.there.getD e.a false = true ∧
    ts v ≤ ts e.a + E.length ∧ (T.sum.getD e.a 0 + e.w < T.sum.getD v 0 ∨ (T.sum.getD e.a 0 + e.w = T.sum.getD v 0 ∧ ts e.a < ts v))
  done : ∀ i e, E[i]? = some e → T.there.getD e.a false = true → (i < j → ts e.a ≤ r * E.length + i → OKE e T) ∧ (j ≤ i → ts e.a + E.length ≤ r * E.length + i → OKE e T)
  tm : ∀ v, ts v ≤ r * E.length + j

def EOK (N : Nat) (E : List Edg) : Prop := ∀ e ∈ E, e.a < N ∧ e.b < N ∧ 0 ≤ e.k

def relC (e : Edg) (T : Tr) : Bool := T.there.getD e.a false && (!T.there.getD e.b false || decide (T.sum.getD e.a 0 + e.w < T.sum.getD e.b 0))

theorem relC_no {e : Edg} {T : Tr} (h : relC e T = false) (ha : T.there.getD e.a false = true) : OKE e T := by
  unfold relC at h
  rw [ha, Bool.true_and, Bool.or_eq_false_iff] at h
  refine ⟨by simpa using h.1, ?_⟩
  have := of_decide_eq_false h.2
  omega

theorem relE_no {e : Edg} {T : Tr} (h : relC e T = false) : relE T e = T := by
  unfold relE relax
  unfold relC at h
  rw [h]; simp

theorem relE_yes {e : Edg} {T : Tr} (h : relC e T = true) : relE T e = ⟨T.sum.set e.b (T.sum.getD e.a 0 + e.w), T.there.set e.b true, T.last.set e.b e.k, e.b⟩ := by
  unfold relE relax
  unfold relC at h
  rw [h]; simp

theorem relC_yes {e : Edg} {T : Tr} (h : relC e T = true) : T.there.getD e.a false = true ∧ (T.there.getD e.b false = true → T.sum.getD e.a 0 + e.w < T.sum.getD e.b 0) := by
  unfold relC at h
  rw [Bool.and_eq_true, Bool.or_eq_true] at h
  refine ⟨h.1, fun hb => ?_⟩
  rcases h.2 with h2 | h2
  · rw [hb] at h2; cases h2
  · exact of_decide_eq_true h2

theorem BF.step {E : List Edg} {N src r j : Nat} {ts : Nat → Nat} {T : Tr} {e : Edg} (h : BF E N src r j ts T) (hE : EOK N E) (he : E[j]? = some e) :
    (relC e T = false ∧ BF E N src r (j + 1) ts T) ∨
    (relC e T = true ∧ BF E N src r (j + 1) (fun v => if v = e.b then r * E.length + j + 1 else ts v) (relE T e)) := by
  have hm : e ∈ E := List.mem_of_getElem? he
  have hjl : j < E.length := (List.getElem?_eq_some_iff.1 he).1
  obtain ⟨ha, hb, hk⟩ := hE e hm
  cases hc : relC e T with
  | false =>
    refine .inl ⟨rfl, h.ls, h.lt, h.ll, h.so, h.low, h.root, h.par, fun i e' hi ht => ⟨fun h1 h2 => ?_, fun h1 h2 => (h.done i e' hi ht).2 (by omega) h2⟩, fun v => by have := h.tm v; omega⟩
    by_cases hij : i = j
    · subst hij
      rw [he] at hi
      obtain rfl := Option.some.inj hi
      exact relC_no hc ht
    · exact (h.done i e' hi ht).1 (by omega) h2
  | true =>
    refine .inr ⟨rfl, ?_⟩
    obtain ⟨hta, htb⟩ := relC_yes hc
    rw [relE_yes hc]
    have hS : ∀ v, (T.sum.set e.b (T.sum.getD e.a 0 + e.w)).getD v 0 = if v = e.b then T.sum.getD e.a 0 + e.w else T.sum.getD v 0 := fun v => getD_set (by rw [h.ls]; exact hb)
    have hT : ∀ v, (T.there.set e.b true).getD v false = if v = e.b then true else T.there.getD v false := fun v => getD_set (by rw [h.lt]; exact hb)
    have hL : ∀ v, (T.last.set e.b e.k).getD v (-1) = if v = e.b then e.k else T.last.getD v (-1) := fun v => getD_set (by rw [h.ll]; exact hb)
    have hT1 : ∀ v, T.there.getD v false = true → (T.there.set e.b true).getD v false = true := fun v hv => by
      rw [hT]; split
      · rfl
      · exact hv
    refine ⟨by simp [h.ls], by simp [h.lt], by simp [h.ll], ⟨h.so.1, hT1 _ h.so.2.1, ?_⟩, ?_, ?_, ?_, ?_, ?_⟩
    · simp only [hS, hL]
      by_cases hs : src = e.b
      · rw [if_pos hs, if_pos hs]
        have h1 := htb (hs ▸ h.so.2.1)
        have h2 := h.so.2.2.1
        rw [hs] at h2
        exact ⟨by omega, .inl (by omega)⟩
      · rw [if_neg hs, if_neg hs]; exact h.so.2.2
    · intro q hq v hv ht
      simp only [hS]
      by_cases hvb : v = e.b
      · rw [if_pos hvb]
        have h1 := h.low q hq e.a ha hta
        have h2 := hq e hm
        rw [hvb]; omega
      · rw [if_neg hvb]
        simp only [hT, if_neg hvb] at ht
        exact h.low q hq v hv ht
    · intro v hv hl
      simp only [hL] at hl
      by_cases hvb : v = e.b
      · rw [if_pos hvb] at hl; omega
      · rw [if_neg hvb] at hl
        simp only [hT, if_neg hvb]
        exact h.root v hv hl
    · intro v hv hl
      simp only [hL] at hl
      by_cases hvb : v = e.b
      · subst hvb
        simp only [if_pos]
        refine ⟨by simp only [hT, if_pos], by omega, e, hm, by simp only [hL, if_pos], rfl, hT1 _ hta, ?_, ?_⟩
        · by_cases hab : e.a = e.b
          · rw [if_pos hab]; omega
          · rw [if_neg hab]
            rcases Nat.lt_or_ge (r * E.length + j) (ts e.a + E.length) with h1 | h1
            · omega
            · have := (h.done j e he hta).2 (Nat.le_refl _) h1
              have := htb this.1
              have := this
              unfold OKE at *
              omega
        · simp only [hS, if_pos]
          by_cases hab : e.a = e.b
          · left
            rw [if_pos hab]
            have := htb (hab ▸ hta)
            rw [hab] at this ⊢
            omega
          · right
            rw [if_neg hab, if_neg hab]
            have := h.tm e.a
            exact ⟨rfl, by omega⟩
      · rw [if_neg hvb] at hl
        obtain ⟨h1, h2, e', he', h3, h4, h5, h6, h7⟩ := h.par v hv hl
        simp only [if_neg hvb]
        refine ⟨hT1 _ h1, h2, e', he', by simp only [hL, if_neg hvb]; exact h3, h4, hT1 _ h5, ?_, ?_⟩
        · by_cases hab : e'.a = e.b
          · rw [if_pos hab]
            have := h.tm v
            omega
          · rw [if_neg hab]; exact h6
        · simp only [hS, if_neg hvb]
          by_cases hab : e'.a = e.b
          · rw [if_pos hab]
            have := htb (hab ▸ h5)
            rw [hab] at h7
            left
            rcases h7 with h7 | h7 <;> omega
          · rw [if_neg hab, if_neg hab]; exact h7
    · intro i e' hi ht
      have hil : i < E.length := (List.getElem?_eq_some_iff.1 hi).1
      have hup : e'.a ≠ e.b → OKE e' T → OKE e' ⟨T.sum.set e.b (T.sum.getD e.a 0 + e.w), T.there.set e.b true, T.last.set e.b e.k, e.b⟩ := by
        intro hne ho
        refine ⟨hT1 _ ho.1, ?_⟩
        simp only [hS, if_neg hne]
        split
        · rename_i hbb
          have := htb (hbb ▸ ho.1)
          have := ho.2
          rw [hbb] at this
          omega
        · exact ho.2
      by_cases hab : e'.a = e.b
      · simp only [if_pos hab]
        exact ⟨fun h1 h2 => by omega, fun h1 h2 => by omega⟩
      · simp only [if_neg hab]
        have ht' : T.there.getD e'.a false = true := by
          simp only [hT, if_neg hab] at ht; exact ht
        have hd := h.done i e' hi ht'
        refine ⟨fun h1 h2 => ?_, fun h1 h2 => hup hab (hd.2 (by omega) h2)⟩
        by_cases hij : i = j
        · subst hij
          rw [he] at hi
          obtain rfl := Option.some.inj hi
          refine ⟨by simp only [hT, if_pos], ?_⟩
          simp only [hS, if_pos, if_neg hab]
          omega
        · exact hup hab (hd.1 (by omega) h2)
    · intro v
      have := h.tm v
      show (if v = e.b then r * E.length + j + 1 else ts v) ≤ _
      split <;> omega

def Fix (E : List Edg) (T : Tr) : Prop := ∀ e ∈ E, T.there.getD e.a false = true → OKE e T

theorem BF.fold {E : List Edg} {N src r : Nat} (hE : EOK N E) : ∀ (suf pre : List Edg) (ts : Nat → Nat) (T : Tr), E = pre ++ suf → BF E N src r pre.length ts T →
    ∃ ts', BF E N src r E.length ts' (suf.foldl relE T) ∧ ((suf.foldl relE T = T ∧ (∀ e ∈ suf, relC e T = false)) ∨ (∃ v, v < N ∧ (suf.foldl relE T).ch = ((v : Nat) : Int) ∧ r * E.length + 1 ≤ ts' v))
  | [], pre, ts, T, hp, h => ⟨ts, by rw [hp, List.append_nil] at *; exact h, .inl ⟨rfl, fun e he => by cases he⟩⟩
  | e :: suf, pre, ts, T, hp, h => by
    have he : E[pre.length]? = some e := by rw [hp]; simp
    have hm : e ∈ E := List.mem_of_getElem? he
    have hp2 : E = (pre ++ [e]) ++ suf := by rw [hp]; simp
    have hl2 : (pre ++ [e]).length = pre.length + 1 := by simp
    rw [List.foldl_cons]
    rcases h.step hE he with ⟨hc, hB⟩ | ⟨hc, hB⟩
    · rw [relE_no hc]
      rw [← hl2] at hB
      obtain ⟨ts', hB', hr⟩ := BF.fold hE suf (pre ++ [e]) ts T hp2 hB
      refine ⟨ts', hB', ?_⟩
      rcases hr with ⟨h1, h2⟩ | h1
      · refine .inl ⟨h1, fun x hx => ?_⟩
        rcases List.mem_cons.1 hx with rfl | hx
        · exact hc
        · exact h2 x hx
      · exact .inr h1
    · have key : ∀ (suf pre : List Edg) (ts : Nat → Nat) (T : Tr) (v : Nat), v < N → T.ch = (v : Int) → r * E.length + 1 ≤ ts v → E = pre ++ suf → BF E N src r pre.length ts T →
          ∃ ts', BF E N src r E.length ts' (suf.foldl relE T) ∧ (∃ v, v < N ∧ (suf.foldl relE T).ch = ((v : Nat) : Int) ∧ r * E.length + 1 ≤ ts' v) := by
        intro suf
        induction suf with
        | nil => intro pre ts T v hv hch hts hp h; exact ⟨ts, by rw [hp, List.append_nil] at *; exact h, v, hv, hch, hts⟩
        | cons e suf ih =>
          intro pre ts T v hv hch hts hp h
          have he : E[pre.length]? = some e := by rw [hp]; simp
          have hm : e ∈ E := List.mem_of_getElem? he
          have hp2 : E = (pre ++ [e]) ++ suf := by rw [hp]; simp
          have hl2 : (pre ++ [e]).length = pre.length + 1 := by simp
          rw [List.foldl_cons]
          rcases h.step hE he with ⟨hc, hB⟩ | ⟨hc, hB⟩
          · rw [relE_no hc]
            rw [← hl2] at hB
            exact ih _ _ _ v hv hch hts hp2 hB
          · rw [← hl2] at hB
            refine ih _ _ _ e.b (hE e hm).2.1 (by rw [relE_yes hc]) ?_ hp2 hB
            simp only [if_pos]; omega
      rw [← hl2] at hB
      obtain ⟨ts', hB', hr⟩ := key suf _ _ _ e.b (hE e hm).2.1 (by rw [relE_yes hc]) (by simp only [if_pos]; omega) hp2 hB
      exact ⟨ts', hB', .inr hr⟩

theorem BF.next {E : List Edg} {N src r : Nat} {ts : Nat → Nat} {T : Tr} (h : BF E N src r E.length ts T) : BF E N src (r + 1) 0 ts T := by
  refine ⟨h.ls, h.lt, h.ll, h.so, h.low, h.root, h.par, fun i e hi ht => ⟨fun h1 _ => by omega, fun _ h2 => (h.done i e hi ht).1 (List.getElem?_eq_some_iff.1 hi).1 ?_⟩, fun v => ?_⟩
  · rw [Nat.add_mul] at h2; omega
  · have := h.tm v
    rw [Nat.add_mul]; omega

theorem BF.setCh {E : List Edg} {N src r j : Nat} {ts : Nat → Nat} {T : Tr} (h : BF E N src r j ts T) (c : Int) : BF E N src r j ts { T with ch := c } :=
  ⟨h.ls, h.lt, h.ll, h.so, h.low, h.root, h.par, h.done, h.tm⟩

theorem BF.start {E : List Edg} {n src : Nat} (hs : src ≤ n) : BF E (n + 1) src 0 0 (fun _ => 0) (startF n src) := by
  have hT : ∀ v, ((List.replicate (n + 1) false).set src true).getD v false = true → v = src := by
    intro v hv
    rw [getD_set (by simp; omega)] at hv
    split at hv
    · assumption
    · rw [List.getD_eq_getElem?_getD, List.getElem?_replicate] at hv
      split at hv <;> simp at hv
  have hlast : ∀ v, (List.replicate (n + 1) (-1 : Int)).getD v (-1) = -1 := by
    intro v
    rw [List.getD_eq_getElem?_getD, List.getElem?_replicate]
    split <;> rfl
  have h0 : ∀ v, (List.replicate (n + 1) (0 : Int)).getD v 0 = 0 := by
    intro v
    rw [List.getD_eq_getElem?_getD, List.getElem?_replicate]
    split <;> rfl
  refine ⟨by simp [startF], by simp [startF], by simp [startF], ⟨by omega, ?_, ?_, .inr (hlast src)⟩, ?_, ?_, ?_, ?_, ?_⟩
  · simp only [startF]
    rw [getD_set (by simp; omega), if_pos rfl]
  · simp only [startF, h0]; exact Int.le_refl _
  · intro q _ v _ ht
    have := hT v ht
    simp only [startF, h0]
    rw [this]; omega
  · intro v _ _
    exact ⟨hT v, rfl⟩
  · intro v _ h
    exact absurd (hlast v) h
  · intro i e hi ht
    have := (List.getElem?_eq_some_iff.1 hi).1
    exact ⟨fun h => by omega, fun _ h => by omega⟩
  · intro v; exact Nat.zero_le _

theorem BF.rounds {n : Nat} {rev : Nat → Bool} {arcs : List Lnk} {E : List Edg} {N src : Nat} (hEd : E = edgs n rev 0 arcs) (hE : EOK N E) : ∀ (k r : Nat) (ts : Nat → Nat) (T : Tr), BF E N src r 0 ts T →
    ∃ ts' r', BF E N src r' 0 ts' (roundsF n rev arcs k T).1 ∧ (((roundsF n rev arcs k T).2 = -1 ∧ Fix E (roundsF n rev arcs k T).1) ∨
      (∃ v, v < N ∧ (roundsF n rev arcs k T).2 = ((v : Nat) : Int) ∧ (r + k) * E.length + 1 ≤ ts' v)) := by
  have pass : ∀ (r : Nat) (ts : Nat → Nat) (T : Tr), BF E N src r 0 ts T → ∃ ts', BF E N src (r + 1) 0 ts' (passF n rev 0 arcs { T with ch := -1 }) ∧
      (((passF n rev 0 arcs { T with ch := -1 }).ch = -1 ∧ Fix E (passF n rev 0 arcs { T with ch := -1 })) ∨ (∃ v, v < N ∧ (passF n rev 0 arcs { T with ch := -1 }).ch = ((v : Nat) : Int) ∧ r * E.length + 1 ≤ ts' v)) := by
    intro r ts T h
    rw [passF_edgs, ← hEd]
    obtain ⟨ts', hB, hr⟩ := BF.fold hE E [] ts _ rfl (h.setCh (-1))
    refine ⟨ts', hB.next, ?_⟩
    rcases hr with ⟨h1, h2⟩ | h1
    · rw [h1]
      exact .inl ⟨rfl, fun e he ht => relC_no (h2 e he) ht⟩
    · exact .inr h1
  intro k
  induction k with
  | zero =>
    intro r ts T h
    obtain ⟨ts', hB, hr⟩ := pass r ts T h
    exact ⟨ts', r + 1, hB, hr⟩
  | succ k ih =>
    intro r ts T h
    obtain ⟨ts', hB, hr⟩ := pass r ts T h
    by_cases hd : (passF n rev 0 arcs { T with ch := -1 }).ch = -1
    · rw [roundsF_done hd]
      rcases hr with hr | ⟨v, _, hv, _⟩
      · exact ⟨ts', r + 1, hB, .inl ⟨rfl, hr.2⟩⟩
      · rw [hd] at hv; omega
    · rw [roundsF_next hd]
      obtain ⟨ts2, r2, hB2, hr2⟩ := ih (r + 1) ts' _ hB
      refine ⟨ts2, r2, hB2, ?_⟩
      rw [show r + (k + 1) = r + 1 + k from by omega]
      exact hr2

theorem pigeon : ∀ (N : Nat) (f : Nat → Nat), (∀ i, i ≤ N → f i < N) → ∃ i j, i < j ∧ j ≤ N ∧ f i = f j
  | 0, f, h => by have := h 0 (Nat.le_refl _); omega
  | N + 1, f, h => by
    by_cases hx : ∃ i, i < N + 1 ∧ f i = f (N + 1)
    · obtain ⟨i, hi, he⟩ := hx
      exact ⟨i, N + 1, hi, Nat.le_refl _, he⟩
    · have hne : ∀ i, i < N + 1 → f i ≠ f (N + 1) := fun i hi he => hx ⟨i, hi, he⟩
      obtain ⟨i, j, hij, hj, he⟩ := pigeon N (fun i => if f i = N then f (N + 1) else f i) (fun i hi => by
        show (if f i = N then f (N + 1) else f i) < N
        have h1 := h i (by omega)
        have h2 := h (N + 1) (Nat.le_refl _)
        have h3 := hne i (by omega)
        split <;> omega)
      refine ⟨i, j, hij, by omega, ?_⟩
      have h1 := hne i (by omega)
      have h2 := hne j (by omega)
      have he : (if f i = N then f (N + 1) else f i) = (if f j = N then f (N + 1) else f j) := he
      split at he <;> split at he <;> omega

def backF (G : Int → Edg) (T : Tr) (v : Nat) : Nat := (G (T.last.getD v (-1))).a
def backN (G : Int → Edg) (T : Tr) (v : Nat) : Nat → Nat
  | 0 => v
  | j + 1 => backF G T (backN G T v j)

theorem BF.back {E : List Edg} {N src r j : Nat} {ts : Nat → Nat} {T : Tr} {G : Int → Edg} (h : BF E N src r j ts T) (hG : ∀ e ∈ E, G e.k = e) {v : Nat} (hv : v < N) (hl : T.last.getD v (-1) ≠ -1) :
    G (T.last.getD v (-1)) ∈ E ∧ (G (T.last.getD v (-1))).k = T.last.getD v (-1) ∧ (G (T.last.getD v (-1))).b = v ∧ T.there.getD (backF G T v) false = true ∧ ts v ≤ ts (backF G T v) + E.length ∧
      (T.sum.getD (backF G T v) 0 + (G (T.last.getD v (-1))).w < T.sum.getD v 0 ∨ (T.sum.getD (backF G T v) 0 + (G (T.last.getD v (-1))).w = T.sum.getD v 0 ∧ ts (backF G T v) < ts v)) := by
  obtain ⟨h1, h2, e, he, h3, h4, h5, h6, h7⟩ := h.par v hv hl
  unfold backF
  rw [← h3, hG e he]
  exact ⟨he, rfl, h4, h5, h6, h7⟩

theorem BF.last_ne {E : List Edg} {N src r j : Nat} {ts : Nat → Nat} {T : Tr} (h : BF E N src r j ts T) {v : Nat} (hv : v < N) (ht : 1 ≤ ts v) : T.last.getD v (-1) ≠ -1 := fun hl => by
  have := (h.root v hv hl).2
  omega

theorem BF.chain {E : List Edg} {N src r j : Nat} {ts : Nat → Nat} {T : Tr} {G : Int → Edg} (h : BF E N src r j ts T) (hE : EOK N E) (hG : ∀ e ∈ E, G e.k = e) {v R : Nat} (hv : v < N) (ht : R * E.length + 1 ≤ ts v) :
    ∀ m, m ≤ R → backN G T v m < N ∧ (R - m) * E.length + 1 ≤ ts (backN G T v m) ∧ T.last.getD (backN G T v m) (-1) ≠ -1 := by
  intro m
  induction m with
  | zero => intro _; exact ⟨hv, ht, h.last_ne hv (by show 1 ≤ ts v; omega)⟩
  | succ m ih =>
    intro hm
    obtain ⟨h1, h2, h3⟩ := ih (by omega)
    obtain ⟨g1, g2, g3, g4, g5, g6⟩ := h.back hG h1 h3
    have hn : backN G T v (m + 1) < N := (hE _ g1).1
    have e : (R - m) * E.length = (R - (m + 1)) * E.length + E.length := by
      rw [show R - m = (R - (m + 1)) + 1 from by omega, Nat.add_mul]; omega
    have ht2 : (R - (m + 1)) * E.length + 1 ≤ ts (backN G T v (m + 1)) := by
      show _ ≤ ts (backF G T (backN G T v m))
      omega
    exact ⟨hn, ht2, h.last_ne hn (by omega)⟩

theorem BF.fall {E : List Edg} {N src r j : Nat} {ts : Nat → Nat} {T : Tr} {G : Int → Edg} (h : BF E N src r j ts T) (hG : ∀ e ∈ E, G e.k = e) {v i m : Nat} {Q : Nat → Int} (hall : ∀ k, i ≤ k → k < i + m → backN G T v k < N ∧ T.last.getD (backN G T v k) (-1) ≠ -1)
    (hq : ∀ k, i ≤ k → k < i + m → Q k ≤ Q (k + 1) + (G (T.last.getD (backN G T v k) (-1))).w) (hm : 1 ≤ m) :
    T.sum.getD (backN G T v (i + m)) 0 - Q (i + m) < T.sum.getD (backN G T v i) 0 - Q i ∨
    (T.sum.getD (backN G T v (i + m)) 0 - Q (i + m) = T.sum.getD (backN G T v i) 0 - Q i ∧ ts (backN G T v (i + m)) < ts (backN G T v i)) := by
  induction m with
  | zero => omega
  | succ m ih =>
    obtain ⟨h1, h2⟩ := hall (i + m) (by omega) (by omega)
    obtain ⟨g1, g2, g3, g4, g5, g6⟩ := h.back hG h1 h2
    have hqq := hq (i + m) (by omega) (by omega)
    have e : backN G T v (i + (m + 1)) = backF G T (backN G T v (i + m)) := rfl
    rw [e]
    have e2 : Q (i + (m + 1)) = Q (i + m + 1) := rfl
    rw [e2]
    rcases Nat.eq_zero_or_pos m with rfl | hm
    · simp only [Nat.add_zero] at *
      rcases g6 with g6 | g6 <;> omega
    · have := ih (fun k hk1 hk2 => hall k hk1 (by omega)) (fun k hk1 hk2 => hq k hk1 (by omega)) hm
      rcases g6 with g6 | g6 <;> rcases this with this | this <;> omega

end Proofs
end Go

/-
  Plain lemmas, part 6: numbers that no arc contradicts, and what follows for relaxing. Conditions: none; definitions and plain lemmas.
-/
namespace Go
namespace Proofs

def keyE (n : Nat) (arcs : List Lnk) (k : Int) : Edg := match arcs[k.toNat / 2]? with
  | some l => if k.toNat % 2 = 0 then ⟨k, plc n l.f, plc n l.t, l.m⟩ else ⟨k, plc n l.t, plc n l.f, -l.m⟩
  | none => ⟨k, 0, 0, 0⟩

theorem edgs_mem {n : Nat} {rev : Nat → Bool} {e : Edg} : ∀ {xs : List Lnk} {i : Nat}, e ∈ edgs n rev i xs ↔
    ∃ j l, xs[j]? = some l ∧ (e = ⟨2 * ((i + j : Nat) : Int), plc n l.f, plc n l.t, l.m⟩ ∨ (rev (i + j) = true ∧ e = ⟨2 * ((i + j : Nat) : Int) + 1, plc n l.t, plc n l.f, -l.m⟩))
  | [], i => by simp [edgs]
  | x :: xs, i => by
    simp only [edgs, List.mem_cons, List.mem_append]
    rw [edgs_mem (xs := xs) (i := i + 1)]
    constructor
    · rintro (h | h | ⟨j, l, hj, h⟩)
      · exact ⟨0, x, rfl, .inl h⟩
      · cases hr : rev i with
        | false => rw [hr] at h; simp at h
        | true =>
          rw [hr] at h
          simp at h
          exact ⟨0, x, rfl, .inr ⟨hr, h⟩⟩
      · refine ⟨j + 1, l, by simpa using hj, ?_⟩
        rw [show i + (j + 1) = i + 1 + j from by omega]
        exact h
    · rintro ⟨j, l, hj, h⟩
      cases j with
      | zero =>
        simp at hj
        subst hj
        rcases h with h | ⟨hr, h⟩
        · exact .inl h
        · refine .inr (.inl ?_)
          have hr : rev i = true := hr
          rw [hr]; simp; exact h
      | succ j =>
        refine .inr (.inr ⟨j, l, by simpa using hj, ?_⟩)
        rw [show i + 1 + j = i + (j + 1) from by omega]
        exact h

theorem edgs_key {n : Nat} {rev : Nat → Bool} {arcs : List Lnk} : ∀ e ∈ edgs n rev 0 arcs, keyE n arcs e.k = e := by
  intro e he
  obtain ⟨j, l, hj, h | ⟨_, h⟩⟩ := edgs_mem.1 he
  · subst h
    unfold keyE
    have h1 : (2 * ((0 + j : Nat) : Int)).toNat = 2 * j := by omega
    simp only [h1]
    rw [show 2 * j / 2 = j from by omega, hj]
    simp only [show 2 * j % 2 = 0 from by omega, if_true]
  · subst h
    unfold keyE
    have h1 : (2 * ((0 + j : Nat) : Int) + 1).toNat = 2 * j + 1 := by omega
    simp only [h1]
    rw [show (2 * j + 1) / 2 = j from by omega, hj]
    simp only [show (2 * j + 1) % 2 = 1 from by omega]
    rfl

theorem edgs_ok {n : Nat} {rev : Nat → Bool} {arcs : List Lnk} (h : ∀ l ∈ arcs, ArcOK n l) : EOK (n + 1) (edgs n rev 0 arcs) := by
  intro e he
  obtain ⟨j, l, hj, h1⟩ := edgs_mem.1 he
  obtain ⟨h2, h3, h4⟩ := h l (List.mem_of_getElem? hj)
  have := plc_le h2.2
  have := plc_le h3.2
  rcases h1 with h1 | ⟨_, h1⟩ <;> subst h1 <;> refine ⟨?_, ?_, ?_⟩ <;> simp only <;> omega

abbrev noR : Nat → Bool := fun _ => false

end Proofs
end Go

/-
  Plain lemmas, part 7: relaxing as the reference implementation does it, in one list, with a far number for what is not reached; it comes to the same. Conditions: none; definitions and plain lemmas.
-/
namespace Go
namespace Proofs

end Proofs
end Go

namespace Go.Proofs
open Go.Sx

end Go.Proofs

/-
  Plain lemmas, part 8: sizes in the reference implementation's relaxing. Conditions: none; definitions and plain lemmas.
-/
namespace Go
namespace Proofs

end Proofs
end Go

namespace Go.Proofs
open Go.Sx

end Go.Proofs

namespace Go.Proofs
open Go.Sx

end Go.Proofs

/-
  Plain lemmas, part 11: the way back from a place to the start, where relaxing has ended. Conditions: none; definitions and plain lemmas.
-/
namespace Go
namespace Proofs

theorem key_befF {n : Nat} {rev : Nat → Bool} {arcs : List Lnk} {k : Nat} {e : Edg} (he : e ∈ edgs n rev 0 arcs) (hk : e.k = (k : Int)) :
    keyE n arcs k = e ∧ befF n arcs k = some e.a ∧ ∃ l, arcs[k / 2]? = some l ∧ ((k % 2 = 0 ∧ e.a = plc n l.f ∧ e.b = plc n l.t ∧ e.w = l.m) ∨ (k % 2 = 1 ∧ rev (k / 2) = true ∧ e.a = plc n l.t ∧ e.b = plc n l.f ∧ e.w = -l.m)) := by
  refine ⟨by rw [← hk]; exact edgs_key e he, ?_⟩
  obtain ⟨j, l, hj, h | ⟨hr, h⟩⟩ := edgs_mem.1 he
  · subst h
    have hk2 : k = 2 * j := by have : 2 * ((0 + j : Nat) : Int) = (k : Int) := hk; omega
    have e1 : k / 2 = j := by omega
    have e2 : k % 2 = 0 := by omega
    unfold befF
    rw [e1, hj, e2]
    exact ⟨rfl, l, rfl, .inl ⟨rfl, rfl, rfl, rfl⟩⟩
  · subst h
    have hk2 : k = 2 * j + 1 := by have : 2 * ((0 + j : Nat) : Int) + 1 = (k : Int) := hk; omega
    have e1 : k / 2 = j := by omega
    have e2 : k % 2 = 1 := by omega
    unfold befF
    rw [e1, hj, e2]
    rw [Nat.zero_add] at hr
    exact ⟨rfl, l, rfl, .inr ⟨rfl, hr, rfl, rfl, rfl⟩⟩

theorem nodup_len {N : Nat} {l : List Nat} (hn : l.Nodup) (hl : ∀ x ∈ l, x < N) : l.length ≤ N := by
  rcases Nat.lt_or_ge N l.length with h | h
  · exfalso
    obtain ⟨i, j, hij, hj, he⟩ := pigeon N (fun i => l.getD i 0) (fun i hi => by
      show l.getD i 0 < N
      have : i < l.length := by omega
      rw [List.getD_eq_getElem?_getD, List.getElem?_eq_getElem this]
      exact hl _ (List.getElem_mem this))
    have hi' : i < l.length := by omega
    have hj' : j < l.length := by omega
    simp only [List.getD_eq_getElem?_getD, List.getElem?_eq_getElem hi', List.getElem?_eq_getElem hj', Option.getD_some] at he
    have := List.pairwise_iff_getElem.1 hn i j hi' hj' hij
    exact this he
  · exact h

end Proofs
end Go

namespace Go.Proofs
open Go.Sx

end Go.Proofs

namespace Go.Proofs
open Go.Sx

end Go.Proofs

namespace Go.Proofs
open Go.Sx

structure RevSt (xs ys : List Lnk) (i : Nat) : Prop where
  len : ys.length = xs.length
  get : ∀ k, k < xs.length → ys[k]? = if k < i ∨ xs.length - i ≤ k then xs[xs.length - 1 - k]? else xs[k]?

theorem RevSt.zero (xs : List Lnk) : RevSt xs xs 0 := ⟨rfl, fun k hk => by rw [if_neg (by omega)]⟩

theorem RevSt.done {xs ys : List Lnk} {i : Nat} (h : RevSt xs ys i) (hi : ¬ (i : Int) < (xs.length : Int) - 1 - i) : ys = xs.reverse := by
  refine List.ext_getElem? fun k => ?_
  rcases Nat.lt_or_ge k xs.length with hk | hk
  · rw [List.getElem?_reverse hk, h.get k hk]
    split
    · rfl
    · congr 1; omega
  · rw [List.getElem?_eq_none (by rw [h.len]; exact hk), List.getElem?_eq_none (by simp; exact hk)]

theorem RevSt.step {xs ys : List Lnk} {i j : Nat} (h : RevSt xs ys i) (hij : i < j) (hj : j + 1 + i = xs.length) (h1 : i < ys.length) (h2 : j < ys.length) : RevSt xs ((ys.set i ys[j]).set j ys[i]) (i + 1) := by
  refine ⟨by simp [h.len], fun k hk => ?_⟩
  have gi := h.get i (by omega)
  have gj := h.get j (by omega)
  rw [if_neg (by omega), List.getElem?_eq_getElem h1] at gi
  rw [if_neg (by omega), List.getElem?_eq_getElem h2] at gj
  rw [List.getElem?_set, List.getElem?_set]
  by_cases hkj : j = k
  · subst hkj
    rw [if_pos rfl, if_pos (by simp; exact h2), if_pos (by omega), gi]
    congr 1; omega
  · rw [if_neg hkj]
    by_cases hki : i = k
    · subst hki
      rw [if_pos rfl, if_pos h1, if_pos (by omega), gj]
      congr 1; omega
    · rw [if_neg hki, h.get k hk]
      by_cases hc : k < i ∨ xs.length - i ≤ k
      · rw [if_pos hc, if_pos (by omega)]
      · rw [if_neg hc, if_neg (by omega)]

theorem reverse_t (xs : List Lnk) (hb : xs.length ≤ 1000000) : Triple Tryz.prog 262 [.c (.s 0 0 xs.length 4)] [(0, true, .arr (aLink xs))] 1 (.tup []) [(0, true, .arr (aLink xs.reverse))] := by
  refine triple_of tB_ok Tryz.func262 rfl Tryz.call262 rfl ?_
  intro ρ w hH
  conv=>whnf
  refine ⟨(xs.length : Int) - 1, wrapId (z := (xs.length : Int) - 1) ⟨by omega, by omega⟩, ?_⟩
  conv=>whnf
  refine loop_step tB_ok (G := Nat × List Lnk) 0 [] (fun g => [(2, iv .i64 g.1), (3, iv .i64 ((xs.length : Int) - 1 - g.1))]) (fun g => [(0, true, .arr (aLink g.2))]) (fun g => g.1 ≤ xs.length ∧ RevSt xs g.2 g.1) (fun g => xs.length - g.1) ?_
  conv=>whnf
  refine ⟨⟨(0, xs), ⟨Nat.zero_le _, RevSt.zero xs⟩, ?_⟩, ?_⟩
  · conv=>whnf
    repeat' (first | exact trivial | exact rfl | refine And.intro ?_ ?_ | ((conv=>whnf); first | exact trivial | exact rfl | refine And.intro ?_ ?_ | omega))
    all_goals (show (xs.length : Int) - 1 = (xs.length : Int) - 1 - ((0 : Nat) : Int); omega)
  rintro ⟨i, ys⟩ ⟨hi, hR⟩ ρ1 t1 hρ1
  have hi : i ≤ xs.length := hi
  have hR : RevSt xs ys i := hR
  dsimp only
  have hyl := hR.len
  conv=>whnf
  refine ⟨fun hc => ?_, fun hc => ?_⟩
  · have hlt : (i : Int) < (xs.length : Int) - 1 - i := of_decide_eq_true (show decide ((i : Int) < (xs.length : Int) - 1 - i) = true from hc)
    obtain ⟨j, hj⟩ : ∃ j : Nat, (xs.length : Int) - 1 - i = j := ⟨((xs.length : Int) - 1 - i).toNat, by omega⟩
    have hij : i < j := by omega
    have hjl : j + 1 + i = xs.length := by omega
    have h1 : i < ys.length := by omega
    have h2 : j < ys.length := by omega
    have hst := hR.step hij hjl h1 h2
    conv=>whnf
    refine ⟨j, hj, by omega, h2, ?_⟩
    conv=>whnf
    refine ⟨i, rfl, by omega, h1, ?_⟩
    conv=>whnf
    refine ⟨i, rfl, by omega, h1, ys[j], rfl, ?_⟩
    conv=>whnf
    refine ⟨j, hj, by omega, by show j < (ys.set i ys[j]).length; rw [List.length_set]; exact h2, ys[i], rfl, ?_⟩
    conv=>whnf
    refine ⟨(i : Int) + 1, wrapId (z := (i : Int) + 1) ⟨by omega, by omega⟩, ?_⟩
    conv=>whnf
    refine ⟨(xs.length : Int) - 1 - i - 1, wrapId (z := (xs.length : Int) - 1 - i - 1) ⟨by omega, by omega⟩, ?_⟩
    refine ⟨(i + 1, (ys.set i ys[j]).set j ys[i]), ⟨by show i + 1 ≤ xs.length; omega, hst⟩, by show xs.length - (i + 1) < xs.length - i; omega, ?_⟩
    conv=>whnf
    refine ⟨rfl, ?_⟩
    conv=>whnf
    repeat' (first | exact trivial | exact rfl | refine And.intro ?_ ?_ | ((conv=>whnf); first | exact trivial | exact rfl | refine And.intro ?_ ?_ | omega))
    all_goals (show (xs.length : Int) - 1 - i - 1 = (xs.length : Int) - 1 - ((i + 1 : Nat) : Int); omega)
  · have hlt : ¬ (i : Int) < (xs.length : Int) - 1 - i := of_decide_eq_false (show decide ((i : Int) < (xs.length : Int) - 1 - i) = false from hc)
    have he := hR.done hlt
    subst he
    conv=>whnf
    repeat' (first | exact trivial | exact rfl | refine And.intro ?_ ?_ | ((conv=>whnf); first | exact trivial | exact rfl | refine And.intro ?_ ?_ | omega))

end Go.Proofs

/-
  Plain lemmas, part 9: the IDs of links, in increasing order, each once, as the reference implementation finds them. Conditions: none; definitions and plain lemmas.
-/
namespace Go
namespace Proofs

end Proofs
end Go

/-
  Plain lemmas, part 10: sorting and dropping equal neighbours gives an increasing list with the same members. Conditions: none; plain lemmas.
-/
namespace Go
namespace Proofs

end Proofs
end Go

namespace Go
namespace Sx

end Sx
end Go

namespace Go.Proofs
open Go.Sx

end Go.Proofs

namespace Go.Proofs
open Go.Sx

end Go.Proofs

namespace Go.Proofs
open Go.Sx

end Go.Proofs

namespace Go.Proofs
open Go.Sx

end Go.Proofs

namespace Go.Proofs
open Go.Sx

end Go.Proofs

/-
  Plain lemmas, part 13: a flow over the arcs of a system: what it brings to each place, and how a path changes it. Conditions: none; definitions and plain lemmas.
-/
namespace Go
namespace Proofs

def ind (p : Prop) [Decidable p] : Int := if p then 1 else 0

end Proofs
end Go

/-
  Plain lemmas, part 14: the greatest value of a form is found: the flow is carried along cheapest paths until nothing is left. Conditions: none; definitions and plain lemmas.
-/
namespace Go
namespace Proofs

end Proofs
end Go

/-
  Plain lemmas, part 15: the greatest value of a form is what the program's function answers: a flow, its cost, an allowed point at which the form has this value. Conditions: none; definitions and plain lemmas.
-/
namespace Go
namespace Proofs

end Proofs
end Go

namespace Go.Proofs
open Go.Sx

end Go.Proofs

namespace Go.Proofs
open Go.Sx

end Go.Proofs

/-
  Plain lemmas, part 16: the value of a form at a point, its coefficients, and what uses of links show. Conditions: none; definitions and plain lemmas.
-/
namespace Go
namespace Proofs

end Proofs
end Go

namespace Go.Proofs
open Go.Sx

end Go.Proofs

namespace Go.Proofs
open Go.Sx

end Go.Proofs

namespace Go.Proofs
open Go.Sx

end Go.Proofs

namespace Go.Proofs
open Go.Sx

end Go.Proofs

/-
  Plain lemmas, part 19: the limits of part 8 for greater systems (52 places, 300 arcs). Conditions: none; plain lemmas.
-/
namespace Go
namespace Proofs

end Proofs
end Go

namespace Go.Proofs
open Go.Sx

end Go.Proofs

/-
  Plain lemmas, part 20: lists in a strict order, each element once. Conditions: none; definitions and plain lemmas.
-/
namespace Go
namespace Proofs

structure LtOK {α : Type} (lt : α → α → Bool) : Prop where
  irr : ∀ x, lt x x = false
  tr : ∀ x y z, lt x y = true → lt y z = true → lt x z = true
  tot : ∀ x y, x ≠ y → lt x y = true ∨ lt y x = true

abbrev Inc {α : Type} (lt : α → α → Bool) (l : List α) : Prop := l.Pairwise fun x y => lt x y = true

theorem inc_extG {α : Type} {lt : α → α → Bool} (irr : ∀ x, lt x x = false) (tr : ∀ x y z, lt x y = true → lt y z = true → lt x z = true) : ∀ {a b : List α}, Inc lt a → Inc lt b → (∀ x, x ∈ a ↔ x ∈ b) → a = b
  | [], [], _, _, _ => rfl
  | [], y :: r, _, _, h => by have := (h y).2 (by simp); simp at this
  | x :: r, [], _, _, h => by have := (h x).1 (by simp); simp at this
  | x :: r, y :: q, ha, hb, h => by
    obtain ⟨ha1, ha2⟩ := List.pairwise_cons.1 ha
    obtain ⟨hb1, hb2⟩ := List.pairwise_cons.1 hb
    have hxy : x = y := by
      have h1 := (h x).1 (by simp)
      have h2 := (h y).2 (by simp)
      rcases List.mem_cons.1 h1 with h1 | h1
      · exact h1
      · rcases List.mem_cons.1 h2 with h2 | h2
        · exact h2.symm
        · have := tr _ _ _ (hb1 x h1) (ha1 y h2)
          rw [irr] at this; cases this
    subst hxy
    have : r = q := by
      refine inc_extG irr tr ha2 hb2 fun z => ?_
      constructor
      · intro hz
        rcases List.mem_cons.1 ((h z).1 (List.mem_cons_of_mem _ hz)) with h1 | h1
        · have := ha1 z hz; rw [h1, irr] at this; cases this
        · exact h1
      · intro hz
        rcases List.mem_cons.1 ((h z).2 (List.mem_cons_of_mem _ hz)) with h1 | h1
        · have := hb1 z hz; rw [h1, irr] at this; cases this
        · exact h1
    rw [this]

theorem Inc.nodup {α : Type} {lt : α → α → Bool} (irr : ∀ x, lt x x = false) {l : List α} (h : Inc lt l) : l.Nodup :=
  List.Pairwise.imp (fun {a b} hab => by rintro rfl; rw [irr] at hab; cases hab) h

def insS {α : Type} [DecidableEq α] (lt : α → α → Bool) : List α → α → List α
  | [], x => [x]
  | y :: r, x => if y = x then y :: r else bif lt x y then x :: y :: r else y :: insS lt r x

theorem insS_mem {α : Type} [DecidableEq α] {lt : α → α → Bool} {x z : α} : ∀ {l : List α}, z ∈ insS lt l x ↔ z ∈ l ∨ z = x
  | [] => by simp [insS]
  | y :: r => by
    unfold insS
    by_cases h : y = x
    · rw [if_pos h]
      constructor
      · exact .inl
      · rintro (hz | rfl)
        · exact hz
        · rw [h]; exact List.mem_cons_self ..
    · rw [if_neg h]
      cases hl : lt x y with
      | true =>
        simp only [cond_true, List.mem_cons]
        constructor
        · rintro (h | h | h)
          · exact .inr h
          · exact .inl (.inl h)
          · exact .inl (.inr h)
        · rintro ((h | h) | h)
          · exact .inr (.inl h)
          · exact .inr (.inr h)
          · exact .inl h
      | false =>
        simp only [cond_false, List.mem_cons, insS_mem (l := r)]
        constructor
        · rintro (h | h | h)
          · exact .inl (.inl h)
          · exact .inl (.inr h)
          · exact .inr h
        · rintro ((h | h) | h)
          · exact .inl h
          · exact .inr (.inl h)
          · exact .inr (.inr h)

theorem insS_inc {α : Type} [DecidableEq α] {lt : α → α → Bool} (ok : LtOK lt) {x : α} : ∀ {l : List α}, Inc lt l → Inc lt (insS lt l x)
  | [], _ => by simp [insS]
  | y :: r, h => by
    obtain ⟨h1, h2⟩ := List.pairwise_cons.1 h
    unfold insS
    by_cases hy : y = x
    · rw [if_pos hy]; exact h
    · rw [if_neg hy]
      cases hl : lt x y with
      | true =>
        simp only [cond_true]
        refine List.pairwise_cons.2 ⟨fun z hz => ?_, h⟩
        rcases List.mem_cons.1 hz with rfl | hz
        · exact hl
        · exact ok.tr _ _ _ hl (h1 z hz)
      | false =>
        simp only [cond_false]
        refine List.pairwise_cons.2 ⟨fun z hz => ?_, insS_inc ok h2⟩
        rcases insS_mem.1 hz with hz | rfl
        · exact h1 z hz
        · rcases ok.tot y z hy with h | h
          · exact h
          · rw [h] at hl; cases hl

theorem insS_len {α : Type} [DecidableEq α] {lt : α → α → Bool} {x : α} : ∀ {l : List α}, (insS lt l x).length ≤ l.length + 1
  | [] => by simp [insS]
  | y :: r => by
    have := insS_len (lt := lt) (x := x) (l := r)
    unfold insS
    split
    · simp
    · cases lt x y <;> simp <;> omega

def distS {α : Type} [DecidableEq α] (lt : α → α → Bool) (l : List α) : List α := l.foldl (insS lt) []

theorem distS_gen {α : Type} [DecidableEq α] {lt : α → α → Bool} (ok : LtOK lt) : ∀ (l : List α) {o : List α}, Inc lt o → Inc lt (l.foldl (insS lt) o) ∧ (∀ z, z ∈ l.foldl (insS lt) o ↔ z ∈ o ∨ z ∈ l) ∧ (l.foldl (insS lt) o).length ≤ o.length + l.length
  | [], o, h => ⟨h, fun z => by simp, by simp⟩
  | x :: r, o, h => by
    obtain ⟨h1, h2, h3⟩ := distS_gen ok r (insS_inc ok h (x := x))
    refine ⟨h1, fun z => ?_, ?_⟩
    · simp only [List.foldl_cons]
      rw [h2 z, insS_mem, List.mem_cons]
      constructor
      · rintro ((h | h) | h)
        · exact .inl h
        · exact .inr (.inl h)
        · exact .inr (.inr h)
      · rintro (h | h | h)
        · exact .inl (.inl h)
        · exact .inl (.inr h)
        · exact .inr h
    · have := insS_len (lt := lt) (x := x) (l := o)
      simp only [List.foldl_cons, List.length_cons]
      omega

theorem distS_inc {α : Type} [DecidableEq α] {lt : α → α → Bool} (ok : LtOK lt) (l : List α) : Inc lt (distS lt l) := (distS_gen ok l List.Pairwise.nil).1
theorem distS_mem {α : Type} [DecidableEq α] {lt : α → α → Bool} (ok : LtOK lt) {l : List α} {z : α} : z ∈ distS lt l ↔ z ∈ l := by
  have := (distS_gen ok l (o := []) List.Pairwise.nil).2.1 z
  simpa [distS] using this
theorem distS_len {α : Type} [DecidableEq α] {lt : α → α → Bool} (ok : LtOK lt) (l : List α) : (distS lt l).length ≤ l.length := by
  have := (distS_gen ok l (o := []) List.Pairwise.nil).2.2
  simpa [distS] using this

theorem distS_unique {α : Type} [DecidableEq α] {lt : α → α → Bool} (ok : LtOK lt) {l o : List α} (h : Inc lt o) (hm : ∀ z, z ∈ o ↔ z ∈ l) : o = distS lt l :=
  inc_extG ok.irr ok.tr h (distS_inc ok l) fun z => (hm z).trans (distS_mem ok).symm

def compS {α : Type} [DecidableEq α] : List α → List α
  | [] => []
  | [x] => [x]
  | x :: y :: r => if x = y then compS (y :: r) else x :: compS (y :: r)

theorem compS_mem {α : Type} [DecidableEq α] {z : α} : ∀ {l : List α}, z ∈ compS l ↔ z ∈ l
  | [] => by simp [compS]
  | [x] => by simp [compS]
  | x :: y :: r => by
    unfold compS
    by_cases h : x = y
    · rw [if_pos h, compS_mem, h]; simp
    · rw [if_neg h, List.mem_cons, compS_mem, List.mem_cons, List.mem_cons, List.mem_cons]

theorem compS_len {α : Type} [DecidableEq α] : ∀ {l : List α}, (compS l).length ≤ l.length
  | [] => by simp [compS]
  | [x] => by simp [compS]
  | x :: y :: r => by
    have := compS_len (l := y :: r)
    unfold compS
    split
    · simp only [List.length_cons] at *; omega
    · simp only [List.length_cons] at *; omega

theorem compS_inc {α : Type} [DecidableEq α] {lt : α → α → Bool} (ok : LtOK lt) : ∀ {l : List α}, l.Pairwise (fun x y => lt y x = false) → Inc lt (compS l)
  | [], _ => by simp [compS]
  | [x], _ => by simp [compS]
  | x :: y :: r, h => by
    obtain ⟨h1, h2⟩ := List.pairwise_cons.1 h
    unfold compS
    by_cases hxy : x = y
    · rw [if_pos hxy]; exact compS_inc ok h2
    · rw [if_neg hxy]
      refine List.pairwise_cons.2 ⟨fun z hz => ?_, compS_inc ok h2⟩
      have hz := compS_mem.1 hz
      have h3 := h1 z hz
      have h4 : lt x y = true := by
        rcases ok.tot x y hxy with h | h
        · exact h
        · rw [h1 y (by simp)] at h; cases h
      rcases List.mem_cons.1 hz with rfl | hz
      · exact h4
      · have h5 := (List.pairwise_cons.1 h2).1 z hz
        by_cases hyz : y = z
        · rw [← hyz]; exact h4
        · rcases ok.tot y z hyz with h | h
          · exact ok.tr _ _ _ h4 h
          · rw [h5] at h; cases h

def idLt {α : Type} (key : α → Int) (x y : α) : Bool := decide (key x < key y)

theorem idLt_irr {α : Type} (key : α → Int) (x : α) : idLt key x x = false := by simp [idLt]
theorem idLt_tr {α : Type} (key : α → Int) (x y z : α) (h1 : idLt key x y = true) (h2 : idLt key y z = true) : idLt key x z = true := by
  simp [idLt] at *; omega

def insK {α : Type} (key : α → Int) : List α → α → List α
  | [], x => [x]
  | y :: r, x => bif decide (key x < key y) then x :: y :: r else y :: insK key r x

def sortK {α : Type} (key : α → Int) (l : List α) : List α := l.foldl (insK key) []

theorem insK_perm {α : Type} (key : α → Int) (x : α) : ∀ l : List α, (insK key l x).Perm (x :: l)
  | [] => .refl _
  | y :: r => by
    unfold insK
    cases decide (key x < key y) with
    | true => exact .refl _
    | false => exact ((insK_perm key x r).cons y).trans (.swap ..)

theorem sortK_permG {α : Type} (key : α → Int) : ∀ (l o : List α), (l.foldl (insK key) o).Perm (o ++ l)
  | [], o => by simp
  | x :: r, o => by
    refine (sortK_permG key r _).trans ?_
    refine ((insK_perm key x o).append_right r).trans ?_
    rw [List.cons_append]
    exact List.perm_middle.symm

theorem sortK_perm {α : Type} (key : α → Int) (l : List α) : (sortK key l).Perm l := by
  have := sortK_permG key l []
  rw [List.nil_append] at this
  exact this

theorem insK_le {α : Type} (key : α → Int) (x : α) : ∀ {l : List α}, l.Pairwise (fun a b => key a ≤ key b) → (insK key l x).Pairwise (fun a b => key a ≤ key b)
  | [], _ => by simp [insK]
  | y :: r, h => by
    obtain ⟨h1, h2⟩ := List.pairwise_cons.1 h
    unfold insK
    cases hd : decide (key x < key y) with
    | true =>
      have hd : key x < key y := of_decide_eq_true hd
      refine List.pairwise_cons.2 ⟨fun z hz => ?_, h⟩
      rcases List.mem_cons.1 hz with rfl | hz
      · omega
      · have := h1 z hz; omega
    | false =>
      have hd : ¬ key x < key y := of_decide_eq_false hd
      refine List.pairwise_cons.2 ⟨fun z hz => ?_, insK_le key x h2⟩
      rcases List.mem_cons.1 ((insK_perm key x r).mem_iff.1 hz) with rfl | hz
      · omega
      · exact h1 z hz

theorem sortK_leG {α : Type} (key : α → Int) : ∀ (l : List α) {o : List α}, o.Pairwise (fun a b => key a ≤ key b) → (l.foldl (insK key) o).Pairwise (fun a b => key a ≤ key b)
  | [], _, h => h
  | x :: r, _, h => sortK_leG key r (insK_le key x h)

theorem sortK_le {α : Type} (key : α → Int) (l : List α) : (sortK key l).Pairwise (fun a b => key a ≤ key b) := sortK_leG key l List.Pairwise.nil

theorem sortK_inc {α : Type} {key : α → Int} {l : List α} (h : (l.map key).Nodup) : Inc (idLt key) (sortK key l) := by
  have h1 := sortK_le key l
  have h2 : ((sortK key l).map key).Nodup := ((sortK_perm key l).map key).nodup_iff.2 h
  have h3 : (sortK key l).Pairwise fun a b => key a ≠ key b := List.pairwise_map.1 h2
  exact (h1.and h3).imp fun {a b} hab => by simp [idLt]; omega

theorem sortK_unique {α : Type} {key : α → Int} {l o : List α} (h : (l.map key).Nodup) (hp : o.Perm l) (hs : o.Pairwise (fun a b => key a ≤ key b)) : o = sortK key l := by
  have h2 : (o.map key).Nodup := (hp.map key).nodup_iff.2 h
  have h3 : o.Pairwise fun a b => key a ≠ key b := List.pairwise_map.1 h2
  have h4 : Inc (idLt key) o := (hs.and h3).imp fun {a b} hab => by simp [idLt]; omega
  exact inc_extG (idLt_irr key) (idLt_tr key) h4 (sortK_inc h) fun z => (hp.mem_iff).trans (sortK_perm key l).mem_iff.symm

end Proofs
end Go

/-
  Plain lemmas, part 21: readings of balances: what is checked, what they show, objects, moments, corrections, the system. Conditions: none; definitions and plain lemmas.
-/
namespace Go
namespace Proofs

structure Bal where
  id : Int
  half : Int
  lo : Int
  hi : Int
  dr : Int
  cap : Int
  deriving DecidableEq, Inhabited

structure Chk where
  id : Int
  bal : Int
  tick : Int
  mass : Int
  shown : Int
  deriving DecidableEq, Inhabited

structure Ntc where
  id : Int
  bal : Int
  wlo : Int
  whi : Int
  slo : Int
  shi : Int
  deriving DecidableEq, Inhabited

structure Thg where
  lot : Int
  bale : Int
  smp : Int
  st : Int
  deriving DecidableEq, Inhabited

structure Wgh where
  id : Int
  bal : Int
  tick : Int
  o : Thg
  shown : Int
  deriving DecidableEq, Inhabited

structure Mom where
  bal : Int
  tick : Int
  deriving DecidableEq, Inhabited

structure Rd where
  bs : List Bal
  cs : List Chk
  ns : List Ntc
  ws : List Wgh

def balL (x : Bal) : List Int := [x.id, x.half, x.lo, x.hi, x.dr, x.cap]
def chkL (x : Chk) : List Int := [x.id, x.bal, x.tick, x.mass, x.shown]
def ntcL (x : Ntc) : List Int := [x.id, x.bal, x.wlo, x.whi, x.slo, x.shi]
def thgL (x : Thg) : List Int := [x.lot, x.bale, x.smp, x.st]
def wghL (x : Wgh) : List Int := [x.id, x.bal, x.tick, x.o.lot, x.o.bale, x.o.smp, x.o.st, x.shown]
def momL (x : Mom) : List Int := [x.bal, x.tick]

def wMom (w : Wgh) : Mom := ⟨w.bal, w.tick⟩
def cMom (c : Chk) : Mom := ⟨c.bal, c.tick⟩

def insideF (lo hi a b : Int) : Bool := decide (a ≤ lo) && decide (lo ≤ hi) && decide (hi ≤ b)

def validF (b : Bal) : Bool := withinF b.id 1 1099511627776 && (withinF b.half 0 1000 && (insideF b.lo b.hi (-1000000) 1000000 && (withinF b.dr 0 1000 && withinF b.cap 1 10000000)))

def thgF (o : Thg) : Bool := withinF o.lot 1 1099511627776 && (withinF o.bale 1 1099511627776 && (bif (o.st == 1 || o.st == 2) then o.smp == 0 else bif (o.st == 3 || o.st == 4) then withinF o.smp 1 1099511627776 else false))

def zBal : Bal := ⟨0, 0, 0, 0, 0, 0⟩
def findB (bs : List Bal) (id : Int) : Option Bal := bs.find? fun b => b.id == id
def findD (bs : List Bal) (id : Int) : Bal := (findB bs id).getD zBal
def hasB (bs : List Bal) (id : Int) : Bool := (findB bs id).isSome

def chkF (bs : List Bal) (c : Chk) : Bool := hasB bs c.bal && (withinF c.tick 0 1000000 && (withinF c.mass 0 (findD bs c.bal).cap && withinF c.shown 0 10000000))
def ntcF (bs : List Bal) (n : Ntc) : Bool := hasB bs n.bal && (insideF n.wlo n.whi 0 1000000 && insideF n.slo n.shi (-1000000) 1000000)
def wghF (bs : List Bal) (w : Wgh) : Bool := hasB bs w.bal && (withinF w.tick 0 1000000 && (thgF w.o && withinF w.shown 0 10000000))

def errF : List Int → List (Int × Bool) → Int
  | _, [] => 0
  | seen, (i, ok) :: r => bif !ok then 1 else bif seen.contains i then 6 else errF (seen ++ [i]) r

def idOK (i : Int) : Bool := withinF i 1 1099511627776

def balP (b : Bal) : Int × Bool := (b.id, validF b)
def chkP (bs : List Bal) (c : Chk) : Int × Bool := (c.id, idOK c.id && chkF bs c)
def ntcP (bs : List Bal) (n : Ntc) : Int × Bool := (n.id, idOK n.id && ntcF bs n)
def wghP (bs : List Bal) (w : Wgh) : Int × Bool := (w.id, idOK w.id && wghF bs w)

def rdErrs (r : Rd) : List (Int × Bool) := r.cs.map (chkP r.bs) ++ (r.ns.map (ntcP r.bs) ++ r.ws.map (wghP r.bs))

def checkR (r : Rd) : Int :=
  bif decide (8 < r.bs.length) || decide (100 < r.cs.length + r.ns.length + r.ws.length) then 2
  else bif errF [] (r.bs.map balP) == 0 then errF [] (rdErrs r) else errF [] (r.bs.map balP)

theorem errF_zero : ∀ {l : List (Int × Bool)} {seen : List Int}, errF seen l = 0 ↔ (∀ p ∈ l, p.2 = true ∧ p.1 ∉ seen) ∧ (l.map Prod.fst).Nodup
  | [], _ => by simp [errF]
  | (i, ok) :: r, seen => by
    unfold errF
    cases ok with
    | false =>
      simp only [Bool.not_false, cond_true, List.mem_cons, List.map_cons]
      constructor
      · intro h; cases h
      · rintro ⟨h, _⟩; have := (h _ (.inl rfl)).1; cases this
    | true =>
      simp only [Bool.not_true, cond_false]
      cases hc : seen.contains i with
      | true =>
        have hm : i ∈ seen := by simpa using hc
        simp only [cond_true]
        constructor
        · intro h; cases h
        · rintro ⟨h, _⟩; exact absurd hm (h (i, true) (List.mem_cons_self ..)).2
      | false =>
        have hm : i ∉ seen := by simpa using hc
        simp only [cond_false]
        rw [errF_zero (l := r)]
        simp only [List.map_cons, List.nodup_cons, List.mem_cons, List.mem_append, List.mem_singleton, List.mem_map]
        constructor
        · rintro ⟨h1, h2⟩
          refine ⟨?_, ?_, h2⟩
          · rintro p (rfl | hp)
            · exact ⟨rfl, hm⟩
            · exact ⟨(h1 p hp).1, fun hs => (h1 p hp).2 (.inl hs)⟩
          · rintro ⟨p, hp, rfl⟩
            exact (h1 p hp).2 (.inr (.inl rfl))
        · rintro ⟨h1, h2, h3⟩
          refine ⟨fun p hp => ⟨(h1 p (.inr hp)).1, ?_⟩, h3⟩
          rintro (hs | hs | hs)
          · exact (h1 p (.inr hp)).2 hs
          · exact h2 ⟨p, hp, hs⟩
          · cases hs

structure RdOK (r : Rd) : Prop where
  nb : r.bs.length ≤ 8
  nr : r.cs.length + r.ns.length + r.ws.length ≤ 100
  bal : ∀ b ∈ r.bs, validF b = true
  balN : (r.bs.map Bal.id).Nodup
  chk : ∀ c ∈ r.cs, idOK c.id = true ∧ chkF r.bs c = true
  ntc : ∀ n ∈ r.ns, idOK n.id = true ∧ ntcF r.bs n = true
  wgh : ∀ w ∈ r.ws, idOK w.id = true ∧ wghF r.bs w = true
  ids : (r.cs.map Chk.id ++ (r.ns.map Ntc.id ++ r.ws.map Wgh.id)).Nodup

theorem rdErrs_fst (r : Rd) : (rdErrs r).map Prod.fst = r.cs.map Chk.id ++ (r.ns.map Ntc.id ++ r.ws.map Wgh.id) := by
  unfold rdErrs
  rw [List.map_append, List.map_append, List.map_map, List.map_map, List.map_map]
  rfl

theorem checkR_ok {r : Rd} : checkR r = 0 ↔ RdOK r := by
  unfold checkR
  cases hl : (decide (8 < r.bs.length) || decide (100 < r.cs.length + r.ns.length + r.ws.length)) with
  | true =>
    simp only [cond_true]
    refine ⟨fun h => (by cases h), fun h => ?_⟩
    have := h.nb; have := h.nr
    simp at hl; omega
  | false =>
    simp at hl
    simp only [cond_false]
    have hb := errF_zero (l := r.bs.map balP) (seen := [])
    have hr := errF_zero (l := rdErrs r) (seen := [])
    rw [rdErrs_fst] at hr
    have hbi : (r.bs.map balP).map Prod.fst = r.bs.map Bal.id := by rw [List.map_map]; rfl
    rw [hbi] at hb
    by_cases h0 : errF [] (r.bs.map balP) = 0
    · have h0b : (errF [] (r.bs.map balP) == 0) = true := by simpa using h0
      rw [h0b, cond_true, hr]
      obtain ⟨b1, b2⟩ := hb.1 h0
      constructor
      · rintro ⟨h1, h2⟩
        refine ⟨by omega, by omega, fun b hbm => (b1 _ (List.mem_map.2 ⟨b, hbm, rfl⟩)).1, b2, fun c hc => ?_, fun c hc => ?_, fun c hc => ?_, h2⟩
        · have := (h1 (chkP r.bs c) (List.mem_append.2 (.inl (List.mem_map.2 ⟨c, hc, rfl⟩)))).1
          simpa [chkP] using this
        · have := (h1 (ntcP r.bs c) (List.mem_append.2 (.inr (List.mem_append.2 (.inl (List.mem_map.2 ⟨c, hc, rfl⟩)))))).1
          simpa [ntcP] using this
        · have := (h1 (wghP r.bs c) (List.mem_append.2 (.inr (List.mem_append.2 (.inr (List.mem_map.2 ⟨c, hc, rfl⟩)))))).1
          simpa [wghP] using this
      · intro h
        refine ⟨fun p hp => ⟨?_, by simp⟩, h.ids⟩
        rcases List.mem_append.1 hp with hp | hp
        · obtain ⟨c, hc, rfl⟩ := List.mem_map.1 hp
          have := h.chk c hc; simp [chkP, this.1, this.2]
        · rcases List.mem_append.1 hp with hp | hp
          · obtain ⟨c, hc, rfl⟩ := List.mem_map.1 hp
            have := h.ntc c hc; simp [ntcP, this.1, this.2]
          · obtain ⟨c, hc, rfl⟩ := List.mem_map.1 hp
            have := h.wgh c hc; simp [wghP, this.1, this.2]
    · have h0b : (errF [] (r.bs.map balP) == 0) = false := by simpa using h0
      rw [h0b, cond_false]
      refine ⟨fun h => absurd h h0, fun h => absurd ?_ h0⟩
      refine hb.2 ⟨fun p hp => ⟨?_, by simp⟩, h.balN⟩
      obtain ⟨b, hb', rfl⟩ := List.mem_map.1 hp
      exact h.bal b hb'

def canF (b : Bal) (mass shift : Int) : Bool := validF b && (withinF mass 0 b.cap && withinF shift (-1000000) 1000000)
def showingF (b : Bal) (mass shift : Int) : (Int × Int) × Int :=
  bif canF b mass shift then (bif decide (min 10000000 (mass - shift + b.half) < max 0 (mass - shift - b.half)) then ((0, 0), 3) else ((max 0 (mass - shift - b.half), min 10000000 (mass - shift + b.half)), 0)) else ((0, 0), 1)

def thgLt (a b : Thg) : Bool := decide (a.lot < b.lot) || (a.lot == b.lot && (decide (a.bale < b.bale) || (a.bale == b.bale && (decide (a.smp < b.smp) || (a.smp == b.smp && decide (a.st < b.st))))))
def momLt (a b : Mom) : Bool := decide (a.bal < b.bal) || (a.bal == b.bal && decide (a.tick < b.tick))

theorem thgLt_ok : LtOK thgLt where
  irr x := by simp [thgLt]
  tr x y z h1 h2 := by simp [thgLt] at *; omega
  tot x y h := by
    by_cases h1 : thgLt x y = true
    · exact .inl h1
    · refine .inr ?_
      have h1 : thgLt x y = false := by simpa using h1
      have h2 : ¬ (x.lot = y.lot ∧ x.bale = y.bale ∧ x.smp = y.smp ∧ x.st = y.st) := fun ⟨a, b, c, d⟩ => h (by cases x; cases y; simp_all)
      simp [thgLt] at *; omega

theorem momLt_ok : LtOK momLt where
  irr x := by simp [momLt]
  tr x y z h1 h2 := by simp [momLt] at *; omega
  tot x y h := by
    by_cases h1 : momLt x y = true
    · exact .inl h1
    · refine .inr ?_
      have h1 : momLt x y = false := by simpa using h1
      have h2 : ¬ (x.bal = y.bal ∧ x.tick = y.tick) := fun ⟨a, b⟩ => h (by cases x; cases y; simp_all)
      simp [momLt] at *; omega

def objsF (r : Rd) : List Thg := distS thgLt (r.ws.map Wgh.o)
def momsF (r : Rd) (more : List Mom) : List Mom := distS momLt (r.ws.map wMom ++ (r.cs.map cMom ++ more))

theorem objsF_mem {r : Rd} {o : Thg} : o ∈ objsF r ↔ ∃ w ∈ r.ws, w.o = o := by unfold objsF; rw [distS_mem thgLt_ok, List.mem_map]
theorem momsF_mem {r : Rd} {more : List Mom} {m : Mom} : m ∈ momsF r more ↔ (∃ w ∈ r.ws, wMom w = m) ∨ (∃ c ∈ r.cs, cMom c = m) ∨ m ∈ more := by
  unfold momsF; rw [distS_mem momLt_ok, List.mem_append, List.mem_append, List.mem_map, List.mem_map]
theorem objsF_len (r : Rd) : (objsF r).length ≤ r.ws.length := by have := distS_len thgLt_ok (r.ws.map Wgh.o); simpa [objsF] using this
theorem momsF_len (r : Rd) (more : List Mom) : (momsF r more).length ≤ r.ws.length + r.cs.length + more.length := by
  have := distS_len momLt_ok (r.ws.map wMom ++ (r.cs.map cMom ++ more)); simp [momsF] at *; omega

structure Sid where
  lo : Int
  hi : Int
  loI : Int
  hiI : Int
  some : Bool
  deriving DecidableEq

def sideStep (m : Mom) (s : Sid) (n : Ntc) : Sid :=
  bif (n.bal == m.bal) && withinF m.tick n.wlo n.whi then
    { lo := bif !s.some || decide (s.lo < n.slo) then n.slo else s.lo
      loI := bif !s.some || decide (s.lo < n.slo) then n.id else s.loI
      hi := bif !s.some || decide (n.shi < s.hi) then n.shi else s.hi
      hiI := bif !s.some || decide (n.shi < s.hi) then n.id else s.hiI
      some := true }
  else s

def sideF (r : Rd) (m : Mom) : Sid := (sortK Ntc.id r.ns).foldl (sideStep m) ⟨(findD r.bs m.bal).lo, (findD r.bs m.bal).hi, 0, 0, false⟩

def capStep (bs : List Bal) (o : Thg) (n : Int) (w : Wgh) : Int := bif w.o == o then min n (findD bs w.bal).cap else n
def capF (r : Rd) (o : Thg) : Int := r.ws.foldl (capStep r.bs o) 10000000

def plF {α : Type} [DecidableEq α] (l : List α) (x : α) : Int := if x ∈ l then ((l.idxOf x : Nat) : Int) else -1

def boxesR (r : Rd) (os : List Thg) (ms : List Mom) : List (Int × Int) := os.map (fun o => (0, capF r o)) ++ ms.map (fun _ => (-1000000, 1000000))

def wghLs (bs : List Bal) (os : List Thg) (ms : List Mom) (w : Wgh) : List Lnk :=
  [⟨os.length + plF ms (wMom w), plF os w.o, w.shown + (findD bs w.bal).half, w.id⟩, ⟨plF os w.o, os.length + plF ms (wMom w), (findD bs w.bal).half - w.shown, w.id⟩]
def chkLs (bs : List Bal) (os : List Thg) (ms : List Mom) (c : Chk) : List Lnk :=
  [⟨-1, os.length + plF ms (cMom c), c.mass - c.shown + (findD bs c.bal).half, c.id⟩, ⟨os.length + plF ms (cMom c), -1, c.shown + (findD bs c.bal).half - c.mass, c.id⟩]
def momLs (r : Rd) (os : List Thg) (ms : List Mom) (m : Mom) : List Lnk :=
  [⟨-1, os.length + plF ms m, (sideF r m).hi, (sideF r m).hiI⟩, ⟨os.length + plF ms m, -1, -(sideF r m).lo, (sideF r m).loI⟩]
def drfLs (bs : List Bal) (k : Nat) (i : Nat) : List Mom → List Lnk
  | a :: b :: r => (bif a.bal == b.bal then
      [⟨k + i, k + i + 1, min ((findD bs a.bal).dr * (b.tick - a.tick)) 2000000, 0⟩, ⟨k + i + 1, k + i, min ((findD bs a.bal).dr * (b.tick - a.tick)) 2000000, 0⟩] else []) ++ drfLs bs k (i + 1) (b :: r)
  | _ => []
def cvrLs (os : List Thg) (heavy light : Int) (o : Thg) : List Lnk :=
  bif o.st == light && os.contains { o with st := heavy } then [⟨plF os { o with st := heavy }, plF os o, 0, 0⟩] else []

def linksR (r : Rd) (os : List Thg) (ms : List Mom) : List Lnk :=
  (sortK Wgh.id r.ws).flatMap (wghLs r.bs os ms) ++ ((sortK Chk.id r.cs).flatMap (chkLs r.bs os ms) ++ (ms.flatMap (momLs r os ms) ++ (drfLs r.bs os.length 0 ms ++ (os.flatMap (cvrLs os 1 2) ++ os.flatMap (cvrLs os 3 4)))))

def boxR (r : Rd) (more : List Mom) : List (Int × Int) := boxesR r (objsF r) (momsF r more)
def lnkR (r : Rd) (more : List Mom) : List Lnk := linksR r (objsF r) (momsF r more)

end Proofs
end Go

