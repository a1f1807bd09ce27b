/-
  A part of the proof that a law of dryweightlaw03 answers true: lemmas of a symbolic walk, plain functions, or contracts of the functions walked (Zk, Zl). Conditions: none.
-/
import Derived.Test.YtjjfadfmdodmnaaPart19
set_option maxRecDepth 100000
set_option linter.unusedVariables false
set_option linter.unusedSimpArgs false
namespace Go.Proofs
open Go.Sx

/-- A net of boxes alone, the list of links is nil. -/
theorem newBox_t (bs : List (Int × Int)) (hs : SysOK bs []) (h : Calm bs [] 0) :
    Triple Try.prog 64 [.agg [.s 0 0 bs.length 2, .v (.slice none 0 0)]] [(0, false, .arr (aSpan bs))] 1 (.tup [.inl (.p 2 0 0 0), .inl (.v (.int .i64 0))])
      [(2, true, netC 3 4 bs.length 0), (3, true, .arr (aSpan bs)), (4, true, .arr (aLink []))] := by
  refine Triple.nilK (k := 1) (o := .arr (aLink [])) (H := [(0, false, .arr (aSpan bs))]) (newNone_t bs [] hs h) rfl rfl rfl ?_
  intro ρ vals hv
  match vals, hv with
  | [v], ⟨⟨xs, hx, h0⟩, _⟩ =>
    match xs, hx, h0 with
    | ⟨[a, b]⟩, hx, ⟨ha, hb, _⟩ =>
      refine ⟨⟨#[a, b], hx, ?_, ?_, trivial⟩, trivial⟩
      · exact SC.rel_agree (fun k hk => by simp [SC.nms] at hk; subst hk; exact upd_ne (by decide)) ha
      · have hb : b = .slice none 0 0 := hb
        subst hb
        exact ⟨none, by rw [upd_eq]; rfl, by rw [upd_eq]; exact Nat.le_refl _, fun h => by rw [upd_eq] at h; cases h⟩

def hasF (xs : List Lnk) (id : Int) : Bool := xs.any fun l => l.i == id

theorem hasF_iff {xs : List Lnk} {id : Int} : hasF xs id = true ↔ ∃ l ∈ xs, l.i = id := by simp [hasF]

theorem has_t (xs : List Lnk) (id : Int) (hb : xs.length ≤ 1000000) : Triple Try.prog 71 [.c (.s 0 0 xs.length 4), iv .i64 id] [(0, false, .arr (aLink xs))] 1 (bv (hasF xs id)) [] := by
  have hR := @hasF_iff xs id
  generalize hasF xs id = R at *
  refine triple_of tB_ok Try.func71 rfl Try.call71 rfl ?_
  intro ρ w hH
  conv => whnf
  refine loop_step tB_ok (G := Nat) 0 [] (fun i => [(5, iv .i64 i)]) (fun _ => []) (fun i => i ≤ xs.length ∧ ∀ l ∈ xs.take i, l.i ≠ id) (fun i => xs.length - i) ?_
  conv => whnf
  refine ⟨⟨0, ⟨Nat.zero_le _, by simp⟩, ?_⟩, ?_⟩
  · conv => whnf
    repeat' (first | exact trivial | exact rfl | refine And.intro ?_ ?_ | ((conv => whnf); first | exact trivial | exact rfl | refine And.intro ?_ ?_ | omega))
  intro i hi ρ1 t1 hρ1
  obtain ⟨hi, hn⟩ := hi
  conv => whnf
  refine ⟨fun hc => ?_, fun hc => ?_⟩
  · have hlt : i < xs.length := by simpa using hc
    conv => whnf
    refine ⟨i, rfl, hlt, hlt, ?_⟩
    conv => whnf
    refine ⟨fun hc => ?_, fun hc => ?_⟩
    · have he : xs[i].i = id := by simpa using (show (xs[i].i == id) = true from hc)
      have e : R = true := hR.2 ⟨_, List.getElem_mem hlt, he⟩
      rw [e]
      conv => whnf
      repeat' (first | exact trivial | exact rfl | refine And.intro ?_ ?_ | ((conv => whnf); first | exact trivial | exact rfl | refine And.intro ?_ ?_ | omega))
    · have he : xs[i].i ≠ id := by simpa using (show (xs[i].i == id) = false from hc)
      conv => whnf
      refine ⟨(i : Int) + 1, wrapId (z := (i : Int) + 1) ⟨by omega, by omega⟩, ?_⟩
      refine ⟨i + 1, ⟨hlt, fun l hl => ?_⟩, by show xs.length - (i + 1) < xs.length - i; omega, ?_⟩
      · rw [take_snoc hlt] at hl
        rcases List.mem_append.1 hl with hl | hl
        · exact hn l hl
        · simp at hl; rw [hl]; exact he
      conv => whnf
      refine ⟨rfl, ?_⟩
      conv => whnf
      repeat' (first | exact trivial | exact rfl | refine And.intro ?_ ?_ | ((conv => whnf); first | exact trivial | exact rfl | refine And.intro ?_ ?_ | omega))
  have hie : i = xs.length := by simp at hc; omega
  rw [hie, List.take_length] at hn
  have e : R = false := by
    rw [← Bool.not_eq_true, hR]
    rintro ⟨l, hl, he⟩
    exact hn l hl he
  rw [e]
  conv => whnf
  repeat' (first | exact trivial | exact rfl | refine And.intro ?_ ?_ | ((conv => whnf); first | exact trivial | exact rfl | refine And.intro ?_ ?_ | omega))

/-! ### Two nets with the same links -/

theorem refIds_same {ls ls' : List Lnk} (hs : ∀ l, l ∈ ls ↔ l ∈ ls') : refIds ls = refIds ls' := by
  have h1 := refIds_inc (ls := ls) (o := []) List.Pairwise.nil
  have h2 := refIds_inc (ls := ls') (o := []) List.Pairwise.nil
  refine inc_ext h1.1 h2.1 fun x => ?_
  show x ∈ ls.foldl (fun o l => insI o l.i) [] ↔ x ∈ ls'.foldl (fun o l => insI o l.i) []
  rw [h1.2, h2.2]
  have : (∃ l ∈ ls, l.i = x) ↔ (∃ l ∈ ls', l.i = x) := ⟨fun ⟨l, hl, he⟩ => ⟨l, (hs l).1 hl, he⟩, fun ⟨l, hl, he⟩ => ⟨l, (hs l).2 hl, he⟩⟩
  rw [this]

theorem idsF_ref {bs : List (Int × Int)} {ls : List Lnk} (h : SysOK bs ls) : idsF ls = refIds ls := ids_eq fun l hl => by
  have := (properF_iff.1 (h.lnk l hl)).2.2.2.2; omega

theorem mem_ids {ls : List Lnk} {id : Int} (h : id ∈ refIds ls) : id ≠ 0 := by
  have h1 := ((refIds_inc (ls := ls) (o := []) List.Pairwise.nil).2 id).1 h
  rcases h1 with h1 | h1
  · cases h1
  · exact h1.1

abbrev needsL (bs : List (Int × Int)) (ls : List Lnk) (a b : Int) : List Int := (idsF ls).filter fun id => !decide (mostF bs.length (graphF bs ls id) a b ≤ mostF bs.length (graphF bs ls 0) a b)

theorem needs_same {bs : List (Int × Int)} {ls ls' : List Lnk} (h : NetW bs ls) (h' : NetW bs ls') (hs : ∀ l, l ∈ ls ↔ l ∈ ls') {a b : Int} (ha : a < bs.length) (hb : b < bs.length) : needsL bs ls' a b = needsL bs ls a b := by
  unfold needsL
  rw [idsF_ref h.sys, idsF_ref h'.sys, refIds_same hs]
  refine List.filter_congr fun id hid => ?_
  have hne := mem_ids hid
  have f : ∀ {l : List Lnk}, (withoutF l id).length ≤ l.length := fun {l} => List.length_filter_le _ _
  have w1 : NetW bs (withoutF ls id) := h.sub (Nat.le_trans f h.few.2) fun l hl => (List.mem_filter.1 hl).1
  have w2 : NetW bs (withoutF ls' id) := h'.sub (Nat.le_trans f h'.few.2) fun l hl => (List.mem_filter.1 hl).1
  have hw : ∀ l, l ∈ withoutF ls id ↔ l ∈ withoutF ls' id := fun l => by
    unfold withoutF
    rw [List.mem_filter, List.mem_filter, hs]
  have e1 := most_same w1 w2 hw ha hb
  rw [graphF_zero, graphF_zero, graphF_without hne, graphF_without hne] at e1
  rw [e1, most_same h h' hs ha hb]

theorem range_same {bs : List (Int × Int)} {ls ls' : List Lnk} (h : NetW bs ls) (h' : NetW bs ls') (hs : ∀ l, l ∈ ls ↔ l ∈ ls') (a b : Int) : ∃ lo hi e : Int,
    Triple Try.prog 21 [.c (.p 0 0 0 0), iv .i64 a, iv .i64 b] (netH bs ls) 3 (.tup [.inr [.v (.int .i64 lo), .v (.int .i64 hi)], .inl (.v (.int .i64 e))]) [] ∧
    Triple Try.prog 21 [.c (.p 0 0 0 0), iv .i64 a, iv .i64 b] (netH bs ls') 3 (.tup [.inr [.v (.int .i64 lo), .v (.int .i64 hi)], .inl (.v (.int .i64 e))]) [] := by
  obtain ⟨lo1, hi1, e1, r1, k1⟩ := range_any h a b
  obtain ⟨lo2, hi2, e2, r2, k2⟩ := range_any h' a b
  have : lo2 = lo1 ∧ hi2 = hi1 ∧ e2 = e1 := by
    rcases k1 with ⟨a1, a2, a3, a4, a5⟩ | ⟨a1, a2, a3, a4⟩
    · rcases k2 with ⟨b1, b2, b3, b4, b5⟩ | ⟨_, _, _, b4⟩
      · rw [a4, a5, b4, b5, most_same h h' hs a2.2 a3.2, most_same h h' hs a3.2 a2.2]
        exact ⟨rfl, rfl, by omega⟩
      · exact absurd ⟨a2, a3⟩ b4
    · rcases k2 with ⟨b1, b2, b3, b4, b5⟩ | ⟨b1, b2, b3, b4⟩
      · exact absurd ⟨b2, b3⟩ a4
      · omega
  obtain ⟨rfl, rfl, rfl⟩ := this
  exact ⟨_, _, _, r1, r2⟩

theorem needs_two {bs : List (Int × Int)} {ls ls' : List Lnk} (h : NetW bs ls) (h' : NetW bs ls') (hs : ∀ l, l ∈ ls ↔ l ∈ ls') (a b : Int) : ∃ (xs : List Int) (e : Int), xs.length ≤ 1000 ∧
    Triple Try.prog 23 [.c (.p 0 0 0 0), iv .i64 a, iv .i64 b] (netH bs ls) 3 (.tup [.inl (.s 3 0 xs.length 1), .inl (.v (.int .i64 e))]) [(3, true, .arr (aInt xs))] ∧
    Triple Try.prog 23 [.c (.p 0 0 0 0), iv .i64 a, iv .i64 b] (netH bs ls') 3 (.tup [.inl (.s 3 0 xs.length 1), .inl (.v (.int .i64 e))]) [(3, true, .arr (aInt xs))] := by
  rcases both_places bs.length a b with ⟨ha, hb, h1, h2⟩ | ⟨h1, h2⟩
  · refine ⟨needsL bs ls a b, 0, ?_, needs_t bs ls a b h.sys ha.2 hb.2 h1 h2, ?_⟩
    · have h3 := List.length_filter_le (fun id => !decide (mostF bs.length (graphF bs ls id) a b ≤ mostF bs.length (graphF bs ls 0) a b)) (idsF ls)
      have h4 := refIds_len ls []
      have h5 := h.few
      rw [idsF_ref h.sys] at h3
      unfold needsL
      rw [idsF_ref h.sys]
      have h4 : (refIds ls).length ≤ 0 + ls.length := h4
      omega
    · have := needs_t bs ls' a b h'.sys ha.2 hb.2 h1 h2
      have e := needs_same h h' hs ha.2 hb.2
      unfold needsL at e
      rw [e] at this
      exact this
  · exact ⟨[], 1, by simp, needsE_t bs ls a b h.sys h1, needsE_t bs ls' a b h'.sys h1⟩

theorem allows_same {bs : List (Int × Int)} {ls ls' : List Lnk} (h : SysOK bs ls) (h' : SysOK bs ls') (hs : ∀ l, l ∈ ls ↔ l ∈ ls') {pt : List Int} : (allowsF bs ls pt).2 = true ↔ (allowsF bs ls' pt).2 = true :=
  ⟨allows_mono h' h fun l hl => (hs l).2 hl, allows_mono h h' fun l hl => (hs l).1 hl⟩

end Go.Proofs

namespace Go.Proofs
open Go.Sx

theorem putOne {bs : List (Int × Int)} {ls M : List Lnk} (h : NetW bs ls) (hM : M.length ≤ 59) (hs : ∀ l ∈ M, l ∈ ls) {x : Lnk} (hx : x ∈ ls) : NetW bs (M ++ [x]) := by
  refine h.sub (by rw [List.length_append]; simp; omega) fun l hl => ?_
  rcases List.mem_append.1 hl with hl | hl
  · exact hs l hl
  · simp at hl; rw [hl]; exact hx

theorem drop_rev {ls : List Lnk} {c : Nat} (h : c < ls.length) : (ls.drop (c + 1)).reverse ++ [ls[c]] = (ls.drop c).reverse := by
  rw [List.drop_eq_getElem_cons h, List.reverse_cons]

/-- What is left of a net's links behind a Put of a link with an ID, and a Take of it. -/
theorem without_put (M : List Lnk) {x : Lnk} {id : Int} (h : x.i = id) : withoutF (M ++ [x]) id = withoutF M id := by simp [withoutF, h]

theorem without_none {M : List Lnk} {id : Int} (h : hasF M id = false) : withoutF M id = M := by
  refine List.filter_eq_self.2 fun l hl => ?_
  have : ¬ hasF M id = true := by rw [h]; simp
  rw [hasF_iff] at this
  simpa using fun he => this ⟨l, hl, he⟩

theorem systemOrder_t (bs : List (Int × Int)) (ls other : List Lnk) (a b : Int) (form : List (Int × Int)) :
    Triple Try.prog 15 [sysA bs.length ls.length, .c (.s 2 0 other.length 4), iv .i64 a, iv .i64 b, .c (.s 3 0 form.length 2)] (sysH bs ls ++ [(2, false, .arr (aLink other)), (3, false, .arr (aSpan form))]) 4 (bv true) [] := by
  by_cases h : NetOK bs ls
  · have hfew := h.few
    have hnb := h.sys.nb
    have hnl := h.sys.nl
    by_cases ho : other.length ≤ 6
    · have hw := h.w
      have hw0 : NetW bs [] := hw.sub (by simp) (fun l hl => by cases hl)
      have hnew := newBox_t bs hw0.sys hw0.calm
      refine triple_of tB_ok Try.func15 rfl Try.call15 rfl ?_
      intro ρ w hH
      conv => whnf
      refine call_step head_t rfl rfl ?_
      conv => whnf
      refine ⟨(by repeat' (first | exact trivial | exact rfl | refine And.intro ?_ ?_ | ((conv => whnf); first | exact trivial | exact rfl | refine And.intro ?_ ?_ | omega))), (by repeat' (first | exact trivial | exact rfl | refine And.intro ?_ ?_ | ((conv => whnf); first | exact trivial | exact rfl | refine And.intro ?_ ?_ | omega))), ?_⟩
      conv => whnf
      refine call_step (startYes_t bs ls h) rfl rfl ?_
      conv => whnf
      refine ⟨(by repeat' (first | exact trivial | exact rfl | refine And.intro ?_ ?_ | ((conv => whnf); first | exact trivial | exact rfl | refine And.intro ?_ ?_ | omega))), (by repeat' (first | exact trivial | exact rfl | refine And.intro ?_ ?_ | ((conv => whnf); first | exact trivial | exact rfl | refine And.intro ?_ ?_ | omega))), ?_⟩
      conv => whnf
      refine ⟨fun hc => absurd (of_decide_eq_true (show decide ((6 : Int) < other.length) = true from hc)) (by omega), fun hc => ?_⟩
      conv => whnf
      refine call_step hnew rfl rfl ?_
      conv => whnf
      refine ⟨(by repeat' (first | exact trivial | exact rfl | refine And.intro ?_ ?_ | ((conv => whnf); first | exact trivial | exact rfl | refine And.intro ?_ ?_ | omega))), (by repeat' (first | exact trivial | exact rfl | refine And.intro ?_ ?_ | ((conv => whnf); first | exact trivial | exact rfl | refine And.intro ?_ ?_ | omega))), ?_⟩
      conv => whnf
      refine ⟨fun hc => absurd hc (by simp), fun hc => ?_⟩
      conv => whnf
      refine ⟨(ls.length : Int) - 1, wrapId (z := (ls.length : Int) - 1) ⟨by omega, by omega⟩, ?_⟩
      conv => whnf
      obtain ⟨B, hB⟩ : ∃ B, B = hasF ls 1099511627776 := ⟨_, rfl⟩
      have hhas := has_t ls 1099511627776 (by omega)
      rw [← hB] at hhas
      have hsubB : ∀ {N : List Lnk}, (∀ l ∈ N, l ∈ ls) → B = false → withoutF N 1099511627776 = N := fun {N} hN hb => by
        refine without_none ?_
        rw [← Bool.not_eq_true, hasF_iff]
        rintro ⟨l, hl, he⟩
        have : hasF ls 1099511627776 = true := hasF_iff.2 ⟨l, hN l hl, he⟩
        rw [← hB, hb] at this; cases this
      refine loop_step tB_ok (G := Nat × List Lnk) 1 [11] (fun g => [(16, iv .i64 ((g.1 : Int) - 1))]) (fun g => [(9, true, .cells [.s 10 0 bs.length 2, .s 12 0 g.2.length 4]), (12, true, .arr (aLink g.2))])
        (fun g => (g.1 ≤ ls.length ∧ g.2.length ≤ ls.length - g.1) ∧ (∀ l ∈ g.2, l ∈ ls) ∧ (B = false → g.2 = (ls.drop g.1).reverse)) (fun g => g.1) ?_
      conv => whnf
      refine ⟨⟨(ls.length, []), ⟨⟨Nat.le_refl _, Nat.zero_le _⟩, (fun l hl => by cases hl), fun _ => by simp⟩, ?_⟩, ?_⟩
      · conv => whnf
        repeat' (first | exact trivial | exact rfl | refine And.intro ?_ ?_ | ((conv => whnf); first | exact trivial | exact rfl | refine And.intro ?_ ?_ | omega))
      rintro ⟨c, M⟩ ⟨⟨hc1, hMl⟩, hMs, hMr⟩ ρ2 t2 hρ2
      have hc1 : c ≤ ls.length := hc1
      have hMl : M.length ≤ ls.length - c := hMl
      have hMs : ∀ l ∈ M, l ∈ ls := hMs
      have hMr : B = false → M = (ls.drop c).reverse := hMr
      dsimp only
      conv => whnf
      refine ⟨fun hc => ?_, fun hc => ?_⟩
      · have hcp : 0 ≤ (c : Int) - 1 := of_decide_eq_true (show decide (0 ≤ (c : Int) - 1) = true from hc)
        clear hc
        obtain ⟨d, rfl⟩ : ∃ d, c = d + 1 := ⟨c - 1, by omega⟩
        have hdl : d < ls.length := by omega
        conv => whnf
        refine loop_step tB_ok (G := Nat × List Lnk) 1 [12] (fun g => [(17, iv .i64 g.1)]) (fun g => [(9, true, .cells [.s 10 0 bs.length 2, .s 13 0 g.2.length 4]), (13, true, .arr (aLink g.2))])
          (fun g => (g.1 ≤ other.length ∧ g.2.length ≤ ls.length - (d + 1)) ∧ (∀ l ∈ g.2, l ∈ ls) ∧ (B = false → g.2 = (ls.drop (d + 1)).reverse)) (fun g => other.length - g.1) ?_
        conv => whnf
        refine ⟨⟨(0, M), ⟨⟨Nat.zero_le _, hMl⟩, hMs, hMr⟩, ?_⟩, ?_⟩
        · conv => whnf
          repeat' (first | exact trivial | exact rfl | refine And.intro ?_ ?_ | ((conv => whnf); first | exact trivial | exact rfl | refine And.intro ?_ ?_ | omega))
        rintro ⟨k, N⟩ ⟨⟨hk, hNl⟩, hNs, hNr⟩ ρ3 t3 hρ3
        have hk : k ≤ other.length := hk
        have hNl : N.length ≤ ls.length - (d + 1) := hNl
        have hNs : ∀ l ∈ N, l ∈ ls := hNs
        have hNr : B = false → N = (ls.drop (d + 1)).reverse := hNr
        have hwN : NetW bs N := hw.sub (by omega) hNs
        dsimp only
        conv => whnf
        refine ⟨fun hc => ?_, fun hc => ?_⟩
        · have hlt : k < other.length := by have := of_decide_eq_true (show decide ((k : Int) < other.length) = true from hc); omega
          clear hc
          conv => whnf
          refine ⟨k, rfl, hlt, hlt, ?_⟩
          conv => whnf
          obtain ⟨y, hy⟩ : ∃ y : Lnk, y = ⟨other[k].f, other[k].t, other[k].m, 1099511627776⟩ := ⟨_, rfl⟩
          have hyi : y.i = 1099511627776 := by rw [hy]
          refine bs_step tB_ok (aLink [⟨other[k].f, other[k].t, other[k].m, 1099511627776⟩]) rfl rfl ?_
          conv => whnf
          refine ⟨(by repeat' (first | exact trivial | exact rfl | refine And.intro ?_ ?_ | ((conv => whnf); first | exact trivial | exact rfl | refine And.intro ?_ ?_ | omega))), ?_⟩
          conv => whnf
          rw [← hy]
          have hNl2 : N.length ≤ 40 := by omega
          have hWl : (withoutF N 1099511627776).length ≤ N.length := List.length_filter_le _ _
          have hWl2 : (withoutF N 1099511627776).length ≤ ls.length - (d + 1) := by omega
          have hWs : ∀ l ∈ withoutF N 1099511627776, l ∈ ls := fun l hl => hNs l (List.mem_filter.1 hl).1
          have hWr : B = false → withoutF N 1099511627776 = (ls.drop (d + 1)).reverse := fun hb => by rw [hsubB hNs hb]; exact hNr hb
          by_cases hp : properF y bs.length = true
          · have hs2 : SysOK bs (N ++ [y]) := ⟨hnb, by rw [List.length_append]; simp; omega, hw.sys.box, fun l hl => by
              rcases List.mem_append.1 hl with hl | hl
              · exact hwN.sys.lnk l hl
              · simp at hl; rw [hl]; exact hp⟩
            by_cases hcm : Calm bs (N ++ [y]) 0
            · have hput := putOk_t bs N [y] hs2 hcm
              have ht0 : takeF (N ++ [y]) 1099511627776 = 0 := by
                have : (withoutF (N ++ [y]) 1099511627776).length < (N ++ [y]).length := List.length_filter_lt_length_iff_exists.2 ⟨y, by simp, by simp [hyi]⟩
                unfold takeF
                rw [if_neg (by decide), if_neg (by omega)]
              have htk := takeOk_t bs (N ++ [y]) 1099511627776 (by rw [List.length_append]; simp; omega) ht0
              rw [without_put N hyi] at htk
              refine call_step hput rfl rfl ?_
              conv => whnf
              refine ⟨(by repeat' (first | exact trivial | exact rfl | refine And.intro ?_ ?_ | ((conv => whnf); first | exact trivial | exact rfl | refine And.intro ?_ ?_ | omega))), (by repeat' (first | exact trivial | exact rfl | refine And.intro ?_ ?_ | ((conv => whnf); first | exact trivial | exact rfl | refine And.intro ?_ ?_ | omega))), ?_⟩
              conv => whnf
              refine call_step htk rfl rfl ?_
              conv => whnf
              refine ⟨(by repeat' (first | exact trivial | exact rfl | refine And.intro ?_ ?_ | ((conv => whnf); first | exact trivial | exact rfl | refine And.intro ?_ ?_ | omega))), (by repeat' (first | exact trivial | exact rfl | refine And.intro ?_ ?_ | ((conv => whnf); first | exact trivial | exact rfl | refine And.intro ?_ ?_ | omega))), ?_⟩
              conv => whnf
              refine ⟨fun hc => ?_, fun hc => absurd hc (by simp)⟩
              conv => whnf
              refine ⟨fun hc => absurd hc (by simp), fun hc => ?_⟩
              conv => whnf
              refine ⟨(k : Int) + 1, wrapId (z := (k : Int) + 1) ⟨by omega, by omega⟩, ?_⟩
              refine ⟨(k + 1, withoutF N 1099511627776), ⟨⟨hlt, hWl2⟩, hWs, hWr⟩, by show other.length - (k + 1) < other.length - k; omega, ?_⟩
              conv => whnf
              refine ⟨rfl, ?_⟩
              conv => whnf
              repeat' (first | exact trivial | exact rfl | refine And.intro ?_ ?_ | ((conv => whnf); first | exact trivial | exact rfl | refine And.intro ?_ ?_ | omega))
            · obtain ⟨v, P, kk, Mx, hch, hv, hcy⟩ := cyc_of (graphF_ok hs2 0) (Nat.le_refl _) hcm
              have hput := putClash_t bs N [y] v P kk Mx hs2 hch hcy
              generalize (cycL bs.length (graphF bs (N ++ [y]) 0) kk Mx).reverse = cy at *
              refine call_step hput rfl rfl ?_
              conv => whnf
              refine ⟨(by repeat' (first | exact trivial | exact rfl | refine And.intro ?_ ?_ | ((conv => whnf); first | exact trivial | exact rfl | refine And.intro ?_ ?_ | omega))), (by repeat' (first | exact trivial | exact rfl | refine And.intro ?_ ?_ | ((conv => whnf); first | exact trivial | exact rfl | refine And.intro ?_ ?_ | omega))), ?_⟩
              conv => whnf
              by_cases ht : takeF N 1099511627776 = 0
              · refine call_step (takeOk_t bs N 1099511627776 (by omega) ht) rfl rfl ?_
                conv => whnf
                refine ⟨(by repeat' (first | exact trivial | exact rfl | refine And.intro ?_ ?_ | ((conv => whnf); first | exact trivial | exact rfl | refine And.intro ?_ ?_ | omega))), (by repeat' (first | exact trivial | exact rfl | refine And.intro ?_ ?_ | ((conv => whnf); first | exact trivial | exact rfl | refine And.intro ?_ ?_ | omega))), ?_⟩
                conv => whnf
                refine ⟨fun hc => absurd hc (by simp), fun hc => ?_⟩
                conv => whnf
                refine ⟨(k : Int) + 1, wrapId (z := (k : Int) + 1) ⟨by omega, by omega⟩, ?_⟩
                refine ⟨(k + 1, withoutF N 1099511627776), ⟨⟨hlt, hWl2⟩, hWs, hWr⟩, by show other.length - (k + 1) < other.length - k; omega, ?_⟩
                conv => whnf
                refine ⟨rfl, ?_⟩
                conv => whnf
                repeat' (first | exact trivial | exact rfl | refine And.intro ?_ ?_ | ((conv => whnf); first | exact trivial | exact rfl | refine And.intro ?_ ?_ | omega))
              · have htk := takeErr_t bs N 1099511627776 (by omega) ht
                generalize takeF N 1099511627776 = tc at *
                refine call_step htk rfl rfl ?_
                conv => whnf
                refine ⟨(by repeat' (first | exact trivial | exact rfl | refine And.intro ?_ ?_ | ((conv => whnf); first | exact trivial | exact rfl | refine And.intro ?_ ?_ | omega))), (by repeat' (first | exact trivial | exact rfl | refine And.intro ?_ ?_ | ((conv => whnf); first | exact trivial | exact rfl | refine And.intro ?_ ?_ | omega))), ?_⟩
                conv => whnf
                refine ⟨fun hc => absurd hc (by simp), fun hc => ?_⟩
                conv => whnf
                refine ⟨(k : Int) + 1, wrapId (z := (k : Int) + 1) ⟨by omega, by omega⟩, ?_⟩
                refine ⟨(k + 1, N), ⟨⟨hlt, hNl⟩, hNs, hNr⟩, by show other.length - (k + 1) < other.length - k; omega, ?_⟩
                conv => whnf
                refine ⟨rfl, ?_⟩
                conv => whnf
                repeat' (first | exact trivial | exact rfl | refine And.intro ?_ ?_ | ((conv => whnf); first | exact trivial | exact rfl | refine And.intro ?_ ?_ | omega))
          · have hput := putArg_t bs N [y] (by omega) (by show N.length + 1 ≤ 1200; omega) (by simpa using hp)
            refine call_step hput rfl rfl ?_
            conv => whnf
            refine ⟨(by repeat' (first | exact trivial | exact rfl | refine And.intro ?_ ?_ | ((conv => whnf); first | exact trivial | exact rfl | refine And.intro ?_ ?_ | omega))), (by repeat' (first | exact trivial | exact rfl | refine And.intro ?_ ?_ | ((conv => whnf); first | exact trivial | exact rfl | refine And.intro ?_ ?_ | omega))), ?_⟩
            conv => whnf
            by_cases ht : takeF N 1099511627776 = 0
            · refine call_step (takeOk_t bs N 1099511627776 (by omega) ht) rfl rfl ?_
              conv => whnf
              refine ⟨(by repeat' (first | exact trivial | exact rfl | refine And.intro ?_ ?_ | ((conv => whnf); first | exact trivial | exact rfl | refine And.intro ?_ ?_ | omega))), (by repeat' (first | exact trivial | exact rfl | refine And.intro ?_ ?_ | ((conv => whnf); first | exact trivial | exact rfl | refine And.intro ?_ ?_ | omega))), ?_⟩
              conv => whnf
              refine ⟨fun hc => absurd hc (by simp), fun hc => ?_⟩
              conv => whnf
              refine ⟨(k : Int) + 1, wrapId (z := (k : Int) + 1) ⟨by omega, by omega⟩, ?_⟩
              refine ⟨(k + 1, withoutF N 1099511627776), ⟨⟨hlt, hWl2⟩, hWs, hWr⟩, by show other.length - (k + 1) < other.length - k; omega, ?_⟩
              conv => whnf
              refine ⟨rfl, ?_⟩
              conv => whnf
              repeat' (first | exact trivial | exact rfl | refine And.intro ?_ ?_ | ((conv => whnf); first | exact trivial | exact rfl | refine And.intro ?_ ?_ | omega))
            · have htk := takeErr_t bs N 1099511627776 (by omega) ht
              generalize takeF N 1099511627776 = tc at *
              refine call_step htk rfl rfl ?_
              conv => whnf
              refine ⟨(by repeat' (first | exact trivial | exact rfl | refine And.intro ?_ ?_ | ((conv => whnf); first | exact trivial | exact rfl | refine And.intro ?_ ?_ | omega))), (by repeat' (first | exact trivial | exact rfl | refine And.intro ?_ ?_ | ((conv => whnf); first | exact trivial | exact rfl | refine And.intro ?_ ?_ | omega))), ?_⟩
              conv => whnf
              refine ⟨fun hc => absurd hc (by simp), fun hc => ?_⟩
              conv => whnf
              refine ⟨(k : Int) + 1, wrapId (z := (k : Int) + 1) ⟨by omega, by omega⟩, ?_⟩
              refine ⟨(k + 1, N), ⟨⟨hlt, hNl⟩, hNs, hNr⟩, by show other.length - (k + 1) < other.length - k; omega, ?_⟩
              conv => whnf
              refine ⟨rfl, ?_⟩
              conv => whnf
              repeat' (first | exact trivial | exact rfl | refine And.intro ?_ ?_ | ((conv => whnf); first | exact trivial | exact rfl | refine And.intro ?_ ?_ | omega))
        · clear hc hk
          have hw3 := putOne hw (by omega) hNs (List.getElem_mem hdl)
          have hput := putOk_t bs N [ls[d]] hw3.sys hw3.calm
          have hw3s : ∀ l ∈ N ++ [ls[d]], l ∈ ls := fun l hl => by
            rcases List.mem_append.1 hl with hl | hl
            · exact hNs l hl
            · simp at hl; rw [hl]; exact List.getElem_mem hdl
          conv => whnf
          refine ⟨d, (show ((d + 1 : Nat) : Int) - 1 = (d : Int) by omega), hdl, hdl, ?_⟩
          conv => whnf
          refine bs_step tB_ok (aLink [ls[d]]) rfl rfl ?_
          conv => whnf
          refine ⟨(by repeat' (first | exact trivial | exact rfl | refine And.intro ?_ ?_ | ((conv => whnf); first | exact trivial | exact rfl | refine And.intro ?_ ?_ | omega))), ?_⟩
          conv => whnf
          refine call_step hput rfl rfl ?_
          conv => whnf
          refine ⟨(by repeat' (first | exact trivial | exact rfl | refine And.intro ?_ ?_ | ((conv => whnf); first | exact trivial | exact rfl | refine And.intro ?_ ?_ | omega))), (by repeat' (first | exact trivial | exact rfl | refine And.intro ?_ ?_ | ((conv => whnf); first | exact trivial | exact rfl | refine And.intro ?_ ?_ | omega))), ?_⟩
          conv => whnf
          refine ⟨fun hc => absurd hc (by simp), fun hc => ?_⟩
          conv => whnf
          refine ⟨(d : Int) - 1, (congrArg IntKind.i64.wrap (show ((d + 1 : Nat) : Int) - 1 - 1 = (d : Int) - 1 by omega)).trans (wrapId ⟨by omega, by omega⟩), ?_⟩
          refine ⟨(d, N ++ [ls[d]]), ⟨⟨by omega, by show (N ++ [ls[d]]).length ≤ _; rw [List.length_append]; simp; omega⟩, hw3s, fun hb => by show N ++ [ls[d]] = _; rw [hNr hb, drop_rev]⟩, by show d < d + 1; omega, ?_⟩
          conv => whnf
          refine ⟨rfl, ?_⟩
          conv => whnf
          repeat' (first | exact trivial | exact rfl | refine And.intro ?_ ?_ | ((conv => whnf); first | exact trivial | exact rfl | refine And.intro ?_ ?_ | omega))
      · have hc0 : c = 0 := by have := of_decide_eq_false (show decide (0 ≤ (c : Int) - 1) = false from hc); omega
        subst hc0
        clear hc
        conv => whnf
        refine call_step hhas rfl rfl ?_
        conv => whnf
        refine ⟨(by repeat' (first | exact trivial | exact rfl | refine And.intro ?_ ?_ | ((conv => whnf); first | exact trivial | exact rfl | refine And.intro ?_ ?_ | omega))), (by repeat' (first | exact trivial | exact rfl | refine And.intro ?_ ?_ | ((conv => whnf); first | exact trivial | exact rfl | refine And.intro ?_ ?_ | omega))), ?_⟩
        conv => whnf
        cases B with
        | true =>
          refine ⟨fun hc => ?_, fun hc => absurd hc (by simp)⟩
          conv => whnf
          repeat' (first | exact trivial | exact rfl | refine And.intro ?_ ?_ | ((conv => whnf); first | exact trivial | exact rfl | refine And.intro ?_ ?_ | omega))
        | false =>
          have hMe : M = ls.reverse := hMr rfl
          have hMlen : M.length = ls.length := by rw [hMe, List.length_reverse]
          have hmem : ∀ l, l ∈ ls ↔ l ∈ M := fun l => by rw [hMe, List.mem_reverse]
          have hwM : NetW bs M := hw.sub (by omega) hMs
          obtain ⟨lo, hi, e, r1, r2⟩ := range_same hw hwM hmem a b
          obtain ⟨xs, e2, hxl, n1, n2⟩ := needs_two hw hwM hmem a b
          have hint := ints_t xs xs (by omega)
          rw [beq_self_eq_true] at hint
          have bx1 := boxes_t bs ls hw.sys
          have bx2 := boxes_t bs M hwM.sys
          rw [boxes_same hw hwM hmem] at bx2
          have hbl := boxesF_len bs.length (graphF bs ls 0)
          generalize boxesF bs.length (graphF bs ls 0) = bx at *
          have hsp := spansSame_t bx (by omega)
          have hl1 := netLinks_t bs ls (by omega)
          have hl2 := netLinks_t bs M (by omega)
          by_cases hf : formF form bs.length = 0
          · obtain ⟨v1, u1, p1, hb1, v1b, _, a1, q1, m1⟩ := best_call hw hf
            obtain ⟨v2, u2, p2, hb2, v2b, _, a2, q2, m2⟩ := best_call hwM hf
            have hv12 : v1 = v2 := by
              have x1 := m1 p2 ((allows_same hw.sys hwM.sys hmem).2 a2)
              have x2 := m2 p1 ((allows_same hw.sys hwM.sys hmem).1 a1)
              omega
            subst hv12
            clear m1 m2 hMr hMe
            refine ⟨fun hc => absurd hc (by simp), fun hc => ?_⟩
            conv => whnf
            refine call_step r1 rfl rfl ?_
            conv => whnf
            refine ⟨(by repeat' (first | exact trivial | exact rfl | refine And.intro ?_ ?_ | ((conv => whnf); first | exact trivial | exact rfl | refine And.intro ?_ ?_ | omega))), (by repeat' (first | exact trivial | exact rfl | refine And.intro ?_ ?_ | ((conv => whnf); first | exact trivial | exact rfl | refine And.intro ?_ ?_ | omega))), ?_⟩
            conv => whnf
            refine call_step r2 rfl rfl ?_
            conv => whnf
            refine ⟨(by repeat' (first | exact trivial | exact rfl | refine And.intro ?_ ?_ | ((conv => whnf); first | exact trivial | exact rfl | refine And.intro ?_ ?_ | omega))), (by repeat' (first | exact trivial | exact rfl | refine And.intro ?_ ?_ | ((conv => whnf); first | exact trivial | exact rfl | refine And.intro ?_ ?_ | omega))), ?_⟩
            conv => whnf
            refine call_step n1 rfl rfl ?_
            conv => whnf
            refine ⟨(by repeat' (first | exact trivial | exact rfl | refine And.intro ?_ ?_ | ((conv => whnf); first | exact trivial | exact rfl | refine And.intro ?_ ?_ | omega))), (by repeat' (first | exact trivial | exact rfl | refine And.intro ?_ ?_ | ((conv => whnf); first | exact trivial | exact rfl | refine And.intro ?_ ?_ | omega))), ?_⟩
            conv => whnf
            refine call_step n2 rfl rfl ?_
            conv => whnf
            refine ⟨(by repeat' (first | exact trivial | exact rfl | refine And.intro ?_ ?_ | ((conv => whnf); first | exact trivial | exact rfl | refine And.intro ?_ ?_ | omega))), (by repeat' (first | exact trivial | exact rfl | refine And.intro ?_ ?_ | ((conv => whnf); first | exact trivial | exact rfl | refine And.intro ?_ ?_ | omega))), ?_⟩
            conv => whnf
            refine call_step hb1 rfl rfl ?_
            conv => whnf
            refine ⟨(by repeat' (first | exact trivial | exact rfl | refine And.intro ?_ ?_ | ((conv => whnf); first | exact trivial | exact rfl | refine And.intro ?_ ?_ | omega))), (by repeat' (first | exact trivial | exact rfl | refine And.intro ?_ ?_ | ((conv => whnf); first | exact trivial | exact rfl | refine And.intro ?_ ?_ | omega))), ?_⟩
            conv => whnf
            refine call_step hb2 rfl rfl ?_
            conv => whnf
            refine ⟨(by repeat' (first | exact trivial | exact rfl | refine And.intro ?_ ?_ | ((conv => whnf); first | exact trivial | exact rfl | refine And.intro ?_ ?_ | omega))), (by repeat' (first | exact trivial | exact rfl | refine And.intro ?_ ?_ | ((conv => whnf); first | exact trivial | exact rfl | refine And.intro ?_ ?_ | omega))), ?_⟩
            conv => whnf
            refine call_step hint rfl rfl ?_
            conv => whnf
            refine ⟨(by repeat' (first | exact trivial | exact rfl | refine And.intro ?_ ?_ | ((conv => whnf); first | exact trivial | exact rfl | refine And.intro ?_ ?_ | omega))), (by repeat' (first | exact trivial | exact rfl | refine And.intro ?_ ?_ | ((conv => whnf); first | exact trivial | exact rfl | refine And.intro ?_ ?_ | omega))), ?_⟩
            conv => whnf
            refine call_step bx1 rfl rfl ?_
            conv => whnf
            refine ⟨(by repeat' (first | exact trivial | exact rfl | refine And.intro ?_ ?_ | ((conv => whnf); first | exact trivial | exact rfl | refine And.intro ?_ ?_ | omega))), (by repeat' (first | exact trivial | exact rfl | refine And.intro ?_ ?_ | ((conv => whnf); first | exact trivial | exact rfl | refine And.intro ?_ ?_ | omega))), ?_⟩
            conv => whnf
            refine call_step bx2 rfl rfl ?_
            conv => whnf
            refine ⟨(by repeat' (first | exact trivial | exact rfl | refine And.intro ?_ ?_ | ((conv => whnf); first | exact trivial | exact rfl | refine And.intro ?_ ?_ | omega))), (by repeat' (first | exact trivial | exact rfl | refine And.intro ?_ ?_ | ((conv => whnf); first | exact trivial | exact rfl | refine And.intro ?_ ?_ | omega))), ?_⟩
            conv => whnf
            refine call_step hsp rfl rfl ?_
            conv => whnf
            refine ⟨(by repeat' (first | exact trivial | exact rfl | refine And.intro ?_ ?_ | ((conv => whnf); first | exact trivial | exact rfl | refine And.intro ?_ ?_ | omega))), (by repeat' (first | exact trivial | exact rfl | refine And.intro ?_ ?_ | ((conv => whnf); first | exact trivial | exact rfl | refine And.intro ?_ ?_ | omega))), ?_⟩
            conv => whnf
            refine ⟨fun hc => ?_, fun hc => absurd hc (by simp)⟩
            conv => whnf
            refine ⟨fun hc => ?_, fun hc => absurd hc (by simp)⟩
            conv => whnf
            refine ⟨fun hc => ?_, fun hc => absurd hc (by simp)⟩
            conv => whnf
            refine ⟨fun hc => ?_, fun hc => absurd hc (by simp)⟩
            conv => whnf
            refine ⟨fun hc => ?_, fun hc => absurd hc (by simp)⟩
            conv => whnf
            refine ⟨fun hc => ?_, fun hc => absurd hc (by simp)⟩
            conv => whnf
            refine ⟨fun hc => ?_, fun hc => absurd hc (by simp)⟩
            conv => whnf
            refine ⟨fun hc => ?_, fun hc => absurd hc (by simp)⟩
            conv => whnf
            refine call_step hl1 rfl rfl ?_
            conv => whnf
            refine ⟨(by repeat' (first | exact trivial | exact rfl | refine And.intro ?_ ?_ | ((conv => whnf); first | exact trivial | exact rfl | refine And.intro ?_ ?_ | omega))), (by repeat' (first | exact trivial | exact rfl | refine And.intro ?_ ?_ | ((conv => whnf); first | exact trivial | exact rfl | refine And.intro ?_ ?_ | omega))), ?_⟩
            conv => whnf
            refine call_step hl2 rfl rfl ?_
            conv => whnf
            refine ⟨(by repeat' (first | exact trivial | exact rfl | refine And.intro ?_ ?_ | ((conv => whnf); first | exact trivial | exact rfl | refine And.intro ?_ ?_ | omega))), (by repeat' (first | exact trivial | exact rfl | refine And.intro ?_ ?_ | ((conv => whnf); first | exact trivial | exact rfl | refine And.intro ?_ ?_ | omega))), ?_⟩
            conv => whnf
            refine ⟨?_, trivial⟩
            show ((ls.length : Int) == M.length) = true
            rw [hMlen]
            exact beq_self_eq_true _
          · have hb1 := bestBad (ls := ls) form hnb hf
            have hb2 := bestBad (ls := M) form hnb hf
            clear hMr hMe
            generalize formF form bs.length = fe at *
            refine ⟨fun hc => absurd hc (by simp), fun hc => ?_⟩
            conv => whnf
            refine call_step r1 rfl rfl ?_
            conv => whnf
            refine ⟨(by repeat' (first | exact trivial | exact rfl | refine And.intro ?_ ?_ | ((conv => whnf); first | exact trivial | exact rfl | refine And.intro ?_ ?_ | omega))), (by repeat' (first | exact trivial | exact rfl | refine And.intro ?_ ?_ | ((conv => whnf); first | exact trivial | exact rfl | refine And.intro ?_ ?_ | omega))), ?_⟩
            conv => whnf
            refine call_step r2 rfl rfl ?_
            conv => whnf
            refine ⟨(by repeat' (first | exact trivial | exact rfl | refine And.intro ?_ ?_ | ((conv => whnf); first | exact trivial | exact rfl | refine And.intro ?_ ?_ | omega))), (by repeat' (first | exact trivial | exact rfl | refine And.intro ?_ ?_ | ((conv => whnf); first | exact trivial | exact rfl | refine And.intro ?_ ?_ | omega))), ?_⟩
            conv => whnf
            refine call_step n1 rfl rfl ?_
            conv => whnf
            refine ⟨(by repeat' (first | exact trivial | exact rfl | refine And.intro ?_ ?_ | ((conv => whnf); first | exact trivial | exact rfl | refine And.intro ?_ ?_ | omega))), (by repeat' (first | exact trivial | exact rfl | refine And.intro ?_ ?_ | ((conv => whnf); first | exact trivial | exact rfl | refine And.intro ?_ ?_ | omega))), ?_⟩
            conv => whnf
            refine call_step n2 rfl rfl ?_
            conv => whnf
            refine ⟨(by repeat' (first | exact trivial | exact rfl | refine And.intro ?_ ?_ | ((conv => whnf); first | exact trivial | exact rfl | refine And.intro ?_ ?_ | omega))), (by repeat' (first | exact trivial | exact rfl | refine And.intro ?_ ?_ | ((conv => whnf); first | exact trivial | exact rfl | refine And.intro ?_ ?_ | omega))), ?_⟩
            conv => whnf
            refine call_step hb1 rfl rfl ?_
            conv => whnf
            refine ⟨(by repeat' (first | exact trivial | exact rfl | refine And.intro ?_ ?_ | ((conv => whnf); first | exact trivial | exact rfl | refine And.intro ?_ ?_ | omega))), (by repeat' (first | exact trivial | exact rfl | refine And.intro ?_ ?_ | ((conv => whnf); first | exact trivial | exact rfl | refine And.intro ?_ ?_ | omega))), ?_⟩
            conv => whnf
            refine call_step hb2 rfl rfl ?_
            conv => whnf
            refine ⟨(by repeat' (first | exact trivial | exact rfl | refine And.intro ?_ ?_ | ((conv => whnf); first | exact trivial | exact rfl | refine And.intro ?_ ?_ | omega))), (by repeat' (first | exact trivial | exact rfl | refine And.intro ?_ ?_ | ((conv => whnf); first | exact trivial | exact rfl | refine And.intro ?_ ?_ | omega))), ?_⟩
            conv => whnf
            refine call_step hint rfl rfl ?_
            conv => whnf
            refine ⟨(by repeat' (first | exact trivial | exact rfl | refine And.intro ?_ ?_ | ((conv => whnf); first | exact trivial | exact rfl | refine And.intro ?_ ?_ | omega))), (by repeat' (first | exact trivial | exact rfl | refine And.intro ?_ ?_ | ((conv => whnf); first | exact trivial | exact rfl | refine And.intro ?_ ?_ | omega))), ?_⟩
            conv => whnf
            refine call_step bx1 rfl rfl ?_
            conv => whnf
            refine ⟨(by repeat' (first | exact trivial | exact rfl | refine And.intro ?_ ?_ | ((conv => whnf); first | exact trivial | exact rfl | refine And.intro ?_ ?_ | omega))), (by repeat' (first | exact trivial | exact rfl | refine And.intro ?_ ?_ | ((conv => whnf); first | exact trivial | exact rfl | refine And.intro ?_ ?_ | omega))), ?_⟩
            conv => whnf
            refine call_step bx2 rfl rfl ?_
            conv => whnf
            refine ⟨(by repeat' (first | exact trivial | exact rfl | refine And.intro ?_ ?_ | ((conv => whnf); first | exact trivial | exact rfl | refine And.intro ?_ ?_ | omega))), (by repeat' (first | exact trivial | exact rfl | refine And.intro ?_ ?_ | ((conv => whnf); first | exact trivial | exact rfl | refine And.intro ?_ ?_ | omega))), ?_⟩
            conv => whnf
            refine call_step hsp rfl rfl ?_
            conv => whnf
            refine ⟨(by repeat' (first | exact trivial | exact rfl | refine And.intro ?_ ?_ | ((conv => whnf); first | exact trivial | exact rfl | refine And.intro ?_ ?_ | omega))), (by repeat' (first | exact trivial | exact rfl | refine And.intro ?_ ?_ | ((conv => whnf); first | exact trivial | exact rfl | refine And.intro ?_ ?_ | omega))), ?_⟩
            conv => whnf
            refine ⟨fun hc => ?_, fun hc => absurd hc (by simp)⟩
            conv => whnf
            refine ⟨fun hc => ?_, fun hc => absurd hc (by simp)⟩
            conv => whnf
            refine ⟨fun hc => ?_, fun hc => absurd hc (by simp)⟩
            conv => whnf
            refine ⟨fun hc => ?_, fun hc => absurd hc (by simp)⟩
            conv => whnf
            refine ⟨fun hc => ?_, fun hc => absurd hc (by simp)⟩
            conv => whnf
            refine ⟨fun hc => ?_, fun hc => absurd hc (by simp)⟩
            conv => whnf
            refine ⟨fun hc => ?_, fun hc => absurd hc (by simp)⟩
            conv => whnf
            refine ⟨fun hc => ?_, fun hc => absurd hc (by simp)⟩
            conv => whnf
            refine call_step hl1 rfl rfl ?_
            conv => whnf
            refine ⟨(by repeat' (first | exact trivial | exact rfl | refine And.intro ?_ ?_ | ((conv => whnf); first | exact trivial | exact rfl | refine And.intro ?_ ?_ | omega))), (by repeat' (first | exact trivial | exact rfl | refine And.intro ?_ ?_ | ((conv => whnf); first | exact trivial | exact rfl | refine And.intro ?_ ?_ | omega))), ?_⟩
            conv => whnf
            refine call_step hl2 rfl rfl ?_
            conv => whnf
            refine ⟨(by repeat' (first | exact trivial | exact rfl | refine And.intro ?_ ?_ | ((conv => whnf); first | exact trivial | exact rfl | refine And.intro ?_ ?_ | omega))), (by repeat' (first | exact trivial | exact rfl | refine And.intro ?_ ?_ | ((conv => whnf); first | exact trivial | exact rfl | refine And.intro ?_ ?_ | omega))), ?_⟩
            conv => whnf
            refine ⟨?_, trivial⟩
            show ((ls.length : Int) == M.length) = true
            rw [hMlen]
            exact beq_self_eq_true _
    · skip
      refine triple_of tB_ok Try.func15 rfl Try.call15 rfl ?_
      intro ρ w hH
      conv => whnf
      refine call_step head_t rfl rfl ?_
      conv => whnf
      refine ⟨(by repeat' (first | exact trivial | exact rfl | refine And.intro ?_ ?_ | ((conv => whnf); first | exact trivial | exact rfl | refine And.intro ?_ ?_ | omega))), (by repeat' (first | exact trivial | exact rfl | refine And.intro ?_ ?_ | ((conv => whnf); first | exact trivial | exact rfl | refine And.intro ?_ ?_ | omega))), ?_⟩
      conv => whnf
      refine call_step (startYes_t bs ls h) rfl rfl ?_
      conv => whnf
      refine ⟨(by repeat' (first | exact trivial | exact rfl | refine And.intro ?_ ?_ | ((conv => whnf); first | exact trivial | exact rfl | refine And.intro ?_ ?_ | omega))), (by repeat' (first | exact trivial | exact rfl | refine And.intro ?_ ?_ | ((conv => whnf); first | exact trivial | exact rfl | refine And.intro ?_ ?_ | omega))), ?_⟩
      conv => whnf
      refine ⟨fun hc => ?_, fun hc => absurd (of_decide_eq_false (show decide ((6 : Int) < other.length) = false from hc)) (by omega)⟩
      conv => whnf
      repeat' (first | exact trivial | exact rfl | refine And.intro ?_ ?_ | ((conv => whnf); first | exact trivial | exact rfl | refine And.intro ?_ ?_ | omega))
  · skip
    refine triple_of tB_ok Try.func15 rfl Try.call15 rfl ?_
    intro ρ w hH
    conv => whnf
    refine call_step head_t rfl rfl ?_
    conv => whnf
    refine ⟨(by repeat' (first | exact trivial | exact rfl | refine And.intro ?_ ?_ | ((conv => whnf); first | exact trivial | exact rfl | refine And.intro ?_ ?_ | omega))), (by repeat' (first | exact trivial | exact rfl | refine And.intro ?_ ?_ | ((conv => whnf); first | exact trivial | exact rfl | refine And.intro ?_ ?_ | omega))), ?_⟩
    conv => whnf
    refine call_step (startNo_t bs ls h) rfl rfl ?_
    conv => whnf
    refine ⟨(by repeat' (first | exact trivial | exact rfl | refine And.intro ?_ ?_ | ((conv => whnf); first | exact trivial | exact rfl | refine And.intro ?_ ?_ | omega))), (by repeat' (first | exact trivial | exact rfl | refine And.intro ?_ ?_ | ((conv => whnf); first | exact trivial | exact rfl | refine And.intro ?_ ?_ | omega))), ?_⟩
    conv => whnf
    repeat' (first | exact trivial | exact rfl | refine And.intro ?_ ?_ | ((conv => whnf); first | exact trivial | exact rfl | refine And.intro ?_ ?_ | omega))

end Go.Proofs

