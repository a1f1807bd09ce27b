/-
  A part of the proof that a law of dryweightlaw03 answers true: lemmas of a symbolic walk, plain functions, or contracts of the functions walked (Pm9, Pm10, Sx30, X4, W2, X5, X9, Xa, Pm12, Xb, Xc, Pm13). Conditions: none.
-/
import Derived.Test.YtjjfadfmdodmnaaPart16
import Derived.Lib.SlicesCompact
import Derived.Test.YtjjfadfmdodmnaaPart06
import Derived.Test.YtjjfadfmdodmnaaPart09
import Derived.Test.YtjjfadfmdodmnaaPart14
set_option maxRecDepth 100000
set_option linter.unusedVariables false
set_option linter.unusedSimpArgs false
/-
  Plain lemmas, part 9: the IDs of links, in increasing order, each once, as the reference implementation finds them. Conditions: none; definitions and plain lemmas.
-/
namespace Go
namespace Proofs

def withoutF (ls : List Lnk) (id : Int) : List Lnk := ls.filter fun l => l.i != id

def posI (x : Int) : List Int → Nat
  | [] => 0
  | y :: r => if y < x then posI x r + 1 else 0

def insI (o : List Int) (x : Int) : List Int :=
  if x = 0 ∨ (∃ h : posI x o < o.length, o[posI x o] = x) then o else o.take (posI x o) ++ x :: o.drop (posI x o)

def refIds (ls : List Lnk) : List Int := ls.foldl (fun o l => insI o l.i) []

theorem posI_le (x : Int) : ∀ o : List Int, posI x o ≤ o.length
  | [] => Nat.le_refl _
  | y :: r => by
    have := posI_le x r
    simp only [posI, List.length_cons]
    split <;> omega

theorem refIds_len : ∀ (ls : List Lnk) (o : List Int), (ls.foldl (fun o l => insI o l.i) o).length ≤ o.length + ls.length
  | [], o => by simp
  | l :: r, o => by
    have h1 := refIds_len r (insI o l.i)
    have h2 : (insI o l.i).length ≤ o.length + 1 := by
      unfold insI
      split
      · omega
      · have := posI_le l.i o
        rw [List.length_append, List.length_cons, List.length_take, List.length_drop]; omega
    simp only [List.foldl_cons, List.length_cons]
    omega

/-! Increasing lists with the same members are the same. -/

theorem inc_ext : ∀ {a b : List Int}, a.Pairwise (· < ·) → b.Pairwise (· < ·) → (∀ x, x ∈ a ↔ x ∈ b) → a = b
  | [], [], _, _, _ => rfl
  | [], y :: r, _, _, h => by have := (h y).2 (by simp); simp at this
  | x :: r, [], _, _, h => by have := (h x).1 (by simp); simp at this
  | x :: r, y :: s, ha, hb, h => by
    rw [List.pairwise_cons] at ha hb
    have hxy : x = y := by
      have h1 := (h x).1 (by simp)
      have h2 := (h y).2 (by simp)
      rcases List.mem_cons.1 h1 with h1 | h1
      · exact h1
      · rcases List.mem_cons.1 h2 with h2 | h2
        · exact h2.symm
        · have := ha.1 _ h2
          have := hb.1 _ h1
          omega
    subst hxy
    congr 1
    refine inc_ext ha.2 hb.2 fun z => ⟨fun hz => ?_, fun hz => ?_⟩
    · have := ha.1 z hz
      rcases List.mem_cons.1 ((h z).1 (by simp [hz])) with h1 | h1
      · omega
      · exact h1
    · have := hb.1 z hz
      rcases List.mem_cons.1 ((h z).2 (by simp [hz])) with h1 | h1
      · omega
      · exact h1

theorem insI_inc {x : Int} : ∀ {o : List Int}, o.Pairwise (· < ·) → (x ≠ 0) → (insI o x).Pairwise (· < ·) ∧ ∀ y, y ∈ insI o x ↔ y ∈ o ∨ y = x := by
  have key : ∀ {o : List Int}, o.Pairwise (· < ·) → (o.take (posI x o)).Pairwise (· < ·) ∧ (∀ y ∈ o.take (posI x o), y < x) ∧ (∀ y ∈ o.drop (posI x o), x ≤ y) := by
    intro o
    induction o with
    | nil => intro _; simp [posI]
    | cons z r ih =>
      intro h
      rw [List.pairwise_cons] at h
      simp only [posI]
      split
      · rename_i hz
        obtain ⟨i1, i2, i3⟩ := ih h.2
        refine ⟨?_, ?_, ?_⟩
        · rw [List.take_succ_cons, List.pairwise_cons]
          exact ⟨fun y hy => h.1 y (List.mem_of_mem_take hy), i1⟩
        · intro y hy
          rw [List.take_succ_cons] at hy
          rcases List.mem_cons.1 hy with rfl | hy
          · exact hz
          · exact i2 y hy
        · intro y hy
          rw [List.drop_succ_cons] at hy
          exact i3 y hy
      · rename_i hz
        refine ⟨by simp, by simp, fun y hy => ?_⟩
        rw [List.drop_zero] at hy
        rcases List.mem_cons.1 hy with rfl | hy
        · omega
        · have := h.1 y hy; omega
  intro o ho hx
  obtain ⟨k1, k2, k3⟩ := key ho
  unfold insI
  split
  · rename_i h
    rcases h with h | ⟨h1, h2⟩
    · exact absurd h hx
    · refine ⟨ho, fun y => ⟨.inl, fun h => ?_⟩⟩
      rcases h with h | h
      · exact h
      · rw [h]
        have := List.getElem_mem h1
        rwa [h2] at this
  · rename_i h
    have hnot : ∀ y ∈ o.drop (posI x o), x < y := by
      intro y hy
      have h1 := k3 y hy
      rcases Int.lt_or_eq_of_le h1 with h2 | h2
      · exact h2
      · exfalso
        subst h2
        have hlt : posI x o < o.length := by
          rcases Nat.lt_or_ge (posI x o) o.length with h3 | h3
          · exact h3
          · rw [List.drop_eq_nil_of_le h3] at hy; cases hy
        refine h (.inr ⟨hlt, ?_⟩)
        rw [List.drop_eq_getElem_cons hlt] at hy
        have hd : (o.drop (posI x o)).Pairwise (· < ·) := ho.sublist (List.drop_sublist _ _)
        rw [List.drop_eq_getElem_cons hlt, List.pairwise_cons] at hd
        rcases List.mem_cons.1 hy with hy | hy
        · exact hy.symm
        · have := hd.1 x hy
          have hm : o[posI x o] ∈ o[posI x o] :: o.drop (posI x o + 1) := List.mem_cons_self ..
          rw [← List.drop_eq_getElem_cons hlt] at hm
          have := k3 (o[posI x o]) hm
          omega
    refine ⟨?_, fun y => ?_⟩
    · rw [List.pairwise_append]
      refine ⟨k1, ?_, fun a ha b hb => ?_⟩
      · rw [List.pairwise_cons]
        exact ⟨hnot, ho.sublist (List.drop_sublist _ _)⟩
      · have := k2 a ha
        rcases List.mem_cons.1 hb with rfl | hb
        · exact this
        · have := hnot b hb; omega
    · rw [List.mem_append, List.mem_cons]
      conv => rhs; rw [← List.take_append_drop (posI x o) o, List.mem_append]
      constructor
      · rintro (h | h | h)
        · exact .inl (.inl h)
        · exact .inr h
        · exact .inl (.inr h)
      · rintro ((h | h) | h)
        · exact .inl h
        · exact .inr (.inr h)
        · exact .inr (.inl h)

theorem refIds_inc : ∀ {ls : List Lnk} {o : List Int}, o.Pairwise (· < ·) → (ls.foldl (fun o l => insI o l.i) o).Pairwise (· < ·) ∧ ∀ y, y ∈ ls.foldl (fun o l => insI o l.i) o ↔ y ∈ o ∨ (y ≠ 0 ∧ ∃ l ∈ ls, l.i = y)
  | [], o, h => ⟨h, fun y => by simp⟩
  | l :: r, o, h => by
    by_cases hx : l.i = 0
    · have e : insI o l.i = o := by unfold insI; rw [if_pos (.inl hx)]
      simp only [List.foldl_cons, e]
      obtain ⟨h1, h2⟩ := refIds_inc (ls := r) h
      refine ⟨h1, fun y => ?_⟩
      rw [h2]
      constructor
      · rintro (h | ⟨h, l', hl', he⟩)
        · exact .inl h
        · exact .inr ⟨h, l', by simp [hl'], he⟩
      · rintro (h | ⟨h, l', hl', he⟩)
        · exact .inl h
        · rcases List.mem_cons.1 hl' with rfl | hl'
          · exact absurd (he.symm.trans hx) h
          · exact .inr ⟨h, l', hl', he⟩
    · obtain ⟨i1, i2⟩ := insI_inc h hx
      obtain ⟨h1, h2⟩ := refIds_inc (ls := r) i1
      simp only [List.foldl_cons]
      refine ⟨h1, fun y => ?_⟩
      rw [h2, i2]
      constructor
      · rintro ((h | h) | ⟨h, l', hl', he⟩)
        · exact .inl h
        · exact .inr ⟨by rw [h]; exact hx, l, by simp, h.symm⟩
        · exact .inr ⟨h, l', by simp [hl'], he⟩
      · rintro (h | ⟨h, l', hl', he⟩)
        · exact .inl (.inl h)
        · rcases List.mem_cons.1 hl' with rfl | hl'
          · exact .inl (.inr he.symm)
          · exact .inr ⟨h, l', hl', he⟩

end Proofs
end Go

/-
  Plain lemmas, part 10: sorting and dropping equal neighbours gives an increasing list with the same members. Conditions: none; plain lemmas.
-/
namespace Go
namespace Proofs

theorem comp_inc {d : Array Int} (hd : ∀ i j, i < j → j < d.size → d[i]! ≤ d[j]!) : ∀ m, m ≤ d.size →
    (Lib.compactUpTo d m).Pairwise (· < ·) ∧ (∀ x, x ∈ Lib.compactUpTo d m ↔ ∃ j, j < m ∧ d[j]! = x)
  | 0, _ => by simp [Lib.compactUpTo]
  | m + 1, hm => by
    obtain ⟨h1, h2⟩ := comp_inc hd m (by omega)
    rw [Lib.compactUpTo_succ]
    cases hk : Lib.keeps d m with
    | true =>
      rw [if_pos rfl]
      refine ⟨?_, fun x => ?_⟩
      · rw [List.pairwise_append]
        refine ⟨h1, by simp, fun a ha b hb => ?_⟩
        simp at hb
        obtain ⟨j, hj, he⟩ := (h2 a).1 ha
        have hne : d[m]! ≠ d[m - 1]! := by
          simp only [Lib.keeps, decide_eq_true_eq] at hk
          rcases hk with hk | hk
          · omega
          · exact hk
        have hle1 := hd (m - 1) m (by omega) (by omega)
        have hle2 : d[j]! ≤ d[m - 1]! := by
          rcases Nat.lt_or_ge j (m - 1) with h | h
          · exact hd j (m - 1) h (by omega)
          · rw [show j = m - 1 from by omega]; exact Int.le_refl _
        rw [hb, ← he]
        omega
      · rw [List.mem_append, h2]
        constructor
        · rintro (⟨j, hj, he⟩ | h)
          · exact ⟨j, by omega, he⟩
          · simp at h; exact ⟨m, by omega, h.symm⟩
        · rintro ⟨j, hj, he⟩
          by_cases hjm : j = m
          · right; rw [← he, hjm]; simp
          · exact .inl ⟨j, by omega, he⟩
    | false =>
      rw [if_neg (by simp), List.append_nil]
      refine ⟨h1, fun x => ?_⟩
      rw [h2]
      constructor
      · rintro ⟨j, hj, he⟩; exact ⟨j, by omega, he⟩
      · rintro ⟨j, hj, he⟩
        by_cases hjm : j = m
        · have hm0 : m ≠ 0 ∧ d[m]! = d[m - 1]! := by
            simp only [Lib.keeps, decide_eq_false_iff_not, not_or] at hk
            exact ⟨hk.1, by simpa using hk.2⟩
          exact ⟨m - 1, by omega, by rw [← he, hjm]; exact hm0.2.symm⟩
        · exact ⟨j, by omega, he⟩

theorem compact_inc {xs : List Int} (h : xs.Pairwise (· ≤ ·)) : (Lib.compact xs).Pairwise (· < ·) ∧ ∀ x, x ∈ Lib.compact xs ↔ x ∈ xs := by
  have hd : ∀ i j, i < j → j < xs.toArray.size → xs.toArray[i]! ≤ xs.toArray[j]! := by
    intro i j hij hj
    have hj' : j < xs.length := by simpa using hj
    have := List.pairwise_iff_getElem.1 h i j (by omega) hj' hij
    simpa [getElem!_pos, hj', show i < xs.length by omega] using this
  obtain ⟨h1, h2⟩ := comp_inc hd xs.length (by simp)
  refine ⟨h1, fun x => ?_⟩
  unfold Lib.compact
  rw [h2, List.mem_iff_getElem]
  constructor
  · rintro ⟨j, hj, he⟩
    exact ⟨j, hj, by simpa [getElem!_pos, hj] using he⟩
  · rintro ⟨j, hj, he⟩
    exact ⟨j, hj, by simpa [getElem!_pos, hj] using he⟩

theorem sort_inc (xs : List Int) : (xs.mergeSort fun x y => decide (x ≤ y)).Pairwise (· ≤ ·) := by
  have := List.pairwise_mergeSort (le := fun (x y : Int) => decide (x ≤ y)) (fun a b c h1 h2 => by simp at *; omega) (fun a b => by simp; omega) xs
  simpa using this

/-- The IDs, as the program finds them, are those that the reference implementation finds. -/
theorem ids_eq {ls : List Lnk} (h : ∀ l ∈ ls, 0 ≤ l.i) : Lib.compact (((ls.filter fun l => decide (0 < l.i)).map (·.i)).mergeSort fun x y => decide (x ≤ y)) = refIds ls := by
  obtain ⟨h1, h2⟩ := compact_inc (sort_inc ((ls.filter fun (l : Lnk) => decide (0 < l.i)).map fun (l : Lnk) => l.i))
  obtain ⟨h3, h4⟩ := refIds_inc (ls := ls) (o := []) List.Pairwise.nil
  refine inc_ext h1 h3 fun x => ?_
  rw [h2, List.mem_mergeSort]
  unfold refIds
  rw [h4]
  simp only [List.mem_map, List.mem_filter, decide_eq_true_eq]
  constructor
  · rintro ⟨l, ⟨hl, hp⟩, rfl⟩
    exact .inr ⟨by omega, l, hl, rfl⟩
  · rintro (hx | ⟨hx, l, hl, rfl⟩)
    · cases hx
    · have := h l hl
      exact ⟨l, ⟨hl, by omega⟩, rfl⟩

end Proofs
end Go

namespace Go
namespace Sx

/-! ### append to no slice -/

end Sx
end Go

namespace Go.Proofs
open Go.Sx

end Go.Proofs

namespace Go.Proofs
open Go.Sx

theorem ints_t (xs ys : List Int) (hb : xs.length ≤ 1000000) : Triple Try.prog 27 [.c (.s 0 0 xs.length 1), .c (.s 1 0 ys.length 1)] [(0, false, .arr (aInt xs)), (1, false, .arr (aInt ys))] 2 (bv (xs == ys)) [] := by
  refine triple_of tB_ok Try.func27 rfl Try.call27 rfl ?_
  intro ρ w hH
  conv => whnf
  refine ⟨fun h => ?_, fun h => ?_⟩
  · conv => whnf
    refine ⟨(?_ : false = (xs == ys)), trivial⟩
    have : xs ≠ ys := by rintro rfl; simp at h
    simp [this]
  · conv => whnf
    refine loop_step tB_ok (G := Nat) 0 [] (fun i => [(5, iv .i64 i)]) (fun _ => []) (fun i => i ≤ xs.length ∧ xs.take i = ys.take i) (fun i => xs.length - i) ?_
    conv => whnf
    have hl : xs.length = ys.length := by simp at h; omega
    refine ⟨⟨0, ⟨Nat.zero_le _, by simp⟩, ?_⟩, ?_⟩
    · conv => whnf
      exact ⟨⟨rfl, trivial⟩, trivial⟩
    · intro i hi ρ1 t1 hρ1
      conv => whnf
      refine ⟨fun h1 => ?_, fun h1 => ?_⟩
      · conv => whnf
        have h1 : i < xs.length := by simpa using h1
        refine ⟨i, rfl, h1, h1, ?_⟩
        conv => whnf
        refine ⟨i, rfl, by omega, (by omega : i < ys.length), ?_⟩
        conv => whnf
        refine ⟨fun h2 => ?_, fun h2 => ?_⟩
        · conv => whnf
          refine ⟨(?_ : false = (xs == ys)), trivial⟩
          have h2 : (xs[i] != ys[i]'(by omega)) = true := h2
          have : xs ≠ ys := by rintro rfl; simp at h2
          simp [this]
        · have h2 : (xs[i] != ys[i]'(by omega)) = false := h2
          conv => whnf
          refine ⟨_, rfl, ?_⟩
          conv => whnf
          refine ⟨i + 1, ⟨by omega, ?_⟩, (by show xs.length - (i + 1) < xs.length - i; omega), ?_⟩
          · simp at h2
            rw [List.take_succ_eq_append_getElem h1, List.take_succ_eq_append_getElem (by omega), hi.2, h2]
          · conv => whnf
            refine ⟨rfl, ?_⟩
            conv => whnf
            refine ⟨⟨?_, trivial⟩, trivial⟩
            conv => whnf
            exact wrapId ⟨by omega, by omega⟩
      · conv => whnf
        have h1 : ¬ i < xs.length := by simpa using h1
        refine ⟨(?_ : true = (xs == ys)), trivial⟩
        have : xs = ys := by
          have := hi.2
          rwa [List.take_of_length_le (by omega), List.take_of_length_le (by omega)] at this
        simp [this]

end Go.Proofs

namespace Go.Proofs
open Go.Sx

theorem graphF_without {bs : List (Int × Int)} {ls : List Lnk} {id : Int} (h : id ≠ 0) : allF bs (withoutF ls id) = graphF bs ls id := by
  unfold allF graphF withoutF allF
  rw [List.filter_append]
  congr 1
  · symm
    refine List.filter_eq_self.2 fun l hl => ?_
    have hi : l.i = 0 := by
      obtain ⟨i, b, _, h1 | h1⟩ := boxLinks_mem hl <;> rw [h1]
    unfold keeps
    rw [hi]
    have : (0 : Int) ≠ id := fun h2 => h h2.symm
    simp [this]
  · refine List.filter_congr fun l _ => ?_
    unfold keeps
    have : (id == 0) = false := by simpa using h
    rw [this, Bool.false_or]

theorem calm_pot {bs : List (Int × Int)} {ls : List Lnk} (hs : SysOK bs ls) (h : Calm bs ls 0) : ∃ q : Nat → Int, ∀ k, PotL bs.length q (graphF bs ls k) := by
  have hp := (rounds_hub (rev := noR) (k := bs.length + 2) (graphF_ok hs 0) (hub_graph bs ls 0) (Nat.le_refl _) h).2
  have hL := potL_iff.2 hp
  refine ⟨fun v => (shortF bs.length noR (graphF bs ls 0) bs.length).1.sum.getD v 0, fun k l hl => hL l ?_⟩
  rw [graphF_zero]
  exact (List.mem_filter.1 hl).1

theorem needsE_t (bs : List (Int × Int)) (ls : List Lnk) (a b : Int) (hs : SysOK bs ls) (hp : withinF a (-1) (bs.length - 1) = false ∨ withinF b (-1) (bs.length - 1) = false) :
    Triple Try.prog 23 [.c (.p 0 0 0 0), iv .i64 a, iv .i64 b] (netH bs ls) 3 (.tup [.inl (.s 3 0 0 1), .inl (.v (.int .i64 1))]) [(3, true, .arr (aInt []))] := by
  refine triple_of tB_ok Try.func23 rfl Try.call23 rfl ?_
  intro ρ w hH
  conv => whnf
  have hnb := hs.nb
  refine call_step (isPlace_t bs ls a (by omega)) rfl rfl ?_
  conv => whnf
  refine ⟨(by repeat' (first | exact trivial | exact rfl | refine And.intro ?_ ?_ | ((conv => whnf); first | exact trivial | exact rfl | refine And.intro ?_ ?_ | omega))), (by repeat' (first | exact trivial | exact rfl | refine And.intro ?_ ?_ | ((conv => whnf); first | exact trivial | exact rfl | refine And.intro ?_ ?_ | omega))), ?_⟩
  conv => whnf
  refine ⟨fun hc => ?_, fun hc => ?_⟩
  · conv => whnf
    repeat' (first | exact trivial | exact rfl | refine And.intro ?_ ?_ | ((conv => whnf); first | exact trivial | exact rfl | refine And.intro ?_ ?_ | omega))
  conv => whnf
  refine call_step (isPlace_t bs ls b (by omega)) rfl rfl ?_
  conv => whnf
  refine ⟨(by repeat' (first | exact trivial | exact rfl | refine And.intro ?_ ?_ | ((conv => whnf); first | exact trivial | exact rfl | refine And.intro ?_ ?_ | omega))), (by repeat' (first | exact trivial | exact rfl | refine And.intro ?_ ?_ | ((conv => whnf); first | exact trivial | exact rfl | refine And.intro ?_ ?_ | omega))), ?_⟩
  conv => whnf
  refine ⟨fun hc => ?_, fun hc => ?_⟩
  · conv => whnf
    repeat' (first | exact trivial | exact rfl | refine And.intro ?_ ?_ | ((conv => whnf); first | exact trivial | exact rfl | refine And.intro ?_ ?_ | omega))
  · simp at *
    simp_all

theorem both_places (n : Nat) (a b : Int) : ((-1 ≤ a ∧ a < n) ∧ (-1 ≤ b ∧ b < n) ∧ withinF a (-1) (n - 1) = true ∧ withinF b (-1) (n - 1) = true) ∨
    ((withinF a (-1) (n - 1) = false ∨ withinF b (-1) (n - 1) = false) ∧ (placeF n a = false ∨ placeF n b = false)) := by
  cases h1 : withinF a (-1) (n - 1) with
  | false => exact .inr ⟨.inl rfl, .inl (by rw [place_within]; exact h1)⟩
  | true =>
    cases h2 : withinF b (-1) (n - 1) with
    | false => exact .inr ⟨.inr rfl, .inr (by rw [place_within]; exact h2)⟩
    | true =>
      simp [withinF] at h1 h2
      exact .inl ⟨by omega, by omega, rfl, rfl⟩

end Go.Proofs

namespace Go.Proofs
open Go.Sx

theorem shortF_bd (n : Nat) (rev : Nat → Bool) (arcs : List Lnk) (src : Nat) (hn : n ≤ 1000) (hl : arcs.length ≤ 10000) (hok : ∀ l ∈ arcs, ArcOK n l) : ∀ v, -700000000000000 ≤ (shortF n rev arcs src).1.sum.getD v 0 ∧ (shortF n rev arcs src).1.sum.getD v 0 ≤ 700000000000000 := by
  intro v
  have h := shortF_tok n rev arcs src hok
  have hb : ((n + 3 : Nat) : Int) * (67108864 * arcs.length) ≤ 1003 * (67108864 * 10000) := Int.mul_le_mul (by omega) (by omega) (by omega) (by omega)
  by_cases hi : v < (shortF n rev arcs src).1.sum.length
  · have := h.bd _ (getD_mem hi)
    omega
  · rw [List.getD_eq_getElem?_getD, List.getElem?_eq_none (by omega)]
    simp

/-! ### What a way back shows -/

theorem valI_at {pt : List Int} {i : Int} (h : -1099511627776 ≤ atF pt i ∧ atF pt i ≤ 1099511627776) : valI pt i = atF pt i := by
  unfold valI atF at *
  split
  · rfl
  · rename_i hi
    rw [if_neg hi] at h
    omega

end Go.Proofs

namespace Go.Proofs
open Go.Sx

theorem calm_tree {bs : List (Int × Int)} {ls : List Lnk} (hs : SysOK bs ls) (hcalm : Calm bs ls 0) (k : Int) {src : Nat} (hsrc : src ≤ bs.length) :
    (shortF bs.length noRev (graphF bs ls k) src).2 = -1 ∧ ∃ ts, Tree bs.length (graphF bs ls k) (edgs bs.length noR 0 (graphF bs ls k)) src (shortF bs.length noRev (graphF bs ls k) src).1 ts := by
  obtain ⟨q, hq⟩ := calm_pot hs hcalm
  have hr := rounds_pot (rev := noR) (k := bs.length + 2) (graphF_ok hs k) (potL_iff.1 (hq k)) hsrc (by omega)
  exact ⟨hr.1, tree_of (rev := noR) (graphF_ok hs k) (hub_graph bs ls k) hsrc hr.1⟩

end Go.Proofs

/-
  Plain lemmas, part 12: a place that was changed in a late round leads back into a cycle with a negative sum. Conditions: none; definitions and plain lemmas.
-/
namespace Go
namespace Proofs

def wsum (f : Nat → Int) : Nat → Int
  | 0 => 0
  | m + 1 => wsum f m + f m

/-- A cycle that relaxing has met: the way back from a place, by the arcs over which each place was reached; behind n + 1 steps it goes round, M steps each time. -/
structure Cyc (n : Nat) (arcs : List Lnk) (T : Tr) (v : Nat) (P kk : Nat → Nat) (M : Nat) : Prop where
  start : P 0 = v
  le : ∀ m, P m ≤ n
  lst : ∀ m, T.last[P m]? = some ((kk m : Nat) : Int)
  bef : ∀ m, befF n arcs (kk m) = some (P (m + 1))
  lnk : ∀ m, ∃ l, arcs[kk m / 2]? = some l ∧ plc n l.t = P m ∧ plc n l.f = P (m + 1)
  pos : 1 ≤ M
  len : M ≤ n + 1
  per : P (n + 1 + M) = P (n + 1)
  low : ∀ m, 1 ≤ m → m < M → P (n + 1 + m) ≠ P (n + 1)
  nodup : ((List.range M).map fun m => P (n + 1 + m)).Nodup
  neg : wsum (fun m => (arcs.getD (kk (n + 1 + m) / 2) ⟨0, 0, 0, 0⟩).m) M < 0

theorem least (p : Nat → Prop) (h : ∃ m, 1 ≤ m ∧ p m) : ∃ m, 1 ≤ m ∧ p m ∧ ∀ k, 1 ≤ k → k < m → ¬ p k := by
  obtain ⟨m, hm⟩ := h
  induction m using Nat.strongRecOn with
  | ind m ih =>
    by_cases hk : ∃ k, k < m ∧ 1 ≤ k ∧ p k
    · obtain ⟨k, h1, h2⟩ := hk
      exact ih k h1 h2
    · exact ⟨m, hm.1, hm.2, fun k h1 h2 h3 => hk ⟨k, h2, h1, h3⟩⟩

theorem cyc_of {n : Nat} {arcs : List Lnk} {src : Nat} (hok : ∀ l ∈ arcs, ArcOK n l) (hs : src ≤ n) (h : (shortF n noR arcs src).2 ≠ -1) :
    ∃ v P kk M, (shortF n noR arcs src).2 = ((v : Nat) : Int) ∧ v ≤ n ∧ Cyc n arcs (shortF n noR arcs src).1 v P kk M := by
  have hE := edgs_ok (rev := noR) hok
  have hG := edgs_key (n := n) (rev := noR) (arcs := arcs)
  obtain ⟨ts, r, hB, hr⟩ := BF.rounds (n := n) (rev := noR) (arcs := arcs) rfl hE (n + 2) 0 _ _ (BF.start hs)
  have hr : ∃ v, v < n + 1 ∧ (shortF n noR arcs src).2 = ((v : Nat) : Int) ∧ (0 + (n + 2)) * (edgs n noR 0 arcs).length + 1 ≤ ts v := by
    rcases hr with hr | hr
    · exact absurd hr.1 h
    · exact hr
  obtain ⟨v, hv, hch, hts⟩ := hr
  have hB : BF (edgs n noR 0 arcs) (n + 1) src r 0 ts (shortF n noR arcs src).1 := hB
  generalize (shortF n noR arcs src).1 = T at *
  rw [Nat.zero_add] at hts
  have hc := hB.chain hE hG hv hts
  obtain ⟨P, hP⟩ : ∃ P, P = backN (keyE n arcs) T v := ⟨_, rfl⟩
  rw [← hP] at hc
  have hstep : ∀ m, P (m + 1) = backF (keyE n arcs) T (P m) := fun m => by rw [hP]; rfl
  obtain ⟨i, j, hij, hj, he⟩ := pigeon (n + 1) P (fun i hi => (hc i (by omega)).1)
  have hshift : ∀ t, P (i + t) = P (j + t) := by
    intro t
    induction t with
    | zero => exact he
    | succ t ih => rw [show i + (t + 1) = i + t + 1 from rfl, show j + (t + 1) = j + t + 1 from rfl, hstep, hstep, ih]
  have hall : ∀ m, P m < n + 1 ∧ T.last.getD (P m) (-1) ≠ -1 := by
    intro m
    induction m using Nat.strongRecOn with
    | ind m ih =>
      by_cases hm : m ≤ n + 2
      · exact ⟨(hc m hm).1, (hc m hm).2.2⟩
      · have e : P m = P (m - (j - i)) := by
          have := hshift (m - j)
          rw [show i + (m - j) = m - (j - i) from by omega, show j + (m - j) = m from by omega] at this
          exact this.symm
        rw [e]
        exact ih _ (by omega)
  have hback := fun m => hB.back hG (hall m).1 (hall m).2
  obtain ⟨kk, hkk⟩ : ∃ kk : Nat → Nat, ∀ m, kk m = (T.last.getD (P m) (-1)).toNat := ⟨fun m => (T.last.getD (P m) (-1)).toNat, fun m => rfl⟩
  have hkk2 : ∀ m, T.last.getD (P m) (-1) = ((kk m : Nat) : Int) := by
    intro m
    obtain ⟨g1, g2, _⟩ := hback m
    have := (hE _ g1).2.2
    rw [g2] at this
    rw [hkk]; omega
  have hkey : ∀ m, keyE n arcs (kk m) ∈ edgs n noR 0 arcs ∧ (keyE n arcs (kk m)).k = (kk m : Int) ∧ (keyE n arcs (kk m)).b = P m ∧ (keyE n arcs (kk m)).a = P (m + 1) := by
    intro m
    obtain ⟨g1, g2, g3, _⟩ := hback m
    rw [hkk2 m] at g1 g2 g3
    refine ⟨g1, g2, g3, ?_⟩
    rw [hstep]; unfold backF; rw [hkk2 m]
  have hlnk : ∀ m, ∃ l, arcs[kk m / 2]? = some l ∧ plc n l.t = P m ∧ plc n l.f = P (m + 1) ∧ (keyE n arcs (kk m)).w = l.m := by
    intro m
    obtain ⟨h1, h2, h3, h4⟩ := hkey m
    obtain ⟨_, _, l, hl, h5 | h5⟩ := key_befF h1 h2
    · exact ⟨l, hl, by rw [← h5.2.2.1]; exact h3, by rw [← h5.2.1]; exact h4, h5.2.2.2⟩
    · cases h5.2.1
  obtain ⟨M, hM1, hM2, hM3⟩ := least (fun M => P (n + 1 + M) = P (n + 1)) ⟨j - i, by omega, by
    have := hshift (n + 1 - i)
    rw [show i + (n + 1 - i) = n + 1 from by omega, show j + (n + 1 - i) = n + 1 + (j - i) from by omega] at this
    exact this.symm⟩
  have hsh2 : ∀ x y t, P (n + 1 + x) = P (n + 1 + y) → P (n + 1 + x + t) = P (n + 1 + y + t) := by
    intro x y t hxy
    induction t with
    | zero => exact hxy
    | succ t ih => rw [show n + 1 + x + (t + 1) = n + 1 + x + t + 1 from rfl, show n + 1 + y + (t + 1) = n + 1 + y + t + 1 from rfl, hstep, hstep, ih]
  have hnd : ((List.range M).map fun m => P (n + 1 + m)).Nodup := by
    unfold List.Nodup
    rw [List.pairwise_map, List.pairwise_iff_getElem]
    intro x y hx hy hxy hexy
    simp only [List.getElem_range] at hexy
    have hyM : y < M := by simpa using hy
    have := hsh2 x y (M - y) hexy
    rw [show n + 1 + y + (M - y) = n + 1 + M from by omega, hM2, show n + 1 + x + (M - y) = n + 1 + (x + (M - y)) from by omega] at this
    exact hM3 (x + (M - y)) (by omega) (by omega) this
  refine ⟨v, P, kk, M, hch, by omega, ⟨by rw [hP]; rfl, fun m => by have := (hall m).1; omega, fun m => ?_, fun m => ?_, fun m => ?_, hM1, ?_, hM2, hM3, hnd, ?_⟩⟩
  · have hl : P m < T.last.length := by rw [hB.ll]; exact (hall m).1
    rw [← hkk2 m, List.getD_eq_getElem?_getD, List.getElem?_eq_getElem hl]; rfl
  · obtain ⟨h1, h2, h3, h4⟩ := hkey m
    rw [(key_befF h1 h2).2.1, h4]
  · obtain ⟨l, h1, h2, h3, _⟩ := hlnk m
    exact ⟨l, h1, h2, h3⟩
  · have := nodup_len (N := n + 1) hnd (fun x hx => by
      obtain ⟨m, _, rfl⟩ := List.mem_map.1 hx
      exact (hall _).1)
    simpa using this
  · obtain ⟨Q, hQ⟩ : ∃ Q : Nat → Int, ∀ k, Q k = -wsum (fun m => (arcs.getD (kk (n + 1 + m) / 2) ⟨0, 0, 0, 0⟩).m) (k - (n + 1)) := ⟨fun k => -wsum (fun m => (arcs.getD (kk (n + 1 + m) / 2) ⟨0, 0, 0, 0⟩).m) (k - (n + 1)), fun k => rfl⟩
    have hf := hB.fall hG (v := v) (i := n + 1) (m := M) (Q := Q) (fun k _ _ => by rw [← hP]; exact hall k) (fun k h1 h2 => by
      rw [hQ, hQ, show k + 1 - (n + 1) = (k - (n + 1)) + 1 from by omega]
      show _ ≤ -(wsum (fun m => (arcs.getD (kk (n + 1 + m) / 2) ⟨0, 0, 0, 0⟩).m) (k - (n + 1)) + (arcs.getD (kk (n + 1 + (k - (n + 1))) / 2) ⟨0, 0, 0, 0⟩).m) + (keyE n arcs (T.last.getD (backN (keyE n arcs) T v k) (-1))).w
      rw [show n + 1 + (k - (n + 1)) = k from by omega, ← hP, hkk2 k]
      obtain ⟨l, g1, g2, g3, g4⟩ := hlnk k
      rw [g4, List.getD_eq_getElem?_getD, g1]
      simp only [Option.getD_some]
      omega) hM1
    rw [← hP, hM2, hQ, hQ, show n + 1 + M - (n + 1) = M from by omega, Nat.sub_self] at hf
    simp only [wsum] at hf
    rcases hf with hf | hf
    · omega
    · omega

/-- The links of the first steps round a cycle. -/
def cycL (n : Nat) (arcs : List Lnk) (kk : Nat → Nat) (m : Nat) : List Lnk := (List.range m).map fun i => arcs.getD (kk (n + 1 + i) / 2) ⟨0, 0, 0, 0⟩

theorem cycL_succ (n : Nat) (arcs : List Lnk) (kk : Nat → Nat) (m : Nat) : cycL n arcs kk (m + 1) = cycL n arcs kk m ++ [arcs.getD (kk (n + 1 + m) / 2) ⟨0, 0, 0, 0⟩] := by
  unfold cycL; rw [List.range_succ, List.map_append]; rfl

end Proofs
end Go

namespace Go.Proofs
open Go.Sx

theorem cycle_t (n : Nat) (arcs : List Lnk) (T : Tr) (v : Nat) (P kk : Nat → Nat) (M : Nat) (hn : n ≤ 1000) (ha : arcs.length ≤ 10000) (hl1 : T.sum.length = n + 1) (hl2 : T.there.length = n + 1) (hl3 : T.last.length = n + 1) (h : Cyc n arcs T v P kk M) :
    Triple Try.prog 136 [.c (.p 0 0 0 0), .agg [.s 2 0 (n + 1) 1, .s 3 0 (n + 1) 1, .s 4 0 (n + 1) 1], iv .i64 v]
      [(0, false, .cells [.v (.int .i64 n), .s 1 0 arcs.length 4]), (1, false, .arr (aLink arcs)), (2, false, .arr (aInt T.sum)), (3, false, .arr (aBool T.there)), (4, false, .arr (aInt T.last))] 5
      (.c (.s 5 0 (cycL n arcs kk M).reverse.length 4)) [(5, true, .arr (aLink (cycL n arcs kk M).reverse))] := by
  have hM := h.len
  have hM1 := h.pos
  have bef : ∀ m, Triple Try.prog 105 [.c (.p 0 0 0 0), .agg [.s 2 0 (n + 1) 1, .s 3 0 (n + 1) 1, .s 4 0 (n + 1) 1], iv .i64 (P m)]
      [(0, false, .cells [.v (.int .i64 n), .s 1 0 arcs.length 4]), (1, false, .arr (aLink arcs)), (2, false, .arr (aInt T.sum)), (3, false, .arr (aBool T.there)), (4, false, .arr (aInt T.last))] 5 (iv .i64 (P (m + 1))) [] := fun m =>
    before_t n arcs T.last (P m) (kk m) (P (m + 1)) T.sum T.there (n + 1) hn hl3 (h.lst m) (by have := befF_lt (h.bef m); omega) (h.bef m)
  have hP0 := h.start
  subst hP0
  refine triple_of tB_ok Try.func136 rfl Try.call136 rfl ?_
  intro ρ w hH
  conv => whnf
  refine ⟨(n : Int) + 1, wrapId (z := (n : Int) + 1) ⟨by omega, by omega⟩, ?_⟩
  conv => whnf
  refine loop_step tB_ok (G := Nat) 0 [] (fun m => [(14, iv .i64 m), (2, iv .i64 (P m))]) (fun _ => []) (fun m => m ≤ n + 1) (fun m => n + 1 - m) ?_
  conv => whnf
  refine ⟨⟨0, Nat.zero_le _, ?_⟩, ?_⟩
  · conv => whnf
    repeat' (first | exact trivial | exact rfl | refine And.intro ?_ ?_ | ((conv => whnf); first | exact trivial | exact rfl | refine And.intro ?_ ?_ | omega))
  intro m hm ρ1 t1 hρ1
  conv => whnf
  refine ⟨fun hc => ?_, fun hc => ?_⟩
  · have hlt : m < n + 1 := by have := of_decide_eq_true (show decide ((m : Int) < (n : Int) + 1) = true from hc); omega
    conv => whnf
    refine call_step (bef m) rfl rfl ?_
    conv => whnf
    refine ⟨(by repeat' (first | exact trivial | exact rfl | refine And.intro ?_ ?_ | ((conv => whnf); first | exact trivial | exact rfl | refine And.intro ?_ ?_ | omega))), (by repeat' (first | exact trivial | exact rfl | refine And.intro ?_ ?_ | ((conv => whnf); first | exact trivial | exact rfl | refine And.intro ?_ ?_ | omega))), ?_⟩
    conv => whnf
    refine ⟨(m : Int) + 1, wrapId (z := (m : Int) + 1) ⟨by omega, by omega⟩, ?_⟩
    refine ⟨m + 1, hlt, by show n + 1 - (m + 1) < n + 1 - m; omega, ?_⟩
    conv => whnf
    refine ⟨rfl, ?_⟩
    conv => whnf
    repeat' (first | exact trivial | exact rfl | refine And.intro ?_ ?_ | ((conv => whnf); first | exact trivial | exact rfl | refine And.intro ?_ ?_ | omega))
  have hme : m = n + 1 := by have := of_decide_eq_false (show decide ((m : Int) < (n : Int) + 1) = false from hc); omega
  subst hme
  conv => whnf
  refine loop_step tB_ok (G := Nat × List Lnk) 1 [] (fun g => [(8, iv .i64 (P (n + 1 + g.1))), (7, .c (.s 6 0 g.2.length 4))]) (fun g => [(6, true, .arr (aLink g.2))]) (fun g => g.1 < M ∧ g.2 = cycL n arcs kk g.1) (fun g => M - g.1) ?_
  conv => whnf
  refine ⟨⟨(0, []), ⟨hM1, rfl⟩, ?_⟩, ?_⟩
  · conv => whnf
    repeat' (first | exact trivial | exact rfl | refine And.intro ?_ ?_ | ((conv => whnf); first | exact trivial | exact rfl | refine And.intro ?_ ?_ | omega))
  rintro ⟨i, out⟩ ⟨hi, hout⟩ ρ2 t2 hρ2
  have hi : i < M := hi
  have hout : out = cycL n arcs kk i := hout
  have hol : out.length = i := by rw [hout]; simp [cycL]
  dsimp only
  have hle := h.le (n + 1 + i)
  have hla := h.lst (n + 1 + i)
  have hbe := bef (n + 1 + i)
  have hkl := befF_lt (h.bef (n + 1 + i))
  obtain ⟨hpl, hpe⟩ := List.getElem?_eq_some_iff.1 hla
  have hdiv : IntKind.i64.wrap (Int.tdiv T.last[P (n + 1 + i)] 2) = ((kk (n + 1 + i) / 2 : Nat) : Int) := by rw [hpe]; exact wrapId (z := ((kk (n + 1 + i) / 2 : Nat) : Int)) ⟨by omega, by omega⟩
  have hst := cycL_succ n arcs kk i
  rw [← hout, List.getD_eq_getElem?_getD, List.getElem?_eq_getElem hkl, Option.getD_some] at hst
  have hper := h.per
  have hlow := h.low (i + 1) (by omega)
  have hnext : P (n + 1 + i + 1) = P (n + 1 + (i + 1)) := rfl
  have hfin : i + 1 = M → cycL n arcs kk M = cycL n arcs kk (i + 1) := fun he => by rw [he]
  obtain ⟨j, hj⟩ : ∃ j, j = kk (n + 1 + i) / 2 := ⟨_, rfl⟩
  simp only [← hj] at hdiv hkl hst
  clear hla
  conv => whnf
  refine ⟨P (n + 1 + i), rfl, by omega, hpl, ?_⟩
  conv => whnf
  refine ⟨by decide, (j : Int), hdiv, ?_⟩
  conv => whnf
  refine ⟨j, rfl, hkl, hkl, ?_⟩
  conv => whnf
  refine bs_step tB_ok (aLink [arcs[j]]) rfl rfl ?_
  conv => whnf
  refine ⟨⟨rfl, ⟨rfl, rfl, rfl, rfl, trivial⟩⟩, ?_⟩
  conv => whnf
  refine app_step tB_ok (aLink out) [arcs[j]] (fun _ => rfl) rfl rfl rfl rfl ?_
  conv => whnf
  refine ⟨⟨rfl, rfl, Nat.le_refl _, Nat.le_refl _, by show (out.length + 1) * 33 ≤ _; omega⟩, ?_⟩
  conv => whnf
  refine call_step hbe rfl rfl ?_
  conv => whnf
  refine ⟨(by repeat' (first | exact trivial | exact rfl | refine And.intro ?_ ?_ | ((conv => whnf); first | exact trivial | exact rfl | refine And.intro ?_ ?_ | omega))), (by repeat' (first | exact trivial | exact rfl | refine And.intro ?_ ?_ | ((conv => whnf); first | exact trivial | exact rfl | refine And.intro ?_ ?_ | omega))), ?_⟩
  conv => whnf
  refine ⟨fun hc => ?_, fun hc => ?_⟩
  · have he : P (n + 1 + i + 1) = P (n + 1) := by
      have := (show ((P (n + 1 + i + 1) : Int) == ((P (n + 1) : Nat) : Int)) = true from hc)
      simp at this; omega
    have hie : i + 1 = M := by
      rcases Nat.lt_or_ge (i + 1) M with hlt | hge
      · exact absurd he (hlow hlt)
      · omega
    have hfin := hfin hie
    rw [hst] at hfin
    have hrv : Triple Try.prog 106 [.c (.s 0 0 (out.length + 1) 4)] [(0, true, .arr (aLink (List.take out.length out ++ List.take 1 (List.drop 0 [arcs[j]]))))] 1 (.tup []) [(0, true, .arr (aLink (out ++ [arcs[j]]).reverse))] := by
      have h1 : (out ++ [arcs[j]]).length = out.length + 1 := by simp
      have := reverse_t (out ++ [arcs[j]]) (by omega)
      rw [app1]
      rwa [h1] at this
    conv => whnf
    rw [hfin]
    refine call_step hrv rfl rfl ?_
    conv => whnf
    refine ⟨(by repeat' (first | exact trivial | exact rfl | refine And.intro ?_ ?_ | ((conv => whnf); first | exact trivial | exact rfl | refine And.intro ?_ ?_ | omega))), (by repeat' (first | exact trivial | exact rfl | refine And.intro ?_ ?_ | ((conv => whnf); first | exact trivial | exact rfl | refine And.intro ?_ ?_ | omega))), ?_⟩
    conv => whnf
    repeat' (first | exact trivial | exact rfl | refine And.intro ?_ ?_ | ((conv => whnf); first | exact trivial | exact rfl | refine And.intro ?_ ?_ | omega))
    all_goals simp
  · have he : P (n + 1 + i + 1) ≠ P (n + 1) := by
      have := (show ((P (n + 1 + i + 1) : Int) == ((P (n + 1) : Nat) : Int)) = false from hc)
      simp at this; omega
    have hlt : i + 1 < M := by
      rcases Nat.lt_or_ge (i + 1) M with hlt | hge
      · exact hlt
      · exfalso
        have : i + 1 = M := by omega
        rw [hnext, this] at he
        exact he hper
    conv => whnf
    refine ⟨(i + 1, out ++ [arcs[j]]), ⟨hlt, hst.symm⟩, by show M - (i + 1) < M - i; omega, ?_⟩
    conv => whnf
    refine ⟨rfl, ?_⟩
    conv => whnf
    repeat' (first | exact trivial | exact rfl | refine And.intro ?_ ?_ | ((conv => whnf); first | exact trivial | exact rfl | refine And.intro ?_ ?_ | omega))
    all_goals first | exact (congrArg aLink app1 : _) | simp

theorem clash_t (n : Nat) (arcs : List Lnk) (v : Nat) (P kk : Nat → Nat) (M : Nat) (hn : n ≤ 1000) (hl : arcs.length ≤ 10000) (hok : ∀ l ∈ arcs, ArcOK n l) (hch : (shortF n noRev arcs n).2 = ((v : Nat) : Int)) (h : Cyc n arcs (shortF n noRev arcs n).1 v P kk M) :
    Triple Try.prog 96 [.c (.p 0 0 0 0)] (graphH n arcs) 2 (.tup [.inl (.s 2 0 (cycL n arcs kk M).reverse.length 4), .inl (.b true)]) [(2, true, .arr (aLink (cycL n arcs kk M).reverse))] := by
  have hlen := shortF_len n noRev arcs n hok
  obtain ⟨hl1, hl2, hl3⟩ := hlen
  refine triple_of tB_ok Try.func96 rfl Try.call96 rfl ?_
  intro ρ w hH
  conv => whnf
  refine call_step (plain_t n arcs n hn hl hok (Nat.le_refl _)) rfl rfl ?_
  conv => whnf
  refine ⟨(by repeat' (first | exact trivial | exact rfl | refine And.intro ?_ ?_ | ((conv => whnf); first | exact trivial | exact rfl | refine And.intro ?_ ?_ | omega))), (by repeat' (first | exact trivial | exact rfl | refine And.intro ?_ ?_ | ((conv => whnf); first | exact trivial | exact rfl | refine And.intro ?_ ?_ | omega))), ?_⟩
  conv => whnf
  rw [hch]
  generalize (shortF n noRev arcs n).1 = T at *
  refine ⟨fun hc => ?_, fun hc => ?_⟩
  · have := (show ((v : Int) == -1) = true from hc)
    simp at this
  conv => whnf
  refine call_step (cycle_t n arcs T v P kk M hn hl hl1 hl2 hl3 h) rfl rfl ?_
  conv => whnf
  refine ⟨(by repeat' (first | exact trivial | exact rfl | refine And.intro ?_ ?_ | ((conv => whnf); first | exact trivial | exact rfl | refine And.intro ?_ ?_ | omega))), (by repeat' (first | exact trivial | exact rfl | refine And.intro ?_ ?_ | ((conv => whnf); first | exact trivial | exact rfl | refine And.intro ?_ ?_ | omega))), ?_⟩
  conv => whnf
  repeat' (first | exact trivial | exact rfl | refine And.intro ?_ ?_ | ((conv => whnf); first | exact trivial | exact rfl | refine And.intro ?_ ?_ | omega))

/-- Whether a cycle is found in a system without the links of a reading. -/
def clashB (bs : List (Int × Int)) (ls : List Lnk) (k : Int) : Bool := decide ((shortF bs.length noRev (graphF bs ls k) bs.length).2 ≠ -1)

theorem conflictYes_t (bs : List (Int × Int)) (ls : List Lnk) (v : Nat) (P kk : Nat → Nat) (M : Nat) (hs : SysOK bs ls) (hch : (shortF bs.length noRev (graphF bs ls 0) bs.length).2 = ((v : Nat) : Int)) (h : Cyc bs.length (graphF bs ls 0) (shortF bs.length noRev (graphF bs ls 0) bs.length).1 v P kk M) :
    Triple Try.prog 36 [sysA bs.length ls.length] (sysH bs ls) 2 (.tup [.inl (.s 2 0 (cycL bs.length (graphF bs ls 0) kk M).reverse.length 4), .inl (.b true), .inl (.v (.int .i64 0))]) [(2, true, .arr (aLink (cycL bs.length (graphF bs ls 0) kk M).reverse))] := by
  have hnb := hs.nb
  have hnl := hs.nl
  have hgl := graphF_len hs 0
  refine triple_of tB_ok Try.func36 rfl Try.call36 rfl ?_
  intro ρ w hH
  conv => whnf
  refine call_step (check_t bs ls (by omega) (by omega)) rfl rfl ?_
  conv => whnf
  refine ⟨(by repeat' (first | exact trivial | exact rfl | refine And.intro ?_ ?_ | ((conv => whnf); first | exact trivial | exact rfl | refine And.intro ?_ ?_ | omega))), (by repeat' (first | exact trivial | exact rfl | refine And.intro ?_ ?_ | ((conv => whnf); first | exact trivial | exact rfl | refine And.intro ?_ ?_ | omega))), ?_⟩
  conv => whnf
  rw [checkF_ok.2 hs]
  refine ⟨fun hc => absurd hc (by simp), fun hc => ?_⟩
  conv => whnf
  refine call_step (graphOf_t bs ls 0 (by omega) hs.boxB (by omega)) rfl rfl ?_
  conv => whnf
  refine ⟨(by repeat' (first | exact trivial | exact rfl | refine And.intro ?_ ?_ | ((conv => whnf); first | exact trivial | exact rfl | refine And.intro ?_ ?_ | omega))), (by repeat' (first | exact trivial | exact rfl | refine And.intro ?_ ?_ | ((conv => whnf); first | exact trivial | exact rfl | refine And.intro ?_ ?_ | omega))), ?_⟩
  conv => whnf
  refine call_step (clash_t bs.length (graphF bs ls 0) v P kk M (by omega) (by omega) (graphF_ok hs 0) hch h) rfl rfl ?_
  conv => whnf
  refine ⟨(by repeat' (first | exact trivial | exact rfl | refine And.intro ?_ ?_ | ((conv => whnf); first | exact trivial | exact rfl | refine And.intro ?_ ?_ | omega))), (by repeat' (first | exact trivial | exact rfl | refine And.intro ?_ ?_ | ((conv => whnf); first | exact trivial | exact rfl | refine And.intro ?_ ?_ | omega))), ?_⟩
  conv => whnf
  repeat' (first | exact trivial | exact rfl | refine And.intro ?_ ?_ | ((conv => whnf); first | exact trivial | exact rfl | refine And.intro ?_ ?_ | omega))

theorem conflictErr_t (bs : List (Int × Int)) (ls : List Lnk) (hb : bs.length ≤ 1000000) (hl : ls.length ≤ 1000000) (hc : checkF bs ls ≠ 0) :
    Triple Try.prog 36 [sysA bs.length ls.length] (sysH bs ls) 2 (.tup [.inl (.v (.slice none 0 0)), .inl (.b false), .inl (.v (.int .i64 (checkF bs ls)))]) [] := by
  refine triple_of tB_ok Try.func36 rfl Try.call36 rfl ?_
  intro ρ w hH
  conv => whnf
  refine call_step (check_t bs ls hb hl) rfl rfl ?_
  conv => whnf
  refine ⟨(by repeat' (first | exact trivial | exact rfl | refine And.intro ?_ ?_ | ((conv => whnf); first | exact trivial | exact rfl | refine And.intro ?_ ?_ | omega))), (by repeat' (first | exact trivial | exact rfl | refine And.intro ?_ ?_ | ((conv => whnf); first | exact trivial | exact rfl | refine And.intro ?_ ?_ | omega))), ?_⟩
  conv => whnf
  generalize checkF bs ls = c at *
  refine ⟨fun hcc => ?_, fun hcc => ?_⟩
  · conv => whnf
    repeat' (first | exact trivial | exact rfl | refine And.intro ?_ ?_ | ((conv => whnf); first | exact trivial | exact rfl | refine And.intro ?_ ?_ | omega))
  · exact absurd (by simpa using hcc) hc

end Go.Proofs

namespace Go.Proofs
open Go.Sx

/-! ### The reference implementation's -/

/-! ### The law -/

theorem few_calm {bs : List (Int × Int)} {ls : List Lnk} (hs : SysOK bs ls) (hf : bs.length ≤ 14 ∧ ls.length ≤ 40) (k : Int) : (fromF bs.length (graphF bs ls k) (-1)).isSome = !clashB bs ls k := by
  have hl : (graphF bs ls k).length ≤ 200 := by
    have := allF_len bs ls
    refine Nat.le_trans (List.length_filter_le _ _) ?_
    omega
  have hp : plc bs.length (-1) = bs.length := rfl
  cases h : (fromF bs.length (graphF bs ls k) (-1)).isSome with
  | true =>
    obtain ⟨o, ho⟩ := Option.isSome_iff_exists.1 h
    have := from_calm hf.1 hl (graphF_ok hs k) ⟨by omega, by omega⟩ ho
    rw [hp] at this
    have e : clashB bs ls k = false := decide_eq_false (fun hn => hn this)
    rw [e]; rfl
  | false =>
    have e : clashB bs ls k = true := by
      refine decide_eq_true fun hc => ?_
      have := calm_from hf.1 hl (graphF_ok hs k) (hub_graph bs ls k) (a := -1) ⟨by omega, by omega⟩ (by rw [hp]; exact hc)
      rw [h] at this; cases this
    rw [e]; rfl

end Go.Proofs

/-
  Plain lemmas, part 13: a flow over the arcs of a system: what it brings to each place, and how a path changes it. Conditions: none; definitions and plain lemmas.
-/
namespace Go
namespace Proofs

def sumR : Nat → (Nat → Int) → Int
  | 0, _ => 0
  | k + 1, f => sumR k f + f k

def ind (p : Prop) [Decidable p] : Int := if p then 1 else 0

theorem ind_true {p : Prop} [Decidable p] (h : p) : ind p = 1 := if_pos h
theorem ind_false {p : Prop} [Decidable p] (h : ¬ p) : ind p = 0 := if_neg h

theorem sumR_congr {f g : Nat → Int} : ∀ {k : Nat}, (∀ v, v < k → f v = g v) → sumR k f = sumR k g
  | 0, _ => rfl
  | k + 1, h => by
    simp only [sumR]
    rw [sumR_congr fun v hv => h v (by omega), h k (by omega)]

theorem sumR_add (f g : Nat → Int) : ∀ k, sumR k (fun v => f v + g v) = sumR k f + sumR k g
  | 0 => rfl
  | k + 1 => by simp only [sumR, sumR_add f g k]; omega

theorem sumR_mul (c : Int) (f : Nat → Int) : ∀ k, sumR k (fun v => c * f v) = c * sumR k f
  | 0 => by simp [sumR]
  | k + 1 => by simp only [sumR, sumR_mul c f k, Int.mul_add]

theorem sumR_zero : ∀ k, sumR k (fun _ => 0) = 0
  | 0 => rfl
  | k + 1 => by simp only [sumR, sumR_zero k]; rfl

theorem sumR_le {f g : Nat → Int} : ∀ {k : Nat}, (∀ v, v < k → f v ≤ g v) → sumR k f ≤ sumR k g
  | 0, _ => Int.le_refl _
  | k + 1, h => by
    have h1 := sumR_le (k := k) fun v hv => h v (by omega)
    have h2 := h k (by omega)
    simp only [sumR]; omega

theorem sumR_ind (q : Nat → Int) {t : Nat} : ∀ {k : Nat}, t < k → sumR k (fun v => ind (t = v) * q v) = q t
  | 0, h => by omega
  | k + 1, h => by
    simp only [sumR]
    by_cases hk : t = k
    · subst hk
      rw [sumR_congr (g := fun _ => 0) fun v hv => by rw [ind_false (by omega), Int.zero_mul], sumR_zero, ind_true rfl]; omega
    · rw [sumR_ind q (by omega), ind_false hk]; omega

/-- A sum where one term changes. -/
theorem sumR_set {f : Nat → Int} {i : Nat} {x : Int} : ∀ {k : Nat}, i < k → sumR k (fun v => if v = i then x else f v) = sumR k f - f i + x
  | 0, h => by omega
  | k + 1, h => by
    simp only [sumR]
    by_cases hk : i = k
    · subst hk
      rw [sumR_congr (g := f) fun v hv => by rw [if_neg (by omega)], if_pos rfl]; omega
    · rw [sumR_set (by omega), if_neg (fun h => hk h.symm)]; omega

theorem sumR_nonneg {f : Nat → Int} : ∀ {k : Nat}, (∀ v, v < k → 0 ≤ f v) → 0 ≤ sumR k f
  | 0, _ => Int.le_refl _
  | k + 1, h => by
    have h1 := sumR_nonneg (k := k) fun v hv => h v (by omega)
    have h2 := h k (by omega)
    simp only [sumR]; omega

theorem sumR_pos {f : Nat → Int} {i : Nat} : ∀ {k : Nat}, (∀ v, v < k → 0 ≤ f v) → i < k → f i ≤ sumR k f
  | 0, _, h => by omega
  | k + 1, h, hi => by
    have h1 := sumR_nonneg (k := k) fun v hv => h v (by omega)
    have h2 := h k (by omega)
    simp only [sumR]
    by_cases hk : i = k
    · subst hk; omega
    · have := sumR_pos (k := k) (fun v hv => h v (by omega)) (show i < k by omega); omega

theorem sumR_zero_all {f : Nat → Int} : ∀ {k : Nat}, (∀ v, v < k → 0 ≤ f v) → sumR k f = 0 → ∀ v, v < k → f v = 0 := fun {k} h hs v hv => by
  have := sumR_pos h hv
  have := h v hv
  omega

/-- What a flow brings to a place. -/
def netV (n : Nat) : List Lnk → List Int → Nat → Int
  | l :: r, x :: s, v => x * (ind (plc n l.t = v) - ind (plc n l.f = v)) + netV n r s v
  | [], _, _ => 0
  | _ :: _, [], _ => 0

def costV : List Lnk → List Int → Int
  | l :: r, x :: s => x * l.m + costV r s
  | [], _ => 0
  | _ :: _, [] => 0

theorem netV_zero (n v : Nat) : ∀ (arcs : List Lnk) (k : Nat), netV n arcs (List.replicate k 0) v = 0
  | [], k => by cases k <;> rfl
  | l :: r, 0 => rfl
  | l :: r, k + 1 => by simp only [List.replicate_succ, netV, netV_zero n v r k]; omega

theorem netV_set (n v : Nat) (d : Int) : ∀ {arcs : List Lnk} {flow : List Int} {i : Nat} {l : Lnk}, arcs[i]? = some l → i < flow.length →
    netV n arcs (flow.set i (flow.getD i 0 + d)) v = netV n arcs flow v + d * (ind (plc n l.t = v) - ind (plc n l.f = v))
  | [], _, _, _, h, _ => by simp at h
  | a :: r, [], _, _, _, h => by simp at h
  | a :: r, x :: s, 0, l, h, _ => by
    simp at h
    subst h
    simp only [List.set_cons_zero, netV, List.getD_cons_zero, Int.add_mul]
    omega
  | a :: r, x :: s, i + 1, l, h, hi => by
    have := netV_set n v d (arcs := r) (flow := s) (i := i) (l := l) (by simpa using h) (by simpa using hi)
    simp only [List.set_cons_succ, netV, List.getD_cons_succ, this]
    omega

/-- Prices: what a flow carries, over the places and over the arcs. -/
theorem netV_dot (n : Nat) (q : Nat → Int) : ∀ {arcs : List Lnk} {flow : List Int}, (∀ l ∈ arcs, ArcOK n l) → arcs.length = flow.length → (∀ i l, arcs[i]? = some l → 0 < flow.getD i 0 → q (plc n l.t) - q (plc n l.f) = l.m) → (∀ i, 0 ≤ flow.getD i 0) →
    sumR (n + 1) (fun v => netV n arcs flow v * q v) = costV arcs flow
  | [], flow, _, _, _, _ => by
    rw [sumR_congr (g := fun _ => 0) fun v _ => by simp [netV], sumR_zero]
    cases flow <;> rfl
  | l :: r, [], _, h, _, _ => by simp at h
  | l :: r, x :: s, hok, hl, hc, hp => by
    have ih := netV_dot n q (arcs := r) (flow := s) (fun l hl => hok l (List.mem_cons_of_mem _ hl)) (by simpa using hl) (fun i l h1 h2 => hc (i + 1) l (by simpa using h1) (by simpa using h2)) (fun i => by have := hp (i + 1); simpa using this)
    obtain ⟨o1, o2, o3⟩ := hok l (List.mem_cons_self ..)
    have t1 := plc_le o1.2
    have t2 := plc_le o2.2
    have e1 : sumR (n + 1) (fun v => netV n (l :: r) (x :: s) v * q v) = sumR (n + 1) (fun v => x * (ind (plc n l.t = v) * q v) + ((-x) * (ind (plc n l.f = v) * q v) + netV n r s v * q v)) := by
      refine sumR_congr fun v _ => ?_
      simp only [netV, Int.add_mul, Int.mul_sub, Int.sub_mul, Int.neg_mul, Int.mul_assoc]
      omega
    rw [e1, sumR_add, sumR_add, sumR_mul, sumR_mul, ih, sumR_ind q (by omega), sumR_ind q (by omega)]
    simp only [costV]
    have h0 := hp 0
    rw [List.getD_cons_zero] at h0
    rcases Int.lt_or_eq_of_le h0 with hx | hx
    · have := hc 0 l rfl (by simpa using hx)
      rw [← this, Int.mul_sub, Int.neg_mul]; omega
    · rw [← hx]; simp

/-- A flow over arcs never costs less than the prices of what it brings, for prices that no arc contradicts. -/
theorem netV_le (n : Nat) (q : Nat → Int) : ∀ {arcs : List Lnk} {flow : List Int}, (∀ l ∈ arcs, ArcOK n l) → arcs.length = flow.length → PotL n q arcs → (∀ i, 0 ≤ flow.getD i 0) →
    sumR (n + 1) (fun v => netV n arcs flow v * q v) ≤ costV arcs flow
  | [], flow, _, _, _, _ => by
    rw [sumR_congr (g := fun _ => 0) fun v _ => by simp [netV], sumR_zero]
    cases flow <;> exact Int.le_refl _
  | l :: r, [], _, h, _, _ => by simp at h
  | l :: r, x :: s, hok, hl, hc, hp => by
    have ih := netV_le n q (arcs := r) (flow := s) (fun l hl => hok l (List.mem_cons_of_mem _ hl)) (by simpa using hl) (fun l hl => hc l (List.mem_cons_of_mem _ hl)) (fun i => by have := hp (i + 1); simpa using this)
    obtain ⟨o1, o2, o3⟩ := hok l (List.mem_cons_self ..)
    have t1 := plc_le o1.2
    have t2 := plc_le o2.2
    have e1 : sumR (n + 1) (fun v => netV n (l :: r) (x :: s) v * q v) = sumR (n + 1) (fun v => x * (ind (plc n l.t = v) * q v) + ((-x) * (ind (plc n l.f = v) * q v) + netV n r s v * q v)) := by
      refine sumR_congr fun v _ => ?_
      simp only [netV, Int.add_mul, Int.mul_sub, Int.sub_mul, Int.neg_mul, Int.mul_assoc]
      omega
    rw [e1, sumR_add, sumR_add, sumR_mul, sumR_mul, sumR_ind q (by omega), sumR_ind q (by omega)]
    simp only [costV]
    have h0 := hp 0
    rw [List.getD_cons_zero] at h0
    have hq : q (plc n l.t) ≤ q (plc n l.f) + l.m := hc l (List.mem_cons_self ..)
    have := Int.mul_le_mul_of_nonneg_left (show q (plc n l.t) - q (plc n l.f) ≤ l.m by omega) h0
    rw [Int.mul_sub] at this
    rw [Int.neg_mul]
    omega

/-! ### A path -/

theorem amtF_le (flow : List Int) : ∀ (ks : List Nat) (a : Int), amtF flow ks a ≤ a ∧ ∀ k ∈ ks, k % 2 = 1 → amtF flow ks a ≤ flow.getD (k / 2) 0
  | [], a => ⟨Int.le_refl _, fun k hk => by cases hk⟩
  | k :: r, a => by
    simp only [amtF]
    by_cases hk : k % 2 = 1
    · rw [if_pos hk]
      obtain ⟨h1, h2⟩ := amtF_le flow r (min a (flow.getD (k / 2) 0))
      refine ⟨by omega, fun k' hk' ho => ?_⟩
      rcases List.mem_cons.1 hk' with rfl | hk'
      · omega
      · exact h2 k' hk' ho
    · rw [if_neg hk]
      obtain ⟨h1, h2⟩ := amtF_le flow r a
      refine ⟨h1, fun k' hk' ho => ?_⟩
      rcases List.mem_cons.1 hk' with rfl | hk'
      · exact absurd ho hk
      · exact h2 k' hk' ho

theorem amtF_pos (flow : List Int) : ∀ (ks : List Nat) (a : Int), 1 ≤ a → (∀ k ∈ ks, k % 2 = 1 → 1 ≤ flow.getD (k / 2) 0) → 1 ≤ amtF flow ks a
  | [], a, h, _ => h
  | k :: r, a, h, hf => by
    simp only [amtF]
    refine amtF_pos flow r _ ?_ fun k' hk' => hf k' (List.mem_cons_of_mem _ hk')
    split
    · rename_i hk
      have := hf k (List.mem_cons_self ..) hk
      omega
    · exact h

def kSum (n : Nat) (arcs : List Lnk) (v : Nat) : List Nat → Int
  | [] => 0
  | k :: r => (ind ((keyE n arcs k).b = v) - ind ((keyE n arcs k).a = v)) + kSum n arcs v r

theorem kSum_path {n : Nat} {arcs : List Lnk} {E : List Edg} {T : Tr} {ts : Nat → Nat} {src v : Nat} : ∀ {ks : List Nat} {p : Nat}, StepP n arcs E T ts src ks p → kSum n arcs v ks = ind (p = v) - ind (src = v)
  | [], p, h => by
    have h : p = src := h
    rw [h]; simp [kSum]
  | k :: r, p, h => by
    obtain ⟨_, _, _, hb, _, _, _, hr⟩ := h
    simp only [kSum]
    rw [kSum_path hr, hb]
    omega

theorem addF_some {n : Nat} {arcs : List Lnk} {rev : Nat → Bool} {a S : Int} (ha : 0 ≤ a) (hS : S + a ≤ 4611686018427387904) : ∀ {ks : List Nat} {flow : List Int}, flow.length = arcs.length → (ks.map fun k => k / 2).Nodup → (∀ k ∈ ks, keyE n arcs k ∈ edgs n rev 0 arcs ∧ (keyE n arcs k).k = (k : Int)) →
    (∀ i, 0 ≤ flow.getD i 0 ∧ flow.getD i 0 ≤ S) → (∀ k ∈ ks, k % 2 = 1 → a ≤ flow.getD (k / 2) 0) →
    ∃ flow', addF a ks flow = some flow' ∧ flow'.length = flow.length ∧ (∀ i, (∀ k ∈ ks, k / 2 ≠ i) → flow'.getD i 0 = flow.getD i 0) ∧ (∀ k ∈ ks, flow'.getD (k / 2) 0 = flow.getD (k / 2) 0 + a * (1 - 2 * ((k % 2 : Nat) : Int))) ∧
      ∀ v, netV n arcs flow' v = netV n arcs flow v + a * kSum n arcs v ks
  | [], flow, _, _, _, _, _ => ⟨flow, rfl, rfl, fun i _ => rfl, fun k hk => (by cases hk), fun v => by simp [kSum]⟩
  | k :: r, flow, hl, hn, hk, hb, ho => by
    rw [List.map_cons, List.nodup_cons] at hn
    obtain ⟨hn1, hn2⟩ := hn
    obtain ⟨he, hkk⟩ := hk k (List.mem_cons_self ..)
    obtain ⟨_, _, l, hl0, hcase⟩ := key_befF he hkk
    have hkl : k / 2 < flow.length := by rw [hl]; exact (List.getElem?_eq_some_iff.1 hl0).1
    have hbk := hb (k / 2)
    obtain ⟨d, hd⟩ : ∃ d, d = a * (1 - 2 * ((k % 2 : Nat) : Int)) := ⟨_, rfl⟩
    have hdv : (k % 2 = 0 ∧ d = a) ∨ (k % 2 = 1 ∧ d = -a) := by
      rcases hcase with h | h
      · exact .inl ⟨h.1, by rw [hd, h.1]; simp⟩
      · exact .inr ⟨h.1, by rw [hd, h.1]; simp⟩
    have hx : 0 ≤ flow.getD (k / 2) 0 + d ∧ flow.getD (k / 2) 0 + d ≤ S + a := by
      rcases hdv with ⟨h1, h2⟩ | ⟨h1, h2⟩
      · omega
      · have := ho k (List.mem_cons_self ..) h1
        omega
    have hne : ∀ k' ∈ r, k' / 2 ≠ k / 2 := fun k' hk' he => hn1 (by rw [← he]; exact List.mem_map_of_mem hk')
    have hget : ∀ i, (flow.set (k / 2) (flow.getD (k / 2) 0 + d)).getD i 0 = if i = k / 2 then flow.getD (k / 2) 0 + d else flow.getD i 0 := fun i => getD_set hkl
    -- the values may rise above S at one place that the rest does not touch: take the rest on a list cut there
    have key : ∀ {ks : List Nat} {f : List Int}, f.length = arcs.length → (ks.map fun k => k / 2).Nodup → (∀ k ∈ ks, keyE n arcs k ∈ edgs n rev 0 arcs ∧ (keyE n arcs k).k = (k : Int)) → (∀ k ∈ ks, 0 ≤ f.getD (k / 2) 0 ∧ f.getD (k / 2) 0 ≤ S) →
        (∀ k ∈ ks, k % 2 = 1 → a ≤ f.getD (k / 2) 0) →
        ∃ f', addF a ks f = some f' ∧ f'.length = f.length ∧ (∀ i, (∀ k ∈ ks, k / 2 ≠ i) → f'.getD i 0 = f.getD i 0) ∧ (∀ k ∈ ks, f'.getD (k / 2) 0 = f.getD (k / 2) 0 + a * (1 - 2 * ((k % 2 : Nat) : Int))) ∧
          ∀ v, netV n arcs f' v = netV n arcs f v + a * kSum n arcs v ks := by
      intro ks
      induction ks with
      | nil => intro f _ _ _ _ _; exact ⟨f, rfl, rfl, fun i _ => rfl, fun k hk => (by cases hk), fun v => by simp [kSum]⟩
      | cons k r ih =>
        intro f hl hn hk hb ho
        rw [List.map_cons, List.nodup_cons] at hn
        obtain ⟨hn1, hn2⟩ := hn
        obtain ⟨he, hkk⟩ := hk k (List.mem_cons_self ..)
        obtain ⟨_, _, l, hl0, hcase⟩ := key_befF he hkk
        have hkl : k / 2 < f.length := by rw [hl]; exact (List.getElem?_eq_some_iff.1 hl0).1
        have hbk := hb k (List.mem_cons_self ..)
        obtain ⟨d, hd⟩ : ∃ d, d = a * (1 - 2 * ((k % 2 : Nat) : Int)) := ⟨_, rfl⟩
        have hdv : (k % 2 = 0 ∧ d = a) ∨ (k % 2 = 1 ∧ d = -a) := by
          rcases hcase with h | h
          · exact .inl ⟨h.1, by rw [hd, h.1]; simp⟩
          · exact .inr ⟨h.1, by rw [hd, h.1]; simp⟩
        have hx : 0 ≤ f.getD (k / 2) 0 + d ∧ f.getD (k / 2) 0 + d ≤ S + a := by
          rcases hdv with ⟨h1, h2⟩ | ⟨h1, h2⟩
          · omega
          · have := ho k (List.mem_cons_self ..) h1
            omega
        have hne : ∀ k' ∈ r, k' / 2 ≠ k / 2 := fun k' hk' he => hn1 (by rw [← he]; exact List.mem_map_of_mem hk')
        have hget : ∀ i, (f.set (k / 2) (f.getD (k / 2) 0 + d)).getD i 0 = if i = k / 2 then f.getD (k / 2) 0 + d else f.getD i 0 := fun i => getD_set hkl
        obtain ⟨f', g1, g2, g3, g4, g5⟩ := ih (f := f.set (k / 2) (f.getD (k / 2) 0 + d)) (by simpa using hl) hn2 (fun k' hk' => hk k' (List.mem_cons_of_mem _ hk')) (fun k' hk' => by rw [hget, if_neg (hne k' hk')]; exact hb k' (List.mem_cons_of_mem _ hk'))
          (fun k' hk' h1 => by rw [hget, if_neg (hne k' hk')]; exact ho k' (List.mem_cons_of_mem _ hk') h1)
        refine ⟨f', ?_, by rw [g2]; simp, fun i hi => ?_, fun k' hk' => ?_, fun v => ?_⟩
        · unfold addF
          simp only [← hd]
          rw [if_pos (by rw [Bool.and_eq_true, inI_iff, inI_iff]; rcases hdv with h | h <;> omega)]
          exact g1
        · rw [g3 i fun k' hk' => hi k' (List.mem_cons_of_mem _ hk'), hget, if_neg (fun he => hi k (List.mem_cons_self ..) he.symm)]
        · rcases List.mem_cons.1 hk' with rfl | hk'
          · rw [g3 _ fun k'' hk'' => hne k'' hk'', hget, if_pos rfl, hd]
          · rw [g4 k' hk', hget, if_neg (hne k' hk')]
        · rw [g5, netV_set n v d hl0 hkl]
          simp only [kSum]
          rw [Int.mul_add, ← Int.add_assoc]
          congr 2
          rcases hcase with ⟨h1, h2, h3, _⟩ | ⟨h1, _, h2, h3, _⟩
          · rw [h2, h3]
            rcases hdv with h | h
            · rw [h.2]
            · omega
          · rw [h2, h3]
            rcases hdv with h | h
            · omega
            · rw [h.2, Int.neg_mul, Int.mul_sub, Int.mul_sub]; omega
    exact key hl (by rw [List.map_cons, List.nodup_cons]; exact ⟨hn1, hn2⟩) hk (fun k _ => hb (k / 2)) ho

end Proofs
end Go

