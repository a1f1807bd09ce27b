/-
  A part of the proof that a law of dryweightlaw03 answers true: lemmas of a symbolic walk, plain functions, or contracts of the functions walked (Pm9, Pm10, Sx30, X4, W2). Conditions: none.
-/
import Derived.Test.YtjjfadfmdodmnaaPart17
import Derived.Lib.SlicesCompact
import Derived.Test.YtjjfadfmdodmnaaPart06
import Derived.Test.YtjjfadfmdodmnaaPart18
import Derived.Test.YtjjfadfmdodmnaaPart09
set_option maxRecDepth 100000
set_option linter.unusedVariables false
set_option linter.unusedSimpArgs false
/-
  Plain lemmas, part 9: the IDs of links, in increasing order, each once, as the reference implementation finds them. Conditions: none; definitions and plain lemmas.
-/
namespace Go
namespace Proofs

def withoutF (ls : List Lnk) (id : Int) : List Lnk := ls.filter fun l => l.i != id

def posI (x : Int) : List Int → Nat
  | [] => 0
  | y :: r => if y < x then posI x r + 1 else 0

def insI (o : List Int) (x : Int) : List Int :=
  if x = 0 ∨ (∃ h : posI x o < o.length, o[posI x o] = x) then o else o.take (posI x o) ++ x :: o.drop (posI x o)

def refIds (ls : List Lnk) : List Int := ls.foldl (fun o l => insI o l.i) []

theorem posI_le (x : Int) : ∀ o : List Int, posI x o ≤ o.length
  | [] => Nat.le_refl _
  | y :: r => by
    have := posI_le x r
    simp only [posI, List.length_cons]
    split <;> omega

theorem posI_of {x : Int} : ∀ {o : List Int} {k : Nat}, k ≤ o.length → (∀ y ∈ o.take k, y < x) → (k = o.length ∨ ∃ h : k < o.length, ¬ o[k] < x) → posI x o = k
  | [], k, hk, _, _ => by simp at hk; simp [posI, hk]
  | y :: r, 0, _, _, h => by
    rcases h with h | ⟨_, h⟩
    · simp at h
    · simp only [posI]; rw [if_neg (by simpa using h)]
  | y :: r, k + 1, hk, ht, h => by
    have hy := ht y (by simp)
    simp only [posI]
    rw [if_pos hy]
    congr 1
    refine posI_of (by simpa using hk) (fun z hz => ht z (by simp [hz])) ?_
    rcases h with h | ⟨h1, h2⟩
    · exact .inl (by simpa using h)
    · exact .inr ⟨by simpa using h1, by simpa using h2⟩

theorem refIds_len : ∀ (ls : List Lnk) (o : List Int), (ls.foldl (fun o l => insI o l.i) o).length ≤ o.length + ls.length
  | [], o => by simp
  | l :: r, o => by
    have h1 := refIds_len r (insI o l.i)
    have h2 : (insI o l.i).length ≤ o.length + 1 := by
      unfold insI
      split
      · omega
      · have := posI_le l.i o
        rw [List.length_append, List.length_cons, List.length_take, List.length_drop]; omega
    simp only [List.foldl_cons, List.length_cons]
    omega

/-! Increasing lists with the same members are the same. -/

theorem inc_ext : ∀ {a b : List Int}, a.Pairwise (· < ·) → b.Pairwise (· < ·) → (∀ x, x ∈ a ↔ x ∈ b) → a = b
  | [], [], _, _, _ => rfl
  | [], y :: r, _, _, h => by have := (h y).2 (by simp); simp at this
  | x :: r, [], _, _, h => by have := (h x).1 (by simp); simp at this
  | x :: r, y :: s, ha, hb, h => by
    rw [List.pairwise_cons] at ha hb
    have hxy : x = y := by
      have h1 := (h x).1 (by simp)
      have h2 := (h y).2 (by simp)
      rcases List.mem_cons.1 h1 with h1 | h1
      · exact h1
      · rcases List.mem_cons.1 h2 with h2 | h2
        · exact h2.symm
        · have := ha.1 _ h2
          have := hb.1 _ h1
          omega
    subst hxy
    congr 1
    refine inc_ext ha.2 hb.2 fun z => ⟨fun hz => ?_, fun hz => ?_⟩
    · have := ha.1 z hz
      rcases List.mem_cons.1 ((h z).1 (by simp [hz])) with h1 | h1
      · omega
      · exact h1
    · have := hb.1 z hz
      rcases List.mem_cons.1 ((h z).2 (by simp [hz])) with h1 | h1
      · omega
      · exact h1

theorem insI_inc {x : Int} : ∀ {o : List Int}, o.Pairwise (· < ·) → (x ≠ 0) → (insI o x).Pairwise (· < ·) ∧ ∀ y, y ∈ insI o x ↔ y ∈ o ∨ y = x := by
  have key : ∀ {o : List Int}, o.Pairwise (· < ·) → (o.take (posI x o)).Pairwise (· < ·) ∧ (∀ y ∈ o.take (posI x o), y < x) ∧ (∀ y ∈ o.drop (posI x o), x ≤ y) := by
    intro o
    induction o with
    | nil => intro _; simp [posI]
    | cons z r ih =>
      intro h
      rw [List.pairwise_cons] at h
      simp only [posI]
      split
      · rename_i hz
        obtain ⟨i1, i2, i3⟩ := ih h.2
        refine ⟨?_, ?_, ?_⟩
        · rw [List.take_succ_cons, List.pairwise_cons]
          exact ⟨fun y hy => h.1 y (List.mem_of_mem_take hy), i1⟩
        · intro y hy
          rw [List.take_succ_cons] at hy
          rcases List.mem_cons.1 hy with rfl | hy
          · exact hz
          · exact i2 y hy
        · intro y hy
          rw [List.drop_succ_cons] at hy
          exact i3 y hy
      · rename_i hz
        refine ⟨by simp, by simp, fun y hy => ?_⟩
        rw [List.drop_zero] at hy
        rcases List.mem_cons.1 hy with rfl | hy
        · omega
        · have := h.1 y hy; omega
  intro o ho hx
  obtain ⟨k1, k2, k3⟩ := key ho
  unfold insI
  split
  · rename_i h
    rcases h with h | ⟨h1, h2⟩
    · exact absurd h hx
    · refine ⟨ho, fun y => ⟨.inl, fun h => ?_⟩⟩
      rcases h with h | h
      · exact h
      · rw [h]
        have := List.getElem_mem h1
        rwa [h2] at this
  · rename_i h
    have hnot : ∀ y ∈ o.drop (posI x o), x < y := by
      intro y hy
      have h1 := k3 y hy
      rcases Int.lt_or_eq_of_le h1 with h2 | h2
      · exact h2
      · exfalso
        subst h2
        have hlt : posI x o < o.length := by
          rcases Nat.lt_or_ge (posI x o) o.length with h3 | h3
          · exact h3
          · rw [List.drop_eq_nil_of_le h3] at hy; cases hy
        refine h (.inr ⟨hlt, ?_⟩)
        rw [List.drop_eq_getElem_cons hlt] at hy
        have hd : (o.drop (posI x o)).Pairwise (· < ·) := ho.sublist (List.drop_sublist _ _)
        rw [List.drop_eq_getElem_cons hlt, List.pairwise_cons] at hd
        rcases List.mem_cons.1 hy with hy | hy
        · exact hy.symm
        · have := hd.1 x hy
          have hm : o[posI x o] ∈ o[posI x o] :: o.drop (posI x o + 1) := List.mem_cons_self ..
          rw [← List.drop_eq_getElem_cons hlt] at hm
          have := k3 (o[posI x o]) hm
          omega
    refine ⟨?_, fun y => ?_⟩
    · rw [List.pairwise_append]
      refine ⟨k1, ?_, fun a ha b hb => ?_⟩
      · rw [List.pairwise_cons]
        exact ⟨hnot, ho.sublist (List.drop_sublist _ _)⟩
      · have := k2 a ha
        rcases List.mem_cons.1 hb with rfl | hb
        · exact this
        · have := hnot b hb; omega
    · rw [List.mem_append, List.mem_cons]
      conv => rhs; rw [← List.take_append_drop (posI x o) o, List.mem_append]
      constructor
      · rintro (h | h | h)
        · exact .inl (.inl h)
        · exact .inr h
        · exact .inl (.inr h)
      · rintro ((h | h) | h)
        · exact .inl h
        · exact .inr (.inr h)
        · exact .inr (.inl h)

theorem refIds_inc : ∀ {ls : List Lnk} {o : List Int}, o.Pairwise (· < ·) → (ls.foldl (fun o l => insI o l.i) o).Pairwise (· < ·) ∧ ∀ y, y ∈ ls.foldl (fun o l => insI o l.i) o ↔ y ∈ o ∨ (y ≠ 0 ∧ ∃ l ∈ ls, l.i = y)
  | [], o, h => ⟨h, fun y => by simp⟩
  | l :: r, o, h => by
    by_cases hx : l.i = 0
    · have e : insI o l.i = o := by unfold insI; rw [if_pos (.inl hx)]
      simp only [List.foldl_cons, e]
      obtain ⟨h1, h2⟩ := refIds_inc (ls := r) h
      refine ⟨h1, fun y => ?_⟩
      rw [h2]
      constructor
      · rintro (h | ⟨h, l', hl', he⟩)
        · exact .inl h
        · exact .inr ⟨h, l', by simp [hl'], he⟩
      · rintro (h | ⟨h, l', hl', he⟩)
        · exact .inl h
        · rcases List.mem_cons.1 hl' with rfl | hl'
          · exact absurd (he.symm.trans hx) h
          · exact .inr ⟨h, l', hl', he⟩
    · obtain ⟨i1, i2⟩ := insI_inc h hx
      obtain ⟨h1, h2⟩ := refIds_inc (ls := r) i1
      simp only [List.foldl_cons]
      refine ⟨h1, fun y => ?_⟩
      rw [h2, i2]
      constructor
      · rintro ((h | h) | ⟨h, l', hl', he⟩)
        · exact .inl h
        · exact .inr ⟨by rw [h]; exact hx, l, by simp, h.symm⟩
        · exact .inr ⟨h, l', by simp [hl'], he⟩
      · rintro (h | ⟨h, l', hl', he⟩)
        · exact .inl (.inl h)
        · rcases List.mem_cons.1 hl' with rfl | hl'
          · exact .inl (.inr he.symm)
          · exact .inr ⟨h, l', hl', he⟩

end Proofs
end Go

/-
  Plain lemmas, part 10: sorting and dropping equal neighbours gives an increasing list with the same members. Conditions: none; plain lemmas.
-/
namespace Go
namespace Proofs

theorem comp_inc {d : Array Int} (hd : ∀ i j, i < j → j < d.size → d[i]! ≤ d[j]!) : ∀ m, m ≤ d.size →
    (Lib.compactUpTo d m).Pairwise (· < ·) ∧ (∀ x, x ∈ Lib.compactUpTo d m ↔ ∃ j, j < m ∧ d[j]! = x)
  | 0, _ => by simp [Lib.compactUpTo]
  | m + 1, hm => by
    obtain ⟨h1, h2⟩ := comp_inc hd m (by omega)
    rw [Lib.compactUpTo_succ]
    cases hk : Lib.keeps d m with
    | true =>
      rw [if_pos rfl]
      refine ⟨?_, fun x => ?_⟩
      · rw [List.pairwise_append]
        refine ⟨h1, by simp, fun a ha b hb => ?_⟩
        simp at hb
        obtain ⟨j, hj, he⟩ := (h2 a).1 ha
        have hne : d[m]! ≠ d[m - 1]! := by
          simp only [Lib.keeps, decide_eq_true_eq] at hk
          rcases hk with hk | hk
          · omega
          · exact hk
        have hle1 := hd (m - 1) m (by omega) (by omega)
        have hle2 : d[j]! ≤ d[m - 1]! := by
          rcases Nat.lt_or_ge j (m - 1) with h | h
          · exact hd j (m - 1) h (by omega)
          · rw [show j = m - 1 from by omega]; exact Int.le_refl _
        rw [hb, ← he]
        omega
      · rw [List.mem_append, h2]
        constructor
        · rintro (⟨j, hj, he⟩ | h)
          · exact ⟨j, by omega, he⟩
          · simp at h; exact ⟨m, by omega, h.symm⟩
        · rintro ⟨j, hj, he⟩
          by_cases hjm : j = m
          · right; rw [← he, hjm]; simp
          · exact .inl ⟨j, by omega, he⟩
    | false =>
      rw [if_neg (by simp), List.append_nil]
      refine ⟨h1, fun x => ?_⟩
      rw [h2]
      constructor
      · rintro ⟨j, hj, he⟩; exact ⟨j, by omega, he⟩
      · rintro ⟨j, hj, he⟩
        by_cases hjm : j = m
        · have hm0 : m ≠ 0 ∧ d[m]! = d[m - 1]! := by
            simp only [Lib.keeps, decide_eq_false_iff_not, not_or] at hk
            exact ⟨hk.1, by simpa using hk.2⟩
          exact ⟨m - 1, by omega, by rw [← he, hjm]; exact hm0.2.symm⟩
        · exact ⟨j, by omega, he⟩

theorem compact_inc {xs : List Int} (h : xs.Pairwise (· ≤ ·)) : (Lib.compact xs).Pairwise (· < ·) ∧ ∀ x, x ∈ Lib.compact xs ↔ x ∈ xs := by
  have hd : ∀ i j, i < j → j < xs.toArray.size → xs.toArray[i]! ≤ xs.toArray[j]! := by
    intro i j hij hj
    have hj' : j < xs.length := by simpa using hj
    have := List.pairwise_iff_getElem.1 h i j (by omega) hj' hij
    simpa [getElem!_pos, hj', show i < xs.length by omega] using this
  obtain ⟨h1, h2⟩ := comp_inc hd xs.length (by simp)
  refine ⟨h1, fun x => ?_⟩
  unfold Lib.compact
  rw [h2, List.mem_iff_getElem]
  constructor
  · rintro ⟨j, hj, he⟩
    exact ⟨j, hj, by simpa [getElem!_pos, hj] using he⟩
  · rintro ⟨j, hj, he⟩
    exact ⟨j, hj, by simpa [getElem!_pos, hj] using he⟩

theorem sort_inc (xs : List Int) : (xs.mergeSort fun x y => decide (x ≤ y)).Pairwise (· ≤ ·) := by
  have := List.pairwise_mergeSort (le := fun (x y : Int) => decide (x ≤ y)) (fun a b c h1 h2 => by simp at *; omega) (fun a b => by simp; omega) xs
  simpa using this

/-- The IDs, as the program finds them, are those that the reference implementation finds. -/
theorem ids_eq {ls : List Lnk} (h : ∀ l ∈ ls, 0 ≤ l.i) : Lib.compact (((ls.filter fun l => decide (0 < l.i)).map (·.i)).mergeSort fun x y => decide (x ≤ y)) = refIds ls := by
  obtain ⟨h1, h2⟩ := compact_inc (sort_inc ((ls.filter fun (l : Lnk) => decide (0 < l.i)).map fun (l : Lnk) => l.i))
  obtain ⟨h3, h4⟩ := refIds_inc (ls := ls) (o := []) List.Pairwise.nil
  refine inc_ext h1 h3 fun x => ?_
  rw [h2, List.mem_mergeSort]
  unfold refIds
  rw [h4]
  simp only [List.mem_map, List.mem_filter, decide_eq_true_eq]
  constructor
  · rintro ⟨l, ⟨hl, hp⟩, rfl⟩
    exact .inr ⟨by omega, l, hl, rfl⟩
  · rintro (hx | ⟨hx, l, hl, rfl⟩)
    · cases hx
    · have := h l hl
      exact ⟨l, ⟨hl, by omega⟩, rfl⟩

end Proofs
end Go

namespace Go
namespace Sx

/-! ### append to no slice -/

theorem Sat.lookEq {cx : Cx} {ρ : Asg} {e : Env} {H H' : Heap} {n : Nat} {a : Act} {w : World} (h : Sat cx ρ ⟨e, H, n⟩ a w) (hl : ∀ k, look H' k = look H k) : Sat cx ρ ⟨e, H', n⟩ a w where
  size := h.size
  defers := h.defers
  env := h.env
  heap := ⟨h.heap.frm, fun k own o hk => h.heap.reg k own o (by rw [← hl k]; exact hk), fun k k' o own' o' hne hk hk' => h.heap.apart k k' o own' o' hne (by rw [← hl k]; exact hk) (by rw [← hl k']; exact hk'),
    fun k o hk => h.heap.fresh k o (by rw [← hl k]; exact hk), fun k own o hk => h.heap.valid k own o (by rw [← hl k]; exact hk)⟩
  bnd := ⟨h.bnd.env, h.bnd.mks, fun k own o hk => h.bnd.heap k own o (by rw [← hl k]; exact hk)⟩
  base := h.base
  keep := h.keep
  n0 := h.n0

/-- A region without room may be added. -/
theorem Sat.addNil {cx : Cx} {ρ : Asg} {s : St} {a : Act} {w : World} (h : Sat cx ρ s a w) {k : Nat} (hf : Fresh k s) (hlt : k < s.nx) (hn : cx.n0 ≤ k) {A : Arr} (hA : A.xs = []) (hb : (SO.arr A).below s.nx) :
    Sat cx (upd ρ k ⟨0, 0, 0⟩) { s with H := (k, true, .arr A) :: s.H } a w where
  size := h.size
  defers := by rw [h.defers]; exact (marks_agree fun j hj => upd_ne (by rintro rfl; exact hf.mks hj)).symm
  env i := SV.rel_agree (fun j hj => upd_ne (by rintro rfl; have := hf.env i; rw [hj] at this; cases this)) (h.env i)
  heap := by
    refine h.heap.cons (fun j own o hl hj => ⟨upd_ne hj, fun n hnn => upd_ne (fun hkk => by have := (hf.heap j own o hl).2; rw [← hkk, hnn] at this; cases this)⟩) (Nat.le_refl _) h.heap.frm (fun _ _ _ => rfl)
      (fun j own' o' hl hj hp hr => ?_) (fun _ _ _ _ _ _ => rfl) ?_ ?_ ?_
    · simp only [SO.room, upd_eq, Nat.zero_mul] at hr; cases hr
    · refine ⟨by simp only [SO.wf, hA]; exact Nat.zero_le _, fun i j c hc => ?_, fun _ _ n hn => ?_, fun _ => by rw [upd_eq], fun Φ hΦ => by cases hΦ⟩
      · simp only [SO.cell?, hA] at hc; cases hc
      · simp only [SO.room, upd_eq, Nat.zero_mul] at hn; cases hn
    · intro _ hr; simp only [SO.room, upd_eq, Nat.zero_mul] at hr; cases hr
    · intro hr; simp only [SO.room, upd_eq, Nat.zero_mul] at hr; cases hr
  bnd := h.bnd.cons hlt hb
  base j hj := by rw [upd_ne (by omega)]; exact h.base j hj
  keep := h.keep
  n0 := h.n0

def appNilK (B : Tabs) (A : Arr) (zs : List A.α) (t t' : TypeId) (x y : SV) (H : Heap) (nx : Nat) (K : Eff → Prop) : Prop :=
  match lookT B.T t, lookT B.T t', x, y with
  | some ⟨.slice el, _, _, _⟩, some ⟨.slice _, _, _, _⟩, .c (.v (.slice none 0 0)), .c (.s k' st m sz) => (match lookT B.T el with
    | some ti => bif Nat.beq ti.size sz && (Nat.ble 1 sz && Nat.beq sz A.sz) then (match look H k' with
      | some (_, .arr X) => (X = A.setXs zs ∧ A.nm = [] ∧ st + m ≤ zs.length ∧ m * (ti.bytes + 1) ≤ 140737488355328) ∧
          K ⟨.c (.s (nx + 1) 0 m sz), [k'], [(nx + 1, true, .arr (A.setXs ((zs.drop st).take m))), (nx, false, .cells [])], [nx, nx + 1]⟩
      | _ => False) else False
    | none => False)
  | _, _, _, _ => False

theorem appNil_step {cx : Cx} {B : Tabs} (hB : TabsOK cx.P B) {o : Oper} {e : Env} {H : Heap} {nx : Nat} {K : Eff → Prop} {c : Call} {x y : Operand} {t t' : TypeId} (A : Arr) (zs : List A.α)
    (hone : ∀ x, allOne (A.enc x) = true) (ho : o.op = .call c) (hc : c.callee = .builtin .append) (hca : c.args = #[x, y]) (hct : c.argTypes = #[t, t'])
    (h : appNilK B A zs t t' (ev e x) (ev e y) H nx K) : ∃ F, CallOK cx o e H nx F ∧ K F := by
  have hx : x ∈ o.op.operands.toList := by simp [ho, Op.operands, Call.operands, hc, hca]
  have hy : y ∈ o.op.operands.toList := by simp [ho, Op.operands, Call.operands, hc, hca]
  unfold appNilK at h
  split at h
  · rename_i el s0 b0 z0 el' s1 b1 z1 k' st m sz ht ht' hex hey
    split at h
    · rename_i ti hti
      obtain ⟨hb, h⟩ := bif_and h
      simp only [Bool.and_eq_true] at hb
      obtain ⟨hb1, hb3, hb4⟩ := hb
      have hb1 := Nat.eq_of_beq_eq_true hb1
      have hb3 := Nat.le_of_ble_eq_true hb3
      have hb4 := Nat.eq_of_beq_eq_true hb4
      split at h
      · rename_i ow X hlk'
        obtain ⟨⟨rfl, hnm, h2, h3⟩, hK⟩ := h
        refine ⟨_, ⟨?_, ?_⟩, hK⟩
        rotate_left
        · intro j hj; simp at hj; rcases hj with rfl | rfl <;> simp
        intro ρ s a w hs hr hk hnew hdst KK Q hKK
        obtain ⟨hfr, hlt, hn0⟩ := hnew nx (by simp)
        obtain ⟨hfr1, hlt1, hn1⟩ := hnew (nx + 1) (by simp)
        have hl2 : look s.H k' = some (ow, .arr (A.setXs zs)) := by rw [hk k' (by simp)]; exact hlk'
        have hfit : ∀ z, z ∈ o.op.operands.toList → (ev e z).rel ρ (a.eval z) := fun z hz => reads_fit hz (fun t ht => by rw [← hr t ht]; exact hs.env t)
        have hx1 := hfit x hx
        have hy1 := hfit y hy
        rw [hex] at hx1; rw [hey] at hy1
        have hkn : k' ≠ nx := (hfr.heap k' ow _ hl2).1
        have hkn1 : k' ≠ nx + 1 := (hfr1.heap k' ow _ hl2).1
        have hx1 : a.eval x = .slice none 0 0 := hx1
        have hs2 := hs.addNil hfr hlt hn0 (A := A.setXs []) rfl (fun (j : Nat) (hj : anyMem [j] A.nm = true) => by rw [hnm] at hj; cases hj)
        have hfr2 : Fresh (nx + 1) { s with H := (nx, true, .arr (A.setXs [])) :: s.H } := ⟨hfr1.env, hfr1.mks, fun j own o hl => by
          rw [look_cons] at hl
          by_cases hj : j = nx
          · rw [if_pos hj] at hl
            simp at hl
            obtain ⟨_, rfl⟩ := hl
            refine ⟨by omega, ?_⟩
            show anyMem [nx + 1] A.nm = false
            rw [hnm]; rfl
          · rw [if_neg hj] at hl; exact hfr1.heap j own o hl⟩
        refine app_core (A0 := A.setXs []) (k := nx) (k' := k') (len := 0) (st := st) (m := m) (sz := sz) (sz' := sz) (ow := ow) (nx := nx + 1) hB zs hone ho hc hca hct ht ht' hti hb1 rfl hb3 hb4 hs2 ?_ ?_ (Nat.le_refl _) h2 (by rw [Nat.zero_add]; exact h3) ?_ ?_ hfr2 hlt1 hn1 hdst ?_
        · show look ((nx, true, SO.arr (A.setXs [])) :: s.H) nx = _
          rw [look_cons, if_pos rfl]
        · show look ((nx, true, SO.arr (A.setXs [])) :: s.H) k' = _
          rw [look_cons, if_neg hkn]; exact hl2
        · exact ⟨none, by rw [hx1, upd_eq]; rfl, by rw [upd_eq]; exact Nat.le_refl _, fun h => by rw [upd_eq] at h; cases h⟩
        · exact SC.rel_agree (fun j hj => upd_ne (by simp [SC.nms] at hj; subst hj; exact hkn)) hy1
        · intro ρ' a' w' hsat hag
          rw [Nat.zero_add] at hsat
          refine hKK ρ' a' w' (hsat.lookEq fun j => ?_) fun j hj => ?_
          · simp only [List.cons_append, List.nil_append, look_cons]
            by_cases h1 : j = nx + 1
            · rw [if_pos h1, if_pos h1]; rfl
            · rw [if_neg h1, if_neg h1]
              by_cases h0 : j = nx
              · rw [if_pos h0, if_pos h0]
              · rw [if_neg h0, if_neg h0, if_neg h0]
          · have h1 : j ≠ nx ∧ j ≠ nx + 1 := by simpa using hj
            rw [hag j (by simp; exact h1.2), upd_ne h1.1]
      · exact h.elim
    · exact h.elim
  · exact h.elim

end Sx
end Go

namespace Go.Proofs
open Go.Sx

theorem without_len (ls : List Lnk) (id : Int) : (withoutF ls id).length ≤ ls.length := List.length_filter_le _ _

theorem refWithout_t (bs : List (Int × Int)) (ls : List Lnk) (id : Int) (hl : ls.length ≤ 100000) :
    Triple Try.prog 88 [sysA bs.length ls.length, iv .i64 id] (sysH bs ls) 2 (.agg [.s 0 0 bs.length 2, .s 2 0 (withoutF ls id).length 4]) [(2, true, .arr (aLink (withoutF ls id)))] := by
  refine triple_of tB_ok Try.func88 rfl Try.call88 rfl ?_
  intro ρ w hH
  conv => whnf
  refine loop_step tB_ok (G := Nat × List Lnk) 1 [] (fun g => [(6, iv .i64 g.1)]) (fun g => [(4, true, .cells [.s 0 0 bs.length 2, .s 5 0 g.2.length 4]), (5, true, .arr (aLink g.2))]) (fun g => g.1 ≤ ls.length ∧ g.2 = withoutF (ls.take g.1) id) (fun g => ls.length - g.1) ?_
  conv => whnf
  refine ⟨⟨(0, []), ⟨Nat.zero_le _, rfl⟩, ?_⟩, ?_⟩
  · conv => whnf
    repeat' (first | exact trivial | exact rfl | refine And.intro ?_ ?_ | ((conv => whnf); first | exact trivial | exact rfl | refine And.intro ?_ ?_ | omega))
  rintro ⟨i, xs⟩ ⟨hi, hxs⟩ ρ1 t1 hρ1
  have hi : i ≤ ls.length := hi
  have hxs : xs = withoutF (ls.take i) id := hxs
  have hxl : xs.length ≤ ls.length := by rw [hxs]; refine Nat.le_trans (without_len _ _) ?_; rw [List.length_take]; omega
  dsimp only
  conv => whnf
  refine ⟨fun hc => ?_, fun hc => ?_⟩
  · have hlt : i < ls.length := by simpa using hc
    have hst : withoutF (ls.take (i + 1)) id = xs ++ (if ls[i].i != id then [ls[i]] else []) := by
      unfold withoutF at *
      rw [filter_take_succ hlt, ← hxs]
    conv => whnf
    refine ⟨i, rfl, hlt, hlt, ?_⟩
    conv => whnf
    refine ⟨fun hc => ?_, fun hc => ?_⟩
    · have hne : (ls[i].i != id) = true := hc
      rw [hne, if_pos rfl] at hst
      conv => whnf
      refine ⟨i, rfl, hlt, hlt, ?_⟩
      conv => whnf
      refine bs_step tB_ok (aLink [ls[i]]) rfl rfl ?_
      conv => whnf
      refine ⟨⟨rfl, ⟨rfl, rfl, rfl, rfl, trivial⟩⟩, ?_⟩
      conv => whnf
      refine app_step tB_ok (aLink xs) [ls[i]] (fun _ => rfl) rfl rfl rfl rfl ?_
      conv => whnf
      refine ⟨⟨rfl, rfl, Nat.le_refl _, Nat.le_refl _, by show (xs.length + 1) * 33 ≤ _; omega⟩, ?_⟩
      conv => whnf
      refine ⟨_, wrapId ⟨by omega, by omega⟩, ?_⟩
      refine ⟨(i + 1, xs ++ [ls[i]]), ⟨hlt, hst.symm⟩, by show ls.length - (i + 1) < ls.length - i; omega, ?_⟩
      conv => whnf
      refine ⟨rfl, ?_⟩
      conv => whnf
      repeat' (first | exact trivial | exact rfl | refine And.intro ?_ ?_ | ((conv => whnf); first | exact trivial | exact rfl | refine And.intro ?_ ?_ | omega))
      all_goals first | exact (congrArg aLink app1 : _) | simp
    · have hne : (ls[i].i != id) = false := hc
      rw [hne, if_neg (by simp), List.append_nil] at hst
      conv => whnf
      refine ⟨_, wrapId ⟨by omega, by omega⟩, ?_⟩
      refine ⟨(i + 1, xs), ⟨hlt, hst.symm⟩, by show ls.length - (i + 1) < ls.length - i; omega, ?_⟩
      conv => whnf
      refine ⟨rfl, ?_⟩
      conv => whnf
      repeat' (first | exact trivial | exact rfl | refine And.intro ?_ ?_ | ((conv => whnf); first | exact trivial | exact rfl | refine And.intro ?_ ?_ | omega))
  have hie : i = ls.length := by simp at hc; omega
  rw [hie, List.take_length] at hxs
  subst hxs
  conv => whnf
  repeat' (first | exact trivial | exact rfl | refine And.intro ?_ ?_ | ((conv => whnf); first | exact trivial | exact rfl | refine And.intro ?_ ?_ | omega))

theorem refIDs_t (ls : List Lnk) (h : ls.length ≤ 100000) : Triple Try.prog 87 [.c (.s 0 0 ls.length 4)] [(0, false, .arr (aLink ls))] 1 (.c (.s 1 0 (refIds ls).length 1)) [(1, true, .arr (aInt (refIds ls)))] := by
  refine triple_of tB_ok Try.func87 rfl Try.call87 rfl ?_
  intro ρ w hH
  conv => whnf
  refine loop_step tB_ok (G := Nat × List Int) 1 [] (fun g => [(4, iv .i64 g.1), (3, .c (.s 1 0 g.2.length 1))]) (fun g => [(1, true, .arr (aInt g.2))]) (fun g => g.1 ≤ ls.length ∧ g.2 = refIds (ls.take g.1)) (fun g => ls.length - g.1) ?_
  conv => whnf
  refine ⟨⟨(0, []), ⟨Nat.zero_le _, rfl⟩, ?_⟩, ?_⟩
  · conv => whnf
    repeat' (first | exact trivial | exact rfl | refine And.intro ?_ ?_ | ((conv => whnf); first | exact trivial | exact rfl | refine And.intro ?_ ?_ | omega))
  rintro ⟨i, out⟩ ⟨hi, hout⟩ ρ1 t1 hρ1
  have hi : i ≤ ls.length := hi
  have hout : out = refIds (ls.take i) := hout
  have hol : out.length ≤ i := by
    rw [hout]
    have := refIds_len (ls.take i) []
    rw [List.length_take] at this
    unfold refIds
    simp at this ⊢
    omega
  dsimp only
  conv => whnf
  refine ⟨fun hc => ?_, fun hc => ?_⟩
  · have hlt : i < ls.length := by simpa using hc
    have hst : ∀ o, insI out ls[i].i = o → o = refIds (ls.take (i + 1)) := by
      intro o ho
      rw [← ho, take_snoc hlt, hout]
      unfold refIds
      rw [List.foldl_append]; rfl
    conv => whnf
    refine loop_step tB_ok (G := Nat) 0 [] (fun k => [(5, iv .i64 k)]) (fun _ => []) (fun k => k ≤ out.length ∧ ∀ y ∈ out.take k, y < ls[i].i) (fun k => out.length - k) ?_
    conv => whnf
    refine ⟨⟨0, ⟨Nat.zero_le _, by simp⟩, ?_⟩, ?_⟩
    · conv => whnf
      repeat' (first | exact trivial | exact rfl | refine And.intro ?_ ?_ | ((conv => whnf); first | exact trivial | exact rfl | refine And.intro ?_ ?_ | omega))
    intro k hkk ρ2 t2 hρ2
    obtain ⟨hk, hpre⟩ := hkk
    have hk : k ≤ out.length := hk
    have hpre : ∀ y ∈ out.take k, y < ls[i].i := hpre
    conv => whnf
    refine ⟨fun hc => ?_, fun hc => ?_⟩
    · have hkl : k < out.length := by simpa using hc
      conv => whnf
      refine ⟨k, rfl, hkl, hkl, ?_⟩
      conv => whnf
      refine ⟨i, rfl, hlt, hlt, ?_⟩
      conv => whnf
      refine ⟨fun hc => ?_, fun hc => ?_⟩
      · have hlo : out[k] < ls[i].i := of_decide_eq_true (show decide (out[k] < ls[i].i) = true from hc)
        conv => whnf
        refine ⟨(k : Int) + 1, wrapId (z := (k : Int) + 1) ⟨by omega, by omega⟩, ?_⟩
        refine ⟨k + 1, ⟨hkl, fun y hy => ?_⟩, by show out.length - (k + 1) < out.length - k; omega, ?_⟩
        · rw [take_snoc hkl] at hy
          rcases List.mem_append.1 hy with hy | hy
          · exact hpre y hy
          · simp at hy; rw [hy]; exact hlo
        conv => whnf
        refine ⟨rfl, ?_⟩
        conv => whnf
        repeat' (first | exact trivial | exact rfl | refine And.intro ?_ ?_ | ((conv => whnf); first | exact trivial | exact rfl | refine And.intro ?_ ?_ | omega))
      · have hlo : ¬ out[k] < ls[i].i := of_decide_eq_false (show decide (out[k] < ls[i].i) = false from hc)
        have hend : k = out.length ∨ ∃ h : k < out.length, ¬ out[k] < ls[i].i := .inr ⟨hkl, hlo⟩
        have hpos : posI ls[i].i out = k := posI_of hk hpre hend
        conv => whnf
        refine ⟨i, rfl, hlt, hlt, ?_⟩
        conv => whnf
        refine ⟨fun hc => ?_, fun hc => ?_⟩
        · have h0 : ls[i].i = 0 := by simpa using (show (ls[i].i == 0) = true from hc)
          have e : insI out ls[i].i = out := by unfold insI; rw [if_pos (.inl h0)]
          conv => whnf
          refine ⟨(i : Int) + 1, wrapId (z := (i : Int) + 1) ⟨by omega, by omega⟩, ?_⟩
          refine ⟨(i + 1, out), ⟨hlt, hst out e⟩, by show ls.length - (i + 1) < ls.length - i; omega, ?_⟩
          conv => whnf
          refine ⟨rfl, ?_⟩
          conv => whnf
          repeat' (first | exact trivial | exact rfl | refine And.intro ?_ ?_ | ((conv => whnf); first | exact trivial | exact rfl | refine And.intro ?_ ?_ | omega))
        have h0 : ls[i].i ≠ 0 := by simpa using (show (ls[i].i == 0) = false from hc)
        conv => whnf
        refine ⟨fun hc => ?_, fun hc => ?_⟩
        · have h1 : k < out.length := by simpa using hc
          conv => whnf
          refine ⟨k, rfl, h1, h1, ?_⟩
          conv => whnf
          refine ⟨i, rfl, hlt, hlt, ?_⟩
          conv => whnf
          refine ⟨fun hc => ?_, fun hc => ?_⟩
          · have h2 : out[k] = ls[i].i := by simpa using (show (out[k] == ls[i].i) = true from hc)
            have e : insI out ls[i].i = out := by unfold insI; rw [if_pos (.inr (by simp only [hpos]; exact ⟨h1, h2⟩))]
            conv => whnf
            refine ⟨(i : Int) + 1, wrapId (z := (i : Int) + 1) ⟨by omega, by omega⟩, ?_⟩
            refine ⟨(i + 1, out), ⟨hlt, hst out e⟩, by show ls.length - (i + 1) < ls.length - i; omega, ?_⟩
            conv => whnf
            refine ⟨rfl, ?_⟩
            conv => whnf
            repeat' (first | exact trivial | exact rfl | refine And.intro ?_ ?_ | ((conv => whnf); first | exact trivial | exact rfl | refine And.intro ?_ ?_ | omega))
          · have h2 : out[k] ≠ ls[i].i := by simpa using (show (out[k] == ls[i].i) = false from hc)
            have e : insI out ls[i].i = (out.take k ++ [ls[i].i]) ++ (out.drop k).take (out.length - k) := by
              unfold insI
              rw [if_neg (by rintro (h | h); exact h0 h; simp only [hpos] at h; exact h2 h.2), hpos, List.append_assoc, List.take_of_length_le (Nat.le_of_eq List.length_drop)]; rfl
            have htk : (out.take k).length = k := by rw [List.length_take]; omega
            have hst2 := hst _ e
            conv => whnf
            refine ⟨k, rfl, hk, ?_⟩
            conv => whnf
            refine ⟨Nat.zero_le _, ?_⟩
            conv => whnf
            refine appNil_step tB_ok (aInt []) out (fun _ => rfl) rfl rfl rfl rfl ?_
            conv => whnf
            refine ⟨⟨rfl, rfl, by show addN 0 0 + subN k 0 ≤ @List.length Int out; simp only [addN_eq, subN_eq]; omega, by show subN k 0 * 9 ≤ _; rw [subN_eq]; omega⟩, ?_⟩
            conv => whnf
            refine ⟨i, rfl, hlt, hlt, ?_⟩
            conv => whnf
            refine bs_step tB_ok (aInt [ls[i].i]) rfl rfl ?_
            conv => whnf
            refine ⟨⟨rfl, rfl, trivial⟩, ?_⟩
            conv => whnf
            refine app_step tB_ok (aInt (out.take k)) [ls[i].i] (fun _ => rfl) rfl rfl rfl rfl ?_
            conv => whnf
            refine ⟨⟨rfl, rfl, by show subN k 0 ≤ (out.take k).length; rw [subN_eq]; omega, Nat.le_refl _, by show (subN k 0 + 1) * 9 ≤ _; rw [subN_eq]; omega⟩, ?_⟩
            conv => whnf
            refine ⟨Nat.le_refl _, k, rfl, hk, ?_⟩
            conv => whnf
            refine app_step tB_ok (aInt (out.take k ++ [ls[i].i])) out (fun _ => rfl) rfl rfl rfl rfl ?_
            conv => whnf
            refine ⟨⟨congrArg aInt (by show List.take (subN k 0) (out.take k) ++ [ls[i].i] = _; rw [subN_eq, Nat.sub_zero, List.take_of_length_le (by omega)]), rfl,
              by show subN k 0 + 1 ≤ (out.take k ++ [ls[i].i]).length; rw [subN_eq, List.length_append, htk]; simp, by show addN 0 k + subN out.length k ≤ @List.length Int out; simp only [addN_eq, subN_eq]; omega, by show (subN k 0 + 1 + subN out.length k) * 9 ≤ _; simp only [subN_eq]; omega⟩, ?_⟩
            conv => whnf
            refine ⟨(i : Int) + 1, wrapId (z := (i : Int) + 1) ⟨by omega, by omega⟩, ?_⟩
            refine ⟨(i + 1, (out.take k ++ [ls[i].i]) ++ (out.drop k).take (out.length - k)), ⟨hlt, hst2⟩, by show ls.length - (i + 1) < ls.length - i; omega, ?_⟩
            conv => whnf
            refine ⟨rfl, ?_⟩
            conv => whnf
            repeat' (first | exact trivial | exact rfl | refine And.intro ?_ ?_ | ((conv => whnf); first | exact trivial | exact rfl | refine And.intro ?_ ?_ | omega))
            all_goals first
              | (show subN k 0 + 1 + subN out.length k = ((out.take k ++ [ls[i].i]) ++ (out.drop k).take (out.length - k)).length
                 simp only [subN_eq, List.length_append, htk, List.length_take, List.length_drop, List.length_cons, List.length_nil]
                 omega)
              | (show aInt (List.take (subN k 0 + 1) (out.take k ++ [ls[i].i]) ++ List.take (subN out.length k) (List.drop (addN 0 k) out)) = aInt ((out.take k ++ [ls[i].i]) ++ (out.drop k).take (out.length - k))
                 rw [subN_eq, subN_eq, addN_eq, Nat.zero_add, Nat.sub_zero, List.take_of_length_le (l := out.take k ++ [ls[i].i]) (by rw [List.length_append, htk]; simp)])
        · have h1 : ¬ k < out.length := by simpa using hc
          have e : insI out ls[i].i = (out.take k ++ [ls[i].i]) ++ (out.drop k).take (out.length - k) := by
            unfold insI
            rw [if_neg (by rintro (h | h); exact h0 h; simp only [hpos] at h; exact h1 h.1), hpos, List.append_assoc, List.take_of_length_le (Nat.le_of_eq List.length_drop)]; rfl
          have htk : (out.take k).length = k := by rw [List.length_take]; omega
          have hst2 := hst _ e
          conv => whnf
          refine ⟨k, rfl, hk, ?_⟩
          conv => whnf
          refine ⟨Nat.zero_le _, ?_⟩
          conv => whnf
          refine appNil_step tB_ok (aInt []) out (fun _ => rfl) rfl rfl rfl rfl ?_
          conv => whnf
          refine ⟨⟨rfl, rfl, by show addN 0 0 + subN k 0 ≤ @List.length Int out; simp only [addN_eq, subN_eq]; omega, by show subN k 0 * 9 ≤ _; rw [subN_eq]; omega⟩, ?_⟩
          conv => whnf
          refine ⟨i, rfl, hlt, hlt, ?_⟩
          conv => whnf
          refine bs_step tB_ok (aInt [ls[i].i]) rfl rfl ?_
          conv => whnf
          refine ⟨⟨rfl, rfl, trivial⟩, ?_⟩
          conv => whnf
          refine app_step tB_ok (aInt (out.take k)) [ls[i].i] (fun _ => rfl) rfl rfl rfl rfl ?_
          conv => whnf
          refine ⟨⟨rfl, rfl, by show subN k 0 ≤ (out.take k).length; rw [subN_eq]; omega, Nat.le_refl _, by show (subN k 0 + 1) * 9 ≤ _; rw [subN_eq]; omega⟩, ?_⟩
          conv => whnf
          refine ⟨Nat.le_refl _, k, rfl, hk, ?_⟩
          conv => whnf
          refine app_step tB_ok (aInt (out.take k ++ [ls[i].i])) out (fun _ => rfl) rfl rfl rfl rfl ?_
          conv => whnf
          refine ⟨⟨congrArg aInt (by show List.take (subN k 0) (out.take k) ++ [ls[i].i] = _; rw [subN_eq, Nat.sub_zero, List.take_of_length_le (by omega)]), rfl,
            by show subN k 0 + 1 ≤ (out.take k ++ [ls[i].i]).length; rw [subN_eq, List.length_append, htk]; simp, by show addN 0 k + subN out.length k ≤ @List.length Int out; simp only [addN_eq, subN_eq]; omega, by show (subN k 0 + 1 + subN out.length k) * 9 ≤ _; simp only [subN_eq]; omega⟩, ?_⟩
          conv => whnf
          refine ⟨(i : Int) + 1, wrapId (z := (i : Int) + 1) ⟨by omega, by omega⟩, ?_⟩
          refine ⟨(i + 1, (out.take k ++ [ls[i].i]) ++ (out.drop k).take (out.length - k)), ⟨hlt, hst2⟩, by show ls.length - (i + 1) < ls.length - i; omega, ?_⟩
          conv => whnf
          refine ⟨rfl, ?_⟩
          conv => whnf
          repeat' (first | exact trivial | exact rfl | refine And.intro ?_ ?_ | ((conv => whnf); first | exact trivial | exact rfl | refine And.intro ?_ ?_ | omega))
          all_goals first
            | (show subN k 0 + 1 + subN out.length k = ((out.take k ++ [ls[i].i]) ++ (out.drop k).take (out.length - k)).length
               simp only [subN_eq, List.length_append, htk, List.length_take, List.length_drop, List.length_cons, List.length_nil]
               omega)
            | (show aInt (List.take (subN k 0 + 1) (out.take k ++ [ls[i].i]) ++ List.take (subN out.length k) (List.drop (addN 0 k) out)) = aInt ((out.take k ++ [ls[i].i]) ++ (out.drop k).take (out.length - k))
               rw [subN_eq, subN_eq, addN_eq, Nat.zero_add, Nat.sub_zero, List.take_of_length_le (l := out.take k ++ [ls[i].i]) (by rw [List.length_append, htk]; simp)])
    · have hke : k = out.length := by simp at hc; omega
      have hend : k = out.length ∨ ∃ h : k < out.length, ¬ out[k] < ls[i].i := .inl hke
      have hpos : posI ls[i].i out = k := posI_of hk hpre hend
      conv => whnf
      refine ⟨i, rfl, hlt, hlt, ?_⟩
      conv => whnf
      refine ⟨fun hc => ?_, fun hc => ?_⟩
      · have h0 : ls[i].i = 0 := by simpa using (show (ls[i].i == 0) = true from hc)
        have e : insI out ls[i].i = out := by unfold insI; rw [if_pos (.inl h0)]
        conv => whnf
        refine ⟨(i : Int) + 1, wrapId (z := (i : Int) + 1) ⟨by omega, by omega⟩, ?_⟩
        refine ⟨(i + 1, out), ⟨hlt, hst out e⟩, by show ls.length - (i + 1) < ls.length - i; omega, ?_⟩
        conv => whnf
        refine ⟨rfl, ?_⟩
        conv => whnf
        repeat' (first | exact trivial | exact rfl | refine And.intro ?_ ?_ | ((conv => whnf); first | exact trivial | exact rfl | refine And.intro ?_ ?_ | omega))
      have h0 : ls[i].i ≠ 0 := by simpa using (show (ls[i].i == 0) = false from hc)
      conv => whnf
      refine ⟨fun hc => ?_, fun hc => ?_⟩
      · have h1 : k < out.length := by simpa using hc
        conv => whnf
        refine ⟨k, rfl, h1, h1, ?_⟩
        conv => whnf
        refine ⟨i, rfl, hlt, hlt, ?_⟩
        conv => whnf
        refine ⟨fun hc => ?_, fun hc => ?_⟩
        · have h2 : out[k] = ls[i].i := by simpa using (show (out[k] == ls[i].i) = true from hc)
          have e : insI out ls[i].i = out := by unfold insI; rw [if_pos (.inr (by simp only [hpos]; exact ⟨h1, h2⟩))]
          conv => whnf
          refine ⟨(i : Int) + 1, wrapId (z := (i : Int) + 1) ⟨by omega, by omega⟩, ?_⟩
          refine ⟨(i + 1, out), ⟨hlt, hst out e⟩, by show ls.length - (i + 1) < ls.length - i; omega, ?_⟩
          conv => whnf
          refine ⟨rfl, ?_⟩
          conv => whnf
          repeat' (first | exact trivial | exact rfl | refine And.intro ?_ ?_ | ((conv => whnf); first | exact trivial | exact rfl | refine And.intro ?_ ?_ | omega))
        · have h2 : out[k] ≠ ls[i].i := by simpa using (show (out[k] == ls[i].i) = false from hc)
          have e : insI out ls[i].i = (out.take k ++ [ls[i].i]) ++ (out.drop k).take (out.length - k) := by
            unfold insI
            rw [if_neg (by rintro (h | h); exact h0 h; simp only [hpos] at h; exact h2 h.2), hpos, List.append_assoc, List.take_of_length_le (Nat.le_of_eq List.length_drop)]; rfl
          have htk : (out.take k).length = k := by rw [List.length_take]; omega
          have hst2 := hst _ e
          conv => whnf
          refine ⟨k, rfl, hk, ?_⟩
          conv => whnf
          refine ⟨Nat.zero_le _, ?_⟩
          conv => whnf
          refine appNil_step tB_ok (aInt []) out (fun _ => rfl) rfl rfl rfl rfl ?_
          conv => whnf
          refine ⟨⟨rfl, rfl, by show addN 0 0 + subN k 0 ≤ @List.length Int out; simp only [addN_eq, subN_eq]; omega, by show subN k 0 * 9 ≤ _; rw [subN_eq]; omega⟩, ?_⟩
          conv => whnf
          refine ⟨i, rfl, hlt, hlt, ?_⟩
          conv => whnf
          refine bs_step tB_ok (aInt [ls[i].i]) rfl rfl ?_
          conv => whnf
          refine ⟨⟨rfl, rfl, trivial⟩, ?_⟩
          conv => whnf
          refine app_step tB_ok (aInt (out.take k)) [ls[i].i] (fun _ => rfl) rfl rfl rfl rfl ?_
          conv => whnf
          refine ⟨⟨rfl, rfl, by show subN k 0 ≤ (out.take k).length; rw [subN_eq]; omega, Nat.le_refl _, by show (subN k 0 + 1) * 9 ≤ _; rw [subN_eq]; omega⟩, ?_⟩
          conv => whnf
          refine ⟨Nat.le_refl _, k, rfl, hk, ?_⟩
          conv => whnf
          refine app_step tB_ok (aInt (out.take k ++ [ls[i].i])) out (fun _ => rfl) rfl rfl rfl rfl ?_
          conv => whnf
          refine ⟨⟨congrArg aInt (by show List.take (subN k 0) (out.take k) ++ [ls[i].i] = _; rw [subN_eq, Nat.sub_zero, List.take_of_length_le (by omega)]), rfl,
            by show subN k 0 + 1 ≤ (out.take k ++ [ls[i].i]).length; rw [subN_eq, List.length_append, htk]; simp, by show addN 0 k + subN out.length k ≤ @List.length Int out; simp only [addN_eq, subN_eq]; omega, by show (subN k 0 + 1 + subN out.length k) * 9 ≤ _; simp only [subN_eq]; omega⟩, ?_⟩
          conv => whnf
          refine ⟨(i : Int) + 1, wrapId (z := (i : Int) + 1) ⟨by omega, by omega⟩, ?_⟩
          refine ⟨(i + 1, (out.take k ++ [ls[i].i]) ++ (out.drop k).take (out.length - k)), ⟨hlt, hst2⟩, by show ls.length - (i + 1) < ls.length - i; omega, ?_⟩
          conv => whnf
          refine ⟨rfl, ?_⟩
          conv => whnf
          repeat' (first | exact trivial | exact rfl | refine And.intro ?_ ?_ | ((conv => whnf); first | exact trivial | exact rfl | refine And.intro ?_ ?_ | omega))
          all_goals first
            | (show subN k 0 + 1 + subN out.length k = ((out.take k ++ [ls[i].i]) ++ (out.drop k).take (out.length - k)).length
               simp only [subN_eq, List.length_append, htk, List.length_take, List.length_drop, List.length_cons, List.length_nil]
               omega)
            | (show aInt (List.take (subN k 0 + 1) (out.take k ++ [ls[i].i]) ++ List.take (subN out.length k) (List.drop (addN 0 k) out)) = aInt ((out.take k ++ [ls[i].i]) ++ (out.drop k).take (out.length - k))
               rw [subN_eq, subN_eq, addN_eq, Nat.zero_add, Nat.sub_zero, List.take_of_length_le (l := out.take k ++ [ls[i].i]) (by rw [List.length_append, htk]; simp)])
      · have h1 : ¬ k < out.length := by simpa using hc
        have e : insI out ls[i].i = (out.take k ++ [ls[i].i]) ++ (out.drop k).take (out.length - k) := by
          unfold insI
          rw [if_neg (by rintro (h | h); exact h0 h; simp only [hpos] at h; exact h1 h.1), hpos, List.append_assoc, List.take_of_length_le (Nat.le_of_eq List.length_drop)]; rfl
        have htk : (out.take k).length = k := by rw [List.length_take]; omega
        have hst2 := hst _ e
        conv => whnf
        refine ⟨k, rfl, hk, ?_⟩
        conv => whnf
        refine ⟨Nat.zero_le _, ?_⟩
        conv => whnf
        refine appNil_step tB_ok (aInt []) out (fun _ => rfl) rfl rfl rfl rfl ?_
        conv => whnf
        refine ⟨⟨rfl, rfl, by show addN 0 0 + subN k 0 ≤ @List.length Int out; simp only [addN_eq, subN_eq]; omega, by show subN k 0 * 9 ≤ _; rw [subN_eq]; omega⟩, ?_⟩
        conv => whnf
        refine ⟨i, rfl, hlt, hlt, ?_⟩
        conv => whnf
        refine bs_step tB_ok (aInt [ls[i].i]) rfl rfl ?_
        conv => whnf
        refine ⟨⟨rfl, rfl, trivial⟩, ?_⟩
        conv => whnf
        refine app_step tB_ok (aInt (out.take k)) [ls[i].i] (fun _ => rfl) rfl rfl rfl rfl ?_
        conv => whnf
        refine ⟨⟨rfl, rfl, by show subN k 0 ≤ (out.take k).length; rw [subN_eq]; omega, Nat.le_refl _, by show (subN k 0 + 1) * 9 ≤ _; rw [subN_eq]; omega⟩, ?_⟩
        conv => whnf
        refine ⟨Nat.le_refl _, k, rfl, hk, ?_⟩
        conv => whnf
        refine app_step tB_ok (aInt (out.take k ++ [ls[i].i])) out (fun _ => rfl) rfl rfl rfl rfl ?_
        conv => whnf
        refine ⟨⟨congrArg aInt (by show List.take (subN k 0) (out.take k) ++ [ls[i].i] = _; rw [subN_eq, Nat.sub_zero, List.take_of_length_le (by omega)]), rfl,
          by show subN k 0 + 1 ≤ (out.take k ++ [ls[i].i]).length; rw [subN_eq, List.length_append, htk]; simp, by show addN 0 k + subN out.length k ≤ @List.length Int out; simp only [addN_eq, subN_eq]; omega, by show (subN k 0 + 1 + subN out.length k) * 9 ≤ _; simp only [subN_eq]; omega⟩, ?_⟩
        conv => whnf
        refine ⟨(i : Int) + 1, wrapId (z := (i : Int) + 1) ⟨by omega, by omega⟩, ?_⟩
        refine ⟨(i + 1, (out.take k ++ [ls[i].i]) ++ (out.drop k).take (out.length - k)), ⟨hlt, hst2⟩, by show ls.length - (i + 1) < ls.length - i; omega, ?_⟩
        conv => whnf
        refine ⟨rfl, ?_⟩
        conv => whnf
        repeat' (first | exact trivial | exact rfl | refine And.intro ?_ ?_ | ((conv => whnf); first | exact trivial | exact rfl | refine And.intro ?_ ?_ | omega))
        all_goals first
          | (show subN k 0 + 1 + subN out.length k = ((out.take k ++ [ls[i].i]) ++ (out.drop k).take (out.length - k)).length
             simp only [subN_eq, List.length_append, htk, List.length_take, List.length_drop, List.length_cons, List.length_nil]
             omega)
          | (show aInt (List.take (subN k 0 + 1) (out.take k ++ [ls[i].i]) ++ List.take (subN out.length k) (List.drop (addN 0 k) out)) = aInt ((out.take k ++ [ls[i].i]) ++ (out.drop k).take (out.length - k))
             rw [subN_eq, subN_eq, addN_eq, Nat.zero_add, Nat.sub_zero, List.take_of_length_le (l := out.take k ++ [ls[i].i]) (by rw [List.length_append, htk]; simp)])
  have hie : i = ls.length := by simp at hc; omega
  rw [hie, List.take_length] at hout
  subst hout
  conv => whnf
  repeat' (first | exact trivial | exact rfl | refine And.intro ?_ ?_ | ((conv => whnf); first | exact trivial | exact rfl | refine And.intro ?_ ?_ | omega))

theorem withoutF_ok {bs : List (Int × Int)} {ls : List Lnk} (hs : SysOK bs ls) (id : Int) : SysOK bs (withoutF ls id) :=
  ⟨hs.nb, Nat.le_trans (without_len ls id) hs.nl, hs.box, fun l hl => hs.lnk l (List.mem_filter.1 hl).1⟩

def refNeedsF (bs : List (Int × Int)) (ls : List Lnk) (a b : Int) : List Int := (refIds ls).filter fun id => decide (greatF bs.length (allF bs ls) a b < greatF bs.length (allF bs (withoutF ls id)) a b)

theorem refNeeds_t (bs : List (Int × Int)) (ls : List Lnk) (a b : Int) (hs : SysOK bs ls) (ha : -1 ≤ a ∧ a < bs.length) (hb : -1 ≤ b ∧ b < bs.length) :
    Triple Try.prog 24 [sysA bs.length ls.length, iv .i64 a, iv .i64 b] (sysH bs ls) 2 (.tup [.inl (.s 2 0 (refNeedsF bs ls a b).length 1), .inl (.v (.int .i64 0))]) [(2, true, .arr (aInt (refNeedsF bs ls a b)))] := by
  refine triple_of tB_ok Try.func24 rfl Try.call24 rfl ?_
  intro ρ w hH
  conv => whnf
  have hnb := hs.nb
  have hnl := hs.nl
  have hpa : placeF bs.length a = true := by simp [placeF]; omega
  have hpb : placeF bs.length b = true := by simp [placeF]; omega
  refine call_step (refPlace_t bs ls a) rfl rfl ?_
  conv => whnf
  refine ⟨(by repeat' (first | exact trivial | exact rfl | refine And.intro ?_ ?_ | ((conv => whnf); first | exact trivial | exact rfl | refine And.intro ?_ ?_ | omega))), (by repeat' (first | exact trivial | exact rfl | refine And.intro ?_ ?_ | ((conv => whnf); first | exact trivial | exact rfl | refine And.intro ?_ ?_ | omega))), ?_⟩
  conv => whnf
  rw [hpa]
  refine ⟨fun hc => ?_, fun hc => ?_⟩
  · exact absurd hc (by simp)
  conv => whnf
  refine call_step (refPlace_t bs ls b) rfl rfl ?_
  conv => whnf
  refine ⟨(by repeat' (first | exact trivial | exact rfl | refine And.intro ?_ ?_ | ((conv => whnf); first | exact trivial | exact rfl | refine And.intro ?_ ?_ | omega))), (by repeat' (first | exact trivial | exact rfl | refine And.intro ?_ ?_ | ((conv => whnf); first | exact trivial | exact rfl | refine And.intro ?_ ?_ | omega))), ?_⟩
  conv => whnf
  rw [hpb]
  refine ⟨fun hc => ?_, fun hc => ?_⟩
  · exact absurd hc (by simp)
  conv => whnf
  refine call_step (greatest_t bs ls a b (by omega) hs.boxB (by omega) (allF_ok hs) ha hb) rfl rfl ?_
  conv => whnf
  refine ⟨(by repeat' (first | exact trivial | exact rfl | refine And.intro ?_ ?_ | ((conv => whnf); first | exact trivial | exact rfl | refine And.intro ?_ ?_ | omega))), (by repeat' (first | exact trivial | exact rfl | refine And.intro ?_ ?_ | ((conv => whnf); first | exact trivial | exact rfl | refine And.intro ?_ ?_ | omega))), ?_⟩
  conv => whnf
  refine call_step (refIDs_t ls (by omega)) rfl rfl ?_
  conv => whnf
  refine ⟨(by repeat' (first | exact trivial | exact rfl | refine And.intro ?_ ?_ | ((conv => whnf); first | exact trivial | exact rfl | refine And.intro ?_ ?_ | omega))), (by repeat' (first | exact trivial | exact rfl | refine And.intro ?_ ?_ | ((conv => whnf); first | exact trivial | exact rfl | refine And.intro ?_ ?_ | omega))), ?_⟩
  conv => whnf
  have hF : refNeedsF bs ls a b = (refIds ls).filter fun id => decide (greatF bs.length (allF bs ls) a b < greatF bs.length (allF bs (withoutF ls id)) a b) := rfl
  have hil : (refIds ls).length ≤ 1200 := by
    have := refIds_len ls []
    unfold refIds
    simp at this ⊢
    omega
  generalize refNeedsF bs ls a b = res at *
  generalize hids : refIds ls = ids at *
  generalize hmost : greatF bs.length (allF bs ls) a b = most at *
  refine loop_step tB_ok (G := Nat × List Int) 1 [] (fun g => [(11, iv .i64 g.1), (8, .c (.s 4 0 g.2.length 1))]) (fun g => [(4, true, .arr (aInt g.2))]) (fun g => g.1 ≤ ids.length ∧ g.2 = (ids.take g.1).filter fun id => decide (most < greatF bs.length (allF bs (withoutF ls id)) a b)) (fun g => ids.length - g.1) ?_
  conv => whnf
  refine ⟨⟨(0, []), ⟨Nat.zero_le _, rfl⟩, ?_⟩, ?_⟩
  · conv => whnf
    repeat' (first | exact trivial | exact rfl | refine And.intro ?_ ?_ | ((conv => whnf); first | exact trivial | exact rfl | refine And.intro ?_ ?_ | omega))
  rintro ⟨i, out⟩ ⟨hi, hout⟩ ρ1 t1 hρ1
  have hi : i ≤ ids.length := hi
  have hout : out = (ids.take i).filter fun id => decide (most < greatF bs.length (allF bs (withoutF ls id)) a b) := hout
  have hol : out.length ≤ ids.length := by rw [hout]; refine Nat.le_trans (List.length_filter_le _ _) ?_; rw [List.length_take]; omega
  dsimp only
  conv => whnf
  refine ⟨fun hc => ?_, fun hc => ?_⟩
  · have hlt : i < ids.length := by simpa using hc
    have hst := filter_take_succ (p := fun id => decide (most < greatF bs.length (allF bs (withoutF ls id)) a b)) hlt
    rw [← hout] at hst
    conv => whnf
    refine ⟨i, rfl, hlt, hlt, ?_⟩
    conv => whnf
    refine call_step (refWithout_t bs ls ids[i] (by omega)) rfl rfl ?_
    conv => whnf
    refine ⟨(by repeat' (first | exact trivial | exact rfl | refine And.intro ?_ ?_ | ((conv => whnf); first | exact trivial | exact rfl | refine And.intro ?_ ?_ | omega))), (by repeat' (first | exact trivial | exact rfl | refine And.intro ?_ ?_ | ((conv => whnf); first | exact trivial | exact rfl | refine And.intro ?_ ?_ | omega))), ?_⟩
    conv => whnf
    have hs2 := withoutF_ok hs ids[i]
    have hl2 := hs2.nl
    refine call_step (greatest_t bs (withoutF ls ids[i]) a b (by omega) hs2.boxB (by omega) (allF_ok hs2) ha hb) rfl rfl ?_
    conv => whnf
    refine ⟨(by repeat' (first | exact trivial | exact rfl | refine And.intro ?_ ?_ | ((conv => whnf); first | exact trivial | exact rfl | refine And.intro ?_ ?_ | omega))), (by repeat' (first | exact trivial | exact rfl | refine And.intro ?_ ?_ | ((conv => whnf); first | exact trivial | exact rfl | refine And.intro ?_ ?_ | omega))), ?_⟩
    conv => whnf
    refine ⟨fun hc => ?_, fun hc => ?_⟩
    · have hg : most < greatF bs.length (allF bs (withoutF ls ids[i])) a b := of_decide_eq_true (show decide (most < greatF bs.length (allF bs (withoutF ls ids[i])) a b) = true from hc)
      rw [if_pos (decide_eq_true hg)] at hst
      conv => whnf
      refine ⟨i, rfl, hlt, hlt, ?_⟩
      conv => whnf
      refine bs_step tB_ok (aInt [ids[i]]) rfl rfl ?_
      conv => whnf
      refine ⟨⟨rfl, rfl, trivial⟩, ?_⟩
      conv => whnf
      refine app_step tB_ok (aInt out) [ids[i]] (fun _ => rfl) rfl rfl rfl rfl ?_
      conv => whnf
      refine ⟨⟨rfl, rfl, Nat.le_refl _, Nat.le_refl _, by show (out.length + 1) * 9 ≤ _; omega⟩, ?_⟩
      conv => whnf
      refine ⟨_, wrapId ⟨by omega, by omega⟩, ?_⟩
      refine ⟨(i + 1, out ++ [ids[i]]), ⟨hlt, hst.symm⟩, by show ids.length - (i + 1) < ids.length - i; omega, ?_⟩
      conv => whnf
      refine ⟨rfl, ?_⟩
      conv => whnf
      repeat' (first | exact trivial | exact rfl | refine And.intro ?_ ?_ | ((conv => whnf); first | exact trivial | exact rfl | refine And.intro ?_ ?_ | omega))
      all_goals first | exact (congrArg aInt app1 : _) | simp
    · have hg : ¬ most < greatF bs.length (allF bs (withoutF ls ids[i])) a b := of_decide_eq_false (show decide (most < greatF bs.length (allF bs (withoutF ls ids[i])) a b) = false from hc)
      rw [if_neg (by simpa using hg), List.append_nil] at hst
      conv => whnf
      refine ⟨_, wrapId ⟨by omega, by omega⟩, ?_⟩
      refine ⟨(i + 1, out), ⟨hlt, hst.symm⟩, by show ids.length - (i + 1) < ids.length - i; omega, ?_⟩
      conv => whnf
      refine ⟨rfl, ?_⟩
      conv => whnf
      repeat' (first | exact trivial | exact rfl | refine And.intro ?_ ?_ | ((conv => whnf); first | exact trivial | exact rfl | refine And.intro ?_ ?_ | omega))
  have hie : i = ids.length := by simp at hc; omega
  rw [hie, List.take_length, ← hF] at hout
  subst hout
  conv => whnf
  repeat' (first | exact trivial | exact rfl | refine And.intro ?_ ?_ | ((conv => whnf); first | exact trivial | exact rfl | refine And.intro ?_ ?_ | omega))

theorem refNeedsErr_t (bs : List (Int × Int)) (ls : List Lnk) (a b : Int) (hp : placeF bs.length a = false ∨ placeF bs.length b = false) :
    Triple Try.prog 24 [sysA bs.length ls.length, iv .i64 a, iv .i64 b] (sysH bs ls) 2 (.tup [.inl (.v (.slice none 0 0)), .inl (.v (.int .i64 1))]) [] := by
  refine triple_of tB_ok Try.func24 rfl Try.call24 rfl ?_
  intro ρ w hH
  conv => whnf
  refine call_step (refPlace_t bs ls a) rfl rfl ?_
  conv => whnf
  refine ⟨(by repeat' (first | exact trivial | exact rfl | refine And.intro ?_ ?_ | ((conv => whnf); first | exact trivial | exact rfl | refine And.intro ?_ ?_ | omega))), (by repeat' (first | exact trivial | exact rfl | refine And.intro ?_ ?_ | ((conv => whnf); first | exact trivial | exact rfl | refine And.intro ?_ ?_ | omega))), ?_⟩
  conv => whnf
  refine ⟨fun hc => ?_, fun hc => ?_⟩
  · conv => whnf
    repeat' (first | exact trivial | exact rfl | refine And.intro ?_ ?_ | ((conv => whnf); first | exact trivial | exact rfl | refine And.intro ?_ ?_ | omega))
  conv => whnf
  refine call_step (refPlace_t bs ls b) rfl rfl ?_
  conv => whnf
  refine ⟨(by repeat' (first | exact trivial | exact rfl | refine And.intro ?_ ?_ | ((conv => whnf); first | exact trivial | exact rfl | refine And.intro ?_ ?_ | omega))), (by repeat' (first | exact trivial | exact rfl | refine And.intro ?_ ?_ | ((conv => whnf); first | exact trivial | exact rfl | refine And.intro ?_ ?_ | omega))), ?_⟩
  conv => whnf
  refine ⟨fun hc => ?_, fun hc => ?_⟩
  · conv => whnf
    repeat' (first | exact trivial | exact rfl | refine And.intro ?_ ?_ | ((conv => whnf); first | exact trivial | exact rfl | refine And.intro ?_ ?_ | omega))
  · simp at *
    simp_all

end Go.Proofs

namespace Go.Proofs
open Go.Sx

theorem ints_t (xs ys : List Int) (hb : xs.length ≤ 1000000) : Triple Try.prog 27 [.c (.s 0 0 xs.length 1), .c (.s 1 0 ys.length 1)] [(0, false, .arr (aInt xs)), (1, false, .arr (aInt ys))] 2 (bv (xs == ys)) [] := by
  refine triple_of tB_ok Try.func27 rfl Try.call27 rfl ?_
  intro ρ w hH
  conv => whnf
  refine ⟨fun h => ?_, fun h => ?_⟩
  · conv => whnf
    refine ⟨(?_ : false = (xs == ys)), trivial⟩
    have : xs ≠ ys := by rintro rfl; simp at h
    simp [this]
  · conv => whnf
    refine loop_step tB_ok (G := Nat) 0 [] (fun i => [(5, iv .i64 i)]) (fun _ => []) (fun i => i ≤ xs.length ∧ xs.take i = ys.take i) (fun i => xs.length - i) ?_
    conv => whnf
    have hl : xs.length = ys.length := by simp at h; omega
    refine ⟨⟨0, ⟨Nat.zero_le _, by simp⟩, ?_⟩, ?_⟩
    · conv => whnf
      exact ⟨⟨rfl, trivial⟩, trivial⟩
    · intro i hi ρ1 t1 hρ1
      conv => whnf
      refine ⟨fun h1 => ?_, fun h1 => ?_⟩
      · conv => whnf
        have h1 : i < xs.length := by simpa using h1
        refine ⟨i, rfl, h1, h1, ?_⟩
        conv => whnf
        refine ⟨i, rfl, by omega, (by omega : i < ys.length), ?_⟩
        conv => whnf
        refine ⟨fun h2 => ?_, fun h2 => ?_⟩
        · conv => whnf
          refine ⟨(?_ : false = (xs == ys)), trivial⟩
          have h2 : (xs[i] != ys[i]'(by omega)) = true := h2
          have : xs ≠ ys := by rintro rfl; simp at h2
          simp [this]
        · have h2 : (xs[i] != ys[i]'(by omega)) = false := h2
          conv => whnf
          refine ⟨_, rfl, ?_⟩
          conv => whnf
          refine ⟨i + 1, ⟨by omega, ?_⟩, (by show xs.length - (i + 1) < xs.length - i; omega), ?_⟩
          · simp at h2
            rw [List.take_succ_eq_append_getElem h1, List.take_succ_eq_append_getElem (by omega), hi.2, h2]
          · conv => whnf
            refine ⟨rfl, ?_⟩
            conv => whnf
            refine ⟨⟨?_, trivial⟩, trivial⟩
            conv => whnf
            exact wrapId ⟨by omega, by omega⟩
      · conv => whnf
        have h1 : ¬ i < xs.length := by simpa using h1
        refine ⟨(?_ : true = (xs == ys)), trivial⟩
        have : xs = ys := by
          have := hi.2
          rwa [List.take_of_length_le (by omega), List.take_of_length_le (by omega)] at this
        simp [this]

end Go.Proofs

