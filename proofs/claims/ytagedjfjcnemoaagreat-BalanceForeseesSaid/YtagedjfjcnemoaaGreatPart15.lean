/-
  A part of the proof that a law answers true: lemmas of a symbolic walk, plain functions, or contracts of the functions walked (Pm24, Pm25, B2, B3, Pm26, Pm27, Pm28, B4, B5, B6, B7, B8, B9, Sx44, Sx31). Conditions: none.
-/
import Derived.Test.YtagedjfjcnemoaaGreatPart14
import Derived.Test.YtagedjfjcnemoaaGreatPart11
import Derived.Test.YtagedjfjcnemoaaGreatPart07
import Derived.WideKeyRuns
set_option maxRecDepth 100000
set_option linter.unusedVariables false
set_option linter.unusedSimpArgs false
/-
  Plain lemmas, part 24: a moment's correction, as the notices say it in whatever order. Conditions: none; definitions and plain lemmas.
-/
namespace Go
namespace Proofs

def BestN (l : List Ntc) (val : Ntc → Int) (v i : Int) : Prop := ∃ n ∈ l, val n = v ∧ n.id = i ∧ ∀ k ∈ l, val k < v ∨ (val k = v ∧ i ≤ k.id)

theorem BestN.unique {l l' : List Ntc} {val : Ntc → Int} {v i v' i' : Int} (hm : ∀ n, n ∈ l ↔ n ∈ l') (h : BestN l val v i) (h' : BestN l' val v' i') : v = v' ∧ i = i' := by
  obtain ⟨n, hn, h1, h2, h3⟩ := h
  obtain ⟨n', hn', h1', h2', h3'⟩ := h'
  have a := h3 n' ((hm n').2 hn')
  have b := h3' n ((hm n).1 hn)
  omega

theorem BestN.one {val : Ntc → Int} (n : Ntc) : BestN [n] val (val n) n.id := ⟨n, by simp, rfl, rfl, fun k hk => by simp at hk; subst hk; exact .inr ⟨rfl, Int.le_refl _⟩⟩

theorem BestN.up {l : List Ntc} {val : Ntc → Int} {v i : Int} {n : Ntc} (h : BestN l val v i) (hn : v < val n ∨ (val n = v ∧ n.id ≤ i)) : BestN (l ++ [n]) val (val n) n.id := by
  obtain ⟨m, hm, h1, h2, h3⟩ := h
  refine ⟨n, by simp, rfl, rfl, fun k hk => ?_⟩
  rcases List.mem_append.1 hk with hk | hk
  · have := h3 k hk; omega
  · simp at hk; subst hk; omega

theorem BestN.stay {l : List Ntc} {val : Ntc → Int} {v i : Int} {n : Ntc} (h : BestN l val v i) (hn : val n < v ∨ (val n = v ∧ i ≤ n.id)) : BestN (l ++ [n]) val v i := by
  obtain ⟨m, hm, h1, h2, h3⟩ := h
  refine ⟨m, by simp [hm], h1, h2, fun k hk => ?_⟩
  rcases List.mem_append.1 hk with hk | hk
  · exact h3 k hk
  · simp at hk; subst hk; exact hn

def hitF (m : Mom) (n : Ntc) : Bool := (n.bal == m.bal) && withinF m.tick n.wlo n.whi

structure SidOK (l : List Ntc) (lo0 hi0 : Int) (s : Sid) : Prop where
  none : l = [] → s = ⟨lo0, hi0, 0, 0, false⟩
  some : l ≠ [] → s.some = true ∧ BestN l Ntc.slo s.lo s.loI ∧ BestN l (fun n => -n.shi) (-s.hi) s.hiI

def sideStepR (m : Mom) (s : Sid) (n : Ntc) : Sid :=
  bif hitF m n then
    { lo := bif !s.some || (decide (s.lo < n.slo) || (n.slo == s.lo && decide (n.id < s.loI))) then n.slo else s.lo
      loI := bif !s.some || (decide (s.lo < n.slo) || (n.slo == s.lo && decide (n.id < s.loI))) then n.id else s.loI
      hi := bif !s.some || (decide (n.shi < s.hi) || (n.shi == s.hi && decide (n.id < s.hiI))) then n.shi else s.hi
      hiI := bif !s.some || (decide (n.shi < s.hi) || (n.shi == s.hi && decide (n.id < s.hiI))) then n.id else s.hiI
      some := true }
  else s

theorem sidR_step {m : Mom} {l : List Ntc} {lo0 hi0 : Int} {s : Sid} {n : Ntc} (h : SidOK (l.filter (hitF m)) lo0 hi0 s) : SidOK ((l ++ [n]).filter (hitF m)) lo0 hi0 (sideStepR m s n) := by
  rw [List.filter_append]
  unfold sideStepR
  cases hn : hitF m n with
  | false =>
    simp only [List.filter_cons, hn, Bool.false_eq_true, if_false, List.filter_nil, List.append_nil, cond_false]
    exact h
  | true =>
    simp only [List.filter_cons, hn, if_true, List.filter_nil, cond_true]
    refine ⟨fun h0 => by simp at h0, fun _ => ⟨rfl, ?_⟩⟩
    by_cases hl : l.filter (hitF m) = []
    · have := h.none hl
      subst this
      rw [hl]
      exact ⟨BestN.one n, BestN.one (val := fun n => -n.shi) n⟩
    · obtain ⟨h1, h2, h3⟩ := h.some hl
      rw [h1]
      simp only [Bool.not_true, Bool.false_or]
      refine ⟨?_, ?_⟩
      · cases hc : (decide (s.lo < n.slo) || (n.slo == s.lo && decide (n.id < s.loI))) with
        | true => simp only [cond_true]; exact h2.up (by simp at hc; omega)
        | false => simp only [cond_false]; exact h2.stay (by simp at hc; omega)
      · cases hc : (decide (n.shi < s.hi) || (n.shi == s.hi && decide (n.id < s.hiI))) with
        | true => simp only [cond_true]; exact h3.up (n := n) (by simp at hc; omega)
        | false => simp only [cond_false]; exact h3.stay (n := n) (by simp at hc; omega)

theorem sidP_step {m : Mom} {l : List Ntc} {lo0 hi0 : Int} {s : Sid} {n : Ntc} (h : SidOK (l.filter (hitF m)) lo0 hi0 s) (hid : ∀ k ∈ l, k.id ≤ n.id) : SidOK ((l ++ [n]).filter (hitF m)) lo0 hi0 (sideStep m s n) := by
  rw [List.filter_append]
  have hst : sideStep m s n = bif hitF m n then
    { lo := bif !s.some || decide (s.lo < n.slo) then n.slo else s.lo
      loI := bif !s.some || decide (s.lo < n.slo) then n.id else s.loI
      hi := bif !s.some || decide (n.shi < s.hi) then n.shi else s.hi
      hiI := bif !s.some || decide (n.shi < s.hi) then n.id else s.hiI
      some := true } else s := rfl
  rw [hst]
  cases hn : hitF m n with
  | false =>
    simp only [List.filter_cons, hn, Bool.false_eq_true, if_false, List.filter_nil, List.append_nil, cond_false]
    exact h
  | true =>
    simp only [List.filter_cons, hn, if_true, List.filter_nil, cond_true]
    refine ⟨fun h0 => by simp at h0, fun _ => ⟨rfl, ?_⟩⟩
    by_cases hl : l.filter (hitF m) = []
    · have := h.none hl
      subst this
      rw [hl]
      exact ⟨BestN.one n, BestN.one (val := fun n => -n.shi) n⟩
    · obtain ⟨h1, h2, h3⟩ := h.some hl
      have e2 : s.loI ≤ n.id := by obtain ⟨k, hk, _, e, _⟩ := h2; rw [← e]; exact hid k (List.mem_filter.1 hk).1
      have e3 : s.hiI ≤ n.id := by obtain ⟨k, hk, _, e, _⟩ := h3; rw [← e]; exact hid k (List.mem_filter.1 hk).1
      rw [h1]
      simp only [Bool.not_true, Bool.false_or]
      refine ⟨?_, ?_⟩
      · cases hc : decide (s.lo < n.slo) with
        | true => simp only [cond_true]; exact h2.up (by simp at hc; omega)
        | false => simp only [cond_false]; exact h2.stay (by simp at hc; omega)
      · cases hc : decide (n.shi < s.hi) with
        | true => simp only [cond_true]; exact h3.up (n := n) (by simp at hc; omega)
        | false => simp only [cond_false]; exact h3.stay (n := n) (by simp at hc; omega)

theorem sidR_all (m : Mom) (lo0 hi0 : Int) : ∀ (q l : List Ntc) (s : Sid), SidOK (l.filter (hitF m)) lo0 hi0 s → SidOK ((l ++ q).filter (hitF m)) lo0 hi0 (q.foldl (sideStepR m) s)
  | [], l, s, h => by simpa using h
  | n :: q, l, s, h => by
    have := sidR_all m lo0 hi0 q (l ++ [n]) _ (sidR_step h)
    simpa using this

theorem sidP_all (m : Mom) (lo0 hi0 : Int) : ∀ (q l : List Ntc) (s : Sid), (l ++ q).Pairwise (fun a b => a.id ≤ b.id) → SidOK (l.filter (hitF m)) lo0 hi0 s → SidOK ((l ++ q).filter (hitF m)) lo0 hi0 (q.foldl (sideStep m) s)
  | [], l, s, _, h => by simpa using h
  | n :: q, l, s, hp, h => by
    have hid : ∀ k ∈ l, k.id ≤ n.id := fun k hk => (List.pairwise_append.1 hp).2.2 k hk n (by simp)
    have := sidP_all m lo0 hi0 q (l ++ [n]) _ (by simpa using hp) (sidP_step h hid)
    simpa using this

theorem SidOK.unique {l l' : List Ntc} {lo0 hi0 : Int} {s s' : Sid} (hm : ∀ n, n ∈ l ↔ n ∈ l') (h : SidOK l lo0 hi0 s) (h' : SidOK l' lo0 hi0 s') : s = s' := by
  by_cases hl : l = []
  · have hl' : l' = [] := by
      subst hl
      exact List.eq_nil_iff_forall_not_mem.2 fun n hn => by have := (hm n).2 hn; simp at this
    rw [h.none hl, h'.none hl']
  · have hl' : l' ≠ [] := by
      rintro rfl
      exact hl (List.eq_nil_iff_forall_not_mem.2 fun n hn => by have := (hm n).1 hn; simp at this)
    obtain ⟨a1, a2, a3⟩ := h.some hl
    obtain ⟨b1, b2, b3⟩ := h'.some hl'
    obtain ⟨c1, c2⟩ := a2.unique hm b2
    obtain ⟨d1, d2⟩ := a3.unique hm b3
    cases s; cases s'
    simp only [Sid.mk.injEq] at *
    exact ⟨c1, by omega, c2, d2, a1.trans b1.symm⟩

theorem side_eq (r : Rd) (m : Mom) : r.ns.foldl (sideStepR m) ⟨(findD r.bs m.bal).lo, (findD r.bs m.bal).hi, 0, 0, false⟩ = sideF r m := by
  have h1 := sidR_all m (findD r.bs m.bal).lo (findD r.bs m.bal).hi r.ns [] _ ⟨fun _ => rfl, fun h => absurd rfl h⟩
  have h2 := sidP_all m (findD r.bs m.bal).lo (findD r.bs m.bal).hi (sortK Ntc.id r.ns) [] _ (by rw [List.nil_append]; exact sortK_le _ _) ⟨fun _ => rfl, fun h => absurd rfl h⟩
  refine h1.unique (fun n => ?_) h2
  simp only [List.nil_append, List.mem_filter, (sortK_perm Ntc.id r.ns).mem_iff]

end Proofs
end Go

/-
  Plain lemmas, part 25: picking the next greater number again and again sorts. Conditions: none; definitions and plain lemmas.
-/
namespace Go
namespace Proofs

def lastK {α : Type} (key : α → Int) (l : List α) : Nat → Int
  | 0 => 0
  | k + 1 => match (sortK key l)[k]? with
    | some x => key x
    | none => 0

theorem lastK_succ {α : Type} {key : α → Int} {l : List α} {k : Nat} {x : α} (h : (sortK key l)[k]? = some x) : lastK key l (k + 1) = key x := by
  simp only [lastK, h]

theorem lastK_lt {α : Type} {key : α → Int} {l : List α} (hd : (l.map key).Nodup) (hp : ∀ x ∈ l, 0 < key x) {k j : Nat} {y : α} (hk : k ≤ l.length) (hy : (sortK key l)[j]? = some y) : lastK key l k < key y ↔ k ≤ j := by
  have hinc := sortK_inc hd
  have hym : y ∈ l := (sortK_perm key l).mem_iff.1 (List.mem_of_getElem? hy)
  cases k with
  | zero => simp only [lastK]; exact ⟨fun _ => Nat.zero_le _, fun _ => hp y hym⟩
  | succ k =>
    have hk' : k < (sortK key l).length := by rw [sortK_len]; omega
    have hx : (sortK key l)[k]? = some (sortK key l)[k] := List.getElem?_eq_getElem hk'
    rw [lastK_succ hx]
    constructor
    · intro h
      refine Nat.lt_of_not_le fun hle => ?_
      rcases Nat.lt_or_eq_of_le hle with hlt | rfl
      · have := inc_get hinc hlt hy hx
        simp [idLt] at this; omega
      · rw [hx] at hy
        have := Option.some.inj hy
        rw [this] at h; omega
    · intro h
      have := inc_get hinc (show k < j by omega) hx hy
      simpa [idLt] using this

theorem pick_next {α : Type} {key : α → Int} {l : List α} (hd : (l.map key).Nodup) (hp : ∀ x ∈ l, 0 < key x) {k : Nat} (hk : k < l.length) {x : α} (hx : x ∈ l) (h1 : lastK key l k < key x) (h2 : ∀ y ∈ l, lastK key l k < key y → key x ≤ key y) :
    (sortK key l)[k]? = some x := by
  have hk' : k < (sortK key l).length := by rw [sortK_len]; exact hk
  have hy : (sortK key l)[k]? = some (sortK key l)[k] := List.getElem?_eq_getElem hk'
  have hym : (sortK key l)[k] ∈ l := (sortK_perm key l).mem_iff.1 (List.getElem_mem hk')
  have h3 := h2 _ hym ((lastK_lt hd hp (Nat.le_of_lt hk) hy).2 (Nat.le_refl _))
  obtain ⟨j, hj⟩ := List.mem_iff_getElem?.1 ((sortK_perm key l).mem_iff.2 hx)
  have h4 := (lastK_lt hd hp (Nat.le_of_lt hk) hj).1 h1
  rcases Nat.lt_or_eq_of_le h4 with hlt | rfl
  · have := inc_get (sortK_inc hd) hlt hy hj
    simp [idLt] at this; omega
  · exact hj

theorem pick_some {α : Type} {key : α → Int} {l : List α} (hd : (l.map key).Nodup) (hp : ∀ x ∈ l, 0 < key x) {k : Nat} (hk : k < l.length) : ∃ x ∈ l, lastK key l k < key x := by
  have hk' : k < (sortK key l).length := by rw [sortK_len]; exact hk
  exact ⟨_, (sortK_perm key l).mem_iff.1 (List.getElem_mem hk'), (lastK_lt hd hp (Nat.le_of_lt hk) (List.getElem?_eq_getElem hk')).2 (Nat.le_refl _)⟩

def Found {α : Type} (key : α → Int) (l : List α) (last : Int) (i : Nat) (best : Int) : Prop :=
  (best = -1 ∧ ∀ x ∈ l.take i, ¬ last < key x) ∨ (∃ (j : Nat) (x : α), best = j ∧ j < i ∧ l[j]? = some x ∧ last < key x ∧ ∀ y ∈ l.take i, last < key y → key x ≤ key y)

theorem found_zero {α : Type} (key : α → Int) (l : List α) (last : Int) : Found key l last 0 (-1) := .inl ⟨rfl, fun x hx => by simp at hx⟩

theorem take_succ_mem {α : Type} {l : List α} {i : Nat} (h : i < l.length) {x : α} : x ∈ l.take (i + 1) ↔ x ∈ l.take i ∨ x = l[i] := by
  rw [List.take_add_one, List.getElem?_eq_getElem h, List.mem_append]
  show _ ∨ x ∈ [l[i]] ↔ _
  rw [List.mem_singleton]

theorem found_take {α : Type} {key : α → Int} {l : List α} {last : Int} {i : Nat} {best : Int} (h : i < l.length) (hf : Found key l last i best) (h1 : last < key l[i]) (h2 : best < 0 ∨ ∃ x, l[best.toNat]? = some x ∧ key l[i] < key x) : Found key l last (i + 1) i := by
  refine .inr ⟨i, l[i], rfl, Nat.lt_succ_self i, List.getElem?_eq_getElem h, h1, fun y hy hl => ?_⟩
  rcases (take_succ_mem h).1 hy with hy | rfl
  · rcases hf with ⟨_, hn⟩ | ⟨j, x, rfl, hj, hx, hlx, hmin⟩
    · exact absurd hl (hn y hy)
    · rcases h2 with h2 | ⟨x', hx', hlt⟩
      · omega
      · simp at hx'
        rw [hx] at hx'
        cases hx'
        have := hmin y hy hl; omega
  · exact Int.le_refl _

theorem found_keep {α : Type} {key : α → Int} {l : List α} {last : Int} {i : Nat} {best : Int} (h : i < l.length) (hf : Found key l last i best) (h1 : ¬ last < key l[i] ∨ ∃ x, 0 ≤ best ∧ l[best.toNat]? = some x ∧ ¬ key l[i] < key x) : Found key l last (i + 1) best := by
  rcases hf with ⟨rfl, hn⟩ | ⟨j, x, rfl, hj, hx, hlx, hmin⟩
  · refine .inl ⟨rfl, fun y hy => ?_⟩
    rcases (take_succ_mem h).1 hy with hy | rfl
    · exact hn y hy
    · rcases h1 with h1 | ⟨_, h0, _⟩
      · exact h1
      · omega
  · refine .inr ⟨j, x, rfl, by omega, hx, hlx, fun y hy hl => ?_⟩
    rcases (take_succ_mem h).1 hy with hy | rfl
    · exact hmin y hy hl
    · rcases h1 with h1 | ⟨x', _, hx', hle⟩
      · exact absurd hl h1
      · simp at hx'
        rw [hx] at hx'
        cases hx'
        omega

theorem found_all {α : Type} {key : α → Int} {l : List α} (hd : (l.map key).Nodup) (hp : ∀ x ∈ l, 0 < key x) {k : Nat} (hk : k < l.length) {best : Int} (hf : Found key l (lastK key l k) l.length best) :
    ∃ (j : Nat) (x : α), best = j ∧ l[j]? = some x ∧ (sortK key l)[k]? = some x := by
  rcases hf with ⟨_, hn⟩ | ⟨j, x, rfl, _, hx, hlx, hmin⟩
  · obtain ⟨x, hx, hl⟩ := pick_some hd hp hk
    exact absurd hl (hn x (by rw [List.take_length]; exact hx))
  · exact ⟨j, x, rfl, hx, pick_next hd hp hk (List.mem_of_getElem? hx) hlx fun y hy => hmin y (by rw [List.take_length]; exact hy)⟩

end Proofs
end Go

namespace Go.Proofs
open Go.Sx

structure Sem (r : Rd) (os : List Thg) (ms : List Mom) (x : Thg → Int) (c : Mom → Int) : Prop where
  obj : ∀ o ∈ os, 0 ≤ x o ∧ x o ≤ capF r o
  mom : ∀ m ∈ ms, -1000000 ≤ c m ∧ c m ≤ 1000000
  sid : ∀ m ∈ ms, (sideF r m).lo ≤ c m ∧ c m ≤ (sideF r m).hi
  wgh : ∀ w ∈ r.ws, x w.o - c (wMom w) ≤ w.shown + (findD r.bs w.bal).half ∧ c (wMom w) - x w.o ≤ (findD r.bs w.bal).half - w.shown
  chk : ∀ k ∈ r.cs, c (cMom k) ≤ k.mass - k.shown + (findD r.bs k.bal).half ∧ -c (cMom k) ≤ k.shown + (findD r.bs k.bal).half - k.mass
  drf : ∀ a ∈ ms, ∀ b ∈ ms, a.bal = b.bal → a.tick < b.tick → c b - c a ≤ (findD r.bs a.bal).dr * (b.tick - a.tick) ∧ c a - c b ≤ (findD r.bs a.bal).dr * (b.tick - a.tick)
  cvr : ∀ o ∈ os, ∀ q ∈ os, (o.st = 2 ∧ q = { o with st := 1 } ∨ o.st = 4 ∧ q = { o with st := 3 }) → x o ≤ x q

theorem rd_sys {r : Rd} (h : RdOK r) {more : List Mom} (hl : more.length ≤ 2) (hm : ∀ m ∈ more, momOK r m = true) : SysOK (boxR r more) (lnkR r more) := by
  obtain ⟨h1, h2⟩ := rdR_len h hl
  exact ⟨h1, h2, boxR_ok h more, lnkR_proper h hm⟩

theorem rd_few {r : Rd} {more : List Mom} (hm : more.length ≤ 2) (hf : r.cs.length + r.ns.length + r.ws.length ≤ 24) : FewS (boxR r more) (lnkR r more) := by
  obtain ⟨h1, h2⟩ := rdR_few hm hf
  exact ⟨by omega, h2⟩

theorem drf_all {bs : List Bal} {ms : List Mom} {c : Mom → Int} (hi : Inc momLt ms)
    (h : ∀ (j : Nat) (a b : Mom), ms[j]? = some a → ms[j + 1]? = some b → a.bal = b.bal → c b - c a ≤ (findD bs a.bal).dr * (b.tick - a.tick) ∧ c a - c b ≤ (findD bs a.bal).dr * (b.tick - a.tick)) :
    ∀ (d i : Nat) (a b : Mom), ms[i]? = some a → ms[i + 1 + d]? = some b → a.bal = b.bal → c b - c a ≤ (findD bs a.bal).dr * (b.tick - a.tick) ∧ c a - c b ≤ (findD bs a.bal).dr * (b.tick - a.tick)
  | 0, i, a, b, ha, hb, hab => h i a b ha hb hab
  | d + 1, i, a, b, ha, hb, hab => by
    have hlt : i + 1 + d < ms.length := by have := (List.getElem?_eq_some_iff.1 hb).1; omega
    obtain ⟨k, hk⟩ : ∃ k, ms[i + 1 + d]? = some k := ⟨_, List.getElem?_eq_getElem hlt⟩
    have h1 := inc_get hi (show i < i + 1 + d by omega) ha hk
    have h2 := inc_get hi (show i + 1 + d < i + 1 + (d + 1) by omega) hk hb
    simp [momLt] at h1 h2
    have hak : a.bal = k.bal := by omega
    have hkb : k.bal = b.bal := by omega
    obtain ⟨p1, p2⟩ := drf_all hi h d i a k ha hk hak
    obtain ⟨q1, q2⟩ := h (i + 1 + d) k b hk hb hkb
    rw [← hak] at q1 q2
    have e : (findD bs a.bal).dr * (b.tick - a.tick) = (findD bs a.bal).dr * (k.tick - a.tick) + (findD bs a.bal).dr * (b.tick - k.tick) := by
      rw [← Int.mul_add]; congr 1; omega
    omega

theorem drfLs_of {bs : List Bal} {k : Nat} {a b : Mom} : ∀ {ms : List Mom} {i j : Nat}, ms[j]? = some a → ms[j + 1]? = some b → a.bal = b.bal →
    (⟨k + ((i + j : Nat) : Int), k + ((i + j : Nat) : Int) + 1, min ((findD bs a.bal).dr * (b.tick - a.tick)) 2000000, 0⟩ : Lnk) ∈ drfLs bs k i ms ∧ (⟨k + ((i + j : Nat) : Int) + 1, k + ((i + j : Nat) : Int), min ((findD bs a.bal).dr * (b.tick - a.tick)) 2000000, 0⟩ : Lnk) ∈ drfLs bs k i ms
  | [], _, _, h, _, _ => by simp at h
  | [_], _, j, _, h, _ => by simp at h
  | x :: y :: r, i, 0, h1, h2, hab => by
    simp at h1 h2
    subst h1 h2
    unfold drfLs
    have hb : (x.bal == y.bal) = true := by simpa using hab
    rw [hb]
    simp
  | x :: y :: r, i, j + 1, h1, h2, hab => by
    unfold drfLs
    have := drfLs_of (bs := bs) (k := k) (ms := y :: r) (i := i + 1) (j := j) (by simpa using h1) (by simpa using h2) hab
    rw [show i + (j + 1) = i + 1 + j by omega]
    exact ⟨List.mem_append.2 (.inr this.1), List.mem_append.2 (.inr this.2)⟩

theorem pnt_sem {r : Rd} (h : RdOK r) {more : List Mom} (hm : ∀ m ∈ more, momOK r m = true) {p : List Int} :
    Pnt (boxR r more) (lnkR r more) p ↔ p.length = (objsF r).length + (momsF r more).length ∧
      Sem r (objsF r) (momsF r more) (fun o => atF p (plF (objsF r) o)) (fun m => atF p ((objsF r).length + plF (momsF r more) m)) := by
  have hwO : ∀ w ∈ r.ws, w.o ∈ objsF r := fun w hw => objsF_mem.2 ⟨w, hw, rfl⟩
  have hwM : ∀ w ∈ r.ws, wMom w ∈ momsF r more := fun w hw => momsF_mem.2 (.inl ⟨w, hw, rfl⟩)
  have hcM : ∀ c ∈ r.cs, cMom c ∈ momsF r more := fun c hc => momsF_mem.2 (.inr (.inl ⟨c, hc, rfl⟩))
  have hoN : (objsF r).Nodup := (distS_inc thgLt_ok _).nodup thgLt_ok.irr
  have hmI : Inc momLt (momsF r more) := distS_inc momLt_ok _
  have hmN : (momsF r more).Nodup := hmI.nodup momLt_ok.irr
  have hbl := boxR_len r more
  have hlk : lnkR r more = linksR r (objsF r) (momsF r more) := rfl
  have hbx : boxR r more = boxesR r (objsF r) (momsF r more) := rfl
  generalize objsF r = os at *
  generalize momsF r more = ms at *
  have neg1 : atF p (-1) = 0 := rfl
  have hobj : ∀ o ∈ os, ∃ i : Nat, os[i]? = some o ∧ plF os o = i ∧ i < os.length ∧ atF p (plF os o) = p.getD i 0 := by
    intro o ho
    obtain ⟨e, l⟩ := plF_mem ho
    refine ⟨_, plF_get e, e, l, ?_⟩
    rw [e]; unfold atF; rw [if_neg (by omega), Int.toNat_natCast]
  have hmom : ∀ m ∈ ms, ∃ i : Nat, ms[i]? = some m ∧ plF ms m = i ∧ i < ms.length ∧ atF p (os.length + plF ms m) = p.getD (os.length + i) 0 := by
    intro m hm
    obtain ⟨e, l⟩ := plF_mem hm
    refine ⟨_, plF_get e, e, l, ?_⟩
    rw [e]; unfold atF; rw [if_neg (by omega)]; congr 1
  constructor
  · rintro ⟨h1, h2, h3⟩
    rw [hbl] at h1
    rw [hlk] at h3
    unfold linksR at h3
    refine ⟨h1, ?_⟩
    have hD : ∀ (j : Nat) (a b : Mom), ms[j]? = some a → ms[j + 1]? = some b → a.bal = b.bal → atF p (os.length + plF ms b) - atF p (os.length + plF ms a) ≤ (findD r.bs a.bal).dr * (b.tick - a.tick) ∧ atF p (os.length + plF ms a) - atF p (os.length + plF ms b) ≤ (findD r.bs a.bal).dr * (b.tick - a.tick) := by
      intro j a b ha hb hab
      obtain ⟨d1, d2⟩ := drfLs_of (bs := r.bs) (k := os.length) (i := 0) ha hb hab
      have k1 := h3 _ (List.mem_append.2 (.inr (List.mem_append.2 (.inr (List.mem_append.2 (.inr (List.mem_append.2 (.inl d1))))))))
      have k2 := h3 _ (List.mem_append.2 (.inr (List.mem_append.2 (.inr (List.mem_append.2 (.inr (List.mem_append.2 (.inl d2))))))))
      rw [Nat.zero_add] at k1 k2
      rw [plF_at hmN ha, plF_at hmN hb]
      try dsimp only at k1 k2
      rw [show (os.length : Int) + ((j + 1 : Nat) : Int) = os.length + (j : Int) + 1 by omega]
      omega
    refine ⟨?_, ?_, ?_, ?_, ?_, ?_, ?_⟩
    · intro o ho
      obtain ⟨i, a1, a2, a3, a4⟩ := hobj o ho
      have := h2 i (0, capF r o) (by
        rw [hbx]; unfold boxesR
        rw [List.getElem?_append_left (by rw [List.length_map]; exact a3), List.getElem?_map, a1]; rfl)
      try dsimp only at this ⊢
      rw [a4]; exact this
    · intro m hm'
      obtain ⟨i, a1, a2, a3, a4⟩ := hmom m hm'
      have := h2 (os.length + i) (-1000000, 1000000) (by
        rw [hbx]; unfold boxesR
        rw [List.getElem?_append_right (by rw [List.length_map]; omega), List.length_map, Nat.add_sub_cancel_left, List.getElem?_map, a1]; rfl)
      try dsimp only at this ⊢
      rw [a4]; exact this
    · intro m hm'
      have k1 := h3 ⟨-1, os.length + plF ms m, (sideF r m).hi, (sideF r m).hiI⟩ (List.mem_append.2 (.inr (List.mem_append.2 (.inr (List.mem_append.2 (.inl (List.mem_flatMap.2 ⟨m, hm', by simp [momLs]⟩)))))))
      have k2 := h3 ⟨os.length + plF ms m, -1, -(sideF r m).lo, (sideF r m).loI⟩ (List.mem_append.2 (.inr (List.mem_append.2 (.inr (List.mem_append.2 (.inl (List.mem_flatMap.2 ⟨m, hm', by simp [momLs]⟩)))))))
      simp only [neg1] at k1 k2
      try dsimp only
      omega
    · intro w hw
      have hw' := (sortK_perm Wgh.id r.ws).mem_iff.2 hw
      have k1 := h3 ⟨os.length + plF ms (wMom w), plF os w.o, w.shown + (findD r.bs w.bal).half, w.id⟩ (List.mem_append.2 (.inl (List.mem_flatMap.2 ⟨w, hw', by simp [wghLs]⟩)))
      have k2 := h3 ⟨plF os w.o, os.length + plF ms (wMom w), (findD r.bs w.bal).half - w.shown, w.id⟩ (List.mem_append.2 (.inl (List.mem_flatMap.2 ⟨w, hw', by simp [wghLs]⟩)))
      exact ⟨k1, k2⟩
    · intro k hk
      have hk' := (sortK_perm Chk.id r.cs).mem_iff.2 hk
      have k1 := h3 ⟨-1, os.length + plF ms (cMom k), k.mass - k.shown + (findD r.bs k.bal).half, k.id⟩ (List.mem_append.2 (.inr (List.mem_append.2 (.inl (List.mem_flatMap.2 ⟨k, hk', by simp [chkLs]⟩)))))
      have k2 := h3 ⟨os.length + plF ms (cMom k), -1, k.shown + (findD r.bs k.bal).half - k.mass, k.id⟩ (List.mem_append.2 (.inr (List.mem_append.2 (.inl (List.mem_flatMap.2 ⟨k, hk', by simp [chkLs]⟩)))))
      simp only [neg1] at k1 k2
      try dsimp only
      omega
    · intro a ha b hb hab ht
      obtain ⟨i, a1, _, _, _⟩ := hmom a ha
      obtain ⟨j, b1, _, _, _⟩ := hmom b hb
      have hij : i < j := by
        rcases Nat.lt_trichotomy i j with hlt | rfl | hlt
        · exact hlt
        · rw [a1] at b1; cases b1; omega
        · have := inc_get hmI hlt b1 a1
          simp [momLt] at this; omega
      have := drf_all (bs := r.bs) (c := fun m => atF p (os.length + plF ms m)) hmI hD (j - (i + 1)) i a b a1 (by rw [show i + 1 + (j - (i + 1)) = j by omega]; exact b1) hab
      exact this
    · intro o ho q hq hoq
      rcases hoq with ⟨hs, rfl⟩ | ⟨hs, rfl⟩
      · have k1 := h3 ⟨plF os { o with st := 1 }, plF os o, 0, 0⟩ (List.mem_append.2 (.inr (List.mem_append.2 (.inr (List.mem_append.2 (.inr (List.mem_append.2 (.inr (List.mem_append.2 (.inl (List.mem_flatMap.2 ⟨o, ho, by
          have : (o.st == 2 && os.contains { o with st := 1 }) = true := by simp [hs, hq]
          unfold cvrLs; rw [this]; simp⟩)))))))))))
        try dsimp only at k1 ⊢
        omega
      · have k1 := h3 ⟨plF os { o with st := 3 }, plF os o, 0, 0⟩ (List.mem_append.2 (.inr (List.mem_append.2 (.inr (List.mem_append.2 (.inr (List.mem_append.2 (.inr (List.mem_append.2 (.inr (List.mem_flatMap.2 ⟨o, ho, by
          have : (o.st == 4 && os.contains { o with st := 3 }) = true := by simp [hs, hq]
          unfold cvrLs; rw [this]; simp⟩)))))))))))
        try dsimp only at k1 ⊢
        omega
  · rintro ⟨h1, hS⟩
    refine ⟨by rw [hbl]; exact h1, ?_, ?_⟩
    · intro v b hb
      rw [hbx] at hb
      unfold boxesR at hb
      by_cases hv : v < os.length
      · rw [List.getElem?_append_left (by rw [List.length_map]; exact hv), List.getElem?_map, List.getElem?_eq_getElem hv] at hb
        cases hb
        have := hS.obj os[v] (List.getElem_mem hv)
        have e := plF_at hoN (List.getElem?_eq_getElem hv)
        simp only [e] at this
        unfold atF at this
        rw [if_neg (by omega), Int.toNat_natCast] at this
        exact this
      · rw [List.getElem?_append_right (by rw [List.length_map]; omega), List.length_map, List.getElem?_map] at hb
        obtain ⟨m, hm1, hm2⟩ := Option.map_eq_some_iff.1 hb
        subst hm2
        obtain ⟨hlt, rfl⟩ := List.getElem?_eq_some_iff.1 hm1
        have := hS.mom _ (List.getElem_mem hlt)
        have e := plF_at hmN hm1
        simp only [e] at this
        unfold atF at this
        rw [if_neg (by omega), show ((os.length : Int) + ((v - os.length : Nat) : Int)).toNat = v by omega] at this
        exact this
    · intro l hl
      rw [hlk] at hl
      unfold linksR at hl
      simp only [List.mem_append, List.mem_flatMap] at hl
      rcases hl with ⟨w, hw, hl⟩ | ⟨c, hc, hl⟩ | ⟨m, hmm, hl⟩ | hl | ⟨o, ho, hl⟩ | ⟨o, ho, hl⟩
      · have hw := (sortK_perm Wgh.id r.ws).mem_iff.1 hw
        have := hS.wgh w hw
        simp only [wghLs, List.mem_cons, List.not_mem_nil, or_false] at hl
        rcases hl with rfl | rfl
        · exact this.1
        · exact this.2
      · have hc := (sortK_perm Chk.id r.cs).mem_iff.1 hc
        have := hS.chk c hc
        simp only [chkLs, List.mem_cons, List.not_mem_nil, or_false] at hl
        rcases hl with rfl | rfl
        · simp only [neg1]
          try dsimp only at this
          omega
        · simp only [neg1]
          try dsimp only at this
          omega
      · have := hS.sid m hmm
        simp only [momLs, List.mem_cons, List.not_mem_nil, or_false] at hl
        rcases hl with rfl | rfl
        · simp only [neg1]
          try dsimp only at this
          omega
        · simp only [neg1]
          try dsimp only at this
          omega
      · obtain ⟨j, a, b, ha, hb, hab, hl⟩ := drfLs_mem hl
        have hlt := inc_get hmI (Nat.lt_succ_self j) ha hb
        simp [momLt] at hlt
        have am := List.mem_of_getElem? ha
        have bm := List.mem_of_getElem? hb
        have d := hS.drf a am b bm hab (by omega)
        have m1 := hS.mom a am
        have m2 := hS.mom b bm
        have ea := plF_at hmN ha
        have eb := plF_at hmN hb
        simp only [ea, eb] at d m1 m2
        rw [show (os.length : Int) + ((j + 1 : Nat) : Int) = os.length + (j : Int) + 1 by omega] at d m2
        rw [Nat.zero_add] at hl
        generalize (findD r.bs a.bal).dr * (b.tick - a.tick) = z at *
        rcases hl with rfl | rfl
        · dsimp only
          omega
        · dsimp only
          omega
      · unfold cvrLs at hl
        cases hc : (o.st == 2 && os.contains { o with st := 1 }) with
        | false => rw [hc] at hl; cases hl
        | true =>
          rw [hc] at hl
          simp only [cond_true, List.mem_cons, List.not_mem_nil, or_false] at hl
          subst hl
          simp only [Bool.and_eq_true, beq_iff_eq, List.contains_iff_mem] at hc
          have := hS.cvr o ho _ hc.2 (.inl ⟨hc.1, rfl⟩)
          try dsimp only at this ⊢
          omega
      · unfold cvrLs at hl
        cases hc : (o.st == 4 && os.contains { o with st := 3 }) with
        | false => rw [hc] at hl; cases hl
        | true =>
          rw [hc] at hl
          simp only [cond_true, List.mem_cons, List.not_mem_nil, or_false] at hl
          subst hl
          simp only [Bool.and_eq_true, beq_iff_eq, List.contains_iff_mem] at hc
          have := hS.cvr o ho _ hc.2 (.inr ⟨hc.1, rfl⟩)
          try dsimp only at this ⊢
          omega

end Go.Proofs

namespace Go.Proofs
open Go.Sx

abbrev SemR (r : Rd) (more : List Mom) (x : Thg → Int) (c : Mom → Int) : Prop := Sem r (objsF r) (momsF r more) x c

theorem Sem.congr {r : Rd} {more : List Mom} {x x' : Thg → Int} {c c' : Mom → Int} (h : SemR r more x c) (hx : ∀ o ∈ objsF r, x' o = x o) (hc : ∀ m ∈ momsF r more, c' m = c m) : SemR r more x' c' where
  obj o ho := by rw [hx o ho]; exact h.obj o ho
  mom m hm := by rw [hc m hm]; exact h.mom m hm
  sid m hm := by rw [hc m hm]; exact h.sid m hm
  wgh w hw := by
    rw [hx _ (objsF_mem.2 ⟨w, hw, rfl⟩), hc _ (momsF_mem.2 (.inl ⟨w, hw, rfl⟩))]; exact h.wgh w hw
  chk k hk := by rw [hc _ (momsF_mem.2 (.inr (.inl ⟨k, hk, rfl⟩)))]; exact h.chk k hk
  drf a ha b hb hab ht := by rw [hc a ha, hc b hb]; exact h.drf a ha b hb hab ht
  cvr o ho q hq hoq := by rw [hx o ho, hx q hq]; exact h.cvr o ho q hq hoq

theorem objsF_nodup (r : Rd) : (objsF r).Nodup := (distS_inc thgLt_ok _).nodup thgLt_ok.irr
theorem momsF_nodup (r : Rd) (more : List Mom) : (momsF r more).Nodup := (distS_inc momLt_ok _).nodup momLt_ok.irr

def pntF (r : Rd) (more : List Mom) (x : Thg → Int) (c : Mom → Int) : List Int := (objsF r).map x ++ (momsF r more).map c

theorem pntF_len (r : Rd) (more : List Mom) (x : Thg → Int) (c : Mom → Int) : (pntF r more x c).length = (objsF r).length + (momsF r more).length := by simp [pntF]

theorem pntF_obj {r : Rd} {more : List Mom} {x : Thg → Int} {c : Mom → Int} {o : Thg} (ho : o ∈ objsF r) : atF (pntF r more x c) (plF (objsF r) o) = x o := by
  obtain ⟨e, l⟩ := plF_mem ho
  have g := plF_get e
  rw [e]; unfold atF pntF
  rw [if_neg (by omega), Int.toNat_natCast, List.getD_eq_getElem?_getD, List.getElem?_append_left (by rw [List.length_map]; exact l), List.getElem?_map, g]; rfl

theorem pntF_mom {r : Rd} {more : List Mom} {x : Thg → Int} {c : Mom → Int} {m : Mom} (hm : m ∈ momsF r more) : atF (pntF r more x c) ((objsF r).length + plF (momsF r more) m) = c m := by
  obtain ⟨e, l⟩ := plF_mem hm
  have g := plF_get e
  rw [e]; unfold atF pntF
  rw [if_neg (by omega), show (((objsF r).length : Int) + ((momsF r more).idxOf m : Nat)).toNat = (objsF r).length + (momsF r more).idxOf m by omega, List.getD_eq_getElem?_getD, List.getElem?_append_right (by rw [List.length_map]; omega), List.length_map,
    Nat.add_sub_cancel_left, List.getElem?_map, g]; rfl

theorem sem_pnt {r : Rd} (h : RdOK r) {more : List Mom} (hm : ∀ m ∈ more, momOK r m = true) {x : Thg → Int} {c : Mom → Int} : SemR r more x c ↔ Pnt (boxR r more) (lnkR r more) (pntF r more x c) := by
  constructor
  · intro hS
    exact (pnt_sem h hm).2 ⟨pntF_len .., hS.congr (fun o ho => pntF_obj ho) (fun m hm => pntF_mom hm)⟩
  · intro hP
    exact Sem.congr ((pnt_sem h hm).1 hP).2 (fun o ho => (pntF_obj ho).symm) (fun m hm => (pntF_mom hm).symm)

theorem calm_sem {r : Rd} (h : RdOK r) {more : List Mom} (hl : more.length ≤ 2) (hm : ∀ m ∈ more, momOK r m = true) : Calm (boxR r more) (lnkR r more) 0 ↔ ∃ x c, SemR r more x c := by
  rw [calm_pnt (rd_sys h hl hm)]
  constructor
  · rintro ⟨p, hp⟩
    exact ⟨_, _, ((pnt_sem h hm).1 hp).2⟩
  · rintro ⟨x, c, hS⟩
    exact ⟨_, (sem_pnt h hm).1 hS⟩

inductive Var where
  | zero
  | obj (o : Thg)
  | mom (m : Mom)

def Var.val (x : Thg → Int) (c : Mom → Int) : Var → Int
  | .zero => 0
  | .obj o => x o
  | .mom m => c m

def Var.pl (r : Rd) (more : List Mom) : Var → Int
  | .zero => -1
  | .obj o => plF (objsF r) o
  | .mom m => (objsF r).length + plF (momsF r more) m

def Var.isIn (r : Rd) (more : List Mom) : Var → Prop
  | .zero => True
  | .obj o => o ∈ objsF r
  | .mom m => m ∈ momsF r more

theorem Var.bd {r : Rd} {more : List Mom} : ∀ {v : Var}, v.isIn r more → -1 ≤ v.pl r more ∧ v.pl r more < (boxR r more).length
  | .zero, _ => by simp only [Var.pl]; omega
  | .obj o, h => by
    obtain ⟨e, l⟩ := plF_mem (show o ∈ objsF r from h)
    rw [boxR_len]; simp only [Var.pl]; omega
  | .mom m, h => by
    obtain ⟨e, l⟩ := plF_mem (show m ∈ momsF r more from h)
    rw [boxR_len]; simp only [Var.pl]; omega

theorem Var.at_pnt {r : Rd} {more : List Mom} {x : Thg → Int} {c : Mom → Int} : ∀ {v : Var}, v.isIn r more → atF (pntF r more x c) (v.pl r more) = v.val x c
  | .zero, _ => rfl
  | .obj _, h => pntF_obj h
  | .mom _, h => pntF_mom h

theorem Var.val_at {r : Rd} {more : List Mom} {p : List Int} : ∀ {v : Var}, atF p (v.pl r more) = v.val (fun o => atF p (plF (objsF r) o)) (fun m => atF p ((objsF r).length + plF (momsF r more) m))
  | .zero => rfl
  | .obj _ => rfl
  | .mom _ => rfl

abbrev mostR (r : Rd) (more : List Mom) (a b : Int) : Int := mostF (boxR r more).length (graphF (boxR r more) (lnkR r more) 0) a b

theorem range_up {r : Rd} (h : RdOK r) {more : List Mom} (hl : more.length ≤ 2) (hm : ∀ m ∈ more, momOK r m = true) {a b : Var} (ha : a.isIn r more) (hb : b.isIn r more) {x : Thg → Int} {c : Mom → Int} (hS : SemR r more x c) :
    b.val x c - a.val x c ≤ mostR r more (a.pl r more) (b.pl r more) := by
  have := most_up (rd_sys h hl hm) ((sem_pnt h hm).1 hS) (Var.bd ha) (Var.bd hb)
  rw [Var.at_pnt ha, Var.at_pnt hb] at this
  exact this

theorem range_att {r : Rd} (h : RdOK r) {more : List Mom} (hl : more.length ≤ 2) (hm : ∀ m ∈ more, momOK r m = true) (hc : Calm (boxR r more) (lnkR r more) 0) {a b : Var} (ha : a.isIn r more) (hb : b.isIn r more) :
    ∃ x c, SemR r more x c ∧ b.val x c - a.val x c = mostR r more (a.pl r more) (b.pl r more) := by
  obtain ⟨p, hp, he⟩ := most_att2 (rd_sys h hl hm) hc (Var.bd ha) (Var.bd hb)
  exact ⟨_, _, ((pnt_sem h hm).1 hp).2, by rw [← Var.val_at, ← Var.val_at]; exact he⟩

theorem range_sem {r : Rd} (h : RdOK r) {more : List Mom} (hl : more.length ≤ 2) (hm : ∀ m ∈ more, momOK r m = true) (hc : Calm (boxR r more) (lnkR r more) 0) {a b : Var} (ha : a.isIn r more) (hb : b.isIn r more) :
    (∀ x c, SemR r more x c → -mostR r more (b.pl r more) (a.pl r more) ≤ b.val x c - a.val x c ∧ b.val x c - a.val x c ≤ mostR r more (a.pl r more) (b.pl r more)) ∧
    (∃ x c, SemR r more x c ∧ b.val x c - a.val x c = mostR r more (a.pl r more) (b.pl r more)) ∧ (∃ x c, SemR r more x c ∧ b.val x c - a.val x c = -mostR r more (b.pl r more) (a.pl r more)) := by
  refine ⟨fun x c hS => ?_, range_att h hl hm hc ha hb, ?_⟩
  · have h1 := range_up h hl hm ha hb hS
    have h2 := range_up h hl hm hb ha hS
    omega
  · obtain ⟨x, c, hS, he⟩ := range_att h hl hm hc hb ha
    exact ⟨x, c, hS, by omega⟩

instance (bs : List (Int × Int)) (ls : List Lnk) : Decidable (Calm bs ls 0) := inferInstanceAs (Decidable (_ = _))

def betweenF (bs : List (Int × Int)) (ls : List Lnk) (a b : Int) : (Int × Int) × Int :=
  if Calm bs ls 0 then ((-mostF bs.length (graphF bs ls 0) b a, mostF bs.length (graphF bs ls 0) a b), 0) else ((0, 0), 9)

def massV (r : Rd) (o : Thg) : (Int × Int) × Int := if o ∈ objsF r then betweenF (boxR r []) (lnkR r []) (-1) (plF (objsF r) o) else ((0, 0), 5)
def massF (r : Rd) (o : Thg) : (Int × Int) × Int := if checkR r = 0 then massV r o else ((0, 0), checkR r)
def lossF (r : Rd) (a b : Thg) : (Int × Int) × Int := if checkR r = 0 then (if a ∈ objsF r ∧ b ∈ objsF r then betweenF (boxR r []) (lnkR r []) (plF (objsF r) b) (plF (objsF r) a) else ((0, 0), 5)) else ((0, 0), checkR r)
def driftedF (r : Rd) (m : Mom) : (Int × Int) × Int :=
  if checkR r = 0 then (if momOK r m = true then betweenF (boxR r [m]) (lnkR r [m]) (-1) ((objsF r).length + plF (momsF r [m]) m) else ((0, 0), 1)) else ((0, 0), checkR r)
end Go.Proofs

/-
  Plain lemmas, part 26: readings in another order; capacities; which numbers there are. Conditions: none; definitions and plain lemmas.
-/
namespace Go
namespace Proofs

theorem cap_iff {bs : List Bal} {o : Thg} {v : Int} : ∀ {ws : List Wgh} {n : Int}, v ≤ ws.foldl (capStep bs o) n ↔ v ≤ n ∧ ∀ w ∈ ws, w.o = o → v ≤ (findD bs w.bal).cap
  | [], n => by simp
  | w :: r, n => by
    simp only [List.foldl_cons, List.mem_cons, forall_eq_or_imp]
    rw [cap_iff (ws := r)]
    unfold capStep
    cases hb : w.o == o with
    | true =>
      have hb : w.o = o := by simpa using hb
      simp only [cond_true]
      constructor
      · rintro ⟨h1, h2⟩; exact ⟨by omega, fun _ => by omega, h2⟩
      · rintro ⟨h1, h2, h3⟩; have := h2 hb; exact ⟨by omega, h3⟩
    | false =>
      have hb : w.o ≠ o := by simpa using hb
      simp only [cond_false]
      constructor
      · rintro ⟨h1, h2⟩; exact ⟨h1, fun h => absurd h hb, h2⟩
      · rintro ⟨h1, _, h3⟩; exact ⟨h1, h3⟩

theorem capF_iff {r : Rd} {o : Thg} {v : Int} : v ≤ capF r o ↔ v ≤ 10000000 ∧ ∀ w ∈ r.ws, w.o = o → v ≤ (findD r.bs w.bal).cap := cap_iff

theorem RdOK.cN {r : Rd} (h : RdOK r) : (r.cs.map Chk.id).Nodup := (List.nodup_append.1 h.ids).1
theorem RdOK.nN {r : Rd} (h : RdOK r) : (r.ns.map Ntc.id).Nodup := (List.nodup_append.1 (List.nodup_append.1 h.ids).2.1).1
theorem RdOK.wN {r : Rd} (h : RdOK r) : (r.ws.map Wgh.id).Nodup := (List.nodup_append.1 (List.nodup_append.1 h.ids).2.1).2.1

def allIds (r : Rd) : List Int := r.cs.map Chk.id ++ (r.ns.map Ntc.id ++ r.ws.map Wgh.id)
def idsR (r : Rd) : List Int := distS (fun a b : Int => decide (a < b)) (allIds r)

theorem intLt_ok : LtOK (fun a b : Int => decide (a < b)) where
  irr x := by simp
  tr x y z h1 h2 := by simp at *; omega
  tot x y h := by simp; omega

def lessR (r : Rd) (ids : List Int) : Rd := ⟨r.bs, r.cs.filter (fun c => !ids.contains c.id), r.ns.filter (fun n => !ids.contains n.id), r.ws.filter (fun w => !ids.contains w.id)⟩

theorem less_ok {r : Rd} (h : RdOK r) (ids : List Int) : RdOK (lessR r ids) where
  nb := h.nb
  nr := by
    have h1 := List.length_filter_le (fun c : Chk => !ids.contains c.id) r.cs
    have h2 := List.length_filter_le (fun n : Ntc => !ids.contains n.id) r.ns
    have h3 := List.length_filter_le (fun w : Wgh => !ids.contains w.id) r.ws
    have := h.nr
    show (r.cs.filter _).length + (r.ns.filter _).length + (r.ws.filter _).length ≤ 100
    omega
  bal := h.bal
  balN := h.balN
  chk c hc := h.chk c (List.mem_filter.1 hc).1
  ntc c hc := h.ntc c (List.mem_filter.1 hc).1
  wgh c hc := h.wgh c (List.mem_filter.1 hc).1
  ids := by
    refine List.Nodup.sublist ?_ h.ids
    exact (List.filter_sublist.map _).append ((List.filter_sublist.map _).append (List.filter_sublist.map _))

end Proofs
end Go

/-
  Plain lemmas, part 27: the elements of two lists by their numbers, each once; merging readings. Conditions: none; definitions and plain lemmas.
-/
namespace Go
namespace Proofs

def JoinOK {α : Type} (key : α → Int) (a b : List α) : Prop := ∀ x ∈ a ++ b, ∀ y ∈ a ++ b, key x = key y → x = y

instance {α : Type} [DecidableEq α] (key : α → Int) (a b : List α) : Decidable (JoinOK key a b) := inferInstanceAs (Decidable (∀ x ∈ a ++ b, ∀ y ∈ a ++ b, key x = key y → x = y))

end Proofs
end Go

/-
  Plain lemmas, part 28: what merging gives: valid, in either order, again. Conditions: none; definitions and plain lemmas.
-/
namespace Go
namespace Proofs

end Proofs
end Go

namespace Go.Proofs
open Go.Sx

theorem sem_mono {r r' : Rd} {more more' : List Mom} {x : Thg → Int} {c : Mom → Int} (hbs : r'.bs = r.bs) (hns : r'.ns = r.ns) (hc : ∀ k ∈ r.cs, k ∈ r'.cs) (hw : ∀ w ∈ r.ws, w ∈ r'.ws) (hm : ∀ m ∈ momsF r more, m ∈ momsF r' more')
    (h : SemR r' more' x c) : SemR r more x c := by
  have ho : ∀ o ∈ objsF r, o ∈ objsF r' := fun o ho => by
    obtain ⟨w, h1, h2⟩ := objsF_mem.1 ho
    exact objsF_mem.2 ⟨w, hw w h1, h2⟩
  have hs : ∀ m, sideF r' m = sideF r m := fun m => by unfold sideF; rw [hbs, hns]
  refine ⟨fun o h1 => ?_, fun m h1 => h.mom m (hm m h1), fun m h1 => ?_, fun w h1 => ?_, fun k h1 => ?_, fun a ha b hb hab ht => ?_, fun o h1 q h2 hoq => h.cvr o (ho o h1) q (ho q h2) hoq⟩
  · obtain ⟨g1, g2⟩ := h.obj o (ho o h1)
    refine ⟨g1, capF_iff.2 ?_⟩
    obtain ⟨g3, g4⟩ := capF_iff.1 g2
    exact ⟨g3, fun w hw' hwo => by rw [← hbs]; exact g4 w (hw w hw') hwo⟩
  · have := h.sid m (hm m h1); rw [hs] at this; exact this
  · have := h.wgh w (hw w h1); rw [hbs] at this; exact this
  · have := h.chk k (hc k h1); rw [hbs] at this; exact this
  · have := h.drf a (hm a ha) b (hm b hb) hab ht; rw [hbs] at this; exact this

theorem potL_min {n : Nat} {p q : Nat → Int} {arcs : List Lnk} (hp : PotL n p arcs) (hq : PotL n q arcs) : PotL n (fun v => min (p v) (q v)) arcs := by
  intro l hl
  have h1 : p (plc n l.t) ≤ p (plc n l.f) + l.m := hp l hl
  have h2 : q (plc n l.t) ≤ q (plc n l.f) + l.m := hq l hl
  show min (p (plc n l.t)) (q (plc n l.t)) ≤ min (p (plc n l.f)) (q (plc n l.f)) + l.m
  omega

theorem potL_add {n : Nat} {p : Nat → Int} {arcs : List Lnk} (hp : PotL n p arcs) (t : Int) : PotL n (fun v => p v + t) arcs := by
  intro l hl
  have h1 : p (plc n l.t) ≤ p (plc n l.f) + l.m := hp l hl
  show p (plc n l.t) + t ≤ p (plc n l.f) + t + l.m
  omega

theorem pot_pnt {bs : List (Int × Int)} {ls : List Lnk} (hs : SysOK bs ls) {q : Nat → Int} (hq : PotL bs.length q (allF bs ls)) :
    ∃ s, Pnt bs ls s ∧ ∀ i : Int, -1 ≤ i ∧ i < bs.length → atF s i = q (plc bs.length i) - q bs.length := by
  obtain ⟨s, hsd⟩ : ∃ s : List Int, s = (List.range bs.length).map fun v => q v - q bs.length := ⟨_, rfl⟩
  have hg : ∀ v, v ≤ bs.length → s.getD v 0 = q v - q bs.length := fun v hv => by rw [hsd]; exact getD_rangeS _ q v hv
  have hl : s.length = bs.length := by rw [hsd]; simp
  refine ⟨s, (pnt_pot hs).2 ⟨hl, fun l hm => ?_⟩, fun i hi => ?_⟩
  · obtain ⟨h1, h2, _⟩ := allF_ok hs l hm
    have h : q (plc bs.length l.t) ≤ q (plc bs.length l.f) + l.m := hq l hm
    show s.getD (plc bs.length l.t) 0 ≤ s.getD (plc bs.length l.f) 0 + l.m
    rw [hg _ (plc_le (by omega)), hg _ (plc_le (by omega))]
    omega
  · rw [← plc_at hl hi, hg _ (plc_le hi.2)]

theorem pnt_between {bs : List (Int × Int)} {ls : List Lnk} (hs : SysOK bs ls) {p q : List Int} (hp : Pnt bs ls p) (hq : Pnt bs ls q) {a b : Int} (ha : -1 ≤ a ∧ a < bs.length) (hb : -1 ≤ b ∧ b < bs.length) {v : Int}
    (h1 : atF p b - atF p a ≤ v) (h2 : v ≤ atF q b - atF q a) : ∃ s, Pnt bs ls s ∧ atF s b - atF s a = v := by
  obtain ⟨pl, pp⟩ := (pnt_pot hs).1 hp
  obtain ⟨ql, qp⟩ := (pnt_pot hs).1 hq
  have hR := potL_min (potL_add pp (v - atF p b)) (potL_add qp (-atF q a))
  obtain ⟨s, h3, h4⟩ := pot_pnt hs hR
  refine ⟨s, h3, ?_⟩
  rw [h4 a ha, h4 b hb, plc_at pl ha, plc_at pl hb, plc_at ql ha, plc_at ql hb]
  omega

def addW (r : Rd) (w : Wgh) : Rd := { r with ws := r.ws ++ [w] }
theorem addW_objs {r : Rd} {w : Wgh} (ho : w.o ∈ objsF r) : objsF (addW r w) = objsF r := by
  refine (distS_unique thgLt_ok (distS_inc thgLt_ok _) fun z => ?_)
  show z ∈ objsF (addW r w) ↔ _
  rw [objsF_mem, List.mem_map]
  constructor
  · rintro ⟨u, hu, rfl⟩
    rcases List.mem_append.1 hu with hu | hu
    · exact ⟨u, hu, rfl⟩
    · simp at hu; subst hu
      obtain ⟨u, h1, h2⟩ := objsF_mem.1 ho
      exact ⟨u, h1, h2⟩
  · rintro ⟨u, hu, rfl⟩
    exact ⟨u, List.mem_append.2 (.inl hu), rfl⟩

theorem addW_moms (r : Rd) (w : Wgh) : momsF (addW r w) [] = momsF r [wMom w] := by
  refine (distS_unique momLt_ok (distS_inc momLt_ok _) fun z => ?_)
  show z ∈ momsF (addW r w) [] ↔ _
  rw [momsF_mem, List.mem_append, List.mem_append, List.mem_map, List.mem_map]
  simp only [addW, List.mem_append, List.mem_singleton, List.not_mem_nil, or_false]
  constructor
  · rintro (⟨u, hu | rfl, rfl⟩ | h)
    · exact .inl ⟨u, hu, rfl⟩
    · exact .inr (.inr rfl)
    · exact .inr (.inl h)
  · rintro (⟨u, hu, rfl⟩ | h | rfl)
    · exact .inl ⟨u, .inl hu, rfl⟩
    · exact .inr h
    · exact .inl ⟨w, .inr rfl, rfl⟩

theorem sem_addW {r : Rd} {w : Wgh} (ho : w.o ∈ objsF r) {x : Thg → Int} {c : Mom → Int} : SemR (addW r w) [] x c ↔ SemR r [wMom w] x c ∧ x w.o ≤ (findD r.bs w.bal).cap ∧
    (x w.o - c (wMom w) ≤ w.shown + (findD r.bs w.bal).half ∧ c (wMom w) - x w.o ≤ (findD r.bs w.bal).half - w.shown) := by
  constructor
  · intro h
    have hw : w ∈ (addW r w).ws := List.mem_append.2 (.inr (by simp))
    refine ⟨sem_mono (r' := addW r w) (more' := []) rfl rfl (fun _ h => h) (fun u hu => List.mem_append.2 (.inl hu)) (fun m hm => by rw [addW_moms]; exact hm) h, ?_, h.wgh w hw⟩
    have := (h.obj w.o (by rw [addW_objs ho]; exact ho)).2
    exact (capF_iff.1 this).2 w hw rfl
  · rintro ⟨h, h1, h2⟩
    refine ⟨fun o ho' => ?_, fun m hm => ?_, fun m hm => ?_, fun u hu => ?_, h.chk, fun a ha b hb => ?_, fun o h1 q h2 => ?_⟩
    · rw [addW_objs ho] at ho'
      obtain ⟨g1, g2⟩ := h.obj o ho'
      refine ⟨g1, capF_iff.2 ?_⟩
      obtain ⟨g3, g4⟩ := capF_iff.1 g2
      refine ⟨g3, fun u hu huo => ?_⟩
      rcases List.mem_append.1 hu with hu | hu
      · exact g4 u hu huo
      · simp at hu; subst hu; rw [← huo]; exact h1
    · rw [addW_moms] at hm; exact h.mom m hm
    · rw [addW_moms] at hm; exact h.sid m hm
    · rcases List.mem_append.1 hu with hu | hu
      · exact h.wgh u hu
      · simp at hu; subst hu; exact h2
    · rw [addW_moms] at ha hb; exact h.drf a ha b hb
    · rw [addW_objs ho] at h1 h2; exact h.cvr o h1 q h2

def boxW (r : Rd) (w : Wgh) : List (Int × Int) := (boxR r [wMom w]).set (plF (objsF r) w.o).toNat (0, min (capF r w.o) (findD r.bs w.bal).cap)

theorem boxW_len (r : Rd) (w : Wgh) : (boxW r w).length = (boxR r [wMom w]).length := by simp [boxW]

theorem boxW_at {r : Rd} {w : Wgh} (ho : w.o ∈ objsF r) : (boxR r [wMom w])[(plF (objsF r) w.o).toNat]? = some (0, capF r w.o) ∧ (plF (objsF r) w.o).toNat < (boxR r [wMom w]).length := by
  obtain ⟨e, l⟩ := plF_mem ho
  have g := plF_get e
  rw [e, Int.toNat_natCast]
  refine ⟨?_, by rw [boxR_len]; omega⟩
  unfold boxR boxesR
  rw [List.getElem?_append_left (by rw [List.length_map]; exact l), List.getElem?_map, g]; rfl

theorem boxW_sys {r : Rd} (h : RdOK r) {w : Wgh} (ho : w.o ∈ objsF r) (hm : momOK r (wMom w) = true) : SysOK (boxW r w) (lnkR r [wMom w]) := by
  have hs := rd_sys h (more := [wMom w]) (by simp) (by simpa using hm)
  refine ⟨by rw [boxW_len]; exact hs.nb, hs.nl, fun b hb => ?_, fun l hl => by rw [boxW_len]; exact hs.lnk l hl⟩
  have hcap : 1 ≤ (findD r.bs w.bal).cap := by
    simp [momOK, wMom] at hm
    have := valid_bd (h.findD hm.1); omega
  have hc1 : 0 ≤ capF r w.o ∧ capF r w.o ≤ 10000000 := by
    have := hs.box _ (List.mem_of_getElem? (boxW_at ho).1)
    refine ⟨this.1, (capF_iff.1 (Int.le_refl _)).1⟩
  rcases List.mem_or_eq_of_mem_set hb with hb | rfl
  · exact hs.box b hb
  · dsimp only; omega

theorem boxW_pnt {r : Rd} {w : Wgh} (ho : w.o ∈ objsF r) {p : List Int} : Pnt (boxW r w) (lnkR r [wMom w]) p ↔ Pnt (boxR r [wMom w]) (lnkR r [wMom w]) p ∧ atF p (plF (objsF r) w.o) ≤ (findD r.bs w.bal).cap := by
  obtain ⟨e, l⟩ := plF_mem ho
  obtain ⟨b1, b2⟩ := boxW_at ho
  have hat : atF p (plF (objsF r) w.o) = p.getD (plF (objsF r) w.o).toNat 0 := by unfold atF; rw [if_neg (by omega)]
  have hset : ∀ v, (boxW r w)[v]? = if (plF (objsF r) w.o).toNat = v then some (0, min (capF r w.o) (findD r.bs w.bal).cap) else (boxR r [wMom w])[v]? := by
    intro v
    unfold boxW
    rw [List.getElem?_set]
    by_cases hv : (plF (objsF r) w.o).toNat = v
    · rw [if_pos hv, if_pos hv, if_pos b2]
    · rw [if_neg hv, if_neg hv]
  rw [hat]
  generalize (plF (objsF r) w.o).toNat = i at *
  constructor
  · rintro ⟨h1, h2, h3⟩
    have hi := h2 i (0, min (capF r w.o) (findD r.bs w.bal).cap) (by rw [hset, if_pos rfl])
    dsimp only at hi
    refine ⟨⟨by rw [← boxW_len]; exact h1, fun v b hb => ?_, h3⟩, by omega⟩
    by_cases hv : i = v
    · subst hv
      rw [b1] at hb; cases hb
      dsimp only; omega
    · exact h2 v b (by rw [hset, if_neg hv]; exact hb)
  · rintro ⟨⟨h1, h2, h3⟩, h4⟩
    refine ⟨by rw [boxW_len]; exact h1, fun v b hb => ?_, h3⟩
    rw [hset] at hb
    by_cases hv : i = v
    · subst hv
      rw [if_pos rfl] at hb
      cases hb
      have := h2 i _ b1
      dsimp only at this ⊢; omega
    · rw [if_neg hv] at hb
      exact h2 v b hb

end Go.Proofs

namespace Go.Proofs
open Go.Sx

def rangeW (r : Rd) (w : Wgh) : Int × Int :=
  (-mostF (boxW r w).length (graphF (boxW r w) (lnkR r [wMom w]) 0) (plF (objsF r) w.o) ((objsF r).length + plF (momsF r [wMom w]) (wMom w)),
   mostF (boxW r w).length (graphF (boxW r w) (lnkR r [wMom w]) 0) ((objsF r).length + plF (momsF r [wMom w]) (wMom w)) (plF (objsF r) w.o))

def foreseeV (r : Rd) (w : Wgh) : (Int × Int) × Int :=
  if min 10000000 ((rangeW r w).2 + (findD r.bs w.bal).half) < max 0 ((rangeW r w).1 - (findD r.bs w.bal).half) then ((0, 0), 3)
  else ((max 0 ((rangeW r w).1 - (findD r.bs w.bal).half), min 10000000 ((rangeW r w).2 + (findD r.bs w.bal).half)), 0)

def foreseeF (r : Rd) (w : Wgh) : (Int × Int) × Int :=
  if checkR r = 0 then (if momOK r (wMom w) = true ∧ thgF w.o = true then (if w.o ∈ objsF r then (if Calm (boxW r w) (lnkR r [wMom w]) 0 then foreseeV r w else ((0, 0), 9)) else ((0, 0), 5)) else ((0, 0), 1)) else ((0, 0), checkR r)

theorem addW_shown {r : Rd} {w : Wgh} (h : RdOK (addW r w)) {n : Int} (hn : 0 ≤ n ∧ n ≤ 10000000) : RdOK (addW r { w with shown := n }) where
  nb := h.nb
  nr := by have := h.nr; simp [addW] at *; omega
  bal := h.bal
  balN := h.balN
  chk := h.chk
  ntc := h.ntc
  wgh u hu := by
    rcases List.mem_append.1 hu with hu | hu
    · exact h.wgh u (List.mem_append.2 (.inl hu))
    · simp at hu; subst hu
      obtain ⟨h1, h2⟩ := h.wgh w (List.mem_append.2 (.inr (by simp)))
      refine ⟨h1, ?_⟩
      have h2 : wghF r.bs w = true := h2
      show wghF r.bs { w with shown := n } = true
      unfold wghF at *
      simp only [Bool.and_eq_true] at *
      refine ⟨h2.1, h2.2.1, h2.2.2.1, ?_⟩
      simp [withinF]; omega
  ids := by
    have := h.ids
    simp only [addW, List.map_append, List.map_cons, List.map_nil] at *
    exact this

theorem addW_ok {r : Rd} {w : Wgh} (h : RdOK (addW r w)) : RdOK r where
  nb := h.nb
  nr := by have := h.nr; simp [addW] at *; omega
  bal := h.bal
  balN := h.balN
  chk := h.chk
  ntc := h.ntc
  wgh u hu := h.wgh u (List.mem_append.2 (.inl hu))
  ids := by
    have := h.ids
    simp only [addW, List.map_append, List.map_cons, List.map_nil] at this
    refine this.sublist ?_
    exact (List.Sublist.refl _).append ((List.Sublist.refl _).append (List.sublist_append_left _ _))

theorem boxW_sem {r : Rd} (h : RdOK r) {w : Wgh} (ho : w.o ∈ objsF r) (hm : momOK r (wMom w) = true) {p : List Int} : Pnt (boxW r w) (lnkR r [wMom w]) p ↔ (p.length = (objsF r).length + (momsF r [wMom w]).length ∧
    SemR r [wMom w] (fun o => atF p (plF (objsF r) o)) (fun m => atF p ((objsF r).length + plF (momsF r [wMom w]) m))) ∧ atF p (plF (objsF r) w.o) ≤ (findD r.bs w.bal).cap := by
  rw [boxW_pnt ho, pnt_sem h (more := [wMom w]) (by simpa using hm)]

theorem foresee_law {r : Rd} {w : Wgh} (hr : RdOK (addW r w)) {lo hi : Int} (hF : foreseeF r w = ((lo, hi), 0)) :
    (0 ≤ lo ∧ lo ≤ hi ∧ hi ≤ 10000000 ∧ w.o ∈ objsF r) ∧ (∀ n, lo ≤ n → n ≤ hi → Calm (boxR (addW r { w with shown := n }) []) (lnkR (addW r { w with shown := n }) []) 0) ∧
    ∀ n, 0 ≤ n → n ≤ 10000000 → (n = lo - 1 ∨ n = hi + 1) → ¬ Calm (boxR (addW r { w with shown := n }) []) (lnkR (addW r { w with shown := n }) []) 0 := by
  have h := addW_ok hr
  have hc0 : checkR r = 0 := checkR_ok.2 h
  unfold foreseeF at hF
  rw [if_pos hc0] at hF
  by_cases hmo : momOK r (wMom w) = true ∧ thgF w.o = true
  case neg => rw [if_neg hmo] at hF; exact absurd (congrArg Prod.snd hF) (by simp)
  rw [if_pos hmo] at hF
  by_cases ho : w.o ∈ objsF r
  case neg => rw [if_neg ho] at hF; exact absurd (congrArg Prod.snd hF) (by simp)
  rw [if_pos ho] at hF
  by_cases hcm : Calm (boxW r w) (lnkR r [wMom w]) 0
  case neg => rw [if_neg hcm] at hF; exact absurd (congrArg Prod.snd hF) (by simp)
  rw [if_pos hcm] at hF
  unfold foreseeV at hF
  have hhalf : 0 ≤ (findD r.bs w.bal).half := by
    have := hmo.1
    simp [momOK, wMom] at this
    have := valid_bd (h.findD this.1); omega
  have hs := boxW_sys h ho hmo.1
  have hmm : wMom w ∈ momsF r [wMom w] := momsF_mem.2 (.inr (.inr (by simp)))
  obtain ⟨eo, lo1⟩ := plF_mem ho
  obtain ⟨em, lm1⟩ := plF_mem hmm
  have hbo : -1 ≤ plF (objsF r) w.o ∧ plF (objsF r) w.o < (boxW r w).length := by rw [boxW_len, boxR_len]; omega
  have hbm : -1 ≤ (objsF r).length + plF (momsF r [wMom w]) (wMom w) ∧ (objsF r).length + plF (momsF r [wMom w]) (wMom w) < (boxW r w).length := by rw [boxW_len, boxR_len]; omega
  -- the ends are attained
  obtain ⟨q, hq, hqv⟩ := most_att2 hs hcm hbm hbo
  obtain ⟨p, hp, hpv⟩ := most_att2 hs hcm hbo hbm
  have hup : ∀ s, Pnt (boxW r w) (lnkR r [wMom w]) s → (rangeW r w).1 ≤ atF s (plF (objsF r) w.o) - atF s ((objsF r).length + plF (momsF r [wMom w]) (wMom w)) ∧ atF s (plF (objsF r) w.o) - atF s ((objsF r).length + plF (momsF r [wMom w]) (wMom w)) ≤ (rangeW r w).2 := by
    intro s hps
    have g1 := most_up hs hps hbm hbo
    have g2 := most_up hs hps hbo hbm
    unfold rangeW
    dsimp only
    omega
  have hlo1 : atF p (plF (objsF r) w.o) - atF p ((objsF r).length + plF (momsF r [wMom w]) (wMom w)) = (rangeW r w).1 := by unfold rangeW; dsimp only; omega
  have hhi1 : atF q (plF (objsF r) w.o) - atF q ((objsF r).length + plF (momsF r [wMom w]) (wMom w)) = (rangeW r w).2 := hqv
  have hle : (rangeW r w).1 ≤ (rangeW r w).2 := by have := hup p hp; omega
  generalize rangeW r w = R at *
  have hlh : ¬ min 10000000 (R.2 + (findD r.bs w.bal).half) < max 0 (R.1 - (findD r.bs w.bal).half) := by
    intro hlt
    rw [if_pos hlt] at hF
    exact absurd (congrArg Prod.snd hF) (by simp)
  rw [if_neg hlh] at hF
  have e1 : lo = max 0 (R.1 - (findD r.bs w.bal).half) := (congrArg (fun z => z.1.1) hF).symm
  have e2 : hi = min 10000000 (R.2 + (findD r.bs w.bal).half) := (congrArg (fun z => z.1.2) hF).symm
  refine ⟨⟨by omega, by omega, by omega, ho⟩, fun n h1 h2 => ?_, fun n h1 h2 h3 hcn => ?_⟩
  · have hok := addW_shown hr (n := n) (by omega)
    refine (calm_sem hok (by simp) (by simp)).2 ?_
    obtain ⟨s, hsp, hsv⟩ := pnt_between hs hp hq hbm hbo (v := max R.1 (n - (findD r.bs w.bal).half)) (by omega) (by omega)
    obtain ⟨⟨_, g1⟩, g2⟩ := (boxW_sem h ho hmo.1).1 hsp
    refine ⟨_, _, (sem_addW (w := { w with shown := n }) ho).2 ⟨g1, g2, ?_⟩⟩
    show atF s (plF (objsF r) w.o) - atF s ((objsF r).length + plF (momsF r [wMom w]) (wMom w)) ≤ n + (findD r.bs w.bal).half ∧ atF s ((objsF r).length + plF (momsF r [wMom w]) (wMom w)) - atF s (plF (objsF r) w.o) ≤ (findD r.bs w.bal).half - n
    omega
  · have hok := addW_shown hr (n := n) ⟨h1, h2⟩
    obtain ⟨x, c, hS⟩ := (calm_sem hok (by simp) (by simp)).1 hcn
    obtain ⟨g1, g2, g3⟩ := (sem_addW (w := { w with shown := n }) ho).1 hS
    have g1 : SemR r [wMom w] x c := g1
    have g2 : x w.o ≤ (findD r.bs w.bal).cap := g2
    have g3 : x w.o - c (wMom w) ≤ n + (findD r.bs w.bal).half ∧ c (wMom w) - x w.o ≤ (findD r.bs w.bal).half - n := g3
    have hP := (sem_pnt h (more := [wMom w]) (by simpa using hmo.1)).1 g1
    have hPW : Pnt (boxW r w) (lnkR r [wMom w]) (pntF r [wMom w] x c) := (boxW_pnt ho).2 ⟨hP, by rw [pntF_obj ho]; exact g2⟩
    have := hup _ hPW
    rw [pntF_obj ho, pntF_mom hmm] at this
    omega

end Go.Proofs

namespace Go.Proofs
open Go.Sx

def exSc : Bal := ⟨1, 2, -10, 10, 1, 1000⟩
def exGr : Thg := ⟨1, 1, 0, 1⟩
def exTa : Thg := ⟨1, 1, 0, 2⟩
def exR1 : Rd := ⟨[exSc], [], [], [⟨11, 1, 5, exGr, 500⟩]⟩
def exR2 : Rd := ⟨[exSc], [], [], [⟨11, 1, 5, exGr, 500⟩, ⟨13, 1, 5, exTa, 40⟩]⟩
def exR3 : Rd := ⟨[exSc], [⟨12, 1, 3, 100, 97⟩], [], [⟨11, 1, 5, exGr, 500⟩]⟩
def exR4 : Rd := ⟨[exSc], [⟨12, 1, 5, 100, 97⟩], [], [⟨11, 1, 5, exGr, 500⟩]⟩
def exR5 : Rd := ⟨[exSc], [⟨12, 1, 5, 100, 97⟩], [⟨14, 1, 0, 9, 4, 30⟩], [⟨11, 1, 5, exGr, 500⟩]⟩
def exR6 : Rd := ⟨[exSc], [⟨12, 1, 5, 100, 97⟩], [⟨14, 1, 0, 9, 6, 30⟩], [⟨11, 1, 5, exGr, 500⟩]⟩
theorem exT1 : massF exR1 exGr = ((488, 512), 0) := by decide +kernel
theorem exT2 : driftedF exR1 ⟨1, 5⟩ = ((-10, 10), 0) := by decide +kernel
theorem exT3 : foreseeF exR1 ⟨0, 1, 6, exGr, 0⟩ = ((495, 505), 0) := by decide +kernel
theorem exT4 : lossF exR2 exGr exTa = ((456, 464), 0) := by decide +kernel
theorem exT5 : driftedF exR3 ⟨1, 5⟩ = ((-1, 7), 0) := by decide +kernel
theorem exT6 : driftedF exR4 ⟨1, 5⟩ = ((1, 5), 0) := by decide +kernel
theorem exT7 : massF exR5 exGr = ((502, 507), 0) := by decide +kernel
theorem exT8 : massF exR6 exGr = ((0, 0), 9) := by decide +kernel
theorem exT10 : ((idsR exR5).filter fun i => !(decide (massV (lessR exR5 [i]) exGr = massF exR5 exGr))) = [11, 12, 14] := by decide +kernel
theorem exT11 : ((idsR exR6).filter fun i => decide (Calm (boxR (lessR exR6 [i]) []) (lnkR (lessR exR6 [i]) []) 0)) = [12, 14] := by decide +kernel

end Go.Proofs

namespace Go.Proofs
open Go.Sx

end Go.Proofs

namespace Go.Proofs
open Go.Sx

structure Tiny (r : Rd) (b : Bal) : Prop where
  ok : RdOK r
  bs : r.bs = [b]
  lo : (objsF r).length ≤ 2
  lm : (momsF r []).length ≤ 2

end Go.Proofs

namespace Go.Proofs
open Go.Sx

structure Small (r : Rd) (b : Bal) : Prop where
  tiny : Tiny r b
  cap : b.cap ≤ 6
  lo : -2 ≤ b.lo
  hi : b.hi ≤ 2
  ns : ∀ n ∈ r.ns, -2 ≤ n.slo ∧ n.shi ≤ 2

end Go.Proofs

namespace Go
namespace Sx
open Go.Sort Go.RowKit Go.Proofs Go.Lib

def cmpI (a b : Int) : Int := if a < b then -1 else if b < a then 1 else 0
def orI : List Int → Int
  | [] => 0
  | x :: r => if x = 0 then orI r else x

theorem swo_of {α : Type} {cf : α → α → Int} {lt : α → α → Bool} (ok : LtOK lt) (h : ∀ x y, ltOf cf x y = lt x y) : SWO (ltOf cf) where
  irrefl x := by rw [h]; exact ok.irr x
  trans x y z h1 h2 := by rw [h] at *; exact ok.tr x y z h1 h2
  ntrans x y z h1 h2 := by
    rw [h] at *
    by_cases hxz : lt x z = true
    · exfalso
      by_cases e1 : x = y
      · subst e1; rw [hxz] at h2; cases h2
      by_cases e2 : y = z
      · subst e2; rw [hxz] at h1; cases h1
      rcases ok.tot x y e1 with h3 | h3
      · rw [h3] at h1; cases h1
      · rcases ok.tot y z e2 with h4 | h4
        · rw [h4] at h2; cases h2
        · have := ok.tr _ _ _ h4 h3
          have := ok.tr _ _ _ hxz this
          rw [ok.irr] at this; cases this
    · simpa using hxz

theorem swo_id {α : Type} {cf : α → α → Int} {key : α → Int} (h : ∀ x y, ltOf cf x y = idLt key x y) : SWO (ltOf cf) where
  irrefl x := by rw [h]; simp [idLt]
  trans x y z h1 h2 := by rw [h] at *; simp [idLt] at *; omega
  ntrans x y z h1 h2 := by rw [h] at *; simp [idLt] at *; omega

theorem pdqL_pair {α : Type} [Inhabited α] {cf : α → α → Int} (hO : SWO (ltOf cf)) (xs : List α) : (pdqL cf xs).Pairwise fun x y => ltOf cf y x = false := by
  obtain ⟨_, _, h⟩ := pdqL_size hO xs
  have hl := pdqL_len hO xs
  refine List.pairwise_iff_getElem.2 fun i j hi hj hij => ?_
  have := h i j hij (by omega)
  rw [getElem!_pos (pdqL cf xs) j hj, getElem!_pos (pdqL cf xs) i hi] at this
  exact this

theorem pdqL_perm {α : Type} [Inhabited α] {cf : α → α → Int} (hO : SWO (ltOf cf)) (xs : List α) : (pdqL cf xs).Perm xs := (pdqL_size hO xs).2.1

theorem pdqL_dist {α : Type} [Inhabited α] [DecidableEq α] {cf : α → α → Int} {lt : α → α → Bool} (ok : LtOK lt) (h : ∀ x y, ltOf cf x y = lt x y) (xs : List α) : compS (pdqL cf xs) = distS lt xs := by
  have hO := swo_of ok h
  refine distS_unique ok (compS_inc ok ((pdqL_pair hO xs).imp fun {a b} hab => by rw [← h]; exact hab)) fun z => ?_
  rw [compS_mem, (pdqL_perm hO xs).mem_iff]

theorem pdqL_le {α : Type} [Inhabited α] {cf : α → α → Int} {key : α → Int} (h : ∀ x y, ltOf cf x y = idLt key x y) (xs : List α) : (pdqL cf xs).Pairwise fun x y => key x ≤ key y :=
  (pdqL_pair (swo_id h) xs).imp fun {a b} hab => by rw [h] at hab; simp [idLt] at hab; exact hab

theorem pdqL_sort {α : Type} [Inhabited α] {cf : α → α → Int} {key : α → Int} (h : ∀ x y, ltOf cf x y = idLt key x y) {xs : List α} (hd : (xs.map key).Nodup) : pdqL cf xs = sortK key xs :=
  sortK_unique hd (pdqL_perm (swo_id h) xs) (pdqL_le h xs)

theorem cmp_id {α : Type} (key : α → Int) (x y : α) : ltOf (fun x y => cmpI (key x) (key y)) x y = idLt key x y := by
  unfold ltOf cmpI idLt
  refine decide_eq_decide.2 ?_
  dsimp only
  by_cases h : key x < key y
  · rw [if_pos h]; omega
  · rw [if_neg h]; split <;> omega

theorem cmp_thg (x y : Thg) : ltOf (fun x y : Thg => orI [cmpI x.lot y.lot, cmpI x.bale y.bale, cmpI x.smp y.smp, cmpI x.st y.st]) x y = thgLt x y := by
  unfold ltOf thgLt
  simp only [orI, cmpI]
  by_cases a1 : x.lot < y.lot
  · simp [a1]
  by_cases a2 : y.lot < x.lot
  · simp [a1, a2]; omega
  have a3 : x.lot = y.lot := by omega
  by_cases b1 : x.bale < y.bale
  · simp [a1, a2, a3, b1]
  by_cases b2 : y.bale < x.bale
  · simp [a1, a2, a3, b1, b2]; omega
  have b3 : x.bale = y.bale := by omega
  by_cases c1 : x.smp < y.smp
  · simp [a1, a2, a3, b1, b2, b3, c1]
  by_cases c2 : y.smp < x.smp
  · simp [a1, a2, a3, b1, b2, b3, c1, c2]; omega
  have c3 : x.smp = y.smp := by omega
  by_cases d1 : x.st < y.st
  · simp [a3, b3, c3, d1]
  by_cases d2 : y.st < x.st
  · simp [a3, b3, c3, d1, d2]
  have d3 : x.st = y.st := by omega
  simp [a3, b3, c3, d3]

theorem cmp_mom (x y : Mom) : ltOf (fun x y : Mom => orI [cmpI x.bal y.bal, cmpI x.tick y.tick]) x y = momLt x y := by
  unfold ltOf momLt
  simp only [orI, cmpI]
  by_cases a1 : x.bal < y.bal
  · simp [a1]
  by_cases a2 : y.bal < x.bal
  · simp [a1, a2]; omega
  have a3 : x.bal = y.bal := by omega
  by_cases d1 : x.tick < y.tick
  · simp [a3, d1]
  by_cases d2 : y.tick < x.tick
  · simp [a3, d1, d2]
  have d3 : x.tick = y.tick := by omega
  simp [a3, d3]

end Sx
end Go

namespace Go
namespace Sx

theorem aggI_inj {a b : List Int} (h : aggI a = aggI b) : a = b := by
  unfold aggI at h
  simp only [Value.agg.injEq] at h
  have h2 : a.map (Value.int .i64) = b.map (Value.int .i64) := by
    have := congrArg Array.toList h
    simpa using this
  exact (List.map_inj_right (fun x y hxy => by cases hxy; rfl)).1 h2

theorem run_checkKey_ints {P : Program} {t : TypeId} (em : Bool) (m : Nat) (hu : P.underlying t = some (.struct (P.fieldsOf t))) (hf : intFs P (P.fieldsOf t).toList 0 = true) (xs : List Int) (hn : xs.length = (P.fieldsOf t).toList.length) (w : World) :
    (Instr.checkKey em (m + 1 + 1) t (aggI xs)).run P w = .ok () w := by
  rw [Instr.checkKey]
  unfold aggI
  simp only [Sem.run_bind, run_underlying hu, Result.andThen_ok]
  rw [← Array.forIn_toList]
  have hj : xs.length = 0 + (P.fieldsOf t).toList.length := by omega
  clear hn hu
  generalize (P.fieldsOf t).toList = L at hf hj
  generalize (0 : Nat) = j at hf hj
  induction L generalizing j with
  | nil => simp
  | cons f L ih =>
    simp only [intFs, Bool.and_eq_true] at hf
    obtain ⟨h1, h2, h3, h4⟩ := hf
    have h1 : f.name ≠ "_" := by simpa using h1
    have h2 : f.offset = j := by simpa using h2
    have h3 := isI64_eq h3
    simp only [List.length_cons] at hj
    have hjx : j < xs.length := by omega
    have hp := run_part_int (P := P) (t := f.type) (cs := (xs.map (Value.int .i64)).toArray) (off := j) (v := .int .i64 xs[j]) w h3 (by simp [hjx])
    have hc : (Instr.checkKey em (m + 1) f.type (.int .i64 xs[j])).run P w = .ok () w := by simp [Instr.checkKey, run_underlying h3]
    have := ih (j + 1) h4 (by omega)
    simp only [List.forIn_cons, if_pos h1, Sem.run_bind, h2, hp, Result.andThen_ok, hc, Sem.run_pure]
    exact this

theorem findAsking_ints {P : Program} {t n : Nat} {L : List (Nat × Nat)} (hE : EqOK P L) (hm : (t, n) ∈ L) (ks : List Int) (hk : ks.length = n) (w : World) : ∀ (l : List MapEntry) (i : Nat), (∀ e ∈ l, ∃ ks' : List Int, ks'.length = n ∧ e.key = aggI ks') →
    ((Instr.findAsking t (aggI ks) l i).run P w = .ok none w ∧ ∀ e ∈ l, e.key ≠ aggI ks) ∨
    (∃ j e, (Instr.findAsking t (aggI ks) l i).run P w = .ok (some (i + j, e.val)) w ∧ l[j]? = some e ∧ e.key = aggI ks)
  | [], i, _ => .inl ⟨by simp [Instr.findAsking], by simp⟩
  | e :: l, i, h => by
    obtain ⟨ks', hl, he⟩ := h e (by simp)
    have heq := (hE t n hm ks ks' hk hl w (.tmp 0) (.tmp 0)).2.2
    rw [← he] at heq
    by_cases hkk : ks = ks'
    · refine .inr ⟨0, e, ?_, rfl, by rw [he, hkk]⟩
      have hb : (ks == ks') = true := by simpa using hkk
      simp [Instr.findAsking, Sem.run_bind, heq, hb]
    · have hb : (ks == ks') = false := by simpa using hkk
      have hne : e.key ≠ aggI ks := by rw [he]; intro h; exact hkk (aggI_inj h).symm
      have hrun : (Instr.findAsking t (aggI ks) (e :: l) i).run P w = (Instr.findAsking t (aggI ks) l (i + 1)).run P w := by
        simp [Instr.findAsking, Sem.run_bind, heq, hb]
      rcases findAsking_ints hE hm ks hk w l (i + 1) (fun e he => h e (by simp [he])) with ⟨h1, h2⟩ | ⟨j, e', h1, h2, h3⟩
      · refine .inl ⟨by rw [hrun, h1], fun e' he' => ?_⟩
        rcases List.mem_cons.1 he' with rfl | he'
        · exact hne
        · exact h2 e' he'
      · exact .inr ⟨j + 1, e', by rw [hrun, h1, show i + 1 + j = i + (j + 1) from by omega], by simpa using h2, h3⟩

def SetKObj (n : Nat) (S : List (List Int)) (x : Obj) : Prop :=
  ∃ es clock, x = .map es clock ∧ (∀ e ∈ es.toList, ∃ ks, ks ∈ S ∧ e.key = aggI ks ∧ e.val = .bool true) ∧ (∀ ks ∈ S, ∃ e ∈ es.toList, e.key = aggI ks) ∧ ∀ ks ∈ S, ks.length = n

def intsSC : List SC → Option (List Int)
  | [] => some []
  | .v (.int .i64 z) :: r => match intsSC r with
    | some l => some (z :: l)
    | none => none
  | _ :: _ => none

theorem intsSC_rel {ρ : Asg} : ∀ {l : List SC} {ks : List Int} {vs : List Value}, intsSC l = some ks → relL ρ l vs → vs = ks.map (Value.int .i64)
  | [], ks, vs, h, hr => by
    cases h
    cases vs with
    | nil => rfl
    | cons v vs => exact hr.elim
  | c :: r, ks, [], _, hr => hr.elim
  | c :: r, ks, v :: vs, h, hr => by
    cases c with
    | v x =>
      cases x with
      | int k z =>
        cases k <;> simp only [intsSC] at h <;> try (cases h; done)
        cases hl : intsSC r with
        | none => rw [hl] at h; cases h
        | some l =>
          rw [hl] at h
          cases h
          have h1 : v = .int .i64 z := hr.1
          rw [h1, intsSC_rel hl hr.2]; rfl
      | _ => simp [intsSC] at h
    | _ => simp [intsSC] at h

def lookupSK (B : Tabs) (et0 : TypeId) (kt0 n : Nat) (t : TypeId) (x y : SV) (H : Heap) (K : Eff → Prop) : Prop :=
  match lookT B.T t, x, y with
  | some ⟨.map kt et, _, _, _⟩, .c (.m k), .agg l => (match look H k, intsSC l with
    | some (true, .raw Φ), some ks => bif Nat.beq et et0 && (Nat.beq kt kt0 && Nat.beq (lenL ks) n) then
        ∃ S, Φ = SetKObj n S ∧ K ⟨.c (.v (.bool (decide (ks ∈ S)))), [k], [], []⟩ else False
    | _, _ => False)
  | _, _, _ => False
where lenL : List Int → Nat
  | [] => 0
  | _ :: r => lenL r + 1

theorem lenL_eq (l : List Int) : lookupSK.lenL l = l.length := by induction l <;> simp [lookupSK.lenL, *]

end Sx
end Go

