/-
  A part of the proof that a law answers true: lemmas of a symbolic walk, plain functions, or contracts of the functions walked (Pm23, Pm24, Pm25, B2, B3, Pm26, Pm27, Pm28, B4, B5, B6, B7, B8, B9, Sx44, Sx31, Sx43). Conditions: none.
-/
import Derived.Test.YtagedjfjcnemoaaGreatPart13
import Derived.Test.YtagedjfjcnemoaaGreatPart11
import Derived.Test.YtagedjfjcnemoaaGreatPart07
import Derived.WideKeyRuns
set_option maxRecDepth 100000
set_option linter.unusedVariables false
set_option linter.unusedSimpArgs false
/-
  Plain lemmas, part 23: the system of valid readings is a proper one. Conditions: none; plain lemmas.
-/
namespace Go
namespace Proofs

theorem inc_get {α : Type} {lt : α → α → Bool} {l : List α} (h : Inc lt l) {i j : Nat} {a b : α} (hij : i < j) (ha : l[i]? = some a) (hb : l[j]? = some b) : lt a b = true := by
  obtain ⟨h1, rfl⟩ := List.getElem?_eq_some_iff.1 ha
  obtain ⟨h2, rfl⟩ := List.getElem?_eq_some_iff.1 hb
  exact List.pairwise_iff_getElem.1 h i j h1 h2 hij

theorem mom_next {r : Rd} {more : List Mom} {j : Nat} {a b : Mom} (ha : (momsF r more)[j]? = some a) (hb : (momsF r more)[j + 1]? = some b) (h : a.bal = b.bal) : a.tick < b.tick := by
  have := inc_get (distS_inc momLt_ok _) (Nat.lt_succ_self j) ha hb
  simp [momLt] at this; omega

structure DrfOK (bs : List Bal) (a b : Mom) : Prop where
  nn : 0 ≤ (findD bs a.bal).dr * (b.tick - a.tick)
  le : (findD bs a.bal).dr * (b.tick - a.tick) ≤ 1000000000

theorem drf_ok {r : Rd} (h : RdOK r) {more : List Mom} (hm : ∀ m ∈ more, momOK r m = true) {j : Nat} {a b : Mom} (ha : (momsF r more)[j]? = some a) (hb : (momsF r more)[j + 1]? = some b) (hab : a.bal = b.bal) : DrfOK r.bs a b := by
  have h1 := h.mom hm (List.mem_of_getElem? ha)
  have h2 := h.mom hm (List.mem_of_getElem? hb)
  have h3 := mom_next ha hb hab
  simp [momOK, withinF] at h1 h2
  have hv := valid_bd (h.findD h1.1)
  obtain ⟨_, _, _, hd, _⟩ := hv
  obtain ⟨_, h1⟩ := h1
  obtain ⟨_, h2⟩ := h2
  refine ⟨Int.mul_nonneg hd.1 (by omega), ?_⟩
  have := Int.mul_le_mul hd.2 (show b.tick - a.tick ≤ 1000000 by omega) (by omega) (by omega : (0:Int) ≤ 1000)
  omega

theorem proper_of {f t m i : Int} {n : Nat} (h1 : f ≠ t) (h2 : -1 ≤ f ∧ f < n) (h3 : -1 ≤ t ∧ t < n) (h4 : -33554432 ≤ m ∧ m ≤ 33554432) (h5 : 0 ≤ i ∧ i ≤ 1099511627776) : properF ⟨f, t, m, i⟩ n = true := by
  simp only [properF, withinF, Bool.and_eq_true, bne_iff_ne, ne_eq, decide_eq_true_eq]
  refine ⟨h1, ⟨h2.1, by omega⟩, ⟨h3.1, by omega⟩, h4, h5⟩

theorem lnkR_proper {r : Rd} (h : RdOK r) {more : List Mom} (hm : ∀ m ∈ more, momOK r m = true) : ∀ l ∈ lnkR r more, properF l (boxR r more).length = true := by
  intro l hl
  rw [boxR_len]
  have hwO : ∀ w ∈ r.ws, w.o ∈ objsF r := fun w hw => objsF_mem.2 ⟨w, hw, rfl⟩
  have hwM : ∀ w ∈ r.ws, wMom w ∈ momsF r more := fun w hw => momsF_mem.2 (.inl ⟨w, hw, rfl⟩)
  have hcM : ∀ c ∈ r.cs, cMom c ∈ momsF r more := fun c hc => momsF_mem.2 (.inr (.inl ⟨c, hc, rfl⟩))
  have hmo := fun m (hmm : m ∈ momsF r more) => h.mom hm hmm
  have hdr := fun (j : Nat) (a b : Mom) (ha : (momsF r more)[j]? = some a) (hb : (momsF r more)[j + 1]? = some b) hab => drf_ok h hm ha hb hab
  unfold lnkR linksR at hl
  generalize objsF r = os at *
  generalize momsF r more = ms at *
  simp only [List.mem_append, List.mem_flatMap] at hl
  rcases hl with ⟨w, hw, hl⟩ | ⟨c, hc, hl⟩ | ⟨m, hmm, hl⟩ | hl | ⟨o, ho, hl⟩ | ⟨o, ho, hl⟩
  · have hw := (sortK_perm Wgh.id r.ws).mem_iff.1 hw
    obtain ⟨hb, hid, _, _, hsh⟩ := h.w hw
    obtain ⟨_, hv, _⟩ := valid_bd (h.findD hb)
    obtain ⟨e1, l1⟩ := plF_mem (hwO w hw)
    obtain ⟨e2, l2⟩ := plF_mem (hwM w hw)
    simp only [wghLs, List.mem_cons, List.not_mem_nil, or_false] at hl
    rcases hl with rfl | rfl
    · exact proper_of (by omega) (by omega) (by omega) (by omega) (by omega)
    · exact proper_of (by omega) (by omega) (by omega) (by omega) (by omega)
  · have hc := (sortK_perm Chk.id r.cs).mem_iff.1 hc
    obtain ⟨hb, hid, _, hms, hsh⟩ := h.c hc
    obtain ⟨_, hv, _, _, hcap⟩ := valid_bd (h.findD hb)
    obtain ⟨e2, l2⟩ := plF_mem (hcM c hc)
    simp only [chkLs, List.mem_cons, List.not_mem_nil, or_false] at hl
    rcases hl with rfl | rfl
    · exact proper_of (by omega) (by omega) (by omega) (by omega) (by omega)
    · exact proper_of (by omega) (by omega) (by omega) (by omega) (by omega)
  · have hb := hmo m hmm
    simp [momOK] at hb
    obtain ⟨s1, s2, s3, s4⟩ := side_bd h m hb.1
    obtain ⟨e2, l2⟩ := plF_mem hmm
    simp only [momLs, List.mem_cons, List.not_mem_nil, or_false] at hl
    rcases hl with rfl | rfl
    · exact proper_of (by omega) (by omega) (by omega) (by omega) (by omega)
    · exact proper_of (by omega) (by omega) (by omega) (by omega) (by omega)
  · obtain ⟨j, a, b, ha, hb, hab, hl⟩ := drfLs_mem hl
    have hd := hdr j a b ha hb hab
    obtain ⟨d1, d2⟩ := hd
    have hj : j + 1 < ms.length := (List.getElem?_eq_some_iff.1 hb).1
    generalize (findD r.bs a.bal).dr * (b.tick - a.tick) = d at *
    rcases hl with rfl | rfl
    · exact proper_of (by omega) (by omega) (by omega) (by omega) (by omega)
    · exact proper_of (by omega) (by omega) (by omega) (by omega) (by omega)
  all_goals
    unfold cvrLs at hl
    cases hc : (o.st == _ && os.contains _) with
    | false => rw [hc] at hl; cases hl
    | true =>
      rw [hc] at hl
      simp only [cond_true, List.mem_cons, List.not_mem_nil, or_false] at hl
      subst hl
      simp only [Bool.and_eq_true, beq_iff_eq, List.contains_iff_mem] at hc
      obtain ⟨e1, l1⟩ := plF_mem ho
      obtain ⟨e2, l2⟩ := plF_mem hc.2
      refine proper_of (fun he => ?_) (by omega) (by omega) (by omega) (by omega)
      have := congrArg Thg.st (plF_inj hc.2 he)
      have h1 := hc.1
      simp only at this
      omega

theorem boxR_ok {r : Rd} (h : RdOK r) (more : List Mom) : ∀ b ∈ boxR r more, b.1 ≤ b.2 ∧ -16777216 ≤ b.1 ∧ b.2 ≤ 16777216 := by
  intro b hb
  unfold boxR boxesR at hb
  rcases List.mem_append.1 hb with hb | hb
  · obtain ⟨o, ho, rfl⟩ := List.mem_map.1 hb
    have := cap_bd (bs := r.bs) (o := o) r.ws (n := 10000000) (fun w hw => by have := valid_bd (h.findD (h.w hw).1); omega) (by omega)
    unfold capF
    simp only
    omega
  · obtain ⟨o, ho, rfl⟩ := List.mem_map.1 hb
    simp only
    omega

theorem rdR_len {r : Rd} (h : RdOK r) {more : List Mom} (hm : more.length ≤ 2) : (boxR r more).length ≤ 240 ∧ (lnkR r more).length ≤ 1200 := by
  have h1 := objsF_len r
  have h2 := momsF_len r more
  have h3 := lnkR_len r more
  have := h.nr
  rw [boxR_len]
  omega

end Proofs
end Go

/-
  Plain lemmas, part 24: a moment's correction, as the notices say it in whatever order. Conditions: none; definitions and plain lemmas.
-/
namespace Go
namespace Proofs

def BestN (l : List Ntc) (val : Ntc → Int) (v i : Int) : Prop := ∃ n ∈ l, val n = v ∧ n.id = i ∧ ∀ k ∈ l, val k < v ∨ (val k = v ∧ i ≤ k.id)

theorem BestN.unique {l l' : List Ntc} {val : Ntc → Int} {v i v' i' : Int} (hm : ∀ n, n ∈ l ↔ n ∈ l') (h : BestN l val v i) (h' : BestN l' val v' i') : v = v' ∧ i = i' := by
  obtain ⟨n, hn, h1, h2, h3⟩ := h
  obtain ⟨n', hn', h1', h2', h3'⟩ := h'
  have a := h3 n' ((hm n').2 hn')
  have b := h3' n ((hm n).1 hn)
  omega

theorem BestN.one {val : Ntc → Int} (n : Ntc) : BestN [n] val (val n) n.id := ⟨n, by simp, rfl, rfl, fun k hk => by simp at hk; subst hk; exact .inr ⟨rfl, Int.le_refl _⟩⟩

theorem BestN.up {l : List Ntc} {val : Ntc → Int} {v i : Int} {n : Ntc} (h : BestN l val v i) (hn : v < val n ∨ (val n = v ∧ n.id ≤ i)) : BestN (l ++ [n]) val (val n) n.id := by
  obtain ⟨m, hm, h1, h2, h3⟩ := h
  refine ⟨n, by simp, rfl, rfl, fun k hk => ?_⟩
  rcases List.mem_append.1 hk with hk | hk
  · have := h3 k hk; omega
  · simp at hk; subst hk; omega

theorem BestN.stay {l : List Ntc} {val : Ntc → Int} {v i : Int} {n : Ntc} (h : BestN l val v i) (hn : val n < v ∨ (val n = v ∧ i ≤ n.id)) : BestN (l ++ [n]) val v i := by
  obtain ⟨m, hm, h1, h2, h3⟩ := h
  refine ⟨m, by simp [hm], h1, h2, fun k hk => ?_⟩
  rcases List.mem_append.1 hk with hk | hk
  · exact h3 k hk
  · simp at hk; subst hk; exact hn

def hitF (m : Mom) (n : Ntc) : Bool := (n.bal == m.bal) && withinF m.tick n.wlo n.whi

structure SidOK (l : List Ntc) (lo0 hi0 : Int) (s : Sid) : Prop where
  none : l = [] → s = ⟨lo0, hi0, 0, 0, false⟩
  some : l ≠ [] → s.some = true ∧ BestN l Ntc.slo s.lo s.loI ∧ BestN l (fun n => -n.shi) (-s.hi) s.hiI

def sideStepR (m : Mom) (s : Sid) (n : Ntc) : Sid :=
  bif hitF m n then
    { lo := bif !s.some || (decide (s.lo < n.slo) || (n.slo == s.lo && decide (n.id < s.loI))) then n.slo else s.lo
      loI := bif !s.some || (decide (s.lo < n.slo) || (n.slo == s.lo && decide (n.id < s.loI))) then n.id else s.loI
      hi := bif !s.some || (decide (n.shi < s.hi) || (n.shi == s.hi && decide (n.id < s.hiI))) then n.shi else s.hi
      hiI := bif !s.some || (decide (n.shi < s.hi) || (n.shi == s.hi && decide (n.id < s.hiI))) then n.id else s.hiI
      some := true }
  else s

theorem sidR_step {m : Mom} {l : List Ntc} {lo0 hi0 : Int} {s : Sid} {n : Ntc} (h : SidOK (l.filter (hitF m)) lo0 hi0 s) : SidOK ((l ++ [n]).filter (hitF m)) lo0 hi0 (sideStepR m s n) := by
  rw [List.filter_append]
  unfold sideStepR
  cases hn : hitF m n with
  | false =>
    simp only [List.filter_cons, hn, Bool.false_eq_true, if_false, List.filter_nil, List.append_nil, cond_false]
    exact h
  | true =>
    simp only [List.filter_cons, hn, if_true, List.filter_nil, cond_true]
    refine ⟨fun h0 => by simp at h0, fun _ => ⟨rfl, ?_⟩⟩
    by_cases hl : l.filter (hitF m) = []
    · have := h.none hl
      subst this
      rw [hl]
      exact ⟨BestN.one n, BestN.one (val := fun n => -n.shi) n⟩
    · obtain ⟨h1, h2, h3⟩ := h.some hl
      rw [h1]
      simp only [Bool.not_true, Bool.false_or]
      refine ⟨?_, ?_⟩
      · cases hc : (decide (s.lo < n.slo) || (n.slo == s.lo && decide (n.id < s.loI))) with
        | true => simp only [cond_true]; exact h2.up (by simp at hc; omega)
        | false => simp only [cond_false]; exact h2.stay (by simp at hc; omega)
      · cases hc : (decide (n.shi < s.hi) || (n.shi == s.hi && decide (n.id < s.hiI))) with
        | true => simp only [cond_true]; exact h3.up (n := n) (by simp at hc; omega)
        | false => simp only [cond_false]; exact h3.stay (n := n) (by simp at hc; omega)

theorem sidP_step {m : Mom} {l : List Ntc} {lo0 hi0 : Int} {s : Sid} {n : Ntc} (h : SidOK (l.filter (hitF m)) lo0 hi0 s) (hid : ∀ k ∈ l, k.id ≤ n.id) : SidOK ((l ++ [n]).filter (hitF m)) lo0 hi0 (sideStep m s n) := by
  rw [List.filter_append]
  have hst : sideStep m s n = bif hitF m n then
    { lo := bif !s.some || decide (s.lo < n.slo) then n.slo else s.lo
      loI := bif !s.some || decide (s.lo < n.slo) then n.id else s.loI
      hi := bif !s.some || decide (n.shi < s.hi) then n.shi else s.hi
      hiI := bif !s.some || decide (n.shi < s.hi) then n.id else s.hiI
      some := true } else s := rfl
  rw [hst]
  cases hn : hitF m n with
  | false =>
    simp only [List.filter_cons, hn, Bool.false_eq_true, if_false, List.filter_nil, List.append_nil, cond_false]
    exact h
  | true =>
    simp only [List.filter_cons, hn, if_true, List.filter_nil, cond_true]
    refine ⟨fun h0 => by simp at h0, fun _ => ⟨rfl, ?_⟩⟩
    by_cases hl : l.filter (hitF m) = []
    · have := h.none hl
      subst this
      rw [hl]
      exact ⟨BestN.one n, BestN.one (val := fun n => -n.shi) n⟩
    · obtain ⟨h1, h2, h3⟩ := h.some hl
      have e2 : s.loI ≤ n.id := by obtain ⟨k, hk, _, e, _⟩ := h2; rw [← e]; exact hid k (List.mem_filter.1 hk).1
      have e3 : s.hiI ≤ n.id := by obtain ⟨k, hk, _, e, _⟩ := h3; rw [← e]; exact hid k (List.mem_filter.1 hk).1
      rw [h1]
      simp only [Bool.not_true, Bool.false_or]
      refine ⟨?_, ?_⟩
      · cases hc : decide (s.lo < n.slo) with
        | true => simp only [cond_true]; exact h2.up (by simp at hc; omega)
        | false => simp only [cond_false]; exact h2.stay (by simp at hc; omega)
      · cases hc : decide (n.shi < s.hi) with
        | true => simp only [cond_true]; exact h3.up (n := n) (by simp at hc; omega)
        | false => simp only [cond_false]; exact h3.stay (n := n) (by simp at hc; omega)

theorem sidR_all (m : Mom) (lo0 hi0 : Int) : ∀ (q l : List Ntc) (s : Sid), SidOK (l.filter (hitF m)) lo0 hi0 s → SidOK ((l ++ q).filter (hitF m)) lo0 hi0 (q.foldl (sideStepR m) s)
  | [], l, s, h => by simpa using h
  | n :: q, l, s, h => by
    have := sidR_all m lo0 hi0 q (l ++ [n]) _ (sidR_step h)
    simpa using this

theorem sidP_all (m : Mom) (lo0 hi0 : Int) : ∀ (q l : List Ntc) (s : Sid), (l ++ q).Pairwise (fun a b => a.id ≤ b.id) → SidOK (l.filter (hitF m)) lo0 hi0 s → SidOK ((l ++ q).filter (hitF m)) lo0 hi0 (q.foldl (sideStep m) s)
  | [], l, s, _, h => by simpa using h
  | n :: q, l, s, hp, h => by
    have hid : ∀ k ∈ l, k.id ≤ n.id := fun k hk => (List.pairwise_append.1 hp).2.2 k hk n (by simp)
    have := sidP_all m lo0 hi0 q (l ++ [n]) _ (by simpa using hp) (sidP_step h hid)
    simpa using this

theorem SidOK.unique {l l' : List Ntc} {lo0 hi0 : Int} {s s' : Sid} (hm : ∀ n, n ∈ l ↔ n ∈ l') (h : SidOK l lo0 hi0 s) (h' : SidOK l' lo0 hi0 s') : s = s' := by
  by_cases hl : l = []
  · have hl' : l' = [] := by
      subst hl
      exact List.eq_nil_iff_forall_not_mem.2 fun n hn => by have := (hm n).2 hn; simp at this
    rw [h.none hl, h'.none hl']
  · have hl' : l' ≠ [] := by
      rintro rfl
      exact hl (List.eq_nil_iff_forall_not_mem.2 fun n hn => by have := (hm n).1 hn; simp at this)
    obtain ⟨a1, a2, a3⟩ := h.some hl
    obtain ⟨b1, b2, b3⟩ := h'.some hl'
    obtain ⟨c1, c2⟩ := a2.unique hm b2
    obtain ⟨d1, d2⟩ := a3.unique hm b3
    cases s; cases s'
    simp only [Sid.mk.injEq] at *
    exact ⟨c1, by omega, c2, d2, a1.trans b1.symm⟩

theorem side_eq (r : Rd) (m : Mom) : r.ns.foldl (sideStepR m) ⟨(findD r.bs m.bal).lo, (findD r.bs m.bal).hi, 0, 0, false⟩ = sideF r m := by
  have h1 := sidR_all m (findD r.bs m.bal).lo (findD r.bs m.bal).hi r.ns [] _ ⟨fun _ => rfl, fun h => absurd rfl h⟩
  have h2 := sidP_all m (findD r.bs m.bal).lo (findD r.bs m.bal).hi (sortK Ntc.id r.ns) [] _ (by rw [List.nil_append]; exact sortK_le _ _) ⟨fun _ => rfl, fun h => absurd rfl h⟩
  refine h1.unique (fun n => ?_) h2
  simp only [List.nil_append, List.mem_filter, (sortK_perm Ntc.id r.ns).mem_iff]

end Proofs
end Go

/-
  Plain lemmas, part 25: picking the next greater number again and again sorts. Conditions: none; definitions and plain lemmas.
-/
namespace Go
namespace Proofs

def lastK {α : Type} (key : α → Int) (l : List α) : Nat → Int
  | 0 => 0
  | k + 1 => match (sortK key l)[k]? with
    | some x => key x
    | none => 0

theorem lastK_succ {α : Type} {key : α → Int} {l : List α} {k : Nat} {x : α} (h : (sortK key l)[k]? = some x) : lastK key l (k + 1) = key x := by
  simp only [lastK, h]

theorem lastK_lt {α : Type} {key : α → Int} {l : List α} (hd : (l.map key).Nodup) (hp : ∀ x ∈ l, 0 < key x) {k j : Nat} {y : α} (hk : k ≤ l.length) (hy : (sortK key l)[j]? = some y) : lastK key l k < key y ↔ k ≤ j := by
  have hinc := sortK_inc hd
  have hym : y ∈ l := (sortK_perm key l).mem_iff.1 (List.mem_of_getElem? hy)
  cases k with
  | zero => simp only [lastK]; exact ⟨fun _ => Nat.zero_le _, fun _ => hp y hym⟩
  | succ k =>
    have hk' : k < (sortK key l).length := by rw [sortK_len]; omega
    have hx : (sortK key l)[k]? = some (sortK key l)[k] := List.getElem?_eq_getElem hk'
    rw [lastK_succ hx]
    constructor
    · intro h
      refine Nat.lt_of_not_le fun hle => ?_
      rcases Nat.lt_or_eq_of_le hle with hlt | rfl
      · have := inc_get hinc hlt hy hx
        simp [idLt] at this; omega
      · rw [hx] at hy
        have := Option.some.inj hy
        rw [this] at h; omega
    · intro h
      have := inc_get hinc (show k < j by omega) hx hy
      simpa [idLt] using this

theorem pick_next {α : Type} {key : α → Int} {l : List α} (hd : (l.map key).Nodup) (hp : ∀ x ∈ l, 0 < key x) {k : Nat} (hk : k < l.length) {x : α} (hx : x ∈ l) (h1 : lastK key l k < key x) (h2 : ∀ y ∈ l, lastK key l k < key y → key x ≤ key y) :
    (sortK key l)[k]? = some x := by
  have hk' : k < (sortK key l).length := by rw [sortK_len]; exact hk
  have hy : (sortK key l)[k]? = some (sortK key l)[k] := List.getElem?_eq_getElem hk'
  have hym : (sortK key l)[k] ∈ l := (sortK_perm key l).mem_iff.1 (List.getElem_mem hk')
  have h3 := h2 _ hym ((lastK_lt hd hp (Nat.le_of_lt hk) hy).2 (Nat.le_refl _))
  obtain ⟨j, hj⟩ := List.mem_iff_getElem?.1 ((sortK_perm key l).mem_iff.2 hx)
  have h4 := (lastK_lt hd hp (Nat.le_of_lt hk) hj).1 h1
  rcases Nat.lt_or_eq_of_le h4 with hlt | rfl
  · have := inc_get (sortK_inc hd) hlt hy hj
    simp [idLt] at this; omega
  · exact hj

theorem pick_some {α : Type} {key : α → Int} {l : List α} (hd : (l.map key).Nodup) (hp : ∀ x ∈ l, 0 < key x) {k : Nat} (hk : k < l.length) : ∃ x ∈ l, lastK key l k < key x := by
  have hk' : k < (sortK key l).length := by rw [sortK_len]; exact hk
  exact ⟨_, (sortK_perm key l).mem_iff.1 (List.getElem_mem hk'), (lastK_lt hd hp (Nat.le_of_lt hk) (List.getElem?_eq_getElem hk')).2 (Nat.le_refl _)⟩

def Found {α : Type} (key : α → Int) (l : List α) (last : Int) (i : Nat) (best : Int) : Prop :=
  (best = -1 ∧ ∀ x ∈ l.take i, ¬ last < key x) ∨ (∃ (j : Nat) (x : α), best = j ∧ j < i ∧ l[j]? = some x ∧ last < key x ∧ ∀ y ∈ l.take i, last < key y → key x ≤ key y)

theorem found_zero {α : Type} (key : α → Int) (l : List α) (last : Int) : Found key l last 0 (-1) := .inl ⟨rfl, fun x hx => by simp at hx⟩

theorem take_succ_mem {α : Type} {l : List α} {i : Nat} (h : i < l.length) {x : α} : x ∈ l.take (i + 1) ↔ x ∈ l.take i ∨ x = l[i] := by
  rw [List.take_add_one, List.getElem?_eq_getElem h, List.mem_append]
  show _ ∨ x ∈ [l[i]] ↔ _
  rw [List.mem_singleton]

theorem found_take {α : Type} {key : α → Int} {l : List α} {last : Int} {i : Nat} {best : Int} (h : i < l.length) (hf : Found key l last i best) (h1 : last < key l[i]) (h2 : best < 0 ∨ ∃ x, l[best.toNat]? = some x ∧ key l[i] < key x) : Found key l last (i + 1) i := by
  refine .inr ⟨i, l[i], rfl, Nat.lt_succ_self i, List.getElem?_eq_getElem h, h1, fun y hy hl => ?_⟩
  rcases (take_succ_mem h).1 hy with hy | rfl
  · rcases hf with ⟨_, hn⟩ | ⟨j, x, rfl, hj, hx, hlx, hmin⟩
    · exact absurd hl (hn y hy)
    · rcases h2 with h2 | ⟨x', hx', hlt⟩
      · omega
      · simp at hx'
        rw [hx] at hx'
        cases hx'
        have := hmin y hy hl; omega
  · exact Int.le_refl _

theorem found_keep {α : Type} {key : α → Int} {l : List α} {last : Int} {i : Nat} {best : Int} (h : i < l.length) (hf : Found key l last i best) (h1 : ¬ last < key l[i] ∨ ∃ x, 0 ≤ best ∧ l[best.toNat]? = some x ∧ ¬ key l[i] < key x) : Found key l last (i + 1) best := by
  rcases hf with ⟨rfl, hn⟩ | ⟨j, x, rfl, hj, hx, hlx, hmin⟩
  · refine .inl ⟨rfl, fun y hy => ?_⟩
    rcases (take_succ_mem h).1 hy with hy | rfl
    · exact hn y hy
    · rcases h1 with h1 | ⟨_, h0, _⟩
      · exact h1
      · omega
  · refine .inr ⟨j, x, rfl, by omega, hx, hlx, fun y hy hl => ?_⟩
    rcases (take_succ_mem h).1 hy with hy | rfl
    · exact hmin y hy hl
    · rcases h1 with h1 | ⟨x', _, hx', hle⟩
      · exact absurd hl h1
      · simp at hx'
        rw [hx] at hx'
        cases hx'
        omega

theorem found_all {α : Type} {key : α → Int} {l : List α} (hd : (l.map key).Nodup) (hp : ∀ x ∈ l, 0 < key x) {k : Nat} (hk : k < l.length) {best : Int} (hf : Found key l (lastK key l k) l.length best) :
    ∃ (j : Nat) (x : α), best = j ∧ l[j]? = some x ∧ (sortK key l)[k]? = some x := by
  rcases hf with ⟨_, hn⟩ | ⟨j, x, rfl, _, hx, hlx, hmin⟩
  · obtain ⟨x, hx, hl⟩ := pick_some hd hp hk
    exact absurd hl (hn x (by rw [List.take_length]; exact hx))
  · exact ⟨j, x, rfl, hx, pick_next hd hp hk (List.mem_of_getElem? hx) hlx fun y hy => hmin y (by rw [List.take_length]; exact hy)⟩

end Proofs
end Go

namespace Go.Proofs
open Go.Sx

structure Sem (r : Rd) (os : List Thg) (ms : List Mom) (x : Thg → Int) (c : Mom → Int) : Prop where
  obj : ∀ o ∈ os, 0 ≤ x o ∧ x o ≤ capF r o
  mom : ∀ m ∈ ms, -1000000 ≤ c m ∧ c m ≤ 1000000
  sid : ∀ m ∈ ms, (sideF r m).lo ≤ c m ∧ c m ≤ (sideF r m).hi
  wgh : ∀ w ∈ r.ws, x w.o - c (wMom w) ≤ w.shown + (findD r.bs w.bal).half ∧ c (wMom w) - x w.o ≤ (findD r.bs w.bal).half - w.shown
  chk : ∀ k ∈ r.cs, c (cMom k) ≤ k.mass - k.shown + (findD r.bs k.bal).half ∧ -c (cMom k) ≤ k.shown + (findD r.bs k.bal).half - k.mass
  drf : ∀ a ∈ ms, ∀ b ∈ ms, a.bal = b.bal → a.tick < b.tick → c b - c a ≤ (findD r.bs a.bal).dr * (b.tick - a.tick) ∧ c a - c b ≤ (findD r.bs a.bal).dr * (b.tick - a.tick)
  cvr : ∀ o ∈ os, ∀ q ∈ os, (o.st = 2 ∧ q = { o with st := 1 } ∨ o.st = 4 ∧ q = { o with st := 3 }) → x o ≤ x q

theorem rd_sys {r : Rd} (h : RdOK r) {more : List Mom} (hl : more.length ≤ 2) (hm : ∀ m ∈ more, momOK r m = true) : SysOK (boxR r more) (lnkR r more) := by
  obtain ⟨h1, h2⟩ := rdR_len h hl
  exact ⟨h1, h2, boxR_ok h more, lnkR_proper h hm⟩

end Go.Proofs

namespace Go.Proofs
open Go.Sx

theorem objsF_nodup (r : Rd) : (objsF r).Nodup := (distS_inc thgLt_ok _).nodup thgLt_ok.irr
theorem momsF_nodup (r : Rd) (more : List Mom) : (momsF r more).Nodup := (distS_inc momLt_ok _).nodup momLt_ok.irr

instance (bs : List (Int × Int)) (ls : List Lnk) : Decidable (Calm bs ls 0) := inferInstanceAs (Decidable (_ = _))

def betweenF (bs : List (Int × Int)) (ls : List Lnk) (a b : Int) : (Int × Int) × Int :=
  if Calm bs ls 0 then ((-mostF bs.length (graphF bs ls 0) b a, mostF bs.length (graphF bs ls 0) a b), 0) else ((0, 0), 9)

def massV (r : Rd) (o : Thg) : (Int × Int) × Int := if o ∈ objsF r then betweenF (boxR r []) (lnkR r []) (-1) (plF (objsF r) o) else ((0, 0), 5)
def massF (r : Rd) (o : Thg) : (Int × Int) × Int := if checkR r = 0 then massV r o else ((0, 0), checkR r)
def lossF (r : Rd) (a b : Thg) : (Int × Int) × Int := if checkR r = 0 then (if a ∈ objsF r ∧ b ∈ objsF r then betweenF (boxR r []) (lnkR r []) (plF (objsF r) b) (plF (objsF r) a) else ((0, 0), 5)) else ((0, 0), checkR r)
def driftedF (r : Rd) (m : Mom) : (Int × Int) × Int :=
  if checkR r = 0 then (if momOK r m = true then betweenF (boxR r [m]) (lnkR r [m]) (-1) ((objsF r).length + plF (momsF r [m]) m) else ((0, 0), 1)) else ((0, 0), checkR r)
end Go.Proofs

/-
  Plain lemmas, part 26: readings in another order; capacities; which numbers there are. Conditions: none; definitions and plain lemmas.
-/
namespace Go
namespace Proofs

theorem cap_iff {bs : List Bal} {o : Thg} {v : Int} : ∀ {ws : List Wgh} {n : Int}, v ≤ ws.foldl (capStep bs o) n ↔ v ≤ n ∧ ∀ w ∈ ws, w.o = o → v ≤ (findD bs w.bal).cap
  | [], n => by simp
  | w :: r, n => by
    simp only [List.foldl_cons, List.mem_cons, forall_eq_or_imp]
    rw [cap_iff (ws := r)]
    unfold capStep
    cases hb : w.o == o with
    | true =>
      have hb : w.o = o := by simpa using hb
      simp only [cond_true]
      constructor
      · rintro ⟨h1, h2⟩; exact ⟨by omega, fun _ => by omega, h2⟩
      · rintro ⟨h1, h2, h3⟩; have := h2 hb; exact ⟨by omega, h3⟩
    | false =>
      have hb : w.o ≠ o := by simpa using hb
      simp only [cond_false]
      constructor
      · rintro ⟨h1, h2⟩; exact ⟨h1, fun h => absurd h hb, h2⟩
      · rintro ⟨h1, _, h3⟩; exact ⟨h1, h3⟩

theorem capF_iff {r : Rd} {o : Thg} {v : Int} : v ≤ capF r o ↔ v ≤ 10000000 ∧ ∀ w ∈ r.ws, w.o = o → v ≤ (findD r.bs w.bal).cap := cap_iff

theorem RdOK.cN {r : Rd} (h : RdOK r) : (r.cs.map Chk.id).Nodup := (List.nodup_append.1 h.ids).1
theorem RdOK.nN {r : Rd} (h : RdOK r) : (r.ns.map Ntc.id).Nodup := (List.nodup_append.1 (List.nodup_append.1 h.ids).2.1).1
theorem RdOK.wN {r : Rd} (h : RdOK r) : (r.ws.map Wgh.id).Nodup := (List.nodup_append.1 (List.nodup_append.1 h.ids).2.1).2.1

def allIds (r : Rd) : List Int := r.cs.map Chk.id ++ (r.ns.map Ntc.id ++ r.ws.map Wgh.id)
def idsR (r : Rd) : List Int := distS (fun a b : Int => decide (a < b)) (allIds r)

theorem intLt_ok : LtOK (fun a b : Int => decide (a < b)) where
  irr x := by simp
  tr x y z h1 h2 := by simp at *; omega
  tot x y h := by simp; omega

def lessR (r : Rd) (ids : List Int) : Rd := ⟨r.bs, r.cs.filter (fun c => !ids.contains c.id), r.ns.filter (fun n => !ids.contains n.id), r.ws.filter (fun w => !ids.contains w.id)⟩

theorem less_ok {r : Rd} (h : RdOK r) (ids : List Int) : RdOK (lessR r ids) where
  nb := h.nb
  nr := by
    have h1 := List.length_filter_le (fun c : Chk => !ids.contains c.id) r.cs
    have h2 := List.length_filter_le (fun n : Ntc => !ids.contains n.id) r.ns
    have h3 := List.length_filter_le (fun w : Wgh => !ids.contains w.id) r.ws
    have := h.nr
    show (r.cs.filter _).length + (r.ns.filter _).length + (r.ws.filter _).length ≤ 100
    omega
  bal := h.bal
  balN := h.balN
  chk c hc := h.chk c (List.mem_filter.1 hc).1
  ntc c hc := h.ntc c (List.mem_filter.1 hc).1
  wgh c hc := h.wgh c (List.mem_filter.1 hc).1
  ids := by
    refine List.Nodup.sublist ?_ h.ids
    exact (List.filter_sublist.map _).append ((List.filter_sublist.map _).append (List.filter_sublist.map _))

end Proofs
end Go

/-
  Plain lemmas, part 27: the elements of two lists by their numbers, each once; merging readings. Conditions: none; definitions and plain lemmas.
-/
namespace Go
namespace Proofs

def JoinOK {α : Type} (key : α → Int) (a b : List α) : Prop := ∀ x ∈ a ++ b, ∀ y ∈ a ++ b, key x = key y → x = y

instance {α : Type} [DecidableEq α] (key : α → Int) (a b : List α) : Decidable (JoinOK key a b) := inferInstanceAs (Decidable (∀ x ∈ a ++ b, ∀ y ∈ a ++ b, key x = key y → x = y))

end Proofs
end Go

/-
  Plain lemmas, part 28: what merging gives: valid, in either order, again. Conditions: none; definitions and plain lemmas.
-/
namespace Go
namespace Proofs

end Proofs
end Go

namespace Go.Proofs
open Go.Sx

def boxW (r : Rd) (w : Wgh) : List (Int × Int) := (boxR r [wMom w]).set (plF (objsF r) w.o).toNat (0, min (capF r w.o) (findD r.bs w.bal).cap)

theorem boxW_len (r : Rd) (w : Wgh) : (boxW r w).length = (boxR r [wMom w]).length := by simp [boxW]

theorem boxW_at {r : Rd} {w : Wgh} (ho : w.o ∈ objsF r) : (boxR r [wMom w])[(plF (objsF r) w.o).toNat]? = some (0, capF r w.o) ∧ (plF (objsF r) w.o).toNat < (boxR r [wMom w]).length := by
  obtain ⟨e, l⟩ := plF_mem ho
  have g := plF_get e
  rw [e, Int.toNat_natCast]
  refine ⟨?_, by rw [boxR_len]; omega⟩
  unfold boxR boxesR
  rw [List.getElem?_append_left (by rw [List.length_map]; exact l), List.getElem?_map, g]; rfl

theorem boxW_sys {r : Rd} (h : RdOK r) {w : Wgh} (ho : w.o ∈ objsF r) (hm : momOK r (wMom w) = true) : SysOK (boxW r w) (lnkR r [wMom w]) := by
  have hs := rd_sys h (more := [wMom w]) (by simp) (by simpa using hm)
  refine ⟨by rw [boxW_len]; exact hs.nb, hs.nl, fun b hb => ?_, fun l hl => by rw [boxW_len]; exact hs.lnk l hl⟩
  have hcap : 1 ≤ (findD r.bs w.bal).cap := by
    simp [momOK, wMom] at hm
    have := valid_bd (h.findD hm.1); omega
  have hc1 : 0 ≤ capF r w.o ∧ capF r w.o ≤ 10000000 := by
    have := hs.box _ (List.mem_of_getElem? (boxW_at ho).1)
    refine ⟨this.1, (capF_iff.1 (Int.le_refl _)).1⟩
  rcases List.mem_or_eq_of_mem_set hb with hb | rfl
  · exact hs.box b hb
  · dsimp only; omega

end Go.Proofs

namespace Go.Proofs
open Go.Sx

def rangeW (r : Rd) (w : Wgh) : Int × Int :=
  (-mostF (boxW r w).length (graphF (boxW r w) (lnkR r [wMom w]) 0) (plF (objsF r) w.o) ((objsF r).length + plF (momsF r [wMom w]) (wMom w)),
   mostF (boxW r w).length (graphF (boxW r w) (lnkR r [wMom w]) 0) ((objsF r).length + plF (momsF r [wMom w]) (wMom w)) (plF (objsF r) w.o))

def foreseeV (r : Rd) (w : Wgh) : (Int × Int) × Int :=
  if min 10000000 ((rangeW r w).2 + (findD r.bs w.bal).half) < max 0 ((rangeW r w).1 - (findD r.bs w.bal).half) then ((0, 0), 3)
  else ((max 0 ((rangeW r w).1 - (findD r.bs w.bal).half), min 10000000 ((rangeW r w).2 + (findD r.bs w.bal).half)), 0)

def foreseeF (r : Rd) (w : Wgh) : (Int × Int) × Int :=
  if checkR r = 0 then (if momOK r (wMom w) = true ∧ thgF w.o = true then (if w.o ∈ objsF r then (if Calm (boxW r w) (lnkR r [wMom w]) 0 then foreseeV r w else ((0, 0), 9)) else ((0, 0), 5)) else ((0, 0), 1)) else ((0, 0), checkR r)

end Go.Proofs

namespace Go.Proofs
open Go.Sx

def exSc : Bal := ⟨1, 2, -10, 10, 1, 1000⟩
def exGr : Thg := ⟨1, 1, 0, 1⟩
def exTa : Thg := ⟨1, 1, 0, 2⟩
def exR1 : Rd := ⟨[exSc], [], [], [⟨11, 1, 5, exGr, 500⟩]⟩
def exR2 : Rd := ⟨[exSc], [], [], [⟨11, 1, 5, exGr, 500⟩, ⟨13, 1, 5, exTa, 40⟩]⟩
def exR3 : Rd := ⟨[exSc], [⟨12, 1, 3, 100, 97⟩], [], [⟨11, 1, 5, exGr, 500⟩]⟩
def exR4 : Rd := ⟨[exSc], [⟨12, 1, 5, 100, 97⟩], [], [⟨11, 1, 5, exGr, 500⟩]⟩
def exR5 : Rd := ⟨[exSc], [⟨12, 1, 5, 100, 97⟩], [⟨14, 1, 0, 9, 4, 30⟩], [⟨11, 1, 5, exGr, 500⟩]⟩
def exR6 : Rd := ⟨[exSc], [⟨12, 1, 5, 100, 97⟩], [⟨14, 1, 0, 9, 6, 30⟩], [⟨11, 1, 5, exGr, 500⟩]⟩
theorem exT1 : massF exR1 exGr = ((488, 512), 0) := by decide +kernel
theorem exT2 : driftedF exR1 ⟨1, 5⟩ = ((-10, 10), 0) := by decide +kernel
theorem exT3 : foreseeF exR1 ⟨0, 1, 6, exGr, 0⟩ = ((495, 505), 0) := by decide +kernel
theorem exT4 : lossF exR2 exGr exTa = ((456, 464), 0) := by decide +kernel
theorem exT5 : driftedF exR3 ⟨1, 5⟩ = ((-1, 7), 0) := by decide +kernel
theorem exT6 : driftedF exR4 ⟨1, 5⟩ = ((1, 5), 0) := by decide +kernel
theorem exT7 : massF exR5 exGr = ((502, 507), 0) := by decide +kernel
theorem exT8 : massF exR6 exGr = ((0, 0), 9) := by decide +kernel
theorem exT10 : ((idsR exR5).filter fun i => !(decide (massV (lessR exR5 [i]) exGr = massF exR5 exGr))) = [11, 12, 14] := by decide +kernel
theorem exT11 : ((idsR exR6).filter fun i => decide (Calm (boxR (lessR exR6 [i]) []) (lnkR (lessR exR6 [i]) []) 0)) = [12, 14] := by decide +kernel

end Go.Proofs

namespace Go.Proofs
open Go.Sx

end Go.Proofs

namespace Go.Proofs
open Go.Sx

structure Tiny (r : Rd) (b : Bal) : Prop where
  ok : RdOK r
  bs : r.bs = [b]
  lo : (objsF r).length ≤ 2
  lm : (momsF r []).length ≤ 2

end Go.Proofs

namespace Go.Proofs
open Go.Sx

structure Small (r : Rd) (b : Bal) : Prop where
  tiny : Tiny r b
  cap : b.cap ≤ 6
  lo : -2 ≤ b.lo
  hi : b.hi ≤ 2
  ns : ∀ n ∈ r.ns, -2 ≤ n.slo ∧ n.shi ≤ 2

end Go.Proofs

namespace Go
namespace Sx
open Go.Sort Go.RowKit Go.Proofs Go.Lib

def cmpI (a b : Int) : Int := if a < b then -1 else if b < a then 1 else 0
def orI : List Int → Int
  | [] => 0
  | x :: r => if x = 0 then orI r else x

theorem swo_of {α : Type} {cf : α → α → Int} {lt : α → α → Bool} (ok : LtOK lt) (h : ∀ x y, ltOf cf x y = lt x y) : SWO (ltOf cf) where
  irrefl x := by rw [h]; exact ok.irr x
  trans x y z h1 h2 := by rw [h] at *; exact ok.tr x y z h1 h2
  ntrans x y z h1 h2 := by
    rw [h] at *
    by_cases hxz : lt x z = true
    · exfalso
      by_cases e1 : x = y
      · subst e1; rw [hxz] at h2; cases h2
      by_cases e2 : y = z
      · subst e2; rw [hxz] at h1; cases h1
      rcases ok.tot x y e1 with h3 | h3
      · rw [h3] at h1; cases h1
      · rcases ok.tot y z e2 with h4 | h4
        · rw [h4] at h2; cases h2
        · have := ok.tr _ _ _ h4 h3
          have := ok.tr _ _ _ hxz this
          rw [ok.irr] at this; cases this
    · simpa using hxz

theorem swo_id {α : Type} {cf : α → α → Int} {key : α → Int} (h : ∀ x y, ltOf cf x y = idLt key x y) : SWO (ltOf cf) where
  irrefl x := by rw [h]; simp [idLt]
  trans x y z h1 h2 := by rw [h] at *; simp [idLt] at *; omega
  ntrans x y z h1 h2 := by rw [h] at *; simp [idLt] at *; omega

theorem pdqL_pair {α : Type} [Inhabited α] {cf : α → α → Int} (hO : SWO (ltOf cf)) (xs : List α) : (pdqL cf xs).Pairwise fun x y => ltOf cf y x = false := by
  obtain ⟨_, _, h⟩ := pdqL_size hO xs
  have hl := pdqL_len hO xs
  refine List.pairwise_iff_getElem.2 fun i j hi hj hij => ?_
  have := h i j hij (by omega)
  rw [getElem!_pos (pdqL cf xs) j hj, getElem!_pos (pdqL cf xs) i hi] at this
  exact this

theorem pdqL_perm {α : Type} [Inhabited α] {cf : α → α → Int} (hO : SWO (ltOf cf)) (xs : List α) : (pdqL cf xs).Perm xs := (pdqL_size hO xs).2.1

theorem pdqL_dist {α : Type} [Inhabited α] [DecidableEq α] {cf : α → α → Int} {lt : α → α → Bool} (ok : LtOK lt) (h : ∀ x y, ltOf cf x y = lt x y) (xs : List α) : compS (pdqL cf xs) = distS lt xs := by
  have hO := swo_of ok h
  refine distS_unique ok (compS_inc ok ((pdqL_pair hO xs).imp fun {a b} hab => by rw [← h]; exact hab)) fun z => ?_
  rw [compS_mem, (pdqL_perm hO xs).mem_iff]

theorem pdqL_le {α : Type} [Inhabited α] {cf : α → α → Int} {key : α → Int} (h : ∀ x y, ltOf cf x y = idLt key x y) (xs : List α) : (pdqL cf xs).Pairwise fun x y => key x ≤ key y :=
  (pdqL_pair (swo_id h) xs).imp fun {a b} hab => by rw [h] at hab; simp [idLt] at hab; exact hab

theorem pdqL_sort {α : Type} [Inhabited α] {cf : α → α → Int} {key : α → Int} (h : ∀ x y, ltOf cf x y = idLt key x y) {xs : List α} (hd : (xs.map key).Nodup) : pdqL cf xs = sortK key xs :=
  sortK_unique hd (pdqL_perm (swo_id h) xs) (pdqL_le h xs)

theorem cmp_id {α : Type} (key : α → Int) (x y : α) : ltOf (fun x y => cmpI (key x) (key y)) x y = idLt key x y := by
  unfold ltOf cmpI idLt
  refine decide_eq_decide.2 ?_
  dsimp only
  by_cases h : key x < key y
  · rw [if_pos h]; omega
  · rw [if_neg h]; split <;> omega

theorem cmp_thg (x y : Thg) : ltOf (fun x y : Thg => orI [cmpI x.lot y.lot, cmpI x.bale y.bale, cmpI x.smp y.smp, cmpI x.st y.st]) x y = thgLt x y := by
  unfold ltOf thgLt
  simp only [orI, cmpI]
  by_cases a1 : x.lot < y.lot
  · simp [a1]
  by_cases a2 : y.lot < x.lot
  · simp [a1, a2]; omega
  have a3 : x.lot = y.lot := by omega
  by_cases b1 : x.bale < y.bale
  · simp [a1, a2, a3, b1]
  by_cases b2 : y.bale < x.bale
  · simp [a1, a2, a3, b1, b2]; omega
  have b3 : x.bale = y.bale := by omega
  by_cases c1 : x.smp < y.smp
  · simp [a1, a2, a3, b1, b2, b3, c1]
  by_cases c2 : y.smp < x.smp
  · simp [a1, a2, a3, b1, b2, b3, c1, c2]; omega
  have c3 : x.smp = y.smp := by omega
  by_cases d1 : x.st < y.st
  · simp [a3, b3, c3, d1]
  by_cases d2 : y.st < x.st
  · simp [a3, b3, c3, d1, d2]
  have d3 : x.st = y.st := by omega
  simp [a3, b3, c3, d3]

theorem cmp_mom (x y : Mom) : ltOf (fun x y : Mom => orI [cmpI x.bal y.bal, cmpI x.tick y.tick]) x y = momLt x y := by
  unfold ltOf momLt
  simp only [orI, cmpI]
  by_cases a1 : x.bal < y.bal
  · simp [a1]
  by_cases a2 : y.bal < x.bal
  · simp [a1, a2]; omega
  have a3 : x.bal = y.bal := by omega
  by_cases d1 : x.tick < y.tick
  · simp [a3, d1]
  by_cases d2 : y.tick < x.tick
  · simp [a3, d1, d2]
  have d3 : x.tick = y.tick := by omega
  simp [a3, d3]

end Sx
end Go

namespace Go
namespace Sx

theorem aggI_inj {a b : List Int} (h : aggI a = aggI b) : a = b := by
  unfold aggI at h
  simp only [Value.agg.injEq] at h
  have h2 : a.map (Value.int .i64) = b.map (Value.int .i64) := by
    have := congrArg Array.toList h
    simpa using this
  exact (List.map_inj_right (fun x y hxy => by cases hxy; rfl)).1 h2

theorem run_checkKey_ints {P : Program} {t : TypeId} (em : Bool) (m : Nat) (hu : P.underlying t = some (.struct (P.fieldsOf t))) (hf : intFs P (P.fieldsOf t).toList 0 = true) (xs : List Int) (hn : xs.length = (P.fieldsOf t).toList.length) (w : World) :
    (Instr.checkKey em (m + 1 + 1) t (aggI xs)).run P w = .ok () w := by
  rw [Instr.checkKey]
  unfold aggI
  simp only [Sem.run_bind, run_underlying hu, Result.andThen_ok]
  rw [← Array.forIn_toList]
  have hj : xs.length = 0 + (P.fieldsOf t).toList.length := by omega
  clear hn hu
  generalize (P.fieldsOf t).toList = L at hf hj
  generalize (0 : Nat) = j at hf hj
  induction L generalizing j with
  | nil => simp
  | cons f L ih =>
    simp only [intFs, Bool.and_eq_true] at hf
    obtain ⟨h1, h2, h3, h4⟩ := hf
    have h1 : f.name ≠ "_" := by simpa using h1
    have h2 : f.offset = j := by simpa using h2
    have h3 := isI64_eq h3
    simp only [List.length_cons] at hj
    have hjx : j < xs.length := by omega
    have hp := run_part_int (P := P) (t := f.type) (cs := (xs.map (Value.int .i64)).toArray) (off := j) (v := .int .i64 xs[j]) w h3 (by simp [hjx])
    have hc : (Instr.checkKey em (m + 1) f.type (.int .i64 xs[j])).run P w = .ok () w := by simp [Instr.checkKey, run_underlying h3]
    have := ih (j + 1) h4 (by omega)
    simp only [List.forIn_cons, if_pos h1, Sem.run_bind, h2, hp, Result.andThen_ok, hc, Sem.run_pure]
    exact this

theorem findAsking_ints {P : Program} {t n : Nat} {L : List (Nat × Nat)} (hE : EqOK P L) (hm : (t, n) ∈ L) (ks : List Int) (hk : ks.length = n) (w : World) : ∀ (l : List MapEntry) (i : Nat), (∀ e ∈ l, ∃ ks' : List Int, ks'.length = n ∧ e.key = aggI ks') →
    ((Instr.findAsking t (aggI ks) l i).run P w = .ok none w ∧ ∀ e ∈ l, e.key ≠ aggI ks) ∨
    (∃ j e, (Instr.findAsking t (aggI ks) l i).run P w = .ok (some (i + j, e.val)) w ∧ l[j]? = some e ∧ e.key = aggI ks)
  | [], i, _ => .inl ⟨by simp [Instr.findAsking], by simp⟩
  | e :: l, i, h => by
    obtain ⟨ks', hl, he⟩ := h e (by simp)
    have heq := (hE t n hm ks ks' hk hl w (.tmp 0) (.tmp 0)).2.2
    rw [← he] at heq
    by_cases hkk : ks = ks'
    · refine .inr ⟨0, e, ?_, rfl, by rw [he, hkk]⟩
      have hb : (ks == ks') = true := by simpa using hkk
      simp [Instr.findAsking, Sem.run_bind, heq, hb]
    · have hb : (ks == ks') = false := by simpa using hkk
      have hne : e.key ≠ aggI ks := by rw [he]; intro h; exact hkk (aggI_inj h).symm
      have hrun : (Instr.findAsking t (aggI ks) (e :: l) i).run P w = (Instr.findAsking t (aggI ks) l (i + 1)).run P w := by
        simp [Instr.findAsking, Sem.run_bind, heq, hb]
      rcases findAsking_ints hE hm ks hk w l (i + 1) (fun e he => h e (by simp [he])) with ⟨h1, h2⟩ | ⟨j, e', h1, h2, h3⟩
      · refine .inl ⟨by rw [hrun, h1], fun e' he' => ?_⟩
        rcases List.mem_cons.1 he' with rfl | he'
        · exact hne
        · exact h2 e' he'
      · exact .inr ⟨j + 1, e', by rw [hrun, h1, show i + 1 + j = i + (j + 1) from by omega], by simpa using h2, h3⟩

def SetKObj (n : Nat) (S : List (List Int)) (x : Obj) : Prop :=
  ∃ es clock, x = .map es clock ∧ (∀ e ∈ es.toList, ∃ ks, ks ∈ S ∧ e.key = aggI ks ∧ e.val = .bool true) ∧ (∀ ks ∈ S, ∃ e ∈ es.toList, e.key = aggI ks) ∧ ∀ ks ∈ S, ks.length = n

def intsSC : List SC → Option (List Int)
  | [] => some []
  | .v (.int .i64 z) :: r => match intsSC r with
    | some l => some (z :: l)
    | none => none
  | _ :: _ => none

theorem intsSC_rel {ρ : Asg} : ∀ {l : List SC} {ks : List Int} {vs : List Value}, intsSC l = some ks → relL ρ l vs → vs = ks.map (Value.int .i64)
  | [], ks, vs, h, hr => by
    cases h
    cases vs with
    | nil => rfl
    | cons v vs => exact hr.elim
  | c :: r, ks, [], _, hr => hr.elim
  | c :: r, ks, v :: vs, h, hr => by
    cases c with
    | v x =>
      cases x with
      | int k z =>
        cases k <;> simp only [intsSC] at h <;> try (cases h; done)
        cases hl : intsSC r with
        | none => rw [hl] at h; cases h
        | some l =>
          rw [hl] at h
          cases h
          have h1 : v = .int .i64 z := hr.1
          rw [h1, intsSC_rel hl hr.2]; rfl
      | _ => simp [intsSC] at h
    | _ => simp [intsSC] at h

def lookupSK (B : Tabs) (et0 : TypeId) (kt0 n : Nat) (t : TypeId) (x y : SV) (H : Heap) (K : Eff → Prop) : Prop :=
  match lookT B.T t, x, y with
  | some ⟨.map kt et, _, _, _⟩, .c (.m k), .agg l => (match look H k, intsSC l with
    | some (true, .raw Φ), some ks => bif Nat.beq et et0 && (Nat.beq kt kt0 && Nat.beq (lenL ks) n) then
        ∃ S, Φ = SetKObj n S ∧ K ⟨.c (.v (.bool (decide (ks ∈ S)))), [k], [], []⟩ else False
    | _, _ => False)
  | _, _, _ => False
where lenL : List Int → Nat
  | [] => 0
  | _ :: r => lenL r + 1

theorem lenL_eq (l : List Int) : lookupSK.lenL l = l.length := by induction l <;> simp [lookupSK.lenL, *]

end Sx
end Go

namespace Go
namespace Sx

def encB (s : Bool) (l : List Int) : Value := bif s then aggI l else .int .i64 (l.headD 0)

structure KeyOK (P : Program) (kt : TypeId) (s : Bool) (n : Nat) : Prop where
  chk : ∀ (em : Bool) (ks : List Int) (w : World), ks.length = n → (Instr.checkKey em 10000 kt (encB s ks)).run P w = .ok () w
  find : ∀ (ks : List Int) (es : List MapEntry) (w : World), ks.length = n → (∀ e ∈ es, ∃ ks' : List Int, ks'.length = n ∧ e.key = encB s ks') →
    ((Instr.findKey kt (encB s ks) es).run P w = .ok none w ∧ ∀ e ∈ es, e.key ≠ encB s ks) ∨
    (∃ j e, (Instr.findKey kt (encB s ks) es).run P w = .ok (some (j, e.val)) w ∧ es[j]? = some e ∧ e.key = encB s ks)
  inj : ∀ ks ks' : List Int, ks.length = n → ks'.length = n → encB s ks = encB s ks' → ks = ks'

theorem keyOK_int {P : Program} {kt : TypeId} (h : P.underlying kt = some (.int .i64)) : KeyOK P kt false 1 where
  chk em ks w hk := MapKept.run_checkKey h (show MapKept.IsKey (.int .i64) (.int .i64 _) from rfl) em 9999
  find ks es w hk hes := by
    have hkey : MapKept.IsKey (.int .i64) (.int .i64 (ks.headD 0)) := rfl
    have hall : ∀ x ∈ es, MapKept.IsKey (.int .i64) x.key := fun x hx => by obtain ⟨ks', _, he⟩ := hes x hx; rw [he]; rfl
    rcases MapKept.findNow_spec hkey es 0 hall with ⟨h1, h2⟩ | ⟨j, e', h1, h2, h3⟩
    · exact .inl ⟨MapKept.run_findKey h h1, h2⟩
    · exact .inr ⟨j, e', by rw [Nat.zero_add] at h1; exact MapKept.run_findKey h h1, h2, h3⟩
  inj ks ks' h1 h2 he := by
    match ks, ks', h1, h2 with
    | [a], [b], _, _ =>
      have : (Value.int .i64 a) = .int .i64 b := he
      cases this; rfl

theorem keyOK_rec {P : Program} {kt n : Nat} {L : List (Nat × Nat)} (hE : EqOK P L) (hm : (kt, n) ∈ L)
    (hu : P.underlying kt = some (.struct (P.fieldsOf kt))) (hf : intFs P (P.fieldsOf kt).toList 0 = true) (hfn : (P.fieldsOf kt).toList.length = n) : KeyOK P kt true n where
  chk em ks w hk := run_checkKey_ints em 9998 hu hf ks (by omega) w
  find ks es w hk hes := by
    have hwide : (match P.underlying kt with | some (.array _ _) | some (.struct _) => true | _ => false) = true := by rw [hu]
    rw [run_findKey_eq w hwide]
    rcases findAsking_ints hE hm ks hk w es 0 hes with ⟨h1, h2⟩ | ⟨j, e', h1, h2, h3⟩
    · exact .inl ⟨h1, h2⟩
    · exact .inr ⟨j, e', by rw [Nat.zero_add] at h1; exact h1, h2, h3⟩
  inj ks ks' h1 h2 he := aggI_inj he

abbrev KVs : Type := List (List Int × List Int)

def DistK (S : KVs) : Prop := (S.map Prod.fst).Nodup

def KVObj (ks vs : Bool) (n : Nat) (S : KVs) (x : Obj) : Prop :=
  ∃ es clock, x = .map es clock ∧ es.toList.map (fun e => (e.key, e.val)) = S.map (fun p => (encB ks p.1, encB vs p.2)) ∧ (∀ p ∈ S, p.1.length = n) ∧ DistK S

def kvO (ks vs : Bool) (n : Nat) (S : KVs) : SO := .raw (KVObj ks vs n S)

def lookKV (S : KVs) (k z : List Int) : List Int × Bool := match S.find? (fun p => p.1 == k) with
  | some p => (p.2, true)
  | none => (z, false)

theorem mkmapKV_step {cx : Cx} {o : Oper} {e : Env} {H : Heap} {nx : Nat} {K : Eff → Prop} {t : TypeId} (ks vs : Bool) (n : Nat) (ho : o.op = .makeMap t none)
    (h : K ⟨.c (.m nx), [], [(nx, true, kvO ks vs n [])], [nx]⟩) : ∃ F, CallOK cx o e H nx F ∧ K F := by
  refine ⟨_, ⟨loc_new (by simp [ho]) (by rw [SV.below_c]; intro j hj; simp [SC.nms] at hj; omega) ?_ ?_, fun j hj => by simp at hj; subst hj; simp⟩, h⟩
  · intro n _ j hj
    simp [kvO, SO.uses] at hj
  · intro ρ a w _ _
    refine ⟨.map (some w.heap.size), .map #[] 0, 0, ?_, ?_, ?_⟩
    · simp only [execOp, ho, Sem.run_bind, Option.mapM_none]
      rfl
    · simp only [SV.rel, SC.rel, upd_eq]
    · refine ⟨trivial, (fun i j c hc => by simp [kvO, SO.cell?] at hc), (fun _ hx => absurd rfl (hx _)), (fun _ => by rw [upd_eq]), (fun Ψ hΨ => ?_)⟩
      cases hΨ
      rw [upd_eq]
      exact ⟨_, push_new w _, #[], 0, rfl, by simp, by simp, List.nodup_nil⟩

def intsSV (s : Bool) : SV → Option (List Int)
  | .c (.v (.int .i64 z)) => bif s then none else some [z]
  | .agg l => bif s then intsSC l else none
  | _ => none

theorem intsSV_rel {ρ : Asg} {s : Bool} {y : SV} {l : List Int} {v : Value} (h : intsSV s y = some l) (hr : y.rel ρ v) : v = encB s l := by
  unfold intsSV at h
  split at h
  · cases s with
    | true => cases h
    | false => cases h; exact hr
  · cases s with
    | false => cases h
    | true =>
      obtain ⟨xs, rfl, hx⟩ := hr
      have := intsSC_rel (show intsSC _ = some l from h) hx
      show Value.agg xs = .agg _
      congr 1
      exact Array.toList_inj.1 (by rw [this])
  · cases h

def svB (s : Bool) (l : List Int) : SV := bif s then .agg (encI l) else .c (.v (.int .i64 (l.headD 0)))
def sumB (s : Bool) (l : List Int) : Sum SC (List SC) := bif s then .inr (encI l) else .inl (.v (.int .i64 (l.headD 0)))

theorem relEncI (ρ : Asg) : ∀ l : List Int, relL ρ (encI l) (l.map (Value.int .i64))
  | [] => trivial
  | _ :: l => ⟨rfl, relEncI ρ l⟩

theorem svB_rel (ρ : Asg) (s : Bool) (l : List Int) : (svB s l).rel ρ (encB s l) := by
  cases s with
  | false => exact rfl
  | true => exact ⟨_, rfl, relEncI ρ l⟩

theorem usesL_encI (ks : List Nat) : ∀ l : List Int, usesL ks (encI l) = false
  | [] => rfl
  | _ :: l => usesL_encI ks l

theorem svB_uses (ks : List Nat) (s : Bool) (l : List Int) : (svB s l).uses ks = false := by
  cases s with
  | false => rfl
  | true => exact usesL_encI ks l

def lookKVK (B : Tabs) (kt0 et0 : TypeId) (ks vs : Bool) (n : Nat) (z0 : List Int) (ok : Bool) (t : TypeId) (x y : SV) (H : Heap) (K : Eff → Prop) : Prop :=
  match lookT B.T t, x, intsSV ks y with
  | some ⟨.map kt et, _, _, _⟩, .c (.m k), some l => (match look H k with
    | some (_, .raw Φ) => bif Nat.beq et et0 && (Nat.beq kt kt0 && Nat.beq (lookupSK.lenL l) n) then
        ∃ S v is, Φ = KVObj ks vs n S ∧ lookKV S l z0 = (v, is) ∧ K ⟨bif ok then .tup [sumB vs v, .inl (.v (.bool is))] else svB vs v, [k], [], []⟩ else False
    | _ => False)
  | _, _, _ => False

theorem kv_find {ks vs : Bool} {n : Nat} {S : KVs} {es : List MapEntry} {P : Program} {kt : TypeId} (hK : KeyOK P kt ks n) (h : es.map (fun e => (e.key, e.val)) = S.map (fun p => (encB ks p.1, encB vs p.2))) (hn : ∀ p ∈ S, p.1.length = n) :
    ∀ e ∈ es, ∃ ks' : List Int, ks'.length = n ∧ e.key = encB ks ks' := by
  intro e he
  have : (e.key, e.val) ∈ S.map (fun p => (encB ks p.1, encB vs p.2)) := by rw [← h]; exact List.mem_map.2 ⟨e, he, rfl⟩
  obtain ⟨p, hp, hpe⟩ := List.mem_map.1 this
  exact ⟨p.1, hn p hp, (congrArg Prod.fst hpe).symm⟩

theorem lookKV_get {S : KVs} {k z : List Int} {p : List Int × List Int} {j : Nat} (hd : DistK S) (h : S[j]? = some p) (hk : p.1 = k) : lookKV S k z = (p.2, true) := by
  unfold lookKV
  induction S generalizing j with
  | nil => simp at h
  | cons q S ih =>
    have hd' : q.1 ∉ S.map Prod.fst ∧ DistK S := by
      have := List.nodup_cons.1 (show (q.1 :: S.map Prod.fst).Nodup from hd); exact this
    cases j with
    | zero =>
      simp at h; subst h
      simp [hk]
    | succ j =>
      have h : S[j]? = some p := by simpa using h
      have hm : p.1 ∈ S.map Prod.fst := List.mem_map.2 ⟨p, List.mem_of_getElem? h, rfl⟩
      have hne : ¬ q.1 = k := fun e => hd'.1 (by rw [e, ← hk]; exact hm)
      have hb : (q.1 == k) = false := by simpa using hne
      rw [List.find?_cons_of_neg (by simp [hb])]
      exact ih hd'.2 h

theorem lookKV_none {S : KVs} {k z : List Int} (h : ∀ p ∈ S, p.1 ≠ k) : lookKV S k z = (z, false) := by
  unfold lookKV
  rw [List.find?_eq_none.2 (fun p hp => by simpa using h p hp)]

theorem lookKV_step {cx : Cx} {B : Tabs} (hB : TabsOK cx.P B) {o : Oper} {e : Env} {H : Heap} {nx : Nat} {K : Eff → Prop} {t : TypeId} {x y : Operand} {ok : Bool} (kt0 et0 : TypeId) (ks vs : Bool) (n : Nat) (z0 : List Int)
    (hK : KeyOK cx.P kt0 ks n) (hz0 : ∀ w, (zeroValue et0).run cx.P w = .ok (encB vs z0) w) (ho : o.op = .lookup t x y ok)
    (h : lookKVK B kt0 et0 ks vs n z0 ok t (ev e x) (ev e y) H K) : ∃ F, CallOK cx o e H nx F ∧ K F := by
  have hx : x ∈ o.op.operands.toList := by simp [ho, Op.operands]
  have hy : y ∈ o.op.operands.toList := by simp [ho, Op.operands]
  unfold lookKVK at h
  split at h
  · rename_i kt et s0 b0 zz k l ht hex hey
    split at h
    · rename_i own Φ hlk
      obtain ⟨he0, S, v, is, rfl, hlv, hKK0⟩ := bif_and h
      simp only [Bool.and_eq_true] at he0
      obtain ⟨he0, he1, he2⟩ := he0
      have he0 := Nat.eq_of_beq_eq_true he0
      have he1 := Nat.eq_of_beq_eq_true he1
      have he2 := Nat.eq_of_beq_eq_true he2
      rw [lenL_eq] at he2
      subst he0; subst he1
      refine ⟨_, ⟨?_, fun j hj => by cases hj⟩, hKK0⟩
      intro ρ s a w hs hr hk _ hdst KK Q hKK
      have hl1 : look s.H k = some (own, .raw (KVObj ks vs n S)) := by rw [hk k (by simp)]; exact hlk
      have hx1 := reads_fit hx (fun t ht => by rw [← hr t ht]; exact hs.env t)
      have hy1 := reads_fit hy (fun t ht => by rw [← hr t ht]; exact hs.env t)
      rw [hex] at hx1
      simp only [SV.rel, SC.rel] at hx1
      have hya : a.eval y = encB ks l := intsSV_rel hey hy1
      obtain ⟨ob, hob, es, clock, rfl, hes, hn, hd⟩ := (hs.heap.reg k own _ hl1).keys _ rfl
      have hall := kv_find hK hes hn
      have hrun : (execOp a.eval o).run cx.P w = .ok (.value (bif ok then .tuple #[encB vs v, .bool is] else encB vs v)) w := by
        rcases hK.find l es.toList w he2 hall with ⟨h1, h2⟩ | ⟨j, e', h1, h2, h3⟩
        · have hnone : lookKV S l z0 = (z0, false) := lookKV_none fun p hp hpl => by
            have : (encB ks p.1, encB vs p.2) ∈ es.toList.map (fun e => (e.key, e.val)) := by rw [hes]; exact List.mem_map.2 ⟨p, hp, rfl⟩
            obtain ⟨e', he', hee⟩ := List.mem_map.1 this
            exact h2 e' he' (by rw [← hpl]; exact congrArg Prod.fst hee)
          rw [hnone] at hlv
          cases hlv
          simp only [execOp, ho, Instr.lookup, hx1, hya, Sem.run_bind, run_underlying (und_map hB ht), Result.andThen_ok, MapKept.run_getObj_map hob, Sem.run_pure, hK.chk _ l w he2, h1, hz0]
          cases ok <;> simp
        · have h4 : (es.toList.map (fun e => (e.key, e.val)))[j]? = some (e'.key, e'.val) := by rw [List.getElem?_map, h2]; rfl
          rw [hes, List.getElem?_map] at h4
          obtain ⟨p, hp, hpe⟩ := Option.map_eq_some_iff.1 h4
          have hpk : p.1 = l := hK.inj _ _ (hn p (List.mem_of_getElem? hp)) he2 (by rw [← h3]; exact congrArg Prod.fst hpe)
          rw [lookKV_get hd hp hpk] at hlv
          cases hlv
          have hval : e'.val = encB vs p.2 := (congrArg Prod.snd hpe).symm
          simp only [execOp, ho, Instr.lookup, hx1, hya, Sem.run_bind, run_underlying (und_map hB ht), Result.andThen_ok, MapKept.run_getObj_map hob, Sem.run_pure, hK.chk _ l w he2, h1, hval]
          cases ok <;> simp
      refine wpIn_of_value (by simp [ho]) hrun (hKK ρ _ w ?_ (fun _ _ => rfl))
      refine hs.putO hdst ?_ ?_
      · cases ok with
        | false => exact svB_rel ρ vs v
        | true =>
          refine ⟨_, rfl, ?_⟩
          cases vs with
          | false => exact ⟨rfl, rfl, trivial⟩
          | true => exact ⟨⟨_, rfl, relEncI ρ v⟩, rfl, trivial⟩
      · intro j hj
        cases ok with
        | false => have := svB_uses [j] vs v; simp only [cond_false] at hj; rw [this] at hj; cases hj
        | true =>
          cases vs with
          | false => cases hj
          | true =>
            have h2 : usesT [j] [Sum.inr (encI v), .inl (.v (.bool is))] = true := hj
            simp only [usesT, usesL_encI, cond_false] at h2
            cases h2
    · exact h.elim
  · exact h.elim

def mapUpKVK (B : Tabs) (kt0 : TypeId) (ks vs : Bool) (n : Nat) (t : TypeId) (x y z : SV) (H : Heap) (K : Eff → Prop) : Prop :=
  match lookT B.T t, x, intsSV ks y, intsSV vs z with
  | some ⟨.map kt _, _, _, _⟩, .c (.m k), some l, some v => (match look H k with
    | some (true, .raw Φ) => bif Nat.beq kt kt0 && Nat.beq (lookupSK.lenL l) n then
        ∃ S, Φ = KVObj ks vs n S ∧ l ∉ S.map Prod.fst ∧ K ⟨.c .junk, [k], [(k, true, kvO ks vs n (S ++ [(l, v)]))], []⟩ else False
    | _ => False)
  | _, _, _, _ => False

theorem mapUpKV_step {cx : Cx} {B : Tabs} (hB : TabsOK cx.P B) {o : Oper} {e : Env} {H : Heap} {nx : Nat} {K : Eff → Prop} {t : TypeId} {x y z : Operand} (kt0 : TypeId) (ks vs : Bool) (n : Nat)
    (hK : KeyOK cx.P kt0 ks n) (ho : o.op = .mapUpdate t x y z)
    (h : mapUpKVK B kt0 ks vs n t (ev e x) (ev e y) (ev e z) H K) : ∃ F, CallOK cx o e H nx F ∧ K F := by
  have hx : x ∈ o.op.operands.toList := by simp [ho, Op.operands]
  have hy : y ∈ o.op.operands.toList := by simp [ho, Op.operands]
  have hz : z ∈ o.op.operands.toList := by simp [ho, Op.operands]
  unfold mapUpKVK at h
  split at h
  · rename_i kt et s0 b0 zz k l v ht hex hey hez
    split at h
    · rename_i Φ hlk
      obtain ⟨he0, S, rfl, hnew, hKK0⟩ := bif_and h
      simp only [Bool.and_eq_true] at he0
      obtain ⟨he1, he2⟩ := he0
      have he1 := Nat.eq_of_beq_eq_true he1
      have he2 := Nat.eq_of_beq_eq_true he2
      rw [lenL_eq] at he2
      subst he1
      refine ⟨_, ⟨?_, fun j hj => by cases hj⟩, hKK0⟩
      intro ρ s a w hs hr hk _ hdst KK Q hKK
      have hl1 : look s.H k = some (true, .raw (KVObj ks vs n S)) := by rw [hk k (by simp)]; exact hlk
      have hx1 := reads_fit hx (fun t ht => by rw [← hr t ht]; exact hs.env t)
      have hy1 := reads_fit hy (fun t ht => by rw [← hr t ht]; exact hs.env t)
      have hz1 := reads_fit hz (fun t ht => by rw [← hr t ht]; exact hs.env t)
      rw [hex] at hx1
      simp only [SV.rel, SC.rel] at hx1
      have hya : a.eval y = encB ks l := intsSV_rel hey hy1
      have hza : a.eval z = encB vs v := intsSV_rel hez hz1
      obtain ⟨ob, hob, es, clock, rfl, hes, hn, hd⟩ := (hs.heap.reg k true _ hl1).keys _ rfl
      have hall := kv_find hK hes hn
      have hrun : ∃ es' clock', (execOp a.eval o).run cx.P w = .ok .skip (w.putObj (ρ k).blk (.map es' clock')) ∧ KVObj ks vs n (S ++ [(l, v)]) (.map es' clock') := by
        rcases hK.find l es.toList w he2 hall with ⟨h1, h2⟩ | ⟨j, e', h1, h2, h3⟩
        · refine ⟨es.push { key := encB ks l, val := encB vs v, born := clock }, clock + 1, ?_, _, _, rfl, ?_, ?_, ?_⟩
          · simp only [execOp, ho, Instr.mapUpdate, hx1, hya, hza, Sem.run_bind, run_underlying (und_map hB ht), Result.andThen_ok, MapKept.run_getObj_map hob, Sem.run_pure,
              hK.chk _ l w he2, h1, MapKept.run_setObj_map _ hob]
            rfl
          · simp [hes]
          · intro p hp
            rcases List.mem_append.1 hp with hp | hp
            · exact hn p hp
            · simp at hp; rw [hp]; exact he2
          · unfold DistK
            rw [List.map_append]
            exact List.nodup_append.2 ⟨hd, by simp, fun a ha b hb => by simp at hb; rw [hb]; rintro rfl; exact hnew ha⟩
        · exfalso
          have h4 : (es.toList.map (fun e => (e.key, e.val)))[j]? = some (e'.key, e'.val) := by rw [List.getElem?_map, h2]; rfl
          rw [hes, List.getElem?_map] at h4
          obtain ⟨p, hp, hpe⟩ := Option.map_eq_some_iff.1 h4
          have hpk : p.1 = l := hK.inj _ _ (hn p (List.mem_of_getElem? hp)) he2 (by rw [← h3]; exact congrArg Prod.fst hpe)
          exact hnew (List.mem_map.2 ⟨p, List.mem_of_getElem? hp, hpk⟩)
      obtain ⟨es', clock', hrun, hset⟩ := hrun
      have hs' := hs.setObj hl1 (.map es' clock') hset
      refine wpIn_of_skip (by simp [ho]) hrun (hKK ρ _ _ ?_ (fun _ _ => rfl))
      exact hs'.putO (sv := .c .junk) hdst trivial (by rw [SV.below_c]; intro j hj; cases hj)
    · exact h.elim
  · exact h.elim

end Sx
end Go

