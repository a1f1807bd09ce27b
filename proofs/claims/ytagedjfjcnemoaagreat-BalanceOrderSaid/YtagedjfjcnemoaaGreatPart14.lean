/-
  A part of the proof that a law answers true: lemmas of a symbolic walk, plain functions, or contracts of the functions walked (Pm22, Pm23, Pm24, Pm25, B2, B3, Pm26, Pm27, Pm28, B4, B5, B6, B7, B8, B9, Sx44, Sx31). Conditions: none.
-/
import Derived.Test.YtagedjfjcnemoaaGreatPart13
import Derived.Test.YtagedjfjcnemoaaGreatPart11
import Derived.Test.YtagedjfjcnemoaaGreatPart07
import Derived.WideKeyRuns
set_option maxRecDepth 100000
set_option linter.unusedVariables false
set_option linter.unusedSimpArgs false
/-
  Plain lemmas, part 22: the system of valid readings is a checked system. Conditions: none; plain lemmas.
-/
namespace Go
namespace Proofs

theorem plF_mem {α : Type} [DecidableEq α] {l : List α} {x : α} (h : x ∈ l) : plF l x = (l.idxOf x : Nat) ∧ l.idxOf x < l.length := by
  unfold plF
  rw [if_pos h]
  exact ⟨rfl, List.idxOf_lt_length_iff.2 h⟩

theorem plF_get {α : Type} [DecidableEq α] {l : List α} {x : α} {i : Nat} (h : plF l x = i) : l[i]? = some x := by
  by_cases hm : x ∈ l
  · obtain ⟨h1, h2⟩ := plF_mem hm
    have : i = l.idxOf x := by omega
    subst this
    rw [List.getElem?_eq_getElem h2, List.getElem_idxOf]
  · unfold plF at h; rw [if_neg hm] at h; omega

theorem plF_at {α : Type} [DecidableEq α] {l : List α} (hd : l.Nodup) {i : Nat} {x : α} (h : l[i]? = some x) : plF l x = i := by
  obtain ⟨hi, rfl⟩ := List.getElem?_eq_some_iff.1 h
  have hm : l[i] ∈ l := List.getElem_mem hi
  obtain ⟨h1, h2⟩ := plF_mem hm
  have := plF_get h1
  obtain ⟨h3, h4⟩ := List.getElem?_eq_some_iff.1 this
  have hp := List.pairwise_iff_getElem.1 (show l.Pairwise (· ≠ ·) from hd)
  rcases Nat.lt_trichotomy (l.idxOf l[i]) i with hlt | he | hlt
  · exact absurd h4 (hp _ _ h3 hi hlt)
  · omega
  · exact absurd h4.symm (hp _ _ hi h3 hlt)

theorem plF_inj {α : Type} [DecidableEq α] {l : List α} {x y : α} (hx : x ∈ l) (h : plF l x = plF l y) : x = y := by
  obtain ⟨h1, _⟩ := plF_mem hx
  have e1 := plF_get h1
  rw [h1] at h
  have e2 := plF_get h.symm
  rw [e1] at e2
  exact Option.some.inj e2

theorem findB_some {bs : List Bal} {id : Int} (h : hasB bs id = true) : ∃ b ∈ bs, b.id = id ∧ findB bs id = some b ∧ findD bs id = b := by
  unfold hasB at h
  obtain ⟨b, hb⟩ := Option.isSome_iff_exists.1 h
  refine ⟨b, List.mem_of_find?_eq_some hb, ?_, hb, by unfold findD; rw [hb]; rfl⟩
  have := List.find?_some hb
  simpa using this

theorem valid_bd {b : Bal} (h : validF b = true) : (1 ≤ b.id ∧ b.id ≤ 1099511627776) ∧ (0 ≤ b.half ∧ b.half ≤ 1000) ∧ (-1000000 ≤ b.lo ∧ b.lo ≤ b.hi ∧ b.hi ≤ 1000000) ∧ (0 ≤ b.dr ∧ b.dr ≤ 1000) ∧ (1 ≤ b.cap ∧ b.cap ≤ 10000000) := by
  simp [validF, withinF, insideF] at h; omega

theorem RdOK.findD {r : Rd} (h : RdOK r) {id : Int} (hh : hasB r.bs id = true) : validF (findD r.bs id) = true := by
  obtain ⟨b, hb, _, _, e⟩ := findB_some hh
  rw [e]; exact h.bal b hb

theorem RdOK.w {r : Rd} (h : RdOK r) {w : Wgh} (hw : w ∈ r.ws) : hasB r.bs w.bal = true ∧ (1 ≤ w.id ∧ w.id ≤ 1099511627776) ∧ (0 ≤ w.tick ∧ w.tick ≤ 1000000) ∧ thgF w.o = true ∧ (0 ≤ w.shown ∧ w.shown ≤ 10000000) := by
  obtain ⟨h1, h2⟩ := h.wgh w hw
  simp [idOK, wghF, withinF] at h1 h2
  exact ⟨h2.1, h1, h2.2.1, h2.2.2.1, h2.2.2.2⟩

theorem RdOK.c {r : Rd} (h : RdOK r) {c : Chk} (hc : c ∈ r.cs) : hasB r.bs c.bal = true ∧ (1 ≤ c.id ∧ c.id ≤ 1099511627776) ∧ (0 ≤ c.tick ∧ c.tick ≤ 1000000) ∧ (0 ≤ c.mass ∧ c.mass ≤ (Proofs.findD r.bs c.bal).cap) ∧ (0 ≤ c.shown ∧ c.shown ≤ 10000000) := by
  obtain ⟨h1, h2⟩ := h.chk c hc
  simp [idOK, chkF, withinF] at h1 h2
  exact ⟨h2.1, h1, h2.2.1, h2.2.2.1, h2.2.2.2⟩

theorem RdOK.n {r : Rd} (h : RdOK r) {n : Ntc} (hn : n ∈ r.ns) : hasB r.bs n.bal = true ∧ (1 ≤ n.id ∧ n.id ≤ 1099511627776) ∧ (0 ≤ n.wlo ∧ n.wlo ≤ n.whi ∧ n.whi ≤ 1000000) ∧ (-1000000 ≤ n.slo ∧ n.slo ≤ n.shi ∧ n.shi ≤ 1000000) := by
  obtain ⟨h1, h2⟩ := h.ntc n hn
  simp [idOK, ntcF, withinF, insideF] at h1 h2
  obtain ⟨h2, h3, h4⟩ := h2
  exact ⟨h2, h1, by omega, by omega⟩

def momOK (r : Rd) (m : Mom) : Bool := hasB r.bs m.bal && withinF m.tick 0 1000000

theorem RdOK.mom {r : Rd} (h : RdOK r) {more : List Mom} (hm : ∀ m ∈ more, momOK r m = true) {m : Mom} (hmm : m ∈ momsF r more) : momOK r m = true := by
  rcases momsF_mem.1 hmm with ⟨w, hw, rfl⟩ | ⟨c, hc, rfl⟩ | hmm
  · obtain ⟨h1, _, h2, _⟩ := h.w hw
    simp [momOK, wMom, withinF, h1]
    exact ⟨decide_eq_true h2.1, decide_eq_true h2.2⟩
  · obtain ⟨h1, _, h2, _⟩ := h.c hc
    simp [momOK, cMom, withinF, h1]
    exact ⟨decide_eq_true h2.1, decide_eq_true h2.2⟩
  · exact hm m hmm

theorem cap_bd {bs : List Bal} {o : Thg} : ∀ (ws : List Wgh) {n : Int}, (∀ w ∈ ws, 1 ≤ (findD bs w.bal).cap) → 1 ≤ n ∧ n ≤ 10000000 → 1 ≤ ws.foldl (capStep bs o) n ∧ ws.foldl (capStep bs o) n ≤ 10000000
  | [], n, _, h => h
  | w :: r, n, hw, h => by
    refine cap_bd r (fun w' h' => hw w' (by simp [h'])) ?_
    have := hw w (by simp)
    unfold capStep
    cases w.o == o with
    | true => simp only [cond_true]; omega
    | false => exact h

theorem side_bd {r : Rd} (h : RdOK r) (m : Mom) (hm : hasB r.bs m.bal = true) : (-1000000 ≤ (sideF r m).lo ∧ (sideF r m).lo ≤ 1000000) ∧ (-1000000 ≤ (sideF r m).hi ∧ (sideF r m).hi ≤ 1000000) ∧ (0 ≤ (sideF r m).loI ∧ (sideF r m).loI ≤ 1099511627776) ∧ (0 ≤ (sideF r m).hiI ∧ (sideF r m).hiI ≤ 1099511627776) := by
  unfold sideF
  have hb := valid_bd (h.findD hm)
  have hns : ∀ n ∈ sortK Ntc.id r.ns, n ∈ r.ns := fun n hn => (sortK_perm Ntc.id r.ns).mem_iff.1 hn
  generalize sortK Ntc.id r.ns = ns at hns
  have h0 : (-1000000 ≤ (findD r.bs m.bal).lo ∧ (findD r.bs m.bal).lo ≤ 1000000) ∧ (-1000000 ≤ (findD r.bs m.bal).hi ∧ (findD r.bs m.bal).hi ≤ 1000000) ∧ (0 ≤ (0 : Int) ∧ (0 : Int) ≤ 1099511627776) ∧ (0 ≤ (0 : Int) ∧ (0 : Int) ≤ 1099511627776) := by omega
  have gen : ∀ (ns : List Ntc) (s : Sid), (∀ n ∈ ns, n ∈ r.ns) → ((-1000000 ≤ s.lo ∧ s.lo ≤ 1000000) ∧ (-1000000 ≤ s.hi ∧ s.hi ≤ 1000000) ∧ (0 ≤ s.loI ∧ s.loI ≤ 1099511627776) ∧ (0 ≤ s.hiI ∧ s.hiI ≤ 1099511627776)) →
      ((-1000000 ≤ (ns.foldl (sideStep m) s).lo ∧ (ns.foldl (sideStep m) s).lo ≤ 1000000) ∧ (-1000000 ≤ (ns.foldl (sideStep m) s).hi ∧ (ns.foldl (sideStep m) s).hi ≤ 1000000) ∧ (0 ≤ (ns.foldl (sideStep m) s).loI ∧ (ns.foldl (sideStep m) s).loI ≤ 1099511627776) ∧ (0 ≤ (ns.foldl (sideStep m) s).hiI ∧ (ns.foldl (sideStep m) s).hiI ≤ 1099511627776)) := by
    intro ns
    induction ns with
    | nil => intro s _ hs; exact hs
    | cons n q ih =>
      intro s hq hs
      refine ih _ (fun x hx => hq x (by simp [hx])) ?_
      have hn := h.n (hq n (by simp))
      unfold sideStep
      cases (n.bal == m.bal) && withinF m.tick n.wlo n.whi with
      | false => exact hs
      | true =>
        simp only [cond_true]
        cases !s.some || decide (s.lo < n.slo) <;> cases !s.some || decide (n.shi < s.hi) <;> simp only [cond_true, cond_false] <;> omega
  exact gen ns _ hns h0

theorem drfLs_mem {bs : List Bal} {k : Nat} {l : Lnk} : ∀ {ms : List Mom} {i : Nat}, l ∈ drfLs bs k i ms → ∃ j a b, ms[j]? = some a ∧ ms[j + 1]? = some b ∧ a.bal = b.bal ∧
    (l = ⟨k + ((i + j : Nat) : Int), k + ((i + j : Nat) : Int) + 1, min ((findD bs a.bal).dr * (b.tick - a.tick)) 2000000, 0⟩ ∨ l = ⟨k + ((i + j : Nat) : Int) + 1, k + ((i + j : Nat) : Int), min ((findD bs a.bal).dr * (b.tick - a.tick)) 2000000, 0⟩)
  | [], _, h => by simp [drfLs] at h
  | [_], _, h => by simp [drfLs] at h
  | a :: b :: r, i, h => by
    unfold drfLs at h
    rcases List.mem_append.1 h with h | h
    · cases hc : a.bal == b.bal with
      | false => rw [hc] at h; cases h
      | true =>
        rw [hc] at h
        simp only [cond_true, List.mem_cons, List.not_mem_nil, or_false] at h
        exact ⟨0, a, b, rfl, rfl, by simpa using hc, by simpa using h⟩
    · obtain ⟨j, x, y, h1, h2, h3, h4⟩ := drfLs_mem h
      refine ⟨j + 1, x, y, by simpa using h1, by simpa using h2, h3, ?_⟩
      rw [show i + (j + 1) = i + 1 + j by omega]
      exact h4

theorem drfLs_len (bs : List Bal) (k : Nat) : ∀ (ms : List Mom) (i : Nat), (drfLs bs k i ms).length ≤ 2 * ms.length
  | [], _ => by simp [drfLs]
  | [_], _ => by simp [drfLs]
  | a :: b :: r, i => by
    have := drfLs_len bs k (b :: r) (i + 1)
    unfold drfLs
    rw [List.length_append]
    cases a.bal == b.bal <;> simp at * <;> omega

theorem flat2_len {α : Type} {f : α → List Lnk} (h : ∀ x, (f x).length = 2) : ∀ l : List α, (l.flatMap f).length = 2 * l.length
  | [] => rfl
  | x :: r => by rw [List.flatMap_cons, List.length_append, h, flat2_len h r, List.length_cons]; omega

theorem flat1_len {α : Type} {f : α → List Lnk} (h : ∀ x, (f x).length ≤ 1) : ∀ l : List α, (l.flatMap f).length ≤ l.length
  | [] => Nat.le_refl _
  | x :: r => by have := flat1_len h r; have := h x; rw [List.flatMap_cons, List.length_append, List.length_cons]; omega

theorem cvr_len (os : List Thg) (a b : Int) (o : Thg) : (cvrLs os a b o).length ≤ 1 := by
  unfold cvrLs; cases o.st == b && os.contains { o with st := a } <;> simp

theorem boxR_len (r : Rd) (more : List Mom) : (boxR r more).length = (objsF r).length + (momsF r more).length := by simp [boxR, boxesR]

theorem sortK_len {α : Type} (key : α → Int) (l : List α) : (sortK key l).length = l.length := (sortK_perm key l).length_eq

theorem lnkR_len (r : Rd) (more : List Mom) : (lnkR r more).length ≤ 2 * r.ws.length + 2 * r.cs.length + 4 * (momsF r more).length + 2 * (objsF r).length := by
  unfold lnkR linksR
  simp only [List.length_append]
  have h1 := flat2_len (f := wghLs r.bs (objsF r) (momsF r more)) (fun _ => rfl) (sortK Wgh.id r.ws)
  have h2 := flat2_len (f := chkLs r.bs (objsF r) (momsF r more)) (fun _ => rfl) (sortK Chk.id r.cs)
  have h3 := flat2_len (f := momLs r (objsF r) (momsF r more)) (fun _ => rfl) (momsF r more)
  have h4 := drfLs_len r.bs (objsF r).length (momsF r more) 0
  have h5 := flat1_len (cvr_len (objsF r) 1 2) (objsF r)
  have h6 := flat1_len (cvr_len (objsF r) 3 4) (objsF r)
  rw [sortK_len] at h1 h2
  omega

end Proofs
end Go

/-
  Plain lemmas, part 23: the system of valid readings is a proper one. Conditions: none; plain lemmas.
-/
namespace Go
namespace Proofs

theorem inc_get {α : Type} {lt : α → α → Bool} {l : List α} (h : Inc lt l) {i j : Nat} {a b : α} (hij : i < j) (ha : l[i]? = some a) (hb : l[j]? = some b) : lt a b = true := by
  obtain ⟨h1, rfl⟩ := List.getElem?_eq_some_iff.1 ha
  obtain ⟨h2, rfl⟩ := List.getElem?_eq_some_iff.1 hb
  exact List.pairwise_iff_getElem.1 h i j h1 h2 hij

theorem mom_next {r : Rd} {more : List Mom} {j : Nat} {a b : Mom} (ha : (momsF r more)[j]? = some a) (hb : (momsF r more)[j + 1]? = some b) (h : a.bal = b.bal) : a.tick < b.tick := by
  have := inc_get (distS_inc momLt_ok _) (Nat.lt_succ_self j) ha hb
  simp [momLt] at this; omega

structure DrfOK (bs : List Bal) (a b : Mom) : Prop where
  nn : 0 ≤ (findD bs a.bal).dr * (b.tick - a.tick)
  le : (findD bs a.bal).dr * (b.tick - a.tick) ≤ 1000000000

theorem drf_ok {r : Rd} (h : RdOK r) {more : List Mom} (hm : ∀ m ∈ more, momOK r m = true) {j : Nat} {a b : Mom} (ha : (momsF r more)[j]? = some a) (hb : (momsF r more)[j + 1]? = some b) (hab : a.bal = b.bal) : DrfOK r.bs a b := by
  have h1 := h.mom hm (List.mem_of_getElem? ha)
  have h2 := h.mom hm (List.mem_of_getElem? hb)
  have h3 := mom_next ha hb hab
  simp [momOK, withinF] at h1 h2
  have hv := valid_bd (h.findD h1.1)
  obtain ⟨_, _, _, hd, _⟩ := hv
  obtain ⟨_, h1⟩ := h1
  obtain ⟨_, h2⟩ := h2
  refine ⟨Int.mul_nonneg hd.1 (by omega), ?_⟩
  have := Int.mul_le_mul hd.2 (show b.tick - a.tick ≤ 1000000 by omega) (by omega) (by omega : (0:Int) ≤ 1000)
  omega

theorem proper_of {f t m i : Int} {n : Nat} (h1 : f ≠ t) (h2 : -1 ≤ f ∧ f < n) (h3 : -1 ≤ t ∧ t < n) (h4 : -33554432 ≤ m ∧ m ≤ 33554432) (h5 : 0 ≤ i ∧ i ≤ 1099511627776) : properF ⟨f, t, m, i⟩ n = true := by
  simp only [properF, withinF, Bool.and_eq_true, bne_iff_ne, ne_eq, decide_eq_true_eq]
  refine ⟨h1, ⟨h2.1, by omega⟩, ⟨h3.1, by omega⟩, h4, h5⟩

theorem lnkR_proper {r : Rd} (h : RdOK r) {more : List Mom} (hm : ∀ m ∈ more, momOK r m = true) : ∀ l ∈ lnkR r more, properF l (boxR r more).length = true := by
  intro l hl
  rw [boxR_len]
  have hwO : ∀ w ∈ r.ws, w.o ∈ objsF r := fun w hw => objsF_mem.2 ⟨w, hw, rfl⟩
  have hwM : ∀ w ∈ r.ws, wMom w ∈ momsF r more := fun w hw => momsF_mem.2 (.inl ⟨w, hw, rfl⟩)
  have hcM : ∀ c ∈ r.cs, cMom c ∈ momsF r more := fun c hc => momsF_mem.2 (.inr (.inl ⟨c, hc, rfl⟩))
  have hmo := fun m (hmm : m ∈ momsF r more) => h.mom hm hmm
  have hdr := fun (j : Nat) (a b : Mom) (ha : (momsF r more)[j]? = some a) (hb : (momsF r more)[j + 1]? = some b) hab => drf_ok h hm ha hb hab
  unfold lnkR linksR at hl
  generalize objsF r = os at *
  generalize momsF r more = ms at *
  simp only [List.mem_append, List.mem_flatMap] at hl
  rcases hl with ⟨w, hw, hl⟩ | ⟨c, hc, hl⟩ | ⟨m, hmm, hl⟩ | hl | ⟨o, ho, hl⟩ | ⟨o, ho, hl⟩
  · have hw := (sortK_perm Wgh.id r.ws).mem_iff.1 hw
    obtain ⟨hb, hid, _, _, hsh⟩ := h.w hw
    obtain ⟨_, hv, _⟩ := valid_bd (h.findD hb)
    obtain ⟨e1, l1⟩ := plF_mem (hwO w hw)
    obtain ⟨e2, l2⟩ := plF_mem (hwM w hw)
    simp only [wghLs, List.mem_cons, List.not_mem_nil, or_false] at hl
    rcases hl with rfl | rfl
    · exact proper_of (by omega) (by omega) (by omega) (by omega) (by omega)
    · exact proper_of (by omega) (by omega) (by omega) (by omega) (by omega)
  · have hc := (sortK_perm Chk.id r.cs).mem_iff.1 hc
    obtain ⟨hb, hid, _, hms, hsh⟩ := h.c hc
    obtain ⟨_, hv, _, _, hcap⟩ := valid_bd (h.findD hb)
    obtain ⟨e2, l2⟩ := plF_mem (hcM c hc)
    simp only [chkLs, List.mem_cons, List.not_mem_nil, or_false] at hl
    rcases hl with rfl | rfl
    · exact proper_of (by omega) (by omega) (by omega) (by omega) (by omega)
    · exact proper_of (by omega) (by omega) (by omega) (by omega) (by omega)
  · have hb := hmo m hmm
    simp [momOK] at hb
    obtain ⟨s1, s2, s3, s4⟩ := side_bd h m hb.1
    obtain ⟨e2, l2⟩ := plF_mem hmm
    simp only [momLs, List.mem_cons, List.not_mem_nil, or_false] at hl
    rcases hl with rfl | rfl
    · exact proper_of (by omega) (by omega) (by omega) (by omega) (by omega)
    · exact proper_of (by omega) (by omega) (by omega) (by omega) (by omega)
  · obtain ⟨j, a, b, ha, hb, hab, hl⟩ := drfLs_mem hl
    have hd := hdr j a b ha hb hab
    obtain ⟨d1, d2⟩ := hd
    have hj : j + 1 < ms.length := (List.getElem?_eq_some_iff.1 hb).1
    generalize (findD r.bs a.bal).dr * (b.tick - a.tick) = d at *
    rcases hl with rfl | rfl
    · exact proper_of (by omega) (by omega) (by omega) (by omega) (by omega)
    · exact proper_of (by omega) (by omega) (by omega) (by omega) (by omega)
  all_goals
    unfold cvrLs at hl
    cases hc : (o.st == _ && os.contains _) with
    | false => rw [hc] at hl; cases hl
    | true =>
      rw [hc] at hl
      simp only [cond_true, List.mem_cons, List.not_mem_nil, or_false] at hl
      subst hl
      simp only [Bool.and_eq_true, beq_iff_eq, List.contains_iff_mem] at hc
      obtain ⟨e1, l1⟩ := plF_mem ho
      obtain ⟨e2, l2⟩ := plF_mem hc.2
      refine proper_of (fun he => ?_) (by omega) (by omega) (by omega) (by omega)
      have := congrArg Thg.st (plF_inj hc.2 he)
      have h1 := hc.1
      simp only at this
      omega

theorem boxR_ok {r : Rd} (h : RdOK r) (more : List Mom) : ∀ b ∈ boxR r more, b.1 ≤ b.2 ∧ -16777216 ≤ b.1 ∧ b.2 ≤ 16777216 := by
  intro b hb
  unfold boxR boxesR at hb
  rcases List.mem_append.1 hb with hb | hb
  · obtain ⟨o, ho, rfl⟩ := List.mem_map.1 hb
    have := cap_bd (bs := r.bs) (o := o) r.ws (n := 10000000) (fun w hw => by have := valid_bd (h.findD (h.w hw).1); omega) (by omega)
    unfold capF
    simp only
    omega
  · obtain ⟨o, ho, rfl⟩ := List.mem_map.1 hb
    simp only
    omega

theorem rdR_len {r : Rd} (h : RdOK r) {more : List Mom} (hm : more.length ≤ 2) : (boxR r more).length ≤ 240 ∧ (lnkR r more).length ≤ 1200 := by
  have h1 := objsF_len r
  have h2 := momsF_len r more
  have h3 := lnkR_len r more
  have := h.nr
  rw [boxR_len]
  omega

end Proofs
end Go

/-
  Plain lemmas, part 24: a moment's correction, as the notices say it in whatever order. Conditions: none; definitions and plain lemmas.
-/
namespace Go
namespace Proofs

end Proofs
end Go

/-
  Plain lemmas, part 25: picking the next greater number again and again sorts. Conditions: none; definitions and plain lemmas.
-/
namespace Go
namespace Proofs

end Proofs
end Go

namespace Go.Proofs
open Go.Sx

structure Sem (r : Rd) (os : List Thg) (ms : List Mom) (x : Thg → Int) (c : Mom → Int) : Prop where
  obj : ∀ o ∈ os, 0 ≤ x o ∧ x o ≤ capF r o
  mom : ∀ m ∈ ms, -1000000 ≤ c m ∧ c m ≤ 1000000
  sid : ∀ m ∈ ms, (sideF r m).lo ≤ c m ∧ c m ≤ (sideF r m).hi
  wgh : ∀ w ∈ r.ws, x w.o - c (wMom w) ≤ w.shown + (findD r.bs w.bal).half ∧ c (wMom w) - x w.o ≤ (findD r.bs w.bal).half - w.shown
  chk : ∀ k ∈ r.cs, c (cMom k) ≤ k.mass - k.shown + (findD r.bs k.bal).half ∧ -c (cMom k) ≤ k.shown + (findD r.bs k.bal).half - k.mass
  drf : ∀ a ∈ ms, ∀ b ∈ ms, a.bal = b.bal → a.tick < b.tick → c b - c a ≤ (findD r.bs a.bal).dr * (b.tick - a.tick) ∧ c a - c b ≤ (findD r.bs a.bal).dr * (b.tick - a.tick)
  cvr : ∀ o ∈ os, ∀ q ∈ os, (o.st = 2 ∧ q = { o with st := 1 } ∨ o.st = 4 ∧ q = { o with st := 3 }) → x o ≤ x q

theorem rd_sys {r : Rd} (h : RdOK r) {more : List Mom} (hl : more.length ≤ 2) (hm : ∀ m ∈ more, momOK r m = true) : SysOK (boxR r more) (lnkR r more) := by
  obtain ⟨h1, h2⟩ := rdR_len h hl
  exact ⟨h1, h2, boxR_ok h more, lnkR_proper h hm⟩

end Go.Proofs

namespace Go.Proofs
open Go.Sx

theorem objsF_nodup (r : Rd) : (objsF r).Nodup := (distS_inc thgLt_ok _).nodup thgLt_ok.irr
theorem momsF_nodup (r : Rd) (more : List Mom) : (momsF r more).Nodup := (distS_inc momLt_ok _).nodup momLt_ok.irr

instance (bs : List (Int × Int)) (ls : List Lnk) : Decidable (Calm bs ls 0) := inferInstanceAs (Decidable (_ = _))

def betweenF (bs : List (Int × Int)) (ls : List Lnk) (a b : Int) : (Int × Int) × Int :=
  if Calm bs ls 0 then ((-mostF bs.length (graphF bs ls 0) b a, mostF bs.length (graphF bs ls 0) a b), 0) else ((0, 0), 9)

def massV (r : Rd) (o : Thg) : (Int × Int) × Int := if o ∈ objsF r then betweenF (boxR r []) (lnkR r []) (-1) (plF (objsF r) o) else ((0, 0), 5)
def massF (r : Rd) (o : Thg) : (Int × Int) × Int := if checkR r = 0 then massV r o else ((0, 0), checkR r)
def lossF (r : Rd) (a b : Thg) : (Int × Int) × Int := if checkR r = 0 then (if a ∈ objsF r ∧ b ∈ objsF r then betweenF (boxR r []) (lnkR r []) (plF (objsF r) b) (plF (objsF r) a) else ((0, 0), 5)) else ((0, 0), checkR r)
def driftedF (r : Rd) (m : Mom) : (Int × Int) × Int :=
  if checkR r = 0 then (if momOK r m = true then betweenF (boxR r [m]) (lnkR r [m]) (-1) ((objsF r).length + plF (momsF r [m]) m) else ((0, 0), 1)) else ((0, 0), checkR r)
end Go.Proofs

/-
  Plain lemmas, part 26: readings in another order; capacities; which numbers there are. Conditions: none; definitions and plain lemmas.
-/
namespace Go
namespace Proofs

theorem cap_iff {bs : List Bal} {o : Thg} {v : Int} : ∀ {ws : List Wgh} {n : Int}, v ≤ ws.foldl (capStep bs o) n ↔ v ≤ n ∧ ∀ w ∈ ws, w.o = o → v ≤ (findD bs w.bal).cap
  | [], n => by simp
  | w :: r, n => by
    simp only [List.foldl_cons, List.mem_cons, forall_eq_or_imp]
    rw [cap_iff (ws := r)]
    unfold capStep
    cases hb : w.o == o with
    | true =>
      have hb : w.o = o := by simpa using hb
      simp only [cond_true]
      constructor
      · rintro ⟨h1, h2⟩; exact ⟨by omega, fun _ => by omega, h2⟩
      · rintro ⟨h1, h2, h3⟩; have := h2 hb; exact ⟨by omega, h3⟩
    | false =>
      have hb : w.o ≠ o := by simpa using hb
      simp only [cond_false]
      constructor
      · rintro ⟨h1, h2⟩; exact ⟨h1, fun h => absurd h hb, h2⟩
      · rintro ⟨h1, _, h3⟩; exact ⟨h1, h3⟩

theorem capF_iff {r : Rd} {o : Thg} {v : Int} : v ≤ capF r o ↔ v ≤ 10000000 ∧ ∀ w ∈ r.ws, w.o = o → v ≤ (findD r.bs w.bal).cap := cap_iff

theorem findB_iff {bs : List Bal} (hd : (bs.map Bal.id).Nodup) {b : Bal} {id : Int} : findB bs id = some b ↔ b ∈ bs ∧ b.id = id := by
  constructor
  · intro h
    refine ⟨List.mem_of_find?_eq_some h, ?_⟩
    have := List.find?_some h
    simpa using this
  · rintro ⟨hb, rfl⟩
    cases hf : findB bs b.id with
    | none =>
      have := List.find?_eq_none.1 hf b hb
      simp at this
    | some b' =>
      have h1 := List.mem_of_find?_eq_some hf
      have h2 : b'.id = b.id := by have := List.find?_some hf; simpa using this
      obtain ⟨i, hi, rfl⟩ := List.mem_iff_getElem.1 hb
      obtain ⟨j, hj, rfl⟩ := List.mem_iff_getElem.1 h1
      have hp := List.pairwise_iff_getElem.1 (List.pairwise_map.1 hd)
      rcases Nat.lt_trichotomy i j with hlt | rfl | hlt
      · exact absurd h2.symm (hp i j hi hj hlt)
      · rfl
      · exact absurd h2 (hp j i hj hi hlt)

theorem findB_perm {bs bs' : List Bal} (hd : (bs.map Bal.id).Nodup) (hp : bs'.Perm bs) (id : Int) : findB bs' id = findB bs id := by
  have hd' : (bs'.map Bal.id).Nodup := (hp.map _).nodup_iff.2 hd
  cases h : findB bs id with
  | some b =>
    obtain ⟨h1, h2⟩ := (findB_iff hd).1 h
    exact (findB_iff hd').2 ⟨hp.mem_iff.2 h1, h2⟩
  | none =>
    cases h' : findB bs' id with
    | none => rfl
    | some b =>
      obtain ⟨h1, h2⟩ := (findB_iff hd').1 h'
      rw [(findB_iff hd).2 ⟨hp.mem_iff.1 h1, h2⟩] at h; cases h

structure RdPerm (r t : Rd) : Prop where
  bs : t.bs.Perm r.bs
  cs : t.cs.Perm r.cs
  ns : t.ns.Perm r.ns
  ws : t.ws.Perm r.ws

theorem perm_findD {r t : Rd} (h : RdOK r) (hp : RdPerm r t) (id : Int) : findD t.bs id = findD r.bs id ∧ hasB t.bs id = hasB r.bs id := by
  unfold findD hasB
  rw [findB_perm h.balN hp.bs]
  exact ⟨rfl, rfl⟩

theorem perm_ok {r t : Rd} (h : RdOK r) (hp : RdPerm r t) : RdOK t where
  nb := by rw [hp.bs.length_eq]; exact h.nb
  nr := by rw [hp.cs.length_eq, hp.ns.length_eq, hp.ws.length_eq]; exact h.nr
  bal b hb := h.bal b (hp.bs.mem_iff.1 hb)
  balN := (hp.bs.map _).nodup_iff.2 h.balN
  chk c hc := by
    obtain ⟨h1, h2⟩ := h.chk c (hp.cs.mem_iff.1 hc)
    refine ⟨h1, ?_⟩
    unfold chkF at *
    rw [(perm_findD h hp _).1, (perm_findD h hp _).2]; exact h2
  ntc c hc := by
    obtain ⟨h1, h2⟩ := h.ntc c (hp.ns.mem_iff.1 hc)
    refine ⟨h1, ?_⟩
    unfold ntcF at *
    rw [(perm_findD h hp _).2]; exact h2
  wgh c hc := by
    obtain ⟨h1, h2⟩ := h.wgh c (hp.ws.mem_iff.1 hc)
    refine ⟨h1, ?_⟩
    unfold wghF at *
    rw [(perm_findD h hp _).2]; exact h2
  ids := ((hp.cs.map _).append ((hp.ns.map _).append (hp.ws.map _))).nodup_iff.2 h.ids

theorem RdOK.cN {r : Rd} (h : RdOK r) : (r.cs.map Chk.id).Nodup := (List.nodup_append.1 h.ids).1
theorem RdOK.nN {r : Rd} (h : RdOK r) : (r.ns.map Ntc.id).Nodup := (List.nodup_append.1 (List.nodup_append.1 h.ids).2.1).1
theorem RdOK.wN {r : Rd} (h : RdOK r) : (r.ws.map Wgh.id).Nodup := (List.nodup_append.1 (List.nodup_append.1 h.ids).2.1).2.1

theorem sortK_perm2 {α : Type} {key : α → Int} {l o : List α} (hd : (l.map key).Nodup) (hp : o.Perm l) : sortK key o = sortK key l :=
  sortK_unique hd ((sortK_perm key o).trans hp) (sortK_le key o)

theorem perm_objs {r t : Rd} (hp : RdPerm r t) : objsF t = objsF r := distS_unique thgLt_ok (distS_inc thgLt_ok _) fun z => by
  show z ∈ objsF t ↔ _
  rw [objsF_mem, List.mem_map]
  exact ⟨fun ⟨w, hw, e⟩ => ⟨w, hp.ws.mem_iff.1 hw, e⟩, fun ⟨w, hw, e⟩ => ⟨w, hp.ws.mem_iff.2 hw, e⟩⟩

theorem perm_moms {r t : Rd} (hp : RdPerm r t) (more : List Mom) : momsF t more = momsF r more := distS_unique momLt_ok (distS_inc momLt_ok _) fun z => by
  show z ∈ momsF t more ↔ _
  rw [momsF_mem, List.mem_append, List.mem_append, List.mem_map, List.mem_map]
  constructor
  · rintro (⟨w, hw, e⟩ | ⟨w, hw, e⟩ | h)
    · exact .inl ⟨w, hp.ws.mem_iff.1 hw, e⟩
    · exact .inr (.inl ⟨w, hp.cs.mem_iff.1 hw, e⟩)
    · exact .inr (.inr h)
  · rintro (⟨w, hw, e⟩ | ⟨w, hw, e⟩ | h)
    · exact .inl ⟨w, hp.ws.mem_iff.2 hw, e⟩
    · exact .inr (.inl ⟨w, hp.cs.mem_iff.2 hw, e⟩)
    · exact .inr (.inr h)

theorem perm_cap {r t : Rd} (h : RdOK r) (hp : RdPerm r t) (o : Thg) : capF t o = capF r o := by
  have e : ∀ v, v ≤ capF t o ↔ v ≤ capF r o := by
    intro v
    rw [capF_iff, capF_iff]
    constructor
    · rintro ⟨h1, h2⟩
      refine ⟨h1, fun w hw ho => ?_⟩
      have := h2 w (hp.ws.mem_iff.2 hw) ho
      rwa [(perm_findD h hp _).1] at this
    · rintro ⟨h1, h2⟩
      refine ⟨h1, fun w hw ho => ?_⟩
      rw [(perm_findD h hp _).1]
      exact h2 w (hp.ws.mem_iff.1 hw) ho
  have a := (e _).1 (Int.le_refl _)
  have b := (e _).2 (Int.le_refl _)
  omega

theorem perm_side {r t : Rd} (h : RdOK r) (hp : RdPerm r t) (m : Mom) : sideF t m = sideF r m := by
  unfold sideF
  rw [sortK_perm2 h.nN hp.ns, (perm_findD h hp _).1]

theorem perm_sys {r t : Rd} (h : RdOK r) (hp : RdPerm r t) (more : List Mom) : boxR t more = boxR r more ∧ lnkR t more = lnkR r more := by
  have hf : ∀ id, findD t.bs id = findD r.bs id := fun id => (perm_findD h hp id).1
  refine ⟨?_, ?_⟩
  · unfold boxR boxesR
    rw [perm_objs hp, perm_moms hp]
    congr 1
    exact List.map_congr_left fun o _ => by rw [perm_cap h hp]
  · unfold lnkR linksR
    rw [perm_objs hp, perm_moms hp, sortK_perm2 h.wN hp.ws, sortK_perm2 h.cN hp.cs]
    have e1 : wghLs t.bs (objsF r) (momsF r more) = wghLs r.bs (objsF r) (momsF r more) := by funext w; simp [wghLs, hf]
    have e2 : chkLs t.bs (objsF r) (momsF r more) = chkLs r.bs (objsF r) (momsF r more) := by funext w; simp [chkLs, hf]
    have e3 : momLs t (objsF r) (momsF r more) = momLs r (objsF r) (momsF r more) := by funext w; simp [momLs, perm_side h hp]
    have e4 : ∀ (ms : List Mom) (i : Nat), drfLs t.bs (objsF r).length i ms = drfLs r.bs (objsF r).length i ms := by
      intro ms
      induction ms with
      | nil => intro i; rfl
      | cons a q ih =>
        intro i
        cases q with
        | nil => rfl
        | cons b q =>
          unfold drfLs
          rw [ih, hf]
    rw [e1, e2, e3, e4]

def allIds (r : Rd) : List Int := r.cs.map Chk.id ++ (r.ns.map Ntc.id ++ r.ws.map Wgh.id)
def idsR (r : Rd) : List Int := distS (fun a b : Int => decide (a < b)) (allIds r)

theorem intLt_ok : LtOK (fun a b : Int => decide (a < b)) where
  irr x := by simp
  tr x y z h1 h2 := by simp at *; omega
  tot x y h := by simp; omega

def lessR (r : Rd) (ids : List Int) : Rd := ⟨r.bs, r.cs.filter (fun c => !ids.contains c.id), r.ns.filter (fun n => !ids.contains n.id), r.ws.filter (fun w => !ids.contains w.id)⟩

theorem less_ok {r : Rd} (h : RdOK r) (ids : List Int) : RdOK (lessR r ids) where
  nb := h.nb
  nr := by
    have h1 := List.length_filter_le (fun c : Chk => !ids.contains c.id) r.cs
    have h2 := List.length_filter_le (fun n : Ntc => !ids.contains n.id) r.ns
    have h3 := List.length_filter_le (fun w : Wgh => !ids.contains w.id) r.ws
    have := h.nr
    show (r.cs.filter _).length + (r.ns.filter _).length + (r.ws.filter _).length ≤ 100
    omega
  bal := h.bal
  balN := h.balN
  chk c hc := h.chk c (List.mem_filter.1 hc).1
  ntc c hc := h.ntc c (List.mem_filter.1 hc).1
  wgh c hc := h.wgh c (List.mem_filter.1 hc).1
  ids := by
    refine List.Nodup.sublist ?_ h.ids
    exact (List.filter_sublist.map _).append ((List.filter_sublist.map _).append (List.filter_sublist.map _))

theorem less_perm {r t : Rd} (hp : RdPerm r t) (ids : List Int) : RdPerm (lessR r ids) (lessR t ids) :=
  ⟨hp.bs, hp.cs.filter _, hp.ns.filter _, hp.ws.filter _⟩

theorem ids_perm {r t : Rd} (hp : RdPerm r t) : idsR t = idsR r := distS_unique intLt_ok (distS_inc intLt_ok _) fun z => by
  show z ∈ distS _ (allIds t) ↔ _
  rw [distS_mem intLt_ok]
  exact ((hp.cs.map _).append ((hp.ns.map _).append (hp.ws.map _))).mem_iff

end Proofs
end Go

/-
  Plain lemmas, part 27: the elements of two lists by their numbers, each once; merging readings. Conditions: none; definitions and plain lemmas.
-/
namespace Go
namespace Proofs

def JoinOK {α : Type} (key : α → Int) (a b : List α) : Prop := ∀ x ∈ a ++ b, ∀ y ∈ a ++ b, key x = key y → x = y

def Apart {α : Type} (key : α → Int) (c : List α) : Prop := ∀ (i : Nat) (x y : α), c[i]? = some x → c[i + 1]? = some y → key x ≠ key y

theorem inc_of_next {α : Type} {key : α → Int} : ∀ {c : List α}, c.Pairwise (fun x y => key x ≤ key y) → Apart key c → Inc (idLt key) c
  | [], _, _ => List.Pairwise.nil
  | [x], _, _ => by simp
  | x :: y :: r, h, ha => by
    obtain ⟨h1, h2⟩ := List.pairwise_cons.1 h
    have ih := inc_of_next h2 (fun i u v hu hv => ha (i + 1) u v (by simpa using hu) (by simpa using hv))
    refine List.pairwise_cons.2 ⟨fun z hz => ?_, ih⟩
    have hxy : key x < key y := by
      have := ha 0 x y rfl rfl
      have := h1 y (by simp)
      omega
    rcases List.mem_cons.1 hz with rfl | hz
    · simpa [idLt] using hxy
    · have := (List.pairwise_cons.1 ih).1 z hz
      simp [idLt] at *; omega

theorem compS_le {α : Type} [DecidableEq α] {key : α → Int} : ∀ {l : List α}, l.Pairwise (fun x y => key x ≤ key y) → (compS l).Pairwise (fun x y => key x ≤ key y)
  | [], _ => by simp [compS]
  | [x], _ => by simp [compS]
  | x :: y :: r, h => by
    obtain ⟨h1, h2⟩ := List.pairwise_cons.1 h
    unfold compS
    by_cases hxy : x = y
    · rw [if_pos hxy]; exact compS_le h2
    · rw [if_neg hxy]
      exact List.pairwise_cons.2 ⟨fun z hz => h1 z (compS_mem.1 hz), compS_le h2⟩

theorem join_iff {α : Type} [DecidableEq α] {key : α → Int} {a b l : List α} (hp : l.Perm (a ++ b)) (hs : l.Pairwise (fun x y => key x ≤ key y)) : Apart key (compS l) ↔ JoinOK key a b := by
  constructor
  · intro h x hx y hy he
    have hi := inc_of_next (compS_le hs) h
    have mx := compS_mem.2 (hp.mem_iff.2 hx)
    have my := compS_mem.2 (hp.mem_iff.2 hy)
    obtain ⟨i, hi1⟩ := List.mem_iff_getElem?.1 mx
    obtain ⟨j, hj1⟩ := List.mem_iff_getElem?.1 my
    rcases Nat.lt_trichotomy i j with hlt | rfl | hlt
    · have := inc_get hi hlt hi1 hj1
      simp [idLt] at this; omega
    · rw [hi1] at hj1; exact Option.some.inj hj1
    · have := inc_get hi hlt hj1 hi1
      simp [idLt] at this; omega
  · intro h
    have : ∀ {l : List α}, l.Pairwise (fun x y => key x ≤ key y) → (∀ x ∈ l, ∀ y ∈ l, key x = key y → x = y) → Apart key (compS l) := by
      intro l
      induction l with
      | nil => intro _ _ i x y hx; simp [compS] at hx
      | cons u l ih =>
        intro hs hj
        cases l with
        | nil => intro i x y hx hy; simp [compS] at hy
        | cons v r =>
          obtain ⟨h1, h2⟩ := List.pairwise_cons.1 hs
          have ih := ih h2 (fun x hx y hy => hj x (List.mem_cons_of_mem _ hx) y (List.mem_cons_of_mem _ hy))
          unfold compS
          by_cases huv : u = v
          · rw [if_pos huv]; exact ih
          · rw [if_neg huv]
            intro i x y hx hy
            cases i with
            | zero =>
              simp at hx
              subst hx
              have hy : y ∈ compS (v :: r) := by
                have : (compS (v :: r))[0]? = some y := by simpa using hy
                exact List.mem_of_getElem? this
              have hy := compS_mem.1 hy
              intro he
              have hyu := hj u (by simp) y (List.mem_cons_of_mem _ hy) he
              have e1 := h1 v (by simp)
              have e2 : key v ≤ key y := by
                rcases List.mem_cons.1 hy with rfl | hy
                · exact Int.le_refl _
                · exact (List.pairwise_cons.1 h2).1 y hy
              exact huv (hj u (by simp) v (by simp) (by omega))
            | succ i => exact ih i x y (by simpa using hx) (by simpa using hy)
    exact this hs fun x hx y hy => h x (hp.mem_iff.1 hx) y (hp.mem_iff.1 hy)

def unionK {α : Type} [DecidableEq α] (key : α → Int) (a b : List α) : List α := sortK key (a ++ b.filter fun x => !a.contains x)

theorem unionK_mem {α : Type} [DecidableEq α] {key : α → Int} {a b : List α} {z : α} : z ∈ unionK key a b ↔ z ∈ a ∨ z ∈ b := by
  unfold unionK
  rw [(sortK_perm key _).mem_iff, List.mem_append, List.mem_filter]
  by_cases h : z ∈ a
  · simp [h]
  · simp [h]

theorem union_nodup {α : Type} [DecidableEq α] {key : α → Int} {a b : List α} (ha : (a.map key).Nodup) (hb : (b.map key).Nodup) (h : JoinOK key a b) : ((a ++ b.filter fun x => !a.contains x).map key).Nodup := by
  rw [List.map_append]
  refine List.nodup_append.2 ⟨ha, hb.sublist (List.filter_sublist.map _), ?_⟩
  intro u hu v hv
  obtain ⟨x, hx, rfl⟩ := List.mem_map.1 hu
  obtain ⟨y, hy, rfl⟩ := List.mem_map.1 hv
  obtain ⟨hy1, hy2⟩ := List.mem_filter.1 hy
  intro he
  have := h x (List.mem_append.2 (.inl hx)) y (List.mem_append.2 (.inr hy1)) he
  subst this
  simp [hx] at hy2

theorem unionK_inc {α : Type} [DecidableEq α] {key : α → Int} {a b : List α} (ha : (a.map key).Nodup) (hb : (b.map key).Nodup) (h : JoinOK key a b) : Inc (idLt key) (unionK key a b) := sortK_inc (union_nodup ha hb h)

theorem join_union {α : Type} [DecidableEq α] {key : α → Int} {a b l : List α} (ha : (a.map key).Nodup) (hb : (b.map key).Nodup) (hp : l.Perm (a ++ b)) (hs : l.Pairwise (fun x y => key x ≤ key y)) (h : JoinOK key a b) : compS l = unionK key a b :=
  inc_extG (idLt_irr key) (idLt_tr key) (inc_of_next (compS_le hs) ((join_iff hp hs).2 h)) (unionK_inc ha hb h) fun z => by
    rw [compS_mem, hp.mem_iff, unionK_mem, List.mem_append]

theorem unionK_len {α : Type} [DecidableEq α] {key : α → Int} {a b : List α} : (unionK key a b).length ≤ a.length + b.length := by
  unfold unionK
  rw [sortK_len, List.length_append]
  have := List.length_filter_le (fun x => !a.contains x) b
  omega

instance {α : Type} [DecidableEq α] (key : α → Int) (a b : List α) : Decidable (JoinOK key a b) := inferInstanceAs (Decidable (∀ x ∈ a ++ b, ∀ y ∈ a ++ b, key x = key y → x = y))

def outR (a b : Rd) : Rd := ⟨unionK Bal.id a.bs b.bs, unionK Chk.id a.cs b.cs, unionK Ntc.id a.ns b.ns, unionK Wgh.id a.ws b.ws⟩

structure Joins (a b : Rd) : Prop where
  bs : JoinOK Bal.id a.bs b.bs
  cs : JoinOK Chk.id a.cs b.cs
  ns : JoinOK Ntc.id a.ns b.ns
  ws : JoinOK Wgh.id a.ws b.ws
  ids : (allIds (outR a b)).Nodup

theorem nodup_key {α : Type} {key : α → Int} {l : List α} (h : (l.map key).Nodup) {x y : α} (hx : x ∈ l) (hy : y ∈ l) (he : key x = key y) : x = y := by
  obtain ⟨i, hi, rfl⟩ := List.mem_iff_getElem.1 hx
  obtain ⟨j, hj, rfl⟩ := List.mem_iff_getElem.1 hy
  have hp := List.pairwise_iff_getElem.1 (List.pairwise_map.1 h)
  rcases Nat.lt_trichotomy i j with hlt | rfl | hlt
  · exact absurd he (hp i j hi hj hlt)
  · rfl
  · exact absurd he.symm (hp j i hj hi hlt)

end Proofs
end Go

/-
  Plain lemmas, part 28: what merging gives: valid, in either order, again. Conditions: none; definitions and plain lemmas.
-/
namespace Go
namespace Proofs

theorem union_unique {α : Type} [DecidableEq α] {key : α → Int} {a b c d : List α} (ha : (a.map key).Nodup) (hb : (b.map key).Nodup) (hj : JoinOK key a b) (hc : (c.map key).Nodup) (hd : (d.map key).Nodup) (hj' : JoinOK key c d)
    (h : ∀ x, (x ∈ a ∨ x ∈ b) ↔ (x ∈ c ∨ x ∈ d)) : unionK key a b = unionK key c d :=
  inc_extG (idLt_irr key) (idLt_tr key) (unionK_inc ha hb hj) (unionK_inc hc hd hj') fun z => by rw [unionK_mem, unionK_mem]; exact h z

theorem JoinOK.mono {α : Type} {key : α → Int} {a b c d : List α} (h : JoinOK key a b) (hm : ∀ x, x ∈ c ∨ x ∈ d → x ∈ a ∨ x ∈ b) : JoinOK key c d := fun x hx y hy he =>
  h x (List.mem_append.2 (hm x (List.mem_append.1 hx))) y (List.mem_append.2 (hm y (List.mem_append.1 hy))) he

theorem union_nodupK {α : Type} [DecidableEq α] {key : α → Int} {a b : List α} (ha : (a.map key).Nodup) (hb : (b.map key).Nodup) (hj : JoinOK key a b) : ((unionK key a b).map key).Nodup :=
  ((sortK_perm _ _).map _).nodup_iff.2 (union_nodup ha hb hj)

structure SameEl (a b c d : Rd) : Prop where
  bs : ∀ x, (x ∈ a.bs ∨ x ∈ b.bs) ↔ (x ∈ c.bs ∨ x ∈ d.bs)
  cs : ∀ x, (x ∈ a.cs ∨ x ∈ b.cs) ↔ (x ∈ c.cs ∨ x ∈ d.cs)
  ns : ∀ x, (x ∈ a.ns ∨ x ∈ b.ns) ↔ (x ∈ c.ns ∨ x ∈ d.ns)
  ws : ∀ x, (x ∈ a.ws ∨ x ∈ b.ws) ↔ (x ∈ c.ws ∨ x ∈ d.ws)

structure NumOK (r : Rd) : Prop where
  bs : (r.bs.map Bal.id).Nodup
  cs : (r.cs.map Chk.id).Nodup
  ns : (r.ns.map Ntc.id).Nodup
  ws : (r.ws.map Wgh.id).Nodup

theorem RdOK.num {r : Rd} (h : RdOK r) : NumOK r := ⟨h.balN, h.cN, h.nN, h.wN⟩

theorem same_out {a b c d : Rd} (ha : NumOK a) (hb : NumOK b) (hc : NumOK c) (hd : NumOK d) (h : Joins a b) (hs : SameEl a b c d) : outR c d = outR a b ∧ Joins c d := by
  have j1 : JoinOK Bal.id c.bs d.bs := h.bs.mono fun x hx => (hs.bs x).2 hx
  have j2 : JoinOK Chk.id c.cs d.cs := h.cs.mono fun x hx => (hs.cs x).2 hx
  have j3 : JoinOK Ntc.id c.ns d.ns := h.ns.mono fun x hx => (hs.ns x).2 hx
  have j4 : JoinOK Wgh.id c.ws d.ws := h.ws.mono fun x hx => (hs.ws x).2 hx
  have e : outR c d = outR a b := by
    unfold outR
    rw [union_unique ha.bs hb.bs h.bs hc.bs hd.bs j1 hs.bs, union_unique ha.cs hb.cs h.cs hc.cs hd.cs j2 hs.cs, union_unique ha.ns hb.ns h.ns hc.ns hd.ns j3 hs.ns, union_unique ha.ws hb.ws h.ws hc.ws hd.ws j4 hs.ws]
  exact ⟨e, j1, j2, j3, j4, by rw [e]; exact h.ids⟩

theorem out_num {a b : Rd} (ha : NumOK a) (hb : NumOK b) (h : Joins a b) : NumOK (outR a b) :=
  ⟨union_nodupK ha.bs hb.bs h.bs, union_nodupK ha.cs hb.cs h.cs, union_nodupK ha.ns hb.ns h.ns, union_nodupK ha.ws hb.ws h.ws⟩

theorem out_find {a b : Rd} (ha : NumOK a) (hb : NumOK b) (h : Joins a b) {id : Int} : (hasB a.bs id = true → hasB (outR a b).bs id = true ∧ findD (outR a b).bs id = findD a.bs id) ∧ (hasB b.bs id = true → hasB (outR a b).bs id = true ∧ findD (outR a b).bs id = findD b.bs id) := by
  have hn := (out_num ha hb h).bs
  have key : ∀ x : Bal, x ∈ (outR a b).bs → x.id = id → hasB (outR a b).bs id = true ∧ findD (outR a b).bs id = x := by
    intro x hx he
    have := (findB_iff hn).2 ⟨hx, he⟩
    unfold hasB findD
    rw [this]; exact ⟨rfl, rfl⟩
  constructor
  · intro hh
    obtain ⟨x, hx, he, _, e⟩ := findB_some hh
    rw [e]; exact key x (unionK_mem.2 (.inl hx)) he
  · intro hh
    obtain ⟨x, hx, he, _, e⟩ := findB_some hh
    rw [e]; exact key x (unionK_mem.2 (.inr hx)) he

theorem out_ok {a b : Rd} (ha : RdOK a) (hb : RdOK b) (h : Joins a b) (h1 : (outR a b).bs.length ≤ 8) (h2 : (outR a b).cs.length + (outR a b).ns.length + (outR a b).ws.length ≤ 100) : RdOK (outR a b) where
  nb := h1
  nr := h2
  bal x hx := by
    rcases unionK_mem.1 hx with hx | hx
    · exact ha.bal x hx
    · exact hb.bal x hx
  balN := (out_num ha.num hb.num h).bs
  chk x hx := by
    rcases unionK_mem.1 hx with hx | hx
    · obtain ⟨e1, e2⟩ := ha.chk x hx
      refine ⟨e1, ?_⟩
      have hh := (ha.c hx).1
      obtain ⟨f1, f2⟩ := (out_find ha.num hb.num h).1 hh
      unfold chkF at *
      rw [f1, f2]; rw [hh] at e2; exact e2
    · obtain ⟨e1, e2⟩ := hb.chk x hx
      refine ⟨e1, ?_⟩
      have hh := (hb.c hx).1
      obtain ⟨f1, f2⟩ := (out_find ha.num hb.num h).2 hh
      unfold chkF at *
      rw [f1, f2]; rw [hh] at e2; exact e2
  ntc x hx := by
    rcases unionK_mem.1 hx with hx | hx
    · obtain ⟨e1, e2⟩ := ha.ntc x hx
      refine ⟨e1, ?_⟩
      have hh := (ha.n hx).1
      obtain ⟨f1, f2⟩ := (out_find ha.num hb.num h).1 hh
      unfold ntcF at *
      rw [f1]; rw [hh] at e2; exact e2
    · obtain ⟨e1, e2⟩ := hb.ntc x hx
      refine ⟨e1, ?_⟩
      have hh := (hb.n hx).1
      obtain ⟨f1, f2⟩ := (out_find ha.num hb.num h).2 hh
      unfold ntcF at *
      rw [f1]; rw [hh] at e2; exact e2
  wgh x hx := by
    rcases unionK_mem.1 hx with hx | hx
    · obtain ⟨e1, e2⟩ := ha.wgh x hx
      refine ⟨e1, ?_⟩
      have hh := (ha.w hx).1
      obtain ⟨f1, f2⟩ := (out_find ha.num hb.num h).1 hh
      unfold wghF at *
      rw [f1]; rw [hh] at e2; exact e2
    · obtain ⟨e1, e2⟩ := hb.wgh x hx
      refine ⟨e1, ?_⟩
      have hh := (hb.w hx).1
      obtain ⟨f1, f2⟩ := (out_find ha.num hb.num h).2 hh
      unfold wghF at *
      rw [f1]; rw [hh] at e2; exact e2
  ids := h.ids

theorem out_check {a b : Rd} (ha : RdOK a) (hb : RdOK b) (h : Joins a b) :
    checkR (outR a b) = if 8 < (outR a b).bs.length ∨ 100 < (outR a b).cs.length + (outR a b).ns.length + (outR a b).ws.length then 2 else 0 := by
  by_cases hl : 8 < (outR a b).bs.length ∨ 100 < (outR a b).cs.length + (outR a b).ns.length + (outR a b).ws.length
  · rw [if_pos hl]
    unfold checkR
    have : (decide (8 < (outR a b).bs.length) || decide (100 < (outR a b).cs.length + (outR a b).ns.length + (outR a b).ws.length)) = true := by simpa using hl
    rw [this]; rfl
  · rw [if_neg hl]
    exact checkR_ok.2 (out_ok ha hb h (by omega) (by omega))

theorem perm_joins {r t : Rd} (h : RdOK r) (hp : RdPerm r t) : Joins t r ∧ outR t r = outR r ⟨[], [], [], []⟩ ∧ Joins r ⟨[], [], [], []⟩ := by
  have nil : NumOK ⟨[], [], [], []⟩ := ⟨List.nodup_nil, List.nodup_nil, List.nodup_nil, List.nodup_nil⟩
  have num := h.num
  have jn : ∀ {α : Type} {key : α → Int} {l : List α}, (l.map key).Nodup → JoinOK key l [] := fun hl x hx y hy he => nodup_key hl (by simpa using hx) (by simpa using hy) he
  have un : ∀ {α : Type} [DecidableEq α] {key : α → Int} {l : List α}, (unionK key l []).Perm l := fun {α} _ {key} {l} => by
    unfold unionK
    have := sortK_perm key (l ++ [].filter fun x => !l.contains x)
    simpa using this
  have j0 : Joins r ⟨[], [], [], []⟩ := ⟨jn num.bs, jn num.cs, jn num.ns, jn num.ws, ((un.map _).append ((un.map _).append (un.map _))).nodup_iff.2 h.ids⟩
  have ht := (perm_ok h hp).num
  have hs : SameEl r ⟨[], [], [], []⟩ t r := ⟨fun x => by simp [hp.bs.mem_iff], fun x => by simp [hp.cs.mem_iff], fun x => by simp [hp.ns.mem_iff], fun x => by simp [hp.ws.mem_iff]⟩
  obtain ⟨e, j⟩ := same_out num nil ht num j0 hs
  exact ⟨j, e, j0⟩

end Proofs
end Go

namespace Go.Proofs
open Go.Sx

def boxW (r : Rd) (w : Wgh) : List (Int × Int) := (boxR r [wMom w]).set (plF (objsF r) w.o).toNat (0, min (capF r w.o) (findD r.bs w.bal).cap)

theorem boxW_len (r : Rd) (w : Wgh) : (boxW r w).length = (boxR r [wMom w]).length := by simp [boxW]

theorem boxW_at {r : Rd} {w : Wgh} (ho : w.o ∈ objsF r) : (boxR r [wMom w])[(plF (objsF r) w.o).toNat]? = some (0, capF r w.o) ∧ (plF (objsF r) w.o).toNat < (boxR r [wMom w]).length := by
  obtain ⟨e, l⟩ := plF_mem ho
  have g := plF_get e
  rw [e, Int.toNat_natCast]
  refine ⟨?_, by rw [boxR_len]; omega⟩
  unfold boxR boxesR
  rw [List.getElem?_append_left (by rw [List.length_map]; exact l), List.getElem?_map, g]; rfl

theorem boxW_sys {r : Rd} (h : RdOK r) {w : Wgh} (ho : w.o ∈ objsF r) (hm : momOK r (wMom w) = true) : SysOK (boxW r w) (lnkR r [wMom w]) := by
  have hs := rd_sys h (more := [wMom w]) (by simp) (by simpa using hm)
  refine ⟨by rw [boxW_len]; exact hs.nb, hs.nl, fun b hb => ?_, fun l hl => by rw [boxW_len]; exact hs.lnk l hl⟩
  have hcap : 1 ≤ (findD r.bs w.bal).cap := by
    simp [momOK, wMom] at hm
    have := valid_bd (h.findD hm.1); omega
  have hc1 : 0 ≤ capF r w.o ∧ capF r w.o ≤ 10000000 := by
    have := hs.box _ (List.mem_of_getElem? (boxW_at ho).1)
    refine ⟨this.1, (capF_iff.1 (Int.le_refl _)).1⟩
  rcases List.mem_or_eq_of_mem_set hb with hb | rfl
  · exact hs.box b hb
  · dsimp only; omega

end Go.Proofs

namespace Go.Proofs
open Go.Sx

def rangeW (r : Rd) (w : Wgh) : Int × Int :=
  (-mostF (boxW r w).length (graphF (boxW r w) (lnkR r [wMom w]) 0) (plF (objsF r) w.o) ((objsF r).length + plF (momsF r [wMom w]) (wMom w)),
   mostF (boxW r w).length (graphF (boxW r w) (lnkR r [wMom w]) 0) ((objsF r).length + plF (momsF r [wMom w]) (wMom w)) (plF (objsF r) w.o))

def foreseeV (r : Rd) (w : Wgh) : (Int × Int) × Int :=
  if min 10000000 ((rangeW r w).2 + (findD r.bs w.bal).half) < max 0 ((rangeW r w).1 - (findD r.bs w.bal).half) then ((0, 0), 3)
  else ((max 0 ((rangeW r w).1 - (findD r.bs w.bal).half), min 10000000 ((rangeW r w).2 + (findD r.bs w.bal).half)), 0)

def foreseeF (r : Rd) (w : Wgh) : (Int × Int) × Int :=
  if checkR r = 0 then (if momOK r (wMom w) = true ∧ thgF w.o = true then (if w.o ∈ objsF r then (if Calm (boxW r w) (lnkR r [wMom w]) 0 then foreseeV r w else ((0, 0), 9)) else ((0, 0), 5)) else ((0, 0), 1)) else ((0, 0), checkR r)

end Go.Proofs

namespace Go.Proofs
open Go.Sx

def exSc : Bal := ⟨1, 2, -10, 10, 1, 1000⟩
def exGr : Thg := ⟨1, 1, 0, 1⟩
def exTa : Thg := ⟨1, 1, 0, 2⟩
def exR1 : Rd := ⟨[exSc], [], [], [⟨11, 1, 5, exGr, 500⟩]⟩
def exR2 : Rd := ⟨[exSc], [], [], [⟨11, 1, 5, exGr, 500⟩, ⟨13, 1, 5, exTa, 40⟩]⟩
def exR3 : Rd := ⟨[exSc], [⟨12, 1, 3, 100, 97⟩], [], [⟨11, 1, 5, exGr, 500⟩]⟩
def exR4 : Rd := ⟨[exSc], [⟨12, 1, 5, 100, 97⟩], [], [⟨11, 1, 5, exGr, 500⟩]⟩
def exR5 : Rd := ⟨[exSc], [⟨12, 1, 5, 100, 97⟩], [⟨14, 1, 0, 9, 4, 30⟩], [⟨11, 1, 5, exGr, 500⟩]⟩
def exR6 : Rd := ⟨[exSc], [⟨12, 1, 5, 100, 97⟩], [⟨14, 1, 0, 9, 6, 30⟩], [⟨11, 1, 5, exGr, 500⟩]⟩
theorem exT1 : massF exR1 exGr = ((488, 512), 0) := by decide +kernel
theorem exT2 : driftedF exR1 ⟨1, 5⟩ = ((-10, 10), 0) := by decide +kernel
theorem exT3 : foreseeF exR1 ⟨0, 1, 6, exGr, 0⟩ = ((495, 505), 0) := by decide +kernel
theorem exT4 : lossF exR2 exGr exTa = ((456, 464), 0) := by decide +kernel
theorem exT5 : driftedF exR3 ⟨1, 5⟩ = ((-1, 7), 0) := by decide +kernel
theorem exT6 : driftedF exR4 ⟨1, 5⟩ = ((1, 5), 0) := by decide +kernel
theorem exT7 : massF exR5 exGr = ((502, 507), 0) := by decide +kernel
theorem exT8 : massF exR6 exGr = ((0, 0), 9) := by decide +kernel
theorem exT10 : ((idsR exR5).filter fun i => !(decide (massV (lessR exR5 [i]) exGr = massF exR5 exGr))) = [11, 12, 14] := by decide +kernel
theorem exT11 : ((idsR exR6).filter fun i => decide (Calm (boxR (lessR exR6 [i]) []) (lnkR (lessR exR6 [i]) []) 0)) = [12, 14] := by decide +kernel

end Go.Proofs

namespace Go.Proofs
open Go.Sx

end Go.Proofs

namespace Go.Proofs
open Go.Sx

structure Tiny (r : Rd) (b : Bal) : Prop where
  ok : RdOK r
  bs : r.bs = [b]
  lo : (objsF r).length ≤ 2
  lm : (momsF r []).length ≤ 2

end Go.Proofs

namespace Go.Proofs
open Go.Sx

structure Small (r : Rd) (b : Bal) : Prop where
  tiny : Tiny r b
  cap : b.cap ≤ 6
  lo : -2 ≤ b.lo
  hi : b.hi ≤ 2
  ns : ∀ n ∈ r.ns, -2 ≤ n.slo ∧ n.shi ≤ 2

end Go.Proofs

namespace Go
namespace Sx
open Go.Sort Go.RowKit Go.Proofs Go.Lib

def cmpI (a b : Int) : Int := if a < b then -1 else if b < a then 1 else 0
def orI : List Int → Int
  | [] => 0
  | x :: r => if x = 0 then orI r else x

theorem swo_of {α : Type} {cf : α → α → Int} {lt : α → α → Bool} (ok : LtOK lt) (h : ∀ x y, ltOf cf x y = lt x y) : SWO (ltOf cf) where
  irrefl x := by rw [h]; exact ok.irr x
  trans x y z h1 h2 := by rw [h] at *; exact ok.tr x y z h1 h2
  ntrans x y z h1 h2 := by
    rw [h] at *
    by_cases hxz : lt x z = true
    · exfalso
      by_cases e1 : x = y
      · subst e1; rw [hxz] at h2; cases h2
      by_cases e2 : y = z
      · subst e2; rw [hxz] at h1; cases h1
      rcases ok.tot x y e1 with h3 | h3
      · rw [h3] at h1; cases h1
      · rcases ok.tot y z e2 with h4 | h4
        · rw [h4] at h2; cases h2
        · have := ok.tr _ _ _ h4 h3
          have := ok.tr _ _ _ hxz this
          rw [ok.irr] at this; cases this
    · simpa using hxz

theorem swo_id {α : Type} {cf : α → α → Int} {key : α → Int} (h : ∀ x y, ltOf cf x y = idLt key x y) : SWO (ltOf cf) where
  irrefl x := by rw [h]; simp [idLt]
  trans x y z h1 h2 := by rw [h] at *; simp [idLt] at *; omega
  ntrans x y z h1 h2 := by rw [h] at *; simp [idLt] at *; omega

theorem pdqL_pair {α : Type} [Inhabited α] {cf : α → α → Int} (hO : SWO (ltOf cf)) (xs : List α) : (pdqL cf xs).Pairwise fun x y => ltOf cf y x = false := by
  obtain ⟨_, _, h⟩ := pdqL_size hO xs
  have hl := pdqL_len hO xs
  refine List.pairwise_iff_getElem.2 fun i j hi hj hij => ?_
  have := h i j hij (by omega)
  rw [getElem!_pos (pdqL cf xs) j hj, getElem!_pos (pdqL cf xs) i hi] at this
  exact this

theorem pdqL_perm {α : Type} [Inhabited α] {cf : α → α → Int} (hO : SWO (ltOf cf)) (xs : List α) : (pdqL cf xs).Perm xs := (pdqL_size hO xs).2.1

theorem pdqL_dist {α : Type} [Inhabited α] [DecidableEq α] {cf : α → α → Int} {lt : α → α → Bool} (ok : LtOK lt) (h : ∀ x y, ltOf cf x y = lt x y) (xs : List α) : compS (pdqL cf xs) = distS lt xs := by
  have hO := swo_of ok h
  refine distS_unique ok (compS_inc ok ((pdqL_pair hO xs).imp fun {a b} hab => by rw [← h]; exact hab)) fun z => ?_
  rw [compS_mem, (pdqL_perm hO xs).mem_iff]

theorem pdqL_le {α : Type} [Inhabited α] {cf : α → α → Int} {key : α → Int} (h : ∀ x y, ltOf cf x y = idLt key x y) (xs : List α) : (pdqL cf xs).Pairwise fun x y => key x ≤ key y :=
  (pdqL_pair (swo_id h) xs).imp fun {a b} hab => by rw [h] at hab; simp [idLt] at hab; exact hab

theorem pdqL_sort {α : Type} [Inhabited α] {cf : α → α → Int} {key : α → Int} (h : ∀ x y, ltOf cf x y = idLt key x y) {xs : List α} (hd : (xs.map key).Nodup) : pdqL cf xs = sortK key xs :=
  sortK_unique hd (pdqL_perm (swo_id h) xs) (pdqL_le h xs)

theorem cmp_id {α : Type} (key : α → Int) (x y : α) : ltOf (fun x y => cmpI (key x) (key y)) x y = idLt key x y := by
  unfold ltOf cmpI idLt
  refine decide_eq_decide.2 ?_
  dsimp only
  by_cases h : key x < key y
  · rw [if_pos h]; omega
  · rw [if_neg h]; split <;> omega

theorem cmp_thg (x y : Thg) : ltOf (fun x y : Thg => orI [cmpI x.lot y.lot, cmpI x.bale y.bale, cmpI x.smp y.smp, cmpI x.st y.st]) x y = thgLt x y := by
  unfold ltOf thgLt
  simp only [orI, cmpI]
  by_cases a1 : x.lot < y.lot
  · simp [a1]
  by_cases a2 : y.lot < x.lot
  · simp [a1, a2]; omega
  have a3 : x.lot = y.lot := by omega
  by_cases b1 : x.bale < y.bale
  · simp [a1, a2, a3, b1]
  by_cases b2 : y.bale < x.bale
  · simp [a1, a2, a3, b1, b2]; omega
  have b3 : x.bale = y.bale := by omega
  by_cases c1 : x.smp < y.smp
  · simp [a1, a2, a3, b1, b2, b3, c1]
  by_cases c2 : y.smp < x.smp
  · simp [a1, a2, a3, b1, b2, b3, c1, c2]; omega
  have c3 : x.smp = y.smp := by omega
  by_cases d1 : x.st < y.st
  · simp [a3, b3, c3, d1]
  by_cases d2 : y.st < x.st
  · simp [a3, b3, c3, d1, d2]
  have d3 : x.st = y.st := by omega
  simp [a3, b3, c3, d3]

theorem cmp_mom (x y : Mom) : ltOf (fun x y : Mom => orI [cmpI x.bal y.bal, cmpI x.tick y.tick]) x y = momLt x y := by
  unfold ltOf momLt
  simp only [orI, cmpI]
  by_cases a1 : x.bal < y.bal
  · simp [a1]
  by_cases a2 : y.bal < x.bal
  · simp [a1, a2]; omega
  have a3 : x.bal = y.bal := by omega
  by_cases d1 : x.tick < y.tick
  · simp [a3, d1]
  by_cases d2 : y.tick < x.tick
  · simp [a3, d1, d2]
  have d3 : x.tick = y.tick := by omega
  simp [a3, d3]

end Sx
end Go

namespace Go
namespace Sx

theorem aggI_inj {a b : List Int} (h : aggI a = aggI b) : a = b := by
  unfold aggI at h
  simp only [Value.agg.injEq] at h
  have h2 : a.map (Value.int .i64) = b.map (Value.int .i64) := by
    have := congrArg Array.toList h
    simpa using this
  exact (List.map_inj_right (fun x y hxy => by cases hxy; rfl)).1 h2

theorem run_checkKey_ints {P : Program} {t : TypeId} (em : Bool) (m : Nat) (hu : P.underlying t = some (.struct (P.fieldsOf t))) (hf : intFs P (P.fieldsOf t).toList 0 = true) (xs : List Int) (hn : xs.length = (P.fieldsOf t).toList.length) (w : World) :
    (Instr.checkKey em (m + 1 + 1) t (aggI xs)).run P w = .ok () w := by
  rw [Instr.checkKey]
  unfold aggI
  simp only [Sem.run_bind, run_underlying hu, Result.andThen_ok]
  rw [← Array.forIn_toList]
  have hj : xs.length = 0 + (P.fieldsOf t).toList.length := by omega
  clear hn hu
  generalize (P.fieldsOf t).toList = L at hf hj
  generalize (0 : Nat) = j at hf hj
  induction L generalizing j with
  | nil => simp
  | cons f L ih =>
    simp only [intFs, Bool.and_eq_true] at hf
    obtain ⟨h1, h2, h3, h4⟩ := hf
    have h1 : f.name ≠ "_" := by simpa using h1
    have h2 : f.offset = j := by simpa using h2
    have h3 := isI64_eq h3
    simp only [List.length_cons] at hj
    have hjx : j < xs.length := by omega
    have hp := run_part_int (P := P) (t := f.type) (cs := (xs.map (Value.int .i64)).toArray) (off := j) (v := .int .i64 xs[j]) w h3 (by simp [hjx])
    have hc : (Instr.checkKey em (m + 1) f.type (.int .i64 xs[j])).run P w = .ok () w := by simp [Instr.checkKey, run_underlying h3]
    have := ih (j + 1) h4 (by omega)
    simp only [List.forIn_cons, if_pos h1, Sem.run_bind, h2, hp, Result.andThen_ok, hc, Sem.run_pure]
    exact this

theorem findAsking_ints {P : Program} {t n : Nat} {L : List (Nat × Nat)} (hE : EqOK P L) (hm : (t, n) ∈ L) (ks : List Int) (hk : ks.length = n) (w : World) : ∀ (l : List MapEntry) (i : Nat), (∀ e ∈ l, ∃ ks' : List Int, ks'.length = n ∧ e.key = aggI ks') →
    ((Instr.findAsking t (aggI ks) l i).run P w = .ok none w ∧ ∀ e ∈ l, e.key ≠ aggI ks) ∨
    (∃ j e, (Instr.findAsking t (aggI ks) l i).run P w = .ok (some (i + j, e.val)) w ∧ l[j]? = some e ∧ e.key = aggI ks)
  | [], i, _ => .inl ⟨by simp [Instr.findAsking], by simp⟩
  | e :: l, i, h => by
    obtain ⟨ks', hl, he⟩ := h e (by simp)
    have heq := (hE t n hm ks ks' hk hl w (.tmp 0) (.tmp 0)).2.2
    rw [← he] at heq
    by_cases hkk : ks = ks'
    · refine .inr ⟨0, e, ?_, rfl, by rw [he, hkk]⟩
      have hb : (ks == ks') = true := by simpa using hkk
      simp [Instr.findAsking, Sem.run_bind, heq, hb]
    · have hb : (ks == ks') = false := by simpa using hkk
      have hne : e.key ≠ aggI ks := by rw [he]; intro h; exact hkk (aggI_inj h).symm
      have hrun : (Instr.findAsking t (aggI ks) (e :: l) i).run P w = (Instr.findAsking t (aggI ks) l (i + 1)).run P w := by
        simp [Instr.findAsking, Sem.run_bind, heq, hb]
      rcases findAsking_ints hE hm ks hk w l (i + 1) (fun e he => h e (by simp [he])) with ⟨h1, h2⟩ | ⟨j, e', h1, h2, h3⟩
      · refine .inl ⟨by rw [hrun, h1], fun e' he' => ?_⟩
        rcases List.mem_cons.1 he' with rfl | he'
        · exact hne
        · exact h2 e' he'
      · exact .inr ⟨j + 1, e', by rw [hrun, h1, show i + 1 + j = i + (j + 1) from by omega], by simpa using h2, h3⟩

def SetKObj (n : Nat) (S : List (List Int)) (x : Obj) : Prop :=
  ∃ es clock, x = .map es clock ∧ (∀ e ∈ es.toList, ∃ ks, ks ∈ S ∧ e.key = aggI ks ∧ e.val = .bool true) ∧ (∀ ks ∈ S, ∃ e ∈ es.toList, e.key = aggI ks) ∧ ∀ ks ∈ S, ks.length = n

def intsSC : List SC → Option (List Int)
  | [] => some []
  | .v (.int .i64 z) :: r => match intsSC r with
    | some l => some (z :: l)
    | none => none
  | _ :: _ => none

theorem intsSC_rel {ρ : Asg} : ∀ {l : List SC} {ks : List Int} {vs : List Value}, intsSC l = some ks → relL ρ l vs → vs = ks.map (Value.int .i64)
  | [], ks, vs, h, hr => by
    cases h
    cases vs with
    | nil => rfl
    | cons v vs => exact hr.elim
  | c :: r, ks, [], _, hr => hr.elim
  | c :: r, ks, v :: vs, h, hr => by
    cases c with
    | v x =>
      cases x with
      | int k z =>
        cases k <;> simp only [intsSC] at h <;> try (cases h; done)
        cases hl : intsSC r with
        | none => rw [hl] at h; cases h
        | some l =>
          rw [hl] at h
          cases h
          have h1 : v = .int .i64 z := hr.1
          rw [h1, intsSC_rel hl hr.2]; rfl
      | _ => simp [intsSC] at h
    | _ => simp [intsSC] at h

def lookupSK (B : Tabs) (et0 : TypeId) (kt0 n : Nat) (t : TypeId) (x y : SV) (H : Heap) (K : Eff → Prop) : Prop :=
  match lookT B.T t, x, y with
  | some ⟨.map kt et, _, _, _⟩, .c (.m k), .agg l => (match look H k, intsSC l with
    | some (true, .raw Φ), some ks => bif Nat.beq et et0 && (Nat.beq kt kt0 && Nat.beq (lenL ks) n) then
        ∃ S, Φ = SetKObj n S ∧ K ⟨.c (.v (.bool (decide (ks ∈ S)))), [k], [], []⟩ else False
    | _, _ => False)
  | _, _, _ => False
where lenL : List Int → Nat
  | [] => 0
  | _ :: r => lenL r + 1

theorem lenL_eq (l : List Int) : lookupSK.lenL l = l.length := by induction l <;> simp [lookupSK.lenL, *]

end Sx
end Go

