/-
  A part of the proof that a law answers true: lemmas of a symbolic walk, plain functions, or contracts of the functions walked (Sx19, Sx20, Sx28, Sx42, SxE). Conditions: none.
-/
import Derived.Test.YtagedjfjcnemoaaGreatPart06
import Derived.LoopNIn
import Derived.Laws.MakeOwn
import Derived.Test.YtagedjfjcnemoaaGreatPart01
import Derived.Laws.StructEq
import Derived.ChangeKeysEq
set_option maxRecDepth 100000
set_option linter.unusedVariables false
set_option linter.unusedSimpArgs false
namespace Go
namespace Sx

def modOps : List Oper → Nat → Nat
  | [], m => m
  | o :: r, m => match o.dst with
    | some d => modOps r (Nat.lor m (bit d))
    | none => modOps r m

def modC : Code → Nat → Nat
  | .region _ ops _, m => modOps ops.toList m
  | .seq x y, m => modC x (modC y m)
  | .cond _ x y, m => modC x (modC y m)
  | .block _ b, m => modC b m
  | .loop b, m => modC b m
  | .rangeFunc _ ps x y, m => modC x (modC y (ps.toList.foldl (fun m d => Nat.lor m (bit d)) m))
  | _, m => m

def putAll : List (Nat × SV) → Env → Env
  | [], e => e
  | (i, v) :: r, e => .put i v (putAll r e)

def deadH : List Nat → Heap → Heap
  | [], H => H
  | k :: r, H => (k, false, .cells []) :: deadH r H

def forceDH : List Nat → Heap → (Heap → Prop) → Prop
  | [], H, K => K H
  | k :: r, H, K => forceDH r H fun H => K ((k, false, .cells []) :: H)

def forcePA : List (Nat × SV) → Env → (Env → Prop) → Prop
  | [], e, K => K e
  | (i, v) :: r, e, K => forceSV v fun v => forcePA r e fun e => K (.put i v e)

theorem forceDH_eq {l : List Nat} {H : Heap} {K : Heap → Prop} : forceDH l H K = K (deadH l H) := by
  induction l generalizing K with
  | nil => rfl
  | cons c l ih => simp [forceDH, ih, deadH]

theorem forcePA_eq {l : List (Nat × SV)} {e : Env} {K : Env → Prop} : forcePA l e K = K (putAll l e) := by
  induction l generalizing K with
  | nil => rfl
  | cons c l ih => obtain ⟨i, v⟩ := c; simp [forcePA, ih, putAll, forceSV_eq]

def invSt (s : St) (m nl : Nat) (dead : List Nat) (st : List (Nat × SV)) (hp : Heap) : St :=
  ⟨putAll st (.mask m s.e), hp ++ deadH dead s.H, s.nx + nl⟩

def forceSt (s : St) (m nl : Nat) (dead : List Nat) (st : List (Nat × SV)) (hp : Heap) (K : St → Prop) : Prop := match s with
  | ⟨e, H, nx⟩ => forceDH dead H fun H => forceH hp H fun H => forceN (nx + nl) fun nx => forcePA st (.mask m e) fun e => K ⟨e, H, nx⟩

theorem forceSt_eq {s : St} {m nl : Nat} {dead : List Nat} {st : List (Nat × SV)} {hp : Heap} {K : St → Prop} : forceSt s m nl dead st hp K = K (invSt s m nl dead st hp) := by
  obtain ⟨e, H, nx⟩ := s
  simp [forceSt, forceDH_eq, forceH_eq, forceN_eq, forcePA_eq, invSt]

def lcx (cx : Cx) (nx m : Nat) (ρ : Asg) (t0 : Array Value) : Cx := { cx with md := some m, t0 := t0, ρ0 := ρ, n0 := nx }

def findSt (np nx : Nat) : List (Nat × SV) → Env → List (Nat × Nat) → List (Nat × Nat)
  | [], _, τ => τ
  | (i, v) :: r, e, τ => findSt np nx r e (findSV np nx v (e.get i) τ)

def findStK (np nx : Nat) : List (Nat × SV) → Env → List (Nat × Nat) → (List (Nat × Nat) → Prop) → Prop
  | [], _, τ, K => K τ
  | (i, v) :: r, e, τ, K => findSVK np nx v (e.get i) τ fun τ => findStK np nx r e τ K

theorem findStK_eq {np nx : Nat} : ∀ {l : List (Nat × SV)} {e : Env} {τ : List (Nat × Nat)} {K : List (Nat × Nat) → Prop}, findStK np nx l e τ K = K (findSt np nx l e τ)
  | [], _, _, _ => rfl
  | (i, v) :: r, e, τ, K => by simp only [findStK, findSVK_eq, findSt, findStK_eq]

def entSt (nl : List Nat) (σ : Nat → Nat) : List (Nat × SV) → Env → Prop
  | [], _ => True
  | (i, v) :: r, e => entSV nl (e.get i) (v.ren σ) ∧ entSt nl σ r e

def nmsSt : List (Nat × SV) → List Nat
  | [] => []
  | (_, v) :: r => v.nms ++ nmsSt r

def okRen (nx : Nat) (dead : List Nat) (τ : List (Nat × Nat)) : List Nat → Bool
  | [] => true
  | k :: r => bif Nat.beq (rnf τ k) k then okRen nx dead τ r else bif Nat.ble nx (rnf τ k) then okRen nx dead τ r else bif memN (rnf τ k) dead then okRen nx dead τ r else false

def LoopK (s : St) (nl : Nat) (dead : List Nat) (st : List (Nat × SV)) (hp : Heap) (s' : St) : Prop :=
  findStK s.nx s'.nx st s'.e [] fun τ => findHK s.nx s'.nx s'.H hp τ fun τ =>
    bif allGeF s.nx τ && (nodupB (mapN (rnf τ) (keys hp)) && (allLt (s.nx + nl) (nmsSt st) && (allLt (s.nx + nl) (nmsH hp) && (okRen s.nx dead τ (keys hp) && allLt s.nx dead)))) then
      forceLs (nilsOf s'.nx τ) fun nl' => entSt nl' (rnf τ) st s'.e ∧ entH nl' s'.H (rnf τ) hp else False

theorem getD_map_mask {m i : Nat} {e : Env} : (Env.mask m e).get i = if bitAt m i = true then .c .junk else e.get i := by
  simp only [Env.get]; cases bitAt m i <;> simp

theorem putAll_get : ∀ {st : List (Nat × SV)} {e : Env} {i : Nat}, (∃ v, (i, v) ∈ st ∧ (putAll st e).get i = v) ∨ (putAll st e).get i = e.get i
  | [], _, _ => .inr rfl
  | (j, v) :: r, e, i => by
    simp only [putAll]
    rw [get_put]
    by_cases h : i = j
    · rw [if_pos h]; exact .inl ⟨v, by simp [h], rfl⟩
    · rw [if_neg h]
      rcases putAll_get (st := r) (e := e) (i := i) with ⟨u, hu, he⟩ | he
      · exact .inl ⟨u, List.mem_cons_of_mem _ hu, he⟩
      · exact .inr he

theorem putAll_marks : ∀ {st : List (Nat × SV)} {e : Env}, (putAll st e).marks = e.marks
  | [], _ => rfl
  | (_, _) :: r, e => putAll_marks (st := r) (e := e)

theorem entSt_get {nl : List Nat} {σ : Nat → Nat} : ∀ {st : List (Nat × SV)} {e : Env}, entSt nl σ st e → ∀ i v, (i, v) ∈ st → entSV nl (e.get i) (v.ren σ)
  | [], _, _, _, _, h => by cases h
  | (j, u) :: r, e, h, i, v, hm => by
    rcases List.mem_cons.1 hm with he | hm
    · simp at he; obtain ⟨rfl, rfl⟩ := he; exact h.1
    · exact entSt_get h.2 i v hm

theorem mem_nmsSt {st : List (Nat × SV)} {i : Nat} {v : SV} {k : Nat} (h : (i, v) ∈ st) (hk : k ∈ v.nms) : k ∈ nmsSt st := by
  induction st with
  | nil => cases h
  | cons p r ih =>
    obtain ⟨j, u⟩ := p
    rcases List.mem_cons.1 h with he | h
    · simp at he; obtain ⟨rfl, rfl⟩ := he; simp [nmsSt, hk]
    · simp [nmsSt, ih h]

theorem look_deadH {dead : List Nat} {H : Heap} {k : Nat} : look (deadH dead H) k = if k ∈ dead then some (false, .cells []) else look H k := by
  induction dead with
  | nil => simp [deadH]
  | cons j r ih =>
    simp only [deadH, look_cons, List.mem_cons]
    by_cases h : k = j
    · simp [h]
    · simp [h, ih]

theorem okRen_get {nx : Nat} {dead : List Nat} {τ : List (Nat × Nat)} : ∀ {l : List Nat}, okRen nx dead τ l = true → ∀ k ∈ l, rnf τ k = k ∨ nx ≤ rnf τ k ∨ rnf τ k ∈ dead
  | [], _, _, h => by cases h
  | j :: r, h, k, hk => by
    simp only [okRen] at h
    have key : (rnf τ j = j ∨ nx ≤ rnf τ j ∨ rnf τ j ∈ dead) ∧ okRen nx dead τ r = true := by
      cases h1 : Nat.beq (rnf τ j) j with
      | true => simp [h1] at h; exact ⟨.inl (Nat.eq_of_beq_eq_true h1), h⟩
      | false =>
        simp only [h1, cond_false] at h
        cases h2 : Nat.ble nx (rnf τ j) with
        | true => simp [h2] at h; exact ⟨.inr (.inl (Nat.le_of_ble_eq_true h2)), h⟩
        | false =>
          simp only [h2, cond_false] at h
          cases h3 : memN (rnf τ j) dead with
          | true => simp [h3] at h; exact ⟨.inr (.inr (memN_iff.1 h3)), h⟩
          | false => simp [h3] at h
    rcases List.mem_cons.1 hk with rfl | hk
    · exact key.1
    · exact okRen_get key.2 k hk

theorem ent_sat {cx : Cx} {ρ ρ' : Asg} {s s' : St} {a a' : Act} {w w' : World} {m nl : Nat} {dead : List Nat} {st : List (Nat × SV)} {hp : Heap}
    (hs : Sat cx ρ s a w) (hs' : Sat (lcx cx s.nx m ρ a.tmps) ρ' s' a' w') (hE : LoopK s nl dead st hp s')
    (hbase : ∀ k, k < s.nx → k ∉ keys hp → k ∉ dead → look s'.H k = look s.H k) (hmk : s'.e.marks = s.e.marks) : ∃ ρ'', Sat (lcx cx s.nx m ρ a.tmps) ρ'' (invSt s m nl dead st hp) a' w' := by
  simp only [LoopK, findStK_eq, findHK_eq] at hE
  generalize findH s.nx s'.nx s'.H hp (findSt s.nx s'.nx st s'.e []) = τ at hE
  simp only [forceLs_eq] at hE
  obtain ⟨hc, hst, hhp⟩ := bif_and hE
  simp only [Bool.and_eq_true] at hc
  obtain ⟨c1, c2, c3, c4, c5, c6⟩ := hc
  have c3 := allLt_iff.1 c3
  have c4 := allLt_iff.1 c4
  have c5 := okRen_get c5
  have c6 := allLt_iff.1 c6
  have hinj := nodupB_inj c2
  have hid : ∀ k, k < s.nx → rnf τ k = k := fun k hk => rnf_lt c1 hk
  obtain ⟨ρn, hρn⟩ : ∃ ρn : Asg, ρn = fun k => if k ∈ nilsOf s'.nx τ then ⟨0, 0, 0⟩ else ρ' k := ⟨_, rfl⟩
  have hin : ∀ k, k ∈ nilsOf s'.nx τ → ρn k = ⟨0, 0, 0⟩ := fun k hk => by rw [hρn]; simp only; rw [if_pos hk]
  have hlow : ∀ k, k < s'.nx → ρn k = ρ' k := fun k hk => by
    rw [hρn]; simp only; rw [if_neg fun hm => by have := nilsOf_ge hm; omega]
  have hnn : NilN ρn (nilsOf s'.nx τ) := fun k hk => by rw [hin k hk]
  have hnx : s.nx ≤ s'.nx := hs'.n0
  have hreg : ∀ k own o, look s'.H k = some (own, o) → SatO ρn w' k own o ∧ ρn k = ρ' k := fun k own o hl => by
    have hb := hs'.bnd.heap k own o hl
    exact ⟨(hs'.heap.reg k own o hl).asg (hlow k hb.1) (fun n hn => hlow n (hb.2 n hn)), hlow k hb.1⟩
  have hold : ∀ k, k < s.nx → ρn (rnf τ k) = ρ k := fun k hk => by
    rw [hid k hk, hlow k (by omega)]; exact hs'.base k hk
  -- where a region comes from
  have hcase : ∀ k own o, look (hp ++ deadH dead s.H) k = some (own, o) →
      (k ∈ keys hp ∧ rnf τ k ∈ nilsOf s'.nx τ ∧ nilO o) ∨
      (∃ own' o', look s'.H (rnf τ k) = some (own', o') ∧ (own = true → own' = true) ∧ entO (nilsOf s'.nx τ) o' (o.ren (rnf τ)) ∧ k ∈ keys hp) ∨
      (own = false ∧ o = .cells [] ∧ k < s.nx) ∨
      (k < s.nx ∧ k ∉ keys hp ∧ k ∉ dead ∧ look s'.H k = some (own, o) ∧ ∀ n, o.uses [n] = true → n < s.nx) := by
    intro k own o hl
    rw [look_append] at hl
    cases h1 : look hp k with
    | some x =>
      rw [h1] at hl; simp at hl; subst hl
      rcases entH_get hhp h1 with ⟨hm, hn⟩ | ⟨_, own', o', h2, h3, h4⟩
      · exact .inl ⟨look_keys h1, hm, hn⟩
      · exact .inr (.inl ⟨own', o', h2, h3, h4, look_keys h1⟩)
    | none =>
      rw [h1] at hl; simp only [Option.none_or] at hl
      rw [look_deadH] at hl
      by_cases hd : k ∈ dead
      · rw [if_pos hd] at hl; simp at hl
        exact .inr (.inr (.inl ⟨hl.1, hl.2.symm, c6 k hd⟩))
      · rw [if_neg hd] at hl
        have hb := hs.bnd.heap k own o hl
        have hkk : k ∉ keys hp := fun hk => by obtain ⟨x, hx⟩ := look_of_keys hk; rw [hx] at h1; cases h1
        exact .inr (.inr (.inr ⟨hb.1, hkk, hd, by rw [hbase k hb.1 hkk hd]; exact hl, hb.2⟩))
  -- each region that has room is one of s', at an other name
  have hsrc : ∀ k own o, look (hp ++ deadH dead s.H) k = some (own, o) → 0 < o.room (ρn (rnf τ k)) →
      ∃ own' o', look s'.H (rnf τ k) = some (own', o') ∧ (own = true → own' = true) ∧ o'.room (ρ' (rnf τ k)) = o.room (ρn (rnf τ k)) ∧ ρn (rnf τ k) = ρ' (rnf τ k) ∧
        (k ∈ keys hp ∨ (k < s.nx ∧ k ∉ keys hp ∧ k ∉ dead)) := by
    intro k own o hl hr
    rcases hcase k own o hl with ⟨_, hm, hn⟩ | ⟨own', o', h1, h2, h3, h4⟩ | ⟨_, rfl, _⟩ | ⟨h1, h2, h3, h4, _⟩
    · rw [(satO_nil (ρ := fun k => ρn (rnf τ k)) (w := w') (own := true) hn (hin _ hm)).2] at hr; omega
    · have e := (hreg _ _ _ h1).2
      exact ⟨own', o', h1, h2, by rw [e, ← entO_room h3, SO.ren_room], e, .inl h4⟩
    · simp [SO.room] at hr
    · have e := (hreg _ _ _ h4).2
      rw [hid k h1]
      exact ⟨own, o, h4, id, by rw [e], e, .inr ⟨h1, h2, h3⟩⟩
  have hne : ∀ k own o k' own' o', look (hp ++ deadH dead s.H) k = some (own, o) → look (hp ++ deadH dead s.H) k' = some (own', o') → k ≠ k' →
      (k ∈ keys hp ∨ (k < s.nx ∧ k ∉ keys hp ∧ k ∉ dead)) → (k' ∈ keys hp ∨ (k' < s.nx ∧ k' ∉ keys hp ∧ k' ∉ dead)) → rnf τ k ≠ rnf τ k' := by
    intro k own o k' own' o' _ _ hkk h1 h2 he
    rcases h1 with h1 | ⟨h1, h1', h1''⟩ <;> rcases h2 with h2 | ⟨h2, h2', h2''⟩
    · exact hkk (hinj k h1 k' h2 he)
    · rw [hid k' h2] at he
      rcases c5 k h1 with h3 | h3 | h3
      · exact hkk (h3.symm.trans he)
      · omega
      · rw [he] at h3; exact h2'' h3
    · rw [hid k h1] at he
      rcases c5 k' h2 with h3 | h3 | h3
      · exact hkk (he.trans h3)
      · omega
      · rw [← he] at h3; exact h1'' h3
    · rw [hid k h1, hid k' h2] at he; exact hkk he
  refine ⟨fun k => ρn (rnf τ k), hs'.size, ?_, ?_, ⟨hs'.heap.frm, ?_, ?_, ?_, ?_⟩, ⟨?_, ?_, ?_⟩, ?_, hs'.keep, Nat.le_add_right _ _⟩
  · rw [hs'.defers, hmk]
    simp only [invSt, putAll_marks, Env.marks]
    refine (marks_agree fun k hk => ?_).symm
    have h1 := hs.bnd.mks k hk
    rw [hid k h1, hlow k (by omega)]
  · intro i
    simp only [invSt]
    rcases putAll_get (st := st) (e := .mask m s.e) (i := i) with ⟨v, hv, he⟩ | he
    · rw [he]
      refine SV.ren_rel.1 (entSV_rel hnn (entSt_get hst i v hv) ?_)
      exact SV.rel_agree (fun k hk => hlow k (hs'.bnd.env i k hk)) (hs'.env i)
    · rw [he, getD_map_mask]
      by_cases hb : bitAt m i = true
      · rw [if_pos hb]; trivial
      · rw [if_neg hb]
        have := hs'.keep i (by simp [lcx, inMd, hb])
        rw [this]
        exact SV.rel_agree (fun k hk => hold k (hs.bnd.env i k hk)) (hs.env i)
  · intro k own o hl
    rcases hcase k own o hl with ⟨_, hm, hn⟩ | ⟨own', o', h1, h2, h3, h4⟩ | ⟨rfl, rfl, _⟩ | ⟨h1, h2, h3, h4, h5⟩
    · exact (satO_nil (ρ := fun k => ρn (rnf τ k)) hn (hin _ hm)).1
    · exact (entO_sat hnn h3 ((hreg _ _ _ h1).1.less' h2)).of_ren
    · exact satO_dead _ _ _
    · refine (hreg _ _ _ h4).1.asg ?_ (fun n hn => ?_)
      · rw [hid k h1]
      · rw [hid n (h5 n hn)]
  · intro k k' o own' o' hkk hl hl' hr hr'
    obtain ⟨own1, o1, h1, h2, h3, h4, h5⟩ := hsrc k true o hl hr
    obtain ⟨own2, o2, h1', h2', h3', h4', h5'⟩ := hsrc k' own' o' hl' hr'
    have := h2 rfl; subst this
    simp only [h4, h4']
    exact hs'.heap.apart _ _ _ _ _ (hne k _ _ k' _ _ hl hl' hkk h5 h5') h1 h1' (by rw [h3]; exact hr) (by rw [h3']; exact hr')
  · intro k o hl hr
    obtain ⟨own1, o1, h1, h2, h3, h4, h5⟩ := hsrc k true o hl hr
    have := h2 rfl; subst this
    simp only [h4]
    exact hs'.heap.fresh _ _ h1 (by rw [h3]; exact hr)
  · intro k own o hl hr
    obtain ⟨own1, o1, h1, h2, h3, h4, h5⟩ := hsrc k own o hl hr
    simp only [h4]
    exact hs'.heap.valid _ _ _ h1 (by rw [h3]; exact hr)
  · intro i k hk
    simp only [invSt] at hk ⊢
    rcases putAll_get (st := st) (e := .mask m s.e) (i := i) with ⟨v, hv, he⟩ | he
    · rw [he] at hk
      exact c3 k (mem_nmsSt hv (SV.uses_nms.1 hk))
    · rw [he, getD_map_mask] at hk
      by_cases hb : bitAt m i = true
      · rw [if_pos hb] at hk; simp [SV.uses, SC.uses, SC.nms, anyMem] at hk
      · rw [if_neg hb] at hk
        have := hs.bnd.env i k hk
        omega
  · intro k hk
    simp only [invSt, putAll_marks, Env.marks] at hk ⊢
    have := hs.bnd.mks k hk
    omega
  · intro k own o hl
    simp only [invSt] at hl ⊢
    rw [look_append] at hl
    cases h1 : look hp k with
    | some x =>
      rw [h1] at hl; simp at hl; subst hl
      have := look_nms h1
      exact ⟨c4 k this.1, fun n hn => c4 n (this.2 n (SO.uses_nms.1 hn))⟩
    | none =>
      rw [h1] at hl; simp only [Option.none_or] at hl
      rw [look_deadH] at hl
      by_cases hd : k ∈ dead
      · rw [if_pos hd] at hl; simp at hl
        obtain ⟨_, rfl⟩ := hl
        exact ⟨by have := c6 k hd; omega, fun n hn => by simp [SO.uses, usesL] at hn⟩
      · rw [if_neg hd] at hl
        have hb := hs.bnd.heap k own o hl
        exact ⟨by omega, fun n hn => by have := hb.2 n hn; omega⟩
  · intro k hk
    exact hold k hk

def subMd (m : Nat) : Option Nat → Bool
  | none => true
  | some m0 => Nat.beq (Nat.land m m0) m

theorem subMd_get {m : Nat} {md : Option Nat} (h : subMd m md = true) {i : Nat} (hi : inMd md i = false) : bitAt m i = false := by
  cases md with
  | none => cases hi
  | some m0 =>
    simp only [subMd] at h
    have := Nat.eq_of_beq_eq_true h
    simp only [inMd] at hi
    rw [bitAt_testBit] at *
    have h2 : (Nat.land m m0).testBit i = (m.testBit i && m0.testBit i) := Nat.testBit_and m m0 i
    rw [this, hi] at h2
    simpa using h2

def lenH : Heap → Nat
  | [] => 0
  | _ :: r => lenH r + 1

def dropH : Nat → Heap → Heap
  | 0, H => H
  | _ + 1, [] => []
  | n + 1, _ :: r => dropH n r

def frontOK (nx : Nat) (ks dead : List Nat) : Nat → Heap → Bool
  | 0, _ => true
  | _ + 1, [] => true
  | n + 1, (k, _) :: r => bif Nat.ble nx k then frontOK nx ks dead n r else bif memN k ks then frontOK nx ks dead n r else bif memN k dead then frontOK nx ks dead n r else false

def BackK (s : St) (nl : Nat) (dead : List Nat) (st : List (Nat × SV)) (hp : Heap) (s' : St) : Prop :=
  bif frontOK s.nx (keys hp) dead (lenH s'.H - lenH s.H) s'.H && eqNs s'.e.marks s.e.marks then dropH (lenH s'.H - lenH s.H) s'.H = s.H ∧ LoopK s nl dead st hp s' else False

theorem front_look {nx : Nat} {ks dead : List Nat} : ∀ {n : Nat} {H H0 : Heap}, frontOK nx ks dead n H = true → dropH n H = H0 → ∀ k, k < nx → k ∉ ks → k ∉ dead → look H k = look H0 k
  | 0, H, H0, _, hd, _, _, _, _ => by simp only [dropH] at hd; rw [hd]
  | n + 1, [], H0, _, hd, _, _, _, _ => by simp only [dropH] at hd; rw [← hd]
  | n + 1, (j, x) :: r, H0, hf, hd, k, h1, h2, h3 => by
    simp only [frontOK] at hf
    simp only [dropH] at hd
    have hjk : k ≠ j ∧ frontOK nx ks dead n r = true := by
      cases q1 : Nat.ble nx j with
      | true => simp [q1] at hf; exact ⟨by have := Nat.le_of_ble_eq_true q1; omega, hf⟩
      | false =>
        simp only [q1, cond_false] at hf
        cases q2 : memN j ks with
        | true => simp [q2] at hf; exact ⟨by rintro rfl; exact h2 (memN_iff.1 q2), hf⟩
        | false =>
          simp only [q2, cond_false] at hf
          cases q3 : memN j dead with
          | true => simp [q3] at hf; exact ⟨by rintro rfl; exact h3 (memN_iff.1 q3), hf⟩
          | false => simp [q3] at hf
    rw [look_cons, if_neg hjk.1]
    exact front_look hjk.2 hd k h1 h2 h3

def loopK (cx : Cx) (B : Tabs) (b : Code) (Q : Exit → St → Prop) (s : St) {G : Type} (nl : Nat) (dead : List Nat) (st : G → List (Nat × SV)) (hp : G → Heap) (I : G → Prop) (μ : G → Nat) : Prop :=
  forceN (modC b 0) fun m => bif subMd m cx.md then
    (∃ g, I g ∧ LoopK s nl dead (st g) (hp g) s) ∧
    (∀ g, I g → ∀ ρ t0, (∀ k, k < cx.n0 → ρ k = cx.ρ0 k) → forceSt s m nl dead (st g) (hp g) fun s1 => vc (lcx cx s.nx m ρ t0) B b (fun ex s' => match ex with
      | .normal => ∃ g', I g' ∧ μ g' < μ g ∧ BackK s nl dead (st g') (hp g') s'
      | ex => Q ex s') s1)
  else False

theorem Sat.out {cx : Cx} {ρ ρ' : Asg} {s s' : St} {a a' : Act} {w w' : World} {m : Nat} (hs : Sat cx ρ s a w) (hm : subMd m cx.md = true) (h : Sat (lcx cx s.nx m ρ a.tmps) ρ' s' a' w') : Sat cx ρ' s' a' w' :=
  { size := h.size, defers := h.defers, env := h.env, heap := h.heap, bnd := h.bnd
    base := fun k hk => (h.base k (Nat.lt_of_lt_of_le hk hs.n0)).trans (hs.base k hk)
    keep := fun i hi => (h.keep i (by have := subMd_get hm hi; simpa [lcx, inMd] using this)).trans (hs.keep i hi)
    n0 := Nat.le_trans hs.n0 h.n0 }

theorem loop_step {cx : Cx} {B : Tabs} (hB : TabsOK cx.P B) {b : Code} {Q : Exit → St → Prop} {s : St} {G : Type} (nl : Nat) (dead : List Nat) (st : G → List (Nat × SV)) (hp : G → Heap) (I : G → Prop) (μ : G → Nat)
    (h : loopK cx B b Q s nl dead st hp I μ) : Sound cx (.loop b) Q s := by
  refine ⟨fun ρ a w hs QQ hQ => ?_⟩
  simp only [loopK, forceN_eq] at h
  generalize modC b 0 = m at h
  obtain ⟨hm, ⟨g0, hg0, h0⟩, hstep⟩ := bif_and h
  simp only [forceSt_eq] at hstep
  have hs1 : Sat (lcx cx s.nx m ρ a.tmps) ρ s a w :=
    { size := hs.size, defers := hs.defers, env := hs.env, heap := hs.heap, bnd := hs.bnd, base := fun _ _ => rfl, keep := fun _ _ => rfl, n0 := Nat.le_refl _ }
  obtain ⟨ρ1, h1⟩ := ent_sat hs hs1 h0 (fun _ _ _ _ => rfl) rfl
  refine wpIn_loop_rounds (μ g0 + 1) ?_
  have key : ∀ n g ρ' a' w', μ g < n → I g → Sat (lcx cx s.nx m ρ a.tmps) ρ' (invSt s m nl dead (st g) (hp g)) a' w' → Code.roundsIn (fen cx.rd) 0 cx.P b QQ n a' w' := by
    intro n
    induction n with
    | zero => intro g ρ' a' w' h; omega
    | succ n ih =>
      intro g ρ' a1 w1 hlt hg hsat
      refine (vc_sound (cx := lcx cx s.nx m ρ a.tmps) hB b _ _ (hstep g hg ρ a.tmps hs.base)).h ρ' a1 w1 hsat _ ?_
      intro ex s' ρ2 a2 w2 hq hs2
      cases ex with
      | normal =>
        obtain ⟨g', hg', hlt', hback⟩ := hq
        obtain ⟨hf, hd, hK⟩ := bif_and hback
        simp only [Bool.and_eq_true] at hf
        obtain ⟨ρ3, h3⟩ := ent_sat hs hs2 hK (front_look hf.1 hd) (eqNs_eq hf.2)
        exact ih g' ρ3 a2 w2 (by omega) hg' h3
      | _ => exact hQ _ _ _ _ _ hq (hs.out hm hs2)
  exact key _ g0 ρ1 a w (Nat.lt_succ_self _) hg0 h1

end Sx
end Go

namespace Go
namespace Sx

def mksK (B : Tabs) (A : Arr) (t : TypeId) (x y : SV) (nx : Nat) (K : Eff → Prop) : Prop :=
  match lookT B.T t, x, y with
  | some ⟨.slice el, _, _, _⟩, .c (.v (.int _ n)), .c (.v (.int _ m)) => (match lookT B.T el with
    | some ti => bif Nat.beq ti.size 1 && Nat.beq A.sz 1 then
        ∃ N : Nat, (A.xs.length = N ∧ n = (N : Int) ∧ m = (N : Int) ∧ N * (ti.bytes + 1) ≤ 140737488355328 ∧ ∀ x ∈ A.xs, entL [] (ti.zero.map cC) (A.enc x)) ∧
        K ⟨.c (.s nx 0 N 1), [], [(nx, true, .arr A)], [nx]⟩ else False
    | none => False)
  | _, _, _ => False

theorem entL_rel0 {ρ : Asg} {l l' : List SC} {vs : List Value} (h : entL [] l l') (hr : relL ρ l vs) : relL ρ l' vs := entL_rel (by intro k hk; cases hk) h hr

theorem mks_step {cx : Cx} {B : Tabs} (hB : TabsOK cx.P B) {o : Oper} {e : Env} {H : Heap} {nx : Nat} {K : Eff → Prop} {x y : Operand} {t : TypeId} (A : Arr)
    (hA : A.nm = []) (ho : o.op = .makeSlice t x y) (h : mksK B A t (ev e x) (ev e y) nx K) : ∃ F, CallOK cx o e H nx F ∧ K F := by
  have hx : x ∈ o.op.operands.toList := by simp [ho, Op.operands]
  have hy : y ∈ o.op.operands.toList := by simp [ho, Op.operands]
  unfold mksK at h
  split at h
  · rename_i el s0 b0 z0 kn n km m ht hex hey
    split at h
    · rename_i ti hti
      obtain ⟨hb, N, ⟨rfl, hn, hm, h1, h2⟩, hK⟩ := bif_and h
      simp only [Bool.and_eq_true] at hb
      have hs1 := Nat.eq_of_beq_eq_true hb.1
      have hs2 := Nat.eq_of_beq_eq_true hb.2
      refine ⟨_, ⟨loc_new (by simp [ho]) below_s ?_ ?_, fun j hj => by simp at hj; subst hj; simp⟩, hK⟩
      · intro n' _ j hj
        simp only [SO.uses, hA] at hj; cases hj
      · intro ρ a w hr _
        obtain ⟨i, z, hi, hz, hisz, hiby, hzz⟩ := ti_parts hB hti
        have hx1 := reads_fit hx hr; rw [hex] at hx1; simp only [SV.rel, SC.rel] at hx1
        have hy1 := reads_fit hy hr; rw [hey] at hy1; simp only [SV.rel, SC.rel] at hy1
        have hbd : A.xs.length * ti.bytes ≤ 140737488355328 := Nat.le_trans (Nat.mul_le_mul_left _ (Nat.le_succ _)) h1
        have hln : A.xs.length * 1 ≤ 140737488355328 := Nat.le_trans (Nat.mul_le_mul_left _ (by omega)) h1
        have hrun := run_make (P := cx.P) w t el i z (und_slice hB ht) hi hz kn km n m (by omega) (by omega) (by
          rw [hm, hiby]
          have h9 : ((ti.bytes * A.xs.length : Nat) : Int) ≤ 281474976710656 := by rw [Nat.mul_comm]; omega
          rwa [Int.natCast_mul] at h9) (by omega)
        have hzsz : z.cells.size = 1 := by
          have := congrArg List.length hzz
          rw [hB.zsz el ti hti, hs1] at this
          simpa using this
        refine ⟨.slice (some ⟨w.heap.size, 0, none⟩) A.xs.length A.xs.length, .cells (madeCells z.cells (A.xs.length * 1)) el (0, 0), A.xs.length, ?_, ?_, satO_new_arr (Nat.le_refl _) (by rw [size_madeCells, hs2]) ?_⟩
        · simp only [execOp, ho, hx1, hy1, Sem.run_bind, hrun, Result.andThen_ok, Sem.run_pure]
          rw [hn, hm, hisz, hs1]
          rfl
        · simp only [SV.rel, SC.rel, upd_eq, Nat.sub_zero, Nat.zero_mul, Nat.zero_add, hn, hm, Int.toNat_natCast]
          exact ⟨_, rfl, Nat.le_refl _, fun _ => by simp [adr, upd_eq]⟩
        · intro i' xx hxx j d hd
          have hxm := List.mem_of_getElem? hxx
          have hlt : i' < A.xs.length := (List.getElem?_eq_some_iff.1 hxx).1
          have hj : j < 1 := by have h8 := (List.getElem?_eq_some_iff.1 hd).1; have h9 := A.hl xx; omega
          have hj0 : j = 0 := by omega
          subst hj0
          have hrl : relL (upd ρ nx ⟨w.heap.size, 0, A.xs.length⟩) (A.enc xx) z.cells.toList := entL_rel0 (h2 xx hxm) (by rw [hzz]; exact relL_map_cC _ _)
          obtain ⟨v, hv, hvr⟩ := relL_get hrl hd
          refine ⟨v, ?_, hvr⟩
          rw [hs2]
          have hv' : z.cells[0]? = some v := by simpa using hv
          have hv2 : z.cells[0]! = v := by
            rw [getElem!_def, hv']
          obtain ⟨h0, hv3⟩ := Array.getElem?_eq_some_iff.1 hv'
          simp [madeCells, hlt, hzsz, Nat.mod_one, hv3]
    · exact h.elim
  · exact h.elim

def fillR (sz : Nat) : List SC → List (Nat × SV) → Option (List SC)
  | cells, [] => some cells
  | cells, (i, v) :: rest => match cellsOf v with
    | some l => bif Nat.beq l.length sz && Nat.ble (i * sz + l.length) cells.length then fillR sz (splice cells (i * sz) l) rest else none
    | none => none

def encAll (A : Arr) : List A.α → List SC
  | [] => []
  | x :: r => A.enc x ++ encAll A r

def junks : Nat → List SC
  | 0 => []
  | n + 1 => .junk :: junks n

def bsK (B : Tabs) (A : Arr) (e : Env) (t : TypeId) (len : Nat) (parts : List (Nat × Operand)) (nx : Nat) (K : Eff → Prop) : Prop :=
  match lookT B.T t with
  | some ⟨.slice el, _, _, _⟩ => (match lookT B.T el with
    | some ti => (match fillR ti.size (junks (len * ti.size)) (evParts e parts) with
      | some l => bif Nat.beq ti.size A.sz && (Nat.ble 1 ti.size && Nat.ble (len * ti.size) 16777216) then
          (A.xs.length = len ∧ entL [] l (encAll A A.xs)) ∧ K ⟨.c (.s nx 0 len ti.size), [], [(nx, true, .arr A)], [nx]⟩ else False
      | none => False)
    | none => False)
  | _ => False

theorem encAll_get {A : Arr} : ∀ {xs : List A.α} {i j : Nat} {x : A.α} {c : SC}, xs[i]? = some x → (A.enc x)[j]? = some c → (encAll A xs)[i * A.sz + j]? = some c
  | [], i, _, _, _, h, _ => by simp at h
  | y :: r, 0, j, x, c, h, hc => by
    simp at h; subst h
    simp only [encAll, Nat.zero_mul, Nat.zero_add]
    have hj : j < (A.enc y).length := (List.getElem?_eq_some_iff.1 hc).1
    rw [List.getElem?_append_left hj]; exact hc
  | y :: r, i + 1, j, x, c, h, hc => by
    simp only [encAll]
    have hl := A.hl y
    have : (i + 1) * A.sz + j = (A.enc y).length + (i * A.sz + j) := by rw [hl, Nat.add_mul]; omega
    rw [this, List.getElem?_append_right (by omega), Nat.add_sub_cancel_left]
    exact encAll_get (by simpa using h) hc

theorem junks_rel {ρ : Asg} : ∀ {vs : List Value}, relL ρ (junks vs.length) vs
  | [] => trivial
  | _ :: _ => ⟨trivial, junks_rel⟩

theorem fillR_ok {ρ : Asg} {e : Env} {a : Act} {sz : Nat} :
    ∀ (parts : List (Nat × Operand)) (cells : List SC) (cs : Array Value) (l : List SC), relL ρ cells cs.toList → (∀ p ∈ parts, (ev e p.2).rel ρ (a.eval p.2)) →
      fillR sz cells (evParts e parts) = some l → ∃ out, Instr.fill (fun i => some (i * sz, sz)) cs (parts.map fun p => (p.1, a.eval p.2)) = some out ∧ relL ρ l out.toList
  | [], cells, cs, l, hc, _, h => by simp [evParts, fillR] at h; subst h; exact ⟨cs, by simp [Instr.fill], hc⟩
  | (i, x) :: parts, cells, cs, l, hc, hp, h => by
    simp only [evParts, fillR] at h
    split at h
    · rename_i lx hlx
      cases hb : Nat.beq lx.length sz && Nat.ble (i * sz + lx.length) cells.length with
      | false => simp [hb] at h
      | true =>
        simp only [hb, cond_true] at h
        simp only [Bool.and_eq_true] at hb
        have hlen : lx.length = sz := Nat.eq_of_beq_eq_true hb.1
        have hle : i * sz + lx.length ≤ cells.length := Nat.le_of_ble_eq_true hb.2
        have hx := (cellsOf_rel hlx (hp (i, x) (List.mem_cons_self ..))).1
        have hl1 := relL_length hx
        have hl2 := relL_length hc
        have hsz : (a.eval x).cells.size = sz := by simp at hl1; omega
        have hfit : i * sz + (a.eval x).cells.size ≤ cs.size := by simp at hl1 hl2; omega
        have hf := fold_set (a.eval x).cells.toList 0 cs (i * sz) (by simpa using hfit)
        have hrel : relL ρ (splice cells (i * sz) lx) (((a.eval x).cells.toList.zipIdx 0).foldl (fun cs (p : Value × Nat) => cs.setIfInBounds (i * sz + p.2) p.1) cs).toList := by
          rw [hf]; simpa using relL_splice (o := i * sz) hc hx
        obtain ⟨out, ho, hr⟩ := fillR_ok parts (splice cells (i * sz) lx) _ l hrel (fun p hpm => hp p (List.mem_cons_of_mem _ hpm)) h
        refine ⟨out, ?_, hr⟩
        simp only [List.map_cons, Instr.fill]
        rw [if_neg (by simp [hsz]; omega)]
        rw [← ho]
        congr 1
        rw [← Array.foldl_toList, Array.toList_zipIdx]
    · cases h

theorem bs_step {cx : Cx} {B : Tabs} (hB : TabsOK cx.P B) {o : Oper} {e : Env} {H : Heap} {nx : Nat} {K : Eff → Prop} {t : TypeId} {len : Nat} {parts : Array (Nat × Operand)} (A : Arr)
    (hA : A.nm = []) (ho : o.op = .buildSlice t len parts) (h : bsK B A e t len parts.toList nx K) : ∃ F, CallOK cx o e H nx F ∧ K F := by
  have hmem : ∀ p ∈ parts.toList, p.2 ∈ o.op.operands.toList := fun p hp => by
    simp [ho, Op.operands]; exact ⟨p.1, by simpa using hp⟩
  unfold bsK at h
  split at h
  · rename_i el s0 b0 z0 ht
    split at h
    · rename_i ti hti
      split at h
      · rename_i l hl
        obtain ⟨hb, ⟨hlen, hent⟩, hK⟩ := bif_and h
        simp only [Bool.and_eq_true] at hb
        have hb1 := Nat.eq_of_beq_eq_true hb.1
        have hb2 := Nat.le_of_ble_eq_true hb.2.1
        have hb3 := Nat.le_of_ble_eq_true hb.2.2
        refine ⟨_, ⟨loc_new (by simp [ho]) below_s ?_ ?_, fun j hj => by simp at hj; subst hj; simp⟩, hK⟩
        · intro n' _ j hj
          simp only [SO.uses, hA] at hj; cases hj
        · intro ρ a w hr hfr
          obtain ⟨i, z, hi, hz, hisz, hiby, hzz⟩ := ti_parts hB hti
          have hr' : ∀ p ∈ parts.toList, (ev e p.2).rel (upd ρ nx ⟨w.heap.size, 0, len⟩) (a.eval p.2) := by
            intro p hp
            refine SV.rel_upd' (reads_fit (hmem p hp) hr) ?_
            have hm := hmem p hp
            cases hx : p.2 with
            | tmp t => rw [hx] at hm; exact hfr t hm
            | const v => exact evC_uses v _
            | global g => simp [ev, SV.uses, SC.uses, SC.nms, anyMem]
            | func g => simp [ev, SV.uses, SC.uses, SC.nms, anyMem]
          have hinit : ((Array.range (len * i.size)).map (z.cells[· % z.cells.size]!)).size = len * ti.size := by simp [hisz]
          obtain ⟨out, hout, hrel⟩ := fillR_ok (ρ := upd ρ nx ⟨w.heap.size, 0, len⟩) (a := a) (e := e) (sz := ti.size) parts.toList (junks (len * ti.size)) ((Array.range (len * i.size)).map (z.cells[· % z.cells.size]!)) l
            (by have := @junks_rel (upd ρ nx ⟨w.heap.size, 0, len⟩) ((Array.range (len * i.size)).map (z.cells[· % z.cells.size]!)).toList; rwa [Array.length_toList, hinit] at this) hr' hl
          have hlo := relL_length hrel
          have hrelA := entL_rel0 hent hrel
          have hlA := relL_length hrelA
          have hencl : ∀ xs : List A.α, (encAll A xs).length = xs.length * A.sz := by
            intro xs; induction xs with
            | nil => simp [encAll]
            | cons x r ih => simp only [encAll, List.length_append, ih, A.hl, List.length_cons, Nat.add_mul]; omega
          refine ⟨.slice (some ⟨w.heap.size, 0, none⟩) len len, .cells out el (0, 0), len, ?_, ?_, satO_new_arr (by omega) ?_ ?_⟩
          · have hsz : (sizeOf el).run cx.P w = .ok i.size w := by simp [sizeOf, typeInfo, hi]
            have hle : ¬ (len * i.size > 2 ^ 24) := by rw [hisz]; omega
            have h2 : (Array.map (fun x => (x.fst, a.eval x.snd)) parts).toList = parts.toList.map fun p => (p.1, a.eval p.2) := by simp
            simp only [execOp, ho, Instr.buildSlice, Sem.run_bind, run_underlying (und_slice hB ht), Result.andThen_ok, hsz, if_neg hle, h2]
            by_cases h0 : len * i.size = 0
            · have hl0 : len = 0 := by
                rcases Nat.mul_eq_zero.1 h0 with h | h
                · exact h
                · omega
              subst hl0
              simp only [Nat.zero_mul, if_true, Sem.run_pure, Result.andThen_ok]
              simp only [Nat.zero_mul] at hout
              rw [← hisz] at hout
              have e0 : (Array.map (fun x => (#[] : Array Value)[x % (#[] : Array Value).size]!) (Array.range 0)) = (Array.map (fun x => z.cells[x % z.cells.size]!) (Array.range 0)) := by simp
              simp only [e0, hout, Sem.run_bind, newRow, newObj, Sem.run, Result.andThen_ok, Sem.run_pure]
              rfl
            · have hzr : (zeroValue el).run cx.P w = .ok z w := by simp [zeroValue, typeInfo, hi, hz]
              rw [← hisz] at hout
              simp only [if_neg h0, Sem.run_bind, hzr, Result.andThen_ok, Sem.run_pure, hout, newRow, newObj, Sem.run]
              rfl
          · simp only [SV.rel, SC.rel, upd_eq, Nat.sub_zero, Nat.zero_mul, Nat.zero_add]
            exact ⟨_, rfl, Nat.le_refl _, fun _ => by simp [adr, upd_eq]⟩
          · rw [hencl] at hlA; rw [← hlen]; simpa using hlA.symm
          · intro i' xx hxx j d hd
            obtain ⟨v, hv, hvr⟩ := relL_get hrelA (encAll_get hxx hd)
            exact ⟨v, by simpa using hv, hvr⟩
      · exact h.elim
    · exact h.elim
  · exact h.elim

end Sx
end Go

namespace Go
namespace Sx

def isI64 : Option TypeDesc → Bool
  | some (.int .i64) => true
  | _ => false

def intFs (P : Program) : List Field → Nat → Bool
  | [], _ => true
  | f :: r, j => (f.name != "_") && (f.offset == j && (isI64 (P.underlying f.type) && intFs P r (j + 1)))

theorem isI64_eq {o : Option TypeDesc} (h : isI64 o = true) : o = some (.int .i64) := by
  unfold isI64 at h
  split at h
  · rfl
  · cases h

theorem run_part_int {P : Program} {t : TypeId} {cs : Array Value} {off : Nat} {v : Value} (w : World) (ht : P.underlying t = some (.int .i64)) (hc : cs[off]? = some v) : (part t cs off).run P w = .ok v w := by
  simp [part, isAgg, run_underlying ht, hc]

theorem run_eqFields {P : Program} (d : Nat) (xs ys : List Int) (w : World) : ∀ (fs : List Field) (j : Nat), intFs P fs j = true → xs.length = j + fs.length → ys.length = j + fs.length → xs.take j = ys.take j →
    (Op.eqFields (d + 1) (xs.map (Value.int .i64)).toArray (ys.map (Value.int .i64)).toArray fs).run P w = .ok (xs == ys) w
  | [], j, _, hx, hy, ht => by
    have hx : xs.length = j := by simpa using hx
    have hy : ys.length = j := by simpa using hy
    have e : xs = ys := by
      rw [← List.take_of_length_le (Nat.le_of_eq hx), ht, List.take_of_length_le (Nat.le_of_eq hy)]
    simp [Op.eqFields, e]
  | f :: r, j, h, hx, hy, ht => by
    simp only [intFs, Bool.and_eq_true] at h
    obtain ⟨h1, h2, h3, h4⟩ := h
    have h1 : f.name ≠ "_" := by simpa using h1
    have h2 : f.offset = j := by simpa using h2
    have h3 := isI64_eq h3
    simp only [List.length_cons] at hx hy
    have hjx : j < xs.length := by omega
    have hjy : j < ys.length := by omega
    simp only [Op.eqFields, if_pos h1, Sem.run_bind, h2]
    rw [run_part_int (v := .int .i64 xs[j]) w h3 (by simp [hjx])]
    simp only [Result.andThen_ok]
    rw [run_part_int (v := .int .i64 ys[j]) w h3 (by simp [hjy])]
    simp only [Result.andThen_ok]
    rw [run_equalIn_int w d f.type .i64 .i64 _ _ h3]
    simp only [Result.andThen_ok]
    by_cases he : xs[j] = ys[j]
    · have hb : (xs[j] == ys[j]) = true := by simpa using he
      simp only [hb, Bool.not_true, Bool.false_eq_true, if_false]
      refine run_eqFields d xs ys w r (j + 1) h4 (by omega) (by omega) ?_
      rw [List.take_add_one, List.take_add_one, ht, List.getElem?_eq_getElem hjx, List.getElem?_eq_getElem hjy, he]
    · have hb : (xs[j] == ys[j]) = false := by simpa using he
      simp only [hb, Bool.not_false, if_true, Sem.run_pure]
      have : (xs == ys) = false := by
        rw [beq_eq_false_iff_ne]
        rintro rfl; exact he rfl
      rw [this]

theorem eqOK_nil {P : Program} : EqOK P [] := by intro t n h; cases h

theorem eqOK_cons {P : Program} {t n : Nat} {L : List (Nat × Nat)} (hT : P.underlying t = some (.struct (P.fieldsOf t))) (hp : P.stoodInHeld t = false) (hm : P.eqGuardType P.depth t = false)
    (hf : intFs P (P.fieldsOf t).toList 0 = true) (hn : (P.fieldsOf t).toList.length = n) (hL : EqOK P L) : EqOK P ((t, n) :: L) := by
  intro t' n' h xs ys hx hy w x y
  rcases List.mem_cons.1 h with h | h
  · cases h
    refine ⟨run_eqGuard_agg w .eql t x y _ _ hm, run_eqGuard_agg w .neq t x y _ _ hm, ?_⟩
    show (Op.equalIn (9999 + 1) t _ _).run P w = _
    unfold aggI
    rw [run_equalIn_agg w 9999 t _ _ hT hp]
    exact run_eqFields 9998 xs ys w _ 0 hf (by omega) (by omega) rfl
  · exact hL t' n' h xs ys hx hy w x y

theorem run_eqArr2 {P : Program} {t e : TypeId} (d : Nat) (hT : P.underlying t = some (.array 2 e)) (he : P.underlying e = some (.int .i64)) (hs : ∀ w, (sizeOf e).run P w = .ok 1 w) (a b a' b' : Int) (w : World) :
    (Op.equalIn (d + 1 + 1) t (.agg #[.int .i64 a, .int .i64 b]) (.agg #[.int .i64 a', .int .i64 b'])).run P w = .ok ([a, b] == [a', b']) w := by
  have p0 : ∀ (u v : Int), (part e #[Value.int .i64 u, .int .i64 v] 0).run P w = .ok (.int .i64 u) w := fun u v => run_part_int w he rfl
  have p1 : ∀ (u v : Int), (part e #[Value.int .i64 u, .int .i64 v] 1).run P w = .ok (.int .i64 v) w := fun u v => run_part_int w he rfl
  have q : ∀ (u v : Int), (Op.equalIn (d + 1) e (.int .i64 u) (.int .i64 v)).run P w = .ok (u == v) w := fun u v => run_equalIn_int w d e .i64 .i64 _ _ he
  rw [Op.equalIn]
  simp only [Sem.run_bind, run_underlying hT, Result.andThen_ok, hs]
  simp only [Std.Legacy.Range.forIn_eq_forIn_range', Std.Legacy.Range.size]
  simp [List.range', p0, p1, q, Sem.run_bind, Result.andThen]
  by_cases h1 : a = a'
  · by_cases h2 : b = b'
    · subst h1 h2
      simp [p1, q, Result.andThen_ok]
    · subst h1
      simp [p1, q, Result.andThen_ok, h2]
  · simp [h1]

theorem eqOK_arr2 {P : Program} {t e : Nat} {L : List (Nat × Nat)} (hT : P.underlying t = some (.array 2 e)) (he : P.underlying e = some (.int .i64)) (hs : ∀ w, (sizeOf e).run P w = .ok 1 w) (hm : P.eqGuardType P.depth t = false) (hL : EqOK P L) : EqOK P ((t, 2) :: L) := by
  intro t' n' h xs ys hx hy w x y
  rcases List.mem_cons.1 h with h | h
  · cases h
    match xs, ys, hx, hy with
    | [a, b], [a', b'], _, _ =>
      exact ⟨run_eqGuard_agg w .eql t x y _ _ hm, run_eqGuard_agg w .neq t x y _ _ hm, run_eqArr2 9998 hT he hs a b a' b' w⟩
  · exact hL t' n' h xs ys hx hy w x y

end Sx
end Go

namespace Go
namespace Sx

structure InEq (P : Program) (t n : Nat) : Prop where
  agg : ∀ w, (isAgg t).run P w = .ok true w
  size : ∀ w, (sizeOf t).run P w = .ok n w
  eq : ∀ (d : Nat) (xs ys : List Int) (w : World), xs.length = n → ys.length = n → (Op.equalIn (d + 2) t (aggI xs) (aggI ys)).run P w = .ok (xs == ys) w

theorem inEq_of {P : Program} {t n : Nat} (hT : P.underlying t = some (.struct (P.fieldsOf t))) (hp : P.stoodInHeld t = false) (hf : intFs P (P.fieldsOf t).toList 0 = true) (hn : (P.fieldsOf t).toList.length = n)
    (ha : ∀ w, (isAgg t).run P w = .ok true w) (hs : ∀ w, (sizeOf t).run P w = .ok n w) : InEq P t n where
  agg := ha
  size := hs
  eq d xs ys w hx hy := by
    unfold aggI
    rw [run_equalIn_agg w (d + 1) t _ _ hT hp]
    exact run_eqFields d xs ys w _ 0 hf (by omega) (by omega) rfl

def nestFs (P : Program) (L : List (Nat × Nat)) : List Field → Nat → Nat → Bool
  | [], j, n => j == n
  | f :: r, j, n => (f.name != "_") && (f.offset == j && (match lookN L f.type with
    | some m => nestFs P L r (j + m) n
    | none => isI64 (P.underlying f.type) && nestFs P L r (j + 1) n))

theorem run_part_agg {P : Program} {t m : Nat} (h : InEq P t m) (xs : List Int) (j : Nat) (w : World) : (part t (xs.map (Value.int .i64)).toArray j).run P w = .ok (aggI ((xs.drop j).take m)) w := by
  unfold part aggI
  simp only [Sem.run_bind, h.agg, Result.andThen_ok, if_true, h.size, Sem.run_pure]
  have e : (xs.map (Value.int .i64)).toArray.extract j (j + m) = (((xs.drop j).take m).map (Value.int .i64)).toArray := by
    apply Array.toList_inj.1
    simp [List.extract_eq_take_drop, List.map_take, List.map_drop]
  rw [e]

theorem take_beq {xs ys : List Int} {j m : Nat} (h : xs.take j = ys.take j) (h2 : (xs.drop j).take m = (ys.drop j).take m) : xs.take (j + m) = ys.take (j + m) := by
  rw [List.take_add, List.take_add, h, h2]

theorem run_eqNest {P : Program} {L : List (Nat × Nat)} (hL : ∀ t n, lookN L t = some n → InEq P t n) (d : Nat) (xs ys : List Int) (w : World) (n : Nat) (hx : xs.length = n) (hy : ys.length = n) : ∀ (fs : List Field) (j : Nat), nestFs P L fs j n = true → xs.take j = ys.take j →
    (Op.eqFields (d + 2) (xs.map (Value.int .i64)).toArray (ys.map (Value.int .i64)).toArray fs).run P w = .ok (xs == ys) w
  | [], j, h, ht => by
    have hj : j = n := by simpa [nestFs] using h
    subst hj
    have e : xs = ys := by rw [← List.take_of_length_le (Nat.le_of_eq hx), ht, List.take_of_length_le (Nat.le_of_eq hy)]
    simp [Op.eqFields, e]
  | f :: r, j, h, ht => by
    simp only [nestFs, Bool.and_eq_true] at h
    obtain ⟨h1, h2, h3⟩ := h
    have h1 : f.name ≠ "_" := by simpa using h1
    have h2 : f.offset = j := by simpa using h2
    simp only [Op.eqFields, if_pos h1, Sem.run_bind, h2]
    cases hl : lookN L f.type with
    | some m =>
      rw [hl] at h3
      have hi := hL _ _ hl
      rw [run_part_agg hi]
      simp only [Result.andThen_ok]
      rw [run_part_agg hi]
      simp only [Result.andThen_ok]
      by_cases hlen : j + m ≤ n
      · rw [hi.eq d _ _ w (by rw [List.length_take, List.length_drop]; omega) (by rw [List.length_take, List.length_drop]; omega)]
        simp only [Result.andThen_ok]
        by_cases he : (xs.drop j).take m = (ys.drop j).take m
        · have hb : ((xs.drop j).take m == (ys.drop j).take m) = true := by simpa using he
          simp only [hb, Bool.not_true, Bool.false_eq_true, if_false]
          exact run_eqNest hL d xs ys w n hx hy r (j + m) h3 (take_beq ht he)
        · have hb : ((xs.drop j).take m == (ys.drop j).take m) = false := by simpa using he
          simp only [hb, Bool.not_false, if_true, Sem.run_pure]
          have : (xs == ys) = false := by
            rw [beq_eq_false_iff_ne]
            rintro rfl; exact he rfl
          rw [this]
      · exfalso
        have : ∀ (fs : List Field) (k : Nat), nestFs P L fs k n = true → k ≤ n := by
          intro fs
          induction fs with
          | nil => intro k hk; have : k = n := by simpa [nestFs] using hk
                   omega
          | cons f r ih =>
            intro k hk
            simp only [nestFs, Bool.and_eq_true] at hk
            obtain ⟨_, _, hk⟩ := hk
            split at hk
            · have := ih _ hk; omega
            · have := ih _ (Bool.and_eq_true _ _ ▸ hk).2; omega
        have := this _ _ h3
        omega
    | none =>
      rw [hl] at h3
      simp only [Bool.and_eq_true] at h3
      obtain ⟨h3, h4⟩ := h3
      have h3 := isI64_eq h3
      have hjn : j < n := by
        have : ∀ (fs : List Field) (k : Nat), nestFs P L fs k n = true → k ≤ n := by
          intro fs
          induction fs with
          | nil => intro k hk; have : k = n := by simpa [nestFs] using hk
                   omega
          | cons f r ih =>
            intro k hk
            simp only [nestFs, Bool.and_eq_true] at hk
            obtain ⟨_, _, hk⟩ := hk
            split at hk
            · have := ih _ hk; omega
            · have := ih _ (Bool.and_eq_true _ _ ▸ hk).2; omega
        have := this _ _ h4
        omega
      have hjx : j < xs.length := by omega
      have hjy : j < ys.length := by omega
      rw [run_part_int (v := .int .i64 xs[j]) w h3 (by simp [hjx])]
      simp only [Result.andThen_ok]
      rw [run_part_int (v := .int .i64 ys[j]) w h3 (by simp [hjy])]
      simp only [Result.andThen_ok]
      rw [run_equalIn_int w (d + 1) f.type .i64 .i64 _ _ h3]
      simp only [Result.andThen_ok]
      by_cases he : xs[j] = ys[j]
      · have hb : (xs[j] == ys[j]) = true := by simpa using he
        simp only [hb, Bool.not_true, Bool.false_eq_true, if_false]
        refine run_eqNest hL d xs ys w n hx hy r (j + 1) h4 ?_
        rw [List.take_add_one, List.take_add_one, ht, List.getElem?_eq_getElem hjx, List.getElem?_eq_getElem hjy, he]
      · have hb : (xs[j] == ys[j]) = false := by simpa using he
        simp only [hb, Bool.not_false, if_true, Sem.run_pure]
        have : (xs == ys) = false := by
          rw [beq_eq_false_iff_ne]
          rintro rfl; exact he rfl
        rw [this]

theorem lookN_nil {P : Program} : ∀ t n, lookN [] t = some n → InEq P t n := by intro t n h; simp [lookN] at h
theorem lookN_cons {P : Program} {t m : Nat} {L : List (Nat × Nat)} (h : InEq P t m) (hL : ∀ t n, lookN L t = some n → InEq P t n) : ∀ t' n, lookN ((t, m) :: L) t' = some n → InEq P t' n := by
  intro t' n h'
  simp only [lookN] at h'
  cases hb : Nat.beq t' t with
  | true => simp [hb] at h'; subst h'; rw [Nat.eq_of_beq_eq_true hb]; exact h
  | false => simp [hb] at h'; exact hL _ _ h'

theorem eqOK_nest {P : Program} {t n : Nat} {L M : List (Nat × Nat)} (hM : ∀ t n, lookN M t = some n → InEq P t n) (hT : P.underlying t = some (.struct (P.fieldsOf t))) (hp : P.stoodInHeld t = false) (hm : P.eqGuardType P.depth t = false)
    (hf : nestFs P M (P.fieldsOf t).toList 0 n = true) (hL : EqOK P L) : EqOK P ((t, n) :: L) := by
  intro t' n' h xs ys hx hy w x y
  rcases List.mem_cons.1 h with h | h
  · cases h
    refine ⟨run_eqGuard_agg w .eql t x y _ _ hm, run_eqGuard_agg w .neq t x y _ _ hm, ?_⟩
    show (Op.equalIn (9999 + 1) t _ _).run P w = _
    unfold aggI
    rw [run_equalIn_agg w 9999 t _ _ hT hp]
    exact run_eqNest hM 9997 xs ys w n hx hy _ 0 hf rfl
  · exact hL t' n' h xs ys hx hy w x y

end Sx
end Go

namespace Go
namespace Sx

theorem run_part_cell {P : Program} {e : TypeId} {d : TypeDesc} {k : Kd} {cs : Array Value} {off : Nat} {v : Value} (w : World) (he : P.underlying e = some d) (hk : kdOf d = k) (hv : sameK k v = true) (hc : cs[off]? = some v) : (part e cs off).run P w = .ok v w := by
  have ha : (isAgg e).run P w = .ok false w := by
    cases d <;> simp [kdOf] at hk <;> subst hk <;> cases v <;> simp [sameK] at hv <;> simp [isAgg, run_underlying he]
  simp [part, ha, hc]

theorem run_equalIn_cellV {P : Program} {e : TypeId} {d : TypeDesc} {k : Kd} (w : World) (n : Nat) {a b : Value} (he : P.underlying e = some d) (hk : kdOf d = k) (ha : sameK k a = true) (hb : sameK k b = true) :
    (Op.equalIn (n + 1) e a b).run P w = .ok (beqV a b) w := by
  cases d <;> simp [kdOf] at hk <;> subst hk <;> cases a <;> simp [sameK] at ha <;> cases b <;> simp [sameK] at hb
  · exact run_equalIn_bool' w n e _ _ he
  · rename_i q _ _ _ _
    have := ikEq_eq ha
    subst this
    have := ikEq_eq hb
    subst this
    exact run_equalIn_int w n e q q _ _ he
  · exact run_equalIn_string w n e _ _ he

theorem allK_at {k : Kd} : ∀ {l : List Value} {i : Nat} {v : Value}, allK k l = true → l[i]? = some v → sameK k v = true
  | [], _, _, _, h => by simp at h
  | a :: l, 0, v, h, hv => by
    simp only [allK] at h
    simp at hv; subst hv
    cases hs : sameK k a with
    | true => rfl
    | false => simp [hs] at h
  | a :: l, i + 1, v, h, hv => by
    simp only [allK] at h
    cases hs : sameK k a with
    | true => simp [hs] at h; exact allK_at h (by simpa using hv)
    | false => simp [hs] at h

theorem run_eqItemsV {P : Program} {e : TypeId} {d : TypeDesc} {k : Kd} (n : Nat) (xs ys : List Value) (w : World) (he : P.underlying e = some d) (hk : kdOf d = k) (hx : allK k xs = true) (hy : allK k ys = true) (hl : xs.length = ys.length) :
    ∀ (m j : Nat), j + m = xs.length → (Op.eqItems (n + 1) e 1 xs.toArray ys.toArray (List.range' j m)).run P w = .ok (beqVs (xs.drop j) (ys.drop j)) w
  | 0, j, h => by
    have hj : xs.length ≤ j := by omega
    rw [List.drop_eq_nil_of_le hj, List.drop_eq_nil_of_le (by omega)]
    simp [Op.eqItems, beqVs]
  | m + 1, j, h => by
    have hjx : j < xs.length := by omega
    have hjy : j < ys.length := by omega
    have kx := allK_at hx (List.getElem?_eq_getElem hjx)
    have ky := allK_at hy (List.getElem?_eq_getElem hjy)
    rw [List.range'_succ]
    simp only [Op.eqItems, Sem.run_bind, Nat.mul_one]
    rw [run_part_cell (v := xs[j]) w he hk kx (by simp [hjx])]
    simp only [Result.andThen_ok]
    rw [run_part_cell (v := ys[j]) w he hk ky (by simp [hjy])]
    simp only [Result.andThen_ok]
    rw [run_equalIn_cellV w n he hk kx ky]
    simp only [Result.andThen_ok]
    rw [List.drop_eq_getElem_cons hjx, List.drop_eq_getElem_cons hjy]
    simp only [beqVs]
    cases hb : beqV xs[j] ys[j] with
    | false => simp
    | true =>
      simp only [Bool.not_true, Bool.false_eq_true, if_false, Bool.true_and]
      exact run_eqItemsV n xs ys w he hk hx hy hl m (j + 1) (by omega)

theorem eqVOK_arr {P : Program} {t e n : Nat} {d : TypeDesc} {k : Kd} {L : List (Nat × Nat × Kd)} (hT : P.underlying t = some (.array n e)) (he : P.underlying e = some d) (hk : kdOf d = k) {i : TypeInfo} (hi : P.info? e = some i) (hc : P.cellsOf e = 1)
    (hm : P.eqGuardType P.depth t = false) (hL : EqVOK P L) : EqVOK P ((t, n, k) :: L) := by
  intro t' n' k' h xs ys hx hy kx ky w x y
  rcases List.mem_cons.1 h with h | h
  · cases h
    refine ⟨run_eqGuard_agg w .eql t x y _ _ hm, run_eqGuard_agg w .neq t x y _ _ hm, ?_⟩
    show (Op.equalIn (9999 + 1) t _ _).run P w = _
    rw [run_equalIn_array w 9999 _ _ hT hi, hc, List.range_eq_range']
    have := run_eqItemsV (P := P) 9998 xs ys w he hk kx ky (by omega) n 0 (by omega)
    simpa using this
  · exact hL t' n' k' h xs ys hx hy kx ky w x y

end Sx
end Go

