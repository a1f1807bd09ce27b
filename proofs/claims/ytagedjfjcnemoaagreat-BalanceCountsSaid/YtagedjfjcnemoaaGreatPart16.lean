/-
  A part of the proof that a law answers true: lemmas of a symbolic walk, plain functions, or contracts of the functions walked (R1, R2, R3). Conditions: none.
-/
import Derived.Test.YtagedjfjcnemoaaGreatPart15
import Derived.Test.YtagedjfjcnemoaaGreatPart11
set_option maxRecDepth 100000
set_option linter.unusedVariables false
set_option linter.unusedSimpArgs false
namespace Go.Proofs
open Go.Sx

abbrev aBal (xs : List Bal) : Arr := aRec 6 balL (fun _ => rfl) xs
abbrev aChk (xs : List Chk) : Arr := aRec 5 chkL (fun _ => rfl) xs
abbrev aNtc (xs : List Ntc) : Arr := aRec 6 ntcL (fun _ => rfl) xs
abbrev aWgh (xs : List Wgh) : Arr := aRec 8 wghL (fun _ => rfl) xs
abbrev aThg (xs : List Thg) : Arr := aRec 4 thgL (fun _ => rfl) xs
abbrev aMom (xs : List Mom) : Arr := aRec 2 momL (fun _ => rfl) xs

abbrev svBal (x : Bal) : SV := .agg (Sx.encI (balL x))
abbrev svChk (x : Chk) : SV := .agg (Sx.encI (chkL x))
abbrev svNtc (x : Ntc) : SV := .agg (Sx.encI (ntcL x))
abbrev svWgh (x : Wgh) : SV := .agg (Sx.encI (wghL x))
abbrev svThg (x : Thg) : SV := .agg (Sx.encI (thgL x))
abbrev svMom (x : Mom) : SV := .agg (Sx.encI (momL x))

abbrev rdA (r : Rd) : SV := .agg [.s 0 0 r.bs.length 6, .s 2 0 r.cs.length 5, .s 3 0 r.ns.length 6, .s 1 0 r.ws.length 8]
abbrev rdH (r : Rd) : Heap := [(0, false, .arr (aBal r.bs)), (1, false, .arr (aWgh r.ws)), (2, false, .arr (aChk r.cs)), (3, false, .arr (aNtc r.ns))]

theorem bWithin_t (n lo hi : Int) : Triple Tryz.prog 97 [iv .i64 n, iv .i64 lo, iv .i64 hi] [] 0 (bv (withinF n lo hi)) [] := by
  refine triple_of tB_ok Tryz.func97 rfl Tryz.call97 rfl ?_
  intro ρ w hH
  conv=>whnf
  refine ⟨fun h => ?_, fun h => ?_⟩
  · conv=>whnf
    exact ⟨(by simp [withinF, h] : decide (n ≤ hi) = withinF n lo hi), trivial⟩
  · conv=>whnf
    exact ⟨(by simp [withinF, h] : false = withinF n lo hi), trivial⟩

theorem bInside_t (a b lo hi : Int) : Triple Tryz.prog 101 [.agg [.v (.int .i64 a), .v (.int .i64 b)], iv .i64 lo, iv .i64 hi] [] 0 (bv (insideF a b lo hi)) [] := by
  refine triple_of tB_ok Tryz.func101 rfl Tryz.call101 rfl ?_
  intro ρ w hH
  conv=>whnf
  refine ⟨fun hc => ?_, fun hc => ?_⟩
  · conv=>whnf
    refine ⟨fun hc => ?_, fun hc => ?_⟩
    · conv=>whnf
      exact ⟨(by first | (simp_all [insideF]; done) | (simp [insideF] at *; omega) : _ = insideF a b lo hi), trivial⟩
    · conv=>whnf
      exact ⟨(by first | (simp_all [insideF]; done) | (simp [insideF] at *; omega) : _ = insideF a b lo hi), trivial⟩
  · conv=>whnf
    exact ⟨(by first | (simp_all [insideF]; done) | (simp [insideF] at *; omega) : _ = insideF a b lo hi), trivial⟩

theorem valid_t (b : Bal) : Triple Tryz.prog 93 [svBal b] [] 0 (bv (validF b)) [] := by
  refine triple_of tB_ok Tryz.func93 rfl Tryz.call93 rfl ?_
  intro ρ w hH
  conv=>whnf
  refine call_step (bWithin_t b.id 1 1099511627776) rfl rfl ?_
  conv=>whnf
  refine ⟨?_, ?_, ?_⟩
  iterate 2 · repeat' (first | exact trivial | exact rfl | refine And.intro ?_ ?_ | ((conv=>whnf); first | exact trivial | exact rfl | refine And.intro ?_ ?_ | omega))
  conv=>whnf
  refine ⟨fun hc => ?_, fun hc => ?_⟩
  rotate_left
  · conv=>whnf
    exact ⟨(by simp_all [validF] : _ = validF b), trivial⟩
  conv=>whnf
  refine call_step (bWithin_t b.half 0 1000) rfl rfl ?_
  conv=>whnf
  refine ⟨?_, ?_, ?_⟩
  iterate 2 · repeat' (first | exact trivial | exact rfl | refine And.intro ?_ ?_ | ((conv=>whnf); first | exact trivial | exact rfl | refine And.intro ?_ ?_ | omega))
  conv=>whnf
  refine ⟨fun hc => ?_, fun hc => ?_⟩
  rotate_left
  · conv=>whnf
    exact ⟨(by simp_all [validF] : _ = validF b), trivial⟩
  conv=>whnf
  refine call_step (bInside_t b.lo b.hi (-1000000) 1000000) rfl rfl ?_
  conv=>whnf
  refine ⟨?_, ?_, ?_⟩
  iterate 2 · repeat' (first | exact trivial | exact rfl | refine And.intro ?_ ?_ | ((conv=>whnf); first | exact trivial | exact rfl | refine And.intro ?_ ?_ | omega))
  conv=>whnf
  refine ⟨fun hc => ?_, fun hc => ?_⟩
  rotate_left
  · conv=>whnf
    exact ⟨(by simp_all [validF] : _ = validF b), trivial⟩
  conv=>whnf
  refine call_step (bWithin_t b.dr 0 1000) rfl rfl ?_
  conv=>whnf
  refine ⟨?_, ?_, ?_⟩
  iterate 2 · repeat' (first | exact trivial | exact rfl | refine And.intro ?_ ?_ | ((conv=>whnf); first | exact trivial | exact rfl | refine And.intro ?_ ?_ | omega))
  conv=>whnf
  refine ⟨fun hc => ?_, fun hc => ?_⟩
  rotate_left
  · conv=>whnf
    exact ⟨(by simp_all [validF] : _ = validF b), trivial⟩
  conv=>whnf
  refine call_step (bWithin_t b.cap 1 10000000) rfl rfl ?_
  conv=>whnf
  refine ⟨?_, ?_, ?_⟩
  iterate 2 · repeat' (first | exact trivial | exact rfl | refine And.intro ?_ ?_ | ((conv=>whnf); first | exact trivial | exact rfl | refine And.intro ?_ ?_ | omega))
  conv=>whnf
  exact ⟨(by simp_all [validF] : _ = validF b), trivial⟩

theorem can_t (b : Bal) (mass shift : Int) : Triple Tryz.prog 112 [svBal b, iv .i64 mass, iv .i64 shift] [] 0 (bv (canF b mass shift)) [] := by
  refine triple_of tB_ok Tryz.func112 rfl Tryz.call112 rfl ?_
  intro ρ w hH
  conv=>whnf
  refine call_step (valid_t b) rfl rfl ?_
  conv=>whnf
  refine ⟨?_, ?_, ?_⟩
  iterate 2 · repeat' (first | exact trivial | exact rfl | refine And.intro ?_ ?_ | ((conv=>whnf); first | exact trivial | exact rfl | refine And.intro ?_ ?_ | omega))
  conv=>whnf
  refine ⟨fun hc => ?_, fun hc => ?_⟩
  rotate_left
  · conv=>whnf
    exact ⟨(by simp_all [canF] : _ = canF b mass shift), trivial⟩
  conv=>whnf
  refine call_step (bWithin_t mass 0 b.cap) rfl rfl ?_
  conv=>whnf
  refine ⟨?_, ?_, ?_⟩
  iterate 2 · repeat' (first | exact trivial | exact rfl | refine And.intro ?_ ?_ | ((conv=>whnf); first | exact trivial | exact rfl | refine And.intro ?_ ?_ | omega))
  conv=>whnf
  refine ⟨fun hc => ?_, fun hc => ?_⟩
  rotate_left
  · conv=>whnf
    exact ⟨(by simp_all [canF] : _ = canF b mass shift), trivial⟩
  conv=>whnf
  refine call_step (bWithin_t shift (-1000000) 1000000) rfl rfl ?_
  conv=>whnf
  refine ⟨?_, ?_, ?_⟩
  iterate 2 · repeat' (first | exact trivial | exact rfl | refine And.intro ?_ ?_ | ((conv=>whnf); first | exact trivial | exact rfl | refine And.intro ?_ ?_ | omega))
  conv=>whnf
  exact ⟨(by simp_all [canF] : _ = canF b mass shift), trivial⟩

theorem thing_t (o : Thg) : Triple Tryz.prog 80 [svThg o] [] 0 (bv (thgF o)) [] := by
  refine triple_of tB_ok Tryz.func80 rfl Tryz.call80 rfl ?_
  intro ρ w hH
  conv=>whnf
  refine call_step (bWithin_t o.lot 1 1099511627776) rfl rfl ?_
  conv=>whnf
  refine ⟨?_, ?_, ?_⟩
  iterate 2 · repeat' (first | exact trivial | exact rfl | refine And.intro ?_ ?_ | ((conv=>whnf); first | exact trivial | exact rfl | refine And.intro ?_ ?_ | omega))
  conv=>whnf
  refine ⟨fun hc => ?_, fun hc => ?_⟩
  · conv=>whnf
    exact ⟨(by simp_all [thgF] : _ = thgF o), trivial⟩
  have h1 : withinF o.lot 1 1099511627776 = true := by simpa using hc
  conv=>whnf
  refine call_step (bWithin_t o.bale 1 1099511627776) rfl rfl ?_
  conv=>whnf
  refine ⟨?_, ?_, ?_⟩
  iterate 2 · repeat' (first | exact trivial | exact rfl | refine And.intro ?_ ?_ | ((conv=>whnf); first | exact trivial | exact rfl | refine And.intro ?_ ?_ | omega))
  conv=>whnf
  refine ⟨fun hc => ?_, fun hc => ?_⟩
  · conv=>whnf
    exact ⟨(by simp_all [thgF] : _ = thgF o), trivial⟩
  have h2 : withinF o.bale 1 1099511627776 = true := by simpa using hc
  conv=>whnf
  refine ⟨fun hc => ?_, fun hc => ?_⟩
  · conv=>whnf
    refine ⟨fun _ => ?_, fun h => Bool.noConfusion (hc.symm.trans h)⟩
    conv=>whnf
    exact ⟨(by simp_all [thgF] : _ = thgF o), trivial⟩
  conv=>whnf
  refine ⟨fun hc => ?_, fun hc => ?_⟩
  · conv=>whnf
    exact ⟨(by simp_all [thgF] : _ = thgF o), trivial⟩
  conv=>whnf
  refine ⟨fun hc => ?_, fun hc => ?_⟩
  · conv=>whnf
    refine ⟨fun _ => ?_, fun h => Bool.noConfusion (hc.symm.trans h)⟩
    conv=>whnf
    refine call_step (bWithin_t o.smp 1 1099511627776) rfl rfl ?_
    conv=>whnf
    refine ⟨?_, ?_, ?_⟩
    iterate 2 · repeat' (first | exact trivial | exact rfl | refine And.intro ?_ ?_ | ((conv=>whnf); first | exact trivial | exact rfl | refine And.intro ?_ ?_ | omega))
    conv=>whnf
    exact ⟨(by simp_all [thgF] : _ = thgF o), trivial⟩
  conv=>whnf
  refine ⟨fun hc => ?_, fun hc => ?_⟩
  · conv=>whnf
    refine call_step (bWithin_t o.smp 1 1099511627776) rfl rfl ?_
    conv=>whnf
    refine ⟨?_, ?_, ?_⟩
    iterate 2 · repeat' (first | exact trivial | exact rfl | refine And.intro ?_ ?_ | ((conv=>whnf); first | exact trivial | exact rfl | refine And.intro ?_ ?_ | omega))
    conv=>whnf
    exact ⟨(by simp_all [thgF] : _ = thgF o), trivial⟩
  conv=>whnf
  exact ⟨(by simp_all [thgF] : _ = thgF o), trivial⟩

theorem checkID_t (x : Chk) : Triple Tryz.prog 95 [svChk x] [] 0 (iv .i64 x.id) [] := by
  refine triple_of tB_ok Tryz.func95 rfl Tryz.call95 rfl ?_
  intro ρ w hH
  conv=>whnf
  repeat' (first | exact trivial | exact rfl | refine And.intro ?_ ?_ | ((conv=>whnf); first | exact trivial | exact rfl | refine And.intro ?_ ?_ | omega))
theorem noticeID_t (x : Ntc) : Triple Tryz.prog 99 [svNtc x] [] 0 (iv .i64 x.id) [] := by
  refine triple_of tB_ok Tryz.func99 rfl Tryz.call99 rfl ?_
  intro ρ w hH
  conv=>whnf
  repeat' (first | exact trivial | exact rfl | refine And.intro ?_ ?_ | ((conv=>whnf); first | exact trivial | exact rfl | refine And.intro ?_ ?_ | omega))
theorem weighingID_t (x : Wgh) : Triple Tryz.prog 103 [svWgh x] [] 0 (iv .i64 x.id) [] := by
  refine triple_of tB_ok Tryz.func103 rfl Tryz.call103 rfl ?_
  intro ρ w hH
  conv=>whnf
  repeat' (first | exact trivial | exact rfl | refine And.intro ?_ ?_ | ((conv=>whnf); first | exact trivial | exact rfl | refine And.intro ?_ ?_ | omega))

theorem findD_some {bs : List Bal} {id : Int} {i : Nat} (h : i < bs.length) (hn : ∀ x ∈ bs.take i, (x.id == id) = false) (he : (bs[i].id == id) = true) : findD bs id = bs[i] ∧ hasB bs id = true := by
  have : findB bs id = some bs[i] := by
    unfold findB
    conv => lhs; rw [← List.take_append_drop i bs]
    rw [List.find?_append, List.find?_eq_none.2 (by simpa using hn), List.drop_eq_getElem_cons h, List.find?_cons, he]; rfl
  unfold findD hasB
  rw [this]; exact ⟨rfl, rfl⟩

theorem findD_none {bs : List Bal} {id : Int} (hn : ∀ x ∈ bs, (x.id == id) = false) : findD bs id = zBal ∧ hasB bs id = false := by
  have : findB bs id = none := by
    unfold findB
    exact List.find?_eq_none.2 (by simpa using hn)
  unfold findD hasB
  rw [this]; exact ⟨rfl, rfl⟩

theorem find_t (r : Rd) (id : Int) (hb : r.bs.length ≤ 1000000) : Triple Tryz.prog 82 [rdA r, iv .i64 id] (rdH r) 4 (.tup [.inr (Sx.encI (balL (findD r.bs id))), .inl (.v (.bool (hasB r.bs id)))]) [] := by
  have hs : ∀ (i : Nat) (h : i < r.bs.length), (∀ x ∈ r.bs.take i, (x.id == id) = false) → (r.bs[i].id == id) = true → findD r.bs id = r.bs[i] ∧ hasB r.bs id = true := fun i h => findD_some h
  have hz : (∀ x ∈ r.bs, (x.id == id) = false) → findD r.bs id = zBal ∧ hasB r.bs id = false := findD_none
  generalize findD r.bs id = d at *
  generalize hasB r.bs id = ok at *
  obtain ⟨bs, cs, ns, ws⟩ := r
  dsimp only at *
  refine triple_of tB_ok Tryz.func82 rfl Tryz.call82 rfl ?_
  intro ρ w hH
  conv=>whnf
  refine loop_step tB_ok (G := Nat) 0 [] (fun i => [(11, iv .i64 i)]) (fun _ => []) (fun i => i ≤ bs.length ∧ ∀ x ∈ bs.take i, (x.id == id) = false) (fun i => bs.length - i) ?_
  conv=>whnf
  refine ⟨⟨0, ⟨Nat.zero_le _, by simp⟩, ?_⟩, ?_⟩
  · conv=>whnf
    repeat' (first | exact trivial | exact rfl | refine And.intro ?_ ?_ | ((conv=>whnf); first | exact trivial | exact rfl | refine And.intro ?_ ?_ | omega))
  rintro i ⟨hi, hn⟩ ρ1 t1 hρ1
  conv=>whnf
  refine ⟨fun hc => ?_, fun hc => ?_⟩
  · have hlt : i < bs.length := by simpa using hc
    conv=>whnf
    refine ⟨i, rfl, hlt, hlt, ?_⟩
    conv=>whnf
    refine ⟨fun hc => ?_, fun hc => ?_⟩
    · obtain ⟨rfl, rfl⟩ := hs i hlt hn hc
      conv=>whnf
      repeat' (first | exact trivial | exact rfl | refine And.intro ?_ ?_ | ((conv=>whnf); first | exact trivial | exact rfl | refine And.intro ?_ ?_ | omega))
    · conv=>whnf
      refine ⟨_, wrapId ⟨by omega, by omega⟩, ?_⟩
      refine ⟨i + 1, ⟨hlt, ?_⟩, by show bs.length - (i + 1) < bs.length - i; omega, ?_⟩
      · intro x hx
        rw [take_snoc hlt] at hx
        rcases List.mem_append.1 hx with hx | hx
        · exact hn x hx
        · simp only [List.mem_singleton] at hx; rw [hx]; exact hc
      conv=>whnf
      refine ⟨rfl, ?_⟩
      conv=>whnf
      repeat' (first | exact trivial | exact rfl | refine And.intro ?_ ?_ | ((conv=>whnf); first | exact trivial | exact rfl | refine And.intro ?_ ?_ | omega))
  · have hie : i = bs.length := by simp at hc; omega
    subst hie
    rw [List.take_length] at hn
    obtain ⟨rfl, rfl⟩ := hz hn
    conv=>whnf
    repeat' (first | exact trivial | exact rfl | refine And.intro ?_ ?_ | ((conv=>whnf); first | exact trivial | exact rfl | refine And.intro ?_ ?_ | omega))

theorem bMoment_t (r : Rd) (m : Mom) (hb : r.bs.length ≤ 1000000) : Triple Tryz.prog 79 [rdA r, svMom m] (rdH r) 4 (bv (momOK r m)) [] := by
  have hf := find_t r m.bal hb
  have e : momOK r m = (hasB r.bs m.bal && withinF m.tick 0 1000000) := rfl
  rw [e]
  clear e
  generalize hasB r.bs m.bal = ok at *
  generalize findD r.bs m.bal = d at *
  refine triple_of tB_ok Tryz.func79 rfl Tryz.call79 rfl ?_
  intro ρ w hH
  conv=>whnf
  refine call_step hf rfl rfl ?_
  conv=>whnf
  refine ⟨?_, ?_, ?_⟩
  iterate 2 · repeat' (first | exact trivial | exact rfl | refine And.intro ?_ ?_ | ((conv=>whnf); first | exact trivial | exact rfl | refine And.intro ?_ ?_ | omega))
  conv=>whnf
  refine ⟨fun hc => ?_, fun hc => ?_⟩
  · conv=>whnf
    refine call_step (bWithin_t m.tick 0 1000000) rfl rfl ?_
    conv=>whnf
    refine ⟨?_, ?_, ?_⟩
    iterate 2 · repeat' (first | exact trivial | exact rfl | refine And.intro ?_ ?_ | ((conv=>whnf); first | exact trivial | exact rfl | refine And.intro ?_ ?_ | omega))
    conv=>whnf
    exact ⟨(by simp_all : _ = (ok && withinF m.tick 0 1000000)), trivial⟩
  · conv=>whnf
    exact ⟨(by simp_all : _ = (ok && withinF m.tick 0 1000000)), trivial⟩

end Go.Proofs

namespace Go.Proofs
open Go.Sx

def lookE : List Int → List (Int × Bool) → Int × List Int
  | S, [] => (0, S)
  | S, p :: r => if p.2 = false then (1, S) else if p.1 ∈ S then (6, S) else lookE (p.1 :: S) r

theorem lookE_err : ∀ (l : List (Int × Bool)) (S seen : List Int), (∀ x, x ∈ S ↔ x ∈ seen) → (lookE S l).1 = errF seen l
  | [], _, _, _ => rfl
  | (i, ok) :: r, S, seen, h => by
    unfold lookE errF
    cases ok with
    | false => rfl
    | true =>
      rw [if_neg (by simp)]
      by_cases hm : i ∈ S
      · rw [if_pos hm]
        have : seen.contains i = true := by simpa using (h i).1 hm
        rw [this]; rfl
      · rw [if_neg hm]
        have : seen.contains i = false := by simpa using fun h2 => hm ((h i).2 h2)
        rw [this]
        exact lookE_err r (i :: S) (seen ++ [i]) fun x => by simp [h x]; exact Or.comm

theorem lookE_cons (S : List Int) (p : Int × Bool) (r : List (Int × Bool)) : lookE S (p :: r) = if p.2 = false then (1, S) else if p.1 ∈ S then (6, S) else lookE (p.1 :: S) r := rfl

theorem lookE_append : ∀ (a b : List (Int × Bool)) (S : List Int), lookE S (a ++ b) = if (lookE S a).1 = 0 then lookE (lookE S a).2 b else lookE S a
  | [], b, S => rfl
  | p :: r, b, S => by
    by_cases h1 : p.2 = false
    · have e1 : lookE S (p :: r) = (1, S) := by rw [lookE_cons, if_pos h1]
      have e2 : lookE S (p :: r ++ b) = (1, S) := by rw [List.cons_append, lookE_cons, if_pos h1]
      rw [e1, e2]; rfl
    · by_cases h2 : p.1 ∈ S
      · have e1 : lookE S (p :: r) = (6, S) := by rw [lookE_cons, if_neg h1, if_pos h2]
        have e2 : lookE S (p :: r ++ b) = (6, S) := by rw [List.cons_append, lookE_cons, if_neg h1, if_pos h2]
        rw [e1, e2]; rfl
      · have e1 : lookE S (p :: r) = lookE (p.1 :: S) r := by rw [lookE_cons, if_neg h1, if_neg h2]
        have e2 : lookE S (p :: r ++ b) = lookE (p.1 :: S) (r ++ b) := by rw [List.cons_append, lookE_cons, if_neg h1, if_neg h2]
        rw [e1, e2]; exact lookE_append r b _

theorem und_int64 : Tryz.prog.underlying 3 = some (.int .i64) := by kernel_rfl
theorem zeroBal_ok : ∀ w, (zeroValue 57).run Tryz.prog w = .ok (encB true (balL zBal)) w := by intro w; kernel_rfl
theorem keyInt : KeyOK Tryz.prog 3 false 1 := keyOK_int und_int64

abbrev knownF (bs : List Bal) : KVs := bs.map fun b => ([b.id], balL b)

theorem lookKnown (bs : List Bal) (id : Int) : lookKV (knownF bs) [id] (balL zBal) = (balL (findD bs id), hasB bs id) := by
  unfold lookKV knownF findD hasB findB
  rw [List.find?_map]
  have e : ((fun p : List Int × List Int => p.1 == [id]) ∘ fun b : Bal => ([b.id], balL b)) = fun b => b.id == id := by
    funext b; simp
  rw [e]
  cases bs.find? (fun b => b.id == id) <;> rfl

abbrev knH (bs : List Bal) : Heap := [(1, false, .cells [.m 2]), (2, false, kvO false true 1 (knownF bs))]

theorem check1_t (bs : List Bal) (c : Chk) : Triple Tryz.prog 96 [svChk c, .c (.p 1 0 0 0)] (knH bs) 3 (bv (chkF bs c)) [] := by
  have hk := lookKnown bs c.bal
  have e : chkF bs c = (hasB bs c.bal && (withinF c.tick 0 1000000 && (withinF c.mass 0 (findD bs c.bal).cap && withinF c.shown 0 10000000))) := rfl
  rw [e]
  clear e
  generalize hasB bs c.bal = ok at *
  generalize findD bs c.bal = d at *
  refine triple_of tB_ok Tryz.func96 rfl Tryz.call96 rfl ?_
  intro ρ w hH
  conv=>whnf
  refine lookKV_step tB_ok 3 57 false true 1 (balL zBal) keyInt zeroBal_ok rfl ?_
  conv=>whnf
  refine ⟨_, _, _, rfl, hk, ?_⟩
  conv=>whnf
  refine ⟨fun hc => ?_, fun hc => ?_⟩
  rotate_left
  · conv=>whnf
    exact ⟨(by simp_all : _ = (ok && _)), trivial⟩
  conv=>whnf
  refine call_step (bWithin_t c.tick 0 1000000) rfl rfl ?_
  conv=>whnf
  refine ⟨?_, ?_, ?_⟩
  iterate 2 · repeat' (first | exact trivial | exact rfl | refine And.intro ?_ ?_ | ((conv=>whnf); first | exact trivial | exact rfl | refine And.intro ?_ ?_ | omega))
  conv=>whnf
  refine ⟨fun hc => ?_, fun hc => ?_⟩
  rotate_left
  · conv=>whnf
    exact ⟨(by simp_all [chkF] : _ = (ok && _)), trivial⟩
  conv=>whnf
  refine call_step (bWithin_t c.mass 0 d.cap) rfl rfl ?_
  conv=>whnf
  refine ⟨?_, ?_, ?_⟩
  iterate 2 · repeat' (first | exact trivial | exact rfl | refine And.intro ?_ ?_ | ((conv=>whnf); first | exact trivial | exact rfl | refine And.intro ?_ ?_ | omega))
  conv=>whnf
  refine ⟨fun hc => ?_, fun hc => ?_⟩
  rotate_left
  · conv=>whnf
    exact ⟨(by simp_all [chkF] : _ = (ok && _)), trivial⟩
  conv=>whnf
  refine call_step (bWithin_t c.shown 0 10000000) rfl rfl ?_
  conv=>whnf
  refine ⟨?_, ?_, ?_⟩
  iterate 2 · repeat' (first | exact trivial | exact rfl | refine And.intro ?_ ?_ | ((conv=>whnf); first | exact trivial | exact rfl | refine And.intro ?_ ?_ | omega))
  conv=>whnf
  exact ⟨(by simp_all : _ = (ok && _)), trivial⟩

theorem check2_t (bs : List Bal) (c : Ntc) : Triple Tryz.prog 100 [svNtc c, .c (.p 1 0 0 0)] (knH bs) 3 (bv (ntcF bs c)) [] := by
  have hk := lookKnown bs c.bal
  have e : ntcF bs c = (hasB bs c.bal && (insideF c.wlo c.whi 0 1000000 && insideF c.slo c.shi (-1000000) 1000000)) := rfl
  rw [e]
  clear e
  generalize hasB bs c.bal = ok at *
  generalize findD bs c.bal = d at *
  refine triple_of tB_ok Tryz.func100 rfl Tryz.call100 rfl ?_
  intro ρ w hH
  conv=>whnf
  refine lookKV_step tB_ok 3 57 false true 1 (balL zBal) keyInt zeroBal_ok rfl ?_
  conv=>whnf
  refine ⟨_, _, _, rfl, hk, ?_⟩
  conv=>whnf
  refine ⟨fun hc => ?_, fun hc => ?_⟩
  rotate_left
  · conv=>whnf
    exact ⟨(by simp_all : _ = (ok && _)), trivial⟩
  conv=>whnf
  refine call_step (bInside_t c.wlo c.whi 0 1000000) rfl rfl ?_
  conv=>whnf
  refine ⟨?_, ?_, ?_⟩
  iterate 2 · repeat' (first | exact trivial | exact rfl | refine And.intro ?_ ?_ | ((conv=>whnf); first | exact trivial | exact rfl | refine And.intro ?_ ?_ | omega))
  conv=>whnf
  refine ⟨fun hc => ?_, fun hc => ?_⟩
  rotate_left
  · conv=>whnf
    exact ⟨(by simp_all : _ = (ok && _)), trivial⟩
  conv=>whnf
  refine call_step (bInside_t c.slo c.shi (-1000000) 1000000) rfl rfl ?_
  conv=>whnf
  refine ⟨?_, ?_, ?_⟩
  iterate 2 · repeat' (first | exact trivial | exact rfl | refine And.intro ?_ ?_ | ((conv=>whnf); first | exact trivial | exact rfl | refine And.intro ?_ ?_ | omega))
  conv=>whnf
  exact ⟨(by simp_all : _ = (ok && _)), trivial⟩

theorem check3_t (bs : List Bal) (c : Wgh) : Triple Tryz.prog 104 [svWgh c, .c (.p 1 0 0 0)] (knH bs) 3 (bv (wghF bs c)) [] := by
  have hk := lookKnown bs c.bal
  have e : wghF bs c = (hasB bs c.bal && (withinF c.tick 0 1000000 && (thgF c.o && withinF c.shown 0 10000000))) := rfl
  rw [e]
  clear e
  generalize hasB bs c.bal = ok at *
  generalize findD bs c.bal = d at *
  refine triple_of tB_ok Tryz.func104 rfl Tryz.call104 rfl ?_
  intro ρ w hH
  conv=>whnf
  refine lookKV_step tB_ok 3 57 false true 1 (balL zBal) keyInt zeroBal_ok rfl ?_
  conv=>whnf
  refine ⟨_, _, _, rfl, hk, ?_⟩
  conv=>whnf
  refine ⟨fun hc => ?_, fun hc => ?_⟩
  rotate_left
  · conv=>whnf
    exact ⟨(by simp_all : _ = (ok && _)), trivial⟩
  conv=>whnf
  refine call_step (bWithin_t c.tick 0 1000000) rfl rfl ?_
  conv=>whnf
  refine ⟨?_, ?_, ?_⟩
  iterate 2 · repeat' (first | exact trivial | exact rfl | refine And.intro ?_ ?_ | ((conv=>whnf); first | exact trivial | exact rfl | refine And.intro ?_ ?_ | omega))
  conv=>whnf
  refine ⟨fun hc => ?_, fun hc => ?_⟩
  rotate_left
  · conv=>whnf
    exact ⟨(by simp_all [wghF] : _ = (ok && _)), trivial⟩
  conv=>whnf
  refine call_step (thing_t c.o) rfl rfl ?_
  conv=>whnf
  refine ⟨?_, ?_, ?_⟩
  iterate 2 · repeat' (first | exact trivial | exact rfl | refine And.intro ?_ ?_ | ((conv=>whnf); first | exact trivial | exact rfl | refine And.intro ?_ ?_ | omega))
  conv=>whnf
  refine ⟨fun hc => ?_, fun hc => ?_⟩
  rotate_left
  · conv=>whnf
    exact ⟨(by simp_all : _ = (ok && _)), trivial⟩
  conv=>whnf
  refine call_step (bWithin_t c.shown 0 10000000) rfl rfl ?_
  conv=>whnf
  refine ⟨?_, ?_, ?_⟩
  iterate 2 · repeat' (first | exact trivial | exact rfl | refine And.intro ?_ ?_ | ((conv=>whnf); first | exact trivial | exact rfl | refine And.intro ?_ ?_ | omega))
  conv=>whnf
  exact ⟨(by simp_all : _ = (ok && _)), trivial⟩

theorem lookedChk_t (bs : List Bal) (xs : List Chk) (S : List Int) (hx : xs.length ≤ 1000000) :
    Triple Tryz.prog 94 [.c (.s 0 0 xs.length 5), .c (.f 95 []), .c (.f 96 [1]), .c (.m 3)]
      ((0, false, .arr (aChk xs)) :: (3, true, setO S) :: knH bs) 4 (iv .i64 (lookE S (xs.map (chkP bs))).1) [(3, true, setO (lookE S (xs.map (chkP bs))).2)] := by
  generalize hR : lookE S (xs.map (chkP bs)) = R
  refine triple_of tB_ok Tryz.func94 rfl Tryz.call94 rfl ?_
  intro ρ w hH
  conv=>whnf
  refine loop_step tB_ok (G := Nat × List Int) 0 [] (fun g => [(14, iv .i64 g.1)]) (fun g => [(3, true, setO g.2)]) (fun g => g.1 ≤ xs.length ∧ lookE g.2 ((xs.drop g.1).map (chkP bs)) = R) (fun g => xs.length - g.1) ?_
  conv=>whnf
  refine ⟨⟨(0, S), ⟨Nat.zero_le _, hR⟩, ?_⟩, ?_⟩
  · conv=>whnf
    repeat' (first | exact trivial | exact rfl | refine And.intro ?_ ?_ | ((conv=>whnf); first | exact trivial | exact rfl | refine And.intro ?_ ?_ | omega))
  rintro ⟨i, T⟩ ⟨hi, hT⟩ ρ1 t1 hρ1
  have hi : i ≤ xs.length := hi
  have hT : lookE T ((xs.drop i).map (chkP bs)) = R := hT
  dsimp only
  conv=>whnf
  refine ⟨fun hc => ?_, fun hc => ?_⟩
  · have hlt : i < xs.length := by simpa using hc
    rw [List.drop_eq_getElem_cons hlt, List.map_cons] at hT
    unfold lookE at hT
    have e1 : (chkP bs xs[i]).1 = xs[i].id := rfl
    have e2 : (chkP bs xs[i]).2 = (withinF xs[i].id 1 1099511627776 && chkF bs xs[i]) := rfl
    rw [e1, e2] at hT
    conv=>whnf
    refine ⟨i, rfl, hlt, hlt, ?_⟩
    conv=>whnf
    refine call_step (checkID_t xs[i]) rfl rfl ?_
    conv=>whnf
    refine ⟨?_, ?_, ?_⟩
    iterate 2 · repeat' (first | exact trivial | exact rfl | refine And.intro ?_ ?_ | ((conv=>whnf); first | exact trivial | exact rfl | refine And.intro ?_ ?_ | omega))
    conv=>whnf
    refine call_step (bWithin_t xs[i].id 1 1099511627776) rfl rfl ?_
    conv=>whnf
    refine ⟨?_, ?_, ?_⟩
    iterate 2 · repeat' (first | exact trivial | exact rfl | refine And.intro ?_ ?_ | ((conv=>whnf); first | exact trivial | exact rfl | refine And.intro ?_ ?_ | omega))
    conv=>whnf
    refine ⟨fun hc => ?_, fun hc => ?_⟩
    · have h1 : withinF xs[i].id 1 1099511627776 = false := by simpa using (show (!withinF xs[i].id 1 1099511627776) = true from hc)
      rw [h1, Bool.false_and, if_pos rfl] at hT
      subst hT
      conv=>whnf
      repeat' (first | exact trivial | exact rfl | refine And.intro ?_ ?_ | ((conv=>whnf); first | exact trivial | exact rfl | refine And.intro ?_ ?_ | omega))
    have h1 : withinF xs[i].id 1 1099511627776 = true := by simpa using (show (!withinF xs[i].id 1 1099511627776) = false from hc)
    rw [h1, Bool.true_and] at hT
    conv=>whnf
    refine call_step (check1_t bs xs[i]) rfl rfl ?_
    conv=>whnf
    refine ⟨?_, ?_, ?_⟩
    iterate 2 · repeat' (first | exact trivial | exact rfl | refine And.intro ?_ ?_ | ((conv=>whnf); first | exact trivial | exact rfl | refine And.intro ?_ ?_ | omega))
    conv=>whnf
    refine ⟨fun hc => ?_, fun hc => ?_⟩
    · have h2 : chkF bs xs[i] = false := by simpa using (show (!chkF bs xs[i]) = true from hc)
      rw [h2, if_pos rfl] at hT
      subst hT
      conv=>whnf
      repeat' (first | exact trivial | exact rfl | refine And.intro ?_ ?_ | ((conv=>whnf); first | exact trivial | exact rfl | refine And.intro ?_ ?_ | omega))
    have h2 : chkF bs xs[i] = true := by simpa using (show (!chkF bs xs[i]) = false from hc)
    rw [h2, if_neg (by simp)] at hT
    conv=>whnf
    refine lookup_step tB_ok 4 zeroB_ok rfl ?_
    conv=>whnf
    refine ⟨T, rfl, ?_⟩
    conv=>whnf
    refine ⟨fun hc => ?_, fun hc => ?_⟩
    · have hm : xs[i].id ∈ T := of_decide_eq_true hc
      rw [if_pos hm] at hT
      subst hT
      conv=>whnf
      repeat' (first | exact trivial | exact rfl | refine And.intro ?_ ?_ | ((conv=>whnf); first | exact trivial | exact rfl | refine And.intro ?_ ?_ | omega))
    · have hm : xs[i].id ∉ T := of_decide_eq_false hc
      rw [if_neg hm] at hT
      conv=>whnf
      refine mapUp_step tB_ok rfl ?_
      conv=>whnf
      refine ⟨T, rfl, ?_⟩
      conv=>whnf
      refine ⟨_, wrapId ⟨by omega, by omega⟩, ?_⟩
      refine ⟨(i + 1, xs[i].id :: T), ⟨hlt, hT⟩, by show xs.length - (i + 1) < xs.length - i; omega, ?_⟩
      conv=>whnf
      refine ⟨rfl, ?_⟩
      conv=>whnf
      repeat' (first | exact trivial | exact rfl | refine And.intro ?_ ?_ | ((conv=>whnf); first | exact trivial | exact rfl | refine And.intro ?_ ?_ | omega))
  · have hie : i = xs.length := by simp at hc; omega
    subst hie
    rw [List.drop_length] at hT
    have hT : (0, T) = R := hT
    subst hT
    conv=>whnf
    repeat' (first | exact trivial | exact rfl | refine And.intro ?_ ?_ | ((conv=>whnf); first | exact trivial | exact rfl | refine And.intro ?_ ?_ | omega))

theorem lookedNtc_t (bs : List Bal) (xs : List Ntc) (S : List Int) (hx : xs.length ≤ 1000000) :
    Triple Tryz.prog 98 [.c (.s 0 0 xs.length 6), .c (.f 99 []), .c (.f 100 [1]), .c (.m 3)]
      ((0, false, .arr (aNtc xs)) :: (3, true, setO S) :: knH bs) 4 (iv .i64 (lookE S (xs.map (ntcP bs))).1) [(3, true, setO (lookE S (xs.map (ntcP bs))).2)] := by
  generalize hR : lookE S (xs.map (ntcP bs)) = R
  refine triple_of tB_ok Tryz.func98 rfl Tryz.call98 rfl ?_
  intro ρ w hH
  conv=>whnf
  refine loop_step tB_ok (G := Nat × List Int) 0 [] (fun g => [(14, iv .i64 g.1)]) (fun g => [(3, true, setO g.2)]) (fun g => g.1 ≤ xs.length ∧ lookE g.2 ((xs.drop g.1).map (ntcP bs)) = R) (fun g => xs.length - g.1) ?_
  conv=>whnf
  refine ⟨⟨(0, S), ⟨Nat.zero_le _, hR⟩, ?_⟩, ?_⟩
  · conv=>whnf
    repeat' (first | exact trivial | exact rfl | refine And.intro ?_ ?_ | ((conv=>whnf); first | exact trivial | exact rfl | refine And.intro ?_ ?_ | omega))
  rintro ⟨i, T⟩ ⟨hi, hT⟩ ρ1 t1 hρ1
  have hi : i ≤ xs.length := hi
  have hT : lookE T ((xs.drop i).map (ntcP bs)) = R := hT
  dsimp only
  conv=>whnf
  refine ⟨fun hc => ?_, fun hc => ?_⟩
  · have hlt : i < xs.length := by simpa using hc
    rw [List.drop_eq_getElem_cons hlt, List.map_cons] at hT
    unfold lookE at hT
    have e1 : (ntcP bs xs[i]).1 = xs[i].id := rfl
    have e2 : (ntcP bs xs[i]).2 = (withinF xs[i].id 1 1099511627776 && ntcF bs xs[i]) := rfl
    rw [e1, e2] at hT
    conv=>whnf
    refine ⟨i, rfl, hlt, hlt, ?_⟩
    conv=>whnf
    refine call_step (noticeID_t xs[i]) rfl rfl ?_
    conv=>whnf
    refine ⟨?_, ?_, ?_⟩
    iterate 2 · repeat' (first | exact trivial | exact rfl | refine And.intro ?_ ?_ | ((conv=>whnf); first | exact trivial | exact rfl | refine And.intro ?_ ?_ | omega))
    conv=>whnf
    refine call_step (bWithin_t xs[i].id 1 1099511627776) rfl rfl ?_
    conv=>whnf
    refine ⟨?_, ?_, ?_⟩
    iterate 2 · repeat' (first | exact trivial | exact rfl | refine And.intro ?_ ?_ | ((conv=>whnf); first | exact trivial | exact rfl | refine And.intro ?_ ?_ | omega))
    conv=>whnf
    refine ⟨fun hc => ?_, fun hc => ?_⟩
    · have h1 : withinF xs[i].id 1 1099511627776 = false := by simpa using (show (!withinF xs[i].id 1 1099511627776) = true from hc)
      rw [h1, Bool.false_and, if_pos rfl] at hT
      subst hT
      conv=>whnf
      repeat' (first | exact trivial | exact rfl | refine And.intro ?_ ?_ | ((conv=>whnf); first | exact trivial | exact rfl | refine And.intro ?_ ?_ | omega))
    have h1 : withinF xs[i].id 1 1099511627776 = true := by simpa using (show (!withinF xs[i].id 1 1099511627776) = false from hc)
    rw [h1, Bool.true_and] at hT
    conv=>whnf
    refine call_step (check2_t bs xs[i]) rfl rfl ?_
    conv=>whnf
    refine ⟨?_, ?_, ?_⟩
    iterate 2 · repeat' (first | exact trivial | exact rfl | refine And.intro ?_ ?_ | ((conv=>whnf); first | exact trivial | exact rfl | refine And.intro ?_ ?_ | omega))
    conv=>whnf
    refine ⟨fun hc => ?_, fun hc => ?_⟩
    · have h2 : ntcF bs xs[i] = false := by simpa using (show (!ntcF bs xs[i]) = true from hc)
      rw [h2, if_pos rfl] at hT
      subst hT
      conv=>whnf
      repeat' (first | exact trivial | exact rfl | refine And.intro ?_ ?_ | ((conv=>whnf); first | exact trivial | exact rfl | refine And.intro ?_ ?_ | omega))
    have h2 : ntcF bs xs[i] = true := by simpa using (show (!ntcF bs xs[i]) = false from hc)
    rw [h2, if_neg (by simp)] at hT
    conv=>whnf
    refine lookup_step tB_ok 4 zeroB_ok rfl ?_
    conv=>whnf
    refine ⟨T, rfl, ?_⟩
    conv=>whnf
    refine ⟨fun hc => ?_, fun hc => ?_⟩
    · have hm : xs[i].id ∈ T := of_decide_eq_true hc
      rw [if_pos hm] at hT
      subst hT
      conv=>whnf
      repeat' (first | exact trivial | exact rfl | refine And.intro ?_ ?_ | ((conv=>whnf); first | exact trivial | exact rfl | refine And.intro ?_ ?_ | omega))
    · have hm : xs[i].id ∉ T := of_decide_eq_false hc
      rw [if_neg hm] at hT
      conv=>whnf
      refine mapUp_step tB_ok rfl ?_
      conv=>whnf
      refine ⟨T, rfl, ?_⟩
      conv=>whnf
      refine ⟨_, wrapId ⟨by omega, by omega⟩, ?_⟩
      refine ⟨(i + 1, xs[i].id :: T), ⟨hlt, hT⟩, by show xs.length - (i + 1) < xs.length - i; omega, ?_⟩
      conv=>whnf
      refine ⟨rfl, ?_⟩
      conv=>whnf
      repeat' (first | exact trivial | exact rfl | refine And.intro ?_ ?_ | ((conv=>whnf); first | exact trivial | exact rfl | refine And.intro ?_ ?_ | omega))
  · have hie : i = xs.length := by simp at hc; omega
    subst hie
    rw [List.drop_length] at hT
    have hT : (0, T) = R := hT
    subst hT
    conv=>whnf
    repeat' (first | exact trivial | exact rfl | refine And.intro ?_ ?_ | ((conv=>whnf); first | exact trivial | exact rfl | refine And.intro ?_ ?_ | omega))

theorem lookedWgh_t (bs : List Bal) (xs : List Wgh) (S : List Int) (hx : xs.length ≤ 1000000) :
    Triple Tryz.prog 102 [.c (.s 0 0 xs.length 8), .c (.f 103 []), .c (.f 104 [1]), .c (.m 3)]
      ((0, false, .arr (aWgh xs)) :: (3, true, setO S) :: knH bs) 4 (iv .i64 (lookE S (xs.map (wghP bs))).1) [(3, true, setO (lookE S (xs.map (wghP bs))).2)] := by
  generalize hR : lookE S (xs.map (wghP bs)) = R
  refine triple_of tB_ok Tryz.func102 rfl Tryz.call102 rfl ?_
  intro ρ w hH
  conv=>whnf
  refine loop_step tB_ok (G := Nat × List Int) 0 [] (fun g => [(14, iv .i64 g.1)]) (fun g => [(3, true, setO g.2)]) (fun g => g.1 ≤ xs.length ∧ lookE g.2 ((xs.drop g.1).map (wghP bs)) = R) (fun g => xs.length - g.1) ?_
  conv=>whnf
  refine ⟨⟨(0, S), ⟨Nat.zero_le _, hR⟩, ?_⟩, ?_⟩
  · conv=>whnf
    repeat' (first | exact trivial | exact rfl | refine And.intro ?_ ?_ | ((conv=>whnf); first | exact trivial | exact rfl | refine And.intro ?_ ?_ | omega))
  rintro ⟨i, T⟩ ⟨hi, hT⟩ ρ1 t1 hρ1
  have hi : i ≤ xs.length := hi
  have hT : lookE T ((xs.drop i).map (wghP bs)) = R := hT
  dsimp only
  conv=>whnf
  refine ⟨fun hc => ?_, fun hc => ?_⟩
  · have hlt : i < xs.length := by simpa using hc
    rw [List.drop_eq_getElem_cons hlt, List.map_cons] at hT
    unfold lookE at hT
    have e1 : (wghP bs xs[i]).1 = xs[i].id := rfl
    have e2 : (wghP bs xs[i]).2 = (withinF xs[i].id 1 1099511627776 && wghF bs xs[i]) := rfl
    rw [e1, e2] at hT
    conv=>whnf
    refine ⟨i, rfl, hlt, hlt, ?_⟩
    conv=>whnf
    refine call_step (weighingID_t xs[i]) rfl rfl ?_
    conv=>whnf
    refine ⟨?_, ?_, ?_⟩
    iterate 2 · repeat' (first | exact trivial | exact rfl | refine And.intro ?_ ?_ | ((conv=>whnf); first | exact trivial | exact rfl | refine And.intro ?_ ?_ | omega))
    conv=>whnf
    refine call_step (bWithin_t xs[i].id 1 1099511627776) rfl rfl ?_
    conv=>whnf
    refine ⟨?_, ?_, ?_⟩
    iterate 2 · repeat' (first | exact trivial | exact rfl | refine And.intro ?_ ?_ | ((conv=>whnf); first | exact trivial | exact rfl | refine And.intro ?_ ?_ | omega))
    conv=>whnf
    refine ⟨fun hc => ?_, fun hc => ?_⟩
    · have h1 : withinF xs[i].id 1 1099511627776 = false := by simpa using (show (!withinF xs[i].id 1 1099511627776) = true from hc)
      rw [h1, Bool.false_and, if_pos rfl] at hT
      subst hT
      conv=>whnf
      repeat' (first | exact trivial | exact rfl | refine And.intro ?_ ?_ | ((conv=>whnf); first | exact trivial | exact rfl | refine And.intro ?_ ?_ | omega))
    have h1 : withinF xs[i].id 1 1099511627776 = true := by simpa using (show (!withinF xs[i].id 1 1099511627776) = false from hc)
    rw [h1, Bool.true_and] at hT
    conv=>whnf
    refine call_step (check3_t bs xs[i]) rfl rfl ?_
    conv=>whnf
    refine ⟨?_, ?_, ?_⟩
    iterate 2 · repeat' (first | exact trivial | exact rfl | refine And.intro ?_ ?_ | ((conv=>whnf); first | exact trivial | exact rfl | refine And.intro ?_ ?_ | omega))
    conv=>whnf
    refine ⟨fun hc => ?_, fun hc => ?_⟩
    · have h2 : wghF bs xs[i] = false := by simpa using (show (!wghF bs xs[i]) = true from hc)
      rw [h2, if_pos rfl] at hT
      subst hT
      conv=>whnf
      repeat' (first | exact trivial | exact rfl | refine And.intro ?_ ?_ | ((conv=>whnf); first | exact trivial | exact rfl | refine And.intro ?_ ?_ | omega))
    have h2 : wghF bs xs[i] = true := by simpa using (show (!wghF bs xs[i]) = false from hc)
    rw [h2, if_neg (by simp)] at hT
    conv=>whnf
    refine lookup_step tB_ok 4 zeroB_ok rfl ?_
    conv=>whnf
    refine ⟨T, rfl, ?_⟩
    conv=>whnf
    refine ⟨fun hc => ?_, fun hc => ?_⟩
    · have hm : xs[i].id ∈ T := of_decide_eq_true hc
      rw [if_pos hm] at hT
      subst hT
      conv=>whnf
      repeat' (first | exact trivial | exact rfl | refine And.intro ?_ ?_ | ((conv=>whnf); first | exact trivial | exact rfl | refine And.intro ?_ ?_ | omega))
    · have hm : xs[i].id ∉ T := of_decide_eq_false hc
      rw [if_neg hm] at hT
      conv=>whnf
      refine mapUp_step tB_ok rfl ?_
      conv=>whnf
      refine ⟨T, rfl, ?_⟩
      conv=>whnf
      refine ⟨_, wrapId ⟨by omega, by omega⟩, ?_⟩
      refine ⟨(i + 1, xs[i].id :: T), ⟨hlt, hT⟩, by show xs.length - (i + 1) < xs.length - i; omega, ?_⟩
      conv=>whnf
      refine ⟨rfl, ?_⟩
      conv=>whnf
      repeat' (first | exact trivial | exact rfl | refine And.intro ?_ ?_ | ((conv=>whnf); first | exact trivial | exact rfl | refine And.intro ?_ ?_ | omega))
  · have hie : i = xs.length := by simp at hc; omega
    subst hie
    rw [List.drop_length] at hT
    have hT : (0, T) = R := hT
    subst hT
    conv=>whnf
    repeat' (first | exact trivial | exact rfl | refine And.intro ?_ ?_ | ((conv=>whnf); first | exact trivial | exact rfl | refine And.intro ?_ ?_ | omega))

end Go.Proofs

namespace Go.Proofs
open Go.Sx

theorem rdErr_eq (r : Rd) : errF [] (rdErrs r) = if (lookE [] (r.cs.map (chkP r.bs))).1 = 0 then (if (lookE (lookE [] (r.cs.map (chkP r.bs))).2 (r.ns.map (ntcP r.bs))).1 = 0 then
    (lookE (lookE (lookE [] (r.cs.map (chkP r.bs))).2 (r.ns.map (ntcP r.bs))).2 (r.ws.map (wghP r.bs))).1 else (lookE (lookE [] (r.cs.map (chkP r.bs))).2 (r.ns.map (ntcP r.bs))).1) else (lookE [] (r.cs.map (chkP r.bs))).1 := by
  rw [← lookE_err (rdErrs r) [] [] (fun _ => Iff.rfl)]
  unfold rdErrs
  rw [lookE_append]
  by_cases h : (lookE [] (r.cs.map (chkP r.bs))).1 = 0
  · rw [if_pos h, if_pos h, lookE_append]
    split <;> rfl
  · rw [if_neg h, if_neg h]

theorem hasB_take {bs : List Bal} {id : Int} : hasB bs id = (bs.map Bal.id).contains id := by
  unfold hasB findB
  rw [Bool.eq_iff_iff]
  simp only [List.find?_isSome, List.contains_iff_mem, List.mem_map, beq_iff_eq]

theorem check_rd_t (r : Rd) (hb : r.bs.length ≤ 1000000) (hcs : r.cs.length ≤ 1000000) (hns : r.ns.length ≤ 1000000) (hws : r.ws.length ≤ 1000000) :
    Triple Tryz.prog 19 [rdA r] (rdH r) 4 (iv .i64 (checkR r)) [] := by
  have hE := rdErr_eq r
  have hR : checkR r = bif decide (8 < r.bs.length) || decide (100 < r.cs.length + r.ns.length + r.ws.length) then 2
    else bif errF [] (r.bs.map balP) == 0 then errF [] (rdErrs r) else errF [] (r.bs.map balP) := rfl
  generalize checkR r = R at *
  generalize errF [] (rdErrs r) = E at *
  obtain ⟨bs, cs, ns, ws⟩ := r
  dsimp only at *
  generalize hB : errF [] (bs.map balP) = B at *
  refine triple_of tB_ok Tryz.func19 rfl Tryz.call19 rfl ?_
  intro ρ w hH
  conv=>whnf
  refine ⟨fun hc => ?_, fun hc => ?_⟩
  · have h8 : 8 < bs.length := by have := of_decide_eq_true (show decide ((8 : Int) < bs.length) = true from hc); omega
    rw [decide_eq_true h8, Bool.true_or, cond_true] at hR
    subst hR
    conv=>whnf
    repeat' (first | exact trivial | exact rfl | refine And.intro ?_ ?_ | ((conv=>whnf); first | exact trivial | exact rfl | refine And.intro ?_ ?_ | omega))
  have h8 : ¬ 8 < bs.length := by have := of_decide_eq_false (show decide ((8 : Int) < bs.length) = false from hc); omega
  conv=>whnf
  refine ⟨((cs.length + ns.length : Nat) : Int), (show IntKind.i64.wrap ((cs.length : Int) + ns.length) = ((cs.length + ns.length : Nat) : Int) by rw [wrapId ⟨by omega, by omega⟩]; omega), ?_⟩
  conv=>whnf
  refine ⟨((cs.length + ns.length + ws.length : Nat) : Int), (show IntKind.i64.wrap (((cs.length + ns.length : Nat) : Int) + ws.length) = ((cs.length + ns.length + ws.length : Nat) : Int) by rw [wrapId ⟨by omega, by omega⟩]; omega), ?_⟩
  conv=>whnf
  refine ⟨fun hc => ?_, fun hc => ?_⟩
  · have h9 : 100 < cs.length + ns.length + ws.length := by have := of_decide_eq_true (show decide ((100 : Int) < (cs.length + ns.length + ws.length : Nat)) = true from hc); omega
    rw [decide_eq_true h9, Bool.or_true, cond_true] at hR
    subst hR
    conv=>whnf
    repeat' (first | exact trivial | exact rfl | refine And.intro ?_ ?_ | ((conv=>whnf); first | exact trivial | exact rfl | refine And.intro ?_ ?_ | omega))
  have h9 : ¬ 100 < cs.length + ns.length + ws.length := by have := of_decide_eq_false (show decide ((100 : Int) < (cs.length + ns.length + ws.length : Nat)) = false from hc); omega
  rw [decide_eq_false h8, decide_eq_false h9, Bool.or_false, cond_false] at hR
  conv=>whnf
  refine mkmapKV_step false true 1 rfl ?_
  conv=>whnf
  refine loop_step tB_ok (G := Nat) 0 [] (fun i => [(32, iv .i64 i)]) (fun i => [(5, true, kvO false true 1 (knownF (bs.take i)))]) (fun i => i ≤ bs.length ∧ errF ((bs.take i).map Bal.id) ((bs.drop i).map balP) = B) (fun i => bs.length - i) ?_
  conv=>whnf
  refine ⟨⟨0, ⟨Nat.zero_le _, hB⟩, ?_⟩, ?_⟩
  · conv=>whnf
    repeat' (first | exact trivial | exact rfl | refine And.intro ?_ ?_ | ((conv=>whnf); first | exact trivial | exact rfl | refine And.intro ?_ ?_ | omega))
  rintro i ⟨hi, hT⟩ ρ1 t1 hρ1
  dsimp only
  conv=>whnf
  refine ⟨fun hc => ?_, fun hc => ?_⟩
  · have hlt : i < bs.length := by simpa using hc
    rw [List.drop_eq_getElem_cons hlt, List.map_cons] at hT
    unfold errF balP at hT
    dsimp only at hT
    conv=>whnf
    refine ⟨i, rfl, hlt, hlt, ?_⟩
    conv=>whnf
    refine call_step (valid_t bs[i]) rfl rfl ?_
    conv=>whnf
    refine ⟨?_, ?_, ?_⟩
    iterate 2 · repeat' (first | exact trivial | exact rfl | refine And.intro ?_ ?_ | ((conv=>whnf); first | exact trivial | exact rfl | refine And.intro ?_ ?_ | omega))
    conv=>whnf
    refine ⟨fun hc => ?_, fun hc => ?_⟩
    · have hv : validF bs[i] = false := by simpa using (show (!validF bs[i]) = true from hc)
      rw [hv, Bool.not_false, cond_true] at hT
      subst hT
      have hR : R = 1 := hR
      subst hR
      conv=>whnf
      repeat' (first | exact trivial | exact rfl | refine And.intro ?_ ?_ | ((conv=>whnf); first | exact trivial | exact rfl | refine And.intro ?_ ?_ | omega))
    have hv : validF bs[i] = true := by simpa using (show (!validF bs[i]) = false from hc)
    rw [hv, Bool.not_true, cond_false] at hT
    conv=>whnf
    refine lookKV_step tB_ok 3 57 false true 1 (balL zBal) keyInt zeroBal_ok rfl ?_
    conv=>whnf
    refine ⟨_, _, _, rfl, lookKnown (bs.take i) bs[i].id, ?_⟩
    have hh := hasB_take (bs := bs.take i) (id := bs[i].id)
    generalize hasB (bs.take i) bs[i].id = ok at *
    generalize findD (bs.take i) bs[i].id = d at *
    conv=>whnf
    refine ⟨fun hc => ?_, fun hc => ?_⟩
    · subst hc
      rw [← hh, cond_true] at hT
      subst hT
      have hR : R = 6 := hR
      subst hR
      conv=>whnf
      repeat' (first | exact trivial | exact rfl | refine And.intro ?_ ?_ | ((conv=>whnf); first | exact trivial | exact rfl | refine And.intro ?_ ?_ | omega))
    · subst hc
      rw [← hh, cond_false] at hT
      conv=>whnf
      refine mapUpKV_step tB_ok 3 false true 1 keyInt rfl ?_
      conv=>whnf
      refine ⟨knownF (bs.take i), rfl, ?_, ?_⟩
      · intro hm
        have : (List.map Bal.id (bs.take i)).contains bs[i].id = true := by
          simp only [knownF, List.map_map, List.mem_map, Function.comp] at hm
          obtain ⟨b, hb1, hb2⟩ := hm
          simp only [List.cons.injEq, and_true] at hb2
          simp only [List.contains_iff_mem, List.mem_map]
          exact ⟨b, hb1, hb2⟩
        rw [this] at hh; cases hh
      have en : knownF (bs.take i) ++ [([bs[i].id], balL bs[i])] = knownF (bs.take (i + 1)) := by
        unfold knownF; rw [take_snoc hlt, List.map_append]; rfl
      conv=>whnf
      refine ⟨_, wrapId ⟨by omega, by omega⟩, ?_⟩
      refine ⟨i + 1, ⟨hlt, ?_⟩, by show bs.length - (i + 1) < bs.length - i; omega, ?_⟩
      · rw [take_snoc hlt, List.map_append]; exact hT
      conv=>whnf
      refine ⟨rfl, ?_⟩
      conv=>whnf
      repeat' (first | exact trivial | exact rfl | refine And.intro ?_ ?_ | ((conv=>whnf); first | exact trivial | exact rfl | refine And.intro ?_ ?_ | omega))
      all_goals exact congrArg (KVObj false true 1) en
  · have hie : i = bs.length := by simp at hc; omega
    subst hie
    rw [List.drop_length] at hT
    rw [List.take_length]
    have hT : (0 : Int) = B := hT
    subst hT
    have hR : R = E := hR
    subst hR
    conv=>whnf
    refine mkmap_step rfl ?_
    conv=>whnf
    refine call_step (lookedChk_t bs cs [] hcs) rfl rfl ?_
    generalize lookE [] (cs.map (chkP bs)) = a at *
    conv=>whnf
    refine ⟨?_, ?_, ?_⟩
    iterate 2 · repeat' (first | exact trivial | exact rfl | refine And.intro ?_ ?_ | ((conv=>whnf); first | exact trivial | exact rfl | refine And.intro ?_ ?_ | omega))
    conv=>whnf
    refine ⟨fun hc => ?_, fun hc => ?_⟩
    · have ha : a.1 = 0 := by simpa using hc
      rw [if_pos ha] at hE
      conv=>whnf
      refine call_step (lookedNtc_t bs ns a.2 hns) rfl rfl ?_
      generalize lookE a.2 (ns.map (ntcP bs)) = b at *
      conv=>whnf
      refine ⟨?_, ?_, ?_⟩
      iterate 2 · repeat' (first | exact trivial | exact rfl | refine And.intro ?_ ?_ | ((conv=>whnf); first | exact trivial | exact rfl | refine And.intro ?_ ?_ | omega))
      conv=>whnf
      refine ⟨fun hc => ?_, fun hc => ?_⟩
      · have hb : b.1 = 0 := by simpa using hc
        rw [if_pos hb] at hE
        conv=>whnf
        refine call_step (lookedWgh_t bs ws b.2 hws) rfl rfl ?_
        generalize lookE b.2 (ws.map (wghP bs)) = c at *
        subst hE
        conv=>whnf
        refine ⟨?_, ?_, ?_⟩
        iterate 2 · repeat' (first | exact trivial | exact rfl | refine And.intro ?_ ?_ | ((conv=>whnf); first | exact trivial | exact rfl | refine And.intro ?_ ?_ | omega))
        conv=>whnf
        repeat' (first | exact trivial | exact rfl | refine And.intro ?_ ?_ | ((conv=>whnf); first | exact trivial | exact rfl | refine And.intro ?_ ?_ | omega))
      · have hb : ¬ b.1 = 0 := by simpa using hc
        rw [if_neg hb] at hE
        subst hE
        conv=>whnf
        repeat' (first | exact trivial | exact rfl | refine And.intro ?_ ?_ | ((conv=>whnf); first | exact trivial | exact rfl | refine And.intro ?_ ?_ | omega))
    · have ha : ¬ a.1 = 0 := by simpa using hc
      rw [if_neg ha] at hE
      subst hE
      have ha2 : (a.1 == 0) = false := by simpa using ha
      conv=>whnf
      refine ⟨fun hc => absurd (show (a.1 == 0) = true from hc) (by rw [ha2]; simp), fun _ => ?_⟩
      conv=>whnf
      repeat' (first | exact trivial | exact rfl | refine And.intro ?_ ?_ | ((conv=>whnf); first | exact trivial | exact rfl | refine And.intro ?_ ?_ | omega))

theorem valid_cap {b : Bal} (h : validF b = true) : 0 ≤ b.half ∧ b.half ≤ 1000 ∧ 1 ≤ b.cap ∧ b.cap ≤ 10000000 := by
  have := valid_bd h; omega

theorem can_bd {b : Bal} {mass shift : Int} (h : canF b mass shift = true) : (0 ≤ b.half ∧ b.half ≤ 1000) ∧ (0 ≤ mass ∧ mass ≤ 10000000) ∧ (-1000000 ≤ shift ∧ shift ≤ 1000000) := by
  unfold canF at h
  simp only [Bool.and_eq_true] at h
  obtain ⟨h1, h2, h3⟩ := h
  have := valid_cap h1
  simp [withinF] at h2 h3
  omega

theorem bShows_t (b : Bal) (mass shift shown : Int) : Triple Tryz.prog 31 [svBal b, iv .i64 mass, iv .i64 shift, iv .i64 shown] [] 0 (bv (showsR b mass shift shown)) [] := by
  have e : showsR b mass shift shown = (canF b mass shift && (withinF shown 0 10000000 && withinF (mass - shown - shift) (-b.half) b.half)) := rfl
  rw [e]
  clear e
  refine triple_of tB_ok Tryz.func31 rfl Tryz.call31 rfl ?_
  intro ρ w hH
  conv=>whnf
  refine call_step (can_t b mass shift) rfl rfl ?_
  conv=>whnf
  refine ⟨?_, ?_, ?_⟩
  iterate 2 · repeat' (first | exact trivial | exact rfl | refine And.intro ?_ ?_ | ((conv=>whnf); first | exact trivial | exact rfl | refine And.intro ?_ ?_ | omega))
  conv=>whnf
  refine ⟨fun hc => ?_, fun hc => ?_⟩
  rotate_left
  · conv=>whnf
    exact ⟨(by simp_all : _ = (canF b mass shift && _)), trivial⟩
  have hcan : canF b mass shift = true := hc
  have hbd := can_bd hcan
  rw [hcan, Bool.true_and]
  conv=>whnf
  refine call_step (bWithin_t shown 0 10000000) rfl rfl ?_
  conv=>whnf
  refine ⟨?_, ?_, ?_⟩
  iterate 2 · repeat' (first | exact trivial | exact rfl | refine And.intro ?_ ?_ | ((conv=>whnf); first | exact trivial | exact rfl | refine And.intro ?_ ?_ | omega))
  conv=>whnf
  refine ⟨fun hc => ?_, fun hc => ?_⟩
  rotate_left
  · conv=>whnf
    exact ⟨(by simp_all : _ = (withinF shown 0 10000000 && _)), trivial⟩
  have hsh : withinF shown 0 10000000 = true := hc
  rw [hsh, Bool.true_and]
  have hs2 : 0 ≤ shown ∧ shown ≤ 10000000 := by simpa [withinF] using hsh
  conv=>whnf
  refine ⟨mass - shown, wrapId (z := mass - shown) ⟨by omega, by omega⟩, ?_⟩
  conv=>whnf
  refine ⟨mass - shown - shift, wrapId (z := mass - shown - shift) ⟨by omega, by omega⟩, ?_⟩
  conv=>whnf
  refine ⟨-b.half, (congrArg IntKind.i64.wrap (show (0 : Int) - b.half = -b.half by omega)).trans (wrapId ⟨by omega, by omega⟩), ?_⟩
  conv=>whnf
  refine call_step (bWithin_t (mass - shown - shift) (-b.half) b.half) rfl rfl ?_
  conv=>whnf
  refine ⟨?_, ?_, ?_⟩
  iterate 2 · repeat' (first | exact trivial | exact rfl | refine And.intro ?_ ?_ | ((conv=>whnf); first | exact trivial | exact rfl | refine And.intro ?_ ?_ | omega))
  conv=>whnf
  repeat' (first | exact trivial | exact rfl | refine And.intro ?_ ?_ | ((conv=>whnf); first | exact trivial | exact rfl | refine And.intro ?_ ?_ | omega))

theorem showing_t (b : Bal) (mass shift : Int) : Triple Tryz.prog 28 [svBal b, iv .i64 mass, iv .i64 shift] [] 0 (.tup [.inr [.v (.int .i64 (showingF b mass shift).1.1), .v (.int .i64 (showingF b mass shift).1.2)], .inl (.v (.int .i64 (showingF b mass shift).2))]) [] := by
  have e : showingF b mass shift = bif canF b mass shift then (bif decide (min 10000000 (mass - shift + b.half) < max 0 (mass - shift - b.half)) then ((0, 0), 3) else ((max 0 (mass - shift - b.half), min 10000000 (mass - shift + b.half)), 0)) else ((0, 0), 1) := rfl
  generalize showingF b mass shift = R at *
  refine triple_of tB_ok Tryz.func28 rfl Tryz.call28 rfl ?_
  intro ρ w hH
  conv=>whnf
  refine call_step (can_t b mass shift) rfl rfl ?_
  conv=>whnf
  refine ⟨?_, ?_, ?_⟩
  iterate 2 · repeat' (first | exact trivial | exact rfl | refine And.intro ?_ ?_ | ((conv=>whnf); first | exact trivial | exact rfl | refine And.intro ?_ ?_ | omega))
  conv=>whnf
  refine ⟨fun hc => ?_, fun hc => ?_⟩
  · have hcan : canF b mass shift = false := by simpa using (show (!canF b mass shift) = true from hc)
    rw [hcan, cond_false] at e
    subst e
    conv=>whnf
    repeat' (first | exact trivial | exact rfl | refine And.intro ?_ ?_ | ((conv=>whnf); first | exact trivial | exact rfl | refine And.intro ?_ ?_ | omega))
  have hcan : canF b mass shift = true := by simpa using (show (!canF b mass shift) = false from hc)
  rw [hcan, cond_true] at e
  have hbd := can_bd hcan
  conv=>whnf
  refine ⟨mass - shift, wrapId (z := mass - shift) ⟨by omega, by omega⟩, ?_⟩
  conv=>whnf
  refine ⟨mass - shift - b.half, wrapId (z := mass - shift - b.half) ⟨by omega, by omega⟩, ?_⟩
  conv=>whnf
  refine ⟨mass - shift, wrapId (z := mass - shift) ⟨by omega, by omega⟩, ?_⟩
  conv=>whnf
  refine ⟨mass - shift + b.half, wrapId (z := mass - shift + b.half) ⟨by omega, by omega⟩, ?_⟩
  conv=>whnf
  refine ⟨fun hc => ?_, fun hc => ?_⟩
  · rw [(show decide (min 10000000 (mass - shift + b.half) < max 0 (mass - shift - b.half)) = true from hc), cond_true] at e
    subst e
    conv=>whnf
    repeat' (first | exact trivial | exact rfl | refine And.intro ?_ ?_ | ((conv=>whnf); first | exact trivial | exact rfl | refine And.intro ?_ ?_ | omega))
  · rw [(show decide (min 10000000 (mass - shift + b.half) < max 0 (mass - shift - b.half)) = false from hc), cond_false] at e
    subst e
    conv=>whnf
    repeat' (first | exact trivial | exact rfl | refine And.intro ?_ ?_ | ((conv=>whnf); first | exact trivial | exact rfl | refine And.intro ?_ ?_ | omega))

end Go.Proofs

