/-
  A part of the proof that a law answers true: lemmas of a symbolic walk, plain functions, or contracts of the functions walked (R8, R9). Conditions: none.
-/
import Derived.Test.YtagedjfjcnemoaaGreatPart18
set_option maxRecDepth 100000
set_option linter.unusedVariables false
set_option linter.unusedSimpArgs false
namespace Go.Proofs
open Go.Sx

theorem sortedWgh_t (xs : List Wgh) (hb : xs.length ≤ 1000) (hd : (xs.map Wgh.id).Nodup) :
    Triple Tryz.prog 154 [.c (.f 214 [0]), .c (.f 156 [])]
      [(0, false, .cells [.s 1 0 xs.length 8]), (1, false, .arr (aWgh xs))] 2 (.c (.s 2 0 xs.length 8)) [(2, true, .arr (aWgh (sortK Wgh.id xs)))] := by
  have hS := sortWgh_t xs (by omega)
  rw [pdqL_sort (cmp_id Wgh.id) hd] at hS
  refine triple_of tB_ok Tryz.func154 rfl Tryz.call154 rfl ?_
  intro ρ w hH
  conv=>whnf
  refine call_step (collectWgh_t xs hb) rfl rfl ?_
  conv=>whnf
  refine ⟨?_, ?_, ?_⟩
  iterate 2 · repeat' (first | exact trivial | exact rfl | refine And.intro ?_ ?_ | ((conv=>whnf); first | exact trivial | exact rfl | refine And.intro ?_ ?_ | omega))
  conv=>whnf
  refine call_step hS rfl rfl ?_
  conv=>whnf
  refine ⟨?_, ?_, ?_⟩
  iterate 2 · repeat' (first | exact trivial | exact rfl | refine And.intro ?_ ?_ | ((conv=>whnf); first | exact trivial | exact rfl | refine And.intro ?_ ?_ | omega))
  conv=>whnf
  repeat' (first | exact trivial | exact rfl | refine And.intro ?_ ?_ | ((conv=>whnf); first | exact trivial | exact rfl | refine And.intro ?_ ?_ | omega))
theorem sortedChk_t (xs : List Chk) (hb : xs.length ≤ 1000) (hd : (xs.map Chk.id).Nodup) :
    Triple Tryz.prog 158 [.c (.f 218 [0]), .c (.f 160 [])]
      [(0, false, .cells [.s 1 0 xs.length 5]), (1, false, .arr (aChk xs))] 2 (.c (.s 2 0 xs.length 5)) [(2, true, .arr (aChk (sortK Chk.id xs)))] := by
  have hS := sortChk_t xs (by omega)
  rw [pdqL_sort (cmp_id Chk.id) hd] at hS
  refine triple_of tB_ok Tryz.func158 rfl Tryz.call158 rfl ?_
  intro ρ w hH
  conv=>whnf
  refine call_step (collectChk_t xs hb) rfl rfl ?_
  conv=>whnf
  refine ⟨?_, ?_, ?_⟩
  iterate 2 · repeat' (first | exact trivial | exact rfl | refine And.intro ?_ ?_ | ((conv=>whnf); first | exact trivial | exact rfl | refine And.intro ?_ ?_ | omega))
  conv=>whnf
  refine call_step hS rfl rfl ?_
  conv=>whnf
  refine ⟨?_, ?_, ?_⟩
  iterate 2 · repeat' (first | exact trivial | exact rfl | refine And.intro ?_ ?_ | ((conv=>whnf); first | exact trivial | exact rfl | refine And.intro ?_ ?_ | omega))
  conv=>whnf
  repeat' (first | exact trivial | exact rfl | refine And.intro ?_ ?_ | ((conv=>whnf); first | exact trivial | exact rfl | refine And.intro ?_ ?_ | omega))
theorem sortedNtc_t (xs : List Ntc) (hb : xs.length ≤ 1000) (hd : (xs.map Ntc.id).Nodup) :
    Triple Tryz.prog 179 [.c (.f 231 [0]), .c (.f 181 [])]
      [(0, false, .cells [.s 1 0 xs.length 6]), (1, false, .arr (aNtc xs))] 2 (.c (.s 2 0 xs.length 6)) [(2, true, .arr (aNtc (sortK Ntc.id xs)))] := by
  have hS := sortNtc_t xs (by omega)
  rw [pdqL_sort (cmp_id Ntc.id) hd] at hS
  refine triple_of tB_ok Tryz.func179 rfl Tryz.call179 rfl ?_
  intro ρ w hH
  conv=>whnf
  refine call_step (collectNtc_t xs hb) rfl rfl ?_
  conv=>whnf
  refine ⟨?_, ?_, ?_⟩
  iterate 2 · repeat' (first | exact trivial | exact rfl | refine And.intro ?_ ?_ | ((conv=>whnf); first | exact trivial | exact rfl | refine And.intro ?_ ?_ | omega))
  conv=>whnf
  refine call_step hS rfl rfl ?_
  conv=>whnf
  refine ⟨?_, ?_, ?_⟩
  iterate 2 · repeat' (first | exact trivial | exact rfl | refine And.intro ?_ ?_ | ((conv=>whnf); first | exact trivial | exact rfl | refine And.intro ?_ ?_ | omega))
  conv=>whnf
  repeat' (first | exact trivial | exact rfl | refine And.intro ?_ ?_ | ((conv=>whnf); first | exact trivial | exact rfl | refine And.intro ?_ ?_ | omega))

theorem shift_t (r : Rd) (m : Mom) (hb : r.bs.length ≤ 1000000) (hn : r.ns.length ≤ 1000) (hd : (r.ns.map Ntc.id).Nodup) :
    Triple Tryz.prog 120 [rdA r, svMom m] (rdH r) 4 (.tup [.inr [.v (.int .i64 (sideF r m).lo), .v (.int .i64 (sideF r m).hi)], .inr [.v (.int .i64 (sideF r m).loI), .v (.int .i64 (sideF r m).hiI)]]) [] := by
  have hF := find_t r m.bal hb
  have e0 : sideF r m = (sortK Ntc.id r.ns).foldl (sideStep m) ⟨(findD r.bs m.bal).lo, (findD r.bs m.bal).hi, 0, 0, false⟩ := rfl
  have hsl := sortK_len Ntc.id r.ns
  have hS := sortedNtc_t r.ns hn hd
  rw [e0]
  clear e0
  generalize findD r.bs m.bal = d at *
  generalize hasB r.bs m.bal = ok at *
  generalize sortK Ntc.id r.ns = L at *
  refine triple_of tB_ok Tryz.func120 rfl Tryz.call120 rfl ?_
  intro ρ w hH
  conv=>whnf
  refine call_step hF rfl rfl ?_
  conv=>whnf
  refine ⟨?_, ?_, ?_⟩
  iterate 2 · repeat' (first | exact trivial | exact rfl | refine And.intro ?_ ?_ | ((conv=>whnf); first | exact trivial | exact rfl | refine And.intro ?_ ?_ | omega))
  conv=>whnf
  refine call_step (valuesNtc_t r.ns) rfl rfl ?_
  conv=>whnf
  refine ⟨?_, ?_, ?_⟩
  iterate 2 · repeat' (first | exact trivial | exact rfl | refine And.intro ?_ ?_ | ((conv=>whnf); first | exact trivial | exact rfl | refine And.intro ?_ ?_ | omega))
  conv=>whnf
  refine call_step hS rfl rfl ?_
  conv=>whnf
  refine ⟨?_, ?_, ?_⟩
  iterate 2 · repeat' (first | exact trivial | exact rfl | refine And.intro ?_ ?_ | ((conv=>whnf); first | exact trivial | exact rfl | refine And.intro ?_ ?_ | omega))
  generalize hs0 : (⟨d.lo, d.hi, 0, 0, false⟩ : Sid) = s0
  rw [← hsl]
  conv=>whnf
  refine loop_step tB_ok (G := Nat) 0 [] (fun i => [(25, iv .i64 i), (8, bv ((L.take i).foldl (sideStep m) s0).some)])
    (fun i => [(6, true, .cells [.v (.int .i64 ((L.take i).foldl (sideStep m) s0).lo), .v (.int .i64 ((L.take i).foldl (sideStep m) s0).hi)]), (7, true, .cells [.v (.int .i64 ((L.take i).foldl (sideStep m) s0).loI), .v (.int .i64 ((L.take i).foldl (sideStep m) s0).hiI)])])
    (fun i => i ≤ L.length) (fun i => L.length - i) ?_
  conv=>whnf
  refine ⟨⟨0, Nat.zero_le _, ?_⟩, ?_⟩
  · subst hs0
    conv=>whnf
    repeat' (first | exact trivial | exact rfl | refine And.intro ?_ ?_ | ((conv=>whnf); first | exact trivial | exact rfl | refine And.intro ?_ ?_ | omega))
  clear hs0
  intro i hi ρ1 t1 hρ1
  conv=>whnf
  refine ⟨fun hc => ?_, fun hc => ?_⟩
  · have hlt : i < L.length := by simpa using hc
    have hnx : (L.take (i + 1)).foldl (sideStep m) s0 = sideStep m ((L.take i).foldl (sideStep m) s0) L[i] := by
      rw [take_snoc hlt, List.foldl_append]; rfl
    generalize (L.take i).foldl (sideStep m) s0 = s at *
    conv=>whnf
    refine ⟨i, rfl, hlt, hlt, ?_⟩
    conv=>whnf
    refine ⟨fun hc => ?_, fun hc => ?_⟩
    · have h1 : (L[i].bal == m.bal) = false := by
        have : (L[i].bal != m.bal) = true := hc
        simpa using this
      have e : sideStep m s L[i] = s := by
        unfold sideStep
        simp [h1]
      rw [e] at hnx
      conv=>whnf
      refine ⟨_, wrapId ⟨by omega, by omega⟩, ?_⟩
      refine ⟨i + 1, hlt, by show L.length - (i + 1) < L.length - i; omega, ?_⟩
      dsimp only
      rw [hnx]
      conv=>whnf
      refine ⟨rfl, ?_⟩
      conv=>whnf
      repeat' (first | exact trivial | exact rfl | refine And.intro ?_ ?_ | ((conv=>whnf); first | exact trivial | exact rfl | refine And.intro ?_ ?_ | omega))
    have h1 : (L[i].bal == m.bal) = true := by
      have : (L[i].bal != m.bal) = false := hc
      simpa using this
    conv=>whnf
    refine call_step (bWithin_t m.tick L[i].wlo L[i].whi) rfl rfl ?_
    conv=>whnf
    refine ⟨?_, ?_, ?_⟩
    iterate 2 · repeat' (first | exact trivial | exact rfl | refine And.intro ?_ ?_ | ((conv=>whnf); first | exact trivial | exact rfl | refine And.intro ?_ ?_ | omega))
    conv=>whnf
    refine ⟨fun hc => ?_, fun hc => ?_⟩
    · have h2 : withinF m.tick L[i].wlo L[i].whi = false := by simpa using (show (!withinF m.tick L[i].wlo L[i].whi) = true from hc)
      have e : sideStep m s L[i] = s := by
        unfold sideStep
        simp [h2]
      rw [e] at hnx
      conv=>whnf
      refine ⟨_, wrapId ⟨by omega, by omega⟩, ?_⟩
      refine ⟨i + 1, hlt, by show L.length - (i + 1) < L.length - i; omega, ?_⟩
      dsimp only
      rw [hnx]
      conv=>whnf
      refine ⟨rfl, ?_⟩
      conv=>whnf
      repeat' (first | exact trivial | exact rfl | refine And.intro ?_ ?_ | ((conv=>whnf); first | exact trivial | exact rfl | refine And.intro ?_ ?_ | omega))
    have h2 : withinF m.tick L[i].wlo L[i].whi = true := by simpa using (show (!withinF m.tick L[i].wlo L[i].whi) = false from hc)
    obtain ⟨lo, hi', loI, hiI, so⟩ := s
    cases so with
    | false =>
      conv=>whnf
      refine ⟨fun hc => ?_, fun hc => absurd hc (by simp)⟩
      conv=>whnf
      refine ⟨0, rfl, by decide, ?_⟩
      conv=>whnf
      refine ⟨fun hc => ?_, fun hc => absurd hc (by simp)⟩
      conv=>whnf
      refine ⟨1, rfl, by decide, ?_⟩
      have e : sideStep m ⟨lo, hi', loI, hiI, false⟩ L[i] = ⟨L[i].slo, L[i].shi, L[i].id, L[i].id, true⟩ := by
        unfold sideStep
        simp [h1, h2]
      rw [e] at hnx
      conv=>whnf
      refine ⟨_, wrapId ⟨by omega, by omega⟩, ?_⟩
      refine ⟨i + 1, hlt, by show L.length - (i + 1) < L.length - i; omega, ?_⟩
      dsimp only
      rw [hnx]
      conv=>whnf
      refine ⟨rfl, ?_⟩
      conv=>whnf
      repeat' (first | exact trivial | exact rfl | refine And.intro ?_ ?_ | ((conv=>whnf); first | exact trivial | exact rfl | refine And.intro ?_ ?_ | omega))
    | true =>
      conv=>whnf
      refine ⟨fun hc => absurd hc (by simp), fun hc => ?_⟩
      conv=>whnf
      refine ⟨fun hc => ?_, fun hc => ?_⟩
      · have h3 : lo < L[i].slo := of_decide_eq_true hc
        conv=>whnf
        refine ⟨0, rfl, by decide, ?_⟩
        conv=>whnf
        refine ⟨fun hc => absurd hc (by simp), fun hc => ?_⟩
        conv=>whnf
        refine ⟨fun hc => ?_, fun hc => ?_⟩
        · have h4 : L[i].shi < hi' := of_decide_eq_true hc
          conv=>whnf
          refine ⟨1, rfl, by decide, ?_⟩
          have e : sideStep m ⟨lo, hi', loI, hiI, true⟩ L[i] = ⟨L[i].slo, L[i].shi, L[i].id, L[i].id, true⟩ := by
            unfold sideStep
            simp [h1, h2, h3, h4]
          rw [e] at hnx
          conv=>whnf
          refine ⟨_, wrapId ⟨by omega, by omega⟩, ?_⟩
          refine ⟨i + 1, hlt, by show L.length - (i + 1) < L.length - i; omega, ?_⟩
          dsimp only
          rw [hnx]
          conv=>whnf
          refine ⟨rfl, ?_⟩
          conv=>whnf
          repeat' (first | exact trivial | exact rfl | refine And.intro ?_ ?_ | ((conv=>whnf); first | exact trivial | exact rfl | refine And.intro ?_ ?_ | omega))
        · have h4 : ¬ L[i].shi < hi' := of_decide_eq_false hc
          have e : sideStep m ⟨lo, hi', loI, hiI, true⟩ L[i] = ⟨L[i].slo, hi', L[i].id, hiI, true⟩ := by
            unfold sideStep
            simp [h1, h2, h3, h4]
          rw [e] at hnx
          conv=>whnf
          refine ⟨_, wrapId ⟨by omega, by omega⟩, ?_⟩
          refine ⟨i + 1, hlt, by show L.length - (i + 1) < L.length - i; omega, ?_⟩
          dsimp only
          rw [hnx]
          conv=>whnf
          refine ⟨rfl, ?_⟩
          conv=>whnf
          repeat' (first | exact trivial | exact rfl | refine And.intro ?_ ?_ | ((conv=>whnf); first | exact trivial | exact rfl | refine And.intro ?_ ?_ | omega))
      · have h3 : ¬ lo < L[i].slo := of_decide_eq_false hc
        conv=>whnf
        refine ⟨fun hc => absurd hc (by simp), fun hc => ?_⟩
        conv=>whnf
        refine ⟨fun hc => ?_, fun hc => ?_⟩
        · have h4 : L[i].shi < hi' := of_decide_eq_true hc
          conv=>whnf
          refine ⟨1, rfl, by decide, ?_⟩
          have e : sideStep m ⟨lo, hi', loI, hiI, true⟩ L[i] = ⟨lo, L[i].shi, loI, L[i].id, true⟩ := by
            unfold sideStep
            simp [h1, h2, h3, h4]
          rw [e] at hnx
          conv=>whnf
          refine ⟨_, wrapId ⟨by omega, by omega⟩, ?_⟩
          refine ⟨i + 1, hlt, by show L.length - (i + 1) < L.length - i; omega, ?_⟩
          dsimp only
          rw [hnx]
          conv=>whnf
          refine ⟨rfl, ?_⟩
          conv=>whnf
          repeat' (first | exact trivial | exact rfl | refine And.intro ?_ ?_ | ((conv=>whnf); first | exact trivial | exact rfl | refine And.intro ?_ ?_ | omega))
        · have h4 : ¬ L[i].shi < hi' := of_decide_eq_false hc
          have e : sideStep m ⟨lo, hi', loI, hiI, true⟩ L[i] = ⟨lo, hi', loI, hiI, true⟩ := by
            unfold sideStep
            simp [h1, h2, h3, h4]
          rw [e] at hnx
          conv=>whnf
          refine ⟨_, wrapId ⟨by omega, by omega⟩, ?_⟩
          refine ⟨i + 1, hlt, by show L.length - (i + 1) < L.length - i; omega, ?_⟩
          dsimp only
          rw [hnx]
          conv=>whnf
          refine ⟨rfl, ?_⟩
          conv=>whnf
          repeat' (first | exact trivial | exact rfl | refine And.intro ?_ ?_ | ((conv=>whnf); first | exact trivial | exact rfl | refine And.intro ?_ ?_ | omega))
  · have hie : i = L.length := by simp at hc; omega
    subst hie
    rw [List.take_length]
    conv=>whnf
    repeat' (first | exact trivial | exact rfl | refine And.intro ?_ ?_ | ((conv=>whnf); first | exact trivial | exact rfl | refine And.intro ?_ ?_ | omega))

def placesF {α : Type} (f : α → List Int) (k : Nat) (l : List α) : KVs := (l.zipIdx k).map fun p => (f p.1, [(p.2 : Int)])

theorem places_snoc {α : Type} {f : α → List Int} {k : Nat} {l : List α} {i : Nat} (h : i < l.length) : placesF f k (l.take (i + 1)) = placesF f k (l.take i) ++ [(f l[i], [((k + i : Nat) : Int)])] := by
  unfold placesF
  rw [take_snoc h, List.zipIdx_append, List.map_append, List.length_take, Nat.min_eq_left (by omega)]
  rfl

theorem places_fst {α : Type} {f : α → List Int} {k : Nat} {l : List α} : (placesF f k l).map Prod.fst = l.map f := by
  unfold placesF
  rw [List.map_map]
  have : (Prod.fst ∘ fun p : α × Nat => (f p.1, [(p.2 : Int)])) = f ∘ Prod.fst := rfl
  rw [this, ← List.map_map, List.zipIdx_map_fst]

theorem places_new {α : Type} {f : α → List Int} (hf : ∀ x y, f x = f y → x = y) {k : Nat} {l : List α} (hd : l.Nodup) {i : Nat} (h : i < l.length) : f l[i] ∉ (placesF f k (l.take i)).map Prod.fst := by
  rw [places_fst]
  intro hm
  obtain ⟨x, hx, he⟩ := List.mem_map.1 hm
  have := hf _ _ he
  subst this
  have e := List.take_append_drop i l
  have hd2 : (l.take i ++ l.drop i).Nodup := by rw [e]; exact hd
  rw [List.drop_eq_getElem_cons h] at hd2
  exact (List.nodup_append.1 hd2).2.2 _ hx _ (List.mem_cons_self ..) rfl

theorem places_look {α : Type} [DecidableEq α] {f : α → List Int} (hf : ∀ x y, f x = f y → x = y) (l : List α) (x : α) : ∀ k : Nat, lookKV (placesF f k l) (f x) [0] = if x ∈ l then ([(k : Int) + plF l x], true) else ([0], false) := by
  induction l with
  | nil => intro k; rfl
  | cons y r ih =>
    intro k
    have ec : placesF f k (y :: r) = (f y, [(k : Int)]) :: placesF f (k + 1) r := rfl
    have ih2 := ih (k + 1)
    unfold lookKV at ih2 ⊢
    rw [ec, List.find?_cons]
    by_cases hxy : y = x
    · subst hxy
      rw [show (f y == f y) = true by simp, if_pos (by simp)]
      unfold plF
      rw [if_pos (by simp), List.idxOf_cons_self]
      simp
    · have hb : (f y == f x) = false := by simpa using fun h => hxy (hf _ _ h)
      dsimp only
      rw [hb]
      dsimp only
      rw [ih2]
      have hyx : (y == x) = false := by simpa using hxy
      by_cases hm : x ∈ r
      · rw [if_pos hm, if_pos (by simp [hm])]
        unfold plF
        rw [if_pos hm, if_pos (by simp [hm]), List.idxOf_cons, hyx]
        simp only [cond_false, Prod.mk.injEq, List.cons.injEq, and_true]
        omega
      · have : ¬ x ∈ y :: r := by
          simp only [List.mem_cons, not_or]
          exact ⟨fun h => hxy h.symm, hm⟩
        rw [if_neg hm, if_neg this]

theorem keyThg : KeyOK Tryz.prog 30 true 4 := keyOK_rec eq_ok (by simp [tB]) (by kernel_rfl) (by kernel_rfl) (by kernel_rfl)
theorem keyMom : KeyOK Tryz.prog 53 true 2 := keyOK_rec eq_ok (by simp [tB]) (by kernel_rfl) (by kernel_rfl) (by kernel_rfl)
theorem zeroInt_ok : ∀ w, (zeroValue 3).run Tryz.prog w = .ok (encB false [0]) w := by intro w; kernel_rfl

abbrev sheetO (r : Rd) (ko kp km ka no nm : Nat) : SO := .cells [.s 0 0 r.bs.length 6, .s 2 0 r.cs.length 5, .s 3 0 r.ns.length 6, .s 1 0 r.ws.length 8, .s ko 0 no 4, .m kp, .s km 0 nm 2, .m ka]
abbrev placesO (os : List Thg) : SO := kvO true false 4 (placesF thgL 0 os)
abbrev atO (os : List Thg) (ms : List Mom) : SO := kvO true false 2 (placesF momL os.length ms)

theorem spread_t (r : Rd) (more : List Mom) (hm : more.length ≤ 100000) (hw : r.ws.length ≤ 100000) (hcs : r.cs.length ≤ 100000) :
    Triple Tryz.prog 81 [rdA r, .c (.s 4 0 more.length 2)] (rdH r ++ [(4, false, .arr (aMom more))]) 5 (.c (.p 5 0 0 0))
      [(5, true, sheetO r 6 7 8 9 (objsF r).length (momsF r more).length), (6, true, .arr (aThg (objsF r))), (7, true, placesO (objsF r)), (8, true, .arr (aMom (momsF r more))), (9, true, atO (objsF r) (momsF r more))] := by
  have hO := objects_t r hw
  have hM := moments_t r more hm hw hcs
  have hod := objsF_nodup r
  have hmd := momsF_nodup r more
  have hol := objsF_len r
  have hml := momsF_len r more
  generalize objsF r = os at *
  generalize momsF r more = ms at *
  refine triple_of tB_ok Tryz.func81 rfl Tryz.call81 rfl ?_
  intro ρ w hH
  conv=>whnf
  refine call_step hO rfl rfl ?_
  conv=>whnf
  refine ⟨?_, ?_, ?_⟩
  iterate 2 · repeat' (first | exact trivial | exact rfl | refine And.intro ?_ ?_ | ((conv=>whnf); first | exact trivial | exact rfl | refine And.intro ?_ ?_ | omega))
  conv=>whnf
  refine mkmapKV_step true false 4 rfl ?_
  conv=>whnf
  refine call_step hM rfl rfl ?_
  conv=>whnf
  refine ⟨?_, ?_, ?_⟩
  iterate 2 · repeat' (first | exact trivial | exact rfl | refine And.intro ?_ ?_ | ((conv=>whnf); first | exact trivial | exact rfl | refine And.intro ?_ ?_ | omega))
  conv=>whnf
  refine mkmapKV_step true false 2 rfl ?_
  conv=>whnf
  refine loop_step tB_ok (G := Nat) 0 [] (fun i => [(25, iv .i64 i)]) (fun i => [(7, true, kvO true false 4 (placesF thgL 0 (os.take i)))]) (fun i => i ≤ os.length) (fun i => os.length - i) ?_
  conv=>whnf
  refine ⟨⟨0, Nat.zero_le _, ?_⟩, ?_⟩
  · conv=>whnf
    repeat' (first | exact trivial | exact rfl | refine And.intro ?_ ?_ | ((conv=>whnf); first | exact trivial | exact rfl | refine And.intro ?_ ?_ | omega))
  intro i hi ρ1 t1 hρ1
  conv=>whnf
  refine ⟨fun hc => ?_, fun hc => ?_⟩
  · have hlt : i < os.length := by simpa using hc
    have hsn := places_snoc (f := thgL) (k := 0) hlt
    rw [Nat.zero_add] at hsn
    have hnw := places_new (f := thgL) (fun _ _ => thgL_inj) (k := 0) hod hlt
    conv=>whnf
    refine ⟨i, rfl, hlt, hlt, ?_⟩
    conv=>whnf
    refine mapUpKV_step tB_ok 30 true false 4 keyThg rfl ?_
    conv=>whnf
    refine ⟨_, rfl, hnw, ?_⟩
    conv=>whnf
    refine ⟨_, wrapId ⟨by omega, by omega⟩, ?_⟩
    refine ⟨i + 1, hlt, by show os.length - (i + 1) < os.length - i; omega, ?_⟩
    dsimp only
    conv=>whnf
    refine ⟨rfl, ?_⟩
    conv=>whnf
    repeat' (first | exact trivial | exact rfl | refine And.intro ?_ ?_ | ((conv=>whnf); first | exact trivial | exact rfl | refine And.intro ?_ ?_ | omega))
    all_goals exact congrArg (KVObj true false 4) hsn.symm
  have hie : i = os.length := by simp at hc; omega
  subst hie
  rw [List.take_length]
  conv=>whnf
  refine loop_step tB_ok (G := Nat) 0 [] (fun i => [(42, iv .i64 i)]) (fun i => [(9, true, kvO true false 2 (placesF momL os.length (ms.take i)))]) (fun i => i ≤ ms.length) (fun i => ms.length - i) ?_
  conv=>whnf
  refine ⟨⟨0, Nat.zero_le _, ?_⟩, ?_⟩
  · conv=>whnf
    repeat' (first | exact trivial | exact rfl | refine And.intro ?_ ?_ | ((conv=>whnf); first | exact trivial | exact rfl | refine And.intro ?_ ?_ | omega))
  intro i hi ρ1 t1 hρ1
  conv=>whnf
  refine ⟨fun hc => ?_, fun hc => ?_⟩
  · have hlt : i < ms.length := by simpa using hc
    have hsn := places_snoc (f := momL) (k := os.length) hlt
    have hnw := places_new (f := momL) (fun _ _ => momL_inj) (k := os.length) hmd hlt
    conv=>whnf
    refine ⟨i, rfl, hlt, hlt, ?_⟩
    conv=>whnf
    refine ⟨((os.length + i : Nat) : Int), (show IntKind.i64.wrap ((os.length : Int) + i) = ((os.length + i : Nat) : Int) by rw [wrapId ⟨by omega, by omega⟩]; omega), ?_⟩
    conv=>whnf
    refine mapUpKV_step tB_ok 53 true false 2 keyMom rfl ?_
    conv=>whnf
    refine ⟨_, rfl, hnw, ?_⟩
    conv=>whnf
    refine ⟨_, wrapId ⟨by omega, by omega⟩, ?_⟩
    refine ⟨i + 1, hlt, by show ms.length - (i + 1) < ms.length - i; omega, ?_⟩
    dsimp only
    conv=>whnf
    refine ⟨rfl, ?_⟩
    conv=>whnf
    repeat' (first | exact trivial | exact rfl | refine And.intro ?_ ?_ | ((conv=>whnf); first | exact trivial | exact rfl | refine And.intro ?_ ?_ | omega))
    all_goals exact congrArg (KVObj true false 2) hsn.symm
  have hie : i = ms.length := by simp at hc; omega
  subst hie
  rw [List.take_length]
  conv=>whnf
  repeat' (first | exact trivial | exact rfl | refine And.intro ?_ ?_ | ((conv=>whnf); first | exact trivial | exact rfl | refine And.intro ?_ ?_ | omega))

end Go.Proofs

namespace Go.Proofs
open Go.Sx

theorem lay_t (f t m i : Int) (bs : List (Int × Int)) (L : List Lnk) (hL : L.length ≤ 1000000) :
    Triple Tryz.prog 153 [iv .i64 f, iv .i64 t, iv .i64 m, iv .i64 i, .c (.p 0 0 0 0)] [(0, true, .cells [.s 2 0 bs.length 2, .s 1 0 L.length 4]), (1, true, .arr (aLink L)), (2, false, .arr (aSpan bs))] 3 (.tup [])
      [(0, true, .cells [.s 2 0 bs.length 2, .s 3 0 (L ++ [(⟨f, t, m, i⟩ : Lnk)]).length 4]), (3, true, .arr (aLink (L ++ [(⟨f, t, m, i⟩ : Lnk)])))] := by
  refine triple_of tB_ok Tryz.func153 rfl Tryz.call153 rfl ?_
  intro ρ w hH
  conv=>whnf
  refine bs_step tB_ok (aLink [⟨f, t, m, i⟩]) rfl rfl ?_
  conv=>whnf
  refine ⟨⟨rfl, (by repeat' (first | exact trivial | exact rfl | refine And.intro ?_ ?_ | ((conv=>whnf); first | exact trivial | exact rfl | refine And.intro ?_ ?_ | omega)))⟩, ?_⟩
  conv=>whnf
  refine app_step tB_ok (aLink L) [(⟨f, t, m, i⟩ : Lnk)] (fun _ => rfl) rfl rfl rfl rfl ?_
  conv=>whnf
  refine ⟨⟨rfl, rfl, Nat.le_refl _, Nat.le_refl _, by show (L.length + 1) * 33 ≤ _; omega⟩, ?_⟩
  conv=>whnf
  repeat' (first | exact trivial | exact rfl | refine And.intro ?_ ?_ | ((conv=>whnf); first | exact trivial | exact rfl | refine And.intro ?_ ?_ | omega))
  all_goals first | exact (congrArg aLink app1.symm : _) | exact (congrArg aLink app1 : _) | simp

theorem look_obj {os : List Thg} {o : Thg} (h : o ∈ os) : lookKV (placesF thgL 0 os) (thgL o) [0] = ([plF os o], true) := by
  rw [places_look (fun _ _ => thgL_inj), if_pos h]
  simp
theorem look_noobj {os : List Thg} {o : Thg} (h : ¬ o ∈ os) : lookKV (placesF thgL 0 os) (thgL o) [0] = ([0], false) := by
  rw [places_look (fun _ _ => thgL_inj), if_neg h]
theorem look_mom {n : Nat} {ms : List Mom} {m : Mom} (h : m ∈ ms) : lookKV (placesF momL n ms) (momL m) [0] = ([(n : Int) + plF ms m], true) := by
  rw [places_look (fun _ _ => momL_inj), if_pos h]
theorem flat_round {α : Type} (a : List Lnk) (f : α → List Lnk) {l : List α} {i : Nat} (h : i < l.length) {b : List Lnk} (hb : f l[i] = b) : a ++ (l.take (i + 1)).flatMap f = (a ++ (l.take i).flatMap f) ++ b := by
  rw [take_snoc h, List.flatMap_append, List.append_assoc]
  simp [hb]

theorem flat_round2 {α : Type} (a : List Lnk) (f : α → List Lnk) {l : List α} {i : Nat} (h : i < l.length) {x y : Lnk} (hb : f l[i] = [x, y]) : a ++ (l.take (i + 1)).flatMap f = ((a ++ (l.take i).flatMap f) ++ [x]) ++ [y] := by
  rw [flat_round a f h hb]; simp

theorem flat_le2 {α : Type} (f : α → List Lnk) (hf : ∀ x, (f x).length ≤ 2) : ∀ l : List α, (l.flatMap f).length ≤ 2 * l.length
  | [] => by simp
  | x :: r => by
    rw [List.flatMap_cons, List.length_append, List.length_cons]
    have := hf x
    have := flat_le2 f hf r
    omega

theorem drf_snoc (bs : List Bal) (k : Nat) (a b : Mom) : ∀ (l : List Mom) (j : Nat), drfLs bs k j (l ++ [a, b]) = drfLs bs k j (l ++ [a]) ++ (bif a.bal == b.bal then
      [⟨k + ((j + l.length : Nat) : Int), k + ((j + l.length : Nat) : Int) + 1, min ((findD bs a.bal).dr * (b.tick - a.tick)) 2000000, 0⟩, ⟨k + ((j + l.length : Nat) : Int) + 1, k + ((j + l.length : Nat) : Int), min ((findD bs a.bal).dr * (b.tick - a.tick)) 2000000, 0⟩] else [])
  | [], j => by simp [drfLs]
  | [x], j => by
    simp only [List.cons_append, List.nil_append, drfLs, List.length_cons, List.length_nil, Nat.zero_add, List.append_nil]
  | x :: y :: r, j => by
    have ih := drf_snoc bs k a b (y :: r) (j + 1)
    simp only [List.cons_append, drfLs] at ih ⊢
    rw [ih, List.append_assoc]
    have e : j + 1 + (y :: r).length = j + (x :: y :: r).length := by simp only [List.length_cons]; omega
    rw [e]

theorem drf_round (bs : List Bal) (k : Nat) {ms : List Mom} {i : Nat} (h1 : 1 ≤ i) (h : i < ms.length) : drfLs bs k 0 (ms.take (i + 1)) = drfLs bs k 0 (ms.take i) ++ (bif (ms[i - 1]'(by omega)).bal == ms[i].bal then
      [⟨(k : Int) + ((i - 1 : Nat) : Int), (k : Int) + (i : Int), min ((findD bs (ms[i - 1]'(by omega)).bal).dr * (ms[i].tick - (ms[i - 1]'(by omega)).tick)) 2000000, 0⟩,
       ⟨(k : Int) + (i : Int), (k : Int) + ((i - 1 : Nat) : Int), min ((findD bs (ms[i - 1]'(by omega)).bal).dr * (ms[i].tick - (ms[i - 1]'(by omega)).tick)) 2000000, 0⟩] else []) := by
  obtain ⟨j, rfl⟩ : ∃ j, i = j + 1 := ⟨i - 1, by omega⟩
  have e1 : ms.take (j + 1) = ms.take j ++ [ms[j]] := take_snoc (by omega)
  have e2 : ms.take (j + 1 + 1) = ms.take j ++ [ms[j], ms[j + 1]] := by rw [take_snoc h, e1, List.append_assoc]; rfl
  rw [e2, e1, drf_snoc]
  simp only [Nat.add_sub_cancel, Nat.zero_add, List.length_take, Nat.min_eq_left (show j ≤ ms.length by omega)]
  have e3 : (k : Int) + ((j + 1 : Nat) : Int) = (k : Int) + (j : Int) + 1 := by omega
  rw [e3]

theorem drf_le (bs : List Bal) (k : Nat) (ms : List Mom) : (drfLs bs k 0 ms).length ≤ 2 * ms.length := drfLs_len bs k ms 0

theorem cap_round {bs : List Bal} {o : Thg} {ws : List Wgh} {j : Nat} (h : j < ws.length) : (ws.take (j + 1)).foldl (capStep bs o) 10000000 = capStep bs o ((ws.take j).foldl (capStep bs o) 10000000) ws[j] := by
  rw [take_snoc h, List.foldl_append]; rfl

end Go.Proofs

