/-
  A part of the proof that a law answers true: lemmas of a symbolic walk, plain functions, or contracts of the functions walked (RP, RQ, Ru, Rw, Pm29, Pm30). Conditions: none.
-/
import Derived.Test.YtagedjfjcnemoaaGreatPart27
import Derived.Test.YtagedjfjcnemoaaGreatPart23
import Derived.Test.YtagedjfjcnemoaaGreatPart14
set_option maxRecDepth 100000
set_option linter.unusedVariables false
set_option linter.unusedSimpArgs false
namespace Go.Proofs
open Go.Sx Go.Sort Go.RowKit

def tYT : List (Nat × TI) := (180, ⟨.func, 1, 8, [.nilFunc]⟩) :: (150, ⟨.func, 1, 8, [.nilFunc]⟩) :: (154, ⟨.func, 1, 8, [.nilFunc]⟩) :: (158, ⟨.func, 1, 8, [.nilFunc]⟩) :: tXT
theorem tYT_ok : TabOK Tryz.prog tYT := tabOK_cons (by kernel_rfl) (tabOK_cons (by kernel_rfl) (tabOK_cons (by kernel_rfl) (tabOK_cons (by kernel_rfl) tXT_ok)))
def tY : Tabs := ⟨tYT, tB.2, tB.3⟩
theorem tY_ok : TabsOK Tryz.prog tY := ⟨tYT_ok, by kernel_rfl, by kernel_rfl, eq_ok, eqD_ok, by kernel_rfl⟩

theorem balID_t (x : Bal) : Triple Tryz.prog 125 [svBal x] [] 0 (iv .i64 x.id) [] := by
  refine triple_of tB_ok Tryz.func125 rfl Tryz.call125 rfl ?_
  intro ρ w hH
  conv=>whnf
  repeat' (first | exact trivial | exact rfl | refine And.intro ?_ ?_ | ((conv=>whnf); first | exact trivial | exact rfl | refine And.intro ?_ ?_ | omega))

theorem joinCmpBal_t (x y : Bal) : Triple Tryz.prog 186 [svBal x, svBal y, .c (.p 1 0 0 0)] [(1, false, .cells [.f 125 []])] 2 (iv .i64 (cmpI x.id y.id)) [] := by
  refine triple_of tY_ok Tryz.func186 rfl Tryz.call186 rfl ?_
  intro ρ w hH
  conv=>whnf
  refine call_step (balID_t x) rfl rfl ?_
  conv=>whnf
  refine ⟨?_, ?_, ?_⟩
  iterate 2 · repeat' (first | exact trivial | exact rfl | refine And.intro ?_ ?_ | ((conv=>whnf); first | exact trivial | exact rfl | refine And.intro ?_ ?_ | omega))
  conv=>whnf
  refine call_step (balID_t y) rfl rfl ?_
  conv=>whnf
  refine ⟨?_, ?_, ?_⟩
  iterate 2 · repeat' (first | exact trivial | exact rfl | refine And.intro ?_ ?_ | ((conv=>whnf); first | exact trivial | exact rfl | refine And.intro ?_ ?_ | omega))
  conv=>whnf
  refine call_step (compare_t x.id y.id) rfl rfl ?_
  conv=>whnf
  refine ⟨?_, ?_, ?_⟩
  iterate 2 · repeat' (first | exact trivial | exact rfl | refine And.intro ?_ ?_ | ((conv=>whnf); first | exact trivial | exact rfl | refine And.intro ?_ ?_ | omega))
  conv=>whnf
  repeat' (first | exact trivial | exact rfl | refine And.intro ?_ ?_ | ((conv=>whnf); first | exact trivial | exact rfl | refine And.intro ?_ ?_ | omega))

theorem sortJBal_t (xs : List Bal) (hx : xs.length ≤ 1000000) : Triple Tryz.prog 232 [.c (.s 0 0 xs.length 6), .c (.f 186 [1])] [(0, true, .arr (aBal xs)), (1, false, .cells [.f 125 []])] 2 (.tup []) [(0, true, .arr (aBal (pdqL (fun x y : Bal => cmpI x.id y.id) xs)))] :=
  sortF_of (n := 6) (f := balL) (cf := (fun x y : Bal => cmpI x.id y.id)) (HC := [(1, false, .cells [.f 125 []])]) (np := 2) (fun _ => rfl) (swo_id (cmp_id Bal.id)) [1] xs (by decide) hx Tryz.call232
    (fun cb blk off cap d w hcmp hH hblk hsz => AnyQ.slices_SortFunc_eq Tryz.laysSlF06_f232 6 (by intro w; kernel_rfl) (by intro w; kernel_rfl) (encV balL) (fun _ => rfl) (encI_one _) (fun x y : Bal => cmpI x.id y.id) (swo_id (cmp_id Bal.id)) 186 cb blk off cap d w Tryz.call186 hcmp hH hblk hsz)
    (fun p cap fv w => AnyF.slices_SortFunc_none Tryz.laysSlF06_f232 p cap fv w) joinCmpBal_t (fun p hp => by simp only [List.mem_singleton] at hp; subst hp; exact ⟨rfl, by decide⟩)
theorem joinCmpChk_t (x y : Chk) : Triple Tryz.prog 189 [svChk x, svChk y, .c (.p 1 0 0 0)] [(1, false, .cells [.f 95 []])] 2 (iv .i64 (cmpI x.id y.id)) [] := by
  refine triple_of tY_ok Tryz.func189 rfl Tryz.call189 rfl ?_
  intro ρ w hH
  conv=>whnf
  refine call_step (checkID_t x) rfl rfl ?_
  conv=>whnf
  refine ⟨?_, ?_, ?_⟩
  iterate 2 · repeat' (first | exact trivial | exact rfl | refine And.intro ?_ ?_ | ((conv=>whnf); first | exact trivial | exact rfl | refine And.intro ?_ ?_ | omega))
  conv=>whnf
  refine call_step (checkID_t y) rfl rfl ?_
  conv=>whnf
  refine ⟨?_, ?_, ?_⟩
  iterate 2 · repeat' (first | exact trivial | exact rfl | refine And.intro ?_ ?_ | ((conv=>whnf); first | exact trivial | exact rfl | refine And.intro ?_ ?_ | omega))
  conv=>whnf
  refine call_step (compare_t x.id y.id) rfl rfl ?_
  conv=>whnf
  refine ⟨?_, ?_, ?_⟩
  iterate 2 · repeat' (first | exact trivial | exact rfl | refine And.intro ?_ ?_ | ((conv=>whnf); first | exact trivial | exact rfl | refine And.intro ?_ ?_ | omega))
  conv=>whnf
  repeat' (first | exact trivial | exact rfl | refine And.intro ?_ ?_ | ((conv=>whnf); first | exact trivial | exact rfl | refine And.intro ?_ ?_ | omega))

theorem sortJChk_t (xs : List Chk) (hx : xs.length ≤ 1000000) : Triple Tryz.prog 217 [.c (.s 0 0 xs.length 5), .c (.f 189 [1])] [(0, true, .arr (aChk xs)), (1, false, .cells [.f 95 []])] 2 (.tup []) [(0, true, .arr (aChk (pdqL (fun x y : Chk => cmpI x.id y.id) xs)))] :=
  sortF_of (n := 5) (f := chkL) (cf := (fun x y : Chk => cmpI x.id y.id)) (HC := [(1, false, .cells [.f 95 []])]) (np := 2) (fun _ => rfl) (swo_id (cmp_id Chk.id)) [1] xs (by decide) hx Tryz.call217
    (fun cb blk off cap d w hcmp hH hblk hsz => AnyQ.slices_SortFunc_eq Tryz.laysSlF06_f217 5 (by intro w; kernel_rfl) (by intro w; kernel_rfl) (encV chkL) (fun _ => rfl) (encI_one _) (fun x y : Chk => cmpI x.id y.id) (swo_id (cmp_id Chk.id)) 189 cb blk off cap d w Tryz.call189 hcmp hH hblk hsz)
    (fun p cap fv w => AnyF.slices_SortFunc_none Tryz.laysSlF06_f217 p cap fv w) joinCmpChk_t (fun p hp => by simp only [List.mem_singleton] at hp; subst hp; exact ⟨rfl, by decide⟩)
theorem joinCmpNtc_t (x y : Ntc) : Triple Tryz.prog 192 [svNtc x, svNtc y, .c (.p 1 0 0 0)] [(1, false, .cells [.f 99 []])] 2 (iv .i64 (cmpI x.id y.id)) [] := by
  refine triple_of tY_ok Tryz.func192 rfl Tryz.call192 rfl ?_
  intro ρ w hH
  conv=>whnf
  refine call_step (noticeID_t x) rfl rfl ?_
  conv=>whnf
  refine ⟨?_, ?_, ?_⟩
  iterate 2 · repeat' (first | exact trivial | exact rfl | refine And.intro ?_ ?_ | ((conv=>whnf); first | exact trivial | exact rfl | refine And.intro ?_ ?_ | omega))
  conv=>whnf
  refine call_step (noticeID_t y) rfl rfl ?_
  conv=>whnf
  refine ⟨?_, ?_, ?_⟩
  iterate 2 · repeat' (first | exact trivial | exact rfl | refine And.intro ?_ ?_ | ((conv=>whnf); first | exact trivial | exact rfl | refine And.intro ?_ ?_ | omega))
  conv=>whnf
  refine call_step (compare_t x.id y.id) rfl rfl ?_
  conv=>whnf
  refine ⟨?_, ?_, ?_⟩
  iterate 2 · repeat' (first | exact trivial | exact rfl | refine And.intro ?_ ?_ | ((conv=>whnf); first | exact trivial | exact rfl | refine And.intro ?_ ?_ | omega))
  conv=>whnf
  repeat' (first | exact trivial | exact rfl | refine And.intro ?_ ?_ | ((conv=>whnf); first | exact trivial | exact rfl | refine And.intro ?_ ?_ | omega))

theorem sortJNtc_t (xs : List Ntc) (hx : xs.length ≤ 1000000) : Triple Tryz.prog 230 [.c (.s 0 0 xs.length 6), .c (.f 192 [1])] [(0, true, .arr (aNtc xs)), (1, false, .cells [.f 99 []])] 2 (.tup []) [(0, true, .arr (aNtc (pdqL (fun x y : Ntc => cmpI x.id y.id) xs)))] :=
  sortF_of (n := 6) (f := ntcL) (cf := (fun x y : Ntc => cmpI x.id y.id)) (HC := [(1, false, .cells [.f 99 []])]) (np := 2) (fun _ => rfl) (swo_id (cmp_id Ntc.id)) [1] xs (by decide) hx Tryz.call230
    (fun cb blk off cap d w hcmp hH hblk hsz => AnyQ.slices_SortFunc_eq Tryz.laysSlF06_f230 6 (by intro w; kernel_rfl) (by intro w; kernel_rfl) (encV ntcL) (fun _ => rfl) (encI_one _) (fun x y : Ntc => cmpI x.id y.id) (swo_id (cmp_id Ntc.id)) 192 cb blk off cap d w Tryz.call192 hcmp hH hblk hsz)
    (fun p cap fv w => AnyF.slices_SortFunc_none Tryz.laysSlF06_f230 p cap fv w) joinCmpNtc_t (fun p hp => by simp only [List.mem_singleton] at hp; subst hp; exact ⟨rfl, by decide⟩)
theorem joinCmpWgh_t (x y : Wgh) : Triple Tryz.prog 195 [svWgh x, svWgh y, .c (.p 1 0 0 0)] [(1, false, .cells [.f 103 []])] 2 (iv .i64 (cmpI x.id y.id)) [] := by
  refine triple_of tY_ok Tryz.func195 rfl Tryz.call195 rfl ?_
  intro ρ w hH
  conv=>whnf
  refine call_step (weighingID_t x) rfl rfl ?_
  conv=>whnf
  refine ⟨?_, ?_, ?_⟩
  iterate 2 · repeat' (first | exact trivial | exact rfl | refine And.intro ?_ ?_ | ((conv=>whnf); first | exact trivial | exact rfl | refine And.intro ?_ ?_ | omega))
  conv=>whnf
  refine call_step (weighingID_t y) rfl rfl ?_
  conv=>whnf
  refine ⟨?_, ?_, ?_⟩
  iterate 2 · repeat' (first | exact trivial | exact rfl | refine And.intro ?_ ?_ | ((conv=>whnf); first | exact trivial | exact rfl | refine And.intro ?_ ?_ | omega))
  conv=>whnf
  refine call_step (compare_t x.id y.id) rfl rfl ?_
  conv=>whnf
  refine ⟨?_, ?_, ?_⟩
  iterate 2 · repeat' (first | exact trivial | exact rfl | refine And.intro ?_ ?_ | ((conv=>whnf); first | exact trivial | exact rfl | refine And.intro ?_ ?_ | omega))
  conv=>whnf
  repeat' (first | exact trivial | exact rfl | refine And.intro ?_ ?_ | ((conv=>whnf); first | exact trivial | exact rfl | refine And.intro ?_ ?_ | omega))

theorem sortJWgh_t (xs : List Wgh) (hx : xs.length ≤ 1000000) : Triple Tryz.prog 213 [.c (.s 0 0 xs.length 8), .c (.f 195 [1])] [(0, true, .arr (aWgh xs)), (1, false, .cells [.f 103 []])] 2 (.tup []) [(0, true, .arr (aWgh (pdqL (fun x y : Wgh => cmpI x.id y.id) xs)))] :=
  sortF_of (n := 8) (f := wghL) (cf := (fun x y : Wgh => cmpI x.id y.id)) (HC := [(1, false, .cells [.f 103 []])]) (np := 2) (fun _ => rfl) (swo_id (cmp_id Wgh.id)) [1] xs (by decide) hx Tryz.call213
    (fun cb blk off cap d w hcmp hH hblk hsz => AnyQ.slices_SortFunc_eq Tryz.laysSlF06_f213 8 (by intro w; kernel_rfl) (by intro w; kernel_rfl) (encV wghL) (fun _ => rfl) (encI_one _) (fun x y : Wgh => cmpI x.id y.id) (swo_id (cmp_id Wgh.id)) 195 cb blk off cap d w Tryz.call195 hcmp hH hblk hsz)
    (fun p cap fv w => AnyF.slices_SortFunc_none Tryz.laysSlF06_f213 p cap fv w) joinCmpWgh_t (fun p hp => by simp only [List.mem_singleton] at hp; subst hp; exact ⟨rfl, by decide⟩)

end Go.Proofs

namespace Go.Proofs
open Go.Sx

def joinL {α : Type} [DecidableEq α] (key : α → Int) (a b : List α) : List α × Bool := if JoinOK key a b then (unionK key a b, true) else ([], false)

theorem distinctJBal_t (xs : List Bal) (hx : xs.length ≤ 1000000) : Triple Tryz.prog 184 [.c (.s 0 0 xs.length 6), .c (.f 186 [1])] [(0, true, .arr (aBal xs)), (1, false, .cells [.f 125 []])] 2
    (.c (.s 0 0 (compS (pdqL (fun x y : Bal => cmpI x.id y.id) xs)).length 6)) [(0, true, .arr (aBal (compS (pdqL (fun x y : Bal => cmpI x.id y.id) xs))))] := by
  have hl := pdqL_len (swo_id (cmp_id Bal.id)) xs
  have hS := sortJBal_t xs hx
  have hl : (pdqL (fun x y : Bal => cmpI x.id y.id) xs).length = xs.length := hl
  generalize pdqL (fun x y : Bal => cmpI x.id y.id) xs = ys at *
  refine triple_of tB_ok Tryz.func184 rfl Tryz.call184 rfl ?_
  intro ρ w hH
  conv=>whnf
  refine call_step hS rfl rfl ?_
  conv=>whnf
  refine ⟨?_, ?_, ?_⟩
  iterate 2 · repeat' (first | exact trivial | exact rfl | refine And.intro ?_ ?_ | ((conv=>whnf); first | exact trivial | exact rfl | refine And.intro ?_ ?_ | omega))
  conv=>whnf
  have hC := compactBal_t ys (by omega)
  rw [hl] at hC
  refine call_step hC rfl rfl ?_
  conv=>whnf
  refine ⟨?_, ?_, ?_⟩
  iterate 2 · repeat' (first | exact trivial | exact rfl | refine And.intro ?_ ?_ | ((conv=>whnf); first | exact trivial | exact rfl | refine And.intro ?_ ?_ | omega))
  conv=>whnf
  repeat' (first | exact trivial | exact rfl | refine And.intro ?_ ?_ | ((conv=>whnf); first | exact trivial | exact rfl | refine And.intro ?_ ?_ | omega))

set_option maxHeartbeats 1000000 in
theorem joinedBal_t (xs ys : List Bal) (h1 : xs.length ≤ 100000) (h2 : ys.length ≤ 100000) (hd1 : (xs.map Bal.id).Nodup) (hd2 : (ys.map Bal.id).Nodup) : Triple Tryz.prog 124 [.c (.s 0 0 xs.length 6), .c (.s 1 0 ys.length 6), .c (.f 125 [])] [(0, false, .arr (aBal xs)), (1, false, .arr (aBal ys))] 2
    (.tup [.inl (.s 2 0 (joinL Bal.id xs ys).1.length 6), .inl (.v (.bool (joinL Bal.id xs ys).2))]) [(2, true, .arr (aBal (joinL Bal.id xs ys).1))] := by
  have hC := concatCBal_t xs ys h1 h2
  have hD := distinctJBal_t (xs ++ ys) (by rw [List.length_append]; omega)
  have hp := pdqL_perm (swo_id (cmp_id Bal.id)) (xs ++ ys)
  have hle := pdqL_le (cmp_id Bal.id) (xs ++ ys)
  have hl := pdqL_len (swo_id (cmp_id Bal.id)) (xs ++ ys)
  have hj := join_iff hp hle
  have hu := fun h => join_union hd1 hd2 hp hle h
  have hcl : (compS (pdqL (fun x y : Bal => cmpI x.id y.id) (xs ++ ys))).length ≤ 200000 := by
    have := compS_len (l := pdqL (fun x y : Bal => cmpI x.id y.id) (xs ++ ys))
    have hl : (pdqL (fun x y : Bal => cmpI x.id y.id) (xs ++ ys)).length = (xs ++ ys).length := hl
    rw [List.length_append] at hl
    omega
  have e : joinL Bal.id xs ys = if JoinOK Bal.id xs ys then (unionK Bal.id xs ys, true) else ([], false) := rfl
  generalize joinL Bal.id xs ys = R at *
  have hj : Apart Bal.id (compS (pdqL (fun x y : Bal => cmpI x.id y.id) (xs ++ ys))) ↔ JoinOK Bal.id xs ys := hj
  have hu : JoinOK Bal.id xs ys → compS (pdqL (fun x y : Bal => cmpI x.id y.id) (xs ++ ys)) = unionK Bal.id xs ys := hu
  clear hp hle hl
  generalize compS (pdqL (fun x y : Bal => cmpI x.id y.id) (xs ++ ys)) = L at *
  refine triple_of tY_ok Tryz.func124 rfl Tryz.call124 rfl ?_
  intro ρ w hH
  conv=>whnf
  refine bsN_step tY_ok ((aRows 1 [1, 2] [[.s 1 0 xs.length 6], [.s 2 0 ys.length 6]]).ren (rnf [(2, 1), (1, 0), (0, 3)])) rfl ?_
  conv=>whnf
  refine ⟨(by repeat' (first | exact trivial | exact rfl | refine And.intro ?_ ?_ | ((conv=>whnf); first | exact trivial | exact rfl | refine And.intro ?_ ?_ | omega))), ?_⟩
  conv=>whnf
  refine call_step hC rfl rfl ?_
  conv=>whnf
  refine ⟨?_, ?_, ?_⟩
  iterate 2 · repeat' (first | exact trivial | exact rfl | refine And.intro ?_ ?_ | ((conv=>whnf); first | exact trivial | exact rfl | refine And.intro ?_ ?_ | omega))
  conv=>whnf
  refine call_step hD rfl rfl ?_
  conv=>whnf
  refine ⟨?_, ?_, ?_⟩
  iterate 2 · repeat' (first | exact trivial | exact rfl | refine And.intro ?_ ?_ | ((conv=>whnf); first | exact trivial | exact rfl | refine And.intro ?_ ?_ | omega))
  conv=>whnf
  refine loop_step tY_ok (G := Nat) 0 [] (fun i => [(18, iv .i64 i)]) (fun _ => []) (fun i => i ≤ L.length ∧ ∀ (j : Nat) (x y : Bal), j + 1 < i → L[j]? = some x → L[j + 1]? = some y → x.id ≠ y.id) (fun i => L.length - i) ?_
  conv=>whnf
  refine ⟨⟨0, ⟨Nat.zero_le _, fun j x y hj => absurd hj (by omega)⟩, ?_⟩, ?_⟩
  · conv=>whnf
    repeat' (first | exact trivial | exact rfl | refine And.intro ?_ ?_ | ((conv=>whnf); first | exact trivial | exact rfl | refine And.intro ?_ ?_ | omega))
  rintro i ⟨hi, hn⟩ ρ1 t1 hρ1
  conv=>whnf
  refine ⟨fun hc => ?_, fun hc => ?_⟩
  · have hlt : i < L.length := by simpa using hc
    conv=>whnf
    by_cases hi0 : i = 0
    · subst hi0
      refine ⟨fun g3 => absurd (show decide (((0 : Nat) : Int) > 0) = true from g3) (by decide), fun g3 => ?_⟩
      conv=>whnf
      refine ⟨_, wrapId ⟨by omega, by omega⟩, ?_⟩
      refine ⟨1, ⟨hlt, fun j x y hj => absurd hj (by omega)⟩, by show L.length - 1 < L.length - 0; omega, ?_⟩
      conv=>whnf
      refine ⟨rfl, ?_⟩
      conv=>whnf
      repeat' (first | exact trivial | exact rfl | refine And.intro ?_ ?_ | ((conv=>whnf); first | exact trivial | exact rfl | refine And.intro ?_ ?_ | omega))
    obtain ⟨j, rfl⟩ : ∃ j, i = j + 1 := ⟨i - 1, by omega⟩
    have hjl : j < L.length := by omega
    have hj1 : IntKind.i64.wrap (((j + 1 : Nat) : Int) - 1) = (j : Int) := by
      have e : ((j + 1 : Nat) : Int) - 1 = (j : Nat) := by omega
      rw [e]; exact wrapId (z := (j : Int)) ⟨by omega, by omega⟩
    refine ⟨fun g3 => ?_, fun g3 => absurd (of_decide_eq_false (show decide ((((j + 1 : Nat) : Int)) > 0) = false from g3)) (by omega)⟩
    conv=>whnf
    refine ⟨(j : Nat), hj1, ?_⟩
    conv=>whnf
    refine ⟨j, rfl, hjl, hjl, ?_⟩
    conv=>whnf
    refine call_step (balID_t L[j]) rfl rfl ?_
    conv=>whnf
    refine ⟨?_, ?_, ?_⟩
    iterate 2 · repeat' (first | exact trivial | exact rfl | refine And.intro ?_ ?_ | ((conv=>whnf); first | exact trivial | exact rfl | refine And.intro ?_ ?_ | omega))
    conv=>whnf
    refine ⟨j + 1, rfl, hlt, hlt, ?_⟩
    conv=>whnf
    refine call_step (balID_t L[j + 1]) rfl rfl ?_
    conv=>whnf
    refine ⟨?_, ?_, ?_⟩
    iterate 2 · repeat' (first | exact trivial | exact rfl | refine And.intro ?_ ?_ | ((conv=>whnf); first | exact trivial | exact rfl | refine And.intro ?_ ?_ | omega))
    conv=>whnf
    refine ⟨fun hc2 => ?_, fun hc2 => ?_⟩
    · have h3 : L[j].id = L[j + 1].id := by simpa using (show (L[j].id == L[j + 1].id) = true from hc2)
      rw [if_neg (fun h => hj.2 h j L[j] L[j + 1] (List.getElem?_eq_getElem hjl) (List.getElem?_eq_getElem hlt) h3)] at e
      subst e
      conv=>whnf
      repeat' (first | exact trivial | exact rfl | refine And.intro ?_ ?_ | ((conv=>whnf); first | exact trivial | exact rfl | refine And.intro ?_ ?_ | omega))
    · have h3 : ¬ L[j].id = L[j + 1].id := by simpa using (show (L[j].id == L[j + 1].id) = false from hc2)
      have hn' : ∀ (q : Nat) (x y : Bal), q + 1 < j + 1 + 1 → L[q]? = some x → L[q + 1]? = some y → x.id ≠ y.id := by
        intro q x y hq hx hy
        by_cases hqj : q = j
        · rw [hqj] at hx hy
          rw [List.getElem?_eq_getElem hjl] at hx
          rw [List.getElem?_eq_getElem hlt] at hy
          cases hx
          cases hy
          exact h3
        · exact hn q x y (by omega) hx hy
      conv=>whnf
      refine ⟨((j + 1 + 1 : Nat) : Int), (congrArg IntKind.i64.wrap (show ((j + 1 : Nat) : Int) + 1 = ((j + 1 + 1 : Nat) : Int) by omega)).trans (wrapId ⟨by omega, by omega⟩), ?_⟩
      refine ⟨j + 1 + 1, ⟨hlt, hn'⟩, by show L.length - (j + 1 + 1) < L.length - (j + 1); omega, ?_⟩
      conv=>whnf
      refine ⟨rfl, ?_⟩
      conv=>whnf
      repeat' (first | exact trivial | exact rfl | refine And.intro ?_ ?_ | ((conv=>whnf); first | exact trivial | exact rfl | refine And.intro ?_ ?_ | omega))
  · have hie : i = L.length := by simp at hc; omega
    subst hie
    have hA : JoinOK Bal.id xs ys := hj.1 (fun j x y hx hy => hn j x y (List.getElem?_eq_some_iff.1 hy).1 hx hy)
    rw [if_pos hA, ← hu hA] at e
    subst e
    conv=>whnf
    repeat' (first | exact trivial | exact rfl | refine And.intro ?_ ?_ | ((conv=>whnf); first | exact trivial | exact rfl | refine And.intro ?_ ?_ | omega))
theorem distinctJChk_t (xs : List Chk) (hx : xs.length ≤ 1000000) : Triple Tryz.prog 187 [.c (.s 0 0 xs.length 5), .c (.f 189 [1])] [(0, true, .arr (aChk xs)), (1, false, .cells [.f 95 []])] 2
    (.c (.s 0 0 (compS (pdqL (fun x y : Chk => cmpI x.id y.id) xs)).length 5)) [(0, true, .arr (aChk (compS (pdqL (fun x y : Chk => cmpI x.id y.id) xs))))] := by
  have hl := pdqL_len (swo_id (cmp_id Chk.id)) xs
  have hS := sortJChk_t xs hx
  have hl : (pdqL (fun x y : Chk => cmpI x.id y.id) xs).length = xs.length := hl
  generalize pdqL (fun x y : Chk => cmpI x.id y.id) xs = ys at *
  refine triple_of tB_ok Tryz.func187 rfl Tryz.call187 rfl ?_
  intro ρ w hH
  conv=>whnf
  refine call_step hS rfl rfl ?_
  conv=>whnf
  refine ⟨?_, ?_, ?_⟩
  iterate 2 · repeat' (first | exact trivial | exact rfl | refine And.intro ?_ ?_ | ((conv=>whnf); first | exact trivial | exact rfl | refine And.intro ?_ ?_ | omega))
  conv=>whnf
  have hC := compactChk_t ys (by omega)
  rw [hl] at hC
  refine call_step hC rfl rfl ?_
  conv=>whnf
  refine ⟨?_, ?_, ?_⟩
  iterate 2 · repeat' (first | exact trivial | exact rfl | refine And.intro ?_ ?_ | ((conv=>whnf); first | exact trivial | exact rfl | refine And.intro ?_ ?_ | omega))
  conv=>whnf
  repeat' (first | exact trivial | exact rfl | refine And.intro ?_ ?_ | ((conv=>whnf); first | exact trivial | exact rfl | refine And.intro ?_ ?_ | omega))

set_option maxHeartbeats 1000000 in
theorem joinedChk_t (xs ys : List Chk) (h1 : xs.length ≤ 100000) (h2 : ys.length ≤ 100000) (hd1 : (xs.map Chk.id).Nodup) (hd2 : (ys.map Chk.id).Nodup) : Triple Tryz.prog 126 [.c (.s 0 0 xs.length 5), .c (.s 1 0 ys.length 5), .c (.f 95 [])] [(0, false, .arr (aChk xs)), (1, false, .arr (aChk ys))] 2
    (.tup [.inl (.s 2 0 (joinL Chk.id xs ys).1.length 5), .inl (.v (.bool (joinL Chk.id xs ys).2))]) [(2, true, .arr (aChk (joinL Chk.id xs ys).1))] := by
  have hC := concatCChk_t xs ys h1 h2
  have hD := distinctJChk_t (xs ++ ys) (by rw [List.length_append]; omega)
  have hp := pdqL_perm (swo_id (cmp_id Chk.id)) (xs ++ ys)
  have hle := pdqL_le (cmp_id Chk.id) (xs ++ ys)
  have hl := pdqL_len (swo_id (cmp_id Chk.id)) (xs ++ ys)
  have hj := join_iff hp hle
  have hu := fun h => join_union hd1 hd2 hp hle h
  have hcl : (compS (pdqL (fun x y : Chk => cmpI x.id y.id) (xs ++ ys))).length ≤ 200000 := by
    have := compS_len (l := pdqL (fun x y : Chk => cmpI x.id y.id) (xs ++ ys))
    have hl : (pdqL (fun x y : Chk => cmpI x.id y.id) (xs ++ ys)).length = (xs ++ ys).length := hl
    rw [List.length_append] at hl
    omega
  have e : joinL Chk.id xs ys = if JoinOK Chk.id xs ys then (unionK Chk.id xs ys, true) else ([], false) := rfl
  generalize joinL Chk.id xs ys = R at *
  have hj : Apart Chk.id (compS (pdqL (fun x y : Chk => cmpI x.id y.id) (xs ++ ys))) ↔ JoinOK Chk.id xs ys := hj
  have hu : JoinOK Chk.id xs ys → compS (pdqL (fun x y : Chk => cmpI x.id y.id) (xs ++ ys)) = unionK Chk.id xs ys := hu
  clear hp hle hl
  generalize compS (pdqL (fun x y : Chk => cmpI x.id y.id) (xs ++ ys)) = L at *
  refine triple_of tY_ok Tryz.func126 rfl Tryz.call126 rfl ?_
  intro ρ w hH
  conv=>whnf
  refine bsN_step tY_ok ((aRows 1 [1, 2] [[.s 1 0 xs.length 5], [.s 2 0 ys.length 5]]).ren (rnf [(2, 1), (1, 0), (0, 3)])) rfl ?_
  conv=>whnf
  refine ⟨(by repeat' (first | exact trivial | exact rfl | refine And.intro ?_ ?_ | ((conv=>whnf); first | exact trivial | exact rfl | refine And.intro ?_ ?_ | omega))), ?_⟩
  conv=>whnf
  refine call_step hC rfl rfl ?_
  conv=>whnf
  refine ⟨?_, ?_, ?_⟩
  iterate 2 · repeat' (first | exact trivial | exact rfl | refine And.intro ?_ ?_ | ((conv=>whnf); first | exact trivial | exact rfl | refine And.intro ?_ ?_ | omega))
  conv=>whnf
  refine call_step hD rfl rfl ?_
  conv=>whnf
  refine ⟨?_, ?_, ?_⟩
  iterate 2 · repeat' (first | exact trivial | exact rfl | refine And.intro ?_ ?_ | ((conv=>whnf); first | exact trivial | exact rfl | refine And.intro ?_ ?_ | omega))
  conv=>whnf
  refine loop_step tY_ok (G := Nat) 0 [] (fun i => [(18, iv .i64 i)]) (fun _ => []) (fun i => i ≤ L.length ∧ ∀ (j : Nat) (x y : Chk), j + 1 < i → L[j]? = some x → L[j + 1]? = some y → x.id ≠ y.id) (fun i => L.length - i) ?_
  conv=>whnf
  refine ⟨⟨0, ⟨Nat.zero_le _, fun j x y hj => absurd hj (by omega)⟩, ?_⟩, ?_⟩
  · conv=>whnf
    repeat' (first | exact trivial | exact rfl | refine And.intro ?_ ?_ | ((conv=>whnf); first | exact trivial | exact rfl | refine And.intro ?_ ?_ | omega))
  rintro i ⟨hi, hn⟩ ρ1 t1 hρ1
  conv=>whnf
  refine ⟨fun hc => ?_, fun hc => ?_⟩
  · have hlt : i < L.length := by simpa using hc
    conv=>whnf
    by_cases hi0 : i = 0
    · subst hi0
      refine ⟨fun g3 => absurd (show decide (((0 : Nat) : Int) > 0) = true from g3) (by decide), fun g3 => ?_⟩
      conv=>whnf
      refine ⟨_, wrapId ⟨by omega, by omega⟩, ?_⟩
      refine ⟨1, ⟨hlt, fun j x y hj => absurd hj (by omega)⟩, by show L.length - 1 < L.length - 0; omega, ?_⟩
      conv=>whnf
      refine ⟨rfl, ?_⟩
      conv=>whnf
      repeat' (first | exact trivial | exact rfl | refine And.intro ?_ ?_ | ((conv=>whnf); first | exact trivial | exact rfl | refine And.intro ?_ ?_ | omega))
    obtain ⟨j, rfl⟩ : ∃ j, i = j + 1 := ⟨i - 1, by omega⟩
    have hjl : j < L.length := by omega
    have hj1 : IntKind.i64.wrap (((j + 1 : Nat) : Int) - 1) = (j : Int) := by
      have e : ((j + 1 : Nat) : Int) - 1 = (j : Nat) := by omega
      rw [e]; exact wrapId (z := (j : Int)) ⟨by omega, by omega⟩
    refine ⟨fun g3 => ?_, fun g3 => absurd (of_decide_eq_false (show decide ((((j + 1 : Nat) : Int)) > 0) = false from g3)) (by omega)⟩
    conv=>whnf
    refine ⟨(j : Nat), hj1, ?_⟩
    conv=>whnf
    refine ⟨j, rfl, hjl, hjl, ?_⟩
    conv=>whnf
    refine call_step (checkID_t L[j]) rfl rfl ?_
    conv=>whnf
    refine ⟨?_, ?_, ?_⟩
    iterate 2 · repeat' (first | exact trivial | exact rfl | refine And.intro ?_ ?_ | ((conv=>whnf); first | exact trivial | exact rfl | refine And.intro ?_ ?_ | omega))
    conv=>whnf
    refine ⟨j + 1, rfl, hlt, hlt, ?_⟩
    conv=>whnf
    refine call_step (checkID_t L[j + 1]) rfl rfl ?_
    conv=>whnf
    refine ⟨?_, ?_, ?_⟩
    iterate 2 · repeat' (first | exact trivial | exact rfl | refine And.intro ?_ ?_ | ((conv=>whnf); first | exact trivial | exact rfl | refine And.intro ?_ ?_ | omega))
    conv=>whnf
    refine ⟨fun hc2 => ?_, fun hc2 => ?_⟩
    · have h3 : L[j].id = L[j + 1].id := by simpa using (show (L[j].id == L[j + 1].id) = true from hc2)
      rw [if_neg (fun h => hj.2 h j L[j] L[j + 1] (List.getElem?_eq_getElem hjl) (List.getElem?_eq_getElem hlt) h3)] at e
      subst e
      conv=>whnf
      repeat' (first | exact trivial | exact rfl | refine And.intro ?_ ?_ | ((conv=>whnf); first | exact trivial | exact rfl | refine And.intro ?_ ?_ | omega))
    · have h3 : ¬ L[j].id = L[j + 1].id := by simpa using (show (L[j].id == L[j + 1].id) = false from hc2)
      have hn' : ∀ (q : Nat) (x y : Chk), q + 1 < j + 1 + 1 → L[q]? = some x → L[q + 1]? = some y → x.id ≠ y.id := by
        intro q x y hq hx hy
        by_cases hqj : q = j
        · rw [hqj] at hx hy
          rw [List.getElem?_eq_getElem hjl] at hx
          rw [List.getElem?_eq_getElem hlt] at hy
          cases hx
          cases hy
          exact h3
        · exact hn q x y (by omega) hx hy
      conv=>whnf
      refine ⟨((j + 1 + 1 : Nat) : Int), (congrArg IntKind.i64.wrap (show ((j + 1 : Nat) : Int) + 1 = ((j + 1 + 1 : Nat) : Int) by omega)).trans (wrapId ⟨by omega, by omega⟩), ?_⟩
      refine ⟨j + 1 + 1, ⟨hlt, hn'⟩, by show L.length - (j + 1 + 1) < L.length - (j + 1); omega, ?_⟩
      conv=>whnf
      refine ⟨rfl, ?_⟩
      conv=>whnf
      repeat' (first | exact trivial | exact rfl | refine And.intro ?_ ?_ | ((conv=>whnf); first | exact trivial | exact rfl | refine And.intro ?_ ?_ | omega))
  · have hie : i = L.length := by simp at hc; omega
    subst hie
    have hA : JoinOK Chk.id xs ys := hj.1 (fun j x y hx hy => hn j x y (List.getElem?_eq_some_iff.1 hy).1 hx hy)
    rw [if_pos hA, ← hu hA] at e
    subst e
    conv=>whnf
    repeat' (first | exact trivial | exact rfl | refine And.intro ?_ ?_ | ((conv=>whnf); first | exact trivial | exact rfl | refine And.intro ?_ ?_ | omega))
theorem distinctJNtc_t (xs : List Ntc) (hx : xs.length ≤ 1000000) : Triple Tryz.prog 190 [.c (.s 0 0 xs.length 6), .c (.f 192 [1])] [(0, true, .arr (aNtc xs)), (1, false, .cells [.f 99 []])] 2
    (.c (.s 0 0 (compS (pdqL (fun x y : Ntc => cmpI x.id y.id) xs)).length 6)) [(0, true, .arr (aNtc (compS (pdqL (fun x y : Ntc => cmpI x.id y.id) xs))))] := by
  have hl := pdqL_len (swo_id (cmp_id Ntc.id)) xs
  have hS := sortJNtc_t xs hx
  have hl : (pdqL (fun x y : Ntc => cmpI x.id y.id) xs).length = xs.length := hl
  generalize pdqL (fun x y : Ntc => cmpI x.id y.id) xs = ys at *
  refine triple_of tB_ok Tryz.func190 rfl Tryz.call190 rfl ?_
  intro ρ w hH
  conv=>whnf
  refine call_step hS rfl rfl ?_
  conv=>whnf
  refine ⟨?_, ?_, ?_⟩
  iterate 2 · repeat' (first | exact trivial | exact rfl | refine And.intro ?_ ?_ | ((conv=>whnf); first | exact trivial | exact rfl | refine And.intro ?_ ?_ | omega))
  conv=>whnf
  have hC := compactNtc_t ys (by omega)
  rw [hl] at hC
  refine call_step hC rfl rfl ?_
  conv=>whnf
  refine ⟨?_, ?_, ?_⟩
  iterate 2 · repeat' (first | exact trivial | exact rfl | refine And.intro ?_ ?_ | ((conv=>whnf); first | exact trivial | exact rfl | refine And.intro ?_ ?_ | omega))
  conv=>whnf
  repeat' (first | exact trivial | exact rfl | refine And.intro ?_ ?_ | ((conv=>whnf); first | exact trivial | exact rfl | refine And.intro ?_ ?_ | omega))

set_option maxHeartbeats 1000000 in
theorem joinedNtc_t (xs ys : List Ntc) (h1 : xs.length ≤ 100000) (h2 : ys.length ≤ 100000) (hd1 : (xs.map Ntc.id).Nodup) (hd2 : (ys.map Ntc.id).Nodup) : Triple Tryz.prog 127 [.c (.s 0 0 xs.length 6), .c (.s 1 0 ys.length 6), .c (.f 99 [])] [(0, false, .arr (aNtc xs)), (1, false, .arr (aNtc ys))] 2
    (.tup [.inl (.s 2 0 (joinL Ntc.id xs ys).1.length 6), .inl (.v (.bool (joinL Ntc.id xs ys).2))]) [(2, true, .arr (aNtc (joinL Ntc.id xs ys).1))] := by
  have hC := concatCNtc_t xs ys h1 h2
  have hD := distinctJNtc_t (xs ++ ys) (by rw [List.length_append]; omega)
  have hp := pdqL_perm (swo_id (cmp_id Ntc.id)) (xs ++ ys)
  have hle := pdqL_le (cmp_id Ntc.id) (xs ++ ys)
  have hl := pdqL_len (swo_id (cmp_id Ntc.id)) (xs ++ ys)
  have hj := join_iff hp hle
  have hu := fun h => join_union hd1 hd2 hp hle h
  have hcl : (compS (pdqL (fun x y : Ntc => cmpI x.id y.id) (xs ++ ys))).length ≤ 200000 := by
    have := compS_len (l := pdqL (fun x y : Ntc => cmpI x.id y.id) (xs ++ ys))
    have hl : (pdqL (fun x y : Ntc => cmpI x.id y.id) (xs ++ ys)).length = (xs ++ ys).length := hl
    rw [List.length_append] at hl
    omega
  have e : joinL Ntc.id xs ys = if JoinOK Ntc.id xs ys then (unionK Ntc.id xs ys, true) else ([], false) := rfl
  generalize joinL Ntc.id xs ys = R at *
  have hj : Apart Ntc.id (compS (pdqL (fun x y : Ntc => cmpI x.id y.id) (xs ++ ys))) ↔ JoinOK Ntc.id xs ys := hj
  have hu : JoinOK Ntc.id xs ys → compS (pdqL (fun x y : Ntc => cmpI x.id y.id) (xs ++ ys)) = unionK Ntc.id xs ys := hu
  clear hp hle hl
  generalize compS (pdqL (fun x y : Ntc => cmpI x.id y.id) (xs ++ ys)) = L at *
  refine triple_of tY_ok Tryz.func127 rfl Tryz.call127 rfl ?_
  intro ρ w hH
  conv=>whnf
  refine bsN_step tY_ok ((aRows 1 [1, 2] [[.s 1 0 xs.length 6], [.s 2 0 ys.length 6]]).ren (rnf [(2, 1), (1, 0), (0, 3)])) rfl ?_
  conv=>whnf
  refine ⟨(by repeat' (first | exact trivial | exact rfl | refine And.intro ?_ ?_ | ((conv=>whnf); first | exact trivial | exact rfl | refine And.intro ?_ ?_ | omega))), ?_⟩
  conv=>whnf
  refine call_step hC rfl rfl ?_
  conv=>whnf
  refine ⟨?_, ?_, ?_⟩
  iterate 2 · repeat' (first | exact trivial | exact rfl | refine And.intro ?_ ?_ | ((conv=>whnf); first | exact trivial | exact rfl | refine And.intro ?_ ?_ | omega))
  conv=>whnf
  refine call_step hD rfl rfl ?_
  conv=>whnf
  refine ⟨?_, ?_, ?_⟩
  iterate 2 · repeat' (first | exact trivial | exact rfl | refine And.intro ?_ ?_ | ((conv=>whnf); first | exact trivial | exact rfl | refine And.intro ?_ ?_ | omega))
  conv=>whnf
  refine loop_step tY_ok (G := Nat) 0 [] (fun i => [(18, iv .i64 i)]) (fun _ => []) (fun i => i ≤ L.length ∧ ∀ (j : Nat) (x y : Ntc), j + 1 < i → L[j]? = some x → L[j + 1]? = some y → x.id ≠ y.id) (fun i => L.length - i) ?_
  conv=>whnf
  refine ⟨⟨0, ⟨Nat.zero_le _, fun j x y hj => absurd hj (by omega)⟩, ?_⟩, ?_⟩
  · conv=>whnf
    repeat' (first | exact trivial | exact rfl | refine And.intro ?_ ?_ | ((conv=>whnf); first | exact trivial | exact rfl | refine And.intro ?_ ?_ | omega))
  rintro i ⟨hi, hn⟩ ρ1 t1 hρ1
  conv=>whnf
  refine ⟨fun hc => ?_, fun hc => ?_⟩
  · have hlt : i < L.length := by simpa using hc
    conv=>whnf
    by_cases hi0 : i = 0
    · subst hi0
      refine ⟨fun g3 => absurd (show decide (((0 : Nat) : Int) > 0) = true from g3) (by decide), fun g3 => ?_⟩
      conv=>whnf
      refine ⟨_, wrapId ⟨by omega, by omega⟩, ?_⟩
      refine ⟨1, ⟨hlt, fun j x y hj => absurd hj (by omega)⟩, by show L.length - 1 < L.length - 0; omega, ?_⟩
      conv=>whnf
      refine ⟨rfl, ?_⟩
      conv=>whnf
      repeat' (first | exact trivial | exact rfl | refine And.intro ?_ ?_ | ((conv=>whnf); first | exact trivial | exact rfl | refine And.intro ?_ ?_ | omega))
    obtain ⟨j, rfl⟩ : ∃ j, i = j + 1 := ⟨i - 1, by omega⟩
    have hjl : j < L.length := by omega
    have hj1 : IntKind.i64.wrap (((j + 1 : Nat) : Int) - 1) = (j : Int) := by
      have e : ((j + 1 : Nat) : Int) - 1 = (j : Nat) := by omega
      rw [e]; exact wrapId (z := (j : Int)) ⟨by omega, by omega⟩
    refine ⟨fun g3 => ?_, fun g3 => absurd (of_decide_eq_false (show decide ((((j + 1 : Nat) : Int)) > 0) = false from g3)) (by omega)⟩
    conv=>whnf
    refine ⟨(j : Nat), hj1, ?_⟩
    conv=>whnf
    refine ⟨j, rfl, hjl, hjl, ?_⟩
    conv=>whnf
    refine call_step (noticeID_t L[j]) rfl rfl ?_
    conv=>whnf
    refine ⟨?_, ?_, ?_⟩
    iterate 2 · repeat' (first | exact trivial | exact rfl | refine And.intro ?_ ?_ | ((conv=>whnf); first | exact trivial | exact rfl | refine And.intro ?_ ?_ | omega))
    conv=>whnf
    refine ⟨j + 1, rfl, hlt, hlt, ?_⟩
    conv=>whnf
    refine call_step (noticeID_t L[j + 1]) rfl rfl ?_
    conv=>whnf
    refine ⟨?_, ?_, ?_⟩
    iterate 2 · repeat' (first | exact trivial | exact rfl | refine And.intro ?_ ?_ | ((conv=>whnf); first | exact trivial | exact rfl | refine And.intro ?_ ?_ | omega))
    conv=>whnf
    refine ⟨fun hc2 => ?_, fun hc2 => ?_⟩
    · have h3 : L[j].id = L[j + 1].id := by simpa using (show (L[j].id == L[j + 1].id) = true from hc2)
      rw [if_neg (fun h => hj.2 h j L[j] L[j + 1] (List.getElem?_eq_getElem hjl) (List.getElem?_eq_getElem hlt) h3)] at e
      subst e
      conv=>whnf
      repeat' (first | exact trivial | exact rfl | refine And.intro ?_ ?_ | ((conv=>whnf); first | exact trivial | exact rfl | refine And.intro ?_ ?_ | omega))
    · have h3 : ¬ L[j].id = L[j + 1].id := by simpa using (show (L[j].id == L[j + 1].id) = false from hc2)
      have hn' : ∀ (q : Nat) (x y : Ntc), q + 1 < j + 1 + 1 → L[q]? = some x → L[q + 1]? = some y → x.id ≠ y.id := by
        intro q x y hq hx hy
        by_cases hqj : q = j
        · rw [hqj] at hx hy
          rw [List.getElem?_eq_getElem hjl] at hx
          rw [List.getElem?_eq_getElem hlt] at hy
          cases hx
          cases hy
          exact h3
        · exact hn q x y (by omega) hx hy
      conv=>whnf
      refine ⟨((j + 1 + 1 : Nat) : Int), (congrArg IntKind.i64.wrap (show ((j + 1 : Nat) : Int) + 1 = ((j + 1 + 1 : Nat) : Int) by omega)).trans (wrapId ⟨by omega, by omega⟩), ?_⟩
      refine ⟨j + 1 + 1, ⟨hlt, hn'⟩, by show L.length - (j + 1 + 1) < L.length - (j + 1); omega, ?_⟩
      conv=>whnf
      refine ⟨rfl, ?_⟩
      conv=>whnf
      repeat' (first | exact trivial | exact rfl | refine And.intro ?_ ?_ | ((conv=>whnf); first | exact trivial | exact rfl | refine And.intro ?_ ?_ | omega))
  · have hie : i = L.length := by simp at hc; omega
    subst hie
    have hA : JoinOK Ntc.id xs ys := hj.1 (fun j x y hx hy => hn j x y (List.getElem?_eq_some_iff.1 hy).1 hx hy)
    rw [if_pos hA, ← hu hA] at e
    subst e
    conv=>whnf
    repeat' (first | exact trivial | exact rfl | refine And.intro ?_ ?_ | ((conv=>whnf); first | exact trivial | exact rfl | refine And.intro ?_ ?_ | omega))
theorem distinctJWgh_t (xs : List Wgh) (hx : xs.length ≤ 1000000) : Triple Tryz.prog 193 [.c (.s 0 0 xs.length 8), .c (.f 195 [1])] [(0, true, .arr (aWgh xs)), (1, false, .cells [.f 103 []])] 2
    (.c (.s 0 0 (compS (pdqL (fun x y : Wgh => cmpI x.id y.id) xs)).length 8)) [(0, true, .arr (aWgh (compS (pdqL (fun x y : Wgh => cmpI x.id y.id) xs))))] := by
  have hl := pdqL_len (swo_id (cmp_id Wgh.id)) xs
  have hS := sortJWgh_t xs hx
  have hl : (pdqL (fun x y : Wgh => cmpI x.id y.id) xs).length = xs.length := hl
  generalize pdqL (fun x y : Wgh => cmpI x.id y.id) xs = ys at *
  refine triple_of tB_ok Tryz.func193 rfl Tryz.call193 rfl ?_
  intro ρ w hH
  conv=>whnf
  refine call_step hS rfl rfl ?_
  conv=>whnf
  refine ⟨?_, ?_, ?_⟩
  iterate 2 · repeat' (first | exact trivial | exact rfl | refine And.intro ?_ ?_ | ((conv=>whnf); first | exact trivial | exact rfl | refine And.intro ?_ ?_ | omega))
  conv=>whnf
  have hC := compactWgh_t ys (by omega)
  rw [hl] at hC
  refine call_step hC rfl rfl ?_
  conv=>whnf
  refine ⟨?_, ?_, ?_⟩
  iterate 2 · repeat' (first | exact trivial | exact rfl | refine And.intro ?_ ?_ | ((conv=>whnf); first | exact trivial | exact rfl | refine And.intro ?_ ?_ | omega))
  conv=>whnf
  repeat' (first | exact trivial | exact rfl | refine And.intro ?_ ?_ | ((conv=>whnf); first | exact trivial | exact rfl | refine And.intro ?_ ?_ | omega))

set_option maxHeartbeats 1000000 in
theorem joinedWgh_t (xs ys : List Wgh) (h1 : xs.length ≤ 100000) (h2 : ys.length ≤ 100000) (hd1 : (xs.map Wgh.id).Nodup) (hd2 : (ys.map Wgh.id).Nodup) : Triple Tryz.prog 128 [.c (.s 0 0 xs.length 8), .c (.s 1 0 ys.length 8), .c (.f 103 [])] [(0, false, .arr (aWgh xs)), (1, false, .arr (aWgh ys))] 2
    (.tup [.inl (.s 2 0 (joinL Wgh.id xs ys).1.length 8), .inl (.v (.bool (joinL Wgh.id xs ys).2))]) [(2, true, .arr (aWgh (joinL Wgh.id xs ys).1))] := by
  have hC := concatCWgh_t xs ys h1 h2
  have hD := distinctJWgh_t (xs ++ ys) (by rw [List.length_append]; omega)
  have hp := pdqL_perm (swo_id (cmp_id Wgh.id)) (xs ++ ys)
  have hle := pdqL_le (cmp_id Wgh.id) (xs ++ ys)
  have hl := pdqL_len (swo_id (cmp_id Wgh.id)) (xs ++ ys)
  have hj := join_iff hp hle
  have hu := fun h => join_union hd1 hd2 hp hle h
  have hcl : (compS (pdqL (fun x y : Wgh => cmpI x.id y.id) (xs ++ ys))).length ≤ 200000 := by
    have := compS_len (l := pdqL (fun x y : Wgh => cmpI x.id y.id) (xs ++ ys))
    have hl : (pdqL (fun x y : Wgh => cmpI x.id y.id) (xs ++ ys)).length = (xs ++ ys).length := hl
    rw [List.length_append] at hl
    omega
  have e : joinL Wgh.id xs ys = if JoinOK Wgh.id xs ys then (unionK Wgh.id xs ys, true) else ([], false) := rfl
  generalize joinL Wgh.id xs ys = R at *
  have hj : Apart Wgh.id (compS (pdqL (fun x y : Wgh => cmpI x.id y.id) (xs ++ ys))) ↔ JoinOK Wgh.id xs ys := hj
  have hu : JoinOK Wgh.id xs ys → compS (pdqL (fun x y : Wgh => cmpI x.id y.id) (xs ++ ys)) = unionK Wgh.id xs ys := hu
  clear hp hle hl
  generalize compS (pdqL (fun x y : Wgh => cmpI x.id y.id) (xs ++ ys)) = L at *
  refine triple_of tY_ok Tryz.func128 rfl Tryz.call128 rfl ?_
  intro ρ w hH
  conv=>whnf
  refine bsN_step tY_ok ((aRows 1 [1, 2] [[.s 1 0 xs.length 8], [.s 2 0 ys.length 8]]).ren (rnf [(2, 1), (1, 0), (0, 3)])) rfl ?_
  conv=>whnf
  refine ⟨(by repeat' (first | exact trivial | exact rfl | refine And.intro ?_ ?_ | ((conv=>whnf); first | exact trivial | exact rfl | refine And.intro ?_ ?_ | omega))), ?_⟩
  conv=>whnf
  refine call_step hC rfl rfl ?_
  conv=>whnf
  refine ⟨?_, ?_, ?_⟩
  iterate 2 · repeat' (first | exact trivial | exact rfl | refine And.intro ?_ ?_ | ((conv=>whnf); first | exact trivial | exact rfl | refine And.intro ?_ ?_ | omega))
  conv=>whnf
  refine call_step hD rfl rfl ?_
  conv=>whnf
  refine ⟨?_, ?_, ?_⟩
  iterate 2 · repeat' (first | exact trivial | exact rfl | refine And.intro ?_ ?_ | ((conv=>whnf); first | exact trivial | exact rfl | refine And.intro ?_ ?_ | omega))
  conv=>whnf
  refine loop_step tY_ok (G := Nat) 0 [] (fun i => [(18, iv .i64 i)]) (fun _ => []) (fun i => i ≤ L.length ∧ ∀ (j : Nat) (x y : Wgh), j + 1 < i → L[j]? = some x → L[j + 1]? = some y → x.id ≠ y.id) (fun i => L.length - i) ?_
  conv=>whnf
  refine ⟨⟨0, ⟨Nat.zero_le _, fun j x y hj => absurd hj (by omega)⟩, ?_⟩, ?_⟩
  · conv=>whnf
    repeat' (first | exact trivial | exact rfl | refine And.intro ?_ ?_ | ((conv=>whnf); first | exact trivial | exact rfl | refine And.intro ?_ ?_ | omega))
  rintro i ⟨hi, hn⟩ ρ1 t1 hρ1
  conv=>whnf
  refine ⟨fun hc => ?_, fun hc => ?_⟩
  · have hlt : i < L.length := by simpa using hc
    conv=>whnf
    by_cases hi0 : i = 0
    · subst hi0
      refine ⟨fun g3 => absurd (show decide (((0 : Nat) : Int) > 0) = true from g3) (by decide), fun g3 => ?_⟩
      conv=>whnf
      refine ⟨_, wrapId ⟨by omega, by omega⟩, ?_⟩
      refine ⟨1, ⟨hlt, fun j x y hj => absurd hj (by omega)⟩, by show L.length - 1 < L.length - 0; omega, ?_⟩
      conv=>whnf
      refine ⟨rfl, ?_⟩
      conv=>whnf
      repeat' (first | exact trivial | exact rfl | refine And.intro ?_ ?_ | ((conv=>whnf); first | exact trivial | exact rfl | refine And.intro ?_ ?_ | omega))
    obtain ⟨j, rfl⟩ : ∃ j, i = j + 1 := ⟨i - 1, by omega⟩
    have hjl : j < L.length := by omega
    have hj1 : IntKind.i64.wrap (((j + 1 : Nat) : Int) - 1) = (j : Int) := by
      have e : ((j + 1 : Nat) : Int) - 1 = (j : Nat) := by omega
      rw [e]; exact wrapId (z := (j : Int)) ⟨by omega, by omega⟩
    refine ⟨fun g3 => ?_, fun g3 => absurd (of_decide_eq_false (show decide ((((j + 1 : Nat) : Int)) > 0) = false from g3)) (by omega)⟩
    conv=>whnf
    refine ⟨(j : Nat), hj1, ?_⟩
    conv=>whnf
    refine ⟨j, rfl, hjl, hjl, ?_⟩
    conv=>whnf
    refine call_step (weighingID_t L[j]) rfl rfl ?_
    conv=>whnf
    refine ⟨?_, ?_, ?_⟩
    iterate 2 · repeat' (first | exact trivial | exact rfl | refine And.intro ?_ ?_ | ((conv=>whnf); first | exact trivial | exact rfl | refine And.intro ?_ ?_ | omega))
    conv=>whnf
    refine ⟨j + 1, rfl, hlt, hlt, ?_⟩
    conv=>whnf
    refine call_step (weighingID_t L[j + 1]) rfl rfl ?_
    conv=>whnf
    refine ⟨?_, ?_, ?_⟩
    iterate 2 · repeat' (first | exact trivial | exact rfl | refine And.intro ?_ ?_ | ((conv=>whnf); first | exact trivial | exact rfl | refine And.intro ?_ ?_ | omega))
    conv=>whnf
    refine ⟨fun hc2 => ?_, fun hc2 => ?_⟩
    · have h3 : L[j].id = L[j + 1].id := by simpa using (show (L[j].id == L[j + 1].id) = true from hc2)
      rw [if_neg (fun h => hj.2 h j L[j] L[j + 1] (List.getElem?_eq_getElem hjl) (List.getElem?_eq_getElem hlt) h3)] at e
      subst e
      conv=>whnf
      repeat' (first | exact trivial | exact rfl | refine And.intro ?_ ?_ | ((conv=>whnf); first | exact trivial | exact rfl | refine And.intro ?_ ?_ | omega))
    · have h3 : ¬ L[j].id = L[j + 1].id := by simpa using (show (L[j].id == L[j + 1].id) = false from hc2)
      have hn' : ∀ (q : Nat) (x y : Wgh), q + 1 < j + 1 + 1 → L[q]? = some x → L[q + 1]? = some y → x.id ≠ y.id := by
        intro q x y hq hx hy
        by_cases hqj : q = j
        · rw [hqj] at hx hy
          rw [List.getElem?_eq_getElem hjl] at hx
          rw [List.getElem?_eq_getElem hlt] at hy
          cases hx
          cases hy
          exact h3
        · exact hn q x y (by omega) hx hy
      conv=>whnf
      refine ⟨((j + 1 + 1 : Nat) : Int), (congrArg IntKind.i64.wrap (show ((j + 1 : Nat) : Int) + 1 = ((j + 1 + 1 : Nat) : Int) by omega)).trans (wrapId ⟨by omega, by omega⟩), ?_⟩
      refine ⟨j + 1 + 1, ⟨hlt, hn'⟩, by show L.length - (j + 1 + 1) < L.length - (j + 1); omega, ?_⟩
      conv=>whnf
      refine ⟨rfl, ?_⟩
      conv=>whnf
      repeat' (first | exact trivial | exact rfl | refine And.intro ?_ ?_ | ((conv=>whnf); first | exact trivial | exact rfl | refine And.intro ?_ ?_ | omega))
  · have hie : i = L.length := by simp at hc; omega
    subst hie
    have hA : JoinOK Wgh.id xs ys := hj.1 (fun j x y hx hy => hn j x y (List.getElem?_eq_some_iff.1 hy).1 hx hy)
    rw [if_pos hA, ← hu hA] at e
    subst e
    conv=>whnf
    repeat' (first | exact trivial | exact rfl | refine And.intro ?_ ?_ | ((conv=>whnf); first | exact trivial | exact rfl | refine And.intro ?_ ?_ | omega))

end Go.Proofs

namespace Go.Proofs
open Go.Sx

end Go.Proofs

namespace Go.Proofs
open Go.Sx

end Go.Proofs

/-
  Plain lemmas, part 29: all elements of a list, each once, are as many as the list has just if none stands twice. Conditions: none; plain lemmas.
-/
namespace Go
namespace Proofs

theorem insS_len_mem {α : Type} [DecidableEq α] {lt : α → α → Bool} (ok : LtOK lt) {x : α} : ∀ {l : List α}, Inc lt l → (insS lt l x).length = if x ∈ l then l.length else l.length + 1
  | [], _ => by simp [insS]
  | y :: r, h => by
    obtain ⟨h1, h2⟩ := List.pairwise_cons.1 h
    have ih := insS_len_mem ok (x := x) h2
    unfold insS
    by_cases hy : y = x
    · rw [if_pos hy, if_pos (by rw [hy]; exact List.mem_cons_self ..)]
    · rw [if_neg hy]
      cases hl : lt x y with
      | true =>
        have hn : ¬ x ∈ y :: r := by
          intro hm
          rcases List.mem_cons.1 hm with rfl | hm
          · exact hy rfl
          · have := ok.tr _ _ _ hl (h1 x hm)
            rw [ok.irr] at this; cases this
        rw [if_neg hn]
        simp
      | false =>
        simp only [cond_false, List.length_cons]
        rw [ih]
        by_cases hm : x ∈ r
        · rw [if_pos hm, if_pos (List.mem_cons_of_mem _ hm)]
        · rw [if_neg hm, if_neg (fun hx => by
            rcases List.mem_cons.1 hx with rfl | hx
            · exact hy rfl
            · exact hm hx)]

theorem distS_len_iff {α : Type} [DecidableEq α] {lt : α → α → Bool} (ok : LtOK lt) : ∀ (n : Nat) (l : List α), l.length = n → ((distS lt l).length = l.length ↔ l.Nodup)
  | 0, l, h => by
    have : l = [] := List.length_eq_zero_iff.1 h
    subst this
    simp [distS]
  | n + 1, l, h => by
    rcases List.eq_nil_or_concat l with rfl | ⟨q, x, rfl⟩
    · simp at h
    · rw [List.concat_eq_append] at h ⊢
      have hq : q.length = n := by simpa using h
      have ih := distS_len_iff ok n q hq
      have e : distS lt (q ++ [x]) = insS lt (distS lt q) x := by unfold distS; rw [List.foldl_append]; rfl
      have hle := distS_len ok q
      rw [e, insS_len_mem ok (distS_inc ok q), List.length_append, List.length_singleton]
      have hnd : (q ++ [x]).Nodup ↔ q.Nodup ∧ x ∉ q := by
        rw [List.nodup_append]
        constructor
        · rintro ⟨h1, _, h3⟩
          exact ⟨h1, fun hx => h3 x hx x (by simp) rfl⟩
        · rintro ⟨h1, h2⟩
          refine ⟨h1, by simp, fun a ha b hb => ?_⟩
          simp only [List.mem_singleton] at hb
          subst hb
          rintro rfl
          exact h2 ha
      rw [hnd]
      by_cases hx : x ∈ q
      · rw [if_pos ((distS_mem ok).2 hx)]
        constructor
        · intro hh; omega
        · rintro ⟨_, h2⟩; exact absurd hx h2
      · rw [if_neg (fun hh => hx ((distS_mem ok).1 hh))]
        constructor
        · intro hh; exact ⟨ih.1 (by omega), hx⟩
        · rintro ⟨h1, _⟩; rw [ih.2 h1]

end Proofs
end Go

namespace Go
namespace Proofs

def zRd : Rd := ⟨[], [], [], []⟩

open Classical in
noncomputable def mergeR (a b : Rd) : Rd × Int :=
  if checkR a = 0 then (if checkR b = 0 then (if Joins a b then (if checkR (outR a b) = 0 then (outR a b, 0) else (zRd, checkR (outR a b))) else (zRd, 6)) else (zRd, checkR b)) else (zRd, checkR a)

end Proofs
end Go

