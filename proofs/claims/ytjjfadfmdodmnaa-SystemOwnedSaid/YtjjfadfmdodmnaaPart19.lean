/-
  A part of the proof that a law of dryweightlaw03 answers true: lemmas of a symbolic walk, plain functions, or contracts of the functions walked (Zj). Conditions: none.
-/
import Derived.Test.YtjjfadfmdodmnaaPart18
set_option maxRecDepth 100000
set_option linter.unusedVariables false
set_option linter.unusedSimpArgs false
namespace Go.Proofs
open Go.Sx

theorem calm_of {bs : List (Int × Int)} {ls : List Lnk} (hs : SysOK bs ls) {q : Nat → Int} (hq : PotL bs.length q (graphF bs ls 0)) : Calm bs ls 0 :=
  (rounds_pot (rev := noR) (k := bs.length + 2) (graphF_ok hs 0) (potL_iff.1 hq) (Nat.le_refl _) (by omega)).1

theorem potL_sub {bs : List (Int × Int)} {ls ls' : List Lnk} {q : Nat → Int} (h : PotL bs.length q (graphF bs ls 0)) (hs : ∀ l ∈ ls', l ∈ ls) : PotL bs.length q (graphF bs ls' 0) := by
  intro l hl
  refine h l ?_
  rw [graphF_zero] at hl ⊢
  rcases List.mem_append.1 hl with hl | hl
  · exact List.mem_append.2 (.inl hl)
  · exact List.mem_append.2 (.inr (hs l hl))

/-- A system without some of its links. -/
theorem NetW.sub {bs : List (Int × Int)} {ls ls' : List Lnk} (h : NetW bs ls) (hl : ls'.length ≤ 150) (hs : ∀ l ∈ ls', l ∈ ls) : NetW bs ls' := by
  have hsys : SysOK bs ls' := ⟨h.sys.nb, by omega, h.sys.box, fun l hm => h.sys.lnk l (hs l hm)⟩
  obtain ⟨q, hq⟩ := calm_pot h.sys h.calm
  exact ⟨⟨h.few.1, hl⟩, hsys, calm_of hsys (potL_sub (hq 0) hs)⟩

theorem most_same {bs : List (Int × Int)} {ls ls' : List Lnk} (h : NetW bs ls) (h' : NetW bs ls') (hs : ∀ l, l ∈ ls ↔ l ∈ ls') {a b : Int} (ha : a < bs.length) (hb : b < bs.length) :
    mostF bs.length (graphF bs ls' 0) a b = mostF bs.length (graphF bs ls 0) a b :=
  Int.le_antisymm (most_mono h h' (fun l hl => (hs l).1 hl) ha hb) (most_mono h' h (fun l hl => (hs l).2 hl) ha hb)

/-- The boxes depend on which links there are, and on nothing else. -/
theorem boxes_same {bs : List (Int × Int)} {ls ls' : List Lnk} (h : NetW bs ls) (h' : NetW bs ls') (hs : ∀ l, l ∈ ls ↔ l ∈ ls') : boxesF bs.length (graphF bs ls' 0) = boxesF bs.length (graphF bs ls 0) := by
  unfold boxesF
  refine List.map_congr_left fun v hv => ?_
  have hv : v < bs.length := List.mem_range.1 hv
  rw [down_most h hv, down_most h' hv, up_most, up_most, most_same h h' hs (by omega) (by omega), most_same h h' hs (by omega) (by omega)]

theorem boxesF_len (n : Nat) (arcs : List Lnk) : (boxesF n arcs).length = n := by simp [boxesF]

theorem appZ {α : Type} (xs : List α) : List.take 0 ([] : List α) ++ List.take xs.length (List.drop 0 xs) = xs := by simp

/-- A Put of the first link of a longer list. -/
theorem putFirst_t (bs : List (Int × Int)) (ls : List Lnk) (x : Lnk) (r : List Lnk) (hs : SysOK bs (ls ++ [x])) (h : Calm bs (ls ++ [x]) 0) :
    Triple Try.prog 53 [.c (.p 0 0 0 0), .c (.s 3 0 1 4)] (putH bs ls (x :: r)) 4 (.tup [.inl (.v (.slice none 0 0)), .inl (.v (.int .i64 0))]) [(0, true, netC 1 4 bs.length (ls ++ [x]).length), (4, true, .arr (aLink (ls ++ [x])))] :=
  Triple.pfx (H1 := [_, _, _]) (H := []) 1 (o := .arr (aLink (x :: r))) (putOk_t bs ls [x] hs h)

theorem systemOwned_t (bs : List (Int × Int)) (ls : List Lnk) :
    Triple Try.prog 16 [sysA bs.length ls.length] (sysH bs ls) 2 (bv true) [] := by
  cases hfe : fewF bs ls with
  | false =>
    refine triple_of tB_ok Try.func16 rfl Try.call16 rfl ?_
    intro ρ w hH
    conv => whnf
    refine call_step head_t rfl rfl ?_
    conv => whnf
    refine ⟨(by repeat' (first | exact trivial | exact rfl | refine And.intro ?_ ?_ | ((conv => whnf); first | exact trivial | exact rfl | refine And.intro ?_ ?_ | omega))), (by repeat' (first | exact trivial | exact rfl | refine And.intro ?_ ?_ | ((conv => whnf); first | exact trivial | exact rfl | refine And.intro ?_ ?_ | omega))), ?_⟩
    conv => whnf
    refine call_step (few_t bs ls) rfl rfl ?_
    conv => whnf
    refine ⟨(by repeat' (first | exact trivial | exact rfl | refine And.intro ?_ ?_ | ((conv => whnf); first | exact trivial | exact rfl | refine And.intro ?_ ?_ | omega))), (by repeat' (first | exact trivial | exact rfl | refine And.intro ?_ ?_ | ((conv => whnf); first | exact trivial | exact rfl | refine And.intro ?_ ?_ | omega))), ?_⟩
    conv => whnf
    rw [hfe]
    refine ⟨fun hc => ?_, fun hc => absurd hc (by simp)⟩
    conv => whnf
    repeat' (first | exact trivial | exact rfl | refine And.intro ?_ ?_ | ((conv => whnf); first | exact trivial | exact rfl | refine And.intro ?_ ?_ | omega))
  | true =>
    have hf : bs.length ≤ 14 ∧ ls.length ≤ 40 := by simpa [fewF] using hfe
    by_cases hck : checkF bs ls = 0
    · have hs := checkF_ok.1 hck
      by_cases hcalm : Calm bs ls 0
      · have hnew := newNone_t bs ls hs hcalm
        have hw : NetW bs ls := ⟨⟨hf.1, by omega⟩, hs, hcalm⟩
        have hbx := boxes_t bs ls hs
        have hbl := boxesF_len bs.length (graphF bs ls 0)
        refine triple_of tB_ok Try.func16 rfl Try.call16 rfl ?_
        intro ρ w hH
        conv => whnf
        refine call_step head_t rfl rfl ?_
        conv => whnf
        refine ⟨(by repeat' (first | exact trivial | exact rfl | refine And.intro ?_ ?_ | ((conv => whnf); first | exact trivial | exact rfl | refine And.intro ?_ ?_ | omega))), (by repeat' (first | exact trivial | exact rfl | refine And.intro ?_ ?_ | ((conv => whnf); first | exact trivial | exact rfl | refine And.intro ?_ ?_ | omega))), ?_⟩
        conv => whnf
        refine call_step (few_t bs ls) rfl rfl ?_
        conv => whnf
        refine ⟨(by repeat' (first | exact trivial | exact rfl | refine And.intro ?_ ?_ | ((conv => whnf); first | exact trivial | exact rfl | refine And.intro ?_ ?_ | omega))), (by repeat' (first | exact trivial | exact rfl | refine And.intro ?_ ?_ | ((conv => whnf); first | exact trivial | exact rfl | refine And.intro ?_ ?_ | omega))), ?_⟩
        conv => whnf
        rw [hfe]
        refine ⟨fun hc => absurd hc (by simp), fun hc => ?_⟩
        conv => whnf
        refine bs_step tB_ok (aSpan []) rfl rfl ?_
        conv => whnf
        refine ⟨(by repeat' (first | exact trivial | exact rfl | refine And.intro ?_ ?_ | ((conv => whnf); first | exact trivial | exact rfl | refine And.intro ?_ ?_ | omega))), ?_⟩
        conv => whnf
        refine app_step tB_ok (aSpan []) bs (fun _ => rfl) rfl rfl rfl rfl ?_
        conv => whnf
        refine ⟨⟨rfl, rfl, Nat.le_refl _, by show 0 + bs.length ≤ bs.length; omega, by show (0 + bs.length) * 17 ≤ _; omega⟩, ?_⟩
        conv => whnf
        refine bs_step tB_ok (aLink []) rfl rfl ?_
        conv => whnf
        refine ⟨(by repeat' (first | exact trivial | exact rfl | refine And.intro ?_ ?_ | ((conv => whnf); first | exact trivial | exact rfl | refine And.intro ?_ ?_ | omega))), ?_⟩
        conv => whnf
        refine app_step tB_ok (aLink []) ls (fun _ => rfl) rfl rfl rfl rfl ?_
        conv => whnf
        refine ⟨⟨rfl, rfl, Nat.le_refl _, by show 0 + ls.length ≤ ls.length; omega, by show (0 + ls.length) * 33 ≤ _; omega⟩, ?_⟩
        conv => whnf
        refine call_step hnew rfl rfl ?_
        conv => whnf
        refine ⟨(by repeat' (first | exact trivial | exact rfl | refine And.intro ?_ ?_ | ((conv => whnf); first | exact trivial | exact rfl | refine And.intro ?_ ?_ | omega))), (by
          repeat' (first | exact trivial | exact rfl | refine And.intro ?_ ?_ | ((conv => whnf); first | exact trivial | exact rfl | refine And.intro ?_ ?_ | omega))
          all_goals first | exact (congrArg aSpan (appZ bs) : _) | exact (congrArg aLink (appZ ls) : _)), ?_⟩
        conv => whnf
        refine ⟨fun hc => absurd hc (by simp), fun hc => ?_⟩
        conv => whnf
        refine call_step hbx rfl rfl ?_
        conv => whnf
        refine ⟨(by repeat' (first | exact trivial | exact rfl | refine And.intro ?_ ?_ | ((conv => whnf); first | exact trivial | exact rfl | refine And.intro ?_ ?_ | omega))), (by repeat' (first | exact trivial | exact rfl | refine And.intro ?_ ?_ | ((conv => whnf); first | exact trivial | exact rfl | refine And.intro ?_ ?_ | omega))), ?_⟩
        conv => whnf
        refine loop_step tB_ok (G := Nat × List (Int × Int)) 0 [] (fun g => [(8, iv .i64 g.1)]) (fun g => [(4, true, .arr (aSpan g.2))]) (fun g => g.1 ≤ bs.length ∧ g.2.length = bs.length) (fun g => bs.length - g.1) ?_
        conv => whnf
        refine ⟨⟨(0, List.take 0 [] ++ List.take bs.length (List.drop 0 bs)), ⟨Nat.zero_le _, by rw [appZ]⟩, ?_⟩, ?_⟩
        · conv => whnf
          repeat' (first | exact trivial | exact rfl | refine And.intro ?_ ?_ | ((conv => whnf); first | exact trivial | exact rfl | refine And.intro ?_ ?_ | omega))
        rintro ⟨i, xs⟩ ⟨hi, hxl⟩ ρ2 t2 hρ2
        have hi : i ≤ bs.length := hi
        have hxl : xs.length = bs.length := hxl
        dsimp only
        conv => whnf
        refine ⟨fun hc => ?_, fun hc => ?_⟩
        · have hlt : i < bs.length := by simpa using hc
          conv => whnf
          refine ⟨i, rfl, by show i < 0 + bs.length; omega, by show i < xs.length; omega, (1, 0), rfl, ?_⟩
          conv => whnf
          refine ⟨(i : Int) + 1, wrapId (z := (i : Int) + 1) ⟨by omega, by omega⟩, ?_⟩
          refine ⟨(i + 1, xs.set i (1, 0)), ⟨hlt, by rw [List.length_set]; exact hxl⟩, by show bs.length - (i + 1) < bs.length - i; omega, ?_⟩
          conv => whnf
          refine ⟨rfl, ?_⟩
          conv => whnf
          repeat' (first | exact trivial | exact rfl | refine And.intro ?_ ?_ | ((conv => whnf); first | exact trivial | exact rfl | refine And.intro ?_ ?_ | omega))
        clear hc hi
        conv => whnf
        refine loop_step tB_ok (G := Nat × List Lnk) 0 [] (fun g => [(9, iv .i64 g.1)]) (fun g => [(6, true, .arr (aLink g.2))]) (fun g => g.1 ≤ ls.length ∧ g.2.length = ls.length) (fun g => ls.length - g.1) ?_
        conv => whnf
        refine ⟨⟨(0, List.take 0 [] ++ List.take ls.length (List.drop 0 ls)), ⟨Nat.zero_le _, by rw [appZ]⟩, ?_⟩, ?_⟩
        · conv => whnf
          repeat' (first | exact trivial | exact rfl | refine And.intro ?_ ?_ | ((conv => whnf); first | exact trivial | exact rfl | refine And.intro ?_ ?_ | omega))
        rintro ⟨j, ys⟩ ⟨hj, hyl⟩ ρ3 t3 hρ3
        have hj : j ≤ ls.length := hj
        have hyl : ys.length = ls.length := hyl
        dsimp only
        conv => whnf
        refine ⟨fun hc => ?_, fun hc => ?_⟩
        · have hlt : j < ls.length := by simpa using hc
          conv => whnf
          refine ⟨j, rfl, by show j < 0 + ls.length; omega, by show j < ys.length; omega, ⟨0, 0, -5, 0⟩, rfl, ?_⟩
          conv => whnf
          refine ⟨(j : Int) + 1, wrapId (z := (j : Int) + 1) ⟨by omega, by omega⟩, ?_⟩
          refine ⟨(j + 1, ys.set j ⟨0, 0, -5, 0⟩), ⟨hlt, by rw [List.length_set]; exact hyl⟩, by show ls.length - (j + 1) < ls.length - j; omega, ?_⟩
          conv => whnf
          refine ⟨rfl, ?_⟩
          conv => whnf
          repeat' (first | exact trivial | exact rfl | refine And.intro ?_ ?_ | ((conv => whnf); first | exact trivial | exact rfl | refine And.intro ?_ ?_ | omega))
        clear hc hj
        conv => whnf
        refine bs_step tB_ok (aLink []) rfl rfl ?_
        conv => whnf
        refine ⟨(by repeat' (first | exact trivial | exact rfl | refine And.intro ?_ ?_ | ((conv => whnf); first | exact trivial | exact rfl | refine And.intro ?_ ?_ | omega))), ?_⟩
        conv => whnf
        refine app_step tB_ok (aLink []) ls (fun _ => rfl) rfl rfl rfl rfl ?_
        conv => whnf
        refine ⟨⟨rfl, rfl, Nat.le_refl _, by show 0 + ls.length ≤ ls.length; omega, by show (0 + ls.length) * 33 ≤ _; omega⟩, ?_⟩
        conv => whnf
        refine ⟨fun hc => ?_, fun hc => ?_⟩
        · obtain ⟨x, r, rfl⟩ : ∃ x r, ls = x :: r := by
            cases ls with
            | nil => exact absurd (of_decide_eq_true (show decide ((0 : Int) < ((0 + ([] : List Lnk).length : Nat) : Int)) = true from hc)) (by simp)
            | cons x r => exact ⟨x, r, rfl⟩
          clear hc
          conv => whnf
          refine ⟨1, rfl, by show 1 ≤ 0 + (x :: r).length; simp, Nat.zero_le _, ?_⟩
          conv => whnf
          have hmem : ∀ l, l ∈ x :: r ↔ l ∈ (x :: r) ++ [x] := fun l => by
            rw [List.mem_append]
            exact ⟨.inl, fun h => h.elim id fun h => by simp at h; simp [h]⟩
          have hw2 : NetW bs ((x :: r) ++ [x]) := hw.sub (by rw [List.length_append]; simp at hf ⊢; omega) (fun l hl => (hmem l).2 hl)
          have hput := putFirst_t bs (x :: r) x r hw2.sys hw2.calm
          refine call_step hput rfl rfl ?_
          conv => whnf
          refine ⟨(by repeat' (first | exact trivial | exact rfl | refine And.intro ?_ ?_ | ((conv => whnf); first | exact trivial | exact rfl | refine And.intro ?_ ?_ | omega))), (by
            repeat' (first | exact trivial | exact rfl | refine And.intro ?_ ?_ | ((conv => whnf); first | exact trivial | exact rfl | refine And.intro ?_ ?_ | omega))
            all_goals exact (congrArg aLink (appZ (x :: r)) : _)), ?_⟩
          conv => whnf
          refine ⟨0, rfl, by show 0 < 1; omega, by show 0 < (List.take 0 ([] : List Lnk) ++ List.take (x :: r).length (List.drop 0 (x :: r))).length; rw [appZ]; simp, ⟨0, 0, -7, 0⟩, rfl, ?_⟩
          conv => whnf
          refine ⟨0, rfl, by show 0 < (x :: r).length; simp, by show 0 < (x :: r).length; simp, ?_⟩
          conv => whnf
          by_cases hid : x.i = 0
          · have ht1 : takeF ((x :: r) ++ [x]) x.i ≠ 0 := by unfold takeF; rw [if_pos hid]; decide
            have ht2 : takeF (x :: r) x.i ≠ 0 := by unfold takeF; rw [if_pos hid]; decide
            have htk := takeErr_t bs ((x :: r) ++ [x]) x.i (by rw [List.length_append]; simp at hf ⊢; omega) ht1
            refine call_step htk rfl rfl ?_
            conv => whnf
            refine ⟨(by repeat' (first | exact trivial | exact rfl | refine And.intro ?_ ?_ | ((conv => whnf); first | exact trivial | exact rfl | refine And.intro ?_ ?_ | omega))), (by repeat' (first | exact trivial | exact rfl | refine And.intro ?_ ?_ | ((conv => whnf); first | exact trivial | exact rfl | refine And.intro ?_ ?_ | omega))), ?_⟩
            conv => whnf
            refine call_step (netLinks_t bs ((x :: r) ++ [x]) (by rw [List.length_append]; simp at hf ⊢; omega)) rfl rfl ?_
            conv => whnf
            refine ⟨(by repeat' (first | exact trivial | exact rfl | refine And.intro ?_ ?_ | ((conv => whnf); first | exact trivial | exact rfl | refine And.intro ?_ ?_ | omega))), (by repeat' (first | exact trivial | exact rfl | refine And.intro ?_ ?_ | ((conv => whnf); first | exact trivial | exact rfl | refine And.intro ?_ ?_ | omega))), ?_⟩
            conv => whnf
            have hWl : ((x :: r) ++ [x]).length ≤ 100 := by rw [List.length_append]; simp at hf ⊢; omega
            refine loop_step tB_ok (G := Nat × List Lnk) 0 [] (fun g => [(12, iv .i64 g.1)]) (fun g => [(15, true, .arr (aLink g.2))]) (fun g => g.1 ≤ ((x :: r) ++ [x]).length ∧ g.2.length = ((x :: r) ++ [x]).length) (fun g => ((x :: r) ++ [x]).length - g.1) ?_
            conv => whnf
            refine ⟨⟨(0, ((x :: r) ++ [x])), ⟨Nat.zero_le _, rfl⟩, ?_⟩, ?_⟩
            · conv => whnf
              repeat' (first | exact trivial | exact rfl | refine And.intro ?_ ?_ | ((conv => whnf); first | exact trivial | exact rfl | refine And.intro ?_ ?_ | omega))
            rintro ⟨k, zs⟩ ⟨hk, hzl⟩ ρ4 t4 hρ4
            have hk : k ≤ ((x :: r) ++ [x]).length := hk
            have hzl : zs.length = ((x :: r) ++ [x]).length := hzl
            dsimp only
            conv => whnf
            refine ⟨fun hc => ?_, fun hc => ?_⟩
            · have hlt : k < ((x :: r) ++ [x]).length := by have := of_decide_eq_true (show decide ((k : Int) < ((x :: r) ++ [x]).length) = true from hc); omega
              have hlz : k < zs.length := by omega
              conv => whnf
              refine ⟨k, rfl, hlt, hlz, { zs[k] with m := -9 }, rfl, ?_⟩
              conv => whnf
              refine ⟨(k : Int) + 1, wrapId (z := (k : Int) + 1) ⟨by omega, by omega⟩, ?_⟩
              refine ⟨(k + 1, zs.set k { zs[k] with m := -9 }), ⟨hlt, by rw [List.length_set]; exact hzl⟩, by show ((x :: r) ++ [x]).length - (k + 1) < ((x :: r) ++ [x]).length - k; omega, ?_⟩
              conv => whnf
              refine ⟨rfl, ?_⟩
              conv => whnf
              repeat' (first | exact trivial | exact rfl | refine And.intro ?_ ?_ | ((conv => whnf); first | exact trivial | exact rfl | refine And.intro ?_ ?_ | omega))
            clear hc hk
            conv => whnf
            have hb2 := boxes_t bs ((x :: r) ++ [x]) hw2.sys
            rw [boxes_same hw hw2 hmem] at hb2
            refine call_step hb2 rfl rfl ?_
            conv => whnf
            refine ⟨(by repeat' (first | exact trivial | exact rfl | refine And.intro ?_ ?_ | ((conv => whnf); first | exact trivial | exact rfl | refine And.intro ?_ ?_ | omega))), (by repeat' (first | exact trivial | exact rfl | refine And.intro ?_ ?_ | ((conv => whnf); first | exact trivial | exact rfl | refine And.intro ?_ ?_ | omega))), ?_⟩
            conv => whnf
            refine ⟨fun hc => absurd (show ((((x :: r).length : Nat) : Int) == 0) = true from hc) (by rw [List.length_cons]; simp; omega), fun hc => ?_⟩
            conv => whnf
            refine ⟨0, rfl, by show 0 < (x :: r).length; simp, by show 0 < (x :: r).length; simp, ?_⟩
            conv => whnf
            have hta := refTakenErr_t bs (x :: r) x.i (by omega) ht2
            generalize takeF (x :: r) x.i = tc at *
            refine call_step hta rfl rfl ?_
            conv => whnf
            refine ⟨(by repeat' (first | exact trivial | exact rfl | refine And.intro ?_ ?_ | ((conv => whnf); first | exact trivial | exact rfl | refine And.intro ?_ ?_ | omega))), (by repeat' (first | exact trivial | exact rfl | refine And.intro ?_ ?_ | ((conv => whnf); first | exact trivial | exact rfl | refine And.intro ?_ ?_ | omega))), ?_⟩
            conv => whnf
            refine ⟨fun hc => ?_, fun hc => absurd (by simpa using (show (tc != 0) = false from hc)) ht2⟩
            conv => whnf
            refine ⟨fun hc => ?_, fun hc => absurd hc (by simp)⟩
            conv => whnf
            refine call_step (spansSame_t (boxesF bs.length (graphF bs (x :: r) 0)) (by omega)) rfl rfl ?_
            conv => whnf
            refine ⟨(by repeat' (first | exact trivial | exact rfl | refine And.intro ?_ ?_ | ((conv => whnf); first | exact trivial | exact rfl | refine And.intro ?_ ?_ | omega))), (by repeat' (first | exact trivial | exact rfl | refine And.intro ?_ ?_ | ((conv => whnf); first | exact trivial | exact rfl | refine And.intro ?_ ?_ | omega))), ?_⟩
            conv => whnf
            repeat' (first | exact trivial | exact rfl | refine And.intro ?_ ?_ | ((conv => whnf); first | exact trivial | exact rfl | refine And.intro ?_ ?_ | omega))
          · have hlt : ∀ l : List Lnk, x ∈ l → (withoutF l x.i).length ≠ l.length := fun l hl => by
              have : (withoutF l x.i).length < l.length := List.length_filter_lt_length_iff_exists.2 ⟨x, hl, by simp⟩
              omega
            have ht1 : takeF ((x :: r) ++ [x]) x.i = 0 := by unfold takeF; rw [if_neg hid, if_neg (hlt _ (by simp))]
            have ht2 : takeF (x :: r) x.i = 0 := by unfold takeF; rw [if_neg hid, if_neg (hlt _ (by simp))]
            have htk := takeOk_t bs ((x :: r) ++ [x]) x.i (by rw [List.length_append]; simp at hf ⊢; omega) ht1
            have hwo : withoutF ((x :: r) ++ [x]) x.i = withoutF (x :: r) x.i := by simp [withoutF]
            rw [hwo] at htk
            refine call_step htk rfl rfl ?_
            conv => whnf
            refine ⟨(by repeat' (first | exact trivial | exact rfl | refine And.intro ?_ ?_ | ((conv => whnf); first | exact trivial | exact rfl | refine And.intro ?_ ?_ | omega))), (by repeat' (first | exact trivial | exact rfl | refine And.intro ?_ ?_ | ((conv => whnf); first | exact trivial | exact rfl | refine And.intro ?_ ?_ | omega))), ?_⟩
            conv => whnf
            have hwl : (withoutF (x :: r) x.i).length ≤ 40 := Nat.le_trans (List.length_filter_le _ _) hf.2
            have hw3 : NetW bs (withoutF (x :: r) x.i) := hw.sub (by omega) (fun l hl => (List.mem_filter.1 hl).1)
            have hta := refTakenOk_t bs (x :: r) x.i (by omega) ht2
            have hb2 := boxes_t bs (withoutF (x :: r) x.i) hw3.sys
            have hb3 := refBoxes_t bs (withoutF (x :: r) x.i) hw3.sys
            rw [← boxes_eq hw3] at hb3
            have hbl3 := boxesF_len bs.length (graphF bs (withoutF (x :: r) x.i) 0)
            generalize boxesF bs.length (graphF bs (withoutF (x :: r) x.i) 0) = bx at *
            clear hw3
            generalize withoutF (x :: r) x.i = W at *
            refine call_step (netLinks_t bs W (by omega)) rfl rfl ?_
            conv => whnf
            refine ⟨(by repeat' (first | exact trivial | exact rfl | refine And.intro ?_ ?_ | ((conv => whnf); first | exact trivial | exact rfl | refine And.intro ?_ ?_ | omega))), (by repeat' (first | exact trivial | exact rfl | refine And.intro ?_ ?_ | ((conv => whnf); first | exact trivial | exact rfl | refine And.intro ?_ ?_ | omega))), ?_⟩
            conv => whnf
            refine loop_step tB_ok (G := Nat × List Lnk) 0 [] (fun g => [(12, iv .i64 g.1)]) (fun g => [(16, true, .arr (aLink g.2))]) (fun g => g.1 ≤ W.length ∧ g.2.length = W.length) (fun g => W.length - g.1) ?_
            conv => whnf
            refine ⟨⟨(0, W), ⟨Nat.zero_le _, rfl⟩, ?_⟩, ?_⟩
            · conv => whnf
              repeat' (first | exact trivial | exact rfl | refine And.intro ?_ ?_ | ((conv => whnf); first | exact trivial | exact rfl | refine And.intro ?_ ?_ | omega))
            rintro ⟨k, zs⟩ ⟨hk, hzl⟩ ρ4 t4 hρ4
            have hk : k ≤ W.length := hk
            have hzl : zs.length = W.length := hzl
            dsimp only
            conv => whnf
            refine ⟨fun hc => ?_, fun hc => ?_⟩
            · have hlt : k < W.length := by have := of_decide_eq_true (show decide ((k : Int) < W.length) = true from hc); omega
              have hlz : k < zs.length := by omega
              conv => whnf
              refine ⟨k, rfl, hlt, hlz, { zs[k] with m := -9 }, rfl, ?_⟩
              conv => whnf
              refine ⟨(k : Int) + 1, wrapId (z := (k : Int) + 1) ⟨by omega, by omega⟩, ?_⟩
              refine ⟨(k + 1, zs.set k { zs[k] with m := -9 }), ⟨hlt, by rw [List.length_set]; exact hzl⟩, by show W.length - (k + 1) < W.length - k; omega, ?_⟩
              conv => whnf
              refine ⟨rfl, ?_⟩
              conv => whnf
              repeat' (first | exact trivial | exact rfl | refine And.intro ?_ ?_ | ((conv => whnf); first | exact trivial | exact rfl | refine And.intro ?_ ?_ | omega))
            clear hc hk
            conv => whnf
            refine call_step hb2 rfl rfl ?_
            conv => whnf
            refine ⟨(by repeat' (first | exact trivial | exact rfl | refine And.intro ?_ ?_ | ((conv => whnf); first | exact trivial | exact rfl | refine And.intro ?_ ?_ | omega))), (by repeat' (first | exact trivial | exact rfl | refine And.intro ?_ ?_ | ((conv => whnf); first | exact trivial | exact rfl | refine And.intro ?_ ?_ | omega))), ?_⟩
            conv => whnf
            refine ⟨fun hc => absurd (show ((((x :: r).length : Nat) : Int) == 0) = true from hc) (by rw [List.length_cons]; simp; omega), fun hc => ?_⟩
            conv => whnf
            refine ⟨0, rfl, by show 0 < (x :: r).length; simp, by show 0 < (x :: r).length; simp, ?_⟩
            conv => whnf
            refine call_step hta rfl rfl ?_
            conv => whnf
            refine ⟨(by repeat' (first | exact trivial | exact rfl | refine And.intro ?_ ?_ | ((conv => whnf); first | exact trivial | exact rfl | refine And.intro ?_ ?_ | omega))), (by repeat' (first | exact trivial | exact rfl | refine And.intro ?_ ?_ | ((conv => whnf); first | exact trivial | exact rfl | refine And.intro ?_ ?_ | omega))), ?_⟩
            conv => whnf
            refine ⟨fun hc => absurd hc (by simp), fun hc => ?_⟩
            conv => whnf
            refine ⟨fun hc => ?_, fun hc => absurd hc (by simp)⟩
            conv => whnf
            refine call_step hb3 rfl rfl ?_
            conv => whnf
            refine ⟨(by repeat' (first | exact trivial | exact rfl | refine And.intro ?_ ?_ | ((conv => whnf); first | exact trivial | exact rfl | refine And.intro ?_ ?_ | omega))), (by repeat' (first | exact trivial | exact rfl | refine And.intro ?_ ?_ | ((conv => whnf); first | exact trivial | exact rfl | refine And.intro ?_ ?_ | omega))), ?_⟩
            conv => whnf
            refine call_step (spansSame_t bx (by omega)) rfl rfl ?_
            conv => whnf
            refine ⟨(by repeat' (first | exact trivial | exact rfl | refine And.intro ?_ ?_ | ((conv => whnf); first | exact trivial | exact rfl | refine And.intro ?_ ?_ | omega))), (by repeat' (first | exact trivial | exact rfl | refine And.intro ?_ ?_ | ((conv => whnf); first | exact trivial | exact rfl | refine And.intro ?_ ?_ | omega))), ?_⟩
            conv => whnf
            refine ⟨fun hc => ?_, fun hc => absurd hc (by simp)⟩
            conv => whnf
            refine call_step (netLinks_t bs W (by omega)) rfl rfl ?_
            conv => whnf
            refine ⟨(by repeat' (first | exact trivial | exact rfl | refine And.intro ?_ ?_ | ((conv => whnf); first | exact trivial | exact rfl | refine And.intro ?_ ?_ | omega))), (by repeat' (first | exact trivial | exact rfl | refine And.intro ?_ ?_ | ((conv => whnf); first | exact trivial | exact rfl | refine And.intro ?_ ?_ | omega))), ?_⟩
            conv => whnf
            refine call_step (linksSame_t W (by omega)) rfl rfl ?_
            conv => whnf
            refine ⟨(by repeat' (first | exact trivial | exact rfl | refine And.intro ?_ ?_ | ((conv => whnf); first | exact trivial | exact rfl | refine And.intro ?_ ?_ | omega))), (by repeat' (first | exact trivial | exact rfl | refine And.intro ?_ ?_ | ((conv => whnf); first | exact trivial | exact rfl | refine And.intro ?_ ?_ | omega))), ?_⟩
            conv => whnf
            repeat' (first | exact trivial | exact rfl | refine And.intro ?_ ?_ | ((conv => whnf); first | exact trivial | exact rfl | refine And.intro ?_ ?_ | omega))
        · obtain rfl : ls = [] := by
            cases ls with
            | nil => rfl
            | cons x r => exact absurd (of_decide_eq_false (show decide ((0 : Int) < ((0 + (x :: r).length : Nat) : Int)) = false from hc)) (by simp)
          clear hc
          conv => whnf
          refine call_step (netLinks_t bs [] (by simp)) rfl rfl ?_
          conv => whnf
          refine ⟨(by repeat' (first | exact trivial | exact rfl | refine And.intro ?_ ?_ | ((conv => whnf); first | exact trivial | exact rfl | refine And.intro ?_ ?_ | omega))), (by repeat' (first | exact trivial | exact rfl | refine And.intro ?_ ?_ | ((conv => whnf); first | exact trivial | exact rfl | refine And.intro ?_ ?_ | omega))), ?_⟩
          conv => whnf
          refine loop_step tB_ok (G := Nat × List Lnk) 0 [] (fun g => [(12, iv .i64 g.1)]) (fun g => [(14, true, .arr (aLink g.2))]) (fun g => g.1 ≤ ([] : List Lnk).length ∧ g.2.length = ([] : List Lnk).length) (fun g => ([] : List Lnk).length - g.1) ?_
          conv => whnf
          refine ⟨⟨(0, ([] : List Lnk)), ⟨Nat.zero_le _, rfl⟩, ?_⟩, ?_⟩
          · conv => whnf
            repeat' (first | exact trivial | exact rfl | refine And.intro ?_ ?_ | ((conv => whnf); first | exact trivial | exact rfl | refine And.intro ?_ ?_ | omega))
          rintro ⟨k, zs⟩ ⟨hk, hzl⟩ ρ4 t4 hρ4
          have hk : k ≤ ([] : List Lnk).length := hk
          have hzl : zs.length = ([] : List Lnk).length := hzl
          dsimp only
          conv => whnf
          refine ⟨fun hc => ?_, fun hc => ?_⟩
          · have hlt : k < ([] : List Lnk).length := by have := of_decide_eq_true (show decide ((k : Int) < ([] : List Lnk).length) = true from hc); omega
            have hlz : k < zs.length := by omega
            conv => whnf
            refine ⟨k, rfl, hlt, hlz, { zs[k] with m := -9 }, rfl, ?_⟩
            conv => whnf
            refine ⟨(k : Int) + 1, wrapId (z := (k : Int) + 1) ⟨by omega, by omega⟩, ?_⟩
            refine ⟨(k + 1, zs.set k { zs[k] with m := -9 }), ⟨hlt, by rw [List.length_set]; exact hzl⟩, by show ([] : List Lnk).length - (k + 1) < ([] : List Lnk).length - k; omega, ?_⟩
            conv => whnf
            refine ⟨rfl, ?_⟩
            conv => whnf
            repeat' (first | exact trivial | exact rfl | refine And.intro ?_ ?_ | ((conv => whnf); first | exact trivial | exact rfl | refine And.intro ?_ ?_ | omega))
          clear hc hk
          conv => whnf
          refine call_step hbx rfl rfl ?_
          conv => whnf
          refine ⟨(by repeat' (first | exact trivial | exact rfl | refine And.intro ?_ ?_ | ((conv => whnf); first | exact trivial | exact rfl | refine And.intro ?_ ?_ | omega))), (by repeat' (first | exact trivial | exact rfl | refine And.intro ?_ ?_ | ((conv => whnf); first | exact trivial | exact rfl | refine And.intro ?_ ?_ | omega))), ?_⟩
          conv => whnf
          refine ⟨fun hc => ?_, fun hc => absurd (show (((([] : List Lnk).length : Nat) : Int) == 0) = false from hc) (by simp)⟩
          conv => whnf
          refine ⟨fun hc => ?_, fun hc => absurd hc (by simp)⟩
          conv => whnf
          refine call_step (spansSame_t (boxesF bs.length (graphF bs [] 0)) (by omega)) rfl rfl ?_
          conv => whnf
          refine ⟨(by repeat' (first | exact trivial | exact rfl | refine And.intro ?_ ?_ | ((conv => whnf); first | exact trivial | exact rfl | refine And.intro ?_ ?_ | omega))), (by repeat' (first | exact trivial | exact rfl | refine And.intro ?_ ?_ | ((conv => whnf); first | exact trivial | exact rfl | refine And.intro ?_ ?_ | omega))), ?_⟩
          conv => whnf
          repeat' (first | exact trivial | exact rfl | refine And.intro ?_ ?_ | ((conv => whnf); first | exact trivial | exact rfl | refine And.intro ?_ ?_ | omega))
      · have hn := newClash_t bs ls hs hcalm
        refine triple_of tB_ok Try.func16 rfl Try.call16 rfl ?_
        intro ρ w hH
        conv => whnf
        refine call_step head_t rfl rfl ?_
        conv => whnf
        refine ⟨(by repeat' (first | exact trivial | exact rfl | refine And.intro ?_ ?_ | ((conv => whnf); first | exact trivial | exact rfl | refine And.intro ?_ ?_ | omega))), (by repeat' (first | exact trivial | exact rfl | refine And.intro ?_ ?_ | ((conv => whnf); first | exact trivial | exact rfl | refine And.intro ?_ ?_ | omega))), ?_⟩
        conv => whnf
        refine call_step (few_t bs ls) rfl rfl ?_
        conv => whnf
        refine ⟨(by repeat' (first | exact trivial | exact rfl | refine And.intro ?_ ?_ | ((conv => whnf); first | exact trivial | exact rfl | refine And.intro ?_ ?_ | omega))), (by repeat' (first | exact trivial | exact rfl | refine And.intro ?_ ?_ | ((conv => whnf); first | exact trivial | exact rfl | refine And.intro ?_ ?_ | omega))), ?_⟩
        conv => whnf
        rw [hfe]
        refine ⟨fun hc => absurd hc (by simp), fun hc => ?_⟩
        conv => whnf
        refine bs_step tB_ok (aSpan []) rfl rfl ?_
        conv => whnf
        refine ⟨(by repeat' (first | exact trivial | exact rfl | refine And.intro ?_ ?_ | ((conv => whnf); first | exact trivial | exact rfl | refine And.intro ?_ ?_ | omega))), ?_⟩
        conv => whnf
        refine app_step tB_ok (aSpan []) bs (fun _ => rfl) rfl rfl rfl rfl ?_
        conv => whnf
        refine ⟨⟨rfl, rfl, Nat.le_refl _, by show 0 + bs.length ≤ bs.length; omega, by show (0 + bs.length) * 17 ≤ _; omega⟩, ?_⟩
        conv => whnf
        refine bs_step tB_ok (aLink []) rfl rfl ?_
        conv => whnf
        refine ⟨(by repeat' (first | exact trivial | exact rfl | refine And.intro ?_ ?_ | ((conv => whnf); first | exact trivial | exact rfl | refine And.intro ?_ ?_ | omega))), ?_⟩
        conv => whnf
        refine app_step tB_ok (aLink []) ls (fun _ => rfl) rfl rfl rfl rfl ?_
        conv => whnf
        refine ⟨⟨rfl, rfl, Nat.le_refl _, by show 0 + ls.length ≤ ls.length; omega, by show (0 + ls.length) * 33 ≤ _; omega⟩, ?_⟩
        conv => whnf
        refine call_step hn rfl rfl ?_
        conv => whnf
        refine ⟨(by repeat' (first | exact trivial | exact rfl | refine And.intro ?_ ?_ | ((conv => whnf); first | exact trivial | exact rfl | refine And.intro ?_ ?_ | omega))), (by
          repeat' (first | exact trivial | exact rfl | refine And.intro ?_ ?_ | ((conv => whnf); first | exact trivial | exact rfl | refine And.intro ?_ ?_ | omega))
          all_goals first | exact (congrArg aSpan (appZ bs) : _) | exact (congrArg aLink (appZ ls) : _)), ?_⟩
        conv => whnf
        refine ⟨fun hc => ?_, fun hc => absurd hc (by simp)⟩
        conv => whnf
        refine ⟨fun hc => ?_, fun hc => absurd hc (by simp)⟩
        conv => whnf
        repeat' (first | exact trivial | exact rfl | refine And.intro ?_ ?_ | ((conv => whnf); first | exact trivial | exact rfl | refine And.intro ?_ ?_ | omega))
    · have hn := newErr_t bs ls (by omega) (by omega) hck
      generalize checkF bs ls = c at *
      refine triple_of tB_ok Try.func16 rfl Try.call16 rfl ?_
      intro ρ w hH
      conv => whnf
      refine call_step head_t rfl rfl ?_
      conv => whnf
      refine ⟨(by repeat' (first | exact trivial | exact rfl | refine And.intro ?_ ?_ | ((conv => whnf); first | exact trivial | exact rfl | refine And.intro ?_ ?_ | omega))), (by repeat' (first | exact trivial | exact rfl | refine And.intro ?_ ?_ | ((conv => whnf); first | exact trivial | exact rfl | refine And.intro ?_ ?_ | omega))), ?_⟩
      conv => whnf
      refine call_step (few_t bs ls) rfl rfl ?_
      conv => whnf
      refine ⟨(by repeat' (first | exact trivial | exact rfl | refine And.intro ?_ ?_ | ((conv => whnf); first | exact trivial | exact rfl | refine And.intro ?_ ?_ | omega))), (by repeat' (first | exact trivial | exact rfl | refine And.intro ?_ ?_ | ((conv => whnf); first | exact trivial | exact rfl | refine And.intro ?_ ?_ | omega))), ?_⟩
      conv => whnf
      rw [hfe]
      refine ⟨fun hc => absurd hc (by simp), fun hc => ?_⟩
      conv => whnf
      refine bs_step tB_ok (aSpan []) rfl rfl ?_
      conv => whnf
      refine ⟨(by repeat' (first | exact trivial | exact rfl | refine And.intro ?_ ?_ | ((conv => whnf); first | exact trivial | exact rfl | refine And.intro ?_ ?_ | omega))), ?_⟩
      conv => whnf
      refine app_step tB_ok (aSpan []) bs (fun _ => rfl) rfl rfl rfl rfl ?_
      conv => whnf
      refine ⟨⟨rfl, rfl, Nat.le_refl _, by show 0 + bs.length ≤ bs.length; omega, by show (0 + bs.length) * 17 ≤ _; omega⟩, ?_⟩
      conv => whnf
      refine bs_step tB_ok (aLink []) rfl rfl ?_
      conv => whnf
      refine ⟨(by repeat' (first | exact trivial | exact rfl | refine And.intro ?_ ?_ | ((conv => whnf); first | exact trivial | exact rfl | refine And.intro ?_ ?_ | omega))), ?_⟩
      conv => whnf
      refine app_step tB_ok (aLink []) ls (fun _ => rfl) rfl rfl rfl rfl ?_
      conv => whnf
      refine ⟨⟨rfl, rfl, Nat.le_refl _, by show 0 + ls.length ≤ ls.length; omega, by show (0 + ls.length) * 33 ≤ _; omega⟩, ?_⟩
      conv => whnf
      refine call_step hn rfl rfl ?_
      conv => whnf
      refine ⟨(by repeat' (first | exact trivial | exact rfl | refine And.intro ?_ ?_ | ((conv => whnf); first | exact trivial | exact rfl | refine And.intro ?_ ?_ | omega))), (by
        repeat' (first | exact trivial | exact rfl | refine And.intro ?_ ?_ | ((conv => whnf); first | exact trivial | exact rfl | refine And.intro ?_ ?_ | omega))
        all_goals first | exact (congrArg aSpan (appZ bs) : _) | exact (congrArg aLink (appZ ls) : _)), ?_⟩
      conv => whnf
      refine ⟨fun hc => ?_, fun hc => absurd (by simpa using (show (c != 0) = false from hc)) hck⟩
      conv => whnf
      refine ⟨fun hc => ?_, fun hc => absurd hc (by simp)⟩
      conv => whnf
      refine ⟨?_, trivial⟩
      show (c != 0) = true
      simpa using hck

end Go.Proofs

