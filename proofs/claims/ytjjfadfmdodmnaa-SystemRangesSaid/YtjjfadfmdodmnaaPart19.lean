/-
  A part of the proof that a law of dryweightlaw03 answers true: lemmas of a symbolic walk, plain functions, or contracts of the functions walked (X4, W2, X5). Conditions: none.
-/
import Derived.Test.YtjjfadfmdodmnaaPart18
import Derived.Test.YtjjfadfmdodmnaaPart09
set_option maxRecDepth 100000
namespace Go.Proofs
open Go.Sx

theorem without_len (ls : List Lnk) (id : Int) : (withoutF ls id).length ≤ ls.length := List.length_filter_le _ _

theorem refWithout_t (bs : List (Int × Int)) (ls : List Lnk) (id : Int) (hl : ls.length ≤ 100000) :
    Triple Try.prog 88 [sysA bs.length ls.length, iv .i64 id] (sysH bs ls) 2 (.agg [.s 0 0 bs.length 2, .s 2 0 (withoutF ls id).length 4]) [(2, true, .arr (aLink (withoutF ls id)))] := by
  refine triple_of tB_ok Try.func88 rfl Try.call88 rfl ?_
  intro ρ w hH
  conv => whnf
  refine loop_step tB_ok (G := Nat × List Lnk) 1 [] (fun g => [(6, iv .i64 g.1)]) (fun g => [(4, true, .cells [.s 0 0 bs.length 2, .s 5 0 g.2.length 4]), (5, true, .arr (aLink g.2))]) (fun g => g.1 ≤ ls.length ∧ g.2 = withoutF (ls.take g.1) id) (fun g => ls.length - g.1) ?_
  conv => whnf
  refine ⟨⟨(0, []), ⟨Nat.zero_le _, rfl⟩, ?_⟩, ?_⟩
  · conv => whnf
    repeat' (first | exact trivial | exact rfl | refine And.intro ?_ ?_ | ((conv => whnf); first | exact trivial | exact rfl | refine And.intro ?_ ?_ | omega))
  rintro ⟨i, xs⟩ ⟨hi, hxs⟩ ρ1 t1 hρ1
  have hi : i ≤ ls.length := hi
  have hxs : xs = withoutF (ls.take i) id := hxs
  have hxl : xs.length ≤ ls.length := by rw [hxs]; refine Nat.le_trans (without_len _ _) ?_; rw [List.length_take]; omega
  dsimp only
  conv => whnf
  refine ⟨fun hc => ?_, fun hc => ?_⟩
  · have hlt : i < ls.length := by simpa using hc
    have hst : withoutF (ls.take (i + 1)) id = xs ++ (if ls[i].i != id then [ls[i]] else []) := by
      unfold withoutF at *
      rw [filter_take_succ hlt, ← hxs]
    conv => whnf
    refine ⟨i, rfl, hlt, hlt, ?_⟩
    conv => whnf
    refine ⟨fun hc => ?_, fun hc => ?_⟩
    · have hne : (ls[i].i != id) = true := hc
      rw [hne, if_pos rfl] at hst
      conv => whnf
      refine ⟨i, rfl, hlt, hlt, ?_⟩
      conv => whnf
      refine bs_step tB_ok (aLink [ls[i]]) rfl rfl ?_
      conv => whnf
      refine ⟨⟨rfl, ⟨rfl, rfl, rfl, rfl, trivial⟩⟩, ?_⟩
      conv => whnf
      refine app_step tB_ok (aLink xs) [ls[i]] (fun _ => rfl) rfl rfl rfl rfl ?_
      conv => whnf
      refine ⟨⟨rfl, rfl, Nat.le_refl _, Nat.le_refl _, by show (xs.length + 1) * 33 ≤ _; omega⟩, ?_⟩
      conv => whnf
      refine ⟨_, wrapId ⟨by omega, by omega⟩, ?_⟩
      refine ⟨(i + 1, xs ++ [ls[i]]), ⟨hlt, hst.symm⟩, by show ls.length - (i + 1) < ls.length - i; omega, ?_⟩
      conv => whnf
      refine ⟨rfl, ?_⟩
      conv => whnf
      repeat' (first | exact trivial | exact rfl | refine And.intro ?_ ?_ | ((conv => whnf); first | exact trivial | exact rfl | refine And.intro ?_ ?_ | omega))
      all_goals first | exact (congrArg aLink app1 : _) | simp
    · have hne : (ls[i].i != id) = false := hc
      rw [hne, if_neg (by simp), List.append_nil] at hst
      conv => whnf
      refine ⟨_, wrapId ⟨by omega, by omega⟩, ?_⟩
      refine ⟨(i + 1, xs), ⟨hlt, hst.symm⟩, by show ls.length - (i + 1) < ls.length - i; omega, ?_⟩
      conv => whnf
      refine ⟨rfl, ?_⟩
      conv => whnf
      repeat' (first | exact trivial | exact rfl | refine And.intro ?_ ?_ | ((conv => whnf); first | exact trivial | exact rfl | refine And.intro ?_ ?_ | omega))
  have hie : i = ls.length := by simp at hc; omega
  rw [hie, List.take_length] at hxs
  subst hxs
  conv => whnf
  repeat' (first | exact trivial | exact rfl | refine And.intro ?_ ?_ | ((conv => whnf); first | exact trivial | exact rfl | refine And.intro ?_ ?_ | omega))

theorem refIDs_t (ls : List Lnk) (h : ls.length ≤ 100000) : Triple Try.prog 87 [.c (.s 0 0 ls.length 4)] [(0, false, .arr (aLink ls))] 1 (.c (.s 1 0 (refIds ls).length 1)) [(1, true, .arr (aInt (refIds ls)))] := by
  refine triple_of tB_ok Try.func87 rfl Try.call87 rfl ?_
  intro ρ w hH
  conv => whnf
  refine loop_step tB_ok (G := Nat × List Int) 1 [] (fun g => [(4, iv .i64 g.1), (3, .c (.s 1 0 g.2.length 1))]) (fun g => [(1, true, .arr (aInt g.2))]) (fun g => g.1 ≤ ls.length ∧ g.2 = refIds (ls.take g.1)) (fun g => ls.length - g.1) ?_
  conv => whnf
  refine ⟨⟨(0, []), ⟨Nat.zero_le _, rfl⟩, ?_⟩, ?_⟩
  · conv => whnf
    repeat' (first | exact trivial | exact rfl | refine And.intro ?_ ?_ | ((conv => whnf); first | exact trivial | exact rfl | refine And.intro ?_ ?_ | omega))
  rintro ⟨i, out⟩ ⟨hi, hout⟩ ρ1 t1 hρ1
  have hi : i ≤ ls.length := hi
  have hout : out = refIds (ls.take i) := hout
  have hol : out.length ≤ i := by
    rw [hout]
    have := refIds_len (ls.take i) []
    rw [List.length_take] at this
    unfold refIds
    simp at this ⊢
    omega
  dsimp only
  conv => whnf
  refine ⟨fun hc => ?_, fun hc => ?_⟩
  · have hlt : i < ls.length := by simpa using hc
    have hst : ∀ o, insI out ls[i].i = o → o = refIds (ls.take (i + 1)) := by
      intro o ho
      rw [← ho, take_snoc hlt, hout]
      unfold refIds
      rw [List.foldl_append]; rfl
    conv => whnf
    refine loop_step tB_ok (G := Nat) 0 [] (fun k => [(5, iv .i64 k)]) (fun _ => []) (fun k => k ≤ out.length ∧ ∀ y ∈ out.take k, y < ls[i].i) (fun k => out.length - k) ?_
    conv => whnf
    refine ⟨⟨0, ⟨Nat.zero_le _, by simp⟩, ?_⟩, ?_⟩
    · conv => whnf
      repeat' (first | exact trivial | exact rfl | refine And.intro ?_ ?_ | ((conv => whnf); first | exact trivial | exact rfl | refine And.intro ?_ ?_ | omega))
    intro k hkk ρ2 t2 hρ2
    obtain ⟨hk, hpre⟩ := hkk
    have hk : k ≤ out.length := hk
    have hpre : ∀ y ∈ out.take k, y < ls[i].i := hpre
    conv => whnf
    refine ⟨fun hc => ?_, fun hc => ?_⟩
    · have hkl : k < out.length := by simpa using hc
      conv => whnf
      refine ⟨k, rfl, hkl, hkl, ?_⟩
      conv => whnf
      refine ⟨i, rfl, hlt, hlt, ?_⟩
      conv => whnf
      refine ⟨fun hc => ?_, fun hc => ?_⟩
      · have hlo : out[k] < ls[i].i := of_decide_eq_true (show decide (out[k] < ls[i].i) = true from hc)
        conv => whnf
        refine ⟨(k : Int) + 1, wrapId (z := (k : Int) + 1) ⟨by omega, by omega⟩, ?_⟩
        refine ⟨k + 1, ⟨hkl, fun y hy => ?_⟩, by show out.length - (k + 1) < out.length - k; omega, ?_⟩
        · rw [take_snoc hkl] at hy
          rcases List.mem_append.1 hy with hy | hy
          · exact hpre y hy
          · simp at hy; rw [hy]; exact hlo
        conv => whnf
        refine ⟨rfl, ?_⟩
        conv => whnf
        repeat' (first | exact trivial | exact rfl | refine And.intro ?_ ?_ | ((conv => whnf); first | exact trivial | exact rfl | refine And.intro ?_ ?_ | omega))
      · have hlo : ¬ out[k] < ls[i].i := of_decide_eq_false (show decide (out[k] < ls[i].i) = false from hc)
        have hend : k = out.length ∨ ∃ h : k < out.length, ¬ out[k] < ls[i].i := .inr ⟨hkl, hlo⟩
        have hpos : posI ls[i].i out = k := posI_of hk hpre hend
        conv => whnf
        refine ⟨i, rfl, hlt, hlt, ?_⟩
        conv => whnf
        refine ⟨fun hc => ?_, fun hc => ?_⟩
        · have h0 : ls[i].i = 0 := by simpa using (show (ls[i].i == 0) = true from hc)
          have e : insI out ls[i].i = out := by unfold insI; rw [if_pos (.inl h0)]
          conv => whnf
          refine ⟨(i : Int) + 1, wrapId (z := (i : Int) + 1) ⟨by omega, by omega⟩, ?_⟩
          refine ⟨(i + 1, out), ⟨hlt, hst out e⟩, by show ls.length - (i + 1) < ls.length - i; omega, ?_⟩
          conv => whnf
          refine ⟨rfl, ?_⟩
          conv => whnf
          repeat' (first | exact trivial | exact rfl | refine And.intro ?_ ?_ | ((conv => whnf); first | exact trivial | exact rfl | refine And.intro ?_ ?_ | omega))
        have h0 : ls[i].i ≠ 0 := by simpa using (show (ls[i].i == 0) = false from hc)
        conv => whnf
        refine ⟨fun hc => ?_, fun hc => ?_⟩
        · have h1 : k < out.length := by simpa using hc
          conv => whnf
          refine ⟨k, rfl, h1, h1, ?_⟩
          conv => whnf
          refine ⟨i, rfl, hlt, hlt, ?_⟩
          conv => whnf
          refine ⟨fun hc => ?_, fun hc => ?_⟩
          · have h2 : out[k] = ls[i].i := by simpa using (show (out[k] == ls[i].i) = true from hc)
            have e : insI out ls[i].i = out := by unfold insI; rw [if_pos (.inr (by simp only [hpos]; exact ⟨h1, h2⟩))]
            conv => whnf
            refine ⟨(i : Int) + 1, wrapId (z := (i : Int) + 1) ⟨by omega, by omega⟩, ?_⟩
            refine ⟨(i + 1, out), ⟨hlt, hst out e⟩, by show ls.length - (i + 1) < ls.length - i; omega, ?_⟩
            conv => whnf
            refine ⟨rfl, ?_⟩
            conv => whnf
            repeat' (first | exact trivial | exact rfl | refine And.intro ?_ ?_ | ((conv => whnf); first | exact trivial | exact rfl | refine And.intro ?_ ?_ | omega))
          · have h2 : out[k] ≠ ls[i].i := by simpa using (show (out[k] == ls[i].i) = false from hc)
            have e : insI out ls[i].i = (out.take k ++ [ls[i].i]) ++ (out.drop k).take (out.length - k) := by
              unfold insI
              rw [if_neg (by rintro (h | h); exact h0 h; simp only [hpos] at h; exact h2 h.2), hpos, List.append_assoc, List.take_of_length_le (Nat.le_of_eq List.length_drop)]; rfl
            have htk : (out.take k).length = k := by rw [List.length_take]; omega
            have hst2 := hst _ e
            conv => whnf
            refine ⟨k, rfl, hk, ?_⟩
            conv => whnf
            refine ⟨Nat.zero_le _, ?_⟩
            conv => whnf
            refine appNil_step tB_ok (aInt []) out (fun _ => rfl) rfl rfl rfl rfl ?_
            conv => whnf
            refine ⟨⟨rfl, rfl, by show addN 0 0 + subN k 0 ≤ @List.length Int out; simp only [addN_eq, subN_eq]; omega, by show subN k 0 * 9 ≤ _; rw [subN_eq]; omega⟩, ?_⟩
            conv => whnf
            refine ⟨i, rfl, hlt, hlt, ?_⟩
            conv => whnf
            refine bs_step tB_ok (aInt [ls[i].i]) rfl rfl ?_
            conv => whnf
            refine ⟨⟨rfl, rfl, trivial⟩, ?_⟩
            conv => whnf
            refine app_step tB_ok (aInt (out.take k)) [ls[i].i] (fun _ => rfl) rfl rfl rfl rfl ?_
            conv => whnf
            refine ⟨⟨rfl, rfl, by show subN k 0 ≤ (out.take k).length; rw [subN_eq]; omega, Nat.le_refl _, by show (subN k 0 + 1) * 9 ≤ _; rw [subN_eq]; omega⟩, ?_⟩
            conv => whnf
            refine ⟨Nat.le_refl _, k, rfl, hk, ?_⟩
            conv => whnf
            refine app_step tB_ok (aInt (out.take k ++ [ls[i].i])) out (fun _ => rfl) rfl rfl rfl rfl ?_
            conv => whnf
            refine ⟨⟨congrArg aInt (by show List.take (subN k 0) (out.take k) ++ [ls[i].i] = _; rw [subN_eq, Nat.sub_zero, List.take_of_length_le (by omega)]), rfl,
              by show subN k 0 + 1 ≤ (out.take k ++ [ls[i].i]).length; rw [subN_eq, List.length_append, htk]; simp, by show addN 0 k + subN out.length k ≤ @List.length Int out; simp only [addN_eq, subN_eq]; omega, by show (subN k 0 + 1 + subN out.length k) * 9 ≤ _; simp only [subN_eq]; omega⟩, ?_⟩
            conv => whnf
            refine ⟨(i : Int) + 1, wrapId (z := (i : Int) + 1) ⟨by omega, by omega⟩, ?_⟩
            refine ⟨(i + 1, (out.take k ++ [ls[i].i]) ++ (out.drop k).take (out.length - k)), ⟨hlt, hst2⟩, by show ls.length - (i + 1) < ls.length - i; omega, ?_⟩
            conv => whnf
            refine ⟨rfl, ?_⟩
            conv => whnf
            repeat' (first | exact trivial | exact rfl | refine And.intro ?_ ?_ | ((conv => whnf); first | exact trivial | exact rfl | refine And.intro ?_ ?_ | omega))
            all_goals first
              | (show subN k 0 + 1 + subN out.length k = ((out.take k ++ [ls[i].i]) ++ (out.drop k).take (out.length - k)).length
                 simp only [subN_eq, List.length_append, htk, List.length_take, List.length_drop, List.length_cons, List.length_nil]
                 omega)
              | (show aInt (List.take (subN k 0 + 1) (out.take k ++ [ls[i].i]) ++ List.take (subN out.length k) (List.drop (addN 0 k) out)) = aInt ((out.take k ++ [ls[i].i]) ++ (out.drop k).take (out.length - k))
                 rw [subN_eq, subN_eq, addN_eq, Nat.zero_add, Nat.sub_zero, List.take_of_length_le (l := out.take k ++ [ls[i].i]) (by rw [List.length_append, htk]; simp)])
        · have h1 : ¬ k < out.length := by simpa using hc
          have e : insI out ls[i].i = (out.take k ++ [ls[i].i]) ++ (out.drop k).take (out.length - k) := by
            unfold insI
            rw [if_neg (by rintro (h | h); exact h0 h; simp only [hpos] at h; exact h1 h.1), hpos, List.append_assoc, List.take_of_length_le (Nat.le_of_eq List.length_drop)]; rfl
          have htk : (out.take k).length = k := by rw [List.length_take]; omega
          have hst2 := hst _ e
          conv => whnf
          refine ⟨k, rfl, hk, ?_⟩
          conv => whnf
          refine ⟨Nat.zero_le _, ?_⟩
          conv => whnf
          refine appNil_step tB_ok (aInt []) out (fun _ => rfl) rfl rfl rfl rfl ?_
          conv => whnf
          refine ⟨⟨rfl, rfl, by show addN 0 0 + subN k 0 ≤ @List.length Int out; simp only [addN_eq, subN_eq]; omega, by show subN k 0 * 9 ≤ _; rw [subN_eq]; omega⟩, ?_⟩
          conv => whnf
          refine ⟨i, rfl, hlt, hlt, ?_⟩
          conv => whnf
          refine bs_step tB_ok (aInt [ls[i].i]) rfl rfl ?_
          conv => whnf
          refine ⟨⟨rfl, rfl, trivial⟩, ?_⟩
          conv => whnf
          refine app_step tB_ok (aInt (out.take k)) [ls[i].i] (fun _ => rfl) rfl rfl rfl rfl ?_
          conv => whnf
          refine ⟨⟨rfl, rfl, by show subN k 0 ≤ (out.take k).length; rw [subN_eq]; omega, Nat.le_refl _, by show (subN k 0 + 1) * 9 ≤ _; rw [subN_eq]; omega⟩, ?_⟩
          conv => whnf
          refine ⟨Nat.le_refl _, k, rfl, hk, ?_⟩
          conv => whnf
          refine app_step tB_ok (aInt (out.take k ++ [ls[i].i])) out (fun _ => rfl) rfl rfl rfl rfl ?_
          conv => whnf
          refine ⟨⟨congrArg aInt (by show List.take (subN k 0) (out.take k) ++ [ls[i].i] = _; rw [subN_eq, Nat.sub_zero, List.take_of_length_le (by omega)]), rfl,
            by show subN k 0 + 1 ≤ (out.take k ++ [ls[i].i]).length; rw [subN_eq, List.length_append, htk]; simp, by show addN 0 k + subN out.length k ≤ @List.length Int out; simp only [addN_eq, subN_eq]; omega, by show (subN k 0 + 1 + subN out.length k) * 9 ≤ _; simp only [subN_eq]; omega⟩, ?_⟩
          conv => whnf
          refine ⟨(i : Int) + 1, wrapId (z := (i : Int) + 1) ⟨by omega, by omega⟩, ?_⟩
          refine ⟨(i + 1, (out.take k ++ [ls[i].i]) ++ (out.drop k).take (out.length - k)), ⟨hlt, hst2⟩, by show ls.length - (i + 1) < ls.length - i; omega, ?_⟩
          conv => whnf
          refine ⟨rfl, ?_⟩
          conv => whnf
          repeat' (first | exact trivial | exact rfl | refine And.intro ?_ ?_ | ((conv => whnf); first | exact trivial | exact rfl | refine And.intro ?_ ?_ | omega))
          all_goals first
            | (show subN k 0 + 1 + subN out.length k = ((out.take k ++ [ls[i].i]) ++ (out.drop k).take (out.length - k)).length
               simp only [subN_eq, List.length_append, htk, List.length_take, List.length_drop, List.length_cons, List.length_nil]
               omega)
            | (show aInt (List.take (subN k 0 + 1) (out.take k ++ [ls[i].i]) ++ List.take (subN out.length k) (List.drop (addN 0 k) out)) = aInt ((out.take k ++ [ls[i].i]) ++ (out.drop k).take (out.length - k))
               rw [subN_eq, subN_eq, addN_eq, Nat.zero_add, Nat.sub_zero, List.take_of_length_le (l := out.take k ++ [ls[i].i]) (by rw [List.length_append, htk]; simp)])
    · have hke : k = out.length := by simp at hc; omega
      have hend : k = out.length ∨ ∃ h : k < out.length, ¬ out[k] < ls[i].i := .inl hke
      have hpos : posI ls[i].i out = k := posI_of hk hpre hend
      conv => whnf
      refine ⟨i, rfl, hlt, hlt, ?_⟩
      conv => whnf
      refine ⟨fun hc => ?_, fun hc => ?_⟩
      · have h0 : ls[i].i = 0 := by simpa using (show (ls[i].i == 0) = true from hc)
        have e : insI out ls[i].i = out := by unfold insI; rw [if_pos (.inl h0)]
        conv => whnf
        refine ⟨(i : Int) + 1, wrapId (z := (i : Int) + 1) ⟨by omega, by omega⟩, ?_⟩
        refine ⟨(i + 1, out), ⟨hlt, hst out e⟩, by show ls.length - (i + 1) < ls.length - i; omega, ?_⟩
        conv => whnf
        refine ⟨rfl, ?_⟩
        conv => whnf
        repeat' (first | exact trivial | exact rfl | refine And.intro ?_ ?_ | ((conv => whnf); first | exact trivial | exact rfl | refine And.intro ?_ ?_ | omega))
      have h0 : ls[i].i ≠ 0 := by simpa using (show (ls[i].i == 0) = false from hc)
      conv => whnf
      refine ⟨fun hc => ?_, fun hc => ?_⟩
      · have h1 : k < out.length := by simpa using hc
        conv => whnf
        refine ⟨k, rfl, h1, h1, ?_⟩
        conv => whnf
        refine ⟨i, rfl, hlt, hlt, ?_⟩
        conv => whnf
        refine ⟨fun hc => ?_, fun hc => ?_⟩
        · have h2 : out[k] = ls[i].i := by simpa using (show (out[k] == ls[i].i) = true from hc)
          have e : insI out ls[i].i = out := by unfold insI; rw [if_pos (.inr (by simp only [hpos]; exact ⟨h1, h2⟩))]
          conv => whnf
          refine ⟨(i : Int) + 1, wrapId (z := (i : Int) + 1) ⟨by omega, by omega⟩, ?_⟩
          refine ⟨(i + 1, out), ⟨hlt, hst out e⟩, by show ls.length - (i + 1) < ls.length - i; omega, ?_⟩
          conv => whnf
          refine ⟨rfl, ?_⟩
          conv => whnf
          repeat' (first | exact trivial | exact rfl | refine And.intro ?_ ?_ | ((conv => whnf); first | exact trivial | exact rfl | refine And.intro ?_ ?_ | omega))
        · have h2 : out[k] ≠ ls[i].i := by simpa using (show (out[k] == ls[i].i) = false from hc)
          have e : insI out ls[i].i = (out.take k ++ [ls[i].i]) ++ (out.drop k).take (out.length - k) := by
            unfold insI
            rw [if_neg (by rintro (h | h); exact h0 h; simp only [hpos] at h; exact h2 h.2), hpos, List.append_assoc, List.take_of_length_le (Nat.le_of_eq List.length_drop)]; rfl
          have htk : (out.take k).length = k := by rw [List.length_take]; omega
          have hst2 := hst _ e
          conv => whnf
          refine ⟨k, rfl, hk, ?_⟩
          conv => whnf
          refine ⟨Nat.zero_le _, ?_⟩
          conv => whnf
          refine appNil_step tB_ok (aInt []) out (fun _ => rfl) rfl rfl rfl rfl ?_
          conv => whnf
          refine ⟨⟨rfl, rfl, by show addN 0 0 + subN k 0 ≤ @List.length Int out; simp only [addN_eq, subN_eq]; omega, by show subN k 0 * 9 ≤ _; rw [subN_eq]; omega⟩, ?_⟩
          conv => whnf
          refine ⟨i, rfl, hlt, hlt, ?_⟩
          conv => whnf
          refine bs_step tB_ok (aInt [ls[i].i]) rfl rfl ?_
          conv => whnf
          refine ⟨⟨rfl, rfl, trivial⟩, ?_⟩
          conv => whnf
          refine app_step tB_ok (aInt (out.take k)) [ls[i].i] (fun _ => rfl) rfl rfl rfl rfl ?_
          conv => whnf
          refine ⟨⟨rfl, rfl, by show subN k 0 ≤ (out.take k).length; rw [subN_eq]; omega, Nat.le_refl _, by show (subN k 0 + 1) * 9 ≤ _; rw [subN_eq]; omega⟩, ?_⟩
          conv => whnf
          refine ⟨Nat.le_refl _, k, rfl, hk, ?_⟩
          conv => whnf
          refine app_step tB_ok (aInt (out.take k ++ [ls[i].i])) out (fun _ => rfl) rfl rfl rfl rfl ?_
          conv => whnf
          refine ⟨⟨congrArg aInt (by show List.take (subN k 0) (out.take k) ++ [ls[i].i] = _; rw [subN_eq, Nat.sub_zero, List.take_of_length_le (by omega)]), rfl,
            by show subN k 0 + 1 ≤ (out.take k ++ [ls[i].i]).length; rw [subN_eq, List.length_append, htk]; simp, by show addN 0 k + subN out.length k ≤ @List.length Int out; simp only [addN_eq, subN_eq]; omega, by show (subN k 0 + 1 + subN out.length k) * 9 ≤ _; simp only [subN_eq]; omega⟩, ?_⟩
          conv => whnf
          refine ⟨(i : Int) + 1, wrapId (z := (i : Int) + 1) ⟨by omega, by omega⟩, ?_⟩
          refine ⟨(i + 1, (out.take k ++ [ls[i].i]) ++ (out.drop k).take (out.length - k)), ⟨hlt, hst2⟩, by show ls.length - (i + 1) < ls.length - i; omega, ?_⟩
          conv => whnf
          refine ⟨rfl, ?_⟩
          conv => whnf
          repeat' (first | exact trivial | exact rfl | refine And.intro ?_ ?_ | ((conv => whnf); first | exact trivial | exact rfl | refine And.intro ?_ ?_ | omega))
          all_goals first
            | (show subN k 0 + 1 + subN out.length k = ((out.take k ++ [ls[i].i]) ++ (out.drop k).take (out.length - k)).length
               simp only [subN_eq, List.length_append, htk, List.length_take, List.length_drop, List.length_cons, List.length_nil]
               omega)
            | (show aInt (List.take (subN k 0 + 1) (out.take k ++ [ls[i].i]) ++ List.take (subN out.length k) (List.drop (addN 0 k) out)) = aInt ((out.take k ++ [ls[i].i]) ++ (out.drop k).take (out.length - k))
               rw [subN_eq, subN_eq, addN_eq, Nat.zero_add, Nat.sub_zero, List.take_of_length_le (l := out.take k ++ [ls[i].i]) (by rw [List.length_append, htk]; simp)])
      · have h1 : ¬ k < out.length := by simpa using hc
        have e : insI out ls[i].i = (out.take k ++ [ls[i].i]) ++ (out.drop k).take (out.length - k) := by
          unfold insI
          rw [if_neg (by rintro (h | h); exact h0 h; simp only [hpos] at h; exact h1 h.1), hpos, List.append_assoc, List.take_of_length_le (Nat.le_of_eq List.length_drop)]; rfl
        have htk : (out.take k).length = k := by rw [List.length_take]; omega
        have hst2 := hst _ e
        conv => whnf
        refine ⟨k, rfl, hk, ?_⟩
        conv => whnf
        refine ⟨Nat.zero_le _, ?_⟩
        conv => whnf
        refine appNil_step tB_ok (aInt []) out (fun _ => rfl) rfl rfl rfl rfl ?_
        conv => whnf
        refine ⟨⟨rfl, rfl, by show addN 0 0 + subN k 0 ≤ @List.length Int out; simp only [addN_eq, subN_eq]; omega, by show subN k 0 * 9 ≤ _; rw [subN_eq]; omega⟩, ?_⟩
        conv => whnf
        refine ⟨i, rfl, hlt, hlt, ?_⟩
        conv => whnf
        refine bs_step tB_ok (aInt [ls[i].i]) rfl rfl ?_
        conv => whnf
        refine ⟨⟨rfl, rfl, trivial⟩, ?_⟩
        conv => whnf
        refine app_step tB_ok (aInt (out.take k)) [ls[i].i] (fun _ => rfl) rfl rfl rfl rfl ?_
        conv => whnf
        refine ⟨⟨rfl, rfl, by show subN k 0 ≤ (out.take k).length; rw [subN_eq]; omega, Nat.le_refl _, by show (subN k 0 + 1) * 9 ≤ _; rw [subN_eq]; omega⟩, ?_⟩
        conv => whnf
        refine ⟨Nat.le_refl _, k, rfl, hk, ?_⟩
        conv => whnf
        refine app_step tB_ok (aInt (out.take k ++ [ls[i].i])) out (fun _ => rfl) rfl rfl rfl rfl ?_
        conv => whnf
        refine ⟨⟨congrArg aInt (by show List.take (subN k 0) (out.take k) ++ [ls[i].i] = _; rw [subN_eq, Nat.sub_zero, List.take_of_length_le (by omega)]), rfl,
          by show subN k 0 + 1 ≤ (out.take k ++ [ls[i].i]).length; rw [subN_eq, List.length_append, htk]; simp, by show addN 0 k + subN out.length k ≤ @List.length Int out; simp only [addN_eq, subN_eq]; omega, by show (subN k 0 + 1 + subN out.length k) * 9 ≤ _; simp only [subN_eq]; omega⟩, ?_⟩
        conv => whnf
        refine ⟨(i : Int) + 1, wrapId (z := (i : Int) + 1) ⟨by omega, by omega⟩, ?_⟩
        refine ⟨(i + 1, (out.take k ++ [ls[i].i]) ++ (out.drop k).take (out.length - k)), ⟨hlt, hst2⟩, by show ls.length - (i + 1) < ls.length - i; omega, ?_⟩
        conv => whnf
        refine ⟨rfl, ?_⟩
        conv => whnf
        repeat' (first | exact trivial | exact rfl | refine And.intro ?_ ?_ | ((conv => whnf); first | exact trivial | exact rfl | refine And.intro ?_ ?_ | omega))
        all_goals first
          | (show subN k 0 + 1 + subN out.length k = ((out.take k ++ [ls[i].i]) ++ (out.drop k).take (out.length - k)).length
             simp only [subN_eq, List.length_append, htk, List.length_take, List.length_drop, List.length_cons, List.length_nil]
             omega)
          | (show aInt (List.take (subN k 0 + 1) (out.take k ++ [ls[i].i]) ++ List.take (subN out.length k) (List.drop (addN 0 k) out)) = aInt ((out.take k ++ [ls[i].i]) ++ (out.drop k).take (out.length - k))
             rw [subN_eq, subN_eq, addN_eq, Nat.zero_add, Nat.sub_zero, List.take_of_length_le (l := out.take k ++ [ls[i].i]) (by rw [List.length_append, htk]; simp)])
  have hie : i = ls.length := by simp at hc; omega
  rw [hie, List.take_length] at hout
  subst hout
  conv => whnf
  repeat' (first | exact trivial | exact rfl | refine And.intro ?_ ?_ | ((conv => whnf); first | exact trivial | exact rfl | refine And.intro ?_ ?_ | omega))

theorem withoutF_ok {bs : List (Int × Int)} {ls : List Lnk} (hs : SysOK bs ls) (id : Int) : SysOK bs (withoutF ls id) :=
  ⟨hs.nb, Nat.le_trans (without_len ls id) hs.nl, hs.box, fun l hl => hs.lnk l (List.mem_filter.1 hl).1⟩

def refNeedsF (bs : List (Int × Int)) (ls : List Lnk) (a b : Int) : List Int := (refIds ls).filter fun id => decide (greatF bs.length (allF bs ls) a b < greatF bs.length (allF bs (withoutF ls id)) a b)

theorem refNeeds_t (bs : List (Int × Int)) (ls : List Lnk) (a b : Int) (hs : SysOK bs ls) (ha : -1 ≤ a ∧ a < bs.length) (hb : -1 ≤ b ∧ b < bs.length) :
    Triple Try.prog 24 [sysA bs.length ls.length, iv .i64 a, iv .i64 b] (sysH bs ls) 2 (.tup [.inl (.s 2 0 (refNeedsF bs ls a b).length 1), .inl (.v (.int .i64 0))]) [(2, true, .arr (aInt (refNeedsF bs ls a b)))] := by
  refine triple_of tB_ok Try.func24 rfl Try.call24 rfl ?_
  intro ρ w hH
  conv => whnf
  have hnb := hs.nb
  have hnl := hs.nl
  have hpa : placeF bs.length a = true := by simp [placeF]; omega
  have hpb : placeF bs.length b = true := by simp [placeF]; omega
  refine call_step (refPlace_t bs ls a) rfl rfl ?_
  conv => whnf
  refine ⟨(by repeat' (first | exact trivial | exact rfl | refine And.intro ?_ ?_ | ((conv => whnf); first | exact trivial | exact rfl | refine And.intro ?_ ?_ | omega))), (by repeat' (first | exact trivial | exact rfl | refine And.intro ?_ ?_ | ((conv => whnf); first | exact trivial | exact rfl | refine And.intro ?_ ?_ | omega))), ?_⟩
  conv => whnf
  rw [hpa]
  refine ⟨fun hc => ?_, fun hc => ?_⟩
  · exact absurd hc (by simp)
  conv => whnf
  refine call_step (refPlace_t bs ls b) rfl rfl ?_
  conv => whnf
  refine ⟨(by repeat' (first | exact trivial | exact rfl | refine And.intro ?_ ?_ | ((conv => whnf); first | exact trivial | exact rfl | refine And.intro ?_ ?_ | omega))), (by repeat' (first | exact trivial | exact rfl | refine And.intro ?_ ?_ | ((conv => whnf); first | exact trivial | exact rfl | refine And.intro ?_ ?_ | omega))), ?_⟩
  conv => whnf
  rw [hpb]
  refine ⟨fun hc => ?_, fun hc => ?_⟩
  · exact absurd hc (by simp)
  conv => whnf
  refine call_step (greatest_t bs ls a b (by omega) hs.boxB (by omega) (allF_ok hs) ha hb) rfl rfl ?_
  conv => whnf
  refine ⟨(by repeat' (first | exact trivial | exact rfl | refine And.intro ?_ ?_ | ((conv => whnf); first | exact trivial | exact rfl | refine And.intro ?_ ?_ | omega))), (by repeat' (first | exact trivial | exact rfl | refine And.intro ?_ ?_ | ((conv => whnf); first | exact trivial | exact rfl | refine And.intro ?_ ?_ | omega))), ?_⟩
  conv => whnf
  refine call_step (refIDs_t ls (by omega)) rfl rfl ?_
  conv => whnf
  refine ⟨(by repeat' (first | exact trivial | exact rfl | refine And.intro ?_ ?_ | ((conv => whnf); first | exact trivial | exact rfl | refine And.intro ?_ ?_ | omega))), (by repeat' (first | exact trivial | exact rfl | refine And.intro ?_ ?_ | ((conv => whnf); first | exact trivial | exact rfl | refine And.intro ?_ ?_ | omega))), ?_⟩
  conv => whnf
  have hF : refNeedsF bs ls a b = (refIds ls).filter fun id => decide (greatF bs.length (allF bs ls) a b < greatF bs.length (allF bs (withoutF ls id)) a b) := rfl
  have hil : (refIds ls).length ≤ 1200 := by
    have := refIds_len ls []
    unfold refIds
    simp at this ⊢
    omega
  generalize refNeedsF bs ls a b = res at *
  generalize hids : refIds ls = ids at *
  generalize hmost : greatF bs.length (allF bs ls) a b = most at *
  refine loop_step tB_ok (G := Nat × List Int) 1 [] (fun g => [(11, iv .i64 g.1), (8, .c (.s 4 0 g.2.length 1))]) (fun g => [(4, true, .arr (aInt g.2))]) (fun g => g.1 ≤ ids.length ∧ g.2 = (ids.take g.1).filter fun id => decide (most < greatF bs.length (allF bs (withoutF ls id)) a b)) (fun g => ids.length - g.1) ?_
  conv => whnf
  refine ⟨⟨(0, []), ⟨Nat.zero_le _, rfl⟩, ?_⟩, ?_⟩
  · conv => whnf
    repeat' (first | exact trivial | exact rfl | refine And.intro ?_ ?_ | ((conv => whnf); first | exact trivial | exact rfl | refine And.intro ?_ ?_ | omega))
  rintro ⟨i, out⟩ ⟨hi, hout⟩ ρ1 t1 hρ1
  have hi : i ≤ ids.length := hi
  have hout : out = (ids.take i).filter fun id => decide (most < greatF bs.length (allF bs (withoutF ls id)) a b) := hout
  have hol : out.length ≤ ids.length := by rw [hout]; refine Nat.le_trans (List.length_filter_le _ _) ?_; rw [List.length_take]; omega
  dsimp only
  conv => whnf
  refine ⟨fun hc => ?_, fun hc => ?_⟩
  · have hlt : i < ids.length := by simpa using hc
    have hst := filter_take_succ (p := fun id => decide (most < greatF bs.length (allF bs (withoutF ls id)) a b)) hlt
    rw [← hout] at hst
    conv => whnf
    refine ⟨i, rfl, hlt, hlt, ?_⟩
    conv => whnf
    refine call_step (refWithout_t bs ls ids[i] (by omega)) rfl rfl ?_
    conv => whnf
    refine ⟨(by repeat' (first | exact trivial | exact rfl | refine And.intro ?_ ?_ | ((conv => whnf); first | exact trivial | exact rfl | refine And.intro ?_ ?_ | omega))), (by repeat' (first | exact trivial | exact rfl | refine And.intro ?_ ?_ | ((conv => whnf); first | exact trivial | exact rfl | refine And.intro ?_ ?_ | omega))), ?_⟩
    conv => whnf
    have hs2 := withoutF_ok hs ids[i]
    have hl2 := hs2.nl
    refine call_step (greatest_t bs (withoutF ls ids[i]) a b (by omega) hs2.boxB (by omega) (allF_ok hs2) ha hb) rfl rfl ?_
    conv => whnf
    refine ⟨(by repeat' (first | exact trivial | exact rfl | refine And.intro ?_ ?_ | ((conv => whnf); first | exact trivial | exact rfl | refine And.intro ?_ ?_ | omega))), (by repeat' (first | exact trivial | exact rfl | refine And.intro ?_ ?_ | ((conv => whnf); first | exact trivial | exact rfl | refine And.intro ?_ ?_ | omega))), ?_⟩
    conv => whnf
    refine ⟨fun hc => ?_, fun hc => ?_⟩
    · have hg : most < greatF bs.length (allF bs (withoutF ls ids[i])) a b := of_decide_eq_true (show decide (most < greatF bs.length (allF bs (withoutF ls ids[i])) a b) = true from hc)
      rw [if_pos (decide_eq_true hg)] at hst
      conv => whnf
      refine ⟨i, rfl, hlt, hlt, ?_⟩
      conv => whnf
      refine bs_step tB_ok (aInt [ids[i]]) rfl rfl ?_
      conv => whnf
      refine ⟨⟨rfl, rfl, trivial⟩, ?_⟩
      conv => whnf
      refine app_step tB_ok (aInt out) [ids[i]] (fun _ => rfl) rfl rfl rfl rfl ?_
      conv => whnf
      refine ⟨⟨rfl, rfl, Nat.le_refl _, Nat.le_refl _, by show (out.length + 1) * 9 ≤ _; omega⟩, ?_⟩
      conv => whnf
      refine ⟨_, wrapId ⟨by omega, by omega⟩, ?_⟩
      refine ⟨(i + 1, out ++ [ids[i]]), ⟨hlt, hst.symm⟩, by show ids.length - (i + 1) < ids.length - i; omega, ?_⟩
      conv => whnf
      refine ⟨rfl, ?_⟩
      conv => whnf
      repeat' (first | exact trivial | exact rfl | refine And.intro ?_ ?_ | ((conv => whnf); first | exact trivial | exact rfl | refine And.intro ?_ ?_ | omega))
      all_goals first | exact (congrArg aInt app1 : _) | simp
    · have hg : ¬ most < greatF bs.length (allF bs (withoutF ls ids[i])) a b := of_decide_eq_false (show decide (most < greatF bs.length (allF bs (withoutF ls ids[i])) a b) = false from hc)
      rw [if_neg (by simpa using hg), List.append_nil] at hst
      conv => whnf
      refine ⟨_, wrapId ⟨by omega, by omega⟩, ?_⟩
      refine ⟨(i + 1, out), ⟨hlt, hst.symm⟩, by show ids.length - (i + 1) < ids.length - i; omega, ?_⟩
      conv => whnf
      refine ⟨rfl, ?_⟩
      conv => whnf
      repeat' (first | exact trivial | exact rfl | refine And.intro ?_ ?_ | ((conv => whnf); first | exact trivial | exact rfl | refine And.intro ?_ ?_ | omega))
  have hie : i = ids.length := by simp at hc; omega
  rw [hie, List.take_length, ← hF] at hout
  subst hout
  conv => whnf
  repeat' (first | exact trivial | exact rfl | refine And.intro ?_ ?_ | ((conv => whnf); first | exact trivial | exact rfl | refine And.intro ?_ ?_ | omega))

theorem refNeedsErr_t (bs : List (Int × Int)) (ls : List Lnk) (a b : Int) (hp : placeF bs.length a = false ∨ placeF bs.length b = false) :
    Triple Try.prog 24 [sysA bs.length ls.length, iv .i64 a, iv .i64 b] (sysH bs ls) 2 (.tup [.inl (.v (.slice none 0 0)), .inl (.v (.int .i64 1))]) [] := by
  refine triple_of tB_ok Try.func24 rfl Try.call24 rfl ?_
  intro ρ w hH
  conv => whnf
  refine call_step (refPlace_t bs ls a) rfl rfl ?_
  conv => whnf
  refine ⟨(by repeat' (first | exact trivial | exact rfl | refine And.intro ?_ ?_ | ((conv => whnf); first | exact trivial | exact rfl | refine And.intro ?_ ?_ | omega))), (by repeat' (first | exact trivial | exact rfl | refine And.intro ?_ ?_ | ((conv => whnf); first | exact trivial | exact rfl | refine And.intro ?_ ?_ | omega))), ?_⟩
  conv => whnf
  refine ⟨fun hc => ?_, fun hc => ?_⟩
  · conv => whnf
    repeat' (first | exact trivial | exact rfl | refine And.intro ?_ ?_ | ((conv => whnf); first | exact trivial | exact rfl | refine And.intro ?_ ?_ | omega))
  conv => whnf
  refine call_step (refPlace_t bs ls b) rfl rfl ?_
  conv => whnf
  refine ⟨(by repeat' (first | exact trivial | exact rfl | refine And.intro ?_ ?_ | ((conv => whnf); first | exact trivial | exact rfl | refine And.intro ?_ ?_ | omega))), (by repeat' (first | exact trivial | exact rfl | refine And.intro ?_ ?_ | ((conv => whnf); first | exact trivial | exact rfl | refine And.intro ?_ ?_ | omega))), ?_⟩
  conv => whnf
  refine ⟨fun hc => ?_, fun hc => ?_⟩
  · conv => whnf
    repeat' (first | exact trivial | exact rfl | refine And.intro ?_ ?_ | ((conv => whnf); first | exact trivial | exact rfl | refine And.intro ?_ ?_ | omega))
  · simp at *
    simp_all

end Go.Proofs

namespace Go.Proofs
open Go.Sx

theorem ints_t (xs ys : List Int) (hb : xs.length ≤ 1000000) : Triple Try.prog 27 [.c (.s 0 0 xs.length 1), .c (.s 1 0 ys.length 1)] [(0, false, .arr (aInt xs)), (1, false, .arr (aInt ys))] 2 (bv (xs == ys)) [] := by
  refine triple_of tB_ok Try.func27 rfl Try.call27 rfl ?_
  intro ρ w hH
  conv => whnf
  refine ⟨fun h => ?_, fun h => ?_⟩
  · conv => whnf
    refine ⟨(?_ : false = (xs == ys)), trivial⟩
    have : xs ≠ ys := by rintro rfl; simp at h
    simp [this]
  · conv => whnf
    refine loop_step tB_ok (G := Nat) 0 [] (fun i => [(5, iv .i64 i)]) (fun _ => []) (fun i => i ≤ xs.length ∧ xs.take i = ys.take i) (fun i => xs.length - i) ?_
    conv => whnf
    have hl : xs.length = ys.length := by simp at h; omega
    refine ⟨⟨0, ⟨Nat.zero_le _, by simp⟩, ?_⟩, ?_⟩
    · conv => whnf
      exact ⟨⟨rfl, trivial⟩, trivial⟩
    · intro i hi ρ1 t1 hρ1
      conv => whnf
      refine ⟨fun h1 => ?_, fun h1 => ?_⟩
      · conv => whnf
        have h1 : i < xs.length := by simpa using h1
        refine ⟨i, rfl, h1, h1, ?_⟩
        conv => whnf
        refine ⟨i, rfl, by omega, (by omega : i < ys.length), ?_⟩
        conv => whnf
        refine ⟨fun h2 => ?_, fun h2 => ?_⟩
        · conv => whnf
          refine ⟨(?_ : false = (xs == ys)), trivial⟩
          have h2 : (xs[i] != ys[i]'(by omega)) = true := h2
          have : xs ≠ ys := by rintro rfl; simp at h2
          simp [this]
        · have h2 : (xs[i] != ys[i]'(by omega)) = false := h2
          conv => whnf
          refine ⟨_, rfl, ?_⟩
          conv => whnf
          refine ⟨i + 1, ⟨by omega, ?_⟩, (by show xs.length - (i + 1) < xs.length - i; omega), ?_⟩
          · simp at h2
            rw [List.take_succ_eq_append_getElem h1, List.take_succ_eq_append_getElem (by omega), hi.2, h2]
          · conv => whnf
            refine ⟨rfl, ?_⟩
            conv => whnf
            refine ⟨⟨?_, trivial⟩, trivial⟩
            conv => whnf
            exact wrapId ⟨by omega, by omega⟩
      · conv => whnf
        have h1 : ¬ i < xs.length := by simpa using h1
        refine ⟨(?_ : true = (xs == ys)), trivial⟩
        have : xs = ys := by
          have := hi.2
          rwa [List.take_of_length_le (by omega), List.take_of_length_le (by omega)] at this
        simp [this]

end Go.Proofs

namespace Go.Proofs
open Go.Sx

theorem graphF_without {bs : List (Int × Int)} {ls : List Lnk} {id : Int} (h : id ≠ 0) : allF bs (withoutF ls id) = graphF bs ls id := by
  unfold allF graphF withoutF allF
  rw [List.filter_append]
  congr 1
  · symm
    refine List.filter_eq_self.2 fun l hl => ?_
    have hi : l.i = 0 := by
      obtain ⟨i, b, _, h1 | h1⟩ := boxLinks_mem hl <;> rw [h1]
    unfold keeps
    rw [hi]
    have : (0 : Int) ≠ id := fun h2 => h h2.symm
    simp [this]
  · refine List.filter_congr fun l _ => ?_
    unfold keeps
    have : (id == 0) = false := by simpa using h
    rw [this, Bool.false_or]

theorem calm_pot {bs : List (Int × Int)} {ls : List Lnk} (hs : SysOK bs ls) (h : Calm bs ls 0) : ∃ q : Nat → Int, ∀ k, PotL bs.length q (graphF bs ls k) := by
  have hp := (rounds_hub (rev := noR) (k := bs.length + 2) (graphF_ok hs 0) (hub_graph bs ls 0) (Nat.le_refl _) h).2
  have hL := potL_iff.2 hp
  refine ⟨fun v => (shortF bs.length noR (graphF bs ls 0) bs.length).1.sum.getD v 0, fun k l hl => hL l ?_⟩
  rw [graphF_zero]
  exact (List.mem_filter.1 hl).1

theorem great_net {bs : List (Int × Int)} {ls : List Lnk} {a b : Int} (h : NetOK bs ls) (k : Int) (ha : -1 ≤ a ∧ a < bs.length) (hb : -1 ≤ b ∧ b < bs.length) :
    greatF bs.length (graphF bs ls k) a b = mostF bs.length (graphF bs ls k) a b := by
  obtain ⟨q, hq⟩ := calm_pot h.sys h.calm
  have hf := h.few
  have hl : (graphF bs ls k).length ≤ 200 := by
    have := allF_len bs ls
    refine Nat.le_trans (List.length_filter_le _ _) ?_
    omega
  exact great_most hf.1 hl (graphF_ok h.sys k) (hub_graph bs ls k) (hq k) ha hb

theorem needs_net {bs : List (Int × Int)} {ls : List Lnk} {a b : Int} (h : NetOK bs ls) (ha : -1 ≤ a ∧ a < bs.length) (hb : -1 ≤ b ∧ b < bs.length) :
    (idsF ls).filter (fun id => !decide (mostF bs.length (graphF bs ls id) a b ≤ mostF bs.length (graphF bs ls 0) a b)) = refNeedsF bs ls a b := by
  have hids : idsF ls = refIds ls := ids_eq fun l hl => by
    have := (properF_iff.1 (h.sys.lnk l hl)).2.2.2.2; omega
  rw [hids]
  unfold refNeedsF
  refine List.filter_congr fun id hid => ?_
  have hne : id ≠ 0 := by
    have := (refIds_inc (ls := ls) (o := []) List.Pairwise.nil).2 id
    have hid : id ∈ ls.foldl (fun o l => insI o l.i) [] := hid
    rw [this] at hid
    rcases hid with hid | hid
    · cases hid
    · exact hid.1
  rw [graphF_without hne, great_net h id ha hb, ← graphF_zero bs ls, great_net h 0 ha hb, ← decide_not]
  exact decide_eq_decide.2 (by omega)

theorem needsE_t (bs : List (Int × Int)) (ls : List Lnk) (a b : Int) (hs : SysOK bs ls) (hp : withinF a (-1) (bs.length - 1) = false ∨ withinF b (-1) (bs.length - 1) = false) :
    Triple Try.prog 23 [.c (.p 0 0 0 0), iv .i64 a, iv .i64 b] (netH bs ls) 3 (.tup [.inl (.s 3 0 0 1), .inl (.v (.int .i64 1))]) [(3, true, .arr (aInt []))] := by
  refine triple_of tB_ok Try.func23 rfl Try.call23 rfl ?_
  intro ρ w hH
  conv => whnf
  have hnb := hs.nb
  refine call_step (isPlace_t bs ls a (by omega)) rfl rfl ?_
  conv => whnf
  refine ⟨(by repeat' (first | exact trivial | exact rfl | refine And.intro ?_ ?_ | ((conv => whnf); first | exact trivial | exact rfl | refine And.intro ?_ ?_ | omega))), (by repeat' (first | exact trivial | exact rfl | refine And.intro ?_ ?_ | ((conv => whnf); first | exact trivial | exact rfl | refine And.intro ?_ ?_ | omega))), ?_⟩
  conv => whnf
  refine ⟨fun hc => ?_, fun hc => ?_⟩
  · conv => whnf
    repeat' (first | exact trivial | exact rfl | refine And.intro ?_ ?_ | ((conv => whnf); first | exact trivial | exact rfl | refine And.intro ?_ ?_ | omega))
  conv => whnf
  refine call_step (isPlace_t bs ls b (by omega)) rfl rfl ?_
  conv => whnf
  refine ⟨(by repeat' (first | exact trivial | exact rfl | refine And.intro ?_ ?_ | ((conv => whnf); first | exact trivial | exact rfl | refine And.intro ?_ ?_ | omega))), (by repeat' (first | exact trivial | exact rfl | refine And.intro ?_ ?_ | ((conv => whnf); first | exact trivial | exact rfl | refine And.intro ?_ ?_ | omega))), ?_⟩
  conv => whnf
  refine ⟨fun hc => ?_, fun hc => ?_⟩
  · conv => whnf
    repeat' (first | exact trivial | exact rfl | refine And.intro ?_ ?_ | ((conv => whnf); first | exact trivial | exact rfl | refine And.intro ?_ ?_ | omega))
  · simp at *
    simp_all

theorem refNeedsE_t (bs : List (Int × Int)) (ls : List Lnk) (a b : Int) (hp : placeF bs.length a = false ∨ placeF bs.length b = false) :
    Triple Try.prog 24 [sysA bs.length ls.length, iv .i64 a, iv .i64 b] (sysH bs ls) 2 (.tup [.inl (.s 2 0 0 1), .inl (.v (.int .i64 1))]) [(2, true, .arr (aInt []))] := by
  refine triple_of tB_ok Try.func24 rfl Try.call24 rfl ?_
  intro ρ w hH
  conv => whnf
  refine call_step (refPlace_t bs ls a) rfl rfl ?_
  conv => whnf
  refine ⟨(by repeat' (first | exact trivial | exact rfl | refine And.intro ?_ ?_ | ((conv => whnf); first | exact trivial | exact rfl | refine And.intro ?_ ?_ | omega))), (by repeat' (first | exact trivial | exact rfl | refine And.intro ?_ ?_ | ((conv => whnf); first | exact trivial | exact rfl | refine And.intro ?_ ?_ | omega))), ?_⟩
  conv => whnf
  refine ⟨fun hc => ?_, fun hc => ?_⟩
  · conv => whnf
    repeat' (first | exact trivial | exact rfl | refine And.intro ?_ ?_ | ((conv => whnf); first | exact trivial | exact rfl | refine And.intro ?_ ?_ | omega))
  conv => whnf
  refine call_step (refPlace_t bs ls b) rfl rfl ?_
  conv => whnf
  refine ⟨(by repeat' (first | exact trivial | exact rfl | refine And.intro ?_ ?_ | ((conv => whnf); first | exact trivial | exact rfl | refine And.intro ?_ ?_ | omega))), (by repeat' (first | exact trivial | exact rfl | refine And.intro ?_ ?_ | ((conv => whnf); first | exact trivial | exact rfl | refine And.intro ?_ ?_ | omega))), ?_⟩
  conv => whnf
  refine ⟨fun hc => ?_, fun hc => ?_⟩
  · conv => whnf
    repeat' (first | exact trivial | exact rfl | refine And.intro ?_ ?_ | ((conv => whnf); first | exact trivial | exact rfl | refine And.intro ?_ ?_ | omega))
  · simp at *
    simp_all

theorem both_places (n : Nat) (a b : Int) : ((-1 ≤ a ∧ a < n) ∧ (-1 ≤ b ∧ b < n) ∧ withinF a (-1) (n - 1) = true ∧ withinF b (-1) (n - 1) = true) ∨
    ((withinF a (-1) (n - 1) = false ∨ withinF b (-1) (n - 1) = false) ∧ (placeF n a = false ∨ placeF n b = false)) := by
  cases h1 : withinF a (-1) (n - 1) with
  | false => exact .inr ⟨.inl rfl, .inl (by rw [place_within]; exact h1)⟩
  | true =>
    cases h2 : withinF b (-1) (n - 1) with
    | false => exact .inr ⟨.inr rfl, .inr (by rw [place_within]; exact h2)⟩
    | true =>
      simp [withinF] at h1 h2
      exact .inl ⟨by omega, by omega, rfl, rfl⟩

theorem range_both {bs : List (Int × Int)} {ls : List Lnk} (h : NetOK bs ls) (a b : Int) : ∃ lo hi e : Int,
    Triple Try.prog 21 [.c (.p 0 0 0 0), iv .i64 a, iv .i64 b] (netH bs ls) 3 (.tup [.inr [.v (.int .i64 lo), .v (.int .i64 hi)], .inl (.v (.int .i64 e))]) [] ∧
    Triple Try.prog 22 [sysA bs.length ls.length, iv .i64 a, iv .i64 b] (sysH bs ls) 2 (.tup [.inr [.v (.int .i64 lo), .v (.int .i64 hi)], .inl (.v (.int .i64 e))]) [] := by
  rcases both_places bs.length a b with ⟨ha, hb, h1, h2⟩ | ⟨h1, h2⟩
  · refine ⟨_, _, 0, range_t bs ls a b h.sys ha.2 hb.2 h1 h2 _ _ rfl rfl, refRange_t bs ls a b h.sys ha hb _ _ ?_ ?_⟩
    · rw [← great_net h 0 hb ha, graphF_zero]
    · rw [← great_net h 0 ha hb, graphF_zero]
  · exact ⟨0, 0, 1, rangeErr_t bs ls a b h.sys h1, refRangeErr_t bs ls a b h2⟩

theorem needs_both {bs : List (Int × Int)} {ls : List Lnk} (h : NetOK bs ls) (a b : Int) : ∃ (xs : List Int) (e : Int), xs.length ≤ 1000000 ∧
    Triple Try.prog 23 [.c (.p 0 0 0 0), iv .i64 a, iv .i64 b] (netH bs ls) 3 (.tup [.inl (.s 3 0 xs.length 1), .inl (.v (.int .i64 e))]) [(3, true, .arr (aInt xs))] ∧
    Triple Try.prog 24 [sysA bs.length ls.length, iv .i64 a, iv .i64 b] (sysH bs ls) 2 (.tup [.inl (.s 2 0 xs.length 1), .inl (.v (.int .i64 e))]) [(2, true, .arr (aInt xs))] := by
  rcases both_places bs.length a b with ⟨ha, hb, h1, h2⟩ | ⟨h1, h2⟩
  · have hT := needs_t bs ls a b h.sys ha.2 hb.2 h1 h2
    rw [needs_net h ha hb] at hT
    refine ⟨_, 0, ?_, hT, refNeeds_t bs ls a b h.sys ha hb⟩
    have h3 := refIds_len ls []
    have h4 := h.few
    have h5 : (refNeedsF bs ls a b).length ≤ (refIds ls).length := List.length_filter_le _ _
    have h6 : (refIds ls).length ≤ ls.length := by simpa [refIds] using h3
    omega
  · exact ⟨[], 1, by simp, needsE_t bs ls a b h.sys h1, refNeedsE_t bs ls a b h2⟩

theorem implied_both {bs : List (Int × Int)} {ls : List Lnk} (h : NetOK bs ls) (l : Lnk) : ∃ (x : Bool) (e : Int),
    Triple Try.prog 25 [.c (.p 0 0 0 0), svL l] (netH bs ls) 3 (.tup [.inl (.v (.bool x)), .inl (.v (.int .i64 e))]) [] ∧
    Triple Try.prog 26 [sysA bs.length ls.length, svL l] (sysH bs ls) 2 (.tup [.inl (.v (.bool x)), .inl (.v (.int .i64 e))]) [] := by
  cases hp : properF l bs.length with
  | false => exact ⟨false, 1, impliedErr_t bs ls l h.sys hp, refImpliedErr_t bs ls l hp⟩
  | true =>
    have hp2 := properF_iff.1 hp
    have hT := refImplied_t bs ls l h.sys hp
    rw [← graphF_zero bs ls, great_net h 0 ⟨by omega, by omega⟩ ⟨by omega, by omega⟩] at hT
    exact ⟨_, 0, implied_t bs ls l h.sys hp, hT⟩

theorem systemRanges_t (bs : List (Int × Int)) (ls : List Lnk) (a b : Int) (l : Lnk) : Triple Try.prog 3 [sysA bs.length ls.length, iv .i64 a, iv .i64 b, svL l] (sysH bs ls) 2 (bv true) [] := by
  by_cases h : NetOK bs ls
  · obtain ⟨lo, hi, e1, r1, r2⟩ := range_both h a b
    obtain ⟨xs, e2, hx, n1, n2⟩ := needs_both h a b
    obtain ⟨x, e3, i1, i2⟩ := implied_both h l
    refine triple_of tB_ok Try.func3 rfl Try.call3 rfl ?_
    intro ρ w hH
    conv => whnf
    refine call_step head_t rfl rfl ?_
    conv => whnf
    refine ⟨(by repeat' (first | exact trivial | exact rfl | refine And.intro ?_ ?_ | ((conv => whnf); first | exact trivial | exact rfl | refine And.intro ?_ ?_ | omega))), (by repeat' (first | exact trivial | exact rfl | refine And.intro ?_ ?_ | ((conv => whnf); first | exact trivial | exact rfl | refine And.intro ?_ ?_ | omega))), ?_⟩
    conv => whnf
    refine call_step (netYes_t bs ls h) rfl rfl ?_
    conv => whnf
    refine ⟨(by repeat' (first | exact trivial | exact rfl | refine And.intro ?_ ?_ | ((conv => whnf); first | exact trivial | exact rfl | refine And.intro ?_ ?_ | omega))), (by repeat' (first | exact trivial | exact rfl | refine And.intro ?_ ?_ | ((conv => whnf); first | exact trivial | exact rfl | refine And.intro ?_ ?_ | omega))), ?_⟩
    conv => whnf
    refine call_step r1 rfl rfl ?_
    conv => whnf
    refine ⟨(by repeat' (first | exact trivial | exact rfl | refine And.intro ?_ ?_ | ((conv => whnf); first | exact trivial | exact rfl | refine And.intro ?_ ?_ | omega))), (by repeat' (first | exact trivial | exact rfl | refine And.intro ?_ ?_ | ((conv => whnf); first | exact trivial | exact rfl | refine And.intro ?_ ?_ | omega))), ?_⟩
    conv => whnf
    refine call_step r2 rfl rfl ?_
    conv => whnf
    refine ⟨(by repeat' (first | exact trivial | exact rfl | refine And.intro ?_ ?_ | ((conv => whnf); first | exact trivial | exact rfl | refine And.intro ?_ ?_ | omega))), (by repeat' (first | exact trivial | exact rfl | refine And.intro ?_ ?_ | ((conv => whnf); first | exact trivial | exact rfl | refine And.intro ?_ ?_ | omega))), ?_⟩
    conv => whnf
    refine call_step n1 rfl rfl ?_
    conv => whnf
    refine ⟨(by repeat' (first | exact trivial | exact rfl | refine And.intro ?_ ?_ | ((conv => whnf); first | exact trivial | exact rfl | refine And.intro ?_ ?_ | omega))), (by repeat' (first | exact trivial | exact rfl | refine And.intro ?_ ?_ | ((conv => whnf); first | exact trivial | exact rfl | refine And.intro ?_ ?_ | omega))), ?_⟩
    conv => whnf
    refine call_step n2 rfl rfl ?_
    conv => whnf
    refine ⟨(by repeat' (first | exact trivial | exact rfl | refine And.intro ?_ ?_ | ((conv => whnf); first | exact trivial | exact rfl | refine And.intro ?_ ?_ | omega))), (by repeat' (first | exact trivial | exact rfl | refine And.intro ?_ ?_ | ((conv => whnf); first | exact trivial | exact rfl | refine And.intro ?_ ?_ | omega))), ?_⟩
    conv => whnf
    refine call_step i1 rfl rfl ?_
    conv => whnf
    refine ⟨(by repeat' (first | exact trivial | exact rfl | refine And.intro ?_ ?_ | ((conv => whnf); first | exact trivial | exact rfl | refine And.intro ?_ ?_ | omega))), (by repeat' (first | exact trivial | exact rfl | refine And.intro ?_ ?_ | ((conv => whnf); first | exact trivial | exact rfl | refine And.intro ?_ ?_ | omega))), ?_⟩
    conv => whnf
    refine call_step i2 rfl rfl ?_
    conv => whnf
    refine ⟨(by repeat' (first | exact trivial | exact rfl | refine And.intro ?_ ?_ | ((conv => whnf); first | exact trivial | exact rfl | refine And.intro ?_ ?_ | omega))), (by repeat' (first | exact trivial | exact rfl | refine And.intro ?_ ?_ | ((conv => whnf); first | exact trivial | exact rfl | refine And.intro ?_ ?_ | omega))), ?_⟩
    conv => whnf
    refine call_step (ints_t xs xs hx) rfl rfl ?_
    conv => whnf
    refine ⟨(by repeat' (first | exact trivial | exact rfl | refine And.intro ?_ ?_ | ((conv => whnf); first | exact trivial | exact rfl | refine And.intro ?_ ?_ | omega))), (by repeat' (first | exact trivial | exact rfl | refine And.intro ?_ ?_ | ((conv => whnf); first | exact trivial | exact rfl | refine And.intro ?_ ?_ | omega))), ?_⟩
    conv => whnf
    refine ⟨fun hc => ?_, fun hc => absurd hc (by simp)⟩
    conv => whnf
    refine ⟨fun hc => ?_, fun hc => absurd hc (by simp)⟩
    conv => whnf
    refine ⟨fun hc => ?_, fun hc => absurd hc (by simp)⟩
    conv => whnf
    refine ⟨fun hc => ?_, fun hc => absurd hc (by simp)⟩
    conv => whnf
    refine ⟨fun hc => ?_, fun hc => absurd hc (by simp)⟩
    conv => whnf
    refine ⟨fun hc => ?_, fun hc => absurd hc (by simp)⟩
    conv => whnf
    repeat' (first | exact trivial | exact rfl | refine And.intro ?_ ?_ | ((conv => whnf); first | exact trivial | exact rfl | refine And.intro ?_ ?_ | omega))
    show (e3 == e3) = true
    simp
  · skip
    refine triple_of tB_ok Try.func3 rfl Try.call3 rfl ?_
    intro ρ w hH
    conv => whnf
    refine call_step head_t rfl rfl ?_
    conv => whnf
    refine ⟨(by repeat' (first | exact trivial | exact rfl | refine And.intro ?_ ?_ | ((conv => whnf); first | exact trivial | exact rfl | refine And.intro ?_ ?_ | omega))), (by repeat' (first | exact trivial | exact rfl | refine And.intro ?_ ?_ | ((conv => whnf); first | exact trivial | exact rfl | refine And.intro ?_ ?_ | omega))), ?_⟩
    conv => whnf
    refine call_step (netNo_t bs ls h) rfl rfl ?_
    conv => whnf
    refine ⟨(by repeat' (first | exact trivial | exact rfl | refine And.intro ?_ ?_ | ((conv => whnf); first | exact trivial | exact rfl | refine And.intro ?_ ?_ | omega))), (by repeat' (first | exact trivial | exact rfl | refine And.intro ?_ ?_ | ((conv => whnf); first | exact trivial | exact rfl | refine And.intro ?_ ?_ | omega))), ?_⟩
    conv => whnf
    repeat' (first | exact trivial | exact rfl | refine And.intro ?_ ?_ | ((conv => whnf); first | exact trivial | exact rfl | refine And.intro ?_ ?_ | omega))

end Go.Proofs

