/-
  A part of the proof that a law of dryweightlaw03 answers true: lemmas of a symbolic walk, plain functions, or contracts of the functions walked (X2, X3, Pm11, X6, X7, X8, Pm9, Pm10, Sx30, X4, W2, X5, X9, Xa, Pm12, Xb, Xc, Pm13, Pm14, Pm15, Xj, Xk, Pm16, Xl, Xm, Xn, Xo, Xp, Xr, Pm17, Xs, Sx32, Sx33). Conditions: none.
-/
import Derived.Test.YtjjfadfmdodmnaaPart16
import Derived.Test.YtjjfadfmdodmnaaPart13
import Derived.Test.YtjjfadfmdodmnaaPart14
import Derived.Lib.SlicesCompact
import Derived.Test.YtjjfadfmdodmnaaPart06
import Derived.Test.YtjjfadfmdodmnaaPart09
import Derived.Test.YtjjfadfmdodmnaaPart07
import Derived.Lib.AppendZeros
set_option maxRecDepth 100000
set_option linter.unusedVariables false
set_option linter.unusedSimpArgs false
namespace Go.Proofs
open Go.Sx

/-- What relaxing returns: a list and true, or none and false. -/
def optO : Option (List Int) → List Int
  | some o => o
  | none => []

theorem getD_of {xs : List Int} {i : Nat} (h : i < xs.length) : xs.getD i 0 = xs[i] := by
  rw [List.getD_eq_getElem?_getD, List.getElem?_eq_getElem h]; rfl

theorem from_t (bs : List (Int × Int)) (ls : List Lnk) (a : Int) (hb : bs.length ≤ 1000) (hB : BoxB bs) (hl : ls.length ≤ 8000) (hok : ∀ l ∈ allF bs ls, ArcOK bs.length l) (ha : -1 ≤ a ∧ a < bs.length) :
    Triple Try.prog 98 [sysA bs.length ls.length, iv .i64 a] (sysH bs ls) 2 (.tup [.inl (.s 2 0 (optO (fromF bs.length (allF bs ls) a)).length 1), .inl (.v (.bool (fromF bs.length (allF bs ls) a).isSome))])
      [(2, true, .arr (aInt (optO (fromF bs.length (allF bs ls) a))))] := by
  refine triple_of tB_ok Try.func98 rfl Try.call98 rfl ?_
  intro ρ w hH
  conv => whnf
  refine call_step (refAll_t bs ls hb hB (by omega)) rfl rfl ?_
  conv => whnf
  refine ⟨(by repeat' (first | exact trivial | exact rfl | refine And.intro ?_ ?_ | ((conv => whnf); first | exact trivial | exact rfl | refine And.intro ?_ ?_ | omega))), (by repeat' (first | exact trivial | exact rfl | refine And.intro ?_ ?_ | ((conv => whnf); first | exact trivial | exact rfl | refine And.intro ?_ ?_ | omega))), ?_⟩
  conv => whnf
  have hal := allF_len bs ls
  generalize allF bs ls = arcs at *
  generalize hn : bs.length = n at *
  refine loop_step tB_ok (G := Int × List Int) 1 [] (fun g => [(8, iv .i64 g.1), (7, .c (.s 4 0 g.2.length 1))]) (fun g => [(4, true, .arr (aInt g.2))]) (fun g => -1 ≤ g.1 ∧ g.1 ≤ n ∧ g.2 = List.replicate (g.1 + 1).toNat farI) (fun g => ((n : Int) - g.1).toNat) ?_
  conv => whnf
  refine ⟨⟨(-1, []), ⟨by omega, by omega, rfl⟩, ?_⟩, ?_⟩
  · conv => whnf
    repeat' (first | exact trivial | exact rfl | refine And.intro ?_ ?_ | ((conv => whnf); first | exact trivial | exact rfl | refine And.intro ?_ ?_ | omega))
  rintro ⟨i, xs⟩ ⟨hi1, hi2, hxs⟩ ρ1 t1 hρ1
  have hi1 : -1 ≤ i := hi1
  have hi2 : i ≤ n := hi2
  have hxs : xs = List.replicate (i + 1).toNat farI := hxs
  have hxl : xs.length = (i + 1).toNat := by rw [hxs, List.length_replicate]
  dsimp only
  conv => whnf
  refine ⟨fun hc => ?_, fun hc => ?_⟩
  · have hlt : i < n := by simpa using hc
    conv => whnf
    refine bs_step tB_ok (aInt [1099511627776]) rfl rfl ?_
    conv => whnf
    refine ⟨⟨rfl, rfl, trivial⟩, ?_⟩
    conv => whnf
    refine app_step tB_ok (aInt xs) [(1099511627776 : Int)] (fun _ => rfl) rfl rfl rfl rfl ?_
    conv => whnf
    refine ⟨⟨rfl, rfl, Nat.le_refl _, Nat.le_refl _, by show (xs.length + 1) * 9 ≤ _; omega⟩, ?_⟩
    conv => whnf
    refine ⟨i + 1, wrapId (z := i + 1) ⟨by omega, by omega⟩, ?_⟩
    refine ⟨(i + 1, xs ++ [1099511627776]), ⟨by omega, by omega, ?_⟩, by show ((n : Int) - (i + 1)).toNat < ((n : Int) - i).toNat; omega, ?_⟩
    · show xs ++ [1099511627776] = List.replicate (i + 1 + 1).toNat farI
      rw [hxs, replicate_snoc, show (i + 1 + 1).toNat = (i + 1).toNat + 1 from by omega]
    conv => whnf
    refine ⟨rfl, ?_⟩
    conv => whnf
    repeat' (first | exact trivial | exact rfl | refine And.intro ?_ ?_ | ((conv => whnf); first | exact trivial | exact rfl | refine And.intro ?_ ?_ | omega))
    · simp
    · exact congrArg aInt app1
  have hin : i = n := by simp at hc; omega
  subst hin
  have hxl : xs.length = n + 1 := by omega
  conv => whnf
  refine ⟨a + 1, wrapId (z := a + 1) ⟨by omega, by omega⟩, ?_⟩
  conv => whnf
  refine ⟨(a + 1).toNat, by omega, by omega, by show (a + 1).toNat < xs.length; omega, (0 : Int), rfl, ?_⟩
  conv => whnf
  have hst : xs.set (a + 1).toNat 0 = startO n a := by rw [hxs, show ((n : Int) + 1).toNat = n + 1 from by omega]; rfl
  refine loop_step tB_ok (G := Nat × List Int) 0 [] (fun g => [(9, iv .i64 g.1)]) (fun g => [(4, true, .arr (aInt g.2))])
    (fun g => g.1 ≤ n + 2 ∧ OkO n (g.1 * (33554432 * arcs.length)) g.2 ∧ fromF n arcs a = roundsO arcs (n + 2 - g.1) g.2) (fun g => n + 2 - g.1) ?_
  conv => whnf
  refine ⟨⟨(0, xs.set (a + 1).toNat 0), ⟨Nat.zero_le _, by rw [hst]; exact (startO_ok n a).mono (by simp), by rw [hst]; rfl⟩, ?_⟩, ?_⟩
  · conv => whnf
    repeat' (first | exact trivial | exact rfl | refine And.intro ?_ ?_ | ((conv => whnf); first | exact trivial | exact rfl | refine And.intro ?_ ?_ | omega))
  rintro ⟨r, out⟩ ⟨hr, hO, hF⟩ ρ2 t2 hρ2
  have hr : r ≤ n + 2 := hr
  have hF : fromF n arcs a = roundsO arcs (n + 2 - r) out := hF
  dsimp only
  have hbd : ((r : Int) * (33554432 * arcs.length)) ≤ 1002 * (33554432 * 10000) := Int.mul_le_mul (by omega) (by omega) (by omega) (by omega)
  generalize hBd : ((r : Int) * (33554432 * arcs.length)) = BB at *
  have hOi : ∀ i, i ≤ arcs.length → OkO n (BB + 33554432 * i) ((arcs.take i).foldl (fun o l => relO l o) (out, false)).1 := fun i hi => by
    have := OkO.fold (xs := arcs.take i) (o := (out, false)) (fun l hl => hok l (List.mem_of_mem_take hl)) hO
    rw [List.length_take, Nat.min_eq_left hi] at this
    exact this
  conv => whnf
  refine ⟨(n : Int) + 1, wrapId (z := (n : Int) + 1) ⟨by omega, by omega⟩, ?_⟩
  conv => whnf
  refine ⟨fun hc => ?_, fun hc => ?_⟩
  · have hlt : r < n + 2 := by have : (r : Int) ≤ n + 1 := by simpa using hc
                               omega
    conv => whnf
    refine loop_step tB_ok (G := Nat × List Int × Bool) 0 [] (fun g => [(11, iv .i64 g.1), (10, bv g.2.2)]) (fun g => [(4, true, .arr (aInt g.2.1))])
      (fun g => g.1 ≤ arcs.length ∧ g.2 = (arcs.take g.1).foldl (fun o l => relO l o) (out, false)) (fun g => arcs.length - g.1) ?_
    conv => whnf
    refine ⟨⟨(0, out, false), ⟨Nat.zero_le _, rfl⟩, ?_⟩, ?_⟩
    · conv => whnf
      repeat' (first | exact trivial | exact rfl | refine And.intro ?_ ?_ | ((conv => whnf); first | exact trivial | exact rfl | refine And.intro ?_ ?_ | omega))
    rintro ⟨k, o, c⟩ ⟨hk, ho⟩ ρ3 t3 hρ3
    have hk : k ≤ arcs.length := hk
    have ho : (o, c) = (arcs.take k).foldl (fun o l => relO l o) (out, false) := ho
    have hOk := hOi k hk
    rw [← ho] at hOk
    have hol : o.length = n + 1 := hOk.len
    dsimp only
    conv => whnf
    refine ⟨fun hc => ?_, fun hc => ?_⟩
    · have hlt : k < arcs.length := by simpa using hc
      obtain ⟨hf, ht, hm⟩ := hok arcs[k] (List.getElem_mem hlt)
      have hst := passO_snoc (o := (out, false)) hlt
      rw [← ho] at hst
      have hfi : (arcs[k].f + 1).toNat < o.length := by omega
      have hti : (arcs[k].t + 1).toNat < o.length := by omega
      have hbf : _ ∧ o[(arcs[k].f + 1).toNat] ≤ 1099511627776 := hOk.bd _ (List.getElem_mem hfi)
      have ef := getD_of hfi
      have et := getD_of hti
      conv => whnf
      refine ⟨k, rfl, hlt, hlt, ?_⟩
      conv => whnf
      refine ⟨arcs[k].f + 1, wrapId (z := arcs[k].f + 1) ⟨by omega, by omega⟩, ?_⟩
      conv => whnf
      refine ⟨(arcs[k].f + 1).toNat, by omega, by omega, hfi, ?_⟩
      conv => whnf
      refine ⟨k, rfl, hlt, hlt, ?_⟩
      conv => whnf
      refine ⟨o[(arcs[k].f + 1).toNat] + arcs[k].m, wrapId (z := o[(arcs[k].f + 1).toNat] + arcs[k].m) ⟨by omega, by omega⟩, ?_⟩
      conv => whnf
      refine ⟨k, rfl, hlt, hlt, ?_⟩
      conv => whnf
      refine ⟨arcs[k].f + 1, wrapId (z := arcs[k].f + 1) ⟨by omega, by omega⟩, ?_⟩
      conv => whnf
      refine ⟨(arcs[k].f + 1).toNat, by omega, by omega, hfi, ?_⟩
      conv => whnf
      refine ⟨fun hc => ?_, fun hc => ?_⟩
      · have h1 : o[(arcs[k].f + 1).toNat] < 1099511627776 := of_decide_eq_true (show decide (o[(arcs[k].f + 1).toNat] < 1099511627776) = true from hc)
        conv => whnf
        refine ⟨k, rfl, hlt, hlt, ?_⟩
        conv => whnf
        refine ⟨arcs[k].t + 1, wrapId (z := arcs[k].t + 1) ⟨by omega, by omega⟩, ?_⟩
        conv => whnf
        refine ⟨(arcs[k].t + 1).toNat, by omega, by omega, hti, ?_⟩
        conv => whnf
        refine ⟨fun hc => ?_, fun hc => ?_⟩
        · have h2 : o[(arcs[k].f + 1).toNat] + arcs[k].m < o[(arcs[k].t + 1).toNat] := of_decide_eq_true (show decide (o[(arcs[k].f + 1).toNat] + arcs[k].m < o[(arcs[k].t + 1).toNat]) = true from hc)
          conv => whnf
          refine ⟨k, rfl, hlt, hlt, ?_⟩
          conv => whnf
          refine ⟨arcs[k].t + 1, wrapId (z := arcs[k].t + 1) ⟨by omega, by omega⟩, ?_⟩
          conv => whnf
          refine ⟨(arcs[k].t + 1).toNat, by omega, by omega, hti, o[(arcs[k].f + 1).toNat] + arcs[k].m, rfl, ?_⟩
          conv => whnf
          refine ⟨_, wrapId ⟨by omega, by omega⟩, ?_⟩
          refine ⟨(k + 1, o.set (arcs[k].t + 1).toNat (o[(arcs[k].f + 1).toNat] + arcs[k].m), true), ⟨hlt, ?_⟩, by show arcs.length - (k + 1) < arcs.length - k; omega, ?_⟩
          · show ((o.set (arcs[k].t + 1).toNat (o[(arcs[k].f + 1).toNat] + arcs[k].m), true) : List Int × Bool) = (arcs.take (k + 1)).foldl (fun o l => relO l o) (out, false)
            rw [hst]
            unfold relO
            dsimp only
            rw [ef, et]
            simp [h1, h2]
          conv => whnf
          refine ⟨rfl, ?_⟩
          conv => whnf
          repeat' (first | exact trivial | exact rfl | refine And.intro ?_ ?_ | ((conv => whnf); first | exact trivial | exact rfl | refine And.intro ?_ ?_ | omega))
        · have h2 : ¬ o[(arcs[k].f + 1).toNat] + arcs[k].m < o[(arcs[k].t + 1).toNat] := of_decide_eq_false (show decide (o[(arcs[k].f + 1).toNat] + arcs[k].m < o[(arcs[k].t + 1).toNat]) = false from hc)
          conv => whnf
          refine ⟨_, wrapId ⟨by omega, by omega⟩, ?_⟩
          refine ⟨(k + 1, o, c), ⟨hlt, ?_⟩, by show arcs.length - (k + 1) < arcs.length - k; omega, ?_⟩
          · show ((o, c) : List Int × Bool) = (arcs.take (k + 1)).foldl (fun o l => relO l o) (out, false)
            rw [hst]
            unfold relO
            dsimp only
            rw [ef, et]
            simp [h1, h2]
          conv => whnf
          refine ⟨rfl, ?_⟩
          conv => whnf
          repeat' (first | exact trivial | exact rfl | refine And.intro ?_ ?_ | ((conv => whnf); first | exact trivial | exact rfl | refine And.intro ?_ ?_ | omega))
      · have h1 : ¬ o[(arcs[k].f + 1).toNat] < 1099511627776 := of_decide_eq_false (show decide (o[(arcs[k].f + 1).toNat] < 1099511627776) = false from hc)
        conv => whnf
        refine ⟨_, wrapId ⟨by omega, by omega⟩, ?_⟩
        refine ⟨(k + 1, o, c), ⟨hlt, ?_⟩, by show arcs.length - (k + 1) < arcs.length - k; omega, ?_⟩
        · show ((o, c) : List Int × Bool) = (arcs.take (k + 1)).foldl (fun o l => relO l o) (out, false)
          rw [hst]
          unfold relO
          dsimp only
          rw [ef, et]
          simp [h1]
        conv => whnf
        refine ⟨rfl, ?_⟩
        conv => whnf
        repeat' (first | exact trivial | exact rfl | refine And.intro ?_ ?_ | ((conv => whnf); first | exact trivial | exact rfl | refine And.intro ?_ ?_ | omega))
    have hke : k = arcs.length := by simp at hc; omega
    have hp : passO arcs out = (o, c) := by rw [ho, hke, List.take_length]; rfl
    have hOk2 : OkO n (((r + 1 : Nat) : Int) * (33554432 * arcs.length)) o := hOk.mono (by
      rw [← hBd, Int.natCast_succ, Int.add_mul, hke]; omega)
    have eR : roundsO arcs (n + 2 - r) out = if c then roundsO arcs (n + 2 - (r + 1)) o else some o := by
      rw [show n + 2 - r = (n + 2 - (r + 1)) + 1 from by omega, roundsO, hp]
    conv => whnf
    refine ⟨fun hc => ?_, fun hc => ?_⟩
    · have h0 : c = false := by simpa using hc
      rw [h0] at eR
      have eF : fromF n arcs a = some o := by rw [hF, eR]; rfl
      rw [eF]
      conv => whnf
      repeat' (first | exact trivial | exact rfl | refine And.intro ?_ ?_ | ((conv => whnf); first | exact trivial | exact rfl | refine And.intro ?_ ?_ | omega))
      exact hxl.trans hol.symm
    · have h0 : c = true := by simpa using hc
      rw [h0, if_pos rfl] at eR
      conv => whnf
      refine ⟨_, wrapId ⟨by omega, by omega⟩, ?_⟩
      refine ⟨(r + 1, o), ⟨hlt, hOk2, by rw [hF, eR]⟩, by show n + 2 - (r + 1) < n + 2 - r; omega, ?_⟩
      conv => whnf
      refine ⟨rfl, ?_⟩
      conv => whnf
      repeat' (first | exact trivial | exact rfl | refine And.intro ?_ ?_ | ((conv => whnf); first | exact trivial | exact rfl | refine And.intro ?_ ?_ | omega))
  have hre : r = n + 2 := by have : ¬ (r : Int) ≤ n + 1 := by simpa using hc
                             omega
  have eF : fromF n arcs a = none := by rw [hF, hre, Nat.sub_self]; rfl
  rw [eF]
  conv => whnf
  repeat' (first | exact trivial | exact rfl | refine And.intro ?_ ?_ | ((conv => whnf); first | exact trivial | exact rfl | refine And.intro ?_ ?_ | omega))

end Go.Proofs

namespace Go.Proofs
open Go.Sx

theorem greatest_t (bs : List (Int × Int)) (ls : List Lnk) (a b : Int) (hb1 : bs.length ≤ 1000) (hB : BoxB bs) (hl : ls.length ≤ 8000) (hok : ∀ l ∈ allF bs ls, ArcOK bs.length l) (ha : -1 ≤ a ∧ a < bs.length) (hb : -1 ≤ b ∧ b < bs.length) :
    Triple Try.prog 83 [sysA bs.length ls.length, iv .i64 a, iv .i64 b] (sysH bs ls) 2 (iv .i64 (greatF bs.length (allF bs ls) a b)) [] := by
  have hT := from_t bs ls a hb1 hB hl hok ha
  cases hfr : fromF bs.length (allF bs ls) a with
  | none =>
    rw [hfr] at hT
    have eG : greatF bs.length (allF bs ls) a b = farI := by unfold greatF; rw [hfr]
    rw [eG]
    refine triple_of tB_ok Try.func83 rfl Try.call83 rfl ?_
    intro ρ w hH
    conv => whnf
    refine call_step hT rfl rfl ?_
    conv => whnf
    refine ⟨(by repeat' (first | exact trivial | exact rfl | refine And.intro ?_ ?_ | ((conv => whnf); first | exact trivial | exact rfl | refine And.intro ?_ ?_ | omega))), (by repeat' (first | exact trivial | exact rfl | refine And.intro ?_ ?_ | ((conv => whnf); first | exact trivial | exact rfl | refine And.intro ?_ ?_ | omega))), ?_⟩
    conv => whnf
    refine ⟨fun hc => ?_, fun hc => ?_⟩
    · conv => whnf
      repeat' (first | exact trivial | exact rfl | refine And.intro ?_ ?_ | ((conv => whnf); first | exact trivial | exact rfl | refine And.intro ?_ ?_ | omega))
    · exact absurd hc (by simp)
  | some o =>
    rw [hfr] at hT
    have eG : greatF bs.length (allF bs ls) a b = o.getD (b + 1).toNat 0 := by unfold greatF; rw [hfr]
    have hol := fromF_len hok hfr
    have hi : (b + 1).toNat < o.length := by omega
    rw [eG]
    refine triple_of tB_ok Try.func83 rfl Try.call83 rfl ?_
    intro ρ w hH
    conv => whnf
    refine call_step hT rfl rfl ?_
    conv => whnf
    refine ⟨(by repeat' (first | exact trivial | exact rfl | refine And.intro ?_ ?_ | ((conv => whnf); first | exact trivial | exact rfl | refine And.intro ?_ ?_ | omega))), (by repeat' (first | exact trivial | exact rfl | refine And.intro ?_ ?_ | ((conv => whnf); first | exact trivial | exact rfl | refine And.intro ?_ ?_ | omega))), ?_⟩
    conv => whnf
    refine ⟨fun hc => ?_, fun hc => ?_⟩
    · exact absurd hc (by simp)
    conv => whnf
    refine ⟨b + 1, wrapId (z := b + 1) ⟨by omega, by omega⟩, ?_⟩
    conv => whnf
    refine ⟨(b + 1).toNat, by omega, (by show (b + 1).toNat < o.length; exact hi), hi, ?_⟩
    conv => whnf
    refine ⟨?_, trivial⟩
    show o[(b + 1).toNat] = o.getD (b + 1).toNat 0
    rw [getD_of hi]

theorem allF_le {bs : List (Int × Int)} {ls : List Lnk} (hs : SysOK bs ls) : (allF bs ls).length ≤ 1680 := by
  have := allF_len bs ls
  have := hs.nb
  have := hs.nl
  omega

theorem graphF_zero (bs : List (Int × Int)) (ls : List Lnk) : graphF bs ls 0 = allF bs ls := by
  unfold graphF
  exact List.filter_eq_self.2 fun l _ => rfl

theorem boxLinks_has {bs : List (Int × Int)} : ∀ {v i : Nat} (h : i < bs.length), (⟨-1, (v + i : Nat), bs[i].2, 0⟩ : Lnk) ∈ boxLinks v bs ∧ (⟨(v + i : Nat), -1, -bs[i].1, 0⟩ : Lnk) ∈ boxLinks v bs := by
  induction bs with
  | nil => intro v i h; simp at h
  | cons b r ih =>
    intro v i h
    cases i with
    | zero => simp [boxLinks]
    | succ i =>
      have := ih (v := v + 1) (i := i) (by simpa using h)
      simp only [boxLinks, List.mem_cons, List.getElem_cons_succ]
      rw [show v + (i + 1) = v + 1 + i from by omega]
      exact ⟨.inr (.inr this.1), .inr (.inr this.2)⟩

theorem hub_graph (bs : List (Int × Int)) (ls : List Lnk) (k : Int) : Hub bs.length (graphF bs ls k) := by
  intro v hv
  have hb := boxLinks_has (bs := bs) (v := 0) hv
  rw [Nat.zero_add] at hb
  have hk : ∀ l : Lnk, l.i = 0 → keeps k l = true := by
    intro l hl
    unfold keeps
    rw [hl]
    by_cases h : k = 0
    · simp [h]
    · have : (0 : Int) ≠ k := fun h2 => h h2.symm
      simp [this]
  refine ⟨⟨_, List.mem_filter.2 ⟨List.mem_append.2 (.inl hb.1), hk _ rfl⟩, ?_, ?_⟩, ⟨_, List.mem_filter.2 ⟨List.mem_append.2 (.inl hb.2), hk _ rfl⟩, ?_, ?_⟩⟩
  · rfl
  · simp only [plc]; rw [if_neg (by omega)]; omega
  · simp only [plc]; rw [if_neg (by omega)]; omega
  · rfl

end Go.Proofs

/-
  Plain lemmas, part 11: the way back from a place to the start, where relaxing has ended. Conditions: none; definitions and plain lemmas.
-/
namespace Go
namespace Proofs

theorem key_befF {n : Nat} {rev : Nat → Bool} {arcs : List Lnk} {k : Nat} {e : Edg} (he : e ∈ edgs n rev 0 arcs) (hk : e.k = (k : Int)) :
    keyE n arcs k = e ∧ befF n arcs k = some e.a ∧ ∃ l, arcs[k / 2]? = some l ∧ ((k % 2 = 0 ∧ e.a = plc n l.f ∧ e.b = plc n l.t ∧ e.w = l.m) ∨ (k % 2 = 1 ∧ rev (k / 2) = true ∧ e.a = plc n l.t ∧ e.b = plc n l.f ∧ e.w = -l.m)) := by
  refine ⟨by rw [← hk]; exact edgs_key e he, ?_⟩
  obtain ⟨j, l, hj, h | ⟨hr, h⟩⟩ := edgs_mem.1 he
  · subst h
    have hk2 : k = 2 * j := by have : 2 * ((0 + j : Nat) : Int) = (k : Int) := hk; omega
    have e1 : k / 2 = j := by omega
    have e2 : k % 2 = 0 := by omega
    unfold befF
    rw [e1, hj, e2]
    exact ⟨rfl, l, rfl, .inl ⟨rfl, rfl, rfl, rfl⟩⟩
  · subst h
    have hk2 : k = 2 * j + 1 := by have : 2 * ((0 + j : Nat) : Int) + 1 = (k : Int) := hk; omega
    have e1 : k / 2 = j := by omega
    have e2 : k % 2 = 1 := by omega
    unfold befF
    rw [e1, hj, e2]
    rw [Nat.zero_add] at hr
    exact ⟨rfl, l, rfl, .inr ⟨rfl, hr, rfl, rfl, rfl⟩⟩

structure Tree (n : Nat) (arcs : List Lnk) (E : List Edg) (src : Nat) (T : Tr) (ts : Nat → Nat) : Prop where
  bf : ∃ r, BF E (n + 1) src r 0 ts T
  fix : Fix E T
  all : ∀ v, v ≤ n → T.there.getD v false = true
  src0 : T.sum.getD src 0 = 0 ∧ T.last.getD src (-1) = -1

theorem tree_of {n : Nat} {rev : Nat → Bool} {arcs : List Lnk} {src k : Nat} (hok : ∀ l ∈ arcs, ArcOK n l) (hub : Hub n arcs) (hs : src ≤ n) (h : (roundsF n rev arcs k (startF n src)).2 = -1) :
    ∃ ts, Tree n arcs (edgs n rev 0 arcs) src (roundsF n rev arcs k (startF n src)).1 ts := by
  obtain ⟨hf, ts, r, hB⟩ := rounds_fix hok hs h
  obtain ⟨hall, hp⟩ := rounds_hub hok hub hs h
  have hlow := hB.low (fun v => (roundsF n rev arcs k (startF n src)).1.sum.getD v 0) hp src hB.so.1 hB.so.2.1
  have h0 := hB.so.2.2.1
  refine ⟨ts, ⟨r, hB⟩, hf, hall, by omega, ?_⟩
  rcases hB.so.2.2.2 with h1 | h1
  · omega
  · exact h1

theorem Tree.pot {n : Nat} {arcs : List Lnk} {E : List Edg} {src : Nat} {T : Tr} {ts : Nat → Nat} (h : Tree n arcs E src T ts) (hE : EOK (n + 1) E) : Pot (fun v => T.sum.getD v 0) E :=
  fix_pot h.fix fun e he => h.all _ (by have := (hE e he).1; omega)

theorem Tree.low {n : Nat} {arcs : List Lnk} {E : List Edg} {src : Nat} {T : Tr} {ts : Nat → Nat} (h : Tree n arcs E src T ts) {q : Nat → Int} (hq : Pot q E) {v : Nat} (hv : v ≤ n) : q v ≤ q src + T.sum.getD v 0 := by
  obtain ⟨r, hB⟩ := h.bf
  exact hB.low q hq v (by omega) (h.all v hv)

theorem nodup_len {N : Nat} {l : List Nat} (hn : l.Nodup) (hl : ∀ x ∈ l, x < N) : l.length ≤ N := by
  rcases Nat.lt_or_ge N l.length with h | h
  · exfalso
    obtain ⟨i, j, hij, hj, he⟩ := pigeon N (fun i => l.getD i 0) (fun i hi => by
      show l.getD i 0 < N
      have : i < l.length := by omega
      rw [List.getD_eq_getElem?_getD, List.getElem?_eq_getElem this]
      exact hl _ (List.getElem_mem this))
    have hi' : i < l.length := by omega
    have hj' : j < l.length := by omega
    simp only [List.getD_eq_getElem?_getD, List.getElem?_eq_getElem hi', List.getElem?_eq_getElem hj', Option.getD_some] at he
    have := List.pairwise_iff_getElem.1 hn i j hi' hj' hij
    exact this he
  · exact h

end Proofs
end Go

namespace Go.Proofs
open Go.Sx

end Go.Proofs

namespace Go.Proofs
open Go.Sx

end Go.Proofs

namespace Go.Proofs
open Go.Sx

/-- A list turned around from both ends, so far. -/
structure RevSt (xs ys : List Lnk) (i : Nat) : Prop where
  len : ys.length = xs.length
  get : ∀ k, k < xs.length → ys[k]? = if k < i ∨ xs.length - i ≤ k then xs[xs.length - 1 - k]? else xs[k]?

theorem RevSt.zero (xs : List Lnk) : RevSt xs xs 0 := ⟨rfl, fun k hk => by rw [if_neg (by omega)]⟩

theorem RevSt.done {xs ys : List Lnk} {i : Nat} (h : RevSt xs ys i) (hi : ¬ (i : Int) < (xs.length : Int) - 1 - i) : ys = xs.reverse := by
  refine List.ext_getElem? fun k => ?_
  rcases Nat.lt_or_ge k xs.length with hk | hk
  · rw [List.getElem?_reverse hk, h.get k hk]
    split
    · rfl
    · congr 1; omega
  · rw [List.getElem?_eq_none (by rw [h.len]; exact hk), List.getElem?_eq_none (by simp; exact hk)]

theorem RevSt.step {xs ys : List Lnk} {i j : Nat} (h : RevSt xs ys i) (hij : i < j) (hj : j + 1 + i = xs.length) (h1 : i < ys.length) (h2 : j < ys.length) : RevSt xs ((ys.set i ys[j]).set j ys[i]) (i + 1) := by
  refine ⟨by simp [h.len], fun k hk => ?_⟩
  have gi := h.get i (by omega)
  have gj := h.get j (by omega)
  rw [if_neg (by omega), List.getElem?_eq_getElem h1] at gi
  rw [if_neg (by omega), List.getElem?_eq_getElem h2] at gj
  rw [List.getElem?_set, List.getElem?_set]
  by_cases hkj : j = k
  · subst hkj
    rw [if_pos rfl, if_pos (by simp; exact h2), if_pos (by omega), gi]
    congr 1; omega
  · rw [if_neg hkj]
    by_cases hki : i = k
    · subst hki
      rw [if_pos rfl, if_pos h1, if_pos (by omega), gj]
      congr 1; omega
    · rw [if_neg hki, h.get k hk]
      by_cases hc : k < i ∨ xs.length - i ≤ k
      · rw [if_pos hc, if_pos (by omega)]
      · rw [if_neg hc, if_neg (by omega)]

theorem reverse_t (xs : List Lnk) (hb : xs.length ≤ 1000000) : Triple Try.prog 106 [.c (.s 0 0 xs.length 4)] [(0, true, .arr (aLink xs))] 1 (.tup []) [(0, true, .arr (aLink xs.reverse))] := by
  refine triple_of tB_ok Try.func106 rfl Try.call106 rfl ?_
  intro ρ w hH
  conv => whnf
  refine ⟨(xs.length : Int) - 1, wrapId (z := (xs.length : Int) - 1) ⟨by omega, by omega⟩, ?_⟩
  conv => whnf
  refine loop_step tB_ok (G := Nat × List Lnk) 0 [] (fun g => [(2, iv .i64 g.1), (3, iv .i64 ((xs.length : Int) - 1 - g.1))]) (fun g => [(0, true, .arr (aLink g.2))]) (fun g => g.1 ≤ xs.length ∧ RevSt xs g.2 g.1) (fun g => xs.length - g.1) ?_
  conv => whnf
  refine ⟨⟨(0, xs), ⟨Nat.zero_le _, RevSt.zero xs⟩, ?_⟩, ?_⟩
  · conv => whnf
    repeat' (first | exact trivial | exact rfl | refine And.intro ?_ ?_ | ((conv => whnf); first | exact trivial | exact rfl | refine And.intro ?_ ?_ | omega))
    all_goals (show (xs.length : Int) - 1 = (xs.length : Int) - 1 - ((0 : Nat) : Int); omega)
  rintro ⟨i, ys⟩ ⟨hi, hR⟩ ρ1 t1 hρ1
  have hi : i ≤ xs.length := hi
  have hR : RevSt xs ys i := hR
  dsimp only
  have hyl := hR.len
  conv => whnf
  refine ⟨fun hc => ?_, fun hc => ?_⟩
  · have hlt : (i : Int) < (xs.length : Int) - 1 - i := of_decide_eq_true (show decide ((i : Int) < (xs.length : Int) - 1 - i) = true from hc)
    obtain ⟨j, hj⟩ : ∃ j : Nat, (xs.length : Int) - 1 - i = j := ⟨((xs.length : Int) - 1 - i).toNat, by omega⟩
    have hij : i < j := by omega
    have hjl : j + 1 + i = xs.length := by omega
    have h1 : i < ys.length := by omega
    have h2 : j < ys.length := by omega
    have hst := hR.step hij hjl h1 h2
    conv => whnf
    refine ⟨j, hj, by omega, h2, ?_⟩
    conv => whnf
    refine ⟨i, rfl, by omega, h1, ?_⟩
    conv => whnf
    refine ⟨i, rfl, by omega, h1, ys[j], rfl, ?_⟩
    conv => whnf
    refine ⟨j, hj, by omega, by show j < (ys.set i ys[j]).length; rw [List.length_set]; exact h2, ys[i], rfl, ?_⟩
    conv => whnf
    refine ⟨(i : Int) + 1, wrapId (z := (i : Int) + 1) ⟨by omega, by omega⟩, ?_⟩
    conv => whnf
    refine ⟨(xs.length : Int) - 1 - i - 1, wrapId (z := (xs.length : Int) - 1 - i - 1) ⟨by omega, by omega⟩, ?_⟩
    refine ⟨(i + 1, (ys.set i ys[j]).set j ys[i]), ⟨by show i + 1 ≤ xs.length; omega, hst⟩, by show xs.length - (i + 1) < xs.length - i; omega, ?_⟩
    conv => whnf
    refine ⟨rfl, ?_⟩
    conv => whnf
    repeat' (first | exact trivial | exact rfl | refine And.intro ?_ ?_ | ((conv => whnf); first | exact trivial | exact rfl | refine And.intro ?_ ?_ | omega))
    all_goals (show (xs.length : Int) - 1 - i - 1 = (xs.length : Int) - 1 - ((i + 1 : Nat) : Int); omega)
  · have hlt : ¬ (i : Int) < (xs.length : Int) - 1 - i := of_decide_eq_false (show decide ((i : Int) < (xs.length : Int) - 1 - i) = false from hc)
    have he := hR.done hlt
    subst he
    conv => whnf
    repeat' (first | exact trivial | exact rfl | refine And.intro ?_ ?_ | ((conv => whnf); first | exact trivial | exact rfl | refine And.intro ?_ ?_ | omega))

end Go.Proofs

/-
  Plain lemmas, part 9: the IDs of links, in increasing order, each once, as the reference implementation finds them. Conditions: none; definitions and plain lemmas.
-/
namespace Go
namespace Proofs

def withoutF (ls : List Lnk) (id : Int) : List Lnk := ls.filter fun l => l.i != id

/-! Increasing lists with the same members are the same. -/

end Proofs
end Go

/-
  Plain lemmas, part 10: sorting and dropping equal neighbours gives an increasing list with the same members. Conditions: none; plain lemmas.
-/
namespace Go
namespace Proofs

end Proofs
end Go

namespace Go
namespace Sx

/-! ### append to no slice -/

end Sx
end Go

namespace Go.Proofs
open Go.Sx

theorem without_len (ls : List Lnk) (id : Int) : (withoutF ls id).length ≤ ls.length := List.length_filter_le _ _

theorem refWithout_t (bs : List (Int × Int)) (ls : List Lnk) (id : Int) (hl : ls.length ≤ 100000) :
    Triple Try.prog 88 [sysA bs.length ls.length, iv .i64 id] (sysH bs ls) 2 (.agg [.s 0 0 bs.length 2, .s 2 0 (withoutF ls id).length 4]) [(2, true, .arr (aLink (withoutF ls id)))] := by
  refine triple_of tB_ok Try.func88 rfl Try.call88 rfl ?_
  intro ρ w hH
  conv => whnf
  refine loop_step tB_ok (G := Nat × List Lnk) 1 [] (fun g => [(6, iv .i64 g.1)]) (fun g => [(4, true, .cells [.s 0 0 bs.length 2, .s 5 0 g.2.length 4]), (5, true, .arr (aLink g.2))]) (fun g => g.1 ≤ ls.length ∧ g.2 = withoutF (ls.take g.1) id) (fun g => ls.length - g.1) ?_
  conv => whnf
  refine ⟨⟨(0, []), ⟨Nat.zero_le _, rfl⟩, ?_⟩, ?_⟩
  · conv => whnf
    repeat' (first | exact trivial | exact rfl | refine And.intro ?_ ?_ | ((conv => whnf); first | exact trivial | exact rfl | refine And.intro ?_ ?_ | omega))
  rintro ⟨i, xs⟩ ⟨hi, hxs⟩ ρ1 t1 hρ1
  have hi : i ≤ ls.length := hi
  have hxs : xs = withoutF (ls.take i) id := hxs
  have hxl : xs.length ≤ ls.length := by rw [hxs]; refine Nat.le_trans (without_len _ _) ?_; rw [List.length_take]; omega
  dsimp only
  conv => whnf
  refine ⟨fun hc => ?_, fun hc => ?_⟩
  · have hlt : i < ls.length := by simpa using hc
    have hst : withoutF (ls.take (i + 1)) id = xs ++ (if ls[i].i != id then [ls[i]] else []) := by
      unfold withoutF at *
      rw [filter_take_succ hlt, ← hxs]
    conv => whnf
    refine ⟨i, rfl, hlt, hlt, ?_⟩
    conv => whnf
    refine ⟨fun hc => ?_, fun hc => ?_⟩
    · have hne : (ls[i].i != id) = true := hc
      rw [hne, if_pos rfl] at hst
      conv => whnf
      refine ⟨i, rfl, hlt, hlt, ?_⟩
      conv => whnf
      refine bs_step tB_ok (aLink [ls[i]]) rfl rfl ?_
      conv => whnf
      refine ⟨⟨rfl, ⟨rfl, rfl, rfl, rfl, trivial⟩⟩, ?_⟩
      conv => whnf
      refine app_step tB_ok (aLink xs) [ls[i]] (fun _ => rfl) rfl rfl rfl rfl ?_
      conv => whnf
      refine ⟨⟨rfl, rfl, Nat.le_refl _, Nat.le_refl _, by show (xs.length + 1) * 33 ≤ _; omega⟩, ?_⟩
      conv => whnf
      refine ⟨_, wrapId ⟨by omega, by omega⟩, ?_⟩
      refine ⟨(i + 1, xs ++ [ls[i]]), ⟨hlt, hst.symm⟩, by show ls.length - (i + 1) < ls.length - i; omega, ?_⟩
      conv => whnf
      refine ⟨rfl, ?_⟩
      conv => whnf
      repeat' (first | exact trivial | exact rfl | refine And.intro ?_ ?_ | ((conv => whnf); first | exact trivial | exact rfl | refine And.intro ?_ ?_ | omega))
      all_goals first | exact (congrArg aLink app1 : _) | simp
    · have hne : (ls[i].i != id) = false := hc
      rw [hne, if_neg (by simp), List.append_nil] at hst
      conv => whnf
      refine ⟨_, wrapId ⟨by omega, by omega⟩, ?_⟩
      refine ⟨(i + 1, xs), ⟨hlt, hst.symm⟩, by show ls.length - (i + 1) < ls.length - i; omega, ?_⟩
      conv => whnf
      refine ⟨rfl, ?_⟩
      conv => whnf
      repeat' (first | exact trivial | exact rfl | refine And.intro ?_ ?_ | ((conv => whnf); first | exact trivial | exact rfl | refine And.intro ?_ ?_ | omega))
  have hie : i = ls.length := by simp at hc; omega
  rw [hie, List.take_length] at hxs
  subst hxs
  conv => whnf
  repeat' (first | exact trivial | exact rfl | refine And.intro ?_ ?_ | ((conv => whnf); first | exact trivial | exact rfl | refine And.intro ?_ ?_ | omega))

end Go.Proofs

namespace Go.Proofs
open Go.Sx

end Go.Proofs

namespace Go.Proofs
open Go.Sx

theorem calm_pot {bs : List (Int × Int)} {ls : List Lnk} (hs : SysOK bs ls) (h : Calm bs ls 0) : ∃ q : Nat → Int, ∀ k, PotL bs.length q (graphF bs ls k) := by
  have hp := (rounds_hub (rev := noR) (k := bs.length + 2) (graphF_ok hs 0) (hub_graph bs ls 0) (Nat.le_refl _) h).2
  have hL := potL_iff.2 hp
  refine ⟨fun v => (shortF bs.length noR (graphF bs ls 0) bs.length).1.sum.getD v 0, fun k l hl => hL l ?_⟩
  rw [graphF_zero]
  exact (List.mem_filter.1 hl).1

end Go.Proofs

namespace Go.Proofs
open Go.Sx

theorem shortF_bd (n : Nat) (rev : Nat → Bool) (arcs : List Lnk) (src : Nat) (hn : n ≤ 1000) (hl : arcs.length ≤ 10000) (hok : ∀ l ∈ arcs, ArcOK n l) : ∀ v, -700000000000000 ≤ (shortF n rev arcs src).1.sum.getD v 0 ∧ (shortF n rev arcs src).1.sum.getD v 0 ≤ 700000000000000 := by
  intro v
  have h := shortF_tok n rev arcs src hok
  have hb : ((n + 3 : Nat) : Int) * (67108864 * arcs.length) ≤ 1003 * (67108864 * 10000) := Int.mul_le_mul (by omega) (by omega) (by omega) (by omega)
  by_cases hi : v < (shortF n rev arcs src).1.sum.length
  · have := h.bd _ (getD_mem hi)
    omega
  · rw [List.getD_eq_getElem?_getD, List.getElem?_eq_none (by omega)]
    simp

/-! ### What a way back shows -/

end Go.Proofs

namespace Go.Proofs
open Go.Sx

theorem calm_tree {bs : List (Int × Int)} {ls : List Lnk} (hs : SysOK bs ls) (hcalm : Calm bs ls 0) (k : Int) {src : Nat} (hsrc : src ≤ bs.length) :
    (shortF bs.length noRev (graphF bs ls k) src).2 = -1 ∧ ∃ ts, Tree bs.length (graphF bs ls k) (edgs bs.length noR 0 (graphF bs ls k)) src (shortF bs.length noRev (graphF bs ls k) src).1 ts := by
  obtain ⟨q, hq⟩ := calm_pot hs hcalm
  have hr := rounds_pot (rev := noR) (k := bs.length + 2) (graphF_ok hs k) (potL_iff.1 (hq k)) hsrc (by omega)
  exact ⟨hr.1, tree_of (rev := noR) (graphF_ok hs k) (hub_graph bs ls k) hsrc hr.1⟩

end Go.Proofs

/-
  Plain lemmas, part 12: a place that was changed in a late round leads back into a cycle with a negative sum. Conditions: none; definitions and plain lemmas.
-/
namespace Go
namespace Proofs

def wsum (f : Nat → Int) : Nat → Int
  | 0 => 0
  | m + 1 => wsum f m + f m

/-- A cycle that relaxing has met: the way back from a place, by the arcs over which each place was reached; behind n + 1 steps it goes round, M steps each time. -/
structure Cyc (n : Nat) (arcs : List Lnk) (T : Tr) (v : Nat) (P kk : Nat → Nat) (M : Nat) : Prop where
  start : P 0 = v
  le : ∀ m, P m ≤ n
  lst : ∀ m, T.last[P m]? = some ((kk m : Nat) : Int)
  bef : ∀ m, befF n arcs (kk m) = some (P (m + 1))
  lnk : ∀ m, ∃ l, arcs[kk m / 2]? = some l ∧ plc n l.t = P m ∧ plc n l.f = P (m + 1)
  pos : 1 ≤ M
  len : M ≤ n + 1
  per : P (n + 1 + M) = P (n + 1)
  low : ∀ m, 1 ≤ m → m < M → P (n + 1 + m) ≠ P (n + 1)
  nodup : ((List.range M).map fun m => P (n + 1 + m)).Nodup
  neg : wsum (fun m => (arcs.getD (kk (n + 1 + m) / 2) ⟨0, 0, 0, 0⟩).m) M < 0

theorem least (p : Nat → Prop) (h : ∃ m, 1 ≤ m ∧ p m) : ∃ m, 1 ≤ m ∧ p m ∧ ∀ k, 1 ≤ k → k < m → ¬ p k := by
  obtain ⟨m, hm⟩ := h
  induction m using Nat.strongRecOn with
  | ind m ih =>
    by_cases hk : ∃ k, k < m ∧ 1 ≤ k ∧ p k
    · obtain ⟨k, h1, h2⟩ := hk
      exact ih k h1 h2
    · exact ⟨m, hm.1, hm.2, fun k h1 h2 h3 => hk ⟨k, h2, h1, h3⟩⟩

theorem cyc_of {n : Nat} {arcs : List Lnk} {src : Nat} (hok : ∀ l ∈ arcs, ArcOK n l) (hs : src ≤ n) (h : (shortF n noR arcs src).2 ≠ -1) :
    ∃ v P kk M, (shortF n noR arcs src).2 = ((v : Nat) : Int) ∧ v ≤ n ∧ Cyc n arcs (shortF n noR arcs src).1 v P kk M := by
  have hE := edgs_ok (rev := noR) hok
  have hG := edgs_key (n := n) (rev := noR) (arcs := arcs)
  obtain ⟨ts, r, hB, hr⟩ := BF.rounds (n := n) (rev := noR) (arcs := arcs) rfl hE (n + 2) 0 _ _ (BF.start hs)
  have hr : ∃ v, v < n + 1 ∧ (shortF n noR arcs src).2 = ((v : Nat) : Int) ∧ (0 + (n + 2)) * (edgs n noR 0 arcs).length + 1 ≤ ts v := by
    rcases hr with hr | hr
    · exact absurd hr.1 h
    · exact hr
  obtain ⟨v, hv, hch, hts⟩ := hr
  have hB : BF (edgs n noR 0 arcs) (n + 1) src r 0 ts (shortF n noR arcs src).1 := hB
  generalize (shortF n noR arcs src).1 = T at *
  rw [Nat.zero_add] at hts
  have hc := hB.chain hE hG hv hts
  obtain ⟨P, hP⟩ : ∃ P, P = backN (keyE n arcs) T v := ⟨_, rfl⟩
  rw [← hP] at hc
  have hstep : ∀ m, P (m + 1) = backF (keyE n arcs) T (P m) := fun m => by rw [hP]; rfl
  obtain ⟨i, j, hij, hj, he⟩ := pigeon (n + 1) P (fun i hi => (hc i (by omega)).1)
  have hshift : ∀ t, P (i + t) = P (j + t) := by
    intro t
    induction t with
    | zero => exact he
    | succ t ih => rw [show i + (t + 1) = i + t + 1 from rfl, show j + (t + 1) = j + t + 1 from rfl, hstep, hstep, ih]
  have hall : ∀ m, P m < n + 1 ∧ T.last.getD (P m) (-1) ≠ -1 := by
    intro m
    induction m using Nat.strongRecOn with
    | ind m ih =>
      by_cases hm : m ≤ n + 2
      · exact ⟨(hc m hm).1, (hc m hm).2.2⟩
      · have e : P m = P (m - (j - i)) := by
          have := hshift (m - j)
          rw [show i + (m - j) = m - (j - i) from by omega, show j + (m - j) = m from by omega] at this
          exact this.symm
        rw [e]
        exact ih _ (by omega)
  have hback := fun m => hB.back hG (hall m).1 (hall m).2
  obtain ⟨kk, hkk⟩ : ∃ kk : Nat → Nat, ∀ m, kk m = (T.last.getD (P m) (-1)).toNat := ⟨fun m => (T.last.getD (P m) (-1)).toNat, fun m => rfl⟩
  have hkk2 : ∀ m, T.last.getD (P m) (-1) = ((kk m : Nat) : Int) := by
    intro m
    obtain ⟨g1, g2, _⟩ := hback m
    have := (hE _ g1).2.2
    rw [g2] at this
    rw [hkk]; omega
  have hkey : ∀ m, keyE n arcs (kk m) ∈ edgs n noR 0 arcs ∧ (keyE n arcs (kk m)).k = (kk m : Int) ∧ (keyE n arcs (kk m)).b = P m ∧ (keyE n arcs (kk m)).a = P (m + 1) := by
    intro m
    obtain ⟨g1, g2, g3, _⟩ := hback m
    rw [hkk2 m] at g1 g2 g3
    refine ⟨g1, g2, g3, ?_⟩
    rw [hstep]; unfold backF; rw [hkk2 m]
  have hlnk : ∀ m, ∃ l, arcs[kk m / 2]? = some l ∧ plc n l.t = P m ∧ plc n l.f = P (m + 1) ∧ (keyE n arcs (kk m)).w = l.m := by
    intro m
    obtain ⟨h1, h2, h3, h4⟩ := hkey m
    obtain ⟨_, _, l, hl, h5 | h5⟩ := key_befF h1 h2
    · exact ⟨l, hl, by rw [← h5.2.2.1]; exact h3, by rw [← h5.2.1]; exact h4, h5.2.2.2⟩
    · cases h5.2.1
  obtain ⟨M, hM1, hM2, hM3⟩ := least (fun M => P (n + 1 + M) = P (n + 1)) ⟨j - i, by omega, by
    have := hshift (n + 1 - i)
    rw [show i + (n + 1 - i) = n + 1 from by omega, show j + (n + 1 - i) = n + 1 + (j - i) from by omega] at this
    exact this.symm⟩
  have hsh2 : ∀ x y t, P (n + 1 + x) = P (n + 1 + y) → P (n + 1 + x + t) = P (n + 1 + y + t) := by
    intro x y t hxy
    induction t with
    | zero => exact hxy
    | succ t ih => rw [show n + 1 + x + (t + 1) = n + 1 + x + t + 1 from rfl, show n + 1 + y + (t + 1) = n + 1 + y + t + 1 from rfl, hstep, hstep, ih]
  have hnd : ((List.range M).map fun m => P (n + 1 + m)).Nodup := by
    unfold List.Nodup
    rw [List.pairwise_map, List.pairwise_iff_getElem]
    intro x y hx hy hxy hexy
    simp only [List.getElem_range] at hexy
    have hyM : y < M := by simpa using hy
    have := hsh2 x y (M - y) hexy
    rw [show n + 1 + y + (M - y) = n + 1 + M from by omega, hM2, show n + 1 + x + (M - y) = n + 1 + (x + (M - y)) from by omega] at this
    exact hM3 (x + (M - y)) (by omega) (by omega) this
  refine ⟨v, P, kk, M, hch, by omega, ⟨by rw [hP]; rfl, fun m => by have := (hall m).1; omega, fun m => ?_, fun m => ?_, fun m => ?_, hM1, ?_, hM2, hM3, hnd, ?_⟩⟩
  · have hl : P m < T.last.length := by rw [hB.ll]; exact (hall m).1
    rw [← hkk2 m, List.getD_eq_getElem?_getD, List.getElem?_eq_getElem hl]; rfl
  · obtain ⟨h1, h2, h3, h4⟩ := hkey m
    rw [(key_befF h1 h2).2.1, h4]
  · obtain ⟨l, h1, h2, h3, _⟩ := hlnk m
    exact ⟨l, h1, h2, h3⟩
  · have := nodup_len (N := n + 1) hnd (fun x hx => by
      obtain ⟨m, _, rfl⟩ := List.mem_map.1 hx
      exact (hall _).1)
    simpa using this
  · obtain ⟨Q, hQ⟩ : ∃ Q : Nat → Int, ∀ k, Q k = -wsum (fun m => (arcs.getD (kk (n + 1 + m) / 2) ⟨0, 0, 0, 0⟩).m) (k - (n + 1)) := ⟨fun k => -wsum (fun m => (arcs.getD (kk (n + 1 + m) / 2) ⟨0, 0, 0, 0⟩).m) (k - (n + 1)), fun k => rfl⟩
    have hf := hB.fall hG (v := v) (i := n + 1) (m := M) (Q := Q) (fun k _ _ => by rw [← hP]; exact hall k) (fun k h1 h2 => by
      rw [hQ, hQ, show k + 1 - (n + 1) = (k - (n + 1)) + 1 from by omega]
      show _ ≤ -(wsum (fun m => (arcs.getD (kk (n + 1 + m) / 2) ⟨0, 0, 0, 0⟩).m) (k - (n + 1)) + (arcs.getD (kk (n + 1 + (k - (n + 1))) / 2) ⟨0, 0, 0, 0⟩).m) + (keyE n arcs (T.last.getD (backN (keyE n arcs) T v k) (-1))).w
      rw [show n + 1 + (k - (n + 1)) = k from by omega, ← hP, hkk2 k]
      obtain ⟨l, g1, g2, g3, g4⟩ := hlnk k
      rw [g4, List.getD_eq_getElem?_getD, g1]
      simp only [Option.getD_some]
      omega) hM1
    rw [← hP, hM2, hQ, hQ, show n + 1 + M - (n + 1) = M from by omega, Nat.sub_self] at hf
    simp only [wsum] at hf
    rcases hf with hf | hf
    · omega
    · omega

/-- The links of the first steps round a cycle. -/
def cycL (n : Nat) (arcs : List Lnk) (kk : Nat → Nat) (m : Nat) : List Lnk := (List.range m).map fun i => arcs.getD (kk (n + 1 + i) / 2) ⟨0, 0, 0, 0⟩

theorem cycL_succ (n : Nat) (arcs : List Lnk) (kk : Nat → Nat) (m : Nat) : cycL n arcs kk (m + 1) = cycL n arcs kk m ++ [arcs.getD (kk (n + 1 + m) / 2) ⟨0, 0, 0, 0⟩] := by
  unfold cycL; rw [List.range_succ, List.map_append]; rfl

end Proofs
end Go

namespace Go.Proofs
open Go.Sx

theorem cycle_t (n : Nat) (arcs : List Lnk) (T : Tr) (v : Nat) (P kk : Nat → Nat) (M : Nat) (hn : n ≤ 1000) (ha : arcs.length ≤ 10000) (hl1 : T.sum.length = n + 1) (hl2 : T.there.length = n + 1) (hl3 : T.last.length = n + 1) (h : Cyc n arcs T v P kk M) :
    Triple Try.prog 136 [.c (.p 0 0 0 0), .agg [.s 2 0 (n + 1) 1, .s 3 0 (n + 1) 1, .s 4 0 (n + 1) 1], iv .i64 v]
      [(0, false, .cells [.v (.int .i64 n), .s 1 0 arcs.length 4]), (1, false, .arr (aLink arcs)), (2, false, .arr (aInt T.sum)), (3, false, .arr (aBool T.there)), (4, false, .arr (aInt T.last))] 5
      (.c (.s 5 0 (cycL n arcs kk M).reverse.length 4)) [(5, true, .arr (aLink (cycL n arcs kk M).reverse))] := by
  have hM := h.len
  have hM1 := h.pos
  have bef : ∀ m, Triple Try.prog 105 [.c (.p 0 0 0 0), .agg [.s 2 0 (n + 1) 1, .s 3 0 (n + 1) 1, .s 4 0 (n + 1) 1], iv .i64 (P m)]
      [(0, false, .cells [.v (.int .i64 n), .s 1 0 arcs.length 4]), (1, false, .arr (aLink arcs)), (2, false, .arr (aInt T.sum)), (3, false, .arr (aBool T.there)), (4, false, .arr (aInt T.last))] 5 (iv .i64 (P (m + 1))) [] := fun m =>
    before_t n arcs T.last (P m) (kk m) (P (m + 1)) T.sum T.there (n + 1) hn hl3 (h.lst m) (by have := befF_lt (h.bef m); omega) (h.bef m)
  have hP0 := h.start
  subst hP0
  refine triple_of tB_ok Try.func136 rfl Try.call136 rfl ?_
  intro ρ w hH
  conv => whnf
  refine ⟨(n : Int) + 1, wrapId (z := (n : Int) + 1) ⟨by omega, by omega⟩, ?_⟩
  conv => whnf
  refine loop_step tB_ok (G := Nat) 0 [] (fun m => [(14, iv .i64 m), (2, iv .i64 (P m))]) (fun _ => []) (fun m => m ≤ n + 1) (fun m => n + 1 - m) ?_
  conv => whnf
  refine ⟨⟨0, Nat.zero_le _, ?_⟩, ?_⟩
  · conv => whnf
    repeat' (first | exact trivial | exact rfl | refine And.intro ?_ ?_ | ((conv => whnf); first | exact trivial | exact rfl | refine And.intro ?_ ?_ | omega))
  intro m hm ρ1 t1 hρ1
  conv => whnf
  refine ⟨fun hc => ?_, fun hc => ?_⟩
  · have hlt : m < n + 1 := by have := of_decide_eq_true (show decide ((m : Int) < (n : Int) + 1) = true from hc); omega
    conv => whnf
    refine call_step (bef m) rfl rfl ?_
    conv => whnf
    refine ⟨(by repeat' (first | exact trivial | exact rfl | refine And.intro ?_ ?_ | ((conv => whnf); first | exact trivial | exact rfl | refine And.intro ?_ ?_ | omega))), (by repeat' (first | exact trivial | exact rfl | refine And.intro ?_ ?_ | ((conv => whnf); first | exact trivial | exact rfl | refine And.intro ?_ ?_ | omega))), ?_⟩
    conv => whnf
    refine ⟨(m : Int) + 1, wrapId (z := (m : Int) + 1) ⟨by omega, by omega⟩, ?_⟩
    refine ⟨m + 1, hlt, by show n + 1 - (m + 1) < n + 1 - m; omega, ?_⟩
    conv => whnf
    refine ⟨rfl, ?_⟩
    conv => whnf
    repeat' (first | exact trivial | exact rfl | refine And.intro ?_ ?_ | ((conv => whnf); first | exact trivial | exact rfl | refine And.intro ?_ ?_ | omega))
  have hme : m = n + 1 := by have := of_decide_eq_false (show decide ((m : Int) < (n : Int) + 1) = false from hc); omega
  subst hme
  conv => whnf
  refine loop_step tB_ok (G := Nat × List Lnk) 1 [] (fun g => [(8, iv .i64 (P (n + 1 + g.1))), (7, .c (.s 6 0 g.2.length 4))]) (fun g => [(6, true, .arr (aLink g.2))]) (fun g => g.1 < M ∧ g.2 = cycL n arcs kk g.1) (fun g => M - g.1) ?_
  conv => whnf
  refine ⟨⟨(0, []), ⟨hM1, rfl⟩, ?_⟩, ?_⟩
  · conv => whnf
    repeat' (first | exact trivial | exact rfl | refine And.intro ?_ ?_ | ((conv => whnf); first | exact trivial | exact rfl | refine And.intro ?_ ?_ | omega))
  rintro ⟨i, out⟩ ⟨hi, hout⟩ ρ2 t2 hρ2
  have hi : i < M := hi
  have hout : out = cycL n arcs kk i := hout
  have hol : out.length = i := by rw [hout]; simp [cycL]
  dsimp only
  have hle := h.le (n + 1 + i)
  have hla := h.lst (n + 1 + i)
  have hbe := bef (n + 1 + i)
  have hkl := befF_lt (h.bef (n + 1 + i))
  obtain ⟨hpl, hpe⟩ := List.getElem?_eq_some_iff.1 hla
  have hdiv : IntKind.i64.wrap (Int.tdiv T.last[P (n + 1 + i)] 2) = ((kk (n + 1 + i) / 2 : Nat) : Int) := by rw [hpe]; exact wrapId (z := ((kk (n + 1 + i) / 2 : Nat) : Int)) ⟨by omega, by omega⟩
  have hst := cycL_succ n arcs kk i
  rw [← hout, List.getD_eq_getElem?_getD, List.getElem?_eq_getElem hkl, Option.getD_some] at hst
  have hper := h.per
  have hlow := h.low (i + 1) (by omega)
  have hnext : P (n + 1 + i + 1) = P (n + 1 + (i + 1)) := rfl
  have hfin : i + 1 = M → cycL n arcs kk M = cycL n arcs kk (i + 1) := fun he => by rw [he]
  obtain ⟨j, hj⟩ : ∃ j, j = kk (n + 1 + i) / 2 := ⟨_, rfl⟩
  simp only [← hj] at hdiv hkl hst
  clear hla
  conv => whnf
  refine ⟨P (n + 1 + i), rfl, by omega, hpl, ?_⟩
  conv => whnf
  refine ⟨by decide, (j : Int), hdiv, ?_⟩
  conv => whnf
  refine ⟨j, rfl, hkl, hkl, ?_⟩
  conv => whnf
  refine bs_step tB_ok (aLink [arcs[j]]) rfl rfl ?_
  conv => whnf
  refine ⟨⟨rfl, ⟨rfl, rfl, rfl, rfl, trivial⟩⟩, ?_⟩
  conv => whnf
  refine app_step tB_ok (aLink out) [arcs[j]] (fun _ => rfl) rfl rfl rfl rfl ?_
  conv => whnf
  refine ⟨⟨rfl, rfl, Nat.le_refl _, Nat.le_refl _, by show (out.length + 1) * 33 ≤ _; omega⟩, ?_⟩
  conv => whnf
  refine call_step hbe rfl rfl ?_
  conv => whnf
  refine ⟨(by repeat' (first | exact trivial | exact rfl | refine And.intro ?_ ?_ | ((conv => whnf); first | exact trivial | exact rfl | refine And.intro ?_ ?_ | omega))), (by repeat' (first | exact trivial | exact rfl | refine And.intro ?_ ?_ | ((conv => whnf); first | exact trivial | exact rfl | refine And.intro ?_ ?_ | omega))), ?_⟩
  conv => whnf
  refine ⟨fun hc => ?_, fun hc => ?_⟩
  · have he : P (n + 1 + i + 1) = P (n + 1) := by
      have := (show ((P (n + 1 + i + 1) : Int) == ((P (n + 1) : Nat) : Int)) = true from hc)
      simp at this; omega
    have hie : i + 1 = M := by
      rcases Nat.lt_or_ge (i + 1) M with hlt | hge
      · exact absurd he (hlow hlt)
      · omega
    have hfin := hfin hie
    rw [hst] at hfin
    have hrv : Triple Try.prog 106 [.c (.s 0 0 (out.length + 1) 4)] [(0, true, .arr (aLink (List.take out.length out ++ List.take 1 (List.drop 0 [arcs[j]]))))] 1 (.tup []) [(0, true, .arr (aLink (out ++ [arcs[j]]).reverse))] := by
      have h1 : (out ++ [arcs[j]]).length = out.length + 1 := by simp
      have := reverse_t (out ++ [arcs[j]]) (by omega)
      rw [app1]
      rwa [h1] at this
    conv => whnf
    rw [hfin]
    refine call_step hrv rfl rfl ?_
    conv => whnf
    refine ⟨(by repeat' (first | exact trivial | exact rfl | refine And.intro ?_ ?_ | ((conv => whnf); first | exact trivial | exact rfl | refine And.intro ?_ ?_ | omega))), (by repeat' (first | exact trivial | exact rfl | refine And.intro ?_ ?_ | ((conv => whnf); first | exact trivial | exact rfl | refine And.intro ?_ ?_ | omega))), ?_⟩
    conv => whnf
    repeat' (first | exact trivial | exact rfl | refine And.intro ?_ ?_ | ((conv => whnf); first | exact trivial | exact rfl | refine And.intro ?_ ?_ | omega))
    all_goals simp
  · have he : P (n + 1 + i + 1) ≠ P (n + 1) := by
      have := (show ((P (n + 1 + i + 1) : Int) == ((P (n + 1) : Nat) : Int)) = false from hc)
      simp at this; omega
    have hlt : i + 1 < M := by
      rcases Nat.lt_or_ge (i + 1) M with hlt | hge
      · exact hlt
      · exfalso
        have : i + 1 = M := by omega
        rw [hnext, this] at he
        exact he hper
    conv => whnf
    refine ⟨(i + 1, out ++ [arcs[j]]), ⟨hlt, hst.symm⟩, by show M - (i + 1) < M - i; omega, ?_⟩
    conv => whnf
    refine ⟨rfl, ?_⟩
    conv => whnf
    repeat' (first | exact trivial | exact rfl | refine And.intro ?_ ?_ | ((conv => whnf); first | exact trivial | exact rfl | refine And.intro ?_ ?_ | omega))
    all_goals first | exact (congrArg aLink app1 : _) | simp

theorem clash_t (n : Nat) (arcs : List Lnk) (v : Nat) (P kk : Nat → Nat) (M : Nat) (hn : n ≤ 1000) (hl : arcs.length ≤ 10000) (hok : ∀ l ∈ arcs, ArcOK n l) (hch : (shortF n noRev arcs n).2 = ((v : Nat) : Int)) (h : Cyc n arcs (shortF n noRev arcs n).1 v P kk M) :
    Triple Try.prog 96 [.c (.p 0 0 0 0)] (graphH n arcs) 2 (.tup [.inl (.s 2 0 (cycL n arcs kk M).reverse.length 4), .inl (.b true)]) [(2, true, .arr (aLink (cycL n arcs kk M).reverse))] := by
  have hlen := shortF_len n noRev arcs n hok
  obtain ⟨hl1, hl2, hl3⟩ := hlen
  refine triple_of tB_ok Try.func96 rfl Try.call96 rfl ?_
  intro ρ w hH
  conv => whnf
  refine call_step (plain_t n arcs n hn hl hok (Nat.le_refl _)) rfl rfl ?_
  conv => whnf
  refine ⟨(by repeat' (first | exact trivial | exact rfl | refine And.intro ?_ ?_ | ((conv => whnf); first | exact trivial | exact rfl | refine And.intro ?_ ?_ | omega))), (by repeat' (first | exact trivial | exact rfl | refine And.intro ?_ ?_ | ((conv => whnf); first | exact trivial | exact rfl | refine And.intro ?_ ?_ | omega))), ?_⟩
  conv => whnf
  rw [hch]
  generalize (shortF n noRev arcs n).1 = T at *
  refine ⟨fun hc => ?_, fun hc => ?_⟩
  · have := (show ((v : Int) == -1) = true from hc)
    simp at this
  conv => whnf
  refine call_step (cycle_t n arcs T v P kk M hn hl hl1 hl2 hl3 h) rfl rfl ?_
  conv => whnf
  refine ⟨(by repeat' (first | exact trivial | exact rfl | refine And.intro ?_ ?_ | ((conv => whnf); first | exact trivial | exact rfl | refine And.intro ?_ ?_ | omega))), (by repeat' (first | exact trivial | exact rfl | refine And.intro ?_ ?_ | ((conv => whnf); first | exact trivial | exact rfl | refine And.intro ?_ ?_ | omega))), ?_⟩
  conv => whnf
  repeat' (first | exact trivial | exact rfl | refine And.intro ?_ ?_ | ((conv => whnf); first | exact trivial | exact rfl | refine And.intro ?_ ?_ | omega))

theorem conflictYes_t (bs : List (Int × Int)) (ls : List Lnk) (v : Nat) (P kk : Nat → Nat) (M : Nat) (hs : SysOK bs ls) (hch : (shortF bs.length noRev (graphF bs ls 0) bs.length).2 = ((v : Nat) : Int)) (h : Cyc bs.length (graphF bs ls 0) (shortF bs.length noRev (graphF bs ls 0) bs.length).1 v P kk M) :
    Triple Try.prog 36 [sysA bs.length ls.length] (sysH bs ls) 2 (.tup [.inl (.s 2 0 (cycL bs.length (graphF bs ls 0) kk M).reverse.length 4), .inl (.b true), .inl (.v (.int .i64 0))]) [(2, true, .arr (aLink (cycL bs.length (graphF bs ls 0) kk M).reverse))] := by
  have hnb := hs.nb
  have hnl := hs.nl
  have hgl := graphF_len hs 0
  refine triple_of tB_ok Try.func36 rfl Try.call36 rfl ?_
  intro ρ w hH
  conv => whnf
  refine call_step (check_t bs ls (by omega) (by omega)) rfl rfl ?_
  conv => whnf
  refine ⟨(by repeat' (first | exact trivial | exact rfl | refine And.intro ?_ ?_ | ((conv => whnf); first | exact trivial | exact rfl | refine And.intro ?_ ?_ | omega))), (by repeat' (first | exact trivial | exact rfl | refine And.intro ?_ ?_ | ((conv => whnf); first | exact trivial | exact rfl | refine And.intro ?_ ?_ | omega))), ?_⟩
  conv => whnf
  rw [checkF_ok.2 hs]
  refine ⟨fun hc => absurd hc (by simp), fun hc => ?_⟩
  conv => whnf
  refine call_step (graphOf_t bs ls 0 (by omega) hs.boxB (by omega)) rfl rfl ?_
  conv => whnf
  refine ⟨(by repeat' (first | exact trivial | exact rfl | refine And.intro ?_ ?_ | ((conv => whnf); first | exact trivial | exact rfl | refine And.intro ?_ ?_ | omega))), (by repeat' (first | exact trivial | exact rfl | refine And.intro ?_ ?_ | ((conv => whnf); first | exact trivial | exact rfl | refine And.intro ?_ ?_ | omega))), ?_⟩
  conv => whnf
  refine call_step (clash_t bs.length (graphF bs ls 0) v P kk M (by omega) (by omega) (graphF_ok hs 0) hch h) rfl rfl ?_
  conv => whnf
  refine ⟨(by repeat' (first | exact trivial | exact rfl | refine And.intro ?_ ?_ | ((conv => whnf); first | exact trivial | exact rfl | refine And.intro ?_ ?_ | omega))), (by repeat' (first | exact trivial | exact rfl | refine And.intro ?_ ?_ | ((conv => whnf); first | exact trivial | exact rfl | refine And.intro ?_ ?_ | omega))), ?_⟩
  conv => whnf
  repeat' (first | exact trivial | exact rfl | refine And.intro ?_ ?_ | ((conv => whnf); first | exact trivial | exact rfl | refine And.intro ?_ ?_ | omega))

theorem conflictErr_t (bs : List (Int × Int)) (ls : List Lnk) (hb : bs.length ≤ 1000000) (hl : ls.length ≤ 1000000) (hc : checkF bs ls ≠ 0) :
    Triple Try.prog 36 [sysA bs.length ls.length] (sysH bs ls) 2 (.tup [.inl (.v (.slice none 0 0)), .inl (.b false), .inl (.v (.int .i64 (checkF bs ls)))]) [] := by
  refine triple_of tB_ok Try.func36 rfl Try.call36 rfl ?_
  intro ρ w hH
  conv => whnf
  refine call_step (check_t bs ls hb hl) rfl rfl ?_
  conv => whnf
  refine ⟨(by repeat' (first | exact trivial | exact rfl | refine And.intro ?_ ?_ | ((conv => whnf); first | exact trivial | exact rfl | refine And.intro ?_ ?_ | omega))), (by repeat' (first | exact trivial | exact rfl | refine And.intro ?_ ?_ | ((conv => whnf); first | exact trivial | exact rfl | refine And.intro ?_ ?_ | omega))), ?_⟩
  conv => whnf
  generalize checkF bs ls = c at *
  refine ⟨fun hcc => ?_, fun hcc => ?_⟩
  · conv => whnf
    repeat' (first | exact trivial | exact rfl | refine And.intro ?_ ?_ | ((conv => whnf); first | exact trivial | exact rfl | refine And.intro ?_ ?_ | omega))
  · exact absurd (by simpa using hcc) hc

end Go.Proofs

namespace Go.Proofs
open Go.Sx

/-! ### The reference implementation's -/

/-! ### The law -/

end Go.Proofs

/-
  Plain lemmas, part 13: a flow over the arcs of a system: what it brings to each place, and how a path changes it. Conditions: none; definitions and plain lemmas.
-/
namespace Go
namespace Proofs

/-! ### A path -/

end Proofs
end Go

/-
  Plain lemmas, part 14: the greatest value of a form is found: the flow is carried along cheapest paths until nothing is left. Conditions: none; definitions and plain lemmas.
-/
namespace Go
namespace Proofs

end Proofs
end Go

/-
  Plain lemmas, part 15: the greatest value of a form is what the program's function answers: a flow, its cost, an allowed point at which the form has this value. Conditions: none; definitions and plain lemmas.
-/
namespace Go
namespace Proofs

end Proofs
end Go

namespace Go.Proofs
open Go.Sx

end Go.Proofs

namespace Go.Proofs
open Go.Sx

/-! ### Forms -/

end Go.Proofs

/-
  Plain lemmas, part 16: the value of a form at a point, its coefficients, and what uses of links show. Conditions: none; definitions and plain lemmas.
-/
namespace Go
namespace Proofs

/-! ### A flow's uses -/

end Proofs
end Go

namespace Go.Proofs
open Go.Sx

end Go.Proofs

namespace Go.Proofs
open Go.Sx

end Go.Proofs

namespace Go.Proofs
open Go.Sx

end Go.Proofs

namespace Go.Proofs
open Go.Sx

end Go.Proofs

namespace Go.Proofs
open Go.Sx

/-- A system that does not contradict itself and is not too large. -/
structure NetW (bs : List (Int × Int)) (ls : List Lnk) : Prop where
  few : bs.length ≤ 14 ∧ ls.length ≤ 150
  sys : SysOK bs ls
  calm : Calm bs ls 0

end Go.Proofs

namespace Go.Proofs
open Go.Sx

theorem newErr_t (bs : List (Int × Int)) (ls : List Lnk) (hb : bs.length ≤ 1000000) (hl : ls.length ≤ 1000000) (hc : checkF bs ls ≠ 0) :
    Triple Try.prog 64 [sysA bs.length ls.length] (sysH bs ls) 2 (.tup [.inl (.v (.pointer none)), .inl (.v (.int .i64 (checkF bs ls)))]) [] := by
  have hce := conflictErr_t bs ls hb hl hc
  generalize checkF bs ls = c at *
  refine triple_of tB_ok Try.func64 rfl Try.call64 rfl ?_
  intro ρ w hH
  conv => whnf
  refine call_step hce rfl rfl ?_
  conv => whnf
  refine ⟨(by repeat' (first | exact trivial | exact rfl | refine And.intro ?_ ?_ | ((conv => whnf); first | exact trivial | exact rfl | refine And.intro ?_ ?_ | omega))), (by repeat' (first | exact trivial | exact rfl | refine And.intro ?_ ?_ | ((conv => whnf); first | exact trivial | exact rfl | refine And.intro ?_ ?_ | omega))), ?_⟩
  conv => whnf
  refine ⟨fun h2 => ?_, fun h2 => absurd (by simpa using (show (c != 0) = false from h2)) hc⟩
  conv => whnf
  repeat' (first | exact trivial | exact rfl | refine And.intro ?_ ?_ | ((conv => whnf); first | exact trivial | exact rfl | refine And.intro ?_ ?_ | omega))

theorem newClash_t (bs : List (Int × Int)) (ls : List Lnk) (hs : SysOK bs ls) (h : ¬ Calm bs ls 0) :
    Triple Try.prog 64 [sysA bs.length ls.length] (sysH bs ls) 2 (.tup [.inl (.v (.pointer none)), .inl (.v (.int .i64 9))]) [] := by
  obtain ⟨v, P, kk, M, hch, hv, hcy⟩ := cyc_of (graphF_ok hs 0) (Nat.le_refl _) h
  have hce := conflictYes_t bs ls v P kk M hs hch hcy
  refine triple_of tB_ok Try.func64 rfl Try.call64 rfl ?_
  intro ρ w hH
  conv => whnf
  refine call_step hce rfl rfl ?_
  conv => whnf
  refine ⟨(by repeat' (first | exact trivial | exact rfl | refine And.intro ?_ ?_ | ((conv => whnf); first | exact trivial | exact rfl | refine And.intro ?_ ?_ | omega))), (by repeat' (first | exact trivial | exact rfl | refine And.intro ?_ ?_ | ((conv => whnf); first | exact trivial | exact rfl | refine And.intro ?_ ?_ | omega))), ?_⟩
  conv => whnf
  refine ⟨fun hc => absurd hc (by simp), fun hc => ?_⟩
  conv => whnf
  repeat' (first | exact trivial | exact rfl | refine And.intro ?_ ?_ | ((conv => whnf); first | exact trivial | exact rfl | refine And.intro ?_ ?_ | omega))

end Go.Proofs

/-
  Plain lemmas, part 17: sums of forms. Conditions: none; definitions and plain lemmas.
-/
namespace Go
namespace Proofs

end Proofs
end Go

namespace Go.Proofs
open Go.Sx

end Go.Proofs

namespace Go
namespace Sx

/-! ### Making room where there is no slice yet: cap(nil), append(nil, make(..)...) -/

def capNilK (B : Tabs) (t : TypeId) (x : SV) (K : Eff → Prop) : Prop :=
  match x, lookT B.T t with
  | .c (.v (.slice none 0 0)), some ⟨.slice _, _, _, _⟩ => K ⟨iv .i64 0, [], [], []⟩
  | _, _ => False

theorem capNil_step {cx : Cx} {B : Tabs} (hB : TabsOK cx.P B) {o : Oper} {e : Env} {H : Heap} {nx : Nat} {K : Eff → Prop} {c : Call} {x : Operand} {t : TypeId} (ho : o.op = .call c) (hc : c.callee = .builtin .cap) (hca : c.args = #[x]) (hct : c.argTypes = #[t])
    (h : capNilK B t (ev e x) K) : ∃ F, CallOK cx o e H nx F ∧ K F := by
  have hx : x ∈ o.op.operands.toList := by simp [ho, Op.operands, Call.operands, hc, hca]
  unfold capNilK at h
  split at h
  · rename_i el s0 b0 z0 hex ht
    refine ⟨_, ⟨?_, fun j hj => by cases hj⟩, h⟩
    intro ρ s a w hs hr _ _ hdst KK Q hKK
    have hx1 := reads_fit hx (fun t ht => by rw [← hr t ht]; exact hs.env t)
    rw [hex] at hx1
    simp only [SV.rel, SC.rel] at hx1
    obtain ⟨ds, hds, hks⟩ := run_und_kd hB.T ht w
    have e1 := kd_slice hks; subst e1
    have hrun : (execOp a.eval o).run cx.P w = .ok (.value (.int .i64 0)) w := by
      rw [run_builtin ho hc]
      simp [builtin, hca, hct, Builtin.cap_, hx1, hds, goInt]
    refine wpIn_of_value (by simp [ho]) hrun (hKK ρ _ w ?_ (fun _ _ => rfl))
    exact hs.putO hdst rfl (below_iv _ _ _)
  · exact h.elim

def growK (B : Tabs) (A : Arr) (t tn : TypeId) (x y : SV) (nx : Nat) (K : Eff → Prop) : Prop :=
  match lookT B.T t, lookT B.T tn, x, y with
  | some ⟨.slice el, _, _, _⟩, some ⟨.int .i64, _, _, _⟩, .c (.v (.slice none 0 0)), .c (.v (.int .i64 n)) => (match lookT B.T el with
    | some ti => bif Nat.beq ti.size A.sz && Nat.ble 1 A.sz then
        ∃ N : Nat, (n = (N : Int) ∧ 0 < N ∧ N * (ti.bytes + 1) ≤ 140737488355328 ∧ A.xs = []) ∧
        K ⟨.c (.s nx 0 N A.sz), [], [(nx, true, .arr A)], [nx]⟩ else False
    | none => False)
  | _, _, _, _ => False

theorem grow_step {cx : Cx} {B : Tabs} (hB : TabsOK cx.P B) {o : Oper} {e : Env} {H : Heap} {nx : Nat} {K : Eff → Prop} {c : Call} {x y : Operand} {t tn : TypeId} (A : Arr) (hA : A.nm = []) (ho : o.op = .call c) (hc : c.callee = .builtin .append) (hca : c.args = #[x, y]) (hct : c.argTypes = #[t, tn])
    (h : growK B A t tn (ev e x) (ev e y) nx K) : ∃ F, CallOK cx o e H nx F ∧ K F := by
  have hx : x ∈ o.op.operands.toList := by simp [ho, Op.operands, Call.operands, hc, hca]
  have hy : y ∈ o.op.operands.toList := by simp [ho, Op.operands, Call.operands, hc, hca]
  unfold growK at h
  split at h
  · rename_i el s0 b0 z0 s1 b1 z1 n ht htn hex hey
    split at h
    · rename_i ti hti
      obtain ⟨hb, N, ⟨rfl, hN, h3, hxs⟩, hK⟩ := bif_and h
      simp only [Bool.and_eq_true] at hb
      have hb1 := Nat.eq_of_beq_eq_true hb.1
      have hb2 := Nat.le_of_ble_eq_true hb.2
      refine ⟨_, ⟨?_, fun j hj => by simp at hj; subst hj; simp⟩, hK⟩
      intro ρ s a w hs hr _ hnew hdst KK Q hKK
      obtain ⟨hfr, hlt, hn0⟩ := hnew nx (by simp)
      have hx1 := reads_fit hx (fun t ht => by rw [← hr t ht]; exact hs.env t)
      have hy1 := reads_fit hy (fun t ht => by rw [← hr t ht]; exact hs.env t)
      rw [hex] at hx1; rw [hey] at hy1
      simp only [SV.rel, SC.rel] at hx1 hy1
      obtain ⟨i, z, hi, hz, hisz, hiby, hzz⟩ := ti_parts hB hti
      have hbd : N * i.bytes ≤ 140737488355328 := by rw [hiby]; exact Nat.le_trans (Nat.mul_le_mul_left _ (Nat.le_succ _)) h3
      have hln : N * 1 ≤ 140737488355328 := Nat.le_trans (Nat.mul_le_mul_left _ (by omega)) h3
      have htn' : cx.P.underlying tn = some (.int .i64) := by
        obtain ⟨i, d, z, hi, hd, hz, hk, _⟩ := tiOf_parts (hB.T.get htn)
        cases d <;> simp [kdOf] at hk
        rw [hd, hk]
      have hrunA := Lib.run_append_nil_zeros (P := cx.P) w t tn o.type el i z .i64 .i64 (und_slice hB ht) htn' hi hz N hN (by omega) (by omega) (by omega)
      have hge := grownCap_ge w N 0 el
      generalize hgc : grownCap w N 0 el = gc at hrunA hge
      have hzsz : z.cells.size = A.sz := by
        have := congrArg List.length hzz
        rw [← hb1]
        have hz2 := hB.zsz el ti hti
        simpa [hz2] using this
      have hrun : (execOp a.eval o).run cx.P w = .ok (.value (.slice (some ⟨w.heap.size, 0, none⟩) N gc)) (w.drew.alloc (.cells (Builtin.zeroCells z.cells N ++ Builtin.zeroCells z.cells (gc - N)) el)) := by
        rw [run_builtin ho hc, hca, hct]
        simp only [List.map_toArray, List.map_cons, List.map_nil, builtin, hx1, hy1, Sem.run_bind, hrunA, Result.andThen_ok, Sem.run_pure]
      refine wpIn_of_value (by simp [ho]) hrun (hKK (upd ρ nx ⟨w.heap.size, 0, gc⟩) _ _ ?_ (fun j hj => upd_ne (by simpa using hj)))
      have hbelow : (SO.arr A).below s.nx := fun (j : Nat) (hj : anyMem [j] A.nm = true) => by rw [hA] at hj; cases hj
      have hsat := hs.newAt (k := nx) (cap := gc) (o := .arr A) (ob := .cells (Builtin.zeroCells z.cells N ++ Builtin.zeroCells z.cells (gc - N)) el (0, 0)) hfr hlt hn0 hbelow ?_
      · refine (hsat.eqHeap (w' := w.drew.alloc _) rfl).putO hdst ?_ (by rw [SV.below_c]; intro j hj; simp [SC.nms] at hj; subst hj; exact hlt)
        simp only [SV.rel, SC.rel, upd_eq, Nat.sub_zero, Nat.zero_mul, Nat.zero_add]
        exact ⟨_, rfl, hge, fun _ => by simp [adr, upd_eq]⟩
      · refine satO_new_arr (by rw [hxs]; exact Nat.zero_le _) ?_ ?_
        · simp only [Array.size_append, size_zeroCells, hzsz]
          rw [← Nat.add_mul]; congr 1; omega
        · intro i' xx hxx
          rw [hxs] at hxx; cases hxx
    · exact h.elim
  · exact h.elim

end Sx
end Go

namespace Go
namespace Sx

/-! ### A list of slices, written out -/

def inVs (k : Nat) (e : Env) : List (Nat × Operand) → Bool
  | [] => false
  | p :: r => bif (ev e p.2).uses [k] then true else inVs k e r

def allVs (e : Env) (ps : List (Nat × Operand)) : List Nat → Bool
  | [] => true
  | k :: r => bif inVs k e ps then allVs e ps r else false

theorem inVs_get {k : Nat} {e : Env} : ∀ {ps : List (Nat × Operand)}, inVs k e ps = true → ∃ p ∈ ps, (ev e p.2).uses [k] = true
  | [], h => by cases h
  | p :: r, h => by
    simp only [inVs] at h
    cases hu : (ev e p.2).uses [k] with
    | true => exact ⟨p, List.mem_cons_self .., hu⟩
    | false =>
      rw [hu] at h
      obtain ⟨q, hq, h2⟩ := inVs_get h
      exact ⟨q, List.mem_cons_of_mem _ hq, h2⟩

theorem allVs_get {e : Env} {ps : List (Nat × Operand)} : ∀ {l : List Nat} {k : Nat}, allVs e ps l = true → k ∈ l → ∃ p ∈ ps, (ev e p.2).uses [k] = true
  | [], _, _, h => by cases h
  | j :: r, k, h, hk => by
    simp only [allVs] at h
    cases hu : inVs j e ps with
    | false => rw [hu] at h; cases h
    | true =>
      rw [hu] at h
      rcases List.mem_cons.1 hk with rfl | hk
      · exact inVs_get hu
      · exact allVs_get h hk

def bsNK (B : Tabs) (A : Arr) (e : Env) (t : TypeId) (len : Nat) (ps : List (Nat × Operand)) (nx : Nat) (K : Eff → Prop) : Prop :=
  bif allVs e ps A.nm then bsK B A e t len ps nx K else False

theorem bsN_step {cx : Cx} {B : Tabs} (hB : TabsOK cx.P B) {o : Oper} {e : Env} {H : Heap} {nx : Nat} {K : Eff → Prop} {t : TypeId} {len : Nat} {parts : Array (Nat × Operand)} (A : Arr)
    (ho : o.op = .buildSlice t len parts) (h : bsNK B A e t len parts.toList nx K) : ∃ F, CallOK cx o e H nx F ∧ K F := by
  have hmem : ∀ p ∈ parts.toList, p.2 ∈ o.op.operands.toList := fun p hp => by
    simp [ho, Op.operands]; exact ⟨p.1, by simpa using hp⟩
  obtain ⟨hall, h⟩ := bif_and h
  unfold bsK at h
  split at h
  · rename_i el s0 b0 z0 ht
    split at h
    · rename_i ti hti
      split at h
      · rename_i l hl
        obtain ⟨hb, ⟨hlen, hent⟩, hK⟩ := bif_and h
        simp only [Bool.and_eq_true] at hb
        have hb1 := Nat.eq_of_beq_eq_true hb.1
        have hb2 := Nat.le_of_ble_eq_true hb.2.1
        have hb3 := Nat.le_of_ble_eq_true hb.2.2
        refine ⟨_, ⟨loc_new (by simp [ho]) below_s ?_ ?_, fun j hj => by simp at hj; subst hj; simp⟩, hK⟩
        · intro n' hn' j hj
          obtain ⟨k, hk, hjk⟩ := anyMem_iff.1 (show anyMem [j] A.nm = true from hj)
          simp only [List.mem_singleton] at hjk
          subst hjk
          obtain ⟨p, hp, hu⟩ := allVs_get hall hk
          exact (reads_below (hmem p hp) hn') k hu
        · intro ρ a w hr hfr
          obtain ⟨i, z, hi, hz, hisz, hiby, hzz⟩ := ti_parts hB hti
          have hr' : ∀ p ∈ parts.toList, (ev e p.2).rel (upd ρ nx ⟨w.heap.size, 0, len⟩) (a.eval p.2) := by
            intro p hp
            refine SV.rel_upd' (reads_fit (hmem p hp) hr) ?_
            have hm := hmem p hp
            cases hx : p.2 with
            | tmp t => rw [hx] at hm; exact hfr t hm
            | const v => exact evC_uses v _
            | global g => simp [ev, SV.uses, SC.uses, SC.nms, anyMem]
            | func g => simp [ev, SV.uses, SC.uses, SC.nms, anyMem]
          have hinit : ((Array.range (len * i.size)).map (z.cells[· % z.cells.size]!)).size = len * ti.size := by simp [hisz]
          obtain ⟨out, hout, hrel⟩ := fillR_ok (ρ := upd ρ nx ⟨w.heap.size, 0, len⟩) (a := a) (e := e) (sz := ti.size) parts.toList (junks (len * ti.size)) ((Array.range (len * i.size)).map (z.cells[· % z.cells.size]!)) l
            (by have := @junks_rel (upd ρ nx ⟨w.heap.size, 0, len⟩) ((Array.range (len * i.size)).map (z.cells[· % z.cells.size]!)).toList; rwa [Array.length_toList, hinit] at this) hr' hl
          have hlo := relL_length hrel
          have hrelA := entL_rel0 hent hrel
          have hlA := relL_length hrelA
          have hencl : ∀ xs : List A.α, (encAll A xs).length = xs.length * A.sz := by
            intro xs; induction xs with
            | nil => simp [encAll]
            | cons x r ih => simp only [encAll, List.length_append, ih, A.hl, List.length_cons, Nat.add_mul]; omega
          refine ⟨.slice (some ⟨w.heap.size, 0, none⟩) len len, .cells out el (0, 0), len, ?_, ?_, satO_new_arr (by omega) ?_ ?_⟩
          · have hsz : (sizeOf el).run cx.P w = .ok i.size w := by simp [sizeOf, typeInfo, hi]
            have hle : ¬ (len * i.size > 2 ^ 24) := by rw [hisz]; omega
            have h2 : (Array.map (fun x => (x.fst, a.eval x.snd)) parts).toList = parts.toList.map fun p => (p.1, a.eval p.2) := by simp
            simp only [execOp, ho, Instr.buildSlice, Sem.run_bind, run_underlying (und_slice hB ht), Result.andThen_ok, hsz, if_neg hle, h2]
            by_cases h0 : len * i.size = 0
            · have hl0 : len = 0 := by
                rcases Nat.mul_eq_zero.1 h0 with h | h
                · exact h
                · omega
              subst hl0
              simp only [Nat.zero_mul, if_true, Sem.run_pure, Result.andThen_ok]
              simp only [Nat.zero_mul] at hout
              rw [← hisz] at hout
              have e0 : (Array.map (fun x => (#[] : Array Value)[x % (#[] : Array Value).size]!) (Array.range 0)) = (Array.map (fun x => z.cells[x % z.cells.size]!) (Array.range 0)) := by simp
              simp only [e0, hout, Sem.run_bind, newRow, newObj, Sem.run, Result.andThen_ok, Sem.run_pure]
              rfl
            · have hzr : (zeroValue el).run cx.P w = .ok z w := by simp [zeroValue, typeInfo, hi, hz]
              rw [← hisz] at hout
              simp only [if_neg h0, Sem.run_bind, hzr, Result.andThen_ok, Sem.run_pure, hout, newRow, newObj, Sem.run]
              rfl
          · simp only [SV.rel, SC.rel, upd_eq, Nat.sub_zero, Nat.zero_mul, Nat.zero_add]
            exact ⟨_, rfl, Nat.le_refl _, fun _ => by simp [adr, upd_eq]⟩
          · rw [hencl] at hlA; rw [← hlen]; simpa using hlA.symm
          · intro i' xx hxx j d hd
            obtain ⟨v, hv, hvr⟩ := relL_get hrelA (encAll_get hxx hd)
            exact ⟨v, by simpa using hv, hvr⟩
      · exact h.elim
    · exact h.elim
  · exact h.elim

end Sx
end Go

