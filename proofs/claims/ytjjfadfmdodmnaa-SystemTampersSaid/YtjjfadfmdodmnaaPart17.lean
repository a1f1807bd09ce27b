/-
  A part of the proof that a law of dryweightlaw03 answers true: lemmas of a symbolic walk, plain functions, or contracts of the functions walked (X2, X3, Pm11, X6, X7, X8, Pm9, Pm10, Sx30, X4, W2, X5, X9, Xa, Pm12, Xb, Xc, Pm13). Conditions: none.
-/
import Derived.Test.YtjjfadfmdodmnaaPart16
import Derived.Test.YtjjfadfmdodmnaaPart13
import Derived.Test.YtjjfadfmdodmnaaPart14
import Derived.Lib.SlicesCompact
import Derived.Test.YtjjfadfmdodmnaaPart06
import Derived.Test.YtjjfadfmdodmnaaPart09
set_option maxRecDepth 100000
set_option linter.unusedVariables false
set_option linter.unusedSimpArgs false
namespace Go.Proofs
open Go.Sx

/-- What relaxing returns: a list and true, or none and false. -/
def optO : Option (List Int) → List Int
  | some o => o
  | none => []

theorem getD_of {xs : List Int} {i : Nat} (h : i < xs.length) : xs.getD i 0 = xs[i] := by
  rw [List.getD_eq_getElem?_getD, List.getElem?_eq_getElem h]; rfl

theorem from_t (bs : List (Int × Int)) (ls : List Lnk) (a : Int) (hb : bs.length ≤ 1000) (hB : BoxB bs) (hl : ls.length ≤ 8000) (hok : ∀ l ∈ allF bs ls, ArcOK bs.length l) (ha : -1 ≤ a ∧ a < bs.length) :
    Triple Try.prog 98 [sysA bs.length ls.length, iv .i64 a] (sysH bs ls) 2 (.tup [.inl (.s 2 0 (optO (fromF bs.length (allF bs ls) a)).length 1), .inl (.v (.bool (fromF bs.length (allF bs ls) a).isSome))])
      [(2, true, .arr (aInt (optO (fromF bs.length (allF bs ls) a))))] := by
  refine triple_of tB_ok Try.func98 rfl Try.call98 rfl ?_
  intro ρ w hH
  conv => whnf
  refine call_step (refAll_t bs ls hb hB (by omega)) rfl rfl ?_
  conv => whnf
  refine ⟨(by repeat' (first | exact trivial | exact rfl | refine And.intro ?_ ?_ | ((conv => whnf); first | exact trivial | exact rfl | refine And.intro ?_ ?_ | omega))), (by repeat' (first | exact trivial | exact rfl | refine And.intro ?_ ?_ | ((conv => whnf); first | exact trivial | exact rfl | refine And.intro ?_ ?_ | omega))), ?_⟩
  conv => whnf
  have hal := allF_len bs ls
  generalize allF bs ls = arcs at *
  generalize hn : bs.length = n at *
  refine loop_step tB_ok (G := Int × List Int) 1 [] (fun g => [(8, iv .i64 g.1), (7, .c (.s 4 0 g.2.length 1))]) (fun g => [(4, true, .arr (aInt g.2))]) (fun g => -1 ≤ g.1 ∧ g.1 ≤ n ∧ g.2 = List.replicate (g.1 + 1).toNat farI) (fun g => ((n : Int) - g.1).toNat) ?_
  conv => whnf
  refine ⟨⟨(-1, []), ⟨by omega, by omega, rfl⟩, ?_⟩, ?_⟩
  · conv => whnf
    repeat' (first | exact trivial | exact rfl | refine And.intro ?_ ?_ | ((conv => whnf); first | exact trivial | exact rfl | refine And.intro ?_ ?_ | omega))
  rintro ⟨i, xs⟩ ⟨hi1, hi2, hxs⟩ ρ1 t1 hρ1
  have hi1 : -1 ≤ i := hi1
  have hi2 : i ≤ n := hi2
  have hxs : xs = List.replicate (i + 1).toNat farI := hxs
  have hxl : xs.length = (i + 1).toNat := by rw [hxs, List.length_replicate]
  dsimp only
  conv => whnf
  refine ⟨fun hc => ?_, fun hc => ?_⟩
  · have hlt : i < n := by simpa using hc
    conv => whnf
    refine bs_step tB_ok (aInt [1099511627776]) rfl rfl ?_
    conv => whnf
    refine ⟨⟨rfl, rfl, trivial⟩, ?_⟩
    conv => whnf
    refine app_step tB_ok (aInt xs) [(1099511627776 : Int)] (fun _ => rfl) rfl rfl rfl rfl ?_
    conv => whnf
    refine ⟨⟨rfl, rfl, Nat.le_refl _, Nat.le_refl _, by show (xs.length + 1) * 9 ≤ _; omega⟩, ?_⟩
    conv => whnf
    refine ⟨i + 1, wrapId (z := i + 1) ⟨by omega, by omega⟩, ?_⟩
    refine ⟨(i + 1, xs ++ [1099511627776]), ⟨by omega, by omega, ?_⟩, by show ((n : Int) - (i + 1)).toNat < ((n : Int) - i).toNat; omega, ?_⟩
    · show xs ++ [1099511627776] = List.replicate (i + 1 + 1).toNat farI
      rw [hxs, replicate_snoc, show (i + 1 + 1).toNat = (i + 1).toNat + 1 from by omega]
    conv => whnf
    refine ⟨rfl, ?_⟩
    conv => whnf
    repeat' (first | exact trivial | exact rfl | refine And.intro ?_ ?_ | ((conv => whnf); first | exact trivial | exact rfl | refine And.intro ?_ ?_ | omega))
    · simp
    · exact congrArg aInt app1
  have hin : i = n := by simp at hc; omega
  subst hin
  have hxl : xs.length = n + 1 := by omega
  conv => whnf
  refine ⟨a + 1, wrapId (z := a + 1) ⟨by omega, by omega⟩, ?_⟩
  conv => whnf
  refine ⟨(a + 1).toNat, by omega, by omega, by show (a + 1).toNat < xs.length; omega, (0 : Int), rfl, ?_⟩
  conv => whnf
  have hst : xs.set (a + 1).toNat 0 = startO n a := by rw [hxs, show ((n : Int) + 1).toNat = n + 1 from by omega]; rfl
  refine loop_step tB_ok (G := Nat × List Int) 0 [] (fun g => [(9, iv .i64 g.1)]) (fun g => [(4, true, .arr (aInt g.2))])
    (fun g => g.1 ≤ n + 2 ∧ OkO n (g.1 * (33554432 * arcs.length)) g.2 ∧ fromF n arcs a = roundsO arcs (n + 2 - g.1) g.2) (fun g => n + 2 - g.1) ?_
  conv => whnf
  refine ⟨⟨(0, xs.set (a + 1).toNat 0), ⟨Nat.zero_le _, by rw [hst]; exact (startO_ok n a).mono (by simp), by rw [hst]; rfl⟩, ?_⟩, ?_⟩
  · conv => whnf
    repeat' (first | exact trivial | exact rfl | refine And.intro ?_ ?_ | ((conv => whnf); first | exact trivial | exact rfl | refine And.intro ?_ ?_ | omega))
  rintro ⟨r, out⟩ ⟨hr, hO, hF⟩ ρ2 t2 hρ2
  have hr : r ≤ n + 2 := hr
  have hF : fromF n arcs a = roundsO arcs (n + 2 - r) out := hF
  dsimp only
  have hbd : ((r : Int) * (33554432 * arcs.length)) ≤ 1002 * (33554432 * 10000) := Int.mul_le_mul (by omega) (by omega) (by omega) (by omega)
  generalize hBd : ((r : Int) * (33554432 * arcs.length)) = BB at *
  have hOi : ∀ i, i ≤ arcs.length → OkO n (BB + 33554432 * i) ((arcs.take i).foldl (fun o l => relO l o) (out, false)).1 := fun i hi => by
    have := OkO.fold (xs := arcs.take i) (o := (out, false)) (fun l hl => hok l (List.mem_of_mem_take hl)) hO
    rw [List.length_take, Nat.min_eq_left hi] at this
    exact this
  conv => whnf
  refine ⟨(n : Int) + 1, wrapId (z := (n : Int) + 1) ⟨by omega, by omega⟩, ?_⟩
  conv => whnf
  refine ⟨fun hc => ?_, fun hc => ?_⟩
  · have hlt : r < n + 2 := by have : (r : Int) ≤ n + 1 := by simpa using hc
                               omega
    conv => whnf
    refine loop_step tB_ok (G := Nat × List Int × Bool) 0 [] (fun g => [(11, iv .i64 g.1), (10, bv g.2.2)]) (fun g => [(4, true, .arr (aInt g.2.1))])
      (fun g => g.1 ≤ arcs.length ∧ g.2 = (arcs.take g.1).foldl (fun o l => relO l o) (out, false)) (fun g => arcs.length - g.1) ?_
    conv => whnf
    refine ⟨⟨(0, out, false), ⟨Nat.zero_le _, rfl⟩, ?_⟩, ?_⟩
    · conv => whnf
      repeat' (first | exact trivial | exact rfl | refine And.intro ?_ ?_ | ((conv => whnf); first | exact trivial | exact rfl | refine And.intro ?_ ?_ | omega))
    rintro ⟨k, o, c⟩ ⟨hk, ho⟩ ρ3 t3 hρ3
    have hk : k ≤ arcs.length := hk
    have ho : (o, c) = (arcs.take k).foldl (fun o l => relO l o) (out, false) := ho
    have hOk := hOi k hk
    rw [← ho] at hOk
    have hol : o.length = n + 1 := hOk.len
    dsimp only
    conv => whnf
    refine ⟨fun hc => ?_, fun hc => ?_⟩
    · have hlt : k < arcs.length := by simpa using hc
      obtain ⟨hf, ht, hm⟩ := hok arcs[k] (List.getElem_mem hlt)
      have hst := passO_snoc (o := (out, false)) hlt
      rw [← ho] at hst
      have hfi : (arcs[k].f + 1).toNat < o.length := by omega
      have hti : (arcs[k].t + 1).toNat < o.length := by omega
      have hbf : _ ∧ o[(arcs[k].f + 1).toNat] ≤ 1099511627776 := hOk.bd _ (List.getElem_mem hfi)
      have ef := getD_of hfi
      have et := getD_of hti
      conv => whnf
      refine ⟨k, rfl, hlt, hlt, ?_⟩
      conv => whnf
      refine ⟨arcs[k].f + 1, wrapId (z := arcs[k].f + 1) ⟨by omega, by omega⟩, ?_⟩
      conv => whnf
      refine ⟨(arcs[k].f + 1).toNat, by omega, by omega, hfi, ?_⟩
      conv => whnf
      refine ⟨k, rfl, hlt, hlt, ?_⟩
      conv => whnf
      refine ⟨o[(arcs[k].f + 1).toNat] + arcs[k].m, wrapId (z := o[(arcs[k].f + 1).toNat] + arcs[k].m) ⟨by omega, by omega⟩, ?_⟩
      conv => whnf
      refine ⟨k, rfl, hlt, hlt, ?_⟩
      conv => whnf
      refine ⟨arcs[k].f + 1, wrapId (z := arcs[k].f + 1) ⟨by omega, by omega⟩, ?_⟩
      conv => whnf
      refine ⟨(arcs[k].f + 1).toNat, by omega, by omega, hfi, ?_⟩
      conv => whnf
      refine ⟨fun hc => ?_, fun hc => ?_⟩
      · have h1 : o[(arcs[k].f + 1).toNat] < 1099511627776 := of_decide_eq_true (show decide (o[(arcs[k].f + 1).toNat] < 1099511627776) = true from hc)
        conv => whnf
        refine ⟨k, rfl, hlt, hlt, ?_⟩
        conv => whnf
        refine ⟨arcs[k].t + 1, wrapId (z := arcs[k].t + 1) ⟨by omega, by omega⟩, ?_⟩
        conv => whnf
        refine ⟨(arcs[k].t + 1).toNat, by omega, by omega, hti, ?_⟩
        conv => whnf
        refine ⟨fun hc => ?_, fun hc => ?_⟩
        · have h2 : o[(arcs[k].f + 1).toNat] + arcs[k].m < o[(arcs[k].t + 1).toNat] := of_decide_eq_true (show decide (o[(arcs[k].f + 1).toNat] + arcs[k].m < o[(arcs[k].t + 1).toNat]) = true from hc)
          conv => whnf
          refine ⟨k, rfl, hlt, hlt, ?_⟩
          conv => whnf
          refine ⟨arcs[k].t + 1, wrapId (z := arcs[k].t + 1) ⟨by omega, by omega⟩, ?_⟩
          conv => whnf
          refine ⟨(arcs[k].t + 1).toNat, by omega, by omega, hti, o[(arcs[k].f + 1).toNat] + arcs[k].m, rfl, ?_⟩
          conv => whnf
          refine ⟨_, wrapId ⟨by omega, by omega⟩, ?_⟩
          refine ⟨(k + 1, o.set (arcs[k].t + 1).toNat (o[(arcs[k].f + 1).toNat] + arcs[k].m), true), ⟨hlt, ?_⟩, by show arcs.length - (k + 1) < arcs.length - k; omega, ?_⟩
          · show ((o.set (arcs[k].t + 1).toNat (o[(arcs[k].f + 1).toNat] + arcs[k].m), true) : List Int × Bool) = (arcs.take (k + 1)).foldl (fun o l => relO l o) (out, false)
            rw [hst]
            unfold relO
            dsimp only
            rw [ef, et]
            simp [h1, h2]
          conv => whnf
          refine ⟨rfl, ?_⟩
          conv => whnf
          repeat' (first | exact trivial | exact rfl | refine And.intro ?_ ?_ | ((conv => whnf); first | exact trivial | exact rfl | refine And.intro ?_ ?_ | omega))
        · have h2 : ¬ o[(arcs[k].f + 1).toNat] + arcs[k].m < o[(arcs[k].t + 1).toNat] := of_decide_eq_false (show decide (o[(arcs[k].f + 1).toNat] + arcs[k].m < o[(arcs[k].t + 1).toNat]) = false from hc)
          conv => whnf
          refine ⟨_, wrapId ⟨by omega, by omega⟩, ?_⟩
          refine ⟨(k + 1, o, c), ⟨hlt, ?_⟩, by show arcs.length - (k + 1) < arcs.length - k; omega, ?_⟩
          · show ((o, c) : List Int × Bool) = (arcs.take (k + 1)).foldl (fun o l => relO l o) (out, false)
            rw [hst]
            unfold relO
            dsimp only
            rw [ef, et]
            simp [h1, h2]
          conv => whnf
          refine ⟨rfl, ?_⟩
          conv => whnf
          repeat' (first | exact trivial | exact rfl | refine And.intro ?_ ?_ | ((conv => whnf); first | exact trivial | exact rfl | refine And.intro ?_ ?_ | omega))
      · have h1 : ¬ o[(arcs[k].f + 1).toNat] < 1099511627776 := of_decide_eq_false (show decide (o[(arcs[k].f + 1).toNat] < 1099511627776) = false from hc)
        conv => whnf
        refine ⟨_, wrapId ⟨by omega, by omega⟩, ?_⟩
        refine ⟨(k + 1, o, c), ⟨hlt, ?_⟩, by show arcs.length - (k + 1) < arcs.length - k; omega, ?_⟩
        · show ((o, c) : List Int × Bool) = (arcs.take (k + 1)).foldl (fun o l => relO l o) (out, false)
          rw [hst]
          unfold relO
          dsimp only
          rw [ef, et]
          simp [h1]
        conv => whnf
        refine ⟨rfl, ?_⟩
        conv => whnf
        repeat' (first | exact trivial | exact rfl | refine And.intro ?_ ?_ | ((conv => whnf); first | exact trivial | exact rfl | refine And.intro ?_ ?_ | omega))
    have hke : k = arcs.length := by simp at hc; omega
    have hp : passO arcs out = (o, c) := by rw [ho, hke, List.take_length]; rfl
    have hOk2 : OkO n (((r + 1 : Nat) : Int) * (33554432 * arcs.length)) o := hOk.mono (by
      rw [← hBd, Int.natCast_succ, Int.add_mul, hke]; omega)
    have eR : roundsO arcs (n + 2 - r) out = if c then roundsO arcs (n + 2 - (r + 1)) o else some o := by
      rw [show n + 2 - r = (n + 2 - (r + 1)) + 1 from by omega, roundsO, hp]
    conv => whnf
    refine ⟨fun hc => ?_, fun hc => ?_⟩
    · have h0 : c = false := by simpa using hc
      rw [h0] at eR
      have eF : fromF n arcs a = some o := by rw [hF, eR]; rfl
      rw [eF]
      conv => whnf
      repeat' (first | exact trivial | exact rfl | refine And.intro ?_ ?_ | ((conv => whnf); first | exact trivial | exact rfl | refine And.intro ?_ ?_ | omega))
      exact hxl.trans hol.symm
    · have h0 : c = true := by simpa using hc
      rw [h0, if_pos rfl] at eR
      conv => whnf
      refine ⟨_, wrapId ⟨by omega, by omega⟩, ?_⟩
      refine ⟨(r + 1, o), ⟨hlt, hOk2, by rw [hF, eR]⟩, by show n + 2 - (r + 1) < n + 2 - r; omega, ?_⟩
      conv => whnf
      refine ⟨rfl, ?_⟩
      conv => whnf
      repeat' (first | exact trivial | exact rfl | refine And.intro ?_ ?_ | ((conv => whnf); first | exact trivial | exact rfl | refine And.intro ?_ ?_ | omega))
  have hre : r = n + 2 := by have : ¬ (r : Int) ≤ n + 1 := by simpa using hc
                             omega
  have eF : fromF n arcs a = none := by rw [hF, hre, Nat.sub_self]; rfl
  rw [eF]
  conv => whnf
  repeat' (first | exact trivial | exact rfl | refine And.intro ?_ ?_ | ((conv => whnf); first | exact trivial | exact rfl | refine And.intro ?_ ?_ | omega))

end Go.Proofs

namespace Go.Proofs
open Go.Sx

theorem agrees_t (bs : List (Int × Int)) (ls : List Lnk) (hb1 : bs.length ≤ 1000) (hB : BoxB bs) (hl : ls.length ≤ 8000) (hok : ∀ l ∈ allF bs ls, ArcOK bs.length l) :
    Triple Try.prog 40 [sysA bs.length ls.length] (sysH bs ls) 2 (bv (fromF bs.length (allF bs ls) (-1)).isSome) [] := by
  refine triple_of tB_ok Try.func40 rfl Try.call40 rfl ?_
  intro ρ w hH
  conv => whnf
  refine call_step (from_t bs ls (-1) hb1 hB hl hok ⟨by omega, by omega⟩) rfl rfl ?_
  conv => whnf
  refine ⟨(by repeat' (first | exact trivial | exact rfl | refine And.intro ?_ ?_ | ((conv => whnf); first | exact trivial | exact rfl | refine And.intro ?_ ?_ | omega))), (by repeat' (first | exact trivial | exact rfl | refine And.intro ?_ ?_ | ((conv => whnf); first | exact trivial | exact rfl | refine And.intro ?_ ?_ | omega))), ?_⟩
  conv => whnf
  repeat' (first | exact trivial | exact rfl | refine And.intro ?_ ?_ | ((conv => whnf); first | exact trivial | exact rfl | refine And.intro ?_ ?_ | omega))

theorem allF_le {bs : List (Int × Int)} {ls : List Lnk} (hs : SysOK bs ls) : (allF bs ls).length ≤ 1680 := by
  have := allF_len bs ls
  have := hs.nb
  have := hs.nl
  omega

/-- A system that the law's net takes. -/
structure NetOK (bs : List (Int × Int)) (ls : List Lnk) : Prop where
  few : bs.length ≤ 14 ∧ ls.length ≤ 40
  sys : SysOK bs ls
  agr : (fromF bs.length (allF bs ls) (-1)).isSome = true

theorem graphF_zero (bs : List (Int × Int)) (ls : List Lnk) : graphF bs ls 0 = allF bs ls := by
  unfold graphF
  exact List.filter_eq_self.2 fun l _ => rfl

theorem boxLinks_has {bs : List (Int × Int)} : ∀ {v i : Nat} (h : i < bs.length), (⟨-1, (v + i : Nat), bs[i].2, 0⟩ : Lnk) ∈ boxLinks v bs ∧ (⟨(v + i : Nat), -1, -bs[i].1, 0⟩ : Lnk) ∈ boxLinks v bs := by
  induction bs with
  | nil => intro v i h; simp at h
  | cons b r ih =>
    intro v i h
    cases i with
    | zero => simp [boxLinks]
    | succ i =>
      have := ih (v := v + 1) (i := i) (by simpa using h)
      simp only [boxLinks, List.mem_cons, List.getElem_cons_succ]
      rw [show v + (i + 1) = v + 1 + i from by omega]
      exact ⟨.inr (.inr this.1), .inr (.inr this.2)⟩

theorem hub_graph (bs : List (Int × Int)) (ls : List Lnk) (k : Int) : Hub bs.length (graphF bs ls k) := by
  intro v hv
  have hb := boxLinks_has (bs := bs) (v := 0) hv
  rw [Nat.zero_add] at hb
  have hk : ∀ l : Lnk, l.i = 0 → keeps k l = true := by
    intro l hl
    unfold keeps
    rw [hl]
    by_cases h : k = 0
    · simp [h]
    · have : (0 : Int) ≠ k := fun h2 => h h2.symm
      simp [this]
  refine ⟨⟨_, List.mem_filter.2 ⟨List.mem_append.2 (.inl hb.1), hk _ rfl⟩, ?_, ?_⟩, ⟨_, List.mem_filter.2 ⟨List.mem_append.2 (.inl hb.2), hk _ rfl⟩, ?_, ?_⟩⟩
  · rfl
  · simp only [plc]; rw [if_neg (by omega)]; omega
  · simp only [plc]; rw [if_neg (by omega)]; omega
  · rfl

theorem NetOK.calm {bs : List (Int × Int)} {ls : List Lnk} (h : NetOK bs ls) : Calm bs ls 0 := by
  obtain ⟨o, ho⟩ := Option.isSome_iff_exists.1 h.agr
  have := allF_len bs ls
  have hf := h.few
  have := from_calm hf.1 (by omega) (allF_ok h.sys) ⟨by omega, by omega⟩ ho
  unfold Calm
  rw [graphF_zero]
  exact this

theorem netNo_t (bs : List (Int × Int)) (ls : List Lnk) (h : ¬ NetOK bs ls) : Triple Try.prog 20 [sysA bs.length ls.length] (sysH bs ls) 2 (.tup [.inl (.v (.pointer none)), .inl (.b false)]) [] := by
  refine triple_of tB_ok Try.func20 rfl Try.call20 rfl ?_
  intro ρ w hH
  conv => whnf
  refine call_step (few_t bs ls) rfl rfl ?_
  conv => whnf
  refine ⟨(by repeat' (first | exact trivial | exact rfl | refine And.intro ?_ ?_ | ((conv => whnf); first | exact trivial | exact rfl | refine And.intro ?_ ?_ | omega))), (by repeat' (first | exact trivial | exact rfl | refine And.intro ?_ ?_ | ((conv => whnf); first | exact trivial | exact rfl | refine And.intro ?_ ?_ | omega))), ?_⟩
  conv => whnf
  refine ⟨fun hc => ?_, fun hc => ?_⟩
  · conv => whnf
    repeat' (first | exact trivial | exact rfl | refine And.intro ?_ ?_ | ((conv => whnf); first | exact trivial | exact rfl | refine And.intro ?_ ?_ | omega))
  have hf : fewF bs ls = true := by simpa using (show (!fewF bs ls) = false from hc)
  simp only [fewF, Bool.and_eq_true, decide_eq_true_eq] at hf
  conv => whnf
  refine call_step (refCheck_t bs ls (by omega) (by omega)) rfl rfl ?_
  conv => whnf
  refine ⟨(by repeat' (first | exact trivial | exact rfl | refine And.intro ?_ ?_ | ((conv => whnf); first | exact trivial | exact rfl | refine And.intro ?_ ?_ | omega))), (by repeat' (first | exact trivial | exact rfl | refine And.intro ?_ ?_ | ((conv => whnf); first | exact trivial | exact rfl | refine And.intro ?_ ?_ | omega))), ?_⟩
  conv => whnf
  refine ⟨fun hc => ?_, fun hc => ?_⟩
  · conv => whnf
    repeat' (first | exact trivial | exact rfl | refine And.intro ?_ ?_ | ((conv => whnf); first | exact trivial | exact rfl | refine And.intro ?_ ?_ | omega))
  have hk : checkF bs ls = 0 := by simpa using hc
  have hs := checkF_ok.1 hk
  conv => whnf
  refine call_step (agrees_t bs ls (by omega) hs.boxB (by omega) (allF_ok hs)) rfl rfl ?_
  conv => whnf
  refine ⟨(by repeat' (first | exact trivial | exact rfl | refine And.intro ?_ ?_ | ((conv => whnf); first | exact trivial | exact rfl | refine And.intro ?_ ?_ | omega))), (by repeat' (first | exact trivial | exact rfl | refine And.intro ?_ ?_ | ((conv => whnf); first | exact trivial | exact rfl | refine And.intro ?_ ?_ | omega))), ?_⟩
  conv => whnf
  refine ⟨fun hc => ?_, fun hc => ?_⟩
  · conv => whnf
    repeat' (first | exact trivial | exact rfl | refine And.intro ?_ ?_ | ((conv => whnf); first | exact trivial | exact rfl | refine And.intro ?_ ?_ | omega))
  have ha : (fromF bs.length (allF bs ls) (-1)).isSome = true := by simpa using (show (!(fromF bs.length (allF bs ls) (-1)).isSome) = false from hc)
  exact (h ⟨hf, hs, ha⟩).elim

theorem netYes_t (bs : List (Int × Int)) (ls : List Lnk) (h : NetOK bs ls) : Triple Try.prog 20 [sysA bs.length ls.length] (sysH bs ls) 2 (.tup [.inl (.p 2 0 0 0), .inl (.b true)])
      [(2, true, netC 3 4 bs.length ls.length), (3, true, .arr (aSpan bs)), (4, true, .arr (aLink ls))] := by
  refine triple_of tB_ok Try.func20 rfl Try.call20 rfl ?_
  intro ρ w hH
  conv => whnf
  have hf := h.few
  have hs := h.sys
  have hfe : fewF bs ls = true := by simp [fewF]; omega
  refine call_step (few_t bs ls) rfl rfl ?_
  conv => whnf
  refine ⟨(by repeat' (first | exact trivial | exact rfl | refine And.intro ?_ ?_ | ((conv => whnf); first | exact trivial | exact rfl | refine And.intro ?_ ?_ | omega))), (by repeat' (first | exact trivial | exact rfl | refine And.intro ?_ ?_ | ((conv => whnf); first | exact trivial | exact rfl | refine And.intro ?_ ?_ | omega))), ?_⟩
  conv => whnf
  rw [hfe]
  refine ⟨fun hc => ?_, fun hc => ?_⟩
  · exact absurd hc (by simp)
  conv => whnf
  refine call_step (refCheck_t bs ls (by omega) (by omega)) rfl rfl ?_
  conv => whnf
  refine ⟨(by repeat' (first | exact trivial | exact rfl | refine And.intro ?_ ?_ | ((conv => whnf); first | exact trivial | exact rfl | refine And.intro ?_ ?_ | omega))), (by repeat' (first | exact trivial | exact rfl | refine And.intro ?_ ?_ | ((conv => whnf); first | exact trivial | exact rfl | refine And.intro ?_ ?_ | omega))), ?_⟩
  conv => whnf
  rw [checkF_ok.2 hs]
  refine ⟨fun hc => ?_, fun hc => ?_⟩
  · exact absurd hc (by simp)
  conv => whnf
  refine call_step (agrees_t bs ls (by omega) hs.boxB (by omega) (allF_ok hs)) rfl rfl ?_
  conv => whnf
  refine ⟨(by repeat' (first | exact trivial | exact rfl | refine And.intro ?_ ?_ | ((conv => whnf); first | exact trivial | exact rfl | refine And.intro ?_ ?_ | omega))), (by repeat' (first | exact trivial | exact rfl | refine And.intro ?_ ?_ | ((conv => whnf); first | exact trivial | exact rfl | refine And.intro ?_ ?_ | omega))), ?_⟩
  conv => whnf
  rw [h.agr]
  refine ⟨fun hc => ?_, fun hc => ?_⟩
  · exact absurd hc (by simp)
  conv => whnf
  refine call_step (newNone_t bs ls hs h.calm) rfl rfl ?_
  conv => whnf
  refine ⟨(by repeat' (first | exact trivial | exact rfl | refine And.intro ?_ ?_ | ((conv => whnf); first | exact trivial | exact rfl | refine And.intro ?_ ?_ | omega))), (by repeat' (first | exact trivial | exact rfl | refine And.intro ?_ ?_ | ((conv => whnf); first | exact trivial | exact rfl | refine And.intro ?_ ?_ | omega))), ?_⟩
  conv => whnf
  repeat' (first | exact trivial | exact rfl | refine And.intro ?_ ?_ | ((conv => whnf); first | exact trivial | exact rfl | refine And.intro ?_ ?_ | omega))

end Go.Proofs

/-
  Plain lemmas, part 11: the way back from a place to the start, where relaxing has ended. Conditions: none; definitions and plain lemmas.
-/
namespace Go
namespace Proofs

theorem key_befF {n : Nat} {rev : Nat → Bool} {arcs : List Lnk} {k : Nat} {e : Edg} (he : e ∈ edgs n rev 0 arcs) (hk : e.k = (k : Int)) :
    keyE n arcs k = e ∧ befF n arcs k = some e.a ∧ ∃ l, arcs[k / 2]? = some l ∧ ((k % 2 = 0 ∧ e.a = plc n l.f ∧ e.b = plc n l.t ∧ e.w = l.m) ∨ (k % 2 = 1 ∧ rev (k / 2) = true ∧ e.a = plc n l.t ∧ e.b = plc n l.f ∧ e.w = -l.m)) := by
  refine ⟨by rw [← hk]; exact edgs_key e he, ?_⟩
  obtain ⟨j, l, hj, h | ⟨hr, h⟩⟩ := edgs_mem.1 he
  · subst h
    have hk2 : k = 2 * j := by have : 2 * ((0 + j : Nat) : Int) = (k : Int) := hk; omega
    have e1 : k / 2 = j := by omega
    have e2 : k % 2 = 0 := by omega
    unfold befF
    rw [e1, hj, e2]
    exact ⟨rfl, l, rfl, .inl ⟨rfl, rfl, rfl, rfl⟩⟩
  · subst h
    have hk2 : k = 2 * j + 1 := by have : 2 * ((0 + j : Nat) : Int) + 1 = (k : Int) := hk; omega
    have e1 : k / 2 = j := by omega
    have e2 : k % 2 = 1 := by omega
    unfold befF
    rw [e1, hj, e2]
    rw [Nat.zero_add] at hr
    exact ⟨rfl, l, rfl, .inr ⟨rfl, hr, rfl, rfl, rfl⟩⟩

/-- The arcs of a way back, from a place to the start: all tight; a clock falls along it. -/
def StepP (n : Nat) (arcs : List Lnk) (E : List Edg) (T : Tr) (ts : Nat → Nat) (src : Nat) : List Nat → Nat → Prop
  | [], p => p = src
  | k :: r, p => p ≠ src ∧ keyE n arcs k ∈ E ∧ (keyE n arcs k).k = (k : Int) ∧ (keyE n arcs k).b = p ∧ T.last.getD p (-1) = (k : Int) ∧ T.sum.getD (keyE n arcs k).a 0 + (keyE n arcs k).w = T.sum.getD p 0 ∧ ts (keyE n arcs k).a < ts p ∧ StepP n arcs E T ts src r (keyE n arcs k).a

structure Tree (n : Nat) (arcs : List Lnk) (E : List Edg) (src : Nat) (T : Tr) (ts : Nat → Nat) : Prop where
  bf : ∃ r, BF E (n + 1) src r 0 ts T
  fix : Fix E T
  all : ∀ v, v ≤ n → T.there.getD v false = true
  src0 : T.sum.getD src 0 = 0 ∧ T.last.getD src (-1) = -1

theorem tree_of {n : Nat} {rev : Nat → Bool} {arcs : List Lnk} {src k : Nat} (hok : ∀ l ∈ arcs, ArcOK n l) (hub : Hub n arcs) (hs : src ≤ n) (h : (roundsF n rev arcs k (startF n src)).2 = -1) :
    ∃ ts, Tree n arcs (edgs n rev 0 arcs) src (roundsF n rev arcs k (startF n src)).1 ts := by
  obtain ⟨hf, ts, r, hB⟩ := rounds_fix hok hs h
  obtain ⟨hall, hp⟩ := rounds_hub hok hub hs h
  have hlow := hB.low (fun v => (roundsF n rev arcs k (startF n src)).1.sum.getD v 0) hp src hB.so.1 hB.so.2.1
  have h0 := hB.so.2.2.1
  refine ⟨ts, ⟨r, hB⟩, hf, hall, by omega, ?_⟩
  rcases hB.so.2.2.2 with h1 | h1
  · omega
  · exact h1

theorem Tree.pot {n : Nat} {arcs : List Lnk} {E : List Edg} {src : Nat} {T : Tr} {ts : Nat → Nat} (h : Tree n arcs E src T ts) (hE : EOK (n + 1) E) : Pot (fun v => T.sum.getD v 0) E :=
  fix_pot h.fix fun e he => h.all _ (by have := (hE e he).1; omega)

theorem Tree.steps {n : Nat} {rev : Nat → Bool} {arcs : List Lnk} {src : Nat} {T : Tr} {ts : Nat → Nat} (h : Tree n arcs (edgs n rev 0 arcs) src T ts) (hok : ∀ l ∈ arcs, ArcOK n l) :
    ∀ (t v : Nat), ts v ≤ t → v ≤ n → ∃ ks, (∀ f, ks.length < f → stepsF n arcs T.last src f v = some ks) ∧ StepP n arcs (edgs n rev 0 arcs) T ts src ks v := by
  have hE : EOK (n + 1) (edgs n rev 0 arcs) := edgs_ok hok
  obtain ⟨r, hB⟩ := h.bf
  intro t
  induction t with
  | zero =>
    intro v ht hv
    have hs : v = src := by
      by_cases hl : T.last.getD v (-1) = -1
      · exact (hB.root v (by omega) hl).1 (h.all v hv)
      · have := (hB.par v (by omega) hl).2.1; omega
    refine ⟨[], fun f hf => ?_, hs⟩
    obtain ⟨f, rfl⟩ : ∃ g, f = g + 1 := ⟨f - 1, by simp at hf; omega⟩
    unfold stepsF
    rw [if_pos hs]
  | succ t ih =>
    intro v ht hv
    by_cases hs : v = src
    · refine ⟨[], fun f hf => ?_, hs⟩
      obtain ⟨f, rfl⟩ : ∃ g, f = g + 1 := ⟨f - 1, by simp at hf; omega⟩
      unfold stepsF
      rw [if_pos hs]
    · have hl : T.last.getD v (-1) ≠ -1 := fun hl => hs ((hB.root v (by omega) hl).1 (h.all v hv))
      obtain ⟨h1, h2, e, he, hk, hb, hta, hL, htt⟩ := hB.par v (by omega) hl
      have hfx := (h.fix e he hta).2
      rw [hb] at hfx
      have htt : T.sum.getD e.a 0 + e.w = T.sum.getD v 0 ∧ ts e.a < ts v := by
        rcases htt with h3 | h3
        · omega
        · exact h3
      have hkn : 0 ≤ e.k := (hE e he).2.2
      obtain ⟨k, hkk⟩ : ∃ k : Nat, e.k = (k : Int) := ⟨e.k.toNat, by omega⟩
      obtain ⟨g1, g2, g3⟩ := key_befF he hkk
      have hea : e.a ≤ n := by have := (hE e he).1; omega
      obtain ⟨ks, hst, hsp⟩ := ih e.a (by omega) hea
      have hvl : v < T.last.length := by rw [hB.ll]; omega
      have hget : T.last[v]? = some (k : Int) := by
        rw [← hkk, hk, List.getD_eq_getElem?_getD, List.getElem?_eq_getElem hvl]; rfl
      refine ⟨k :: ks, fun f hf => ?_, ?_⟩
      · obtain ⟨f, rfl⟩ : ∃ g, f = g + 1 := ⟨f - 1, by simp at hf; omega⟩
        unfold stepsF
        rw [if_neg hs, hget]
        simp only [Int.toNat_natCast, g2]
        rw [if_pos (by omega), hst f (by simpa using hf)]
        rfl
      · unfold StepP
        rw [g1]
        exact ⟨hs, he, hkk, hb, by rw [← hkk, hk], htt.1, htt.2, hsp⟩

theorem StepP.nodes {n : Nat} {arcs : List Lnk} {E : List Edg} {T : Tr} {ts : Nat → Nat} {src : Nat} (hE : EOK (n + 1) E) : ∀ {ks : List Nat} {p : Nat}, p ≤ n → StepP n arcs E T ts src ks p →
    (∀ k ∈ ks, ts (keyE n arcs k).b ≤ ts p ∧ (keyE n arcs k).b ≤ n ∧ (keyE n arcs k).b ≠ src ∧ keyE n arcs k ∈ E ∧ (keyE n arcs k).k = (k : Int) ∧ T.sum.getD (keyE n arcs k).a 0 + (keyE n arcs k).w = T.sum.getD (keyE n arcs k).b 0) ∧
    (ks.map fun (k : Nat) => (keyE n arcs k).b).Nodup
  | [], p, _, _ => ⟨fun k hk => (by cases hk), List.nodup_nil⟩
  | k :: r, p, hp, h => by
    obtain ⟨h1, h2, h3, h4, h5, h6, h7, h8⟩ := h
    have ha : (keyE n arcs k).a ≤ n := by have := (hE _ h2).1; omega
    obtain ⟨i1, i2⟩ := StepP.nodes hE ha h8
    refine ⟨fun k' hk' => ?_, ?_⟩
    · rcases List.mem_cons.1 hk' with rfl | hk'
      · rw [h4]; exact ⟨Nat.le_refl _, hp, h1, h2, h3, h6⟩
      · obtain ⟨j1, j2, j3, j4, j5, j6⟩ := i1 k' hk'
        exact ⟨by omega, j2, j3, j4, j5, j6⟩
    · rw [List.map_cons, List.nodup_cons]
      refine ⟨fun hm => ?_, i2⟩
      obtain ⟨k', hk', he⟩ := List.mem_map.1 hm
      have := (i1 k' hk').1
      rw [he, h4] at this
      omega

theorem nodup_len {N : Nat} {l : List Nat} (hn : l.Nodup) (hl : ∀ x ∈ l, x < N) : l.length ≤ N := by
  rcases Nat.lt_or_ge N l.length with h | h
  · exfalso
    obtain ⟨i, j, hij, hj, he⟩ := pigeon N (fun i => l.getD i 0) (fun i hi => by
      show l.getD i 0 < N
      have : i < l.length := by omega
      rw [List.getD_eq_getElem?_getD, List.getElem?_eq_getElem this]
      exact hl _ (List.getElem_mem this))
    have hi' : i < l.length := by omega
    have hj' : j < l.length := by omega
    simp only [List.getD_eq_getElem?_getD, List.getElem?_eq_getElem hi', List.getElem?_eq_getElem hj', Option.getD_some] at he
    have := List.pairwise_iff_getElem.1 hn i j hi' hj' hij
    exact this he
  · exact h

theorem StepP.len {n : Nat} {arcs : List Lnk} {E : List Edg} {T : Tr} {ts : Nat → Nat} {src : Nat} {ks : List Nat} {p : Nat} (hE : EOK (n + 1) E) (hs : src ≤ n) (hp : p ≤ n) (h : StepP n arcs E T ts src ks p) : ks.length ≤ n := by
  obtain ⟨h1, h2⟩ := h.nodes hE hp
  have := nodup_len (N := n + 1) (l := src :: ks.map fun (k : Nat) => (keyE n arcs k).b) (by
    rw [List.nodup_cons]
    refine ⟨fun hm => ?_, h2⟩
    obtain ⟨k, hk, he⟩ := List.mem_map.1 hm
    exact (h1 k hk).2.2.1 he) (fun x hx => by
    rcases List.mem_cons.1 hx with rfl | hx
    · omega
    · obtain ⟨k, hk, rfl⟩ := List.mem_map.1 hx
      have := (h1 k hk).2.1; omega)
  simpa using this

theorem Tree.path {n : Nat} {rev : Nat → Bool} {arcs : List Lnk} {src v : Nat} {T : Tr} {ts : Nat → Nat} (h : Tree n arcs (edgs n rev 0 arcs) src T ts) (hok : ∀ l ∈ arcs, ArcOK n l) (hs : src ≤ n) (hv : v ≤ n) :
    ∃ ks, stepsF n arcs T.last src (n + 2) v = some ks ∧ ks.length ≤ n ∧ StepP n arcs (edgs n rev 0 arcs) T ts src ks v := by
  obtain ⟨ks, h1, h2⟩ := h.steps hok _ v (Nat.le_refl _) hv
  have := h2.len (edgs_ok hok) hs hv
  exact ⟨ks, h1 _ (by omega), this, h2⟩

end Proofs
end Go

namespace Go.Proofs
open Go.Sx

theorem lnk_eq (a b : Lnk) : ([a.f, a.t, a.m, a.i] == [b.f, b.t, b.m, b.i]) = decide (a = b) := by
  cases a; cases b
  rw [Bool.eq_iff_iff]
  simp

theorem known_t (xs : List Lnk) (x : Lnk) (hb : xs.length ≤ 1000000) : Triple Try.prog 134 [.c (.s 0 0 xs.length 4), svL x] [(0, false, .arr (aLink xs))] 1 (bv (decide (x ∈ xs))) [] := by
  refine triple_of tB_ok Try.func134 rfl Try.call134 rfl ?_
  intro ρ w hH
  conv => whnf
  refine loop_step tB_ok (G := Nat) 0 [] (fun i => [(5, iv .i64 i)]) (fun _ => []) (fun i => i ≤ xs.length ∧ ∀ y ∈ xs.take i, y ≠ x) (fun i => xs.length - i) ?_
  conv => whnf
  refine ⟨⟨0, ⟨Nat.zero_le _, by simp⟩, ?_⟩, ?_⟩
  · conv => whnf
    repeat' (first | exact trivial | exact rfl | refine And.intro ?_ ?_ | ((conv => whnf); first | exact trivial | exact rfl | refine And.intro ?_ ?_ | omega))
  intro i hi ρ1 t1 hρ1
  obtain ⟨hi, hn⟩ := hi
  conv => whnf
  refine ⟨fun hc => ?_, fun hc => ?_⟩
  · have hlt : i < xs.length := by simpa using hc
    conv => whnf
    refine ⟨i, rfl, hlt, hlt, ?_⟩
    conv => whnf
    refine ⟨fun hc => ?_, fun hc => ?_⟩
    · have he : xs[i] = x := by
        have := (lnk_eq xs[i] x).symm.trans hc
        exact of_decide_eq_true this
      conv => whnf
      refine ⟨?_, trivial⟩
      show true = decide (x ∈ xs)
      rw [decide_eq_true]
      rw [← he]; exact List.getElem_mem hlt
    · have he : xs[i] ≠ x := by
        have := (lnk_eq xs[i] x).symm.trans hc
        exact of_decide_eq_false this
      conv => whnf
      refine ⟨(i : Int) + 1, wrapId (z := (i : Int) + 1) ⟨by omega, by omega⟩, ?_⟩
      refine ⟨i + 1, ⟨hlt, fun y hy => ?_⟩, by show xs.length - (i + 1) < xs.length - i; omega, ?_⟩
      · rw [take_snoc hlt] at hy
        rcases List.mem_append.1 hy with hy | hy
        · exact hn y hy
        · simp at hy; rw [hy]; exact he
      conv => whnf
      refine ⟨rfl, ?_⟩
      conv => whnf
      repeat' (first | exact trivial | exact rfl | refine And.intro ?_ ?_ | ((conv => whnf); first | exact trivial | exact rfl | refine And.intro ?_ ?_ | omega))
  have hie : i = xs.length := by simp at hc; omega
  subst hie
  rw [List.take_length] at hn
  conv => whnf
  refine ⟨?_, trivial⟩
  show false = decide (x ∈ xs)
  rw [decide_eq_false]
  intro hm
  exact hn x hm rfl

end Go.Proofs

namespace Go.Proofs
open Go.Sx

def valI (pt : List Int) (i : Int) : Int := if i < 0 then 0 else max (-1099511627776) (min 1099511627776 (pt.getD i.toNat 0))

theorem value_t (pt : List Int) (i : Int) (hi : i < pt.length) : Triple Try.prog 108 [.c (.s 0 0 pt.length 1), iv .i64 i] [(0, false, .arr (aInt pt))] 1 (iv .i64 (valI pt i)) [] := by
  refine triple_of tB_ok Try.func108 rfl Try.call108 rfl ?_
  intro ρ w hH
  conv => whnf
  refine ⟨fun hc => ?_, fun hc => ?_⟩
  · have h : i < 0 := by simpa using hc
    conv => whnf
    refine ⟨?_, trivial⟩
    show (0 : Int) = valI pt i
    rw [valI, if_pos h]
  · have h : ¬ i < 0 := by simpa using hc
    have hn : i.toNat < pt.length := by omega
    conv => whnf
    refine ⟨i.toNat, by omega, hn, hn, ?_⟩
    conv => whnf
    refine ⟨?_, trivial⟩
    show _ = valI pt i
    rw [valI, if_neg h, getD_of hn]
    rfl

def violF (pt : List Int) (l : Lnk) : Bool := decide (l.m < valI pt l.t - valI pt l.f)

def allowsF (bs : List (Int × Int)) (ls : List Lnk) (pt : List Int) : Lnk × Bool :=
  if pt.length = bs.length then (match (allF bs ls).find? (violF pt) with
    | some l => (l, false)
    | none => (⟨0, 0, 0, 0⟩, true)) else (⟨0, 0, 0, 0⟩, false)

theorem valI_bd (pt : List Int) (i : Int) : -1099511627776 ≤ valI pt i ∧ valI pt i ≤ 1099511627776 := by
  unfold valI; split <;> omega

theorem find_take {α : Type} {p : α → Bool} {xs : List α} {i : Nat} (h : i < xs.length) (hn : xs.find? p = (xs.drop i).find? p) : xs.find? p = if p xs[i] then some xs[i] else (xs.drop (i + 1)).find? p := by
  rw [hn, List.drop_eq_getElem_cons h, List.find?_cons]
  cases p xs[i] <;> rfl

theorem refAllows_t (bs : List (Int × Int)) (ls : List Lnk) (pt : List Int) (hs : SysOK bs ls) (hp : pt.length ≤ 1000000) :
    Triple Try.prog 51 [sysA bs.length ls.length, .c (.s 2 0 pt.length 1)] ((2, false, .arr (aInt pt)) :: sysH bs ls) 3
      (.tup [.inr [.v (.int .i64 (allowsF bs ls pt).1.f), .v (.int .i64 (allowsF bs ls pt).1.t), .v (.int .i64 (allowsF bs ls pt).1.m), .v (.int .i64 (allowsF bs ls pt).1.i)], .inl (.v (.bool (allowsF bs ls pt).2))]) [] := by
  have hR : allowsF bs ls pt = if pt.length = bs.length then (match (allF bs ls).find? (violF pt) with
    | some l => (l, false)
    | none => (⟨0, 0, 0, 0⟩, true)) else (⟨0, 0, 0, 0⟩, false) := rfl
  generalize allowsF bs ls pt = R at *
  have hnb := hs.nb
  have hnl := hs.nl
  have hal := allF_le hs
  have hok := allF_ok hs
  refine triple_of tB_ok Try.func51 rfl Try.call51 rfl ?_
  intro ρ w hH
  conv => whnf
  refine ⟨fun hc => ?_, fun hc => ?_⟩
  · have h : ¬ pt.length = bs.length := by have := (by simpa using (show ((pt.length : Int) != bs.length) = true from hc) : ¬ (pt.length : Int) = bs.length); omega
    rw [if_neg h] at hR
    rw [hR]
    conv => whnf
    repeat' (first | exact trivial | exact rfl | refine And.intro ?_ ?_ | ((conv => whnf); first | exact trivial | exact rfl | refine And.intro ?_ ?_ | omega))
  have h : pt.length = bs.length := by have := (by simpa using (show ((pt.length : Int) != bs.length) = false from hc) : (pt.length : Int) = bs.length); omega
  rw [if_pos h] at hR
  conv => whnf
  refine call_step (refAll_t bs ls (by omega) hs.boxB (by omega)) rfl rfl ?_
  conv => whnf
  refine ⟨(by repeat' (first | exact trivial | exact rfl | refine And.intro ?_ ?_ | ((conv => whnf); first | exact trivial | exact rfl | refine And.intro ?_ ?_ | omega))), (by repeat' (first | exact trivial | exact rfl | refine And.intro ?_ ?_ | ((conv => whnf); first | exact trivial | exact rfl | refine And.intro ?_ ?_ | omega))), ?_⟩
  conv => whnf
  generalize allF bs ls = arcs at *
  refine loop_step tB_ok (G := Nat) 0 [] (fun i => [(7, iv .i64 i)]) (fun _ => []) (fun i => i ≤ arcs.length ∧ arcs.find? (violF pt) = (arcs.drop i).find? (violF pt)) (fun i => arcs.length - i) ?_
  conv => whnf
  refine ⟨⟨0, ⟨Nat.zero_le _, rfl⟩, ?_⟩, ?_⟩
  · conv => whnf
    repeat' (first | exact trivial | exact rfl | refine And.intro ?_ ?_ | ((conv => whnf); first | exact trivial | exact rfl | refine And.intro ?_ ?_ | omega))
  intro i hii ρ1 t1 hρ1
  obtain ⟨hi, hn⟩ := hii
  conv => whnf
  refine ⟨fun hc => ?_, fun hc => ?_⟩
  · have hlt : i < arcs.length := by simpa using hc
    obtain ⟨hf, ht, hm⟩ := hok arcs[i] (List.getElem_mem hlt)
    have hb1 := valI_bd pt arcs[i].f
    have hb2 := valI_bd pt arcs[i].t
    have hst := find_take hlt hn
    conv => whnf
    refine ⟨i, rfl, hlt, hlt, ?_⟩
    conv => whnf
    refine call_step (value_t pt arcs[i].f (by omega)) rfl rfl ?_
    conv => whnf
    refine ⟨(by repeat' (first | exact trivial | exact rfl | refine And.intro ?_ ?_ | ((conv => whnf); first | exact trivial | exact rfl | refine And.intro ?_ ?_ | omega))), (by repeat' (first | exact trivial | exact rfl | refine And.intro ?_ ?_ | ((conv => whnf); first | exact trivial | exact rfl | refine And.intro ?_ ?_ | omega))), ?_⟩
    conv => whnf
    refine ⟨i, rfl, hlt, hlt, ?_⟩
    conv => whnf
    refine call_step (value_t pt arcs[i].t (by omega)) rfl rfl ?_
    conv => whnf
    refine ⟨(by repeat' (first | exact trivial | exact rfl | refine And.intro ?_ ?_ | ((conv => whnf); first | exact trivial | exact rfl | refine And.intro ?_ ?_ | omega))), (by repeat' (first | exact trivial | exact rfl | refine And.intro ?_ ?_ | ((conv => whnf); first | exact trivial | exact rfl | refine And.intro ?_ ?_ | omega))), ?_⟩
    conv => whnf
    refine ⟨valI pt arcs[i].t - valI pt arcs[i].f, wrapId (z := valI pt arcs[i].t - valI pt arcs[i].f) ⟨by omega, by omega⟩, ?_⟩
    conv => whnf
    refine ⟨i, rfl, hlt, hlt, ?_⟩
    conv => whnf
    refine ⟨fun hc => ?_, fun hc => ?_⟩
    · have hv : violF pt arcs[i] = true := hc
      rw [hv, if_pos rfl] at hst
      rw [hst] at hR
      rw [hR]
      conv => whnf
      refine ⟨i, rfl, hlt, hlt, ?_⟩
      conv => whnf
      repeat' (first | exact trivial | exact rfl | refine And.intro ?_ ?_ | ((conv => whnf); first | exact trivial | exact rfl | refine And.intro ?_ ?_ | omega))
    · have hv : violF pt arcs[i] = false := hc
      rw [hv, if_neg (by simp)] at hst
      conv => whnf
      refine ⟨(i : Int) + 1, wrapId (z := (i : Int) + 1) ⟨by omega, by omega⟩, ?_⟩
      refine ⟨i + 1, ⟨hlt, hst⟩, by show arcs.length - (i + 1) < arcs.length - i; omega, ?_⟩
      conv => whnf
      refine ⟨rfl, ?_⟩
      conv => whnf
      repeat' (first | exact trivial | exact rfl | refine And.intro ?_ ?_ | ((conv => whnf); first | exact trivial | exact rfl | refine And.intro ?_ ?_ | omega))
  have hie : i = arcs.length := by simp at hc; omega
  rw [hie, List.drop_length] at hn
  rw [hn] at hR
  rw [hR]
  conv => whnf
  repeat' (first | exact trivial | exact rfl | refine And.intro ?_ ?_ | ((conv => whnf); first | exact trivial | exact rfl | refine And.intro ?_ ?_ | omega))

def atF (pt : List Int) (i : Int) : Int := if i < 0 then 0 else pt.getD i.toNat 0

end Go.Proofs

namespace Go.Proofs
open Go.Sx

end Go.Proofs

/-
  Plain lemmas, part 9: the IDs of links, in increasing order, each once, as the reference implementation finds them. Conditions: none; definitions and plain lemmas.
-/
namespace Go
namespace Proofs

/-! Increasing lists with the same members are the same. -/

end Proofs
end Go

/-
  Plain lemmas, part 10: sorting and dropping equal neighbours gives an increasing list with the same members. Conditions: none; plain lemmas.
-/
namespace Go
namespace Proofs

end Proofs
end Go

namespace Go
namespace Sx

/-! ### append to no slice -/

end Sx
end Go

namespace Go.Proofs
open Go.Sx

end Go.Proofs

namespace Go.Proofs
open Go.Sx

end Go.Proofs

namespace Go.Proofs
open Go.Sx

theorem calm_pot {bs : List (Int × Int)} {ls : List Lnk} (hs : SysOK bs ls) (h : Calm bs ls 0) : ∃ q : Nat → Int, ∀ k, PotL bs.length q (graphF bs ls k) := by
  have hp := (rounds_hub (rev := noR) (k := bs.length + 2) (graphF_ok hs 0) (hub_graph bs ls 0) (Nat.le_refl _) h).2
  have hL := potL_iff.2 hp
  refine ⟨fun v => (shortF bs.length noR (graphF bs ls 0) bs.length).1.sum.getD v 0, fun k l hl => hL l ?_⟩
  rw [graphF_zero]
  exact (List.mem_filter.1 hl).1

end Go.Proofs

namespace Go.Proofs
open Go.Sx

/-! ### What a way back shows -/

theorem valI_at {pt : List Int} {i : Int} (h : -1099511627776 ≤ atF pt i ∧ atF pt i ≤ 1099511627776) : valI pt i = atF pt i := by
  unfold valI atF at *
  split
  · rfl
  · rename_i hi
    rw [if_neg hi] at h
    omega

end Go.Proofs

namespace Go.Proofs
open Go.Sx

end Go.Proofs

/-
  Plain lemmas, part 12: a place that was changed in a late round leads back into a cycle with a negative sum. Conditions: none; definitions and plain lemmas.
-/
namespace Go
namespace Proofs

end Proofs
end Go

namespace Go.Proofs
open Go.Sx

end Go.Proofs

namespace Go.Proofs
open Go.Sx

/-! ### The reference implementation's -/

/-! ### The law -/

end Go.Proofs

/-
  Plain lemmas, part 13: a flow over the arcs of a system: what it brings to each place, and how a path changes it. Conditions: none; definitions and plain lemmas.
-/
namespace Go
namespace Proofs

def sumR : Nat → (Nat → Int) → Int
  | 0, _ => 0
  | k + 1, f => sumR k f + f k

def ind (p : Prop) [Decidable p] : Int := if p then 1 else 0

theorem ind_true {p : Prop} [Decidable p] (h : p) : ind p = 1 := if_pos h
theorem ind_false {p : Prop} [Decidable p] (h : ¬ p) : ind p = 0 := if_neg h

theorem sumR_congr {f g : Nat → Int} : ∀ {k : Nat}, (∀ v, v < k → f v = g v) → sumR k f = sumR k g
  | 0, _ => rfl
  | k + 1, h => by
    simp only [sumR]
    rw [sumR_congr fun v hv => h v (by omega), h k (by omega)]

theorem sumR_add (f g : Nat → Int) : ∀ k, sumR k (fun v => f v + g v) = sumR k f + sumR k g
  | 0 => rfl
  | k + 1 => by simp only [sumR, sumR_add f g k]; omega

theorem sumR_mul (c : Int) (f : Nat → Int) : ∀ k, sumR k (fun v => c * f v) = c * sumR k f
  | 0 => by simp [sumR]
  | k + 1 => by simp only [sumR, sumR_mul c f k, Int.mul_add]

theorem sumR_zero : ∀ k, sumR k (fun _ => 0) = 0
  | 0 => rfl
  | k + 1 => by simp only [sumR, sumR_zero k]; rfl

theorem sumR_le {f g : Nat → Int} : ∀ {k : Nat}, (∀ v, v < k → f v ≤ g v) → sumR k f ≤ sumR k g
  | 0, _ => Int.le_refl _
  | k + 1, h => by
    have h1 := sumR_le (k := k) fun v hv => h v (by omega)
    have h2 := h k (by omega)
    simp only [sumR]; omega

theorem sumR_ind (q : Nat → Int) {t : Nat} : ∀ {k : Nat}, t < k → sumR k (fun v => ind (t = v) * q v) = q t
  | 0, h => by omega
  | k + 1, h => by
    simp only [sumR]
    by_cases hk : t = k
    · subst hk
      rw [sumR_congr (g := fun _ => 0) fun v hv => by rw [ind_false (by omega), Int.zero_mul], sumR_zero, ind_true rfl]; omega
    · rw [sumR_ind q (by omega), ind_false hk]; omega

/-- A sum where one term changes. -/
theorem sumR_set {f : Nat → Int} {i : Nat} {x : Int} : ∀ {k : Nat}, i < k → sumR k (fun v => if v = i then x else f v) = sumR k f - f i + x
  | 0, h => by omega
  | k + 1, h => by
    simp only [sumR]
    by_cases hk : i = k
    · subst hk
      rw [sumR_congr (g := f) fun v hv => by rw [if_neg (by omega)], if_pos rfl]; omega
    · rw [sumR_set (by omega), if_neg (fun h => hk h.symm)]; omega

theorem sumR_nonneg {f : Nat → Int} : ∀ {k : Nat}, (∀ v, v < k → 0 ≤ f v) → 0 ≤ sumR k f
  | 0, _ => Int.le_refl _
  | k + 1, h => by
    have h1 := sumR_nonneg (k := k) fun v hv => h v (by omega)
    have h2 := h k (by omega)
    simp only [sumR]; omega

theorem sumR_pos {f : Nat → Int} {i : Nat} : ∀ {k : Nat}, (∀ v, v < k → 0 ≤ f v) → i < k → f i ≤ sumR k f
  | 0, _, h => by omega
  | k + 1, h, hi => by
    have h1 := sumR_nonneg (k := k) fun v hv => h v (by omega)
    have h2 := h k (by omega)
    simp only [sumR]
    by_cases hk : i = k
    · subst hk; omega
    · have := sumR_pos (k := k) (fun v hv => h v (by omega)) (show i < k by omega); omega

theorem sumR_zero_all {f : Nat → Int} : ∀ {k : Nat}, (∀ v, v < k → 0 ≤ f v) → sumR k f = 0 → ∀ v, v < k → f v = 0 := fun {k} h hs v hv => by
  have := sumR_pos h hv
  have := h v hv
  omega

/-- What a flow brings to a place. -/
def netV (n : Nat) : List Lnk → List Int → Nat → Int
  | l :: r, x :: s, v => x * (ind (plc n l.t = v) - ind (plc n l.f = v)) + netV n r s v
  | [], _, _ => 0
  | _ :: _, [], _ => 0

def costV : List Lnk → List Int → Int
  | l :: r, x :: s => x * l.m + costV r s
  | [], _ => 0
  | _ :: _, [] => 0

theorem netV_zero (n v : Nat) : ∀ (arcs : List Lnk) (k : Nat), netV n arcs (List.replicate k 0) v = 0
  | [], k => by cases k <;> rfl
  | l :: r, 0 => rfl
  | l :: r, k + 1 => by simp only [List.replicate_succ, netV, netV_zero n v r k]; omega

theorem netV_set (n v : Nat) (d : Int) : ∀ {arcs : List Lnk} {flow : List Int} {i : Nat} {l : Lnk}, arcs[i]? = some l → i < flow.length →
    netV n arcs (flow.set i (flow.getD i 0 + d)) v = netV n arcs flow v + d * (ind (plc n l.t = v) - ind (plc n l.f = v))
  | [], _, _, _, h, _ => by simp at h
  | a :: r, [], _, _, _, h => by simp at h
  | a :: r, x :: s, 0, l, h, _ => by
    simp at h
    subst h
    simp only [List.set_cons_zero, netV, List.getD_cons_zero, Int.add_mul]
    omega
  | a :: r, x :: s, i + 1, l, h, hi => by
    have := netV_set n v d (arcs := r) (flow := s) (i := i) (l := l) (by simpa using h) (by simpa using hi)
    simp only [List.set_cons_succ, netV, List.getD_cons_succ, this]
    omega

/-- Prices: what a flow carries, over the places and over the arcs. -/
theorem netV_dot (n : Nat) (q : Nat → Int) : ∀ {arcs : List Lnk} {flow : List Int}, (∀ l ∈ arcs, ArcOK n l) → arcs.length = flow.length → (∀ i l, arcs[i]? = some l → 0 < flow.getD i 0 → q (plc n l.t) - q (plc n l.f) = l.m) → (∀ i, 0 ≤ flow.getD i 0) →
    sumR (n + 1) (fun v => netV n arcs flow v * q v) = costV arcs flow
  | [], flow, _, _, _, _ => by
    rw [sumR_congr (g := fun _ => 0) fun v _ => by simp [netV], sumR_zero]
    cases flow <;> rfl
  | l :: r, [], _, h, _, _ => by simp at h
  | l :: r, x :: s, hok, hl, hc, hp => by
    have ih := netV_dot n q (arcs := r) (flow := s) (fun l hl => hok l (List.mem_cons_of_mem _ hl)) (by simpa using hl) (fun i l h1 h2 => hc (i + 1) l (by simpa using h1) (by simpa using h2)) (fun i => by have := hp (i + 1); simpa using this)
    obtain ⟨o1, o2, o3⟩ := hok l (List.mem_cons_self ..)
    have t1 := plc_le o1.2
    have t2 := plc_le o2.2
    have e1 : sumR (n + 1) (fun v => netV n (l :: r) (x :: s) v * q v) = sumR (n + 1) (fun v => x * (ind (plc n l.t = v) * q v) + ((-x) * (ind (plc n l.f = v) * q v) + netV n r s v * q v)) := by
      refine sumR_congr fun v _ => ?_
      simp only [netV, Int.add_mul, Int.mul_sub, Int.sub_mul, Int.neg_mul, Int.mul_assoc]
      omega
    rw [e1, sumR_add, sumR_add, sumR_mul, sumR_mul, ih, sumR_ind q (by omega), sumR_ind q (by omega)]
    simp only [costV]
    have h0 := hp 0
    rw [List.getD_cons_zero] at h0
    rcases Int.lt_or_eq_of_le h0 with hx | hx
    · have := hc 0 l rfl (by simpa using hx)
      rw [← this, Int.mul_sub, Int.neg_mul]; omega
    · rw [← hx]; simp

/-- A flow over arcs never costs less than the prices of what it brings, for prices that no arc contradicts. -/
theorem netV_le (n : Nat) (q : Nat → Int) : ∀ {arcs : List Lnk} {flow : List Int}, (∀ l ∈ arcs, ArcOK n l) → arcs.length = flow.length → PotL n q arcs → (∀ i, 0 ≤ flow.getD i 0) →
    sumR (n + 1) (fun v => netV n arcs flow v * q v) ≤ costV arcs flow
  | [], flow, _, _, _, _ => by
    rw [sumR_congr (g := fun _ => 0) fun v _ => by simp [netV], sumR_zero]
    cases flow <;> exact Int.le_refl _
  | l :: r, [], _, h, _, _ => by simp at h
  | l :: r, x :: s, hok, hl, hc, hp => by
    have ih := netV_le n q (arcs := r) (flow := s) (fun l hl => hok l (List.mem_cons_of_mem _ hl)) (by simpa using hl) (fun l hl => hc l (List.mem_cons_of_mem _ hl)) (fun i => by have := hp (i + 1); simpa using this)
    obtain ⟨o1, o2, o3⟩ := hok l (List.mem_cons_self ..)
    have t1 := plc_le o1.2
    have t2 := plc_le o2.2
    have e1 : sumR (n + 1) (fun v => netV n (l :: r) (x :: s) v * q v) = sumR (n + 1) (fun v => x * (ind (plc n l.t = v) * q v) + ((-x) * (ind (plc n l.f = v) * q v) + netV n r s v * q v)) := by
      refine sumR_congr fun v _ => ?_
      simp only [netV, Int.add_mul, Int.mul_sub, Int.sub_mul, Int.neg_mul, Int.mul_assoc]
      omega
    rw [e1, sumR_add, sumR_add, sumR_mul, sumR_mul, sumR_ind q (by omega), sumR_ind q (by omega)]
    simp only [costV]
    have h0 := hp 0
    rw [List.getD_cons_zero] at h0
    have hq : q (plc n l.t) ≤ q (plc n l.f) + l.m := hc l (List.mem_cons_self ..)
    have := Int.mul_le_mul_of_nonneg_left (show q (plc n l.t) - q (plc n l.f) ≤ l.m by omega) h0
    rw [Int.mul_sub] at this
    rw [Int.neg_mul]
    omega

/-! ### A path -/

theorem amtF_le (flow : List Int) : ∀ (ks : List Nat) (a : Int), amtF flow ks a ≤ a ∧ ∀ k ∈ ks, k % 2 = 1 → amtF flow ks a ≤ flow.getD (k / 2) 0
  | [], a => ⟨Int.le_refl _, fun k hk => by cases hk⟩
  | k :: r, a => by
    simp only [amtF]
    by_cases hk : k % 2 = 1
    · rw [if_pos hk]
      obtain ⟨h1, h2⟩ := amtF_le flow r (min a (flow.getD (k / 2) 0))
      refine ⟨by omega, fun k' hk' ho => ?_⟩
      rcases List.mem_cons.1 hk' with rfl | hk'
      · omega
      · exact h2 k' hk' ho
    · rw [if_neg hk]
      obtain ⟨h1, h2⟩ := amtF_le flow r a
      refine ⟨h1, fun k' hk' ho => ?_⟩
      rcases List.mem_cons.1 hk' with rfl | hk'
      · exact absurd ho hk
      · exact h2 k' hk' ho

theorem amtF_pos (flow : List Int) : ∀ (ks : List Nat) (a : Int), 1 ≤ a → (∀ k ∈ ks, k % 2 = 1 → 1 ≤ flow.getD (k / 2) 0) → 1 ≤ amtF flow ks a
  | [], a, h, _ => h
  | k :: r, a, h, hf => by
    simp only [amtF]
    refine amtF_pos flow r _ ?_ fun k' hk' => hf k' (List.mem_cons_of_mem _ hk')
    split
    · rename_i hk
      have := hf k (List.mem_cons_self ..) hk
      omega
    · exact h

def kSum (n : Nat) (arcs : List Lnk) (v : Nat) : List Nat → Int
  | [] => 0
  | k :: r => (ind ((keyE n arcs k).b = v) - ind ((keyE n arcs k).a = v)) + kSum n arcs v r

theorem kSum_path {n : Nat} {arcs : List Lnk} {E : List Edg} {T : Tr} {ts : Nat → Nat} {src v : Nat} : ∀ {ks : List Nat} {p : Nat}, StepP n arcs E T ts src ks p → kSum n arcs v ks = ind (p = v) - ind (src = v)
  | [], p, h => by
    have h : p = src := h
    rw [h]; simp [kSum]
  | k :: r, p, h => by
    obtain ⟨_, _, _, hb, _, _, _, hr⟩ := h
    simp only [kSum]
    rw [kSum_path hr, hb]
    omega

theorem addF_some {n : Nat} {arcs : List Lnk} {rev : Nat → Bool} {a S : Int} (ha : 0 ≤ a) (hS : S + a ≤ 4611686018427387904) : ∀ {ks : List Nat} {flow : List Int}, flow.length = arcs.length → (ks.map fun k => k / 2).Nodup → (∀ k ∈ ks, keyE n arcs k ∈ edgs n rev 0 arcs ∧ (keyE n arcs k).k = (k : Int)) →
    (∀ i, 0 ≤ flow.getD i 0 ∧ flow.getD i 0 ≤ S) → (∀ k ∈ ks, k % 2 = 1 → a ≤ flow.getD (k / 2) 0) →
    ∃ flow', addF a ks flow = some flow' ∧ flow'.length = flow.length ∧ (∀ i, (∀ k ∈ ks, k / 2 ≠ i) → flow'.getD i 0 = flow.getD i 0) ∧ (∀ k ∈ ks, flow'.getD (k / 2) 0 = flow.getD (k / 2) 0 + a * (1 - 2 * ((k % 2 : Nat) : Int))) ∧
      ∀ v, netV n arcs flow' v = netV n arcs flow v + a * kSum n arcs v ks
  | [], flow, _, _, _, _, _ => ⟨flow, rfl, rfl, fun i _ => rfl, fun k hk => (by cases hk), fun v => by simp [kSum]⟩
  | k :: r, flow, hl, hn, hk, hb, ho => by
    rw [List.map_cons, List.nodup_cons] at hn
    obtain ⟨hn1, hn2⟩ := hn
    obtain ⟨he, hkk⟩ := hk k (List.mem_cons_self ..)
    obtain ⟨_, _, l, hl0, hcase⟩ := key_befF he hkk
    have hkl : k / 2 < flow.length := by rw [hl]; exact (List.getElem?_eq_some_iff.1 hl0).1
    have hbk := hb (k / 2)
    obtain ⟨d, hd⟩ : ∃ d, d = a * (1 - 2 * ((k % 2 : Nat) : Int)) := ⟨_, rfl⟩
    have hdv : (k % 2 = 0 ∧ d = a) ∨ (k % 2 = 1 ∧ d = -a) := by
      rcases hcase with h | h
      · exact .inl ⟨h.1, by rw [hd, h.1]; simp⟩
      · exact .inr ⟨h.1, by rw [hd, h.1]; simp⟩
    have hx : 0 ≤ flow.getD (k / 2) 0 + d ∧ flow.getD (k / 2) 0 + d ≤ S + a := by
      rcases hdv with ⟨h1, h2⟩ | ⟨h1, h2⟩
      · omega
      · have := ho k (List.mem_cons_self ..) h1
        omega
    have hne : ∀ k' ∈ r, k' / 2 ≠ k / 2 := fun k' hk' he => hn1 (by rw [← he]; exact List.mem_map_of_mem hk')
    have hget : ∀ i, (flow.set (k / 2) (flow.getD (k / 2) 0 + d)).getD i 0 = if i = k / 2 then flow.getD (k / 2) 0 + d else flow.getD i 0 := fun i => getD_set hkl
    -- the values may rise above S at one place that the rest does not touch: take the rest on a list cut there
    have key : ∀ {ks : List Nat} {f : List Int}, f.length = arcs.length → (ks.map fun k => k / 2).Nodup → (∀ k ∈ ks, keyE n arcs k ∈ edgs n rev 0 arcs ∧ (keyE n arcs k).k = (k : Int)) → (∀ k ∈ ks, 0 ≤ f.getD (k / 2) 0 ∧ f.getD (k / 2) 0 ≤ S) →
        (∀ k ∈ ks, k % 2 = 1 → a ≤ f.getD (k / 2) 0) →
        ∃ f', addF a ks f = some f' ∧ f'.length = f.length ∧ (∀ i, (∀ k ∈ ks, k / 2 ≠ i) → f'.getD i 0 = f.getD i 0) ∧ (∀ k ∈ ks, f'.getD (k / 2) 0 = f.getD (k / 2) 0 + a * (1 - 2 * ((k % 2 : Nat) : Int))) ∧
          ∀ v, netV n arcs f' v = netV n arcs f v + a * kSum n arcs v ks := by
      intro ks
      induction ks with
      | nil => intro f _ _ _ _ _; exact ⟨f, rfl, rfl, fun i _ => rfl, fun k hk => (by cases hk), fun v => by simp [kSum]⟩
      | cons k r ih =>
        intro f hl hn hk hb ho
        rw [List.map_cons, List.nodup_cons] at hn
        obtain ⟨hn1, hn2⟩ := hn
        obtain ⟨he, hkk⟩ := hk k (List.mem_cons_self ..)
        obtain ⟨_, _, l, hl0, hcase⟩ := key_befF he hkk
        have hkl : k / 2 < f.length := by rw [hl]; exact (List.getElem?_eq_some_iff.1 hl0).1
        have hbk := hb k (List.mem_cons_self ..)
        obtain ⟨d, hd⟩ : ∃ d, d = a * (1 - 2 * ((k % 2 : Nat) : Int)) := ⟨_, rfl⟩
        have hdv : (k % 2 = 0 ∧ d = a) ∨ (k % 2 = 1 ∧ d = -a) := by
          rcases hcase with h | h
          · exact .inl ⟨h.1, by rw [hd, h.1]; simp⟩
          · exact .inr ⟨h.1, by rw [hd, h.1]; simp⟩
        have hx : 0 ≤ f.getD (k / 2) 0 + d ∧ f.getD (k / 2) 0 + d ≤ S + a := by
          rcases hdv with ⟨h1, h2⟩ | ⟨h1, h2⟩
          · omega
          · have := ho k (List.mem_cons_self ..) h1
            omega
        have hne : ∀ k' ∈ r, k' / 2 ≠ k / 2 := fun k' hk' he => hn1 (by rw [← he]; exact List.mem_map_of_mem hk')
        have hget : ∀ i, (f.set (k / 2) (f.getD (k / 2) 0 + d)).getD i 0 = if i = k / 2 then f.getD (k / 2) 0 + d else f.getD i 0 := fun i => getD_set hkl
        obtain ⟨f', g1, g2, g3, g4, g5⟩ := ih (f := f.set (k / 2) (f.getD (k / 2) 0 + d)) (by simpa using hl) hn2 (fun k' hk' => hk k' (List.mem_cons_of_mem _ hk')) (fun k' hk' => by rw [hget, if_neg (hne k' hk')]; exact hb k' (List.mem_cons_of_mem _ hk'))
          (fun k' hk' h1 => by rw [hget, if_neg (hne k' hk')]; exact ho k' (List.mem_cons_of_mem _ hk') h1)
        refine ⟨f', ?_, by rw [g2]; simp, fun i hi => ?_, fun k' hk' => ?_, fun v => ?_⟩
        · unfold addF
          simp only [← hd]
          rw [if_pos (by rw [Bool.and_eq_true, inI_iff, inI_iff]; rcases hdv with h | h <;> omega)]
          exact g1
        · rw [g3 i fun k' hk' => hi k' (List.mem_cons_of_mem _ hk'), hget, if_neg (fun he => hi k (List.mem_cons_self ..) he.symm)]
        · rcases List.mem_cons.1 hk' with rfl | hk'
          · rw [g3 _ fun k'' hk'' => hne k'' hk'', hget, if_pos rfl, hd]
          · rw [g4 k' hk', hget, if_neg (hne k' hk')]
        · rw [g5, netV_set n v d hl0 hkl]
          simp only [kSum]
          rw [Int.mul_add, ← Int.add_assoc]
          congr 2
          rcases hcase with ⟨h1, h2, h3, _⟩ | ⟨h1, _, h2, h3, _⟩
          · rw [h2, h3]
            rcases hdv with h | h
            · rw [h.2]
            · omega
          · rw [h2, h3]
            rcases hdv with h | h
            · omega
            · rw [h.2, Int.neg_mul, Int.mul_sub, Int.mul_sub]; omega
    exact key hl (by rw [List.map_cons, List.nodup_cons]; exact ⟨hn1, hn2⟩) hk (fun k _ => hb (k / 2)) ho

end Proofs
end Go

