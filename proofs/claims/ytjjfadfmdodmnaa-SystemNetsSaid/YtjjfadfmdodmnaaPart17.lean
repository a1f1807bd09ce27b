/-
  A part of the proof that a law of dryweightlaw03 answers true: lemmas of a symbolic walk, plain functions, or contracts of the functions walked (Pm8, X2, X3, Pm11, X6, X7, X8, Pm9, Pm10, Sx30, X4, W2, X5, X9, Xa, Pm12). Conditions: none.
-/
import Derived.Test.YtjjfadfmdodmnaaPart16
import Derived.Test.YtjjfadfmdodmnaaPart09
import Derived.Test.YtjjfadfmdodmnaaPart13
import Derived.Test.YtjjfadfmdodmnaaPart14
import Derived.Lib.SlicesCompact
import Derived.Test.YtjjfadfmdodmnaaPart06
set_option maxRecDepth 100000
set_option linter.unusedVariables false
set_option linter.unusedSimpArgs false
/-
  Plain lemmas, part 8: sizes in the reference implementation's relaxing. Conditions: none; definitions and plain lemmas.
-/
namespace Go
namespace Proofs

structure OkO (n : Nat) (B : Int) (o : List Int) : Prop where
  len : o.length = n + 1
  bd : ∀ x ∈ o, -B ≤ x ∧ x ≤ farI

theorem OkO.mono {n : Nat} {B C : Int} {o : List Int} (h : OkO n B o) (hc : B ≤ C) : OkO n C o := ⟨h.len, fun x hx => by have := h.bd x hx; omega⟩

theorem OkO.rel {n : Nat} {B : Int} {o : List Int × Bool} {l : Lnk} (h : OkO n B o.1) (hl : ArcOK n l) : OkO n (B + 33554432) (relO l o).1 := by
  obtain ⟨h1, h2, h3⟩ := hl
  unfold relO
  split
  · rename_i hc
    simp only [Bool.and_eq_true, decide_eq_true_eq] at hc
    refine ⟨by simp [h.len], fun x hx => ?_⟩
    have ha : (l.f + 1).toNat < o.1.length := by rw [h.len]; omega
    have hb : (l.t + 1).toNat < o.1.length := by rw [h.len]; omega
    have b1 := h.bd _ (getD_mem ha)
    have b2 := h.bd _ (getD_mem hb)
    rcases List.mem_or_eq_of_mem_set hx with hx | hx
    · have := h.bd x hx; omega
    · omega
  · exact h.mono (by omega)

theorem OkO.fold {n : Nat} : ∀ {xs : List Lnk} {B : Int} {o : List Int × Bool}, (∀ l ∈ xs, ArcOK n l) → OkO n B o.1 → OkO n (B + 33554432 * (xs.length : Int)) (xs.foldl (fun o l => relO l o) o).1
  | [], B, o, _, h => by simpa using h
  | x :: xs, B, o, hl, h => by
    simp only [List.foldl_cons, List.length_cons]
    have := OkO.fold (xs := xs) (fun l hm => hl l (List.mem_cons_of_mem _ hm)) (h.rel (hl x (List.mem_cons_self ..)))
    exact this.mono (by omega)

theorem passO_snoc {xs : List Lnk} {i : Nat} {o : List Int × Bool} (h : i < xs.length) : (xs.take (i + 1)).foldl (fun o l => relO l o) o = relO xs[i] ((xs.take i).foldl (fun o l => relO l o) o) := by
  rw [take_snoc h, List.foldl_append]; rfl

theorem startO_ok (n : Nat) (a : Int) : OkO n 0 (startO n a) := by
  refine ⟨by simp [startO], fun x hx => ?_⟩
  have h : x = farI ∨ x = 0 := by
    rcases List.mem_or_eq_of_mem_set hx with hx | hx
    · exact .inl (List.mem_replicate.1 hx).2
    · exact .inr hx
  rcases h with h | h <;> subst h <;> exact ⟨by decide, by decide⟩

theorem roundsO_ok {n : Nat} {arcs : List Lnk} (hok : ∀ l ∈ arcs, ArcOK n l) : ∀ (k : Nat) {B : Int} {o o' : List Int}, OkO n B o → roundsO arcs k o = some o' → OkO n (B + (k : Int) * (33554432 * (arcs.length : Int))) o'
  | 0, _, _, _, _, h => by cases h
  | k + 1, B, o, o', ho, h => by
    have hp := OkO.fold (o := (o, false)) hok ho
    have hz : ((k + 1 : Nat) : Int) * (33554432 * (arcs.length : Int)) = 33554432 * (arcs.length : Int) + (k : Int) * (33554432 * (arcs.length : Int)) := by
      rw [show ((k + 1 : Nat) : Int) = 1 + (k : Int) by omega, Int.add_mul, Int.one_mul]
    have hq : 0 ≤ (k : Int) * (33554432 * (arcs.length : Int)) := Int.mul_nonneg (by omega) (by omega)
    rw [hz]
    unfold roundsO at h
    split at h
    · exact (roundsO_ok hok k hp h).mono (by omega)
    · rw [← Option.some.inj h]; exact hp.mono (by omega)

theorem fromF_ok {n : Nat} {arcs : List Lnk} {a : Int} {o : List Int} (hn : n ≤ 1000) (hl : arcs.length ≤ 10000) (hok : ∀ l ∈ arcs, ArcOK n l) (h : fromF n arcs a = some o) : OkO n 400000000000000 o := by
  refine (roundsO_ok hok _ (startO_ok n a) h).mono ?_
  have : ((n + 2 : Nat) : Int) * (33554432 * (arcs.length : Int)) ≤ 1002 * (33554432 * 10000) := Int.mul_le_mul (by omega) (by omega) (by omega) (by omega)
  omega

theorem fromF_len {n : Nat} {arcs : List Lnk} {a : Int} {o : List Int} (hok : ∀ l ∈ arcs, ArcOK n l) (h : fromF n arcs a = some o) : o.length = n + 1 :=
  (roundsO_ok hok _ (startO_ok n a) h).len

/-- The greatest difference, as the reference implementation has it. -/
def greatF (n : Nat) (arcs : List Lnk) (a b : Int) : Int := match fromF n arcs a with
  | some o => o.getD (b + 1).toNat 0
  | none => farI

theorem greatF_bd {n : Nat} {arcs : List Lnk} (a b : Int) (hn : n ≤ 1000) (hl : arcs.length ≤ 10000) (hok : ∀ l ∈ arcs, ArcOK n l) : -400000000000000 ≤ greatF n arcs a b ∧ greatF n arcs a b ≤ 1099511627776 := by
  unfold greatF
  split
  · rename_i o ho
    have h := fromF_ok hn hl hok ho
    by_cases hi : (b + 1).toNat < o.length
    · exact h.bd _ (getD_mem hi)
    · rw [List.getD_eq_getElem?_getD, List.getElem?_eq_none (by omega)]
      exact ⟨by decide, by decide⟩
  · exact ⟨by decide, by decide⟩

/-- A relaxing of the program and one of the reference implementation, where no arc contradicts some numbers. -/
theorem great_eq {n : Nat} {arcs : List Lnk} {q : Nat → Int} {a b : Int} (hn : n ≤ 14) (hl : arcs.length ≤ 200) (hok : ∀ l ∈ arcs, ArcOK n l) (hq : PotL n q arcs) (ha : -1 ≤ a ∧ a < n) (hb : -1 ≤ b ∧ b < n)
    (hall : ∀ v, v ≤ n → (shortF n noR arcs (plc n a)).1.there.getD v false = true) :
    greatF n arcs a b = (shortF n noR arcs (plc n a)).1.sum.getD (plc n b) 0 := by
  have hr := rounds_pot (rev := noR) (k := n + 1) hok (potL_iff.1 hq) (plc_le ha.2) (Nat.le_refl _)
  have hB : ((n + 2 : Nat) : Int) * (67108864 * (arcs.length : Int)) < farI := by
    have : ((n + 2 : Nat) : Int) * (67108864 * (arcs.length : Int)) ≤ 16 * (67108864 * 200) := Int.mul_le_mul (by omega) (by omega) (by omega) (by omega)
    show _ < (1099511627776 : Int)
    omega
  obtain ⟨o, ho, hR⟩ := (fromF_some hok ha hB).1 hr.1
  have e : shortF n noR arcs (plc n a) = roundsF n noR arcs (n + 1) (startF n (plc n a)) := rounds_more hr.1
  unfold greatF
  rw [ho]
  show o.getD (b + 1).toNat 0 = _
  rw [← ixO_plc hb, hR.val _ (plc_le hb.2), ← e]
  unfold oV
  rw [if_pos (hall _ (plc_le hb.2))]

/-- Arcs that link the origin with each place, both ways. -/
def Hub (n : Nat) (arcs : List Lnk) : Prop := ∀ v, v < n → (∃ l ∈ arcs, plc n l.f = n ∧ plc n l.t = v) ∧ (∃ l ∈ arcs, plc n l.f = v ∧ plc n l.t = n)

theorem Hub.all {n : Nat} {rev : Nat → Bool} {arcs : List Lnk} {T : Tr} {src : Nat} (h : Hub n arcs) (hf : Fix (edgs n rev 0 arcs) T) (hs : src ≤ n) (hT : T.there.getD src false = true) : ∀ v, v ≤ n → T.there.getD v false = true := by
  have arc : ∀ l ∈ arcs, T.there.getD (plc n l.f) false = true → T.there.getD (plc n l.t) false = true := by
    intro l hl ht
    obtain ⟨j, hj⟩ := List.getElem?_of_mem hl
    exact (hf _ (edgs_mem.2 ⟨j, l, hj, .inl rfl⟩) ht).1
  have h0 : T.there.getD n false = true := by
    rcases Nat.lt_or_ge src n with hlt | hge
    · obtain ⟨_, l, hl, h1, h2⟩ := h src hlt
      have := arc l hl (by rw [h1]; exact hT)
      rwa [h2] at this
    · rwa [show src = n from by omega] at hT
  intro v hv
  rcases Nat.lt_or_ge v n with hlt | hge
  · obtain ⟨⟨l, hl, h1, h2⟩, _⟩ := h v hlt
    have := arc l hl (by rw [h1]; exact h0)
    rwa [h2] at this
  · rw [show v = n from by omega]; exact h0

/-- Where relaxing ends, the sums are numbers that no arc contradicts. -/
theorem rounds_hub {n : Nat} {rev : Nat → Bool} {arcs : List Lnk} {src k : Nat} (hok : ∀ l ∈ arcs, ArcOK n l) (hub : Hub n arcs) (hs : src ≤ n) (h : (roundsF n rev arcs k (startF n src)).2 = -1) :
    (∀ v, v ≤ n → (roundsF n rev arcs k (startF n src)).1.there.getD v false = true) ∧ Pot (fun v => (roundsF n rev arcs k (startF n src)).1.sum.getD v 0) (edgs n rev 0 arcs) := by
  obtain ⟨hf, ts, r, hB⟩ := rounds_fix hok hs h
  have hall := hub.all hf hs hB.so.2.1
  exact ⟨hall, fix_pot hf fun e he => hall _ (by have := (edgs_ok hok e he).1; omega)⟩

theorem great_most {n : Nat} {q : Nat → Int} {arcs : List Lnk} {a b : Int} (hn : n ≤ 14) (hl : arcs.length ≤ 200) (hok : ∀ l ∈ arcs, ArcOK n l) (hub : Hub n arcs) (hq : PotL n q arcs) (ha : -1 ≤ a ∧ a < n) (hb : -1 ≤ b ∧ b < n) :
    greatF n arcs a b = (shortF n noR arcs (plc n a)).1.sum.getD (plc n b) 0 := by
  have hr := rounds_pot (rev := noR) (k := n + 2) hok (potL_iff.1 hq) (plc_le ha.2) (by omega)
  exact great_eq hn hl hok hq ha hb (rounds_hub hok hub (plc_le ha.2) hr.1).1

theorem from_calm {n : Nat} {arcs : List Lnk} {o : List Int} {a : Int} (hn : n ≤ 14) (hl : arcs.length ≤ 200) (hok : ∀ l ∈ arcs, ArcOK n l) (ha : -1 ≤ a ∧ a < n) (h : fromF n arcs a = some o) : (shortF n noR arcs (plc n a)).2 = -1 := by
  have hB : ((n + 2 : Nat) : Int) * (67108864 * (arcs.length : Int)) < farI := by
    have : ((n + 2 : Nat) : Int) * (67108864 * (arcs.length : Int)) ≤ 16 * (67108864 * 200) := Int.mul_le_mul (by omega) (by omega) (by omega) (by omega)
    show _ < (1099511627776 : Int)
    omega
  have hr : (roundsF n noR arcs (n + 1) (startF n (plc n a))).2 = -1 := by
    by_cases hc : (roundsF n noR arcs (n + 1) (startF n (plc n a))).2 = -1
    · exact hc
    · rw [(fromF_some hok ha hB).2 hc] at h; cases h
  have e : shortF n noR arcs (plc n a) = roundsF n noR arcs (n + 1) (startF n (plc n a)) := rounds_more hr
  rw [e]; exact hr

theorem calm_from {n : Nat} {arcs : List Lnk} {a : Int} (hn : n ≤ 14) (hl : arcs.length ≤ 200) (hok : ∀ l ∈ arcs, ArcOK n l) (hub : Hub n arcs) (ha : -1 ≤ a ∧ a < n) (h : (shortF n noR arcs (plc n a)).2 = -1) : (fromF n arcs a).isSome = true := by
  have hB : ((n + 2 : Nat) : Int) * (67108864 * (arcs.length : Int)) < farI := by
    have : ((n + 2 : Nat) : Int) * (67108864 * (arcs.length : Int)) ≤ 16 * (67108864 * 200) := Int.mul_le_mul (by omega) (by omega) (by omega) (by omega)
    show _ < (1099511627776 : Int)
    omega
  have hq := (rounds_hub (rev := noR) (k := n + 2) hok hub (plc_le ha.2) h).2
  have hr := rounds_pot (rev := noR) (k := n + 1) hok hq (plc_le ha.2) (Nat.le_refl _)
  obtain ⟨o, ho, _⟩ := (fromF_some hok ha hB).1 hr.1
  rw [ho]; rfl

theorem replicate_snoc {α : Type} (n : Nat) (x : α) : List.replicate n x ++ [x] = List.replicate (n + 1) x := by
  rw [List.replicate_succ']

end Proofs
end Go

namespace Go.Proofs
open Go.Sx

/-- What relaxing returns: a list and true, or none and false. -/
def optO : Option (List Int) → List Int
  | some o => o
  | none => []

theorem getD_of {xs : List Int} {i : Nat} (h : i < xs.length) : xs.getD i 0 = xs[i] := by
  rw [List.getD_eq_getElem?_getD, List.getElem?_eq_getElem h]; rfl

theorem from_t (bs : List (Int × Int)) (ls : List Lnk) (a : Int) (hb : bs.length ≤ 1000) (hB : BoxB bs) (hl : ls.length ≤ 8000) (hok : ∀ l ∈ allF bs ls, ArcOK bs.length l) (ha : -1 ≤ a ∧ a < bs.length) :
    Triple Try.prog 98 [sysA bs.length ls.length, iv .i64 a] (sysH bs ls) 2 (.tup [.inl (.s 2 0 (optO (fromF bs.length (allF bs ls) a)).length 1), .inl (.v (.bool (fromF bs.length (allF bs ls) a).isSome))])
      [(2, true, .arr (aInt (optO (fromF bs.length (allF bs ls) a))))] := by
  refine triple_of tB_ok Try.func98 rfl Try.call98 rfl ?_
  intro ρ w hH
  conv => whnf
  refine call_step (refAll_t bs ls hb hB (by omega)) rfl rfl ?_
  conv => whnf
  refine ⟨(by repeat' (first | exact trivial | exact rfl | refine And.intro ?_ ?_ | ((conv => whnf); first | exact trivial | exact rfl | refine And.intro ?_ ?_ | omega))), (by repeat' (first | exact trivial | exact rfl | refine And.intro ?_ ?_ | ((conv => whnf); first | exact trivial | exact rfl | refine And.intro ?_ ?_ | omega))), ?_⟩
  conv => whnf
  have hal := allF_len bs ls
  generalize allF bs ls = arcs at *
  generalize hn : bs.length = n at *
  refine loop_step tB_ok (G := Int × List Int) 1 [] (fun g => [(8, iv .i64 g.1), (7, .c (.s 4 0 g.2.length 1))]) (fun g => [(4, true, .arr (aInt g.2))]) (fun g => -1 ≤ g.1 ∧ g.1 ≤ n ∧ g.2 = List.replicate (g.1 + 1).toNat farI) (fun g => ((n : Int) - g.1).toNat) ?_
  conv => whnf
  refine ⟨⟨(-1, []), ⟨by omega, by omega, rfl⟩, ?_⟩, ?_⟩
  · conv => whnf
    repeat' (first | exact trivial | exact rfl | refine And.intro ?_ ?_ | ((conv => whnf); first | exact trivial | exact rfl | refine And.intro ?_ ?_ | omega))
  rintro ⟨i, xs⟩ ⟨hi1, hi2, hxs⟩ ρ1 t1 hρ1
  have hi1 : -1 ≤ i := hi1
  have hi2 : i ≤ n := hi2
  have hxs : xs = List.replicate (i + 1).toNat farI := hxs
  have hxl : xs.length = (i + 1).toNat := by rw [hxs, List.length_replicate]
  dsimp only
  conv => whnf
  refine ⟨fun hc => ?_, fun hc => ?_⟩
  · have hlt : i < n := by simpa using hc
    conv => whnf
    refine bs_step tB_ok (aInt [1099511627776]) rfl rfl ?_
    conv => whnf
    refine ⟨⟨rfl, rfl, trivial⟩, ?_⟩
    conv => whnf
    refine app_step tB_ok (aInt xs) [(1099511627776 : Int)] (fun _ => rfl) rfl rfl rfl rfl ?_
    conv => whnf
    refine ⟨⟨rfl, rfl, Nat.le_refl _, Nat.le_refl _, by show (xs.length + 1) * 9 ≤ _; omega⟩, ?_⟩
    conv => whnf
    refine ⟨i + 1, wrapId (z := i + 1) ⟨by omega, by omega⟩, ?_⟩
    refine ⟨(i + 1, xs ++ [1099511627776]), ⟨by omega, by omega, ?_⟩, by show ((n : Int) - (i + 1)).toNat < ((n : Int) - i).toNat; omega, ?_⟩
    · show xs ++ [1099511627776] = List.replicate (i + 1 + 1).toNat farI
      rw [hxs, replicate_snoc, show (i + 1 + 1).toNat = (i + 1).toNat + 1 from by omega]
    conv => whnf
    refine ⟨rfl, ?_⟩
    conv => whnf
    repeat' (first | exact trivial | exact rfl | refine And.intro ?_ ?_ | ((conv => whnf); first | exact trivial | exact rfl | refine And.intro ?_ ?_ | omega))
    · simp
    · exact congrArg aInt app1
  have hin : i = n := by simp at hc; omega
  subst hin
  have hxl : xs.length = n + 1 := by omega
  conv => whnf
  refine ⟨a + 1, wrapId (z := a + 1) ⟨by omega, by omega⟩, ?_⟩
  conv => whnf
  refine ⟨(a + 1).toNat, by omega, by omega, by show (a + 1).toNat < xs.length; omega, (0 : Int), rfl, ?_⟩
  conv => whnf
  have hst : xs.set (a + 1).toNat 0 = startO n a := by rw [hxs, show ((n : Int) + 1).toNat = n + 1 from by omega]; rfl
  refine loop_step tB_ok (G := Nat × List Int) 0 [] (fun g => [(9, iv .i64 g.1)]) (fun g => [(4, true, .arr (aInt g.2))])
    (fun g => g.1 ≤ n + 2 ∧ OkO n (g.1 * (33554432 * arcs.length)) g.2 ∧ fromF n arcs a = roundsO arcs (n + 2 - g.1) g.2) (fun g => n + 2 - g.1) ?_
  conv => whnf
  refine ⟨⟨(0, xs.set (a + 1).toNat 0), ⟨Nat.zero_le _, by rw [hst]; exact (startO_ok n a).mono (by simp), by rw [hst]; rfl⟩, ?_⟩, ?_⟩
  · conv => whnf
    repeat' (first | exact trivial | exact rfl | refine And.intro ?_ ?_ | ((conv => whnf); first | exact trivial | exact rfl | refine And.intro ?_ ?_ | omega))
  rintro ⟨r, out⟩ ⟨hr, hO, hF⟩ ρ2 t2 hρ2
  have hr : r ≤ n + 2 := hr
  have hF : fromF n arcs a = roundsO arcs (n + 2 - r) out := hF
  dsimp only
  have hbd : ((r : Int) * (33554432 * arcs.length)) ≤ 1002 * (33554432 * 10000) := Int.mul_le_mul (by omega) (by omega) (by omega) (by omega)
  generalize hBd : ((r : Int) * (33554432 * arcs.length)) = BB at *
  have hOi : ∀ i, i ≤ arcs.length → OkO n (BB + 33554432 * i) ((arcs.take i).foldl (fun o l => relO l o) (out, false)).1 := fun i hi => by
    have := OkO.fold (xs := arcs.take i) (o := (out, false)) (fun l hl => hok l (List.mem_of_mem_take hl)) hO
    rw [List.length_take, Nat.min_eq_left hi] at this
    exact this
  conv => whnf
  refine ⟨(n : Int) + 1, wrapId (z := (n : Int) + 1) ⟨by omega, by omega⟩, ?_⟩
  conv => whnf
  refine ⟨fun hc => ?_, fun hc => ?_⟩
  · have hlt : r < n + 2 := by have : (r : Int) ≤ n + 1 := by simpa using hc
                               omega
    conv => whnf
    refine loop_step tB_ok (G := Nat × List Int × Bool) 0 [] (fun g => [(11, iv .i64 g.1), (10, bv g.2.2)]) (fun g => [(4, true, .arr (aInt g.2.1))])
      (fun g => g.1 ≤ arcs.length ∧ g.2 = (arcs.take g.1).foldl (fun o l => relO l o) (out, false)) (fun g => arcs.length - g.1) ?_
    conv => whnf
    refine ⟨⟨(0, out, false), ⟨Nat.zero_le _, rfl⟩, ?_⟩, ?_⟩
    · conv => whnf
      repeat' (first | exact trivial | exact rfl | refine And.intro ?_ ?_ | ((conv => whnf); first | exact trivial | exact rfl | refine And.intro ?_ ?_ | omega))
    rintro ⟨k, o, c⟩ ⟨hk, ho⟩ ρ3 t3 hρ3
    have hk : k ≤ arcs.length := hk
    have ho : (o, c) = (arcs.take k).foldl (fun o l => relO l o) (out, false) := ho
    have hOk := hOi k hk
    rw [← ho] at hOk
    have hol : o.length = n + 1 := hOk.len
    dsimp only
    conv => whnf
    refine ⟨fun hc => ?_, fun hc => ?_⟩
    · have hlt : k < arcs.length := by simpa using hc
      obtain ⟨hf, ht, hm⟩ := hok arcs[k] (List.getElem_mem hlt)
      have hst := passO_snoc (o := (out, false)) hlt
      rw [← ho] at hst
      have hfi : (arcs[k].f + 1).toNat < o.length := by omega
      have hti : (arcs[k].t + 1).toNat < o.length := by omega
      have hbf : _ ∧ o[(arcs[k].f + 1).toNat] ≤ 1099511627776 := hOk.bd _ (List.getElem_mem hfi)
      have ef := getD_of hfi
      have et := getD_of hti
      conv => whnf
      refine ⟨k, rfl, hlt, hlt, ?_⟩
      conv => whnf
      refine ⟨arcs[k].f + 1, wrapId (z := arcs[k].f + 1) ⟨by omega, by omega⟩, ?_⟩
      conv => whnf
      refine ⟨(arcs[k].f + 1).toNat, by omega, by omega, hfi, ?_⟩
      conv => whnf
      refine ⟨k, rfl, hlt, hlt, ?_⟩
      conv => whnf
      refine ⟨o[(arcs[k].f + 1).toNat] + arcs[k].m, wrapId (z := o[(arcs[k].f + 1).toNat] + arcs[k].m) ⟨by omega, by omega⟩, ?_⟩
      conv => whnf
      refine ⟨k, rfl, hlt, hlt, ?_⟩
      conv => whnf
      refine ⟨arcs[k].f + 1, wrapId (z := arcs[k].f + 1) ⟨by omega, by omega⟩, ?_⟩
      conv => whnf
      refine ⟨(arcs[k].f + 1).toNat, by omega, by omega, hfi, ?_⟩
      conv => whnf
      refine ⟨fun hc => ?_, fun hc => ?_⟩
      · have h1 : o[(arcs[k].f + 1).toNat] < 1099511627776 := of_decide_eq_true (show decide (o[(arcs[k].f + 1).toNat] < 1099511627776) = true from hc)
        conv => whnf
        refine ⟨k, rfl, hlt, hlt, ?_⟩
        conv => whnf
        refine ⟨arcs[k].t + 1, wrapId (z := arcs[k].t + 1) ⟨by omega, by omega⟩, ?_⟩
        conv => whnf
        refine ⟨(arcs[k].t + 1).toNat, by omega, by omega, hti, ?_⟩
        conv => whnf
        refine ⟨fun hc => ?_, fun hc => ?_⟩
        · have h2 : o[(arcs[k].f + 1).toNat] + arcs[k].m < o[(arcs[k].t + 1).toNat] := of_decide_eq_true (show decide (o[(arcs[k].f + 1).toNat] + arcs[k].m < o[(arcs[k].t + 1).toNat]) = true from hc)
          conv => whnf
          refine ⟨k, rfl, hlt, hlt, ?_⟩
          conv => whnf
          refine ⟨arcs[k].t + 1, wrapId (z := arcs[k].t + 1) ⟨by omega, by omega⟩, ?_⟩
          conv => whnf
          refine ⟨(arcs[k].t + 1).toNat, by omega, by omega, hti, o[(arcs[k].f + 1).toNat] + arcs[k].m, rfl, ?_⟩
          conv => whnf
          refine ⟨_, wrapId ⟨by omega, by omega⟩, ?_⟩
          refine ⟨(k + 1, o.set (arcs[k].t + 1).toNat (o[(arcs[k].f + 1).toNat] + arcs[k].m), true), ⟨hlt, ?_⟩, by show arcs.length - (k + 1) < arcs.length - k; omega, ?_⟩
          · show ((o.set (arcs[k].t + 1).toNat (o[(arcs[k].f + 1).toNat] + arcs[k].m), true) : List Int × Bool) = (arcs.take (k + 1)).foldl (fun o l => relO l o) (out, false)
            rw [hst]
            unfold relO
            dsimp only
            rw [ef, et]
            simp [h1, h2]
          conv => whnf
          refine ⟨rfl, ?_⟩
          conv => whnf
          repeat' (first | exact trivial | exact rfl | refine And.intro ?_ ?_ | ((conv => whnf); first | exact trivial | exact rfl | refine And.intro ?_ ?_ | omega))
        · have h2 : ¬ o[(arcs[k].f + 1).toNat] + arcs[k].m < o[(arcs[k].t + 1).toNat] := of_decide_eq_false (show decide (o[(arcs[k].f + 1).toNat] + arcs[k].m < o[(arcs[k].t + 1).toNat]) = false from hc)
          conv => whnf
          refine ⟨_, wrapId ⟨by omega, by omega⟩, ?_⟩
          refine ⟨(k + 1, o, c), ⟨hlt, ?_⟩, by show arcs.length - (k + 1) < arcs.length - k; omega, ?_⟩
          · show ((o, c) : List Int × Bool) = (arcs.take (k + 1)).foldl (fun o l => relO l o) (out, false)
            rw [hst]
            unfold relO
            dsimp only
            rw [ef, et]
            simp [h1, h2]
          conv => whnf
          refine ⟨rfl, ?_⟩
          conv => whnf
          repeat' (first | exact trivial | exact rfl | refine And.intro ?_ ?_ | ((conv => whnf); first | exact trivial | exact rfl | refine And.intro ?_ ?_ | omega))
      · have h1 : ¬ o[(arcs[k].f + 1).toNat] < 1099511627776 := of_decide_eq_false (show decide (o[(arcs[k].f + 1).toNat] < 1099511627776) = false from hc)
        conv => whnf
        refine ⟨_, wrapId ⟨by omega, by omega⟩, ?_⟩
        refine ⟨(k + 1, o, c), ⟨hlt, ?_⟩, by show arcs.length - (k + 1) < arcs.length - k; omega, ?_⟩
        · show ((o, c) : List Int × Bool) = (arcs.take (k + 1)).foldl (fun o l => relO l o) (out, false)
          rw [hst]
          unfold relO
          dsimp only
          rw [ef, et]
          simp [h1]
        conv => whnf
        refine ⟨rfl, ?_⟩
        conv => whnf
        repeat' (first | exact trivial | exact rfl | refine And.intro ?_ ?_ | ((conv => whnf); first | exact trivial | exact rfl | refine And.intro ?_ ?_ | omega))
    have hke : k = arcs.length := by simp at hc; omega
    have hp : passO arcs out = (o, c) := by rw [ho, hke, List.take_length]; rfl
    have hOk2 : OkO n (((r + 1 : Nat) : Int) * (33554432 * arcs.length)) o := hOk.mono (by
      rw [← hBd, Int.natCast_succ, Int.add_mul, hke]; omega)
    have eR : roundsO arcs (n + 2 - r) out = if c then roundsO arcs (n + 2 - (r + 1)) o else some o := by
      rw [show n + 2 - r = (n + 2 - (r + 1)) + 1 from by omega, roundsO, hp]
    conv => whnf
    refine ⟨fun hc => ?_, fun hc => ?_⟩
    · have h0 : c = false := by simpa using hc
      rw [h0] at eR
      have eF : fromF n arcs a = some o := by rw [hF, eR]; rfl
      rw [eF]
      conv => whnf
      repeat' (first | exact trivial | exact rfl | refine And.intro ?_ ?_ | ((conv => whnf); first | exact trivial | exact rfl | refine And.intro ?_ ?_ | omega))
      exact hxl.trans hol.symm
    · have h0 : c = true := by simpa using hc
      rw [h0, if_pos rfl] at eR
      conv => whnf
      refine ⟨_, wrapId ⟨by omega, by omega⟩, ?_⟩
      refine ⟨(r + 1, o), ⟨hlt, hOk2, by rw [hF, eR]⟩, by show n + 2 - (r + 1) < n + 2 - r; omega, ?_⟩
      conv => whnf
      refine ⟨rfl, ?_⟩
      conv => whnf
      repeat' (first | exact trivial | exact rfl | refine And.intro ?_ ?_ | ((conv => whnf); first | exact trivial | exact rfl | refine And.intro ?_ ?_ | omega))
  have hre : r = n + 2 := by have : ¬ (r : Int) ≤ n + 1 := by simpa using hc
                             omega
  have eF : fromF n arcs a = none := by rw [hF, hre, Nat.sub_self]; rfl
  rw [eF]
  conv => whnf
  repeat' (first | exact trivial | exact rfl | refine And.intro ?_ ?_ | ((conv => whnf); first | exact trivial | exact rfl | refine And.intro ?_ ?_ | omega))

end Go.Proofs

namespace Go.Proofs
open Go.Sx

theorem greatest_t (bs : List (Int × Int)) (ls : List Lnk) (a b : Int) (hb1 : bs.length ≤ 1000) (hB : BoxB bs) (hl : ls.length ≤ 8000) (hok : ∀ l ∈ allF bs ls, ArcOK bs.length l) (ha : -1 ≤ a ∧ a < bs.length) (hb : -1 ≤ b ∧ b < bs.length) :
    Triple Try.prog 83 [sysA bs.length ls.length, iv .i64 a, iv .i64 b] (sysH bs ls) 2 (iv .i64 (greatF bs.length (allF bs ls) a b)) [] := by
  have hT := from_t bs ls a hb1 hB hl hok ha
  cases hfr : fromF bs.length (allF bs ls) a with
  | none =>
    rw [hfr] at hT
    have eG : greatF bs.length (allF bs ls) a b = farI := by unfold greatF; rw [hfr]
    rw [eG]
    refine triple_of tB_ok Try.func83 rfl Try.call83 rfl ?_
    intro ρ w hH
    conv => whnf
    refine call_step hT rfl rfl ?_
    conv => whnf
    refine ⟨(by repeat' (first | exact trivial | exact rfl | refine And.intro ?_ ?_ | ((conv => whnf); first | exact trivial | exact rfl | refine And.intro ?_ ?_ | omega))), (by repeat' (first | exact trivial | exact rfl | refine And.intro ?_ ?_ | ((conv => whnf); first | exact trivial | exact rfl | refine And.intro ?_ ?_ | omega))), ?_⟩
    conv => whnf
    refine ⟨fun hc => ?_, fun hc => ?_⟩
    · conv => whnf
      repeat' (first | exact trivial | exact rfl | refine And.intro ?_ ?_ | ((conv => whnf); first | exact trivial | exact rfl | refine And.intro ?_ ?_ | omega))
    · exact absurd hc (by simp)
  | some o =>
    rw [hfr] at hT
    have eG : greatF bs.length (allF bs ls) a b = o.getD (b + 1).toNat 0 := by unfold greatF; rw [hfr]
    have hol := fromF_len hok hfr
    have hi : (b + 1).toNat < o.length := by omega
    rw [eG]
    refine triple_of tB_ok Try.func83 rfl Try.call83 rfl ?_
    intro ρ w hH
    conv => whnf
    refine call_step hT rfl rfl ?_
    conv => whnf
    refine ⟨(by repeat' (first | exact trivial | exact rfl | refine And.intro ?_ ?_ | ((conv => whnf); first | exact trivial | exact rfl | refine And.intro ?_ ?_ | omega))), (by repeat' (first | exact trivial | exact rfl | refine And.intro ?_ ?_ | ((conv => whnf); first | exact trivial | exact rfl | refine And.intro ?_ ?_ | omega))), ?_⟩
    conv => whnf
    refine ⟨fun hc => ?_, fun hc => ?_⟩
    · exact absurd hc (by simp)
    conv => whnf
    refine ⟨b + 1, wrapId (z := b + 1) ⟨by omega, by omega⟩, ?_⟩
    conv => whnf
    refine ⟨(b + 1).toNat, by omega, (by show (b + 1).toNat < o.length; exact hi), hi, ?_⟩
    conv => whnf
    refine ⟨?_, trivial⟩
    show o[(b + 1).toNat] = o.getD (b + 1).toNat 0
    rw [getD_of hi]

theorem agrees_t (bs : List (Int × Int)) (ls : List Lnk) (hb1 : bs.length ≤ 1000) (hB : BoxB bs) (hl : ls.length ≤ 8000) (hok : ∀ l ∈ allF bs ls, ArcOK bs.length l) :
    Triple Try.prog 40 [sysA bs.length ls.length] (sysH bs ls) 2 (bv (fromF bs.length (allF bs ls) (-1)).isSome) [] := by
  refine triple_of tB_ok Try.func40 rfl Try.call40 rfl ?_
  intro ρ w hH
  conv => whnf
  refine call_step (from_t bs ls (-1) hb1 hB hl hok ⟨by omega, by omega⟩) rfl rfl ?_
  conv => whnf
  refine ⟨(by repeat' (first | exact trivial | exact rfl | refine And.intro ?_ ?_ | ((conv => whnf); first | exact trivial | exact rfl | refine And.intro ?_ ?_ | omega))), (by repeat' (first | exact trivial | exact rfl | refine And.intro ?_ ?_ | ((conv => whnf); first | exact trivial | exact rfl | refine And.intro ?_ ?_ | omega))), ?_⟩
  conv => whnf
  repeat' (first | exact trivial | exact rfl | refine And.intro ?_ ?_ | ((conv => whnf); first | exact trivial | exact rfl | refine And.intro ?_ ?_ | omega))

theorem allF_le {bs : List (Int × Int)} {ls : List Lnk} (hs : SysOK bs ls) : (allF bs ls).length ≤ 1680 := by
  have := allF_len bs ls
  have := hs.nb
  have := hs.nl
  omega

theorem graphF_zero (bs : List (Int × Int)) (ls : List Lnk) : graphF bs ls 0 = allF bs ls := by
  unfold graphF
  exact List.filter_eq_self.2 fun l _ => rfl

theorem boxLinks_has {bs : List (Int × Int)} : ∀ {v i : Nat} (h : i < bs.length), (⟨-1, (v + i : Nat), bs[i].2, 0⟩ : Lnk) ∈ boxLinks v bs ∧ (⟨(v + i : Nat), -1, -bs[i].1, 0⟩ : Lnk) ∈ boxLinks v bs := by
  induction bs with
  | nil => intro v i h; simp at h
  | cons b r ih =>
    intro v i h
    cases i with
    | zero => simp [boxLinks]
    | succ i =>
      have := ih (v := v + 1) (i := i) (by simpa using h)
      simp only [boxLinks, List.mem_cons, List.getElem_cons_succ]
      rw [show v + (i + 1) = v + 1 + i from by omega]
      exact ⟨.inr (.inr this.1), .inr (.inr this.2)⟩

theorem hub_graph (bs : List (Int × Int)) (ls : List Lnk) (k : Int) : Hub bs.length (graphF bs ls k) := by
  intro v hv
  have hb := boxLinks_has (bs := bs) (v := 0) hv
  rw [Nat.zero_add] at hb
  have hk : ∀ l : Lnk, l.i = 0 → keeps k l = true := by
    intro l hl
    unfold keeps
    rw [hl]
    by_cases h : k = 0
    · simp [h]
    · have : (0 : Int) ≠ k := fun h2 => h h2.symm
      simp [this]
  refine ⟨⟨_, List.mem_filter.2 ⟨List.mem_append.2 (.inl hb.1), hk _ rfl⟩, ?_, ?_⟩, ⟨_, List.mem_filter.2 ⟨List.mem_append.2 (.inl hb.2), hk _ rfl⟩, ?_, ?_⟩⟩
  · rfl
  · simp only [plc]; rw [if_neg (by omega)]; omega
  · simp only [plc]; rw [if_neg (by omega)]; omega
  · rfl

end Go.Proofs

/-
  Plain lemmas, part 11: the way back from a place to the start, where relaxing has ended. Conditions: none; definitions and plain lemmas.
-/
namespace Go
namespace Proofs

theorem key_befF {n : Nat} {rev : Nat → Bool} {arcs : List Lnk} {k : Nat} {e : Edg} (he : e ∈ edgs n rev 0 arcs) (hk : e.k = (k : Int)) :
    keyE n arcs k = e ∧ befF n arcs k = some e.a ∧ ∃ l, arcs[k / 2]? = some l ∧ ((k % 2 = 0 ∧ e.a = plc n l.f ∧ e.b = plc n l.t ∧ e.w = l.m) ∨ (k % 2 = 1 ∧ rev (k / 2) = true ∧ e.a = plc n l.t ∧ e.b = plc n l.f ∧ e.w = -l.m)) := by
  refine ⟨by rw [← hk]; exact edgs_key e he, ?_⟩
  obtain ⟨j, l, hj, h | ⟨hr, h⟩⟩ := edgs_mem.1 he
  · subst h
    have hk2 : k = 2 * j := by have : 2 * ((0 + j : Nat) : Int) = (k : Int) := hk; omega
    have e1 : k / 2 = j := by omega
    have e2 : k % 2 = 0 := by omega
    unfold befF
    rw [e1, hj, e2]
    exact ⟨rfl, l, rfl, .inl ⟨rfl, rfl, rfl, rfl⟩⟩
  · subst h
    have hk2 : k = 2 * j + 1 := by have : 2 * ((0 + j : Nat) : Int) + 1 = (k : Int) := hk; omega
    have e1 : k / 2 = j := by omega
    have e2 : k % 2 = 1 := by omega
    unfold befF
    rw [e1, hj, e2]
    rw [Nat.zero_add] at hr
    exact ⟨rfl, l, rfl, .inr ⟨rfl, hr, rfl, rfl, rfl⟩⟩

structure Tree (n : Nat) (arcs : List Lnk) (E : List Edg) (src : Nat) (T : Tr) (ts : Nat → Nat) : Prop where
  bf : ∃ r, BF E (n + 1) src r 0 ts T
  fix : Fix E T
  all : ∀ v, v ≤ n → T.there.getD v false = true
  src0 : T.sum.getD src 0 = 0 ∧ T.last.getD src (-1) = -1

theorem tree_of {n : Nat} {rev : Nat → Bool} {arcs : List Lnk} {src k : Nat} (hok : ∀ l ∈ arcs, ArcOK n l) (hub : Hub n arcs) (hs : src ≤ n) (h : (roundsF n rev arcs k (startF n src)).2 = -1) :
    ∃ ts, Tree n arcs (edgs n rev 0 arcs) src (roundsF n rev arcs k (startF n src)).1 ts := by
  obtain ⟨hf, ts, r, hB⟩ := rounds_fix hok hs h
  obtain ⟨hall, hp⟩ := rounds_hub hok hub hs h
  have hlow := hB.low (fun v => (roundsF n rev arcs k (startF n src)).1.sum.getD v 0) hp src hB.so.1 hB.so.2.1
  have h0 := hB.so.2.2.1
  refine ⟨ts, ⟨r, hB⟩, hf, hall, by omega, ?_⟩
  rcases hB.so.2.2.2 with h1 | h1
  · omega
  · exact h1

theorem Tree.pot {n : Nat} {arcs : List Lnk} {E : List Edg} {src : Nat} {T : Tr} {ts : Nat → Nat} (h : Tree n arcs E src T ts) (hE : EOK (n + 1) E) : Pot (fun v => T.sum.getD v 0) E :=
  fix_pot h.fix fun e he => h.all _ (by have := (hE e he).1; omega)

theorem Tree.low {n : Nat} {arcs : List Lnk} {E : List Edg} {src : Nat} {T : Tr} {ts : Nat → Nat} (h : Tree n arcs E src T ts) {q : Nat → Int} (hq : Pot q E) {v : Nat} (hv : v ≤ n) : q v ≤ q src + T.sum.getD v 0 := by
  obtain ⟨r, hB⟩ := h.bf
  exact hB.low q hq v (by omega) (h.all v hv)

theorem nodup_len {N : Nat} {l : List Nat} (hn : l.Nodup) (hl : ∀ x ∈ l, x < N) : l.length ≤ N := by
  rcases Nat.lt_or_ge N l.length with h | h
  · exfalso
    obtain ⟨i, j, hij, hj, he⟩ := pigeon N (fun i => l.getD i 0) (fun i hi => by
      show l.getD i 0 < N
      have : i < l.length := by omega
      rw [List.getD_eq_getElem?_getD, List.getElem?_eq_getElem this]
      exact hl _ (List.getElem_mem this))
    have hi' : i < l.length := by omega
    have hj' : j < l.length := by omega
    simp only [List.getD_eq_getElem?_getD, List.getElem?_eq_getElem hi', List.getElem?_eq_getElem hj', Option.getD_some] at he
    have := List.pairwise_iff_getElem.1 hn i j hi' hj' hij
    exact this he
  · exact h

end Proofs
end Go

namespace Go.Proofs
open Go.Sx

theorem lnk_eq (a b : Lnk) : ([a.f, a.t, a.m, a.i] == [b.f, b.t, b.m, b.i]) = decide (a = b) := by
  cases a; cases b
  rw [Bool.eq_iff_iff]
  simp

theorem known_t (xs : List Lnk) (x : Lnk) (hb : xs.length ≤ 1000000) : Triple Try.prog 134 [.c (.s 0 0 xs.length 4), svL x] [(0, false, .arr (aLink xs))] 1 (bv (decide (x ∈ xs))) [] := by
  refine triple_of tB_ok Try.func134 rfl Try.call134 rfl ?_
  intro ρ w hH
  conv => whnf
  refine loop_step tB_ok (G := Nat) 0 [] (fun i => [(5, iv .i64 i)]) (fun _ => []) (fun i => i ≤ xs.length ∧ ∀ y ∈ xs.take i, y ≠ x) (fun i => xs.length - i) ?_
  conv => whnf
  refine ⟨⟨0, ⟨Nat.zero_le _, by simp⟩, ?_⟩, ?_⟩
  · conv => whnf
    repeat' (first | exact trivial | exact rfl | refine And.intro ?_ ?_ | ((conv => whnf); first | exact trivial | exact rfl | refine And.intro ?_ ?_ | omega))
  intro i hi ρ1 t1 hρ1
  obtain ⟨hi, hn⟩ := hi
  conv => whnf
  refine ⟨fun hc => ?_, fun hc => ?_⟩
  · have hlt : i < xs.length := by simpa using hc
    conv => whnf
    refine ⟨i, rfl, hlt, hlt, ?_⟩
    conv => whnf
    refine ⟨fun hc => ?_, fun hc => ?_⟩
    · have he : xs[i] = x := by
        have := (lnk_eq xs[i] x).symm.trans hc
        exact of_decide_eq_true this
      conv => whnf
      refine ⟨?_, trivial⟩
      show true = decide (x ∈ xs)
      rw [decide_eq_true]
      rw [← he]; exact List.getElem_mem hlt
    · have he : xs[i] ≠ x := by
        have := (lnk_eq xs[i] x).symm.trans hc
        exact of_decide_eq_false this
      conv => whnf
      refine ⟨(i : Int) + 1, wrapId (z := (i : Int) + 1) ⟨by omega, by omega⟩, ?_⟩
      refine ⟨i + 1, ⟨hlt, fun y hy => ?_⟩, by show xs.length - (i + 1) < xs.length - i; omega, ?_⟩
      · rw [take_snoc hlt] at hy
        rcases List.mem_append.1 hy with hy | hy
        · exact hn y hy
        · simp at hy; rw [hy]; exact he
      conv => whnf
      refine ⟨rfl, ?_⟩
      conv => whnf
      repeat' (first | exact trivial | exact rfl | refine And.intro ?_ ?_ | ((conv => whnf); first | exact trivial | exact rfl | refine And.intro ?_ ?_ | omega))
  have hie : i = xs.length := by simp at hc; omega
  subst hie
  rw [List.take_length] at hn
  conv => whnf
  refine ⟨?_, trivial⟩
  show false = decide (x ∈ xs)
  rw [decide_eq_false]
  intro hm
  exact hn x hm rfl

/-- Following a chain of links: the sum and where it ends. -/
def chainF (arcs : List Lnk) : List Lnk → Int → Int → Option (Int × Int)
  | [], at', s => some (s, at')
  | c :: r, at', s => if c ∈ arcs ∧ c.f = at' then chainF arcs r c.t (s + c.m) else none

def chainR (arcs ch : List Lnk) (a b : Int) : Int × Bool := match chainF arcs ch a 0 with
  | some (s, e) => (s, e == b)
  | none => (0, false)

theorem chained_t (bs : List (Int × Int)) (ls ch : List Lnk) (a b : Int) (hs : SysOK bs ls) (hc : ch.length ≤ 3000) :
    Triple Try.prog 99 [sysA bs.length ls.length, iv .i64 a, iv .i64 b, .c (.s 2 0 ch.length 4)] ((2, false, .arr (aLink ch)) :: sysH bs ls) 3 (.tup [.inl (.v (.int .i64 (chainR (allF bs ls) ch a b).1)), .inl (.v (.bool (chainR (allF bs ls) ch a b).2))]) [] := by
  refine triple_of tB_ok Try.func99 rfl Try.call99 rfl ?_
  intro ρ w hH
  conv => whnf
  have hnb := hs.nb
  have hnl := hs.nl
  have hal := allF_le hs
  have hok := allF_ok hs
  refine call_step (refAll_t bs ls (by omega) hs.boxB (by omega)) rfl rfl ?_
  conv => whnf
  refine ⟨(by repeat' (first | exact trivial | exact rfl | refine And.intro ?_ ?_ | ((conv => whnf); first | exact trivial | exact rfl | refine And.intro ?_ ?_ | omega))), (by repeat' (first | exact trivial | exact rfl | refine And.intro ?_ ?_ | ((conv => whnf); first | exact trivial | exact rfl | refine And.intro ?_ ?_ | omega))), ?_⟩
  conv => whnf
  have hR : chainR (allF bs ls) ch a b = match chainF (allF bs ls) ch a 0 with
    | some (s, e) => (s, e == b)
    | none => (0, false) := rfl
  generalize chainR (allF bs ls) ch a b = R at *
  generalize allF bs ls = arcs at *
  refine loop_step tB_ok (G := Nat × Int × Int) 0 [] (fun g => [(13, iv .i64 g.1), (11, iv .i64 g.2.1), (12, iv .i64 g.2.2)]) (fun _ => []) (fun g => g.1 ≤ ch.length ∧ (-(33554432 * (g.1 : Int)) ≤ g.2.1 ∧ g.2.1 ≤ 33554432 * (g.1 : Int)) ∧ chainF arcs ch a 0 = chainF arcs (ch.drop g.1) g.2.2 g.2.1) (fun g => ch.length - g.1) ?_
  conv => whnf
  refine ⟨⟨(0, 0, a), ⟨Nat.zero_le _, ⟨by simp, by simp⟩, rfl⟩, ?_⟩, ?_⟩
  · conv => whnf
    repeat' (first | exact trivial | exact rfl | refine And.intro ?_ ?_ | ((conv => whnf); first | exact trivial | exact rfl | refine And.intro ?_ ?_ | omega))
  rintro ⟨i, s, at'⟩ ⟨hi, hsb, hF⟩ ρ1 t1 hρ1
  have hi : i ≤ ch.length := hi
  have hsb : -(33554432 * (i : Int)) ≤ s ∧ s ≤ 33554432 * (i : Int) := hsb
  have hF : chainF arcs ch a 0 = chainF arcs (ch.drop i) at' s := hF
  dsimp only
  conv => whnf
  refine ⟨fun hc => ?_, fun hc => ?_⟩
  · have hlt : i < ch.length := by simpa using hc
    rw [List.drop_eq_getElem_cons hlt] at hF
    conv => whnf
    refine ⟨i, rfl, hlt, hlt, ?_⟩
    conv => whnf
    refine call_step (known_t arcs ch[i] (by omega)) rfl rfl ?_
    conv => whnf
    refine ⟨(by repeat' (first | exact trivial | exact rfl | refine And.intro ?_ ?_ | ((conv => whnf); first | exact trivial | exact rfl | refine And.intro ?_ ?_ | omega))), (by repeat' (first | exact trivial | exact rfl | refine And.intro ?_ ?_ | ((conv => whnf); first | exact trivial | exact rfl | refine And.intro ?_ ?_ | omega))), ?_⟩
    conv => whnf
    refine ⟨fun hc => ?_, fun hc => ?_⟩
    · have hk : ch[i] ∉ arcs := by simpa using (show (!decide (ch[i] ∈ arcs)) = true from hc)
      have e : R = (0, false) := by rw [hR, hF, chainF, if_neg (fun h => hk h.1)]
      rw [e]
      conv => whnf
      repeat' (first | exact trivial | exact rfl | refine And.intro ?_ ?_ | ((conv => whnf); first | exact trivial | exact rfl | refine And.intro ?_ ?_ | omega))
    have hk : ch[i] ∈ arcs := by simpa using (show (!decide (ch[i] ∈ arcs)) = false from hc)
    conv => whnf
    refine ⟨i, rfl, hlt, hlt, ?_⟩
    conv => whnf
    refine ⟨fun hc => ?_, fun hc => ?_⟩
    · have hf : ch[i].f ≠ at' := by simpa using (show (ch[i].f != at') = true from hc)
      have e : R = (0, false) := by rw [hR, hF, chainF, if_neg (fun h => hf h.2)]
      rw [e]
      conv => whnf
      repeat' (first | exact trivial | exact rfl | refine And.intro ?_ ?_ | ((conv => whnf); first | exact trivial | exact rfl | refine And.intro ?_ ?_ | omega))
    have hf : ch[i].f = at' := by simpa using (show (ch[i].f != at') = false from hc)
    have hm := (hok _ hk).2.2
    rw [chainF, if_pos ⟨hk, hf⟩] at hF
    conv => whnf
    refine ⟨i, rfl, hlt, hlt, ?_⟩
    conv => whnf
    refine ⟨s + ch[i].m, wrapId (z := s + ch[i].m) ⟨by omega, by omega⟩, ?_⟩
    conv => whnf
    refine ⟨i, rfl, hlt, hlt, ?_⟩
    conv => whnf
    refine ⟨(i : Int) + 1, wrapId (z := (i : Int) + 1) ⟨by omega, by omega⟩, ?_⟩
    refine ⟨(i + 1, s + ch[i].m, ch[i].t), ⟨hlt, ⟨by show -(33554432 * ((i + 1 : Nat) : Int)) ≤ s + ch[i].m; omega, by show s + ch[i].m ≤ 33554432 * ((i + 1 : Nat) : Int); omega⟩, hF⟩, by show ch.length - (i + 1) < ch.length - i; omega, ?_⟩
    conv => whnf
    refine ⟨rfl, ?_⟩
    conv => whnf
    repeat' (first | exact trivial | exact rfl | refine And.intro ?_ ?_ | ((conv => whnf); first | exact trivial | exact rfl | refine And.intro ?_ ?_ | omega))
  have hie : i = ch.length := by simp at hc; omega
  rw [hie, List.drop_length] at hF
  have e : R = (s, at' == b) := by rw [hR, hF]; rfl
  rw [e]
  conv => whnf
  repeat' (first | exact trivial | exact rfl | refine And.intro ?_ ?_ | ((conv => whnf); first | exact trivial | exact rfl | refine And.intro ?_ ?_ | omega))

end Go.Proofs

namespace Go.Proofs
open Go.Sx

theorem lawProper_t (xs : List Lnk) (hn : (xs.map (·.t)).Nodup) (hb : xs.length ≤ 1000000) : Triple Try.prog 41 [.c (.s 0 0 xs.length 4)] [(0, false, .arr (aLink xs))] 1 (bv true) [] := by
  refine triple_of tB_ok Try.func41 rfl Try.call41 rfl ?_
  intro ρ w hH
  conv => whnf
  refine loop_step tB_ok (G := Nat) 0 [] (fun i => [(3, iv .i64 i)]) (fun _ => []) (fun i => i ≤ xs.length) (fun i => xs.length - i) ?_
  conv => whnf
  refine ⟨⟨0, Nat.zero_le _, ?_⟩, ?_⟩
  · conv => whnf
    repeat' (first | exact trivial | exact rfl | refine And.intro ?_ ?_ | ((conv => whnf); first | exact trivial | exact rfl | refine And.intro ?_ ?_ | omega))
  intro i hi ρ1 t1 hρ1
  conv => whnf
  refine ⟨fun hc => ?_, fun hc => ?_⟩
  · have hlt : i < xs.length := by simpa using hc
    conv => whnf
    refine loop_step tB_ok (G := Nat) 0 [] (fun k => [(4, iv .i64 k)]) (fun _ => []) (fun k => k ≤ i) (fun k => i - k) ?_
    conv => whnf
    refine ⟨⟨0, Nat.zero_le _, ?_⟩, ?_⟩
    · conv => whnf
      repeat' (first | exact trivial | exact rfl | refine And.intro ?_ ?_ | ((conv => whnf); first | exact trivial | exact rfl | refine And.intro ?_ ?_ | omega))
    intro k hk ρ2 t2 hρ2
    conv => whnf
    refine ⟨fun hc => ?_, fun hc => ?_⟩
    · have hki : k < i := by have := of_decide_eq_true (show decide ((k : Int) < i) = true from hc); omega
      have hkl : k < xs.length := by omega
      conv => whnf
      refine ⟨k, rfl, hkl, hkl, ?_⟩
      conv => whnf
      refine ⟨i, rfl, hlt, hlt, ?_⟩
      conv => whnf
      refine ⟨fun hc => ?_, fun hc => ?_⟩
      · exfalso
        have he : xs[k].t = xs[i].t := by simpa using (show (xs[k].t == xs[i].t) = true from hc)
        have := List.pairwise_iff_getElem.1 hn k i (by simpa using hkl) (by simpa using hlt) hki
        simp at this
        exact this he
      conv => whnf
      refine ⟨(k : Int) + 1, wrapId (z := (k : Int) + 1) ⟨by omega, by omega⟩, ?_⟩
      refine ⟨k + 1, hki, by show i - (k + 1) < i - k; omega, ?_⟩
      conv => whnf
      refine ⟨rfl, ?_⟩
      conv => whnf
      repeat' (first | exact trivial | exact rfl | refine And.intro ?_ ?_ | ((conv => whnf); first | exact trivial | exact rfl | refine And.intro ?_ ?_ | omega))
    conv => whnf
    refine ⟨(i : Int) + 1, wrapId (z := (i : Int) + 1) ⟨by omega, by omega⟩, ?_⟩
    refine ⟨i + 1, hlt, by show xs.length - (i + 1) < xs.length - i; omega, ?_⟩
    conv => whnf
    refine ⟨rfl, ?_⟩
    conv => whnf
    repeat' (first | exact trivial | exact rfl | refine And.intro ?_ ?_ | ((conv => whnf); first | exact trivial | exact rfl | refine And.intro ?_ ?_ | omega))
  conv => whnf
  repeat' (first | exact trivial | exact rfl | refine And.intro ?_ ?_ | ((conv => whnf); first | exact trivial | exact rfl | refine And.intro ?_ ?_ | omega))

end Go.Proofs

namespace Go.Proofs
open Go.Sx

/-- A list turned around from both ends, so far. -/
structure RevSt (xs ys : List Lnk) (i : Nat) : Prop where
  len : ys.length = xs.length
  get : ∀ k, k < xs.length → ys[k]? = if k < i ∨ xs.length - i ≤ k then xs[xs.length - 1 - k]? else xs[k]?

theorem RevSt.zero (xs : List Lnk) : RevSt xs xs 0 := ⟨rfl, fun k hk => by rw [if_neg (by omega)]⟩

theorem RevSt.done {xs ys : List Lnk} {i : Nat} (h : RevSt xs ys i) (hi : ¬ (i : Int) < (xs.length : Int) - 1 - i) : ys = xs.reverse := by
  refine List.ext_getElem? fun k => ?_
  rcases Nat.lt_or_ge k xs.length with hk | hk
  · rw [List.getElem?_reverse hk, h.get k hk]
    split
    · rfl
    · congr 1; omega
  · rw [List.getElem?_eq_none (by rw [h.len]; exact hk), List.getElem?_eq_none (by simp; exact hk)]

theorem RevSt.step {xs ys : List Lnk} {i j : Nat} (h : RevSt xs ys i) (hij : i < j) (hj : j + 1 + i = xs.length) (h1 : i < ys.length) (h2 : j < ys.length) : RevSt xs ((ys.set i ys[j]).set j ys[i]) (i + 1) := by
  refine ⟨by simp [h.len], fun k hk => ?_⟩
  have gi := h.get i (by omega)
  have gj := h.get j (by omega)
  rw [if_neg (by omega), List.getElem?_eq_getElem h1] at gi
  rw [if_neg (by omega), List.getElem?_eq_getElem h2] at gj
  rw [List.getElem?_set, List.getElem?_set]
  by_cases hkj : j = k
  · subst hkj
    rw [if_pos rfl, if_pos (by simp; exact h2), if_pos (by omega), gi]
    congr 1; omega
  · rw [if_neg hkj]
    by_cases hki : i = k
    · subst hki
      rw [if_pos rfl, if_pos h1, if_pos (by omega), gj]
      congr 1; omega
    · rw [if_neg hki, h.get k hk]
      by_cases hc : k < i ∨ xs.length - i ≤ k
      · rw [if_pos hc, if_pos (by omega)]
      · rw [if_neg hc, if_neg (by omega)]

theorem reverse_t (xs : List Lnk) (hb : xs.length ≤ 1000000) : Triple Try.prog 106 [.c (.s 0 0 xs.length 4)] [(0, true, .arr (aLink xs))] 1 (.tup []) [(0, true, .arr (aLink xs.reverse))] := by
  refine triple_of tB_ok Try.func106 rfl Try.call106 rfl ?_
  intro ρ w hH
  conv => whnf
  refine ⟨(xs.length : Int) - 1, wrapId (z := (xs.length : Int) - 1) ⟨by omega, by omega⟩, ?_⟩
  conv => whnf
  refine loop_step tB_ok (G := Nat × List Lnk) 0 [] (fun g => [(2, iv .i64 g.1), (3, iv .i64 ((xs.length : Int) - 1 - g.1))]) (fun g => [(0, true, .arr (aLink g.2))]) (fun g => g.1 ≤ xs.length ∧ RevSt xs g.2 g.1) (fun g => xs.length - g.1) ?_
  conv => whnf
  refine ⟨⟨(0, xs), ⟨Nat.zero_le _, RevSt.zero xs⟩, ?_⟩, ?_⟩
  · conv => whnf
    repeat' (first | exact trivial | exact rfl | refine And.intro ?_ ?_ | ((conv => whnf); first | exact trivial | exact rfl | refine And.intro ?_ ?_ | omega))
    all_goals (show (xs.length : Int) - 1 = (xs.length : Int) - 1 - ((0 : Nat) : Int); omega)
  rintro ⟨i, ys⟩ ⟨hi, hR⟩ ρ1 t1 hρ1
  have hi : i ≤ xs.length := hi
  have hR : RevSt xs ys i := hR
  dsimp only
  have hyl := hR.len
  conv => whnf
  refine ⟨fun hc => ?_, fun hc => ?_⟩
  · have hlt : (i : Int) < (xs.length : Int) - 1 - i := of_decide_eq_true (show decide ((i : Int) < (xs.length : Int) - 1 - i) = true from hc)
    obtain ⟨j, hj⟩ : ∃ j : Nat, (xs.length : Int) - 1 - i = j := ⟨((xs.length : Int) - 1 - i).toNat, by omega⟩
    have hij : i < j := by omega
    have hjl : j + 1 + i = xs.length := by omega
    have h1 : i < ys.length := by omega
    have h2 : j < ys.length := by omega
    have hst := hR.step hij hjl h1 h2
    conv => whnf
    refine ⟨j, hj, by omega, h2, ?_⟩
    conv => whnf
    refine ⟨i, rfl, by omega, h1, ?_⟩
    conv => whnf
    refine ⟨i, rfl, by omega, h1, ys[j], rfl, ?_⟩
    conv => whnf
    refine ⟨j, hj, by omega, by show j < (ys.set i ys[j]).length; rw [List.length_set]; exact h2, ys[i], rfl, ?_⟩
    conv => whnf
    refine ⟨(i : Int) + 1, wrapId (z := (i : Int) + 1) ⟨by omega, by omega⟩, ?_⟩
    conv => whnf
    refine ⟨(xs.length : Int) - 1 - i - 1, wrapId (z := (xs.length : Int) - 1 - i - 1) ⟨by omega, by omega⟩, ?_⟩
    refine ⟨(i + 1, (ys.set i ys[j]).set j ys[i]), ⟨by show i + 1 ≤ xs.length; omega, hst⟩, by show xs.length - (i + 1) < xs.length - i; omega, ?_⟩
    conv => whnf
    refine ⟨rfl, ?_⟩
    conv => whnf
    repeat' (first | exact trivial | exact rfl | refine And.intro ?_ ?_ | ((conv => whnf); first | exact trivial | exact rfl | refine And.intro ?_ ?_ | omega))
    all_goals (show (xs.length : Int) - 1 - i - 1 = (xs.length : Int) - 1 - ((i + 1 : Nat) : Int); omega)
  · have hlt : ¬ (i : Int) < (xs.length : Int) - 1 - i := of_decide_eq_false (show decide ((i : Int) < (xs.length : Int) - 1 - i) = false from hc)
    have he := hR.done hlt
    subst he
    conv => whnf
    repeat' (first | exact trivial | exact rfl | refine And.intro ?_ ?_ | ((conv => whnf); first | exact trivial | exact rfl | refine And.intro ?_ ?_ | omega))

end Go.Proofs

/-
  Plain lemmas, part 9: the IDs of links, in increasing order, each once, as the reference implementation finds them. Conditions: none; definitions and plain lemmas.
-/
namespace Go
namespace Proofs

def withoutF (ls : List Lnk) (id : Int) : List Lnk := ls.filter fun l => l.i != id

/-! Increasing lists with the same members are the same. -/

end Proofs
end Go

/-
  Plain lemmas, part 10: sorting and dropping equal neighbours gives an increasing list with the same members. Conditions: none; plain lemmas.
-/
namespace Go
namespace Proofs

end Proofs
end Go

namespace Go
namespace Sx

/-! ### append to no slice -/

end Sx
end Go

namespace Go.Proofs
open Go.Sx

theorem without_len (ls : List Lnk) (id : Int) : (withoutF ls id).length ≤ ls.length := List.length_filter_le _ _

theorem refWithout_t (bs : List (Int × Int)) (ls : List Lnk) (id : Int) (hl : ls.length ≤ 100000) :
    Triple Try.prog 88 [sysA bs.length ls.length, iv .i64 id] (sysH bs ls) 2 (.agg [.s 0 0 bs.length 2, .s 2 0 (withoutF ls id).length 4]) [(2, true, .arr (aLink (withoutF ls id)))] := by
  refine triple_of tB_ok Try.func88 rfl Try.call88 rfl ?_
  intro ρ w hH
  conv => whnf
  refine loop_step tB_ok (G := Nat × List Lnk) 1 [] (fun g => [(6, iv .i64 g.1)]) (fun g => [(4, true, .cells [.s 0 0 bs.length 2, .s 5 0 g.2.length 4]), (5, true, .arr (aLink g.2))]) (fun g => g.1 ≤ ls.length ∧ g.2 = withoutF (ls.take g.1) id) (fun g => ls.length - g.1) ?_
  conv => whnf
  refine ⟨⟨(0, []), ⟨Nat.zero_le _, rfl⟩, ?_⟩, ?_⟩
  · conv => whnf
    repeat' (first | exact trivial | exact rfl | refine And.intro ?_ ?_ | ((conv => whnf); first | exact trivial | exact rfl | refine And.intro ?_ ?_ | omega))
  rintro ⟨i, xs⟩ ⟨hi, hxs⟩ ρ1 t1 hρ1
  have hi : i ≤ ls.length := hi
  have hxs : xs = withoutF (ls.take i) id := hxs
  have hxl : xs.length ≤ ls.length := by rw [hxs]; refine Nat.le_trans (without_len _ _) ?_; rw [List.length_take]; omega
  dsimp only
  conv => whnf
  refine ⟨fun hc => ?_, fun hc => ?_⟩
  · have hlt : i < ls.length := by simpa using hc
    have hst : withoutF (ls.take (i + 1)) id = xs ++ (if ls[i].i != id then [ls[i]] else []) := by
      unfold withoutF at *
      rw [filter_take_succ hlt, ← hxs]
    conv => whnf
    refine ⟨i, rfl, hlt, hlt, ?_⟩
    conv => whnf
    refine ⟨fun hc => ?_, fun hc => ?_⟩
    · have hne : (ls[i].i != id) = true := hc
      rw [hne, if_pos rfl] at hst
      conv => whnf
      refine ⟨i, rfl, hlt, hlt, ?_⟩
      conv => whnf
      refine bs_step tB_ok (aLink [ls[i]]) rfl rfl ?_
      conv => whnf
      refine ⟨⟨rfl, ⟨rfl, rfl, rfl, rfl, trivial⟩⟩, ?_⟩
      conv => whnf
      refine app_step tB_ok (aLink xs) [ls[i]] (fun _ => rfl) rfl rfl rfl rfl ?_
      conv => whnf
      refine ⟨⟨rfl, rfl, Nat.le_refl _, Nat.le_refl _, by show (xs.length + 1) * 33 ≤ _; omega⟩, ?_⟩
      conv => whnf
      refine ⟨_, wrapId ⟨by omega, by omega⟩, ?_⟩
      refine ⟨(i + 1, xs ++ [ls[i]]), ⟨hlt, hst.symm⟩, by show ls.length - (i + 1) < ls.length - i; omega, ?_⟩
      conv => whnf
      refine ⟨rfl, ?_⟩
      conv => whnf
      repeat' (first | exact trivial | exact rfl | refine And.intro ?_ ?_ | ((conv => whnf); first | exact trivial | exact rfl | refine And.intro ?_ ?_ | omega))
      all_goals first | exact (congrArg aLink app1 : _) | simp
    · have hne : (ls[i].i != id) = false := hc
      rw [hne, if_neg (by simp), List.append_nil] at hst
      conv => whnf
      refine ⟨_, wrapId ⟨by omega, by omega⟩, ?_⟩
      refine ⟨(i + 1, xs), ⟨hlt, hst.symm⟩, by show ls.length - (i + 1) < ls.length - i; omega, ?_⟩
      conv => whnf
      refine ⟨rfl, ?_⟩
      conv => whnf
      repeat' (first | exact trivial | exact rfl | refine And.intro ?_ ?_ | ((conv => whnf); first | exact trivial | exact rfl | refine And.intro ?_ ?_ | omega))
  have hie : i = ls.length := by simp at hc; omega
  rw [hie, List.take_length] at hxs
  subst hxs
  conv => whnf
  repeat' (first | exact trivial | exact rfl | refine And.intro ?_ ?_ | ((conv => whnf); first | exact trivial | exact rfl | refine And.intro ?_ ?_ | omega))

end Go.Proofs

namespace Go.Proofs
open Go.Sx

end Go.Proofs

namespace Go.Proofs
open Go.Sx

theorem calm_pot {bs : List (Int × Int)} {ls : List Lnk} (hs : SysOK bs ls) (h : Calm bs ls 0) : ∃ q : Nat → Int, ∀ k, PotL bs.length q (graphF bs ls k) := by
  have hp := (rounds_hub (rev := noR) (k := bs.length + 2) (graphF_ok hs 0) (hub_graph bs ls 0) (Nat.le_refl _) h).2
  have hL := potL_iff.2 hp
  refine ⟨fun v => (shortF bs.length noR (graphF bs ls 0) bs.length).1.sum.getD v 0, fun k l hl => hL l ?_⟩
  rw [graphF_zero]
  exact (List.mem_filter.1 hl).1

end Go.Proofs

namespace Go.Proofs
open Go.Sx

theorem shortF_bd (n : Nat) (rev : Nat → Bool) (arcs : List Lnk) (src : Nat) (hn : n ≤ 1000) (hl : arcs.length ≤ 10000) (hok : ∀ l ∈ arcs, ArcOK n l) : ∀ v, -700000000000000 ≤ (shortF n rev arcs src).1.sum.getD v 0 ∧ (shortF n rev arcs src).1.sum.getD v 0 ≤ 700000000000000 := by
  intro v
  have h := shortF_tok n rev arcs src hok
  have hb : ((n + 3 : Nat) : Int) * (67108864 * arcs.length) ≤ 1003 * (67108864 * 10000) := Int.mul_le_mul (by omega) (by omega) (by omega) (by omega)
  by_cases hi : v < (shortF n rev arcs src).1.sum.length
  · have := h.bd _ (getD_mem hi)
    omega
  · rw [List.getD_eq_getElem?_getD, List.getElem?_eq_none (by omega)]
    simp

/-! ### What a way back shows -/

theorem plc_inj {n : Nat} {p q : Int} (hp : -1 ≤ p ∧ p < n) (hq : -1 ≤ q ∧ q < n) (h : plc n p = plc n q) : p = q := by
  unfold plc at h
  split at h <;> split at h <;> omega

end Go.Proofs

namespace Go.Proofs
open Go.Sx

theorem calm_tree {bs : List (Int × Int)} {ls : List Lnk} (hs : SysOK bs ls) (hcalm : Calm bs ls 0) (k : Int) {src : Nat} (hsrc : src ≤ bs.length) :
    (shortF bs.length noRev (graphF bs ls k) src).2 = -1 ∧ ∃ ts, Tree bs.length (graphF bs ls k) (edgs bs.length noR 0 (graphF bs ls k)) src (shortF bs.length noRev (graphF bs ls k) src).1 ts := by
  obtain ⟨q, hq⟩ := calm_pot hs hcalm
  have hr := rounds_pot (rev := noR) (k := bs.length + 2) (graphF_ok hs k) (potL_iff.1 (hq k)) hsrc (by omega)
  exact ⟨hr.1, tree_of (rev := noR) (graphF_ok hs k) (hub_graph bs ls k) hsrc hr.1⟩

end Go.Proofs

/-
  Plain lemmas, part 12: a place that was changed in a late round leads back into a cycle with a negative sum. Conditions: none; definitions and plain lemmas.
-/
namespace Go
namespace Proofs

def wsum (f : Nat → Int) : Nat → Int
  | 0 => 0
  | m + 1 => wsum f m + f m

/-- A cycle that relaxing has met: the way back from a place, by the arcs over which each place was reached; behind n + 1 steps it goes round, M steps each time. -/
structure Cyc (n : Nat) (arcs : List Lnk) (T : Tr) (v : Nat) (P kk : Nat → Nat) (M : Nat) : Prop where
  start : P 0 = v
  le : ∀ m, P m ≤ n
  lst : ∀ m, T.last[P m]? = some ((kk m : Nat) : Int)
  bef : ∀ m, befF n arcs (kk m) = some (P (m + 1))
  lnk : ∀ m, ∃ l, arcs[kk m / 2]? = some l ∧ plc n l.t = P m ∧ plc n l.f = P (m + 1)
  pos : 1 ≤ M
  len : M ≤ n + 1
  per : P (n + 1 + M) = P (n + 1)
  low : ∀ m, 1 ≤ m → m < M → P (n + 1 + m) ≠ P (n + 1)
  nodup : ((List.range M).map fun m => P (n + 1 + m)).Nodup
  neg : wsum (fun m => (arcs.getD (kk (n + 1 + m) / 2) ⟨0, 0, 0, 0⟩).m) M < 0

theorem least (p : Nat → Prop) (h : ∃ m, 1 ≤ m ∧ p m) : ∃ m, 1 ≤ m ∧ p m ∧ ∀ k, 1 ≤ k → k < m → ¬ p k := by
  obtain ⟨m, hm⟩ := h
  induction m using Nat.strongRecOn with
  | ind m ih =>
    by_cases hk : ∃ k, k < m ∧ 1 ≤ k ∧ p k
    · obtain ⟨k, h1, h2⟩ := hk
      exact ih k h1 h2
    · exact ⟨m, hm.1, hm.2, fun k h1 h2 h3 => hk ⟨k, h2, h1, h3⟩⟩

theorem cyc_of {n : Nat} {arcs : List Lnk} {src : Nat} (hok : ∀ l ∈ arcs, ArcOK n l) (hs : src ≤ n) (h : (shortF n noR arcs src).2 ≠ -1) :
    ∃ v P kk M, (shortF n noR arcs src).2 = ((v : Nat) : Int) ∧ v ≤ n ∧ Cyc n arcs (shortF n noR arcs src).1 v P kk M := by
  have hE := edgs_ok (rev := noR) hok
  have hG := edgs_key (n := n) (rev := noR) (arcs := arcs)
  obtain ⟨ts, r, hB, hr⟩ := BF.rounds (n := n) (rev := noR) (arcs := arcs) rfl hE (n + 2) 0 _ _ (BF.start hs)
  have hr : ∃ v, v < n + 1 ∧ (shortF n noR arcs src).2 = ((v : Nat) : Int) ∧ (0 + (n + 2)) * (edgs n noR 0 arcs).length + 1 ≤ ts v := by
    rcases hr with hr | hr
    · exact absurd hr.1 h
    · exact hr
  obtain ⟨v, hv, hch, hts⟩ := hr
  have hB : BF (edgs n noR 0 arcs) (n + 1) src r 0 ts (shortF n noR arcs src).1 := hB
  generalize (shortF n noR arcs src).1 = T at *
  rw [Nat.zero_add] at hts
  have hc := hB.chain hE hG hv hts
  obtain ⟨P, hP⟩ : ∃ P, P = backN (keyE n arcs) T v := ⟨_, rfl⟩
  rw [← hP] at hc
  have hstep : ∀ m, P (m + 1) = backF (keyE n arcs) T (P m) := fun m => by rw [hP]; rfl
  obtain ⟨i, j, hij, hj, he⟩ := pigeon (n + 1) P (fun i hi => (hc i (by omega)).1)
  have hshift : ∀ t, P (i + t) = P (j + t) := by
    intro t
    induction t with
    | zero => exact he
    | succ t ih => rw [show i + (t + 1) = i + t + 1 from rfl, show j + (t + 1) = j + t + 1 from rfl, hstep, hstep, ih]
  have hall : ∀ m, P m < n + 1 ∧ T.last.getD (P m) (-1) ≠ -1 := by
    intro m
    induction m using Nat.strongRecOn with
    | ind m ih =>
      by_cases hm : m ≤ n + 2
      · exact ⟨(hc m hm).1, (hc m hm).2.2⟩
      · have e : P m = P (m - (j - i)) := by
          have := hshift (m - j)
          rw [show i + (m - j) = m - (j - i) from by omega, show j + (m - j) = m from by omega] at this
          exact this.symm
        rw [e]
        exact ih _ (by omega)
  have hback := fun m => hB.back hG (hall m).1 (hall m).2
  obtain ⟨kk, hkk⟩ : ∃ kk : Nat → Nat, ∀ m, kk m = (T.last.getD (P m) (-1)).toNat := ⟨fun m => (T.last.getD (P m) (-1)).toNat, fun m => rfl⟩
  have hkk2 : ∀ m, T.last.getD (P m) (-1) = ((kk m : Nat) : Int) := by
    intro m
    obtain ⟨g1, g2, _⟩ := hback m
    have := (hE _ g1).2.2
    rw [g2] at this
    rw [hkk]; omega
  have hkey : ∀ m, keyE n arcs (kk m) ∈ edgs n noR 0 arcs ∧ (keyE n arcs (kk m)).k = (kk m : Int) ∧ (keyE n arcs (kk m)).b = P m ∧ (keyE n arcs (kk m)).a = P (m + 1) := by
    intro m
    obtain ⟨g1, g2, g3, _⟩ := hback m
    rw [hkk2 m] at g1 g2 g3
    refine ⟨g1, g2, g3, ?_⟩
    rw [hstep]; unfold backF; rw [hkk2 m]
  have hlnk : ∀ m, ∃ l, arcs[kk m / 2]? = some l ∧ plc n l.t = P m ∧ plc n l.f = P (m + 1) ∧ (keyE n arcs (kk m)).w = l.m := by
    intro m
    obtain ⟨h1, h2, h3, h4⟩ := hkey m
    obtain ⟨_, _, l, hl, h5 | h5⟩ := key_befF h1 h2
    · exact ⟨l, hl, by rw [← h5.2.2.1]; exact h3, by rw [← h5.2.1]; exact h4, h5.2.2.2⟩
    · cases h5.2.1
  obtain ⟨M, hM1, hM2, hM3⟩ := least (fun M => P (n + 1 + M) = P (n + 1)) ⟨j - i, by omega, by
    have := hshift (n + 1 - i)
    rw [show i + (n + 1 - i) = n + 1 from by omega, show j + (n + 1 - i) = n + 1 + (j - i) from by omega] at this
    exact this.symm⟩
  have hsh2 : ∀ x y t, P (n + 1 + x) = P (n + 1 + y) → P (n + 1 + x + t) = P (n + 1 + y + t) := by
    intro x y t hxy
    induction t with
    | zero => exact hxy
    | succ t ih => rw [show n + 1 + x + (t + 1) = n + 1 + x + t + 1 from rfl, show n + 1 + y + (t + 1) = n + 1 + y + t + 1 from rfl, hstep, hstep, ih]
  have hnd : ((List.range M).map fun m => P (n + 1 + m)).Nodup := by
    unfold List.Nodup
    rw [List.pairwise_map, List.pairwise_iff_getElem]
    intro x y hx hy hxy hexy
    simp only [List.getElem_range] at hexy
    have hyM : y < M := by simpa using hy
    have := hsh2 x y (M - y) hexy
    rw [show n + 1 + y + (M - y) = n + 1 + M from by omega, hM2, show n + 1 + x + (M - y) = n + 1 + (x + (M - y)) from by omega] at this
    exact hM3 (x + (M - y)) (by omega) (by omega) this
  refine ⟨v, P, kk, M, hch, by omega, ⟨by rw [hP]; rfl, fun m => by have := (hall m).1; omega, fun m => ?_, fun m => ?_, fun m => ?_, hM1, ?_, hM2, hM3, hnd, ?_⟩⟩
  · have hl : P m < T.last.length := by rw [hB.ll]; exact (hall m).1
    rw [← hkk2 m, List.getD_eq_getElem?_getD, List.getElem?_eq_getElem hl]; rfl
  · obtain ⟨h1, h2, h3, h4⟩ := hkey m
    rw [(key_befF h1 h2).2.1, h4]
  · obtain ⟨l, h1, h2, h3, _⟩ := hlnk m
    exact ⟨l, h1, h2, h3⟩
  · have := nodup_len (N := n + 1) hnd (fun x hx => by
      obtain ⟨m, _, rfl⟩ := List.mem_map.1 hx
      exact (hall _).1)
    simpa using this
  · obtain ⟨Q, hQ⟩ : ∃ Q : Nat → Int, ∀ k, Q k = -wsum (fun m => (arcs.getD (kk (n + 1 + m) / 2) ⟨0, 0, 0, 0⟩).m) (k - (n + 1)) := ⟨fun k => -wsum (fun m => (arcs.getD (kk (n + 1 + m) / 2) ⟨0, 0, 0, 0⟩).m) (k - (n + 1)), fun k => rfl⟩
    have hf := hB.fall hG (v := v) (i := n + 1) (m := M) (Q := Q) (fun k _ _ => by rw [← hP]; exact hall k) (fun k h1 h2 => by
      rw [hQ, hQ, show k + 1 - (n + 1) = (k - (n + 1)) + 1 from by omega]
      show _ ≤ -(wsum (fun m => (arcs.getD (kk (n + 1 + m) / 2) ⟨0, 0, 0, 0⟩).m) (k - (n + 1)) + (arcs.getD (kk (n + 1 + (k - (n + 1))) / 2) ⟨0, 0, 0, 0⟩).m) + (keyE n arcs (T.last.getD (backN (keyE n arcs) T v k) (-1))).w
      rw [show n + 1 + (k - (n + 1)) = k from by omega, ← hP, hkk2 k]
      obtain ⟨l, g1, g2, g3, g4⟩ := hlnk k
      rw [g4, List.getD_eq_getElem?_getD, g1]
      simp only [Option.getD_some]
      omega) hM1
    rw [← hP, hM2, hQ, hQ, show n + 1 + M - (n + 1) = M from by omega, Nat.sub_self] at hf
    simp only [wsum] at hf
    rcases hf with hf | hf
    · omega
    · omega

/-- The links of the first steps round a cycle. -/
def cycL (n : Nat) (arcs : List Lnk) (kk : Nat → Nat) (m : Nat) : List Lnk := (List.range m).map fun i => arcs.getD (kk (n + 1 + i) / 2) ⟨0, 0, 0, 0⟩

theorem cycL_succ (n : Nat) (arcs : List Lnk) (kk : Nat → Nat) (m : Nat) : cycL n arcs kk (m + 1) = cycL n arcs kk m ++ [arcs.getD (kk (n + 1 + m) / 2) ⟨0, 0, 0, 0⟩] := by
  unfold cycL; rw [List.range_succ, List.map_append]; rfl

theorem Cyc.tos {n : Nat} {arcs : List Lnk} {T : Tr} {v : Nat} {P kk : Nat → Nat} {M : Nat} (h : Cyc n arcs T v P kk M) : ((cycL n arcs kk M).reverse.map (·.t)).Nodup := by
  have hmap : ((cycL n arcs kk M).map fun l => plc n l.t) = (List.range M).map fun m => P (n + 1 + m) := by
    unfold cycL
    rw [List.map_map]
    refine List.map_congr_left fun m _ => ?_
    obtain ⟨l, h1, h2, _⟩ := h.lnk (n + 1 + m)
    show plc n (arcs.getD (kk (n + 1 + m) / 2) ⟨0, 0, 0, 0⟩).t = _
    rw [List.getD_eq_getElem?_getD, h1]
    exact h2
  have h2 := h.nodup
  rw [← hmap] at h2
  rw [List.map_reverse]
  unfold List.Nodup at h2 ⊢
  rw [List.pairwise_reverse]
  rw [List.pairwise_map] at h2 ⊢
  exact h2.imp fun hne he => hne (by rw [he])

end Proofs
end Go

