/-
  A part of the proof that a law answers true: lemmas of a symbolic walk, plain functions, or contracts of the functions walked (X3, Pm11, X6, X7, X8, Pm9, Pm10, Sx30, X4, W2, X5, X9, Xa, Pm13, Pm14, Pm15, Xj, Xk, Pm16, Xl, Xm, Xn, Xo, Pm19, B1, Pm20, Pm21). Conditions: none.
-/
import Derived.Test.YtagedjfjcnemoaaGreatPart13
import Derived.Test.YtagedjfjcnemoaaGreatPart11
import Derived.Lib.SlicesCompact
import Derived.Test.YtagedjfjcnemoaaGreatPart06
import Derived.Test.YtagedjfjcnemoaaGreatPart09
set_option maxRecDepth 100000
set_option linter.unusedVariables false
set_option linter.unusedSimpArgs false
namespace Go.Proofs
open Go.Sx

theorem agrees_t (bs : List (Int × Int)) (ls : List Lnk) (hb1 : bs.length ≤ 1000) (hB : BoxB bs) (hl : ls.length ≤ 8000) (hok : ∀ l ∈ allF bs ls, ArcOK bs.length l) :
    Triple Tryz.prog 90 [sysA bs.length ls.length] (sysH bs ls) 2 (bv (fromF bs.length (allF bs ls) (-1)).isSome) [] := by
  refine triple_of tB_ok Tryz.func90 rfl Tryz.call90 rfl ?_
  intro ρ w hH
  conv=>whnf
  refine call_step (from_t bs ls (-1) hb1 hB hl hok ⟨by omega, by omega⟩) rfl rfl ?_
  conv=>whnf
  refine ⟨?_, ?_, ?_⟩
  iterate 2 · repeat' (first | exact trivial | exact rfl | refine And.intro ?_ ?_ | ((conv=>whnf); first | exact trivial | exact rfl | refine And.intro ?_ ?_ | omega))
  conv=>whnf
  repeat' (first | exact trivial | exact rfl | refine And.intro ?_ ?_ | ((conv=>whnf); first | exact trivial | exact rfl | refine And.intro ?_ ?_ | omega))

theorem allF_le {bs : List (Int × Int)} {ls : List Lnk} (hs : SysOK bs ls) : (allF bs ls).length ≤ 1680 := by
  have := allF_len bs ls
  have := hs.nb
  have := hs.nl
  omega

theorem graphF_zero (bs : List (Int × Int)) (ls : List Lnk) : graphF bs ls 0 = allF bs ls := by
  unfold graphF
  exact List.filter_eq_self.2 fun l _ => rfl

theorem boxLinks_has {bs : List (Int × Int)} : ∀ {v i : Nat} (h : i < bs.length), (⟨-1, (v + i : Nat), bs[i].2, 0⟩ : Lnk) ∈ boxLinks v bs ∧ (⟨(v + i : Nat), -1, -bs[i].1, 0⟩ : Lnk) ∈ boxLinks v bs := by
  induction bs with
  | nil => intro v i h; simp at h
  | cons b r ih =>
    intro v i h
    cases i with
    | zero => simp [boxLinks]
    | succ i =>
      have := ih (v := v + 1) (i := i) (by simpa using h)
      simp only [boxLinks, List.mem_cons, List.getElem_cons_succ]
      rw [show v + (i + 1) = v + 1 + i from by omega]
      exact ⟨.inr (.inr this.1), .inr (.inr this.2)⟩

theorem hub_graph (bs : List (Int × Int)) (ls : List Lnk) (k : Int) : Hub bs.length (graphF bs ls k) := by
  intro v hv
  have hb := boxLinks_has (bs := bs) (v := 0) hv
  rw [Nat.zero_add] at hb
  have hk : ∀ l : Lnk, l.i = 0 → keeps k l = true := by
    intro l hl
    unfold keeps
    rw [hl]
    by_cases h : k = 0
    · simp [h]
    · have : (0 : Int) ≠ k := fun h2 => h h2.symm
      simp [this]
  refine ⟨⟨_, List.mem_filter.2 ⟨List.mem_append.2 (.inl hb.1), hk _ rfl⟩, ?_, ?_⟩, ⟨_, List.mem_filter.2 ⟨List.mem_append.2 (.inl hb.2), hk _ rfl⟩, ?_, ?_⟩⟩
  · rfl
  · simp only [plc]; rw [if_neg (by omega)]; omega
  · simp only [plc]; rw [if_neg (by omega)]; omega
  · rfl

end Go.Proofs

/-
  Plain lemmas, part 11: the way back from a place to the start, where relaxing has ended. Conditions: none; definitions and plain lemmas.
-/
namespace Go
namespace Proofs

theorem key_befF {n : Nat} {rev : Nat → Bool} {arcs : List Lnk} {k : Nat} {e : Edg} (he : e ∈ edgs n rev 0 arcs) (hk : e.k = (k : Int)) :
    keyE n arcs k = e ∧ befF n arcs k = some e.a ∧ ∃ l, arcs[k / 2]? = some l ∧ ((k % 2 = 0 ∧ e.a = plc n l.f ∧ e.b = plc n l.t ∧ e.w = l.m) ∨ (k % 2 = 1 ∧ rev (k / 2) = true ∧ e.a = plc n l.t ∧ e.b = plc n l.f ∧ e.w = -l.m)) := by
  refine ⟨by rw [← hk]; exact edgs_key e he, ?_⟩
  obtain ⟨j, l, hj, h | ⟨hr, h⟩⟩ := edgs_mem.1 he
  · subst h
    have hk2 : k = 2 * j := by have : 2 * ((0 + j : Nat) : Int) = (k : Int) := hk; omega
    have e1 : k / 2 = j := by omega
    have e2 : k % 2 = 0 := by omega
    unfold befF
    rw [e1, hj, e2]
    exact ⟨rfl, l, rfl, .inl ⟨rfl, rfl, rfl, rfl⟩⟩
  · subst h
    have hk2 : k = 2 * j + 1 := by have : 2 * ((0 + j : Nat) : Int) + 1 = (k : Int) := hk; omega
    have e1 : k / 2 = j := by omega
    have e2 : k % 2 = 1 := by omega
    unfold befF
    rw [e1, hj, e2]
    rw [Nat.zero_add] at hr
    exact ⟨rfl, l, rfl, .inr ⟨rfl, hr, rfl, rfl, rfl⟩⟩

structure Tree (n : Nat) (arcs : List Lnk) (E : List Edg) (src : Nat) (T : Tr) (ts : Nat → Nat) : Prop where
  bf : ∃ r, BF E (n + 1) src r 0 ts T
  fix : Fix E T
  all : ∀ v, v ≤ n → T.there.getD v false = true
  src0 : T.sum.getD src 0 = 0 ∧ T.last.getD src (-1) = -1

theorem tree_of {n : Nat} {rev : Nat → Bool} {arcs : List Lnk} {src k : Nat} (hok : ∀ l ∈ arcs, ArcOK n l) (hub : Hub n arcs) (hs : src ≤ n) (h : (roundsF n rev arcs k (startF n src)).2 = -1) :
    ∃ ts, Tree n arcs (edgs n rev 0 arcs) src (roundsF n rev arcs k (startF n src)).1 ts := by
  obtain ⟨hf, ts, r, hB⟩ := rounds_fix hok hs h
  obtain ⟨hall, hp⟩ := rounds_hub hok hub hs h
  have hlow := hB.low (fun v => (roundsF n rev arcs k (startF n src)).1.sum.getD v 0) hp src hB.so.1 hB.so.2.1
  have h0 := hB.so.2.2.1
  refine ⟨ts, ⟨r, hB⟩, hf, hall, by omega, ?_⟩
  rcases hB.so.2.2.2 with h1 | h1
  · omega
  · exact h1

theorem Tree.pot {n : Nat} {arcs : List Lnk} {E : List Edg} {src : Nat} {T : Tr} {ts : Nat → Nat} (h : Tree n arcs E src T ts) (hE : EOK (n + 1) E) : Pot (fun v => T.sum.getD v 0) E :=
  fix_pot h.fix fun e he => h.all _ (by have := (hE e he).1; omega)

theorem nodup_len {N : Nat} {l : List Nat} (hn : l.Nodup) (hl : ∀ x ∈ l, x < N) : l.length ≤ N := by
  rcases Nat.lt_or_ge N l.length with h | h
  · exfalso
    obtain ⟨i, j, hij, hj, he⟩ := pigeon N (fun i => l.getD i 0) (fun i hi => by
      show l.getD i 0 < N
      have : i < l.length := by omega
      rw [List.getD_eq_getElem?_getD, List.getElem?_eq_getElem this]
      exact hl _ (List.getElem_mem this))
    have hi' : i < l.length := by omega
    have hj' : j < l.length := by omega
    simp only [List.getD_eq_getElem?_getD, List.getElem?_eq_getElem hi', List.getElem?_eq_getElem hj', Option.getD_some] at he
    have := List.pairwise_iff_getElem.1 hn i j hi' hj' hij
    exact this he
  · exact h

end Proofs
end Go

namespace Go.Proofs
open Go.Sx

end Go.Proofs

namespace Go.Proofs
open Go.Sx

def valI (pt : List Int) (i : Int) : Int := if i < 0 then 0 else max (-1099511627776) (min 1099511627776 (pt.getD i.toNat 0))

theorem value_t (pt : List Int) (i : Int) (hi : i < pt.length) : Triple Tryz.prog 211 [.c (.s 0 0 pt.length 1), iv .i64 i] [(0, false, .arr (aInt pt))] 1 (iv .i64 (valI pt i)) [] := by
  refine triple_of tB_ok Tryz.func211 rfl Tryz.call211 rfl ?_
  intro ρ w hH
  conv=>whnf
  refine ⟨fun hc => ?_, fun hc => ?_⟩
  · have h : i < 0 := by simpa using hc
    conv=>whnf
    refine ⟨?_, trivial⟩
    show (0 : Int) = valI pt i
    rw [valI, if_pos h]
  · have h : ¬ i < 0 := by simpa using hc
    have hn : i.toNat < pt.length := by omega
    conv=>whnf
    refine ⟨i.toNat, by omega, hn, hn, ?_⟩
    conv=>whnf
    refine ⟨?_, trivial⟩
    show _ = valI pt i
    rw [valI, if_neg h, getD_of hn]
    rfl

def violF (pt : List Int) (l : Lnk) : Bool := decide (l.m < valI pt l.t - valI pt l.f)

def allowsF (bs : List (Int × Int)) (ls : List Lnk) (pt : List Int) : Lnk × Bool :=
  if pt.length = bs.length then (match (allF bs ls).find? (violF pt) with
    | some l => (l, false)
    | none => (⟨0, 0, 0, 0⟩, true)) else (⟨0, 0, 0, 0⟩, false)

theorem valI_bd (pt : List Int) (i : Int) : -1099511627776 ≤ valI pt i ∧ valI pt i ≤ 1099511627776 := by
  unfold valI; split <;> omega

theorem find_take {α : Type} {p : α → Bool} {xs : List α} {i : Nat} (h : i < xs.length) (hn : xs.find? p = (xs.drop i).find? p) : xs.find? p = if p xs[i] then some xs[i] else (xs.drop (i + 1)).find? p := by
  rw [hn, List.drop_eq_getElem_cons h, List.find?_cons]
  cases p xs[i] <;> rfl

theorem refAllows_t (bs : List (Int × Int)) (ls : List Lnk) (pt : List Int) (hs : SysOK bs ls) (hp : pt.length ≤ 1000000) :
    Triple Tryz.prog 150 [sysA bs.length ls.length, .c (.s 2 0 pt.length 1)] ((2, false, .arr (aInt pt)) :: sysH bs ls) 3
      (.tup [.inr [.v (.int .i64 (allowsF bs ls pt).1.f), .v (.int .i64 (allowsF bs ls pt).1.t), .v (.int .i64 (allowsF bs ls pt).1.m), .v (.int .i64 (allowsF bs ls pt).1.i)], .inl (.v (.bool (allowsF bs ls pt).2))]) [] := by
  have hR : allowsF bs ls pt = if pt.length = bs.length then (match (allF bs ls).find? (violF pt) with
    | some l => (l, false)
    | none => (⟨0, 0, 0, 0⟩, true)) else (⟨0, 0, 0, 0⟩, false) := rfl
  generalize allowsF bs ls pt = R at *
  have hnb := hs.nb
  have hnl := hs.nl
  have hal := allF_le hs
  have hok := allF_ok hs
  refine triple_of tB_ok Tryz.func150 rfl Tryz.call150 rfl ?_
  intro ρ w hH
  conv=>whnf
  refine ⟨fun hc => ?_, fun hc => ?_⟩
  · have h : ¬ pt.length = bs.length := by have := (by simpa using (show ((pt.length : Int) != bs.length) = true from hc) : ¬ (pt.length : Int) = bs.length); omega
    rw [if_neg h] at hR
    rw [hR]
    conv=>whnf
    repeat' (first | exact trivial | exact rfl | refine And.intro ?_ ?_ | ((conv=>whnf); first | exact trivial | exact rfl | refine And.intro ?_ ?_ | omega))
  have h : pt.length = bs.length := by have := (by simpa using (show ((pt.length : Int) != bs.length) = false from hc) : (pt.length : Int) = bs.length); omega
  rw [if_pos h] at hR
  conv=>whnf
  refine call_step (refAll_t bs ls (by omega) hs.boxB (by omega)) rfl rfl ?_
  conv=>whnf
  refine ⟨?_, ?_, ?_⟩
  iterate 2 · repeat' (first | exact trivial | exact rfl | refine And.intro ?_ ?_ | ((conv=>whnf); first | exact trivial | exact rfl | refine And.intro ?_ ?_ | omega))
  conv=>whnf
  generalize allF bs ls = arcs at *
  refine loop_step tB_ok (G := Nat) 0 [] (fun i => [(7, iv .i64 i)]) (fun _ => []) (fun i => i ≤ arcs.length ∧ arcs.find? (violF pt) = (arcs.drop i).find? (violF pt)) (fun i => arcs.length - i) ?_
  conv=>whnf
  refine ⟨⟨0, ⟨Nat.zero_le _, rfl⟩, ?_⟩, ?_⟩
  · conv=>whnf
    repeat' (first | exact trivial | exact rfl | refine And.intro ?_ ?_ | ((conv=>whnf); first | exact trivial | exact rfl | refine And.intro ?_ ?_ | omega))
  intro i hii ρ1 t1 hρ1
  obtain ⟨hi, hn⟩ := hii
  conv=>whnf
  refine ⟨fun hc => ?_, fun hc => ?_⟩
  · have hlt : i < arcs.length := by simpa using hc
    obtain ⟨hf, ht, hm⟩ := hok arcs[i] (List.getElem_mem hlt)
    have hb1 := valI_bd pt arcs[i].f
    have hb2 := valI_bd pt arcs[i].t
    have hst := find_take hlt hn
    conv=>whnf
    refine ⟨i, rfl, hlt, hlt, ?_⟩
    conv=>whnf
    refine call_step (value_t pt arcs[i].f (by omega)) rfl rfl ?_
    conv=>whnf
    refine ⟨?_, ?_, ?_⟩
    iterate 2 · repeat' (first | exact trivial | exact rfl | refine And.intro ?_ ?_ | ((conv=>whnf); first | exact trivial | exact rfl | refine And.intro ?_ ?_ | omega))
    conv=>whnf
    refine ⟨i, rfl, hlt, hlt, ?_⟩
    conv=>whnf
    refine call_step (value_t pt arcs[i].t (by omega)) rfl rfl ?_
    conv=>whnf
    refine ⟨?_, ?_, ?_⟩
    iterate 2 · repeat' (first | exact trivial | exact rfl | refine And.intro ?_ ?_ | ((conv=>whnf); first | exact trivial | exact rfl | refine And.intro ?_ ?_ | omega))
    conv=>whnf
    refine ⟨valI pt arcs[i].t - valI pt arcs[i].f, wrapId (z := valI pt arcs[i].t - valI pt arcs[i].f) ⟨by omega, by omega⟩, ?_⟩
    conv=>whnf
    refine ⟨i, rfl, hlt, hlt, ?_⟩
    conv=>whnf
    refine ⟨fun hc => ?_, fun hc => ?_⟩
    · have hv : violF pt arcs[i] = true := hc
      rw [hv, if_pos rfl] at hst
      rw [hst] at hR
      rw [hR]
      conv=>whnf
      refine ⟨i, rfl, hlt, hlt, ?_⟩
      conv=>whnf
      repeat' (first | exact trivial | exact rfl | refine And.intro ?_ ?_ | ((conv=>whnf); first | exact trivial | exact rfl | refine And.intro ?_ ?_ | omega))
    · have hv : violF pt arcs[i] = false := hc
      rw [hv, if_neg (by simp)] at hst
      conv=>whnf
      refine ⟨(i : Int) + 1, wrapId (z := (i : Int) + 1) ⟨by omega, by omega⟩, ?_⟩
      refine ⟨i + 1, ⟨hlt, hst⟩, by show arcs.length - (i + 1) < arcs.length - i; omega, ?_⟩
      conv=>whnf
      refine ⟨rfl, ?_⟩
      conv=>whnf
      repeat' (first | exact trivial | exact rfl | refine And.intro ?_ ?_ | ((conv=>whnf); first | exact trivial | exact rfl | refine And.intro ?_ ?_ | omega))
  have hie : i = arcs.length := by simp at hc; omega
  rw [hie, List.drop_length] at hn
  rw [hn] at hR
  rw [hR]
  conv=>whnf
  repeat' (first | exact trivial | exact rfl | refine And.intro ?_ ?_ | ((conv=>whnf); first | exact trivial | exact rfl | refine And.intro ?_ ?_ | omega))

def atF (pt : List Int) (i : Int) : Int := if i < 0 then 0 else pt.getD i.toNat 0

end Go.Proofs

namespace Go.Proofs
open Go.Sx

structure RevSt (xs ys : List Lnk) (i : Nat) : Prop where
  len : ys.length = xs.length
  get : ∀ k, k < xs.length → ys[k]? = if k < i ∨ xs.length - i ≤ k then xs[xs.length - 1 - k]? else xs[k]?

theorem RevSt.zero (xs : List Lnk) : RevSt xs xs 0 := ⟨rfl, fun k hk => by rw [if_neg (by omega)]⟩

theorem RevSt.done {xs ys : List Lnk} {i : Nat} (h : RevSt xs ys i) (hi : ¬ (i : Int) < (xs.length : Int) - 1 - i) : ys = xs.reverse := by
  refine List.ext_getElem? fun k => ?_
  rcases Nat.lt_or_ge k xs.length with hk | hk
  · rw [List.getElem?_reverse hk, h.get k hk]
    split
    · rfl
    · congr 1; omega
  · rw [List.getElem?_eq_none (by rw [h.len]; exact hk), List.getElem?_eq_none (by simp; exact hk)]

theorem RevSt.step {xs ys : List Lnk} {i j : Nat} (h : RevSt xs ys i) (hij : i < j) (hj : j + 1 + i = xs.length) (h1 : i < ys.length) (h2 : j < ys.length) : RevSt xs ((ys.set i ys[j]).set j ys[i]) (i + 1) := by
  refine ⟨by simp [h.len], fun k hk => ?_⟩
  have gi := h.get i (by omega)
  have gj := h.get j (by omega)
  rw [if_neg (by omega), List.getElem?_eq_getElem h1] at gi
  rw [if_neg (by omega), List.getElem?_eq_getElem h2] at gj
  rw [List.getElem?_set, List.getElem?_set]
  by_cases hkj : j = k
  · subst hkj
    rw [if_pos rfl, if_pos (by simp; exact h2), if_pos (by omega), gi]
    congr 1; omega
  · rw [if_neg hkj]
    by_cases hki : i = k
    · subst hki
      rw [if_pos rfl, if_pos h1, if_pos (by omega), gj]
      congr 1; omega
    · rw [if_neg hki, h.get k hk]
      by_cases hc : k < i ∨ xs.length - i ≤ k
      · rw [if_pos hc, if_pos (by omega)]
      · rw [if_neg hc, if_neg (by omega)]

theorem reverse_t (xs : List Lnk) (hb : xs.length ≤ 1000000) : Triple Tryz.prog 262 [.c (.s 0 0 xs.length 4)] [(0, true, .arr (aLink xs))] 1 (.tup []) [(0, true, .arr (aLink xs.reverse))] := by
  refine triple_of tB_ok Tryz.func262 rfl Tryz.call262 rfl ?_
  intro ρ w hH
  conv=>whnf
  refine ⟨(xs.length : Int) - 1, wrapId (z := (xs.length : Int) - 1) ⟨by omega, by omega⟩, ?_⟩
  conv=>whnf
  refine loop_step tB_ok (G := Nat × List Lnk) 0 [] (fun g => [(2, iv .i64 g.1), (3, iv .i64 ((xs.length : Int) - 1 - g.1))]) (fun g => [(0, true, .arr (aLink g.2))]) (fun g => g.1 ≤ xs.length ∧ RevSt xs g.2 g.1) (fun g => xs.length - g.1) ?_
  conv=>whnf
  refine ⟨⟨(0, xs), ⟨Nat.zero_le _, RevSt.zero xs⟩, ?_⟩, ?_⟩
  · conv=>whnf
    repeat' (first | exact trivial | exact rfl | refine And.intro ?_ ?_ | ((conv=>whnf); first | exact trivial | exact rfl | refine And.intro ?_ ?_ | omega))
    all_goals (show (xs.length : Int) - 1 = (xs.length : Int) - 1 - ((0 : Nat) : Int); omega)
  rintro ⟨i, ys⟩ ⟨hi, hR⟩ ρ1 t1 hρ1
  have hi : i ≤ xs.length := hi
  have hR : RevSt xs ys i := hR
  dsimp only
  have hyl := hR.len
  conv=>whnf
  refine ⟨fun hc => ?_, fun hc => ?_⟩
  · have hlt : (i : Int) < (xs.length : Int) - 1 - i := of_decide_eq_true (show decide ((i : Int) < (xs.length : Int) - 1 - i) = true from hc)
    obtain ⟨j, hj⟩ : ∃ j : Nat, (xs.length : Int) - 1 - i = j := ⟨((xs.length : Int) - 1 - i).toNat, by omega⟩
    have hij : i < j := by omega
    have hjl : j + 1 + i = xs.length := by omega
    have h1 : i < ys.length := by omega
    have h2 : j < ys.length := by omega
    have hst := hR.step hij hjl h1 h2
    conv=>whnf
    refine ⟨j, hj, by omega, h2, ?_⟩
    conv=>whnf
    refine ⟨i, rfl, by omega, h1, ?_⟩
    conv=>whnf
    refine ⟨i, rfl, by omega, h1, ys[j], rfl, ?_⟩
    conv=>whnf
    refine ⟨j, hj, by omega, by show j < (ys.set i ys[j]).length; rw [List.length_set]; exact h2, ys[i], rfl, ?_⟩
    conv=>whnf
    refine ⟨(i : Int) + 1, wrapId (z := (i : Int) + 1) ⟨by omega, by omega⟩, ?_⟩
    conv=>whnf
    refine ⟨(xs.length : Int) - 1 - i - 1, wrapId (z := (xs.length : Int) - 1 - i - 1) ⟨by omega, by omega⟩, ?_⟩
    refine ⟨(i + 1, (ys.set i ys[j]).set j ys[i]), ⟨by show i + 1 ≤ xs.length; omega, hst⟩, by show xs.length - (i + 1) < xs.length - i; omega, ?_⟩
    conv=>whnf
    refine ⟨rfl, ?_⟩
    conv=>whnf
    repeat' (first | exact trivial | exact rfl | refine And.intro ?_ ?_ | ((conv=>whnf); first | exact trivial | exact rfl | refine And.intro ?_ ?_ | omega))
    all_goals (show (xs.length : Int) - 1 - i - 1 = (xs.length : Int) - 1 - ((i + 1 : Nat) : Int); omega)
  · have hlt : ¬ (i : Int) < (xs.length : Int) - 1 - i := of_decide_eq_false (show decide ((i : Int) < (xs.length : Int) - 1 - i) = false from hc)
    have he := hR.done hlt
    subst he
    conv=>whnf
    repeat' (first | exact trivial | exact rfl | refine And.intro ?_ ?_ | ((conv=>whnf); first | exact trivial | exact rfl | refine And.intro ?_ ?_ | omega))

end Go.Proofs

/-
  Plain lemmas, part 9: the IDs of links, in increasing order, each once, as the reference implementation finds them. Conditions: none; definitions and plain lemmas.
-/
namespace Go
namespace Proofs

end Proofs
end Go

/-
  Plain lemmas, part 10: sorting and dropping equal neighbours gives an increasing list with the same members. Conditions: none; plain lemmas.
-/
namespace Go
namespace Proofs

end Proofs
end Go

namespace Go
namespace Sx

end Sx
end Go

namespace Go.Proofs
open Go.Sx

end Go.Proofs

namespace Go.Proofs
open Go.Sx

end Go.Proofs

namespace Go.Proofs
open Go.Sx

theorem calm_pot {bs : List (Int × Int)} {ls : List Lnk} (hs : SysOK bs ls) (h : Calm bs ls 0) : ∃ q : Nat → Int, ∀ k, PotL bs.length q (graphF bs ls k) := by
  have hp := (rounds_hub (rev := noR) (k := bs.length + 2) (graphF_ok hs 0) (hub_graph bs ls 0) (Nat.le_refl _) h).2
  have hL := potL_iff.2 hp
  refine ⟨fun v => (shortF bs.length noR (graphF bs ls 0) bs.length).1.sum.getD v 0, fun k l hl => hL l ?_⟩
  rw [graphF_zero]
  exact (List.mem_filter.1 hl).1

end Go.Proofs

namespace Go.Proofs
open Go.Sx

def witF (T : Tr) (n : Nat) : List Int := (List.range n).map fun v => T.sum.getD v 0 - T.sum.getD n 0
def witN (T : Tr) (n i : Nat) : List Int := (List.range n).map fun v => if v < i then T.sum.getD v 0 - T.sum.getD n 0 else 0

theorem witN_set {T : Tr} {n i : Nat} (h : i < n) : (witN T n i).set i (T.sum.getD i 0 - T.sum.getD n 0) = witN T n (i + 1) := by
  refine List.ext_getElem (by simp [witN]) fun k h1 h2 => ?_
  simp only [witN, List.getElem_set, List.getElem_map, List.getElem_range]
  by_cases hk : i = k
  · subst hk; rw [if_pos rfl, if_pos (by omega)]
  · rw [if_neg hk]
    by_cases hk2 : k < i
    · rw [if_pos hk2, if_pos (by omega)]
    · rw [if_neg hk2, if_neg (by omega)]

theorem shortF_bd (n : Nat) (rev : Nat → Bool) (arcs : List Lnk) (src : Nat) (hn : n ≤ 1000) (hl : arcs.length ≤ 10000) (hok : ∀ l ∈ arcs, ArcOK n l) : ∀ v, -700000000000000 ≤ (shortF n rev arcs src).1.sum.getD v 0 ∧ (shortF n rev arcs src).1.sum.getD v 0 ≤ 700000000000000 := by
  intro v
  have h := shortF_tok n rev arcs src hok
  have hb : ((n + 3 : Nat) : Int) * (67108864 * arcs.length) ≤ 1003 * (67108864 * 10000) := Int.mul_le_mul (by omega) (by omega) (by omega) (by omega)
  by_cases hi : v < (shortF n rev arcs src).1.sum.length
  · have := h.bd _ (getD_mem hi)
    omega
  · rw [List.getD_eq_getElem?_getD, List.getElem?_eq_none (by omega)]
    simp

theorem witness_t (bs : List (Int × Int)) (ls : List Lnk) (a b : Int) (hs : SysOK bs ls) (ha : a < bs.length) (hpa : withinF a (-1) (bs.length - 1) = true) (hpb : withinF b (-1) (bs.length - 1) = true) :
    Triple Tryz.prog 72 [.c (.p 0 0 0 0), iv .i64 a, iv .i64 b] (netH bs ls) 3 (.tup [.inl (.s 3 0 (witF (shortF bs.length noRev (graphF bs ls 0) (plc bs.length a)).1 bs.length).length 1), .inl (.v (.int .i64 0))])
      [(3, true, .arr (aInt (witF (shortF bs.length noRev (graphF bs ls 0) (plc bs.length a)).1 bs.length)))] := by
  refine triple_of tB_ok Tryz.func72 rfl Tryz.call72 rfl ?_
  intro ρ w hH
  conv=>whnf
  have hnb := hs.nb
  have hnl := hs.nl
  have hgl := graphF_len hs 0
  refine call_step (isPlace_t bs ls a (by omega)) rfl rfl ?_
  conv=>whnf
  refine ⟨?_, ?_, ?_⟩
  iterate 2 · repeat' (first | exact trivial | exact rfl | refine And.intro ?_ ?_ | ((conv=>whnf); first | exact trivial | exact rfl | refine And.intro ?_ ?_ | omega))
  conv=>whnf
  rw [hpa]
  refine ⟨fun hc => ?_, fun hc => ?_⟩
  · cases hc
  conv=>whnf
  refine call_step (isPlace_t bs ls b (by omega)) rfl rfl ?_
  conv=>whnf
  refine ⟨?_, ?_, ?_⟩
  iterate 2 · repeat' (first | exact trivial | exact rfl | refine And.intro ?_ ?_ | ((conv=>whnf); first | exact trivial | exact rfl | refine And.intro ?_ ?_ | omega))
  conv=>whnf
  rw [hpb]
  refine ⟨fun hc => ?_, fun hc => ?_⟩
  · cases hc
  conv=>whnf
  refine call_step (graphOf_t bs ls 0 (by omega) hs.boxB (by omega)) rfl rfl ?_
  conv=>whnf
  refine ⟨?_, ?_, ?_⟩
  iterate 2 · repeat' (first | exact trivial | exact rfl | refine And.intro ?_ ?_ | ((conv=>whnf); first | exact trivial | exact rfl | refine And.intro ?_ ?_ | omega))
  conv=>whnf
  have hok := graphF_ok hs 0
  generalize graphF bs ls 0 = arcs at *
  generalize bs.length = n at *
  refine call_step (place_t n arcs a) rfl rfl ?_
  conv=>whnf
  refine ⟨?_, ?_, ?_⟩
  iterate 2 · repeat' (first | exact trivial | exact rfl | refine And.intro ?_ ?_ | ((conv=>whnf); first | exact trivial | exact rfl | refine And.intro ?_ ?_ | omega))
  conv=>whnf
  refine call_step (plain_t n arcs (plc n a) (by omega) (by omega) hok (plc_le ha)) rfl rfl ?_
  conv=>whnf
  refine ⟨?_, ?_, ?_⟩
  iterate 2 · repeat' (first | exact trivial | exact rfl | refine And.intro ?_ ?_ | ((conv=>whnf); first | exact trivial | exact rfl | refine And.intro ?_ ?_ | omega))
  conv=>whnf
  have hlen := shortF_len n noRev arcs (plc n a) hok
  have hbd := shortF_bd n noRev arcs (plc n a) (by omega) (by omega) hok
  generalize (shortF n noRev arcs (plc n a)).2 = c2 at *
  generalize (shortF n noRev arcs (plc n a)).1 = T at *
  obtain ⟨hl1, hl2, hl3⟩ := hlen
  refine mks_step tB_ok (aInt (List.replicate n 0)) rfl rfl ?_
  conv=>whnf
  refine ⟨n, ⟨List.length_replicate, by simp, by simp, by show n * 9 ≤ _; omega, fun x hx => ?_⟩, ?_⟩
  · obtain ⟨_, rfl⟩ := List.mem_replicate.1 hx
    conv=>whnf
    repeat' (first | exact trivial | exact rfl | refine And.intro ?_ ?_ | ((conv=>whnf); first | exact trivial | exact rfl | refine And.intro ?_ ?_ | omega))
  conv=>whnf
  have h0 : List.replicate n (0 : Int) = witN T n 0 := by
    refine List.ext_getElem (by simp [witN]) fun k h1 h2 => ?_
    simp [witN]
  have hwl : ∀ i, (witN T n i).length = n := fun i => by simp [witN]
  refine loop_step tB_ok (G := Nat × List Int) 0 [] (fun g => [(43, iv .i64 g.1)]) (fun g => [(9, true, .arr (aInt g.2))]) (fun g => g.1 ≤ n ∧ g.2 = witN T n g.1) (fun g => n - g.1) ?_
  conv=>whnf
  refine ⟨⟨(0, List.replicate n 0), ⟨Nat.zero_le _, h0⟩, ?_⟩, ?_⟩
  · conv=>whnf
    repeat' (first | exact trivial | exact rfl | refine And.intro ?_ ?_ | ((conv=>whnf); first | exact trivial | exact rfl | refine And.intro ?_ ?_ | omega))
  rintro ⟨i, out⟩ ⟨hi, hout⟩ ρ1 t1 hρ1
  have hi : i ≤ n := hi
  have hout : out = witN T n i := hout
  have hol : out.length = n := by rw [hout, hwl]
  dsimp only
  conv=>whnf
  refine ⟨fun hc => ?_, fun hc => ?_⟩
  · have hlt : i < n := by have := of_decide_eq_true (show decide ((i : Int) < n) = true from hc); omega
    have hst := witN_set (T := T) hlt
    rw [← hout] at hst
    have h1 : i < T.sum.length := by omega
    have h2 : n < T.sum.length := by omega
    rw [getD_of h1, getD_of h2] at hst
    have b1 := hbd i
    have b2 := hbd n
    rw [getD_of h1] at b1
    rw [getD_of h2] at b2
    conv=>whnf
    refine ⟨i, rfl, by omega, h1, ?_⟩
    conv=>whnf
    refine ⟨n, rfl, by omega, h2, ?_⟩
    conv=>whnf
    refine ⟨T.sum[i] - T.sum[n], wrapId (z := T.sum[i] - T.sum[n]) ⟨by omega, by omega⟩, ?_⟩
    conv=>whnf
    refine ⟨i, rfl, hlt, by show i < out.length; omega, T.sum[i] - T.sum[n], rfl, ?_⟩
    conv=>whnf
    refine ⟨(i : Int) + 1, wrapId (z := (i : Int) + 1) ⟨by omega, by omega⟩, ?_⟩
    refine ⟨(i + 1, out.set i (T.sum[i] - T.sum[n])), ⟨hlt, hst⟩, by show n - (i + 1) < n - i; omega, ?_⟩
    conv=>whnf
    refine ⟨rfl, ?_⟩
    conv=>whnf
    repeat' (first | exact trivial | exact rfl | refine And.intro ?_ ?_ | ((conv=>whnf); first | exact trivial | exact rfl | refine And.intro ?_ ?_ | omega))
  have hie : i = n := by have := of_decide_eq_false (show decide ((i : Int) < n) = false from hc); omega
  have hfin : out = witF T n := by
    rw [hout, hie]
    refine List.ext_getElem (by simp [witN, witF]) fun k h1 h2 => ?_
    have : k < n := by rw [hwl] at h1; exact h1
    simp [witN, witF, this]
  subst hfin
  conv=>whnf
  repeat' (first | exact trivial | exact rfl | refine And.intro ?_ ?_ | ((conv=>whnf); first | exact trivial | exact rfl | refine And.intro ?_ ?_ | omega))
  all_goals simp [witF]

theorem valI_at {pt : List Int} {i : Int} (h : -1099511627776 ≤ atF pt i ∧ atF pt i ≤ 1099511627776) : valI pt i = atF pt i := by
  unfold valI atF at *
  split
  · rfl
  · rename_i hi
    rw [if_neg hi] at h
    omega

end Go.Proofs

namespace Go.Proofs
open Go.Sx

theorem calm_tree {bs : List (Int × Int)} {ls : List Lnk} (hs : SysOK bs ls) (hcalm : Calm bs ls 0) (k : Int) {src : Nat} (hsrc : src ≤ bs.length) :
    (shortF bs.length noRev (graphF bs ls k) src).2 = -1 ∧ ∃ ts, Tree bs.length (graphF bs ls k) (edgs bs.length noR 0 (graphF bs ls k)) src (shortF bs.length noRev (graphF bs ls k) src).1 ts := by
  obtain ⟨q, hq⟩ := calm_pot hs hcalm
  have hr := rounds_pot (rev := noR) (k := bs.length + 2) (graphF_ok hs k) (potL_iff.1 (hq k)) hsrc (by omega)
  exact ⟨hr.1, tree_of (rev := noR) (graphF_ok hs k) (hub_graph bs ls k) hsrc hr.1⟩

end Go.Proofs

/-
  Plain lemmas, part 13: a flow over the arcs of a system: what it brings to each place, and how a path changes it. Conditions: none; definitions and plain lemmas.
-/
namespace Go
namespace Proofs

def ind (p : Prop) [Decidable p] : Int := if p then 1 else 0

end Proofs
end Go

/-
  Plain lemmas, part 14: the greatest value of a form is found: the flow is carried along cheapest paths until nothing is left. Conditions: none; definitions and plain lemmas.
-/
namespace Go
namespace Proofs

end Proofs
end Go

/-
  Plain lemmas, part 15: the greatest value of a form is what the program's function answers: a flow, its cost, an allowed point at which the form has this value. Conditions: none; definitions and plain lemmas.
-/
namespace Go
namespace Proofs

end Proofs
end Go

namespace Go.Proofs
open Go.Sx

end Go.Proofs

namespace Go.Proofs
open Go.Sx

end Go.Proofs

/-
  Plain lemmas, part 16: the value of a form at a point, its coefficients, and what uses of links show. Conditions: none; definitions and plain lemmas.
-/
namespace Go
namespace Proofs

end Proofs
end Go

namespace Go.Proofs
open Go.Sx

end Go.Proofs

namespace Go.Proofs
open Go.Sx

end Go.Proofs

namespace Go.Proofs
open Go.Sx

end Go.Proofs

namespace Go.Proofs
open Go.Sx

theorem plc_at {n : Nat} {pt : List Int} {i : Int} (hl : pt.length = n) (hi : -1 ≤ i ∧ i < n) : pt.getD (plc n i) 0 = atF pt i := by
  unfold plc atF
  by_cases h : i < 0
  · rw [if_pos h, if_pos h, List.getD_eq_getElem?_getD, List.getElem?_eq_none (by omega)]; rfl
  · rw [if_neg h, if_neg h]

theorem box_arcs {bs : List (Int × Int)} {ls : List Lnk} (hs : SysOK bs ls) {v : Nat} (hv : v < bs.length) :
    (∃ l ∈ allF bs ls, plc bs.length l.f = bs.length ∧ plc bs.length l.t = v ∧ l.m ≤ 16777216) ∧ (∃ l ∈ allF bs ls, plc bs.length l.f = v ∧ plc bs.length l.t = bs.length ∧ l.m ≤ 16777216) := by
  have hb := boxLinks_has (bs := bs) (v := 0) hv
  rw [Nat.zero_add] at hb
  have hbx := hs.box _ (List.getElem_mem hv)
  refine ⟨⟨_, List.mem_append.2 (.inl hb.1), rfl, ?_, hbx.2.2⟩, ⟨_, List.mem_append.2 (.inl hb.2), ?_, rfl, by show -bs[v].1 ≤ 16777216; omega⟩⟩
  · simp only [plc]; rw [if_neg (by omega)]; omega
  · simp only [plc]; rw [if_neg (by omega)]; omega

theorem pot_bd {bs : List (Int × Int)} {ls : List Lnk} {pt : List Int} (hs : SysOK bs ls) (hl : pt.length = bs.length) (hp : PotL bs.length (fun v => pt.getD v 0) (allF bs ls)) : ∀ x ∈ pt, -16777216 ≤ x ∧ x ≤ 16777216 := by
  intro x hx
  obtain ⟨v, hv, rfl⟩ := List.mem_iff_getElem.1 hx
  obtain ⟨⟨l, hl1, a1, a2, a3⟩, ⟨m, hm1, b1, b2, b3⟩⟩ := box_arcs (ls := ls) hs (show v < bs.length by omega)
  have p1 : pt.getD (plc bs.length l.t) 0 ≤ pt.getD (plc bs.length l.f) 0 + l.m := hp l hl1
  have p2 : pt.getD (plc bs.length m.t) 0 ≤ pt.getD (plc bs.length m.f) 0 + m.m := hp m hm1
  have z : pt.getD bs.length 0 = 0 := by rw [List.getD_eq_getElem?_getD, List.getElem?_eq_none (by omega)]; rfl
  rw [a1, a2, z, getD_of hv] at p1
  rw [b1, b2, z, getD_of hv] at p2
  omega

theorem allows_iff {bs : List (Int × Int)} {ls : List Lnk} {pt : List Int} (hs : SysOK bs ls) : (allowsF bs ls pt).2 = true ↔ pt.length = bs.length ∧ PotL bs.length (fun v => pt.getD v 0) (allF bs ls) := by
  unfold allowsF
  have hok := allF_ok hs
  by_cases hl : pt.length = bs.length
  · rw [if_pos hl]
    have hv : (∀ l ∈ allF bs ls, violF pt l = false) ↔ PotL bs.length (fun v => pt.getD v 0) (allF bs ls) := by
      constructor
      · intro h
        have hc : ∀ v, v < bs.length → -16777216 ≤ atF pt v ∧ atF pt v ≤ 16777216 := by
          intro v hv
          obtain ⟨h1, h2⟩ := boxLinks_has (bs := bs) (v := 0) hv
          have hbx := hs.box _ (List.getElem_mem hv)
          have g1 := h _ (List.mem_append.2 (.inl h1))
          have g2 := h _ (List.mem_append.2 (.inl h2))
          rw [Nat.zero_add] at g1 g2
          have e0 : valI pt (-1) = 0 := rfl
          have e1 : valI pt ((v : Nat) : Int) = max (-1099511627776) (min 1099511627776 (pt.getD v 0)) := by
            unfold valI; rw [if_neg (by omega), Int.toNat_natCast]
          have e2 : atF pt ((v : Nat) : Int) = pt.getD v 0 := by unfold atF; rw [if_neg (by omega), Int.toNat_natCast]
          have g1 : decide (bs[v].2 < valI pt ((v : Nat) : Int) - valI pt (-1)) = false := g1
          have g2 : decide (-bs[v].1 < valI pt (-1) - valI pt ((v : Nat) : Int)) = false := g2
          rw [e0, e1, decide_eq_false_iff_not] at g1 g2
          rw [e2]
          omega
        have hat : ∀ i : Int, -1 ≤ i ∧ i < bs.length → valI pt i = atF pt i := fun i hi => by
          refine valI_at ?_
          by_cases h0 : i < 0
          · unfold atF; rw [if_pos h0]; omega
          · have := hc i.toNat (by omega)
            rw [Int.toNat_of_nonneg (by omega)] at this
            omega
        intro l hl2
        obtain ⟨o1, o2, _⟩ := hok l hl2
        have g := h l hl2
        unfold violF at g
        rw [hat _ o1, hat _ o2] at g
        simp only [decide_eq_false_iff_not] at g
        show pt.getD (plc bs.length l.t) 0 ≤ pt.getD (plc bs.length l.f) 0 + l.m
        rw [plc_at hl o1, plc_at hl o2]
        omega
      · intro hp l hl2
        obtain ⟨o1, o2, _⟩ := hok l hl2
        have hb := pot_bd hs hl hp
        have hbd : ∀ i : Int, -1 ≤ i ∧ i < bs.length → valI pt i = atF pt i := fun i hi => by
          refine valI_at ?_
          unfold atF
          by_cases h0 : i < 0
          · rw [if_pos h0]; omega
          · rw [if_neg h0]
            have := hb _ (getD_mem (show i.toNat < pt.length by omega))
            omega
        have g : pt.getD (plc bs.length l.t) 0 ≤ pt.getD (plc bs.length l.f) 0 + l.m := hp l hl2
        rw [plc_at hl o1, plc_at hl o2] at g
        unfold violF
        rw [hbd _ o1, hbd _ o2, decide_eq_false_iff_not]
        omega
    rw [← hv]
    constructor
    · intro h
      refine ⟨hl, fun l hl2 => ?_⟩
      cases hf : (allF bs ls).find? (violF pt) with
      | none =>
        rw [List.find?_eq_none] at hf
        simpa using hf l hl2
      | some x => rw [hf] at h; cases h
    · intro h
      have : (allF bs ls).find? (violF pt) = none := List.find?_eq_none.2 fun l hl2 => by rw [h.2 l hl2]; simp
      rw [this]
  · rw [if_neg hl]
    exact ⟨fun h => by simp at h, fun h => absurd h.1 hl⟩

end Go.Proofs

/-
  Plain lemmas, part 19: the limits of part 8 for greater systems (52 places, 300 arcs). Conditions: none; plain lemmas.
-/
namespace Go
namespace Proofs

theorem from_calmB {n : Nat} {arcs : List Lnk} {o : List Int} {a : Int} (hn : n ≤ 52) (hl : arcs.length ≤ 300) (hok : ∀ l ∈ arcs, ArcOK n l) (ha : -1 ≤ a ∧ a < n) (h : fromF n arcs a = some o) : (shortF n noR arcs (plc n a)).2 = -1 := by
  have hB : ((n + 2 : Nat) : Int) * (67108864 * (arcs.length : Int)) < farI := by
    have : ((n + 2 : Nat) : Int) * (67108864 * (arcs.length : Int)) ≤ 54 * (67108864 * 300) := Int.mul_le_mul (by omega) (by omega) (by omega) (by omega)
    show _ < (1099511627776 : Int)
    omega
  have hr : (roundsF n noR arcs (n + 1) (startF n (plc n a))).2 = -1 := by
    by_cases hc : (roundsF n noR arcs (n + 1) (startF n (plc n a))).2 = -1
    · exact hc
    · rw [(fromF_some hok ha hB).2 hc] at h; cases h
  have e : shortF n noR arcs (plc n a) = roundsF n noR arcs (n + 1) (startF n (plc n a)) := rounds_more hr
  rw [e]; exact hr

theorem calm_fromB {n : Nat} {arcs : List Lnk} {a : Int} (hn : n ≤ 52) (hl : arcs.length ≤ 300) (hok : ∀ l ∈ arcs, ArcOK n l) (hub : Hub n arcs) (ha : -1 ≤ a ∧ a < n) (h : (shortF n noR arcs (plc n a)).2 = -1) : (fromF n arcs a).isSome = true := by
  have hB : ((n + 2 : Nat) : Int) * (67108864 * (arcs.length : Int)) < farI := by
    have : ((n + 2 : Nat) : Int) * (67108864 * (arcs.length : Int)) ≤ 54 * (67108864 * 300) := Int.mul_le_mul (by omega) (by omega) (by omega) (by omega)
    show _ < (1099511627776 : Int)
    omega
  have hq := (rounds_hub (rev := noR) (k := n + 2) hok hub (plc_le ha.2) h).2
  have hr := rounds_pot (rev := noR) (k := n + 1) hok hq (plc_le ha.2) (Nat.le_refl _)
  obtain ⟨o, ho, _⟩ := (fromF_some hok ha hB).1 hr.1
  rw [ho]; rfl

end Proofs
end Go

namespace Go.Proofs
open Go.Sx

structure Pnt (bs : List (Int × Int)) (ls : List Lnk) (p : List Int) : Prop where
  len : p.length = bs.length
  box : ∀ (v : Nat) (b : Int × Int), bs[v]? = some b → b.1 ≤ p.getD v 0 ∧ p.getD v 0 ≤ b.2
  lnk : ∀ l ∈ ls, atF p l.t - atF p l.f ≤ l.m

theorem boxLinks_cases {l : Lnk} : ∀ {bs : List (Int × Int)} {v : Nat}, l ∈ boxLinks v bs → ∃ i b, bs[i]? = some b ∧ (l = ⟨-1, (v + i : Nat), b.2, 0⟩ ∨ l = ⟨(v + i : Nat), -1, -b.1, 0⟩)
  | [], _, h => by simp [boxLinks] at h
  | b :: r, v, h => by
    simp only [boxLinks, List.mem_cons] at h
    rcases h with rfl | rfl | h
    · exact ⟨0, b, rfl, .inl rfl⟩
    · exact ⟨0, b, rfl, .inr rfl⟩
    · obtain ⟨i, b', h1, h2⟩ := boxLinks_cases h
      refine ⟨i + 1, b', by simpa using h1, ?_⟩
      rw [show v + (i + 1) = v + 1 + i by omega]
      exact h2

theorem pnt_pot {bs : List (Int × Int)} {ls : List Lnk} {p : List Int} (hs : SysOK bs ls) : Pnt bs ls p ↔ p.length = bs.length ∧ PotL bs.length (fun v => p.getD v 0) (allF bs ls) := by
  constructor
  · rintro ⟨h1, h2, h3⟩
    refine ⟨h1, fun l hl => ?_⟩
    obtain ⟨o1, o2, o3⟩ := allF_ok hs l hl
    have hx : atF p l.t - atF p l.f ≤ l.m := by
      rcases List.mem_append.1 hl with hl | hl
      · obtain ⟨i, b, hb, h | h⟩ := boxLinks_cases hl
        · subst h
          have := h2 i b hb
          simp only [atF, Nat.zero_add]
          rw [if_neg (by omega), if_pos (by omega), Int.toNat_natCast]
          omega
        · subst h
          have := h2 i b hb
          simp only [atF, Nat.zero_add]
          rw [if_neg (show ¬ ((i : Nat) : Int) < 0 by omega), if_pos (by omega), Int.toNat_natCast]
          omega
      · exact h3 l hl
    have e1 := plc_at h1 o1
    have e2 := plc_at h1 o2
    show p.getD (plc bs.length l.t) 0 ≤ p.getD (plc bs.length l.f) 0 + l.m
    rw [e1, e2]; omega
  · rintro ⟨h1, h2⟩
    have key : ∀ l ∈ allF bs ls, atF p l.t - atF p l.f ≤ l.m := by
      intro l hl
      obtain ⟨o1, o2, o3⟩ := allF_ok hs l hl
      have h := h2 l hl
      have h : p.getD (plc bs.length l.t) 0 ≤ p.getD (plc bs.length l.f) 0 + l.m := h
      rw [plc_at h1 o1, plc_at h1 o2] at h
      omega
    refine ⟨h1, fun v b hb => ?_, fun l hl => key l (List.mem_append.2 (.inr hl))⟩
    obtain ⟨hv, rfl⟩ := List.getElem?_eq_some_iff.1 hb
    obtain ⟨b1, b2⟩ := boxLinks_has (bs := bs) (v := 0) hv
    have k1 := key _ (List.mem_append.2 (.inl b1))
    have k2 := key _ (List.mem_append.2 (.inl b2))
    simp only [atF, Nat.zero_add] at k1 k2
    rw [if_neg (by omega), if_pos (by omega), Int.toNat_natCast] at k1
    rw [if_pos (by omega), if_neg (by omega), Int.toNat_natCast] at k2
    omega

theorem pnt_allows {bs : List (Int × Int)} {ls : List Lnk} {p : List Int} (hs : SysOK bs ls) : Pnt bs ls p ↔ (allowsF bs ls p).2 = true := (pnt_pot hs).trans (allows_iff hs).symm

theorem treeS {bs : List (Int × Int)} {ls : List Lnk} (hs : SysOK bs ls) (hc : Calm bs ls 0) {a : Int} (ha : a < bs.length) :
    ∃ ts, Tree bs.length (graphF bs ls 0) (edgs bs.length noR 0 (graphF bs ls 0)) (plc bs.length a) (shortF bs.length noRev (graphF bs ls 0) (plc bs.length a)).1 ts :=
  (calm_tree hs hc 0 (plc_le ha)).2

theorem getD_rangeS (n : Nat) (f : Nat → Int) (v : Nat) (hv : v ≤ n) : ((List.range n).map fun u => f u - f n).getD v 0 = f v - f n := by
  rcases Nat.lt_or_eq_of_le hv with h | h
  · rw [List.getD_eq_getElem?_getD, List.getElem?_map, List.getElem?_range h]; rfl
  · rw [List.getD_eq_getElem?_getD, List.getElem?_eq_none (by simp; omega), h]; simp

theorem wit_pnt {bs : List (Int × Int)} {ls : List Lnk} (hs : SysOK bs ls) (hc : Calm bs ls 0) {a b : Int} (ha : -1 ≤ a ∧ a < bs.length) (hb : -1 ≤ b ∧ b < bs.length) :
    Pnt bs ls (witF (shortF bs.length noRev (graphF bs ls 0) (plc bs.length a)).1 bs.length) ∧
    atF (witF (shortF bs.length noRev (graphF bs ls 0) (plc bs.length a)).1 bs.length) b - atF (witF (shortF bs.length noRev (graphF bs ls 0) (plc bs.length a)).1 bs.length) a = mostF bs.length (graphF bs ls 0) a b := by
  obtain ⟨ts, hT⟩ := treeS hs hc ha.2
  have hq := potL_iff.2 (hT.pot (edgs_ok (graphF_ok hs 0)))
  have hm : mostF bs.length (graphF bs ls 0) a b = (shortF bs.length noRev (graphF bs ls 0) (plc bs.length a)).1.sum.getD (plc bs.length b) 0 := rfl
  have h0 := hT.src0.1
  rw [hm]
  generalize (shortF bs.length noRev (graphF bs ls 0) (plc bs.length a)).1 = T at *
  have hl : (witF T bs.length).length = bs.length := by simp [witF]
  have hg : ∀ v, v ≤ bs.length → (witF T bs.length).getD v 0 = T.sum.getD v 0 - T.sum.getD bs.length 0 := fun v hv => getD_rangeS _ (fun v => T.sum.getD v 0) v hv
  have hpl : ∀ {i : Int}, i < bs.length → plc bs.length i ≤ bs.length := fun {i} hi => plc_le hi
  refine ⟨(pnt_pot hs).2 ⟨hl, fun l hm => ?_⟩, ?_⟩
  · obtain ⟨h1, h2, _⟩ := allF_ok hs l hm
    rw [← graphF_zero] at hm
    have := hq l hm
    have this : T.sum.getD (plc bs.length l.t) 0 ≤ T.sum.getD (plc bs.length l.f) 0 + l.m := this
    show (witF T bs.length).getD (plc bs.length l.t) 0 ≤ (witF T bs.length).getD (plc bs.length l.f) 0 + l.m
    rw [hg _ (hpl (by omega)), hg _ (hpl (by omega))]
    omega
  · rw [← plc_at hl ha, ← plc_at hl hb, hg _ (hpl ha.2), hg _ (hpl hb.2), h0]
    omega

structure FewS (bs : List (Int × Int)) (ls : List Lnk) : Prop where
  nb : bs.length ≤ 52
  nl : 2 * bs.length + ls.length ≤ 300

theorem isSome_calm {bs : List (Int × Int)} {ls : List Lnk} (hs : SysOK bs ls) (hf : FewS bs ls) : (fromF bs.length (allF bs ls) (-1)).isSome = true ↔ Calm bs ls 0 := by
  have hal := allF_len bs ls
  have h1 := hf.nb
  have h2 := hf.nl
  have hl : (allF bs ls).length ≤ 300 := by omega
  have hhub := hub_graph bs ls 0
  rw [graphF_zero] at hhub
  unfold Calm
  rw [graphF_zero]
  constructor
  · intro h
    obtain ⟨o, ho⟩ := Option.isSome_iff_exists.1 h
    exact from_calmB hf.1 hl (allF_ok hs) ⟨by omega, by omega⟩ ho
  · intro h
    exact calm_fromB hf.1 hl (allF_ok hs) hhub (a := -1) ⟨by omega, by omega⟩ h

end Go.Proofs

/-
  Plain lemmas, part 20: lists in a strict order, each element once. Conditions: none; definitions and plain lemmas.
-/
namespace Go
namespace Proofs

structure LtOK {α : Type} (lt : α → α → Bool) : Prop where
  irr : ∀ x, lt x x = false
  tr : ∀ x y z, lt x y = true → lt y z = true → lt x z = true
  tot : ∀ x y, x ≠ y → lt x y = true ∨ lt y x = true

abbrev Inc {α : Type} (lt : α → α → Bool) (l : List α) : Prop := l.Pairwise fun x y => lt x y = true

theorem inc_extG {α : Type} {lt : α → α → Bool} (irr : ∀ x, lt x x = false) (tr : ∀ x y z, lt x y = true → lt y z = true → lt x z = true) : ∀ {a b : List α}, Inc lt a → Inc lt b → (∀ x, x ∈ a ↔ x ∈ b) → a = b
  | [], [], _, _, _ => rfl
  | [], y :: r, _, _, h => by have := (h y).2 (by simp); simp at this
  | x :: r, [], _, _, h => by have := (h x).1 (by simp); simp at this
  | x :: r, y :: q, ha, hb, h => by
    obtain ⟨ha1, ha2⟩ := List.pairwise_cons.1 ha
    obtain ⟨hb1, hb2⟩ := List.pairwise_cons.1 hb
    have hxy : x = y := by
      have h1 := (h x).1 (by simp)
      have h2 := (h y).2 (by simp)
      rcases List.mem_cons.1 h1 with h1 | h1
      · exact h1
      · rcases List.mem_cons.1 h2 with h2 | h2
        · exact h2.symm
        · have := tr _ _ _ (hb1 x h1) (ha1 y h2)
          rw [irr] at this; cases this
    subst hxy
    have : r = q := by
      refine inc_extG irr tr ha2 hb2 fun z => ?_
      constructor
      · intro hz
        rcases List.mem_cons.1 ((h z).1 (List.mem_cons_of_mem _ hz)) with h1 | h1
        · have := ha1 z hz; rw [h1, irr] at this; cases this
        · exact h1
      · intro hz
        rcases List.mem_cons.1 ((h z).2 (List.mem_cons_of_mem _ hz)) with h1 | h1
        · have := hb1 z hz; rw [h1, irr] at this; cases this
        · exact h1
    rw [this]

theorem Inc.nodup {α : Type} {lt : α → α → Bool} (irr : ∀ x, lt x x = false) {l : List α} (h : Inc lt l) : l.Nodup :=
  List.Pairwise.imp (fun {a b} hab => by rintro rfl; rw [irr] at hab; cases hab) h

def insS {α : Type} [DecidableEq α] (lt : α → α → Bool) : List α → α → List α
  | [], x => [x]
  | y :: r, x => if y = x then y :: r else bif lt x y then x :: y :: r else y :: insS lt r x

theorem insS_mem {α : Type} [DecidableEq α] {lt : α → α → Bool} {x z : α} : ∀ {l : List α}, z ∈ insS lt l x ↔ z ∈ l ∨ z = x
  | [] => by simp [insS]
  | y :: r => by
    unfold insS
    by_cases h : y = x
    · rw [if_pos h]
      constructor
      · exact .inl
      · rintro (hz | rfl)
        · exact hz
        · rw [h]; exact List.mem_cons_self ..
    · rw [if_neg h]
      cases hl : lt x y with
      | true =>
        simp only [cond_true, List.mem_cons]
        constructor
        · rintro (h | h | h)
          · exact .inr h
          · exact .inl (.inl h)
          · exact .inl (.inr h)
        · rintro ((h | h) | h)
          · exact .inr (.inl h)
          · exact .inr (.inr h)
          · exact .inl h
      | false =>
        simp only [cond_false, List.mem_cons, insS_mem (l := r)]
        constructor
        · rintro (h | h | h)
          · exact .inl (.inl h)
          · exact .inl (.inr h)
          · exact .inr h
        · rintro ((h | h) | h)
          · exact .inl h
          · exact .inr (.inl h)
          · exact .inr (.inr h)

theorem insS_inc {α : Type} [DecidableEq α] {lt : α → α → Bool} (ok : LtOK lt) {x : α} : ∀ {l : List α}, Inc lt l → Inc lt (insS lt l x)
  | [], _ => by simp [insS]
  | y :: r, h => by
    obtain ⟨h1, h2⟩ := List.pairwise_cons.1 h
    unfold insS
    by_cases hy : y = x
    · rw [if_pos hy]; exact h
    · rw [if_neg hy]
      cases hl : lt x y with
      | true =>
        simp only [cond_true]
        refine List.pairwise_cons.2 ⟨fun z hz => ?_, h⟩
        rcases List.mem_cons.1 hz with rfl | hz
        · exact hl
        · exact ok.tr _ _ _ hl (h1 z hz)
      | false =>
        simp only [cond_false]
        refine List.pairwise_cons.2 ⟨fun z hz => ?_, insS_inc ok h2⟩
        rcases insS_mem.1 hz with hz | rfl
        · exact h1 z hz
        · rcases ok.tot y z hy with h | h
          · exact h
          · rw [h] at hl; cases hl

theorem insS_len {α : Type} [DecidableEq α] {lt : α → α → Bool} {x : α} : ∀ {l : List α}, (insS lt l x).length ≤ l.length + 1
  | [] => by simp [insS]
  | y :: r => by
    have := insS_len (lt := lt) (x := x) (l := r)
    unfold insS
    split
    · simp
    · cases lt x y <;> simp <;> omega

def distS {α : Type} [DecidableEq α] (lt : α → α → Bool) (l : List α) : List α := l.foldl (insS lt) []

theorem distS_gen {α : Type} [DecidableEq α] {lt : α → α → Bool} (ok : LtOK lt) : ∀ (l : List α) {o : List α}, Inc lt o → Inc lt (l.foldl (insS lt) o) ∧ (∀ z, z ∈ l.foldl (insS lt) o ↔ z ∈ o ∨ z ∈ l) ∧ (l.foldl (insS lt) o).length ≤ o.length + l.length
  | [], o, h => ⟨h, fun z => by simp, by simp⟩
  | x :: r, o, h => by
    obtain ⟨h1, h2, h3⟩ := distS_gen ok r (insS_inc ok h (x := x))
    refine ⟨h1, fun z => ?_, ?_⟩
    · simp only [List.foldl_cons]
      rw [h2 z, insS_mem, List.mem_cons]
      constructor
      · rintro ((h | h) | h)
        · exact .inl h
        · exact .inr (.inl h)
        · exact .inr (.inr h)
      · rintro (h | h | h)
        · exact .inl (.inl h)
        · exact .inl (.inr h)
        · exact .inr h
    · have := insS_len (lt := lt) (x := x) (l := o)
      simp only [List.foldl_cons, List.length_cons]
      omega

theorem distS_inc {α : Type} [DecidableEq α] {lt : α → α → Bool} (ok : LtOK lt) (l : List α) : Inc lt (distS lt l) := (distS_gen ok l List.Pairwise.nil).1
theorem distS_mem {α : Type} [DecidableEq α] {lt : α → α → Bool} (ok : LtOK lt) {l : List α} {z : α} : z ∈ distS lt l ↔ z ∈ l := by
  have := (distS_gen ok l (o := []) List.Pairwise.nil).2.1 z
  simpa [distS] using this
theorem distS_len {α : Type} [DecidableEq α] {lt : α → α → Bool} (ok : LtOK lt) (l : List α) : (distS lt l).length ≤ l.length := by
  have := (distS_gen ok l (o := []) List.Pairwise.nil).2.2
  simpa [distS] using this

theorem distS_unique {α : Type} [DecidableEq α] {lt : α → α → Bool} (ok : LtOK lt) {l o : List α} (h : Inc lt o) (hm : ∀ z, z ∈ o ↔ z ∈ l) : o = distS lt l :=
  inc_extG ok.irr ok.tr h (distS_inc ok l) fun z => (hm z).trans (distS_mem ok).symm

def compS {α : Type} [DecidableEq α] : List α → List α
  | [] => []
  | [x] => [x]
  | x :: y :: r => if x = y then compS (y :: r) else x :: compS (y :: r)

theorem compS_mem {α : Type} [DecidableEq α] {z : α} : ∀ {l : List α}, z ∈ compS l ↔ z ∈ l
  | [] => by simp [compS]
  | [x] => by simp [compS]
  | x :: y :: r => by
    unfold compS
    by_cases h : x = y
    · rw [if_pos h, compS_mem, h]; simp
    · rw [if_neg h, List.mem_cons, compS_mem, List.mem_cons, List.mem_cons, List.mem_cons]

theorem compS_inc {α : Type} [DecidableEq α] {lt : α → α → Bool} (ok : LtOK lt) : ∀ {l : List α}, l.Pairwise (fun x y => lt y x = false) → Inc lt (compS l)
  | [], _ => by simp [compS]
  | [x], _ => by simp [compS]
  | x :: y :: r, h => by
    obtain ⟨h1, h2⟩ := List.pairwise_cons.1 h
    unfold compS
    by_cases hxy : x = y
    · rw [if_pos hxy]; exact compS_inc ok h2
    · rw [if_neg hxy]
      refine List.pairwise_cons.2 ⟨fun z hz => ?_, compS_inc ok h2⟩
      have hz := compS_mem.1 hz
      have h3 := h1 z hz
      have h4 : lt x y = true := by
        rcases ok.tot x y hxy with h | h
        · exact h
        · rw [h1 y (by simp)] at h; cases h
      rcases List.mem_cons.1 hz with rfl | hz
      · exact h4
      · have h5 := (List.pairwise_cons.1 h2).1 z hz
        by_cases hyz : y = z
        · rw [← hyz]; exact h4
        · rcases ok.tot y z hyz with h | h
          · exact ok.tr _ _ _ h4 h
          · rw [h5] at h; cases h

def idLt {α : Type} (key : α → Int) (x y : α) : Bool := decide (key x < key y)

theorem idLt_irr {α : Type} (key : α → Int) (x : α) : idLt key x x = false := by simp [idLt]
theorem idLt_tr {α : Type} (key : α → Int) (x y z : α) (h1 : idLt key x y = true) (h2 : idLt key y z = true) : idLt key x z = true := by
  simp [idLt] at *; omega

def insK {α : Type} (key : α → Int) : List α → α → List α
  | [], x => [x]
  | y :: r, x => bif decide (key x < key y) then x :: y :: r else y :: insK key r x

def sortK {α : Type} (key : α → Int) (l : List α) : List α := l.foldl (insK key) []

theorem insK_perm {α : Type} (key : α → Int) (x : α) : ∀ l : List α, (insK key l x).Perm (x :: l)
  | [] => .refl _
  | y :: r => by
    unfold insK
    cases decide (key x < key y) with
    | true => exact .refl _
    | false => exact ((insK_perm key x r).cons y).trans (.swap ..)

theorem sortK_permG {α : Type} (key : α → Int) : ∀ (l o : List α), (l.foldl (insK key) o).Perm (o ++ l)
  | [], o => by simp
  | x :: r, o => by
    refine (sortK_permG key r _).trans ?_
    refine ((insK_perm key x o).append_right r).trans ?_
    rw [List.cons_append]
    exact List.perm_middle.symm

theorem sortK_perm {α : Type} (key : α → Int) (l : List α) : (sortK key l).Perm l := by
  have := sortK_permG key l []
  rw [List.nil_append] at this
  exact this

theorem insK_le {α : Type} (key : α → Int) (x : α) : ∀ {l : List α}, l.Pairwise (fun a b => key a ≤ key b) → (insK key l x).Pairwise (fun a b => key a ≤ key b)
  | [], _ => by simp [insK]
  | y :: r, h => by
    obtain ⟨h1, h2⟩ := List.pairwise_cons.1 h
    unfold insK
    cases hd : decide (key x < key y) with
    | true =>
      have hd : key x < key y := of_decide_eq_true hd
      refine List.pairwise_cons.2 ⟨fun z hz => ?_, h⟩
      rcases List.mem_cons.1 hz with rfl | hz
      · omega
      · have := h1 z hz; omega
    | false =>
      have hd : ¬ key x < key y := of_decide_eq_false hd
      refine List.pairwise_cons.2 ⟨fun z hz => ?_, insK_le key x h2⟩
      rcases List.mem_cons.1 ((insK_perm key x r).mem_iff.1 hz) with rfl | hz
      · omega
      · exact h1 z hz

theorem sortK_leG {α : Type} (key : α → Int) : ∀ (l : List α) {o : List α}, o.Pairwise (fun a b => key a ≤ key b) → (l.foldl (insK key) o).Pairwise (fun a b => key a ≤ key b)
  | [], _, h => h
  | x :: r, _, h => sortK_leG key r (insK_le key x h)

theorem sortK_le {α : Type} (key : α → Int) (l : List α) : (sortK key l).Pairwise (fun a b => key a ≤ key b) := sortK_leG key l List.Pairwise.nil

theorem sortK_inc {α : Type} {key : α → Int} {l : List α} (h : (l.map key).Nodup) : Inc (idLt key) (sortK key l) := by
  have h1 := sortK_le key l
  have h2 : ((sortK key l).map key).Nodup := ((sortK_perm key l).map key).nodup_iff.2 h
  have h3 : (sortK key l).Pairwise fun a b => key a ≠ key b := List.pairwise_map.1 h2
  exact (h1.and h3).imp fun {a b} hab => by simp [idLt]; omega

theorem sortK_unique {α : Type} {key : α → Int} {l o : List α} (h : (l.map key).Nodup) (hp : o.Perm l) (hs : o.Pairwise (fun a b => key a ≤ key b)) : o = sortK key l := by
  have h2 : (o.map key).Nodup := (hp.map key).nodup_iff.2 h
  have h3 : o.Pairwise fun a b => key a ≠ key b := List.pairwise_map.1 h2
  have h4 : Inc (idLt key) o := (hs.and h3).imp fun {a b} hab => by simp [idLt]; omega
  exact inc_extG (idLt_irr key) (idLt_tr key) h4 (sortK_inc h) fun z => (hp.mem_iff).trans (sortK_perm key l).mem_iff.symm

end Proofs
end Go

/-
  Plain lemmas, part 21: readings of balances: what is checked, what they show, objects, moments, corrections, the system. Conditions: none; definitions and plain lemmas.
-/
namespace Go
namespace Proofs

structure Bal where
  id : Int
  half : Int
  lo : Int
  hi : Int
  dr : Int
  cap : Int
  deriving DecidableEq, Inhabited

structure Chk where
  id : Int
  bal : Int
  tick : Int
  mass : Int
  shown : Int
  deriving DecidableEq, Inhabited

structure Ntc where
  id : Int
  bal : Int
  wlo : Int
  whi : Int
  slo : Int
  shi : Int
  deriving DecidableEq, Inhabited

structure Thg where
  lot : Int
  bale : Int
  smp : Int
  st : Int
  deriving DecidableEq, Inhabited

structure Wgh where
  id : Int
  bal : Int
  tick : Int
  o : Thg
  shown : Int
  deriving DecidableEq, Inhabited

structure Mom where
  bal : Int
  tick : Int
  deriving DecidableEq, Inhabited

structure Rd where
  bs : List Bal
  cs : List Chk
  ns : List Ntc
  ws : List Wgh

def balL (x : Bal) : List Int := [x.id, x.half, x.lo, x.hi, x.dr, x.cap]
def chkL (x : Chk) : List Int := [x.id, x.bal, x.tick, x.mass, x.shown]
def ntcL (x : Ntc) : List Int := [x.id, x.bal, x.wlo, x.whi, x.slo, x.shi]
def thgL (x : Thg) : List Int := [x.lot, x.bale, x.smp, x.st]
def wghL (x : Wgh) : List Int := [x.id, x.bal, x.tick, x.o.lot, x.o.bale, x.o.smp, x.o.st, x.shown]
def momL (x : Mom) : List Int := [x.bal, x.tick]

def wMom (w : Wgh) : Mom := ⟨w.bal, w.tick⟩
def cMom (c : Chk) : Mom := ⟨c.bal, c.tick⟩

def insideF (lo hi a b : Int) : Bool := decide (a ≤ lo) && decide (lo ≤ hi) && decide (hi ≤ b)

def validF (b : Bal) : Bool := withinF b.id 1 1099511627776 && (withinF b.half 0 1000 && (insideF b.lo b.hi (-1000000) 1000000 && (withinF b.dr 0 1000 && withinF b.cap 1 10000000)))

def thgF (o : Thg) : Bool := withinF o.lot 1 1099511627776 && (withinF o.bale 1 1099511627776 && (bif (o.st == 1 || o.st == 2) then o.smp == 0 else bif (o.st == 3 || o.st == 4) then withinF o.smp 1 1099511627776 else false))

def zBal : Bal := ⟨0, 0, 0, 0, 0, 0⟩
def findB (bs : List Bal) (id : Int) : Option Bal := bs.find? fun b => b.id == id
def findD (bs : List Bal) (id : Int) : Bal := (findB bs id).getD zBal
def hasB (bs : List Bal) (id : Int) : Bool := (findB bs id).isSome

def chkF (bs : List Bal) (c : Chk) : Bool := hasB bs c.bal && (withinF c.tick 0 1000000 && (withinF c.mass 0 (findD bs c.bal).cap && withinF c.shown 0 10000000))
def ntcF (bs : List Bal) (n : Ntc) : Bool := hasB bs n.bal && (insideF n.wlo n.whi 0 1000000 && insideF n.slo n.shi (-1000000) 1000000)
def wghF (bs : List Bal) (w : Wgh) : Bool := hasB bs w.bal && (withinF w.tick 0 1000000 && (thgF w.o && withinF w.shown 0 10000000))

def errF : List Int → List (Int × Bool) → Int
  | _, [] => 0
  | seen, (i, ok) :: r => bif !ok then 1 else bif seen.contains i then 6 else errF (seen ++ [i]) r

def idOK (i : Int) : Bool := withinF i 1 1099511627776

def balP (b : Bal) : Int × Bool := (b.id, validF b)
def chkP (bs : List Bal) (c : Chk) : Int × Bool := (c.id, idOK c.id && chkF bs c)
def ntcP (bs : List Bal) (n : Ntc) : Int × Bool := (n.id, idOK n.id && ntcF bs n)
def wghP (bs : List Bal) (w : Wgh) : Int × Bool := (w.id, idOK w.id && wghF bs w)

def rdErrs (r : Rd) : List (Int × Bool) := r.cs.map (chkP r.bs) ++ (r.ns.map (ntcP r.bs) ++ r.ws.map (wghP r.bs))

def checkR (r : Rd) : Int :=
  bif decide (8 < r.bs.length) || decide (100 < r.cs.length + r.ns.length + r.ws.length) then 2
  else bif errF [] (r.bs.map balP) == 0 then errF [] (rdErrs r) else errF [] (r.bs.map balP)

theorem errF_zero : ∀ {l : List (Int × Bool)} {seen : List Int}, errF seen l = 0 ↔ (∀ p ∈ l, p.2 = true ∧ p.1 ∉ seen) ∧ (l.map Prod.fst).Nodup
  | [], _ => by simp [errF]
  | (i, ok) :: r, seen => by
    unfold errF
    cases ok with
    | false =>
      simp only [Bool.not_false, cond_true, List.mem_cons, List.map_cons]
      constructor
      · intro h; cases h
      · rintro ⟨h, _⟩; have := (h _ (.inl rfl)).1; cases this
    | true =>
      simp only [Bool.not_true, cond_false]
      cases hc : seen.contains i with
      | true =>
        have hm : i ∈ seen := by simpa using hc
        simp only [cond_true]
        constructor
        · intro h; cases h
        · rintro ⟨h, _⟩; exact absurd hm (h (i, true) (List.mem_cons_self ..)).2
      | false =>
        have hm : i ∉ seen := by simpa using hc
        simp only [cond_false]
        rw [errF_zero (l := r)]
        simp only [List.map_cons, List.nodup_cons, List.mem_cons, List.mem_append, List.mem_singleton, List.mem_map]
        constructor
        · rintro ⟨h1, h2⟩
          refine ⟨?_, ?_, h2⟩
          · rintro p (rfl | hp)
            · exact ⟨rfl, hm⟩
            · exact ⟨(h1 p hp).1, fun hs => (h1 p hp).2 (.inl hs)⟩
          · rintro ⟨p, hp, rfl⟩
            exact (h1 p hp).2 (.inr (.inl rfl))
        · rintro ⟨h1, h2, h3⟩
          refine ⟨fun p hp => ⟨(h1 p (.inr hp)).1, ?_⟩, h3⟩
          rintro (hs | hs | hs)
          · exact (h1 p (.inr hp)).2 hs
          · exact h2 ⟨p, hp, hs⟩
          · cases hs

structure RdOK (r : Rd) : Prop where
  nb : r.bs.length ≤ 8
  nr : r.cs.length + r.ns.length + r.ws.length ≤ 100
  bal : ∀ b ∈ r.bs, validF b = true
  balN : (r.bs.map Bal.id).Nodup
  chk : ∀ c ∈ r.cs, idOK c.id = true ∧ chkF r.bs c = true
  ntc : ∀ n ∈ r.ns, idOK n.id = true ∧ ntcF r.bs n = true
  wgh : ∀ w ∈ r.ws, idOK w.id = true ∧ wghF r.bs w = true
  ids : (r.cs.map Chk.id ++ (r.ns.map Ntc.id ++ r.ws.map Wgh.id)).Nodup

theorem rdErrs_fst (r : Rd) : (rdErrs r).map Prod.fst = r.cs.map Chk.id ++ (r.ns.map Ntc.id ++ r.ws.map Wgh.id) := by
  unfold rdErrs
  rw [List.map_append, List.map_append, List.map_map, List.map_map, List.map_map]
  rfl

theorem checkR_ok {r : Rd} : checkR r = 0 ↔ RdOK r := by
  unfold checkR
  cases hl : (decide (8 < r.bs.length) || decide (100 < r.cs.length + r.ns.length + r.ws.length)) with
  | true =>
    simp only [cond_true]
    refine ⟨fun h => (by cases h), fun h => ?_⟩
    have := h.nb; have := h.nr
    simp at hl; omega
  | false =>
    simp at hl
    simp only [cond_false]
    have hb := errF_zero (l := r.bs.map balP) (seen := [])
    have hr := errF_zero (l := rdErrs r) (seen := [])
    rw [rdErrs_fst] at hr
    have hbi : (r.bs.map balP).map Prod.fst = r.bs.map Bal.id := by rw [List.map_map]; rfl
    rw [hbi] at hb
    by_cases h0 : errF [] (r.bs.map balP) = 0
    · have h0b : (errF [] (r.bs.map balP) == 0) = true := by simpa using h0
      rw [h0b, cond_true, hr]
      obtain ⟨b1, b2⟩ := hb.1 h0
      constructor
      · rintro ⟨h1, h2⟩
        refine ⟨by omega, by omega, fun b hbm => (b1 _ (List.mem_map.2 ⟨b, hbm, rfl⟩)).1, b2, fun c hc => ?_, fun c hc => ?_, fun c hc => ?_, h2⟩
        · have := (h1 (chkP r.bs c) (List.mem_append.2 (.inl (List.mem_map.2 ⟨c, hc, rfl⟩)))).1
          simpa [chkP] using this
        · have := (h1 (ntcP r.bs c) (List.mem_append.2 (.inr (List.mem_append.2 (.inl (List.mem_map.2 ⟨c, hc, rfl⟩)))))).1
          simpa [ntcP] using this
        · have := (h1 (wghP r.bs c) (List.mem_append.2 (.inr (List.mem_append.2 (.inr (List.mem_map.2 ⟨c, hc, rfl⟩)))))).1
          simpa [wghP] using this
      · intro h
        refine ⟨fun p hp => ⟨?_, by simp⟩, h.ids⟩
        rcases List.mem_append.1 hp with hp | hp
        · obtain ⟨c, hc, rfl⟩ := List.mem_map.1 hp
          have := h.chk c hc; simp [chkP, this.1, this.2]
        · rcases List.mem_append.1 hp with hp | hp
          · obtain ⟨c, hc, rfl⟩ := List.mem_map.1 hp
            have := h.ntc c hc; simp [ntcP, this.1, this.2]
          · obtain ⟨c, hc, rfl⟩ := List.mem_map.1 hp
            have := h.wgh c hc; simp [wghP, this.1, this.2]
    · have h0b : (errF [] (r.bs.map balP) == 0) = false := by simpa using h0
      rw [h0b, cond_false]
      refine ⟨fun h => absurd h h0, fun h => absurd ?_ h0⟩
      refine hb.2 ⟨fun p hp => ⟨?_, by simp⟩, h.balN⟩
      obtain ⟨b, hb', rfl⟩ := List.mem_map.1 hp
      exact h.bal b hb'

def canF (b : Bal) (mass shift : Int) : Bool := validF b && (withinF mass 0 b.cap && withinF shift (-1000000) 1000000)
def showingF (b : Bal) (mass shift : Int) : (Int × Int) × Int :=
  bif canF b mass shift then (bif decide (min 10000000 (mass - shift + b.half) < max 0 (mass - shift - b.half)) then ((0, 0), 3) else ((max 0 (mass - shift - b.half), min 10000000 (mass - shift + b.half)), 0)) else ((0, 0), 1)

def thgLt (a b : Thg) : Bool := decide (a.lot < b.lot) || (a.lot == b.lot && (decide (a.bale < b.bale) || (a.bale == b.bale && (decide (a.smp < b.smp) || (a.smp == b.smp && decide (a.st < b.st))))))
def momLt (a b : Mom) : Bool := decide (a.bal < b.bal) || (a.bal == b.bal && decide (a.tick < b.tick))

theorem thgLt_ok : LtOK thgLt where
  irr x := by simp [thgLt]
  tr x y z h1 h2 := by simp [thgLt] at *; omega
  tot x y h := by
    by_cases h1 : thgLt x y = true
    · exact .inl h1
    · refine .inr ?_
      have h1 : thgLt x y = false := by simpa using h1
      have h2 : ¬ (x.lot = y.lot ∧ x.bale = y.bale ∧ x.smp = y.smp ∧ x.st = y.st) := fun ⟨a, b, c, d⟩ => h (by cases x; cases y; simp_all)
      simp [thgLt] at *; omega

theorem momLt_ok : LtOK momLt where
  irr x := by simp [momLt]
  tr x y z h1 h2 := by simp [momLt] at *; omega
  tot x y h := by
    by_cases h1 : momLt x y = true
    · exact .inl h1
    · refine .inr ?_
      have h1 : momLt x y = false := by simpa using h1
      have h2 : ¬ (x.bal = y.bal ∧ x.tick = y.tick) := fun ⟨a, b⟩ => h (by cases x; cases y; simp_all)
      simp [momLt] at *; omega

def objsF (r : Rd) : List Thg := distS thgLt (r.ws.map Wgh.o)
def momsF (r : Rd) (more : List Mom) : List Mom := distS momLt (r.ws.map wMom ++ (r.cs.map cMom ++ more))

theorem objsF_mem {r : Rd} {o : Thg} : o ∈ objsF r ↔ ∃ w ∈ r.ws, w.o = o := by unfold objsF; rw [distS_mem thgLt_ok, List.mem_map]
theorem momsF_mem {r : Rd} {more : List Mom} {m : Mom} : m ∈ momsF r more ↔ (∃ w ∈ r.ws, wMom w = m) ∨ (∃ c ∈ r.cs, cMom c = m) ∨ m ∈ more := by
  unfold momsF; rw [distS_mem momLt_ok, List.mem_append, List.mem_append, List.mem_map, List.mem_map]
theorem objsF_len (r : Rd) : (objsF r).length ≤ r.ws.length := by have := distS_len thgLt_ok (r.ws.map Wgh.o); simpa [objsF] using this
theorem momsF_len (r : Rd) (more : List Mom) : (momsF r more).length ≤ r.ws.length + r.cs.length + more.length := by
  have := distS_len momLt_ok (r.ws.map wMom ++ (r.cs.map cMom ++ more)); simp [momsF] at *; omega

structure Sid where
  lo : Int
  hi : Int
  loI : Int
  hiI : Int
  some : Bool
  deriving DecidableEq

def sideStep (m : Mom) (s : Sid) (n : Ntc) : Sid :=
  bif (n.bal == m.bal) && withinF m.tick n.wlo n.whi then
    { lo := bif !s.some || decide (s.lo < n.slo) then n.slo else s.lo
      loI := bif !s.some || decide (s.lo < n.slo) then n.id else s.loI
      hi := bif !s.some || decide (n.shi < s.hi) then n.shi else s.hi
      hiI := bif !s.some || decide (n.shi < s.hi) then n.id else s.hiI
      some := true }
  else s

def sideF (r : Rd) (m : Mom) : Sid := (sortK Ntc.id r.ns).foldl (sideStep m) ⟨(findD r.bs m.bal).lo, (findD r.bs m.bal).hi, 0, 0, false⟩

def capStep (bs : List Bal) (o : Thg) (n : Int) (w : Wgh) : Int := bif w.o == o then min n (findD bs w.bal).cap else n
def capF (r : Rd) (o : Thg) : Int := r.ws.foldl (capStep r.bs o) 10000000

def plF {α : Type} [DecidableEq α] (l : List α) (x : α) : Int := if x ∈ l then ((l.idxOf x : Nat) : Int) else -1

def boxesR (r : Rd) (os : List Thg) (ms : List Mom) : List (Int × Int) := os.map (fun o => (0, capF r o)) ++ ms.map (fun _ => (-1000000, 1000000))

def wghLs (bs : List Bal) (os : List Thg) (ms : List Mom) (w : Wgh) : List Lnk :=
  [⟨os.length + plF ms (wMom w), plF os w.o, w.shown + (findD bs w.bal).half, w.id⟩, ⟨plF os w.o, os.length + plF ms (wMom w), (findD bs w.bal).half - w.shown, w.id⟩]
def chkLs (bs : List Bal) (os : List Thg) (ms : List Mom) (c : Chk) : List Lnk :=
  [⟨-1, os.length + plF ms (cMom c), c.mass - c.shown + (findD bs c.bal).half, c.id⟩, ⟨os.length + plF ms (cMom c), -1, c.shown + (findD bs c.bal).half - c.mass, c.id⟩]
def momLs (r : Rd) (os : List Thg) (ms : List Mom) (m : Mom) : List Lnk :=
  [⟨-1, os.length + plF ms m, (sideF r m).hi, (sideF r m).hiI⟩, ⟨os.length + plF ms m, -1, -(sideF r m).lo, (sideF r m).loI⟩]
def drfLs (bs : List Bal) (k : Nat) (i : Nat) : List Mom → List Lnk
  | a :: b :: r => (bif a.bal == b.bal then
      [⟨k + i, k + i + 1, min ((findD bs a.bal).dr * (b.tick - a.tick)) 2000000, 0⟩, ⟨k + i + 1, k + i, min ((findD bs a.bal).dr * (b.tick - a.tick)) 2000000, 0⟩] else []) ++ drfLs bs k (i + 1) (b :: r)
  | _ => []
def cvrLs (os : List Thg) (heavy light : Int) (o : Thg) : List Lnk :=
  bif o.st == light && os.contains { o with st := heavy } then [⟨plF os { o with st := heavy }, plF os o, 0, 0⟩] else []

def linksR (r : Rd) (os : List Thg) (ms : List Mom) : List Lnk :=
  (sortK Wgh.id r.ws).flatMap (wghLs r.bs os ms) ++ ((sortK Chk.id r.cs).flatMap (chkLs r.bs os ms) ++ (ms.flatMap (momLs r os ms) ++ (drfLs r.bs os.length 0 ms ++ (os.flatMap (cvrLs os 1 2) ++ os.flatMap (cvrLs os 3 4)))))

def boxR (r : Rd) (more : List Mom) : List (Int × Int) := boxesR r (objsF r) (momsF r more)
def lnkR (r : Rd) (more : List Mom) : List Lnk := linksR r (objsF r) (momsF r more)

end Proofs
end Go

