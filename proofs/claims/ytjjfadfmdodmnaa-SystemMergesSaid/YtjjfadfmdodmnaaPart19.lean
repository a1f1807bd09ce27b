/-
  A part of the proof that a law of dryweightlaw03 answers true: lemmas of a symbolic walk, plain functions, or contracts of the functions walked (Xe, Xf, Xg). Conditions: none.
-/
import Derived.Test.YtjjfadfmdodmnaaPart18
set_option maxRecDepth 100000
namespace Go.Proofs
open Go.Sx

theorem growSpan_t (n : Nat) (hn : n ≤ 1000000) : Triple Try.prog 144 [.c (.v (.slice none 0 0)), iv .i64 n] [] 0 (.c (.s 0 0 0 2)) [(0, true, .arr (aSpan []))] := by
  refine triple_of tB_ok Try.func144 rfl Try.call144 rfl ?_
  intro ρ w hH
  conv => whnf
  refine ⟨fun hc => absurd (of_decide_eq_true (show decide ((n : Int) < 0) = true from hc)) (by omega), fun hc => ?_⟩
  conv => whnf
  refine capNil_step tB_ok rfl rfl rfl rfl ?_
  conv => whnf
  refine ⟨0, rfl, ?_⟩
  conv => whnf
  refine ⟨(n : Int), by show IntKind.i64.wrap ((n : Int) - 0) = n; rw [Int.sub_zero]; exact wrapId ⟨by omega, by omega⟩, ?_⟩
  conv => whnf
  refine ⟨fun hc => ?_, fun hc => ?_⟩
  · have hp : 0 < n := by have := of_decide_eq_true (show decide ((0 : Int) < n) = true from hc); omega
    conv => whnf
    refine capNil_step tB_ok rfl rfl rfl rfl ?_
    conv => whnf
    refine ⟨0, rfl, Nat.le_refl _, ?_⟩
    conv => whnf
    refine ⟨Nat.le_refl _, ?_⟩
    conv => whnf
    refine grow_step tB_ok (aSpan []) rfl rfl rfl rfl rfl ?_
    conv => whnf
    refine ⟨n, ⟨rfl, hp, by show n * 17 ≤ _; omega, rfl⟩, ?_⟩
    conv => whnf
    refine ⟨0, rfl, Nat.zero_le _, ?_⟩
    conv => whnf
    refine ⟨Nat.le_refl _, ?_⟩
    conv => whnf
    repeat' (first | exact trivial | exact rfl | refine And.intro ?_ ?_ | ((conv => whnf); first | exact trivial | exact rfl | refine And.intro ?_ ?_ | omega))
  · conv => whnf
    repeat' (first | exact trivial | exact rfl | refine And.intro ?_ ?_ | ((conv => whnf); first | exact trivial | exact rfl | refine And.intro ?_ ?_ | omega))

theorem concatSpan_t (xs ys : List (Int × Int)) (h1 : xs.length ≤ 100000) (h2 : ys.length ≤ 100000) : Triple Try.prog 114 [.c (.s 0 0 2 1)]
    [(0, false, .arr (aRows 1 [1, 2] [[.s 1 0 xs.length 2], [.s 2 0 ys.length 2]])), (1, false, .arr (aSpan xs)), (2, false, .arr (aSpan ys))] 3 (.c (.s 3 0 (xs ++ ys).length 2)) [(3, true, .arr (aSpan (xs ++ ys)))] := by
  refine triple_of tB_ok Try.func114 rfl Try.call114 rfl ?_
  intro ρ w hH
  conv => whnf
  refine loop_step tB_ok (G := Nat × Int) 0 [] (fun g => [(11, iv .i64 g.1), (3, iv .i64 g.2)]) (fun _ => []) (fun g => (g.1 = 0 ∧ g.2 = 0) ∨ (g.1 = 1 ∧ g.2 = xs.length) ∨ (g.1 = 2 ∧ g.2 = (xs.length : Int) + ys.length)) (fun g => 2 - g.1) ?_
  conv => whnf
  refine ⟨⟨(0, 0), .inl ⟨rfl, rfl⟩, ?_⟩, ?_⟩
  · conv => whnf
    repeat' (first | exact trivial | exact rfl | refine And.intro ?_ ?_ | ((conv => whnf); first | exact trivial | exact rfl | refine And.intro ?_ ?_ | omega))
  rintro ⟨i, tot⟩ hi ρ1 t1 hρ1
  have hi : (i = 0 ∧ tot = 0) ∨ (i = 1 ∧ tot = xs.length) ∨ (i = 2 ∧ tot = (xs.length : Int) + ys.length) := hi
  dsimp only
  rcases hi with ⟨rfl, rfl⟩ | ⟨rfl, rfl⟩ | ⟨rfl, rfl⟩
  · conv => whnf
    refine ⟨fun hc => ?_, fun hc => absurd hc (by decide)⟩
    conv => whnf
    refine ⟨0, rfl, by decide, by show _ < 2; decide, ?_⟩
    conv => whnf
    refine ⟨(xs.length : Int), by show IntKind.i64.wrap ((0 : Int) + xs.length) = xs.length; rw [Int.zero_add]; exact wrapId ⟨by omega, by omega⟩, ?_⟩
    conv => whnf
    refine ⟨fun hc => absurd (of_decide_eq_true hc) (by omega), fun hc => ?_⟩
    conv => whnf
    refine ⟨1, rfl, ?_⟩
    refine ⟨(1, (xs.length : Int)), .inr (.inl ⟨rfl, rfl⟩), by show 2 - 1 < 2 - 0; decide, ?_⟩
    conv => whnf
    refine ⟨rfl, ?_⟩
    conv => whnf
    repeat' (first | exact trivial | exact rfl | refine And.intro ?_ ?_ | ((conv => whnf); first | exact trivial | exact rfl | refine And.intro ?_ ?_ | omega))
  · conv => whnf
    refine ⟨fun hc => ?_, fun hc => absurd hc (by decide)⟩
    conv => whnf
    refine ⟨1, rfl, by decide, by show _ < 2; decide, ?_⟩
    conv => whnf
    refine ⟨(xs.length : Int) + ys.length, wrapId ⟨by omega, by omega⟩, ?_⟩
    conv => whnf
    refine ⟨fun hc => absurd (of_decide_eq_true hc) (by omega), fun hc => ?_⟩
    conv => whnf
    refine ⟨2, rfl, ?_⟩
    refine ⟨(2, (xs.length : Int) + ys.length), .inr (.inr ⟨rfl, rfl⟩), by show 2 - 2 < 2 - 1; decide, ?_⟩
    conv => whnf
    refine ⟨rfl, ?_⟩
    conv => whnf
    repeat' (first | exact trivial | exact rfl | refine And.intro ?_ ?_ | ((conv => whnf); first | exact trivial | exact rfl | refine And.intro ?_ ?_ | omega))
  conv => whnf
  refine ⟨fun hc => absurd (show decide (((2 : Nat) : Int) < 2) = true from hc) (by decide), fun hc => ?_⟩
  conv => whnf
  have hg := growSpan_t (xs.length + ys.length) (by omega)
  rw [show ((xs.length + ys.length : Nat) : Int) = (xs.length : Int) + ys.length from by omega] at hg
  refine call_step hg rfl rfl ?_
  conv => whnf
  refine ⟨(by repeat' (first | exact trivial | exact rfl | refine And.intro ?_ ?_ | ((conv => whnf); first | exact trivial | exact rfl | refine And.intro ?_ ?_ | omega))), (by repeat' (first | exact trivial | exact rfl | refine And.intro ?_ ?_ | ((conv => whnf); first | exact trivial | exact rfl | refine And.intro ?_ ?_ | omega))), ?_⟩
  conv => whnf
  refine loop_step tB_ok (G := Nat × List (Int × Int)) 1 [3] (fun g => [(27, iv .i64 g.1), (6, .c (.s 4 0 g.2.length 2))]) (fun g => [(4, true, .arr (aSpan g.2))]) (fun g => (g.1 = 0 ∧ [] = g.2) ∨ (g.1 = 1 ∧ xs = g.2) ∨ (g.1 = 2 ∧ xs ++ ys = g.2)) (fun g => 2 - g.1) ?_
  conv => whnf
  refine ⟨⟨(0, []), .inl ⟨rfl, rfl⟩, ?_⟩, ?_⟩
  · conv => whnf
    repeat' (first | exact trivial | exact rfl | refine And.intro ?_ ?_ | ((conv => whnf); first | exact trivial | exact rfl | refine And.intro ?_ ?_ | omega))
  rintro ⟨i, out⟩ hi ρ2 t2 hρ2
  have hi : (i = 0 ∧ [] = out) ∨ (i = 1 ∧ xs = out) ∨ (i = 2 ∧ xs ++ ys = out) := hi
  dsimp only
  rcases hi with ⟨rfl, rfl⟩ | ⟨rfl, rfl⟩ | ⟨rfl, rfl⟩
  · conv => whnf
    refine ⟨fun hc => ?_, fun hc => absurd hc (by decide)⟩
    conv => whnf
    refine ⟨0, rfl, by decide, by show _ < 2; decide, ?_⟩
    conv => whnf
    refine app_step tB_ok (aSpan []) xs (fun _ => rfl) rfl rfl rfl rfl ?_
    conv => whnf
    refine ⟨⟨rfl, rfl, Nat.le_refl _, by rw [Nat.zero_add]; exact Nat.le_refl _, by show (List.length (α := (Int × Int)) [] + xs.length) * 17 ≤ _; first | omega | (simp only [List.length_nil]; omega)⟩, ?_⟩
    conv => whnf
    refine ⟨1, rfl, ?_⟩
    refine ⟨(1, xs), .inr (.inl ⟨rfl, rfl⟩), by show 2 - 1 < 2 - 0; decide, ?_⟩
    conv => whnf
    refine ⟨rfl, ?_⟩
    conv => whnf
    repeat' (first | exact trivial | exact rfl | refine And.intro ?_ ?_ | ((conv => whnf); first | exact trivial | exact rfl | refine And.intro ?_ ?_ | omega))
    all_goals first | exact (congrArg aSpan appAll : _) | exact (congrArg aSpan (appAll (xs := [])) : _) | simp
  · conv => whnf
    refine ⟨fun hc => ?_, fun hc => absurd hc (by decide)⟩
    conv => whnf
    refine ⟨1, rfl, by decide, by show _ < 2; decide, ?_⟩
    conv => whnf
    refine app_step tB_ok (aSpan xs) ys (fun _ => rfl) rfl rfl rfl rfl ?_
    conv => whnf
    refine ⟨⟨rfl, rfl, Nat.le_refl _, by rw [Nat.zero_add]; exact Nat.le_refl _, by show (List.length (α := (Int × Int)) xs + ys.length) * 17 ≤ _; first | omega | (simp only [List.length_nil]; omega)⟩, ?_⟩
    conv => whnf
    refine ⟨2, rfl, ?_⟩
    refine ⟨(2, xs ++ ys), .inr (.inr ⟨rfl, rfl⟩), by show 2 - 2 < 2 - 1; decide, ?_⟩
    conv => whnf
    refine ⟨rfl, ?_⟩
    conv => whnf
    repeat' (first | exact trivial | exact rfl | refine And.intro ?_ ?_ | ((conv => whnf); first | exact trivial | exact rfl | refine And.intro ?_ ?_ | omega))
    all_goals first | exact (congrArg aSpan appAll : _) | exact (congrArg aSpan (appAll (xs := [])) : _) | simp
  conv => whnf
  refine ⟨fun hc => absurd (show decide (((2 : Nat) : Int) < 2) = true from hc) (by decide), fun hc => ?_⟩
  conv => whnf
  repeat' (first | exact trivial | exact rfl | refine And.intro ?_ ?_ | ((conv => whnf); first | exact trivial | exact rfl | refine And.intro ?_ ?_ | omega))
theorem growLink_t (n : Nat) (hn : n ≤ 1000000) : Triple Try.prog 142 [.c (.v (.slice none 0 0)), iv .i64 n] [] 0 (.c (.s 0 0 0 4)) [(0, true, .arr (aLink []))] := by
  refine triple_of tB_ok Try.func142 rfl Try.call142 rfl ?_
  intro ρ w hH
  conv => whnf
  refine ⟨fun hc => absurd (of_decide_eq_true (show decide ((n : Int) < 0) = true from hc)) (by omega), fun hc => ?_⟩
  conv => whnf
  refine capNil_step tB_ok rfl rfl rfl rfl ?_
  conv => whnf
  refine ⟨0, rfl, ?_⟩
  conv => whnf
  refine ⟨(n : Int), by show IntKind.i64.wrap ((n : Int) - 0) = n; rw [Int.sub_zero]; exact wrapId ⟨by omega, by omega⟩, ?_⟩
  conv => whnf
  refine ⟨fun hc => ?_, fun hc => ?_⟩
  · have hp : 0 < n := by have := of_decide_eq_true (show decide ((0 : Int) < n) = true from hc); omega
    conv => whnf
    refine capNil_step tB_ok rfl rfl rfl rfl ?_
    conv => whnf
    refine ⟨0, rfl, Nat.le_refl _, ?_⟩
    conv => whnf
    refine ⟨Nat.le_refl _, ?_⟩
    conv => whnf
    refine grow_step tB_ok (aLink []) rfl rfl rfl rfl rfl ?_
    conv => whnf
    refine ⟨n, ⟨rfl, hp, by show n * 33 ≤ _; omega, rfl⟩, ?_⟩
    conv => whnf
    refine ⟨0, rfl, Nat.zero_le _, ?_⟩
    conv => whnf
    refine ⟨Nat.le_refl _, ?_⟩
    conv => whnf
    repeat' (first | exact trivial | exact rfl | refine And.intro ?_ ?_ | ((conv => whnf); first | exact trivial | exact rfl | refine And.intro ?_ ?_ | omega))
  · conv => whnf
    repeat' (first | exact trivial | exact rfl | refine And.intro ?_ ?_ | ((conv => whnf); first | exact trivial | exact rfl | refine And.intro ?_ ?_ | omega))

theorem concatLink_t (xs ys : List Lnk) (h1 : xs.length ≤ 100000) (h2 : ys.length ≤ 100000) : Triple Try.prog 111 [.c (.s 0 0 2 1)]
    [(0, false, .arr (aRows 1 [1, 2] [[.s 1 0 xs.length 4], [.s 2 0 ys.length 4]])), (1, false, .arr (aLink xs)), (2, false, .arr (aLink ys))] 3 (.c (.s 3 0 (xs ++ ys).length 4)) [(3, true, .arr (aLink (xs ++ ys)))] := by
  refine triple_of tB_ok Try.func111 rfl Try.call111 rfl ?_
  intro ρ w hH
  conv => whnf
  refine loop_step tB_ok (G := Nat × Int) 0 [] (fun g => [(11, iv .i64 g.1), (3, iv .i64 g.2)]) (fun _ => []) (fun g => (g.1 = 0 ∧ g.2 = 0) ∨ (g.1 = 1 ∧ g.2 = xs.length) ∨ (g.1 = 2 ∧ g.2 = (xs.length : Int) + ys.length)) (fun g => 2 - g.1) ?_
  conv => whnf
  refine ⟨⟨(0, 0), .inl ⟨rfl, rfl⟩, ?_⟩, ?_⟩
  · conv => whnf
    repeat' (first | exact trivial | exact rfl | refine And.intro ?_ ?_ | ((conv => whnf); first | exact trivial | exact rfl | refine And.intro ?_ ?_ | omega))
  rintro ⟨i, tot⟩ hi ρ1 t1 hρ1
  have hi : (i = 0 ∧ tot = 0) ∨ (i = 1 ∧ tot = xs.length) ∨ (i = 2 ∧ tot = (xs.length : Int) + ys.length) := hi
  dsimp only
  rcases hi with ⟨rfl, rfl⟩ | ⟨rfl, rfl⟩ | ⟨rfl, rfl⟩
  · conv => whnf
    refine ⟨fun hc => ?_, fun hc => absurd hc (by decide)⟩
    conv => whnf
    refine ⟨0, rfl, by decide, by show _ < 2; decide, ?_⟩
    conv => whnf
    refine ⟨(xs.length : Int), by show IntKind.i64.wrap ((0 : Int) + xs.length) = xs.length; rw [Int.zero_add]; exact wrapId ⟨by omega, by omega⟩, ?_⟩
    conv => whnf
    refine ⟨fun hc => absurd (of_decide_eq_true hc) (by omega), fun hc => ?_⟩
    conv => whnf
    refine ⟨1, rfl, ?_⟩
    refine ⟨(1, (xs.length : Int)), .inr (.inl ⟨rfl, rfl⟩), by show 2 - 1 < 2 - 0; decide, ?_⟩
    conv => whnf
    refine ⟨rfl, ?_⟩
    conv => whnf
    repeat' (first | exact trivial | exact rfl | refine And.intro ?_ ?_ | ((conv => whnf); first | exact trivial | exact rfl | refine And.intro ?_ ?_ | omega))
  · conv => whnf
    refine ⟨fun hc => ?_, fun hc => absurd hc (by decide)⟩
    conv => whnf
    refine ⟨1, rfl, by decide, by show _ < 2; decide, ?_⟩
    conv => whnf
    refine ⟨(xs.length : Int) + ys.length, wrapId ⟨by omega, by omega⟩, ?_⟩
    conv => whnf
    refine ⟨fun hc => absurd (of_decide_eq_true hc) (by omega), fun hc => ?_⟩
    conv => whnf
    refine ⟨2, rfl, ?_⟩
    refine ⟨(2, (xs.length : Int) + ys.length), .inr (.inr ⟨rfl, rfl⟩), by show 2 - 2 < 2 - 1; decide, ?_⟩
    conv => whnf
    refine ⟨rfl, ?_⟩
    conv => whnf
    repeat' (first | exact trivial | exact rfl | refine And.intro ?_ ?_ | ((conv => whnf); first | exact trivial | exact rfl | refine And.intro ?_ ?_ | omega))
  conv => whnf
  refine ⟨fun hc => absurd (show decide (((2 : Nat) : Int) < 2) = true from hc) (by decide), fun hc => ?_⟩
  conv => whnf
  have hg := growLink_t (xs.length + ys.length) (by omega)
  rw [show ((xs.length + ys.length : Nat) : Int) = (xs.length : Int) + ys.length from by omega] at hg
  refine call_step hg rfl rfl ?_
  conv => whnf
  refine ⟨(by repeat' (first | exact trivial | exact rfl | refine And.intro ?_ ?_ | ((conv => whnf); first | exact trivial | exact rfl | refine And.intro ?_ ?_ | omega))), (by repeat' (first | exact trivial | exact rfl | refine And.intro ?_ ?_ | ((conv => whnf); first | exact trivial | exact rfl | refine And.intro ?_ ?_ | omega))), ?_⟩
  conv => whnf
  refine loop_step tB_ok (G := Nat × List Lnk) 1 [3] (fun g => [(27, iv .i64 g.1), (6, .c (.s 4 0 g.2.length 4))]) (fun g => [(4, true, .arr (aLink g.2))]) (fun g => (g.1 = 0 ∧ [] = g.2) ∨ (g.1 = 1 ∧ xs = g.2) ∨ (g.1 = 2 ∧ xs ++ ys = g.2)) (fun g => 2 - g.1) ?_
  conv => whnf
  refine ⟨⟨(0, []), .inl ⟨rfl, rfl⟩, ?_⟩, ?_⟩
  · conv => whnf
    repeat' (first | exact trivial | exact rfl | refine And.intro ?_ ?_ | ((conv => whnf); first | exact trivial | exact rfl | refine And.intro ?_ ?_ | omega))
  rintro ⟨i, out⟩ hi ρ2 t2 hρ2
  have hi : (i = 0 ∧ [] = out) ∨ (i = 1 ∧ xs = out) ∨ (i = 2 ∧ xs ++ ys = out) := hi
  dsimp only
  rcases hi with ⟨rfl, rfl⟩ | ⟨rfl, rfl⟩ | ⟨rfl, rfl⟩
  · conv => whnf
    refine ⟨fun hc => ?_, fun hc => absurd hc (by decide)⟩
    conv => whnf
    refine ⟨0, rfl, by decide, by show _ < 2; decide, ?_⟩
    conv => whnf
    refine app_step tB_ok (aLink []) xs (fun _ => rfl) rfl rfl rfl rfl ?_
    conv => whnf
    refine ⟨⟨rfl, rfl, Nat.le_refl _, by rw [Nat.zero_add]; exact Nat.le_refl _, by show (List.length (α := Lnk) [] + xs.length) * 33 ≤ _; first | omega | (simp only [List.length_nil]; omega)⟩, ?_⟩
    conv => whnf
    refine ⟨1, rfl, ?_⟩
    refine ⟨(1, xs), .inr (.inl ⟨rfl, rfl⟩), by show 2 - 1 < 2 - 0; decide, ?_⟩
    conv => whnf
    refine ⟨rfl, ?_⟩
    conv => whnf
    repeat' (first | exact trivial | exact rfl | refine And.intro ?_ ?_ | ((conv => whnf); first | exact trivial | exact rfl | refine And.intro ?_ ?_ | omega))
    all_goals first | exact (congrArg aLink appAll : _) | exact (congrArg aLink (appAll (xs := [])) : _) | simp
  · conv => whnf
    refine ⟨fun hc => ?_, fun hc => absurd hc (by decide)⟩
    conv => whnf
    refine ⟨1, rfl, by decide, by show _ < 2; decide, ?_⟩
    conv => whnf
    refine app_step tB_ok (aLink xs) ys (fun _ => rfl) rfl rfl rfl rfl ?_
    conv => whnf
    refine ⟨⟨rfl, rfl, Nat.le_refl _, by rw [Nat.zero_add]; exact Nat.le_refl _, by show (List.length (α := Lnk) xs + ys.length) * 33 ≤ _; first | omega | (simp only [List.length_nil]; omega)⟩, ?_⟩
    conv => whnf
    refine ⟨2, rfl, ?_⟩
    refine ⟨(2, xs ++ ys), .inr (.inr ⟨rfl, rfl⟩), by show 2 - 2 < 2 - 1; decide, ?_⟩
    conv => whnf
    refine ⟨rfl, ?_⟩
    conv => whnf
    repeat' (first | exact trivial | exact rfl | refine And.intro ?_ ?_ | ((conv => whnf); first | exact trivial | exact rfl | refine And.intro ?_ ?_ | omega))
    all_goals first | exact (congrArg aLink appAll : _) | exact (congrArg aLink (appAll (xs := [])) : _) | simp
  conv => whnf
  refine ⟨fun hc => absurd (show decide (((2 : Nat) : Int) < 2) = true from hc) (by decide), fun hc => ?_⟩
  conv => whnf
  repeat' (first | exact trivial | exact rfl | refine And.intro ?_ ?_ | ((conv => whnf); first | exact trivial | exact rfl | refine And.intro ?_ ?_ | omega))

end Go.Proofs

namespace Go.Proofs
open Go.Sx

def shiftI (n : Nat) (p : Int) : Int := if 0 ≤ p then p + n else p
def shiftL (n : Nat) (l : Lnk) : Lnk := ⟨shiftI n l.f, shiftI n l.t, l.m, l.i⟩

def mergeF (bs : List (Int × Int)) (ls : List Lnk) (bt : List (Int × Int)) (lt : List Lnk) : List (Int × Int) × List Lnk × Int :=
  if checkF bs ls ≠ 0 then ([], [], checkF bs ls) else if checkF bt lt ≠ 0 then ([], [], checkF bt lt) else
  if 240 < bs.length + bt.length ∨ 1200 < ls.length + lt.length then ([], [], 2) else (bs ++ bt, ls ++ lt.map (shiftL bs.length), 0)

abbrev sysA2 (n m n' m' : Nat) : List SV := [.agg [.s 0 0 n 2, .s 1 0 m 4], .agg [.s 2 0 n' 2, .s 3 0 m' 4]]
abbrev sysH2 (bs : List (Int × Int)) (ls : List Lnk) (bt : List (Int × Int)) (lt : List Lnk) : Heap := sysH bs ls ++ [(2, false, .arr (aSpan bt)), (3, false, .arr (aLink lt))]

abbrev mergeT (f : FuncId) (bs : List (Int × Int)) (ls : List Lnk) (bt : List (Int × Int)) (lt : List Lnk) (R : List (Int × Int) × List Lnk × Int) : Prop :=
  Triple Try.prog f (sysA2 bs.length ls.length bt.length lt.length) (sysH2 bs ls bt lt) 4 (.tup [.inr [.s 4 0 R.1.length 2, .s 5 0 R.2.1.length 4], .inl (.v (.int .i64 R.2.2))])
    [(4, true, .arr (aSpan R.1)), (5, true, .arr (aLink R.2.1))]

theorem set_mid {α : Type} (a : List α) (x y : α) (r : List α) : (a ++ x :: r).set a.length y = a ++ y :: r := by
  rw [List.set_append_right _ _ (Nat.le_refl _), Nat.sub_self]; rfl

theorem merge_t (bs : List (Int × Int)) (ls : List Lnk) (bt : List (Int × Int)) (lt : List Lnk) (hb : bs.length ≤ 1000000) (hl : ls.length ≤ 1000000) (hb' : bt.length ≤ 1000000) (hl' : lt.length ≤ 1000000) :
    mergeT 56 bs ls bt lt (mergeF bs ls bt lt) := by
  have hF : mergeF bs ls bt lt = if checkF bs ls ≠ 0 then ([], [], checkF bs ls) else if checkF bt lt ≠ 0 then ([], [], checkF bt lt) else
    if 240 < bs.length + bt.length ∨ 1200 < ls.length + lt.length then ([], [], 2) else (bs ++ bt, ls ++ lt.map (shiftL bs.length), 0) := rfl
  generalize mergeF bs ls bt lt = R at *
  refine triple_of tB_ok Try.func56 rfl Try.call56 rfl ?_
  intro ρ w hH
  conv => whnf
  refine bsN_step tB_ok (aRows 2 [0, 1, 2, 3] [[.s 0 0 bs.length 2, .s 1 0 ls.length 4], [.s 2 0 bt.length 2, .s 3 0 lt.length 4]]) rfl ?_
  conv => whnf
  refine ⟨(by repeat' (first | exact trivial | exact rfl | refine And.intro ?_ ?_ | ((conv => whnf); first | exact trivial | exact rfl | refine And.intro ?_ ?_ | omega))), ?_⟩
  conv => whnf
  refine loop_step tB_ok (G := Nat) 0 [] (fun i => [(18, iv .i64 i)]) (fun _ => []) (fun i => i ≤ 2 ∧ (1 ≤ i → checkF bs ls = 0) ∧ (2 ≤ i → checkF bt lt = 0)) (fun i => 2 - i) ?_
  conv => whnf
  refine ⟨⟨0, ⟨by omega, by omega, by omega⟩, ?_⟩, ?_⟩
  · conv => whnf
    repeat' (first | exact trivial | exact rfl | refine And.intro ?_ ?_ | ((conv => whnf); first | exact trivial | exact rfl | refine And.intro ?_ ?_ | omega))
  intro i hi ρ1 t1 hρ1
  obtain ⟨hi, hi1, hi2⟩ := hi
  rcases (by omega : i = 0 ∨ i = 1 ∨ i = 2) with rfl | rfl | rfl
  · conv => whnf
    refine ⟨fun hc => ?_, fun hc => absurd (show decide (((0 : Nat) : Int) < 2) = false from hc) (by decide)⟩
    conv => whnf
    refine ⟨0, rfl, by decide, by show 0 < 2; decide, ?_⟩
    conv => whnf
    refine call_step (check_t bs ls hb hl) rfl rfl ?_
    conv => whnf
    refine ⟨(by repeat' (first | exact trivial | exact rfl | refine And.intro ?_ ?_ | ((conv => whnf); first | exact trivial | exact rfl | refine And.intro ?_ ?_ | omega))), (by repeat' (first | exact trivial | exact rfl | refine And.intro ?_ ?_ | ((conv => whnf); first | exact trivial | exact rfl | refine And.intro ?_ ?_ | omega))), ?_⟩
    conv => whnf
    by_cases h0 : checkF bs ls = 0
    · have h0' := h0
      rw [h0]
      refine ⟨fun hc => absurd hc (by simp), fun hc => ?_⟩
      conv => whnf
      refine ⟨1, rfl, ?_⟩
      refine ⟨1, ⟨by decide, fun _ => rfl, by omega⟩, by show 2 - 1 < 2 - 0; decide, ?_⟩
      conv => whnf
      refine ⟨rfl, ?_⟩
      conv => whnf
      repeat' (first | exact trivial | exact rfl | refine And.intro ?_ ?_ | ((conv => whnf); first | exact trivial | exact rfl | refine And.intro ?_ ?_ | omega))
    · rw [if_pos (by simpa using h0)] at hF
      rw [hF]
      generalize checkF bs ls = c at *
      refine ⟨fun hcc => ?_, fun hcc => absurd (by simpa using hcc) h0⟩
      conv => whnf
      repeat' (first | exact trivial | exact rfl | refine And.intro ?_ ?_ | ((conv => whnf); first | exact trivial | exact rfl | refine And.intro ?_ ?_ | omega))
  · conv => whnf
    refine ⟨fun hc => ?_, fun hc => absurd (show decide (((1 : Nat) : Int) < 2) = false from hc) (by decide)⟩
    conv => whnf
    refine ⟨1, rfl, by decide, by show 1 < 2; decide, ?_⟩
    conv => whnf
    refine call_step (check_t bt lt hb' hl') rfl rfl ?_
    conv => whnf
    refine ⟨(by repeat' (first | exact trivial | exact rfl | refine And.intro ?_ ?_ | ((conv => whnf); first | exact trivial | exact rfl | refine And.intro ?_ ?_ | omega))), (by repeat' (first | exact trivial | exact rfl | refine And.intro ?_ ?_ | ((conv => whnf); first | exact trivial | exact rfl | refine And.intro ?_ ?_ | omega))), ?_⟩
    conv => whnf
    by_cases h1 : checkF bt lt = 0
    · have h1' := h1
      rw [h1]
      refine ⟨fun hc => absurd hc (by simp), fun hc => ?_⟩
      conv => whnf
      refine ⟨2, rfl, ?_⟩
      refine ⟨2, ⟨by decide, fun _ => hi1 (by decide), fun _ => rfl⟩, by show 2 - 2 < 2 - 1; decide, ?_⟩
      conv => whnf
      refine ⟨rfl, ?_⟩
      conv => whnf
      repeat' (first | exact trivial | exact rfl | refine And.intro ?_ ?_ | ((conv => whnf); first | exact trivial | exact rfl | refine And.intro ?_ ?_ | omega))
    · rw [if_neg (by simpa using hi1 (by decide)), if_pos (by simpa using h1)] at hF
      rw [hF]
      generalize checkF bt lt = c at *
      refine ⟨fun hcc => ?_, fun hcc => absurd (by simpa using hcc) h1⟩
      conv => whnf
      repeat' (first | exact trivial | exact rfl | refine And.intro ?_ ?_ | ((conv => whnf); first | exact trivial | exact rfl | refine And.intro ?_ ?_ | omega))
  have h0 := hi1 (by decide)
  have h1 := hi2 (by decide)
  rw [if_neg (by simpa using h0), if_neg (by simpa using h1)] at hF
  have hs := checkF_ok.1 h0
  have ht := checkF_ok.1 h1
  have n1 := hs.nb
  have n2 := hs.nl
  have n3 := ht.nb
  have n4 := ht.nl
  conv => whnf
  refine ⟨fun hc => absurd (show decide (((2 : Nat) : Int) < 2) = true from hc) (by decide), fun hc => ?_⟩
  conv => whnf
  refine bsN_step tB_ok ((aRows 1 [1, 2] [[.s 1 0 bs.length 2], [.s 2 0 bt.length 2]]).ren (rnf [(2, 2), (1, 0), (0, 8)])) rfl ?_
  conv => whnf
  refine ⟨(by repeat' (first | exact trivial | exact rfl | refine And.intro ?_ ?_ | ((conv => whnf); first | exact trivial | exact rfl | refine And.intro ?_ ?_ | omega))), ?_⟩
  conv => whnf
  refine call_step (concatSpan_t bs bt (by omega) (by omega)) rfl rfl ?_
  conv => whnf
  refine ⟨(by repeat' (first | exact trivial | exact rfl | refine And.intro ?_ ?_ | ((conv => whnf); first | exact trivial | exact rfl | refine And.intro ?_ ?_ | omega))), (by repeat' (first | exact trivial | exact rfl | refine And.intro ?_ ?_ | ((conv => whnf); first | exact trivial | exact rfl | refine And.intro ?_ ?_ | omega))), ?_⟩
  conv => whnf
  refine bsN_step tB_ok ((aRows 1 [1, 2] [[.s 1 0 ls.length 4], [.s 2 0 lt.length 4]]).ren (rnf [(2, 3), (1, 1), (0, 10)])) rfl ?_
  conv => whnf
  refine ⟨(by repeat' (first | exact trivial | exact rfl | refine And.intro ?_ ?_ | ((conv => whnf); first | exact trivial | exact rfl | refine And.intro ?_ ?_ | omega))), ?_⟩
  conv => whnf
  refine call_step (concatLink_t ls lt (by omega) (by omega)) rfl rfl ?_
  conv => whnf
  refine ⟨(by repeat' (first | exact trivial | exact rfl | refine And.intro ?_ ?_ | ((conv => whnf); first | exact trivial | exact rfl | refine And.intro ?_ ?_ | omega))), (by repeat' (first | exact trivial | exact rfl | refine And.intro ?_ ?_ | ((conv => whnf); first | exact trivial | exact rfl | refine And.intro ?_ ?_ | omega))), ?_⟩
  conv => whnf
  have hshl : ∀ j, (ls ++ ((lt.take j).map (shiftL bs.length) ++ lt.drop j)).length = ls.length + lt.length := by
    intro j
    have := congrArg List.length (List.take_append_drop j lt)
    rw [List.length_append] at this
    rw [List.length_append, List.length_append, List.length_map]; omega
  refine loop_step tB_ok (G := Nat × List Lnk) 0 [] (fun g => [(11, iv .i64 ((ls.length : Int) + g.1))]) (fun g => [(11, true, .arr (aLink g.2))]) (fun g => g.1 ≤ lt.length ∧ g.2 = ls ++ ((lt.take g.1).map (shiftL bs.length) ++ lt.drop g.1)) (fun g => lt.length - g.1) ?_
  conv => whnf
  refine ⟨⟨(0, ls ++ lt), ⟨Nat.zero_le _, by simp⟩, ?_⟩, ?_⟩
  · conv => whnf
    repeat' (first | exact trivial | exact rfl | refine And.intro ?_ ?_ | ((conv => whnf); first | exact trivial | exact rfl | refine And.intro ?_ ?_ | omega))
    all_goals (show (ls.length : Int) = (ls.length : Int) + ((0 : Nat) : Int); omega)
  rintro ⟨j, L⟩ ⟨hj, hL⟩ ρ2 t2 hρ2
  have hj : j ≤ lt.length := hj
  have hL : L = ls ++ ((lt.take j).map (shiftL bs.length) ++ lt.drop j) := hL
  have hLl : L.length = ls.length + lt.length := by rw [hL]; exact hshl j
  dsimp only
  conv => whnf
  refine ⟨fun hc => ?_, fun hc => ?_⟩
  · have hlt : j < lt.length := by
      have := of_decide_eq_true (show decide ((ls.length : Int) + j < ((ls ++ lt).length : Nat)) = true from hc)
      rw [List.length_append] at this
      omega
    have hix : ls.length + j < L.length := by omega
    have hget : L[ls.length + j] = lt[j] := by
      have hh : L[ls.length + j]? = lt[j]? := by
        rw [hL, List.getElem?_append_right (by omega), List.getElem?_append_right (by simp; omega), List.getElem?_drop]
        congr 1
        simp; omega
      rw [List.getElem?_eq_getElem hix, List.getElem?_eq_getElem hlt] at hh
      exact Option.some.inj hh
    have hset : ∀ x, L.set (ls.length + j) x = (ls ++ (lt.take j).map (shiftL bs.length)) ++ x :: lt.drop (j + 1) := by
      intro x
      have hA : (ls ++ (lt.take j).map (shiftL bs.length)).length = ls.length + j := by simp; omega
      have hL2 : L = (ls ++ (lt.take j).map (shiftL bs.length)) ++ lt[j] :: lt.drop (j + 1) := by
        rw [hL, ← List.append_assoc, ← List.drop_eq_getElem_cons hlt]
      rw [hL2, ← hA]
      exact set_mid _ _ _ _
    have hpr := properF_iff.1 (ht.lnk _ (List.getElem_mem hlt))
    have hnext : L.set (ls.length + j) (shiftL bs.length lt[j]) = ls ++ ((lt.take (j + 1)).map (shiftL bs.length) ++ lt.drop (j + 1)) := by
      rw [hset, take_snoc hlt, List.map_append]
      simp
    have hsi : ∀ p : Int, -1 ≤ p → p ≤ 1000 → -1 ≤ shiftI bs.length p ∧ shiftI bs.length p ≤ 2000 := by
      intro p h1 h2
      unfold shiftI
      split <;> omega
    conv => whnf
    refine ⟨ls.length + j, by omega, by rw [List.length_append]; omega, ?_⟩
    conv => whnf
    refine ⟨ls.length + j, by omega, by rw [List.length_append]; omega, ?_⟩
    conv => whnf
    refine bsN_step tB_ok (aRows 1 [11] [[.p 11 (ls.length + j) 4 0], [.p 11 (ls.length + j) 4 1]]) rfl ?_
    conv => whnf
    refine ⟨(by repeat' (first | exact trivial | exact rfl | refine And.intro ?_ ?_ | ((conv => whnf); first | exact trivial | exact rfl | refine And.intro ?_ ?_ | omega))), ?_⟩
    conv => whnf
    refine loop_step tB_ok (G := Nat × Lnk) 0 [] (fun g => [(67, iv .i64 g.1)]) (fun g => [(11, true, .arr (aLink (L.set (ls.length + j) g.2)))]) (fun g => (g.1 = 0 ∧ g.2 = lt[j]) ∨ (g.1 = 1 ∧ g.2 = ⟨shiftI bs.length lt[j].f, lt[j].t, lt[j].m, lt[j].i⟩) ∨ (g.1 = 2 ∧ g.2 = shiftL bs.length lt[j])) (fun g => 2 - g.1) ?_
    conv => whnf
    refine ⟨⟨(0, lt[j]), .inl ⟨rfl, rfl⟩, ?_⟩, ?_⟩
    · conv => whnf
      repeat' (first | exact trivial | exact rfl | refine And.intro ?_ ?_ | ((conv => whnf); first | exact trivial | exact rfl | refine And.intro ?_ ?_ | omega))
      all_goals (show aLink L = aLink (L.set (ls.length + j) lt[j]); rw [← hget, List.set_getElem_self])
    rintro ⟨k, x⟩ hk ρ3 t3 hρ3
    have hk : (k = 0 ∧ x = lt[j]) ∨ (k = 1 ∧ x = ⟨shiftI bs.length lt[j].f, lt[j].t, lt[j].m, lt[j].i⟩) ∨ (k = 2 ∧ x = shiftL bs.length lt[j]) := hk
    dsimp only
    have hgx : (L.set (ls.length + j) x)[ls.length + j]'(by rw [List.length_set]; exact hix) = x := by rw [List.getElem_set_self]
    have hix2 : ls.length + j < (L.set (ls.length + j) x).length := by rw [List.length_set]; exact hix
    rcases hk with ⟨rfl, hx⟩ | ⟨rfl, hx⟩ | ⟨rfl, hx⟩
    · conv => whnf
      refine ⟨fun hc => ?_, fun hc => absurd (show decide (((0 : Nat) : Int) < 2) = false from hc) (by decide)⟩
      conv => whnf
      refine ⟨0, rfl, by decide, by show 0 < 2; decide, ?_⟩
      conv => whnf
      refine ⟨hix2, ?_⟩
      conv => whnf
      refine ⟨fun hc => ?_, fun hc => ?_⟩
      · have hp : 0 ≤ x.f := by
          have := of_decide_eq_true (show decide (0 ≤ ((L.set (ls.length + j) x)[ls.length + j]'hix2).f) = true from hc)
          rwa [hgx] at this
        have hxf : x.f ≤ 1000 := by rw [hx]; show lt[j].f ≤ 1000; omega
        have he : x.f + bs.length = shiftI bs.length lt[j].f := by
          rw [hx] at hp ⊢
          have hp : 0 ≤ lt[j].f := hp
          show lt[j].f + bs.length = _
          unfold shiftI
          rw [if_pos hp]
        conv => whnf
        refine ⟨hix2, ?_⟩
        conv => whnf
        refine ⟨x.f + bs.length, by show IntKind.i64.wrap (((L.set (ls.length + j) x)[ls.length + j]'hix2).f + bs.length) = _; rw [hgx]; exact wrapId ⟨by omega, by omega⟩, ?_⟩
        conv => whnf
        refine ⟨hix2, ⟨x.f + bs.length, x.t, x.m, x.i⟩, by show _ = splice [.v (.int .i64 ((L.set (ls.length + j) x)[ls.length + j]'hix2).f), .v (.int .i64 ((L.set (ls.length + j) x)[ls.length + j]'hix2).t), .v (.int .i64 ((L.set (ls.length + j) x)[ls.length + j]'hix2).m), .v (.int .i64 ((L.set (ls.length + j) x)[ls.length + j]'hix2).i)] 0 _; rw [hgx]; rfl, ?_⟩
        conv => whnf
        refine ⟨1, rfl, ?_⟩
        refine ⟨(1, ⟨x.f + bs.length, x.t, x.m, x.i⟩), .inr (.inl ⟨rfl, by rw [he, hx]⟩), by show 2 - 1 < 2 - 0; decide, ?_⟩
        conv => whnf
        refine ⟨rfl, ?_⟩
        conv => whnf
        repeat' (first | exact trivial | exact rfl | refine And.intro ?_ ?_ | ((conv => whnf); first | exact trivial | exact rfl | refine And.intro ?_ ?_ | omega))
        all_goals (show aLink ((L.set (ls.length + j) x).set (ls.length + j) _) = aLink (L.set (ls.length + j) _); rw [List.set_set])
      · have hp : ¬ 0 ≤ x.f := by
          have := of_decide_eq_false (show decide (0 ≤ ((L.set (ls.length + j) x)[ls.length + j]'hix2).f) = false from hc)
          rwa [hgx] at this
        have he : x.f = shiftI bs.length lt[j].f := by
          rw [hx] at hp ⊢
          have hp : ¬ 0 ≤ lt[j].f := hp
          show lt[j].f = _
          unfold shiftI
          rw [if_neg hp]
        conv => whnf
        refine ⟨1, rfl, ?_⟩
        refine ⟨(1, x), .inr (.inl ⟨rfl, by rw [← he, hx]⟩), by show 2 - 1 < 2 - 0; decide, ?_⟩
        conv => whnf
        refine ⟨rfl, ?_⟩
        conv => whnf
        repeat' (first | exact trivial | exact rfl | refine And.intro ?_ ?_ | ((conv => whnf); first | exact trivial | exact rfl | refine And.intro ?_ ?_ | omega))
    · conv => whnf
      refine ⟨fun hc => ?_, fun hc => absurd (show decide (((1 : Nat) : Int) < 2) = false from hc) (by decide)⟩
      conv => whnf
      refine ⟨1, rfl, by decide, by show 1 < 2; decide, ?_⟩
      conv => whnf
      refine ⟨hix2, ?_⟩
      conv => whnf
      refine ⟨fun hc => ?_, fun hc => ?_⟩
      · have hp : 0 ≤ x.t := by
          have := of_decide_eq_true (show decide (0 ≤ ((L.set (ls.length + j) x)[ls.length + j]'hix2).t) = true from hc)
          rwa [hgx] at this
        have hxf : x.t ≤ 1000 := by rw [hx]; show lt[j].t ≤ 1000; omega
        have he : x.t + bs.length = shiftI bs.length lt[j].t := by
          rw [hx] at hp ⊢
          have hp : 0 ≤ lt[j].t := hp
          show lt[j].t + bs.length = _
          unfold shiftI
          rw [if_pos hp]
        conv => whnf
        refine ⟨hix2, ?_⟩
        conv => whnf
        refine ⟨x.t + bs.length, by show IntKind.i64.wrap (((L.set (ls.length + j) x)[ls.length + j]'hix2).t + bs.length) = _; rw [hgx]; exact wrapId ⟨by omega, by omega⟩, ?_⟩
        conv => whnf
        refine ⟨hix2, ⟨x.f, x.t + bs.length, x.m, x.i⟩, by show _ = splice [.v (.int .i64 ((L.set (ls.length + j) x)[ls.length + j]'hix2).f), .v (.int .i64 ((L.set (ls.length + j) x)[ls.length + j]'hix2).t), .v (.int .i64 ((L.set (ls.length + j) x)[ls.length + j]'hix2).m), .v (.int .i64 ((L.set (ls.length + j) x)[ls.length + j]'hix2).i)] 1 _; rw [hgx]; rfl, ?_⟩
        conv => whnf
        refine ⟨2, rfl, ?_⟩
        refine ⟨(2, ⟨x.f, x.t + bs.length, x.m, x.i⟩), .inr (.inr ⟨rfl, by rw [he, hx]; rfl⟩), by show 2 - 2 < 2 - 1; decide, ?_⟩
        conv => whnf
        refine ⟨rfl, ?_⟩
        conv => whnf
        repeat' (first | exact trivial | exact rfl | refine And.intro ?_ ?_ | ((conv => whnf); first | exact trivial | exact rfl | refine And.intro ?_ ?_ | omega))
        all_goals (show aLink ((L.set (ls.length + j) x).set (ls.length + j) _) = aLink (L.set (ls.length + j) _); rw [List.set_set])
      · have hp : ¬ 0 ≤ x.t := by
          have := of_decide_eq_false (show decide (0 ≤ ((L.set (ls.length + j) x)[ls.length + j]'hix2).t) = false from hc)
          rwa [hgx] at this
        have he : x.t = shiftI bs.length lt[j].t := by
          rw [hx] at hp ⊢
          have hp : ¬ 0 ≤ lt[j].t := hp
          show lt[j].t = _
          unfold shiftI
          rw [if_neg hp]
        conv => whnf
        refine ⟨2, rfl, ?_⟩
        refine ⟨(2, x), .inr (.inr ⟨rfl, by unfold shiftL; rw [← he, hx]⟩), by show 2 - 2 < 2 - 1; decide, ?_⟩
        conv => whnf
        refine ⟨rfl, ?_⟩
        conv => whnf
        repeat' (first | exact trivial | exact rfl | refine And.intro ?_ ?_ | ((conv => whnf); first | exact trivial | exact rfl | refine And.intro ?_ ?_ | omega))
    · conv => whnf
      refine ⟨fun hc => absurd (show decide (((2 : Nat) : Int) < 2) = true from hc) (by decide), fun hc => ?_⟩
      conv => whnf
      refine ⟨(ls.length : Int) + ((j + 1 : Nat) : Int), by show IntKind.i64.wrap ((ls.length : Int) + j + 1) = _; rw [wrapId ⟨by omega, by omega⟩]; omega, ?_⟩
      refine ⟨(j + 1, L.set (ls.length + j) x), ⟨hlt, by rw [hx]; exact hnext⟩, by show lt.length - (j + 1) < lt.length - j; omega, ?_⟩
      conv => whnf
      refine ⟨rfl, ?_⟩
      conv => whnf
      repeat' (first | exact trivial | exact rfl | refine And.intro ?_ ?_ | ((conv => whnf); first | exact trivial | exact rfl | refine And.intro ?_ ?_ | omega))
  · have hje : j = lt.length := by
      have := of_decide_eq_false (show decide ((ls.length : Int) + j < ((ls ++ lt).length : Nat)) = false from hc)
      rw [List.length_append] at this
      omega
    rw [hje, List.take_length, List.drop_length, List.append_nil] at hL
    conv => whnf
    refine ⟨fun hc => ?_, fun hc => ?_⟩
    · have h3 : 240 < bs.length + bt.length := by
        have := of_decide_eq_true (show decide ((240 : Int) < ((bs ++ bt).length : Nat)) = true from hc)
        rw [List.length_append] at this; omega
      rw [if_pos (.inl h3)] at hF
      rw [hF]
      conv => whnf
      repeat' (first | exact trivial | exact rfl | refine And.intro ?_ ?_ | ((conv => whnf); first | exact trivial | exact rfl | refine And.intro ?_ ?_ | omega))
    have h3 : ¬ 240 < bs.length + bt.length := by
      have := of_decide_eq_false (show decide ((240 : Int) < ((bs ++ bt).length : Nat)) = false from hc)
      rw [List.length_append] at this; omega
    conv => whnf
    refine ⟨fun hc => ?_, fun hc => ?_⟩
    · have h4 : 1200 < ls.length + lt.length := by
        have := of_decide_eq_true (show decide ((1200 : Int) < ((ls ++ lt).length : Nat)) = true from hc)
        rw [List.length_append] at this; omega
      rw [if_pos (.inr h4)] at hF
      rw [hF]
      conv => whnf
      repeat' (first | exact trivial | exact rfl | refine And.intro ?_ ?_ | ((conv => whnf); first | exact trivial | exact rfl | refine And.intro ?_ ?_ | omega))
    · have h4 : ¬ 1200 < ls.length + lt.length := by
        have := of_decide_eq_false (show decide ((1200 : Int) < ((ls ++ lt).length : Nat)) = false from hc)
        rw [List.length_append] at this; omega
      rw [if_neg (by omega)] at hF
      rw [← hL] at hF
      rw [hF]
      conv => whnf
      repeat' (first | exact trivial | exact rfl | refine And.intro ?_ ?_ | ((conv => whnf); first | exact trivial | exact rfl | refine And.intro ?_ ?_ | omega))
      all_goals first | (show (ls ++ lt).length = L.length; rw [hLl, List.length_append]) | rfl

end Go.Proofs

namespace Go.Proofs
open Go.Sx

theorem refMerge_t (bs : List (Int × Int)) (ls : List Lnk) (bt : List (Int × Int)) (lt : List Lnk) (hb : bs.length ≤ 1000000) (hl : ls.length ≤ 1000000) (hb' : bt.length ≤ 1000000) (hl' : lt.length ≤ 1000000) :
    mergeT 57 bs ls bt lt (mergeF bs ls bt lt) := by
  have hF : mergeF bs ls bt lt = if checkF bs ls ≠ 0 then ([], [], checkF bs ls) else if checkF bt lt ≠ 0 then ([], [], checkF bt lt) else
    if 240 < bs.length + bt.length ∨ 1200 < ls.length + lt.length then ([], [], 2) else (bs ++ bt, ls ++ lt.map (shiftL bs.length), 0) := rfl
  generalize mergeF bs ls bt lt = R at *
  refine triple_of tB_ok Try.func57 rfl Try.call57 rfl ?_
  intro ρ w hH
  conv => whnf
  refine call_step (refCheck_t bs ls hb hl) rfl rfl ?_
  conv => whnf
  refine ⟨(by repeat' (first | exact trivial | exact rfl | refine And.intro ?_ ?_ | ((conv => whnf); first | exact trivial | exact rfl | refine And.intro ?_ ?_ | omega))), (by repeat' (first | exact trivial | exact rfl | refine And.intro ?_ ?_ | ((conv => whnf); first | exact trivial | exact rfl | refine And.intro ?_ ?_ | omega))), ?_⟩
  conv => whnf
  refine call_step (refCheck_t bt lt hb' hl') rfl rfl ?_
  conv => whnf
  refine ⟨(by repeat' (first | exact trivial | exact rfl | refine And.intro ?_ ?_ | ((conv => whnf); first | exact trivial | exact rfl | refine And.intro ?_ ?_ | omega))), (by repeat' (first | exact trivial | exact rfl | refine And.intro ?_ ?_ | ((conv => whnf); first | exact trivial | exact rfl | refine And.intro ?_ ?_ | omega))), ?_⟩
  conv => whnf
  by_cases h0 : checkF bs ls = 0
  · have hs := checkF_ok.1 h0
    rw [if_neg (by simpa using h0)] at hF
    rw [h0]
    refine ⟨fun hc => absurd hc (by simp), fun hc => ?_⟩
    conv => whnf
    by_cases h1 : checkF bt lt = 0
    · have ht := checkF_ok.1 h1
      rw [if_neg (by simpa using h1)] at hF
      have n1 := hs.nb
      have n2 := hs.nl
      have n3 := ht.nb
      have n4 := ht.nl
      rw [h1]
      refine ⟨fun hc => absurd hc (by simp), fun hc => ?_⟩
      conv => whnf
      refine ⟨(bs.length : Int) + bt.length, wrapId (z := (bs.length : Int) + bt.length) ⟨by omega, by omega⟩, ?_⟩
      conv => whnf
      refine ⟨fun hc => ?_, fun hc => ?_⟩
      · have h3 : 240 < bs.length + bt.length := by
          have := of_decide_eq_true (show decide ((240 : Int) < (bs.length : Int) + bt.length) = true from hc); omega
        rw [if_pos (.inl h3)] at hF
        rw [hF]
        conv => whnf
        repeat' (first | exact trivial | exact rfl | refine And.intro ?_ ?_ | ((conv => whnf); first | exact trivial | exact rfl | refine And.intro ?_ ?_ | omega))
      have h3 : ¬ 240 < bs.length + bt.length := by
        have := of_decide_eq_false (show decide ((240 : Int) < (bs.length : Int) + bt.length) = false from hc); omega
      conv => whnf
      refine ⟨(ls.length : Int) + lt.length, wrapId (z := (ls.length : Int) + lt.length) ⟨by omega, by omega⟩, ?_⟩
      conv => whnf
      refine ⟨fun hc => ?_, fun hc => ?_⟩
      · have h4 : 1200 < ls.length + lt.length := by
          have := of_decide_eq_true (show decide ((1200 : Int) < (ls.length : Int) + lt.length) = true from hc); omega
        rw [if_pos (.inr h4)] at hF
        rw [hF]
        conv => whnf
        repeat' (first | exact trivial | exact rfl | refine And.intro ?_ ?_ | ((conv => whnf); first | exact trivial | exact rfl | refine And.intro ?_ ?_ | omega))
      have h4 : ¬ 1200 < ls.length + lt.length := by
        have := of_decide_eq_false (show decide ((1200 : Int) < (ls.length : Int) + lt.length) = false from hc); omega
      rw [if_neg (by omega)] at hF
      conv => whnf
      refine bs_step tB_ok (aSpan []) rfl rfl ?_
      conv => whnf
      refine ⟨⟨rfl, trivial⟩, ?_⟩
      conv => whnf
      refine app_step tB_ok (aSpan []) bs (fun _ => rfl) rfl rfl rfl rfl ?_
      conv => whnf
      refine ⟨⟨rfl, rfl, Nat.le_refl _, by rw [Nat.zero_add]; exact Nat.le_refl _, by show (0 + bs.length) * 17 ≤ _; omega⟩, ?_⟩
      conv => whnf
      refine app_step tB_ok (aSpan bs) bt (fun _ => rfl) rfl rfl rfl rfl ?_
      conv => whnf
      refine ⟨⟨congrArg aSpan (appAll (xs := ([] : List (Int × Int)))), rfl, by show 0 + bs.length ≤ bs.length; omega, by rw [Nat.zero_add]; exact Nat.le_refl _, by show (0 + bs.length + bt.length) * 17 ≤ _; omega⟩, ?_⟩
      conv => whnf
      refine bs_step tB_ok (aLink []) rfl rfl ?_
      conv => whnf
      refine ⟨⟨rfl, trivial⟩, ?_⟩
      conv => whnf
      refine app_step tB_ok (aLink []) ls (fun _ => rfl) rfl rfl rfl rfl ?_
      conv => whnf
      refine ⟨⟨rfl, rfl, Nat.le_refl _, by rw [Nat.zero_add]; exact Nat.le_refl _, by show (0 + ls.length) * 33 ≤ _; omega⟩, ?_⟩
      conv => whnf
      refine loop_step tB_ok (G := Nat × List Lnk) 1 [11] (fun g => [(10, iv .i64 g.1)]) (fun g => [(12, true, .cells [.s 9 0 (0 + bs.length + bt.length) 2, .s 13 0 g.2.length 4]), (13, true, .arr (aLink g.2))]) (fun g => g.1 ≤ lt.length ∧ g.2 = ls ++ (lt.take g.1).map (shiftL bs.length)) (fun g => lt.length - g.1) ?_
      conv => whnf
      refine ⟨⟨(0, ls), ⟨Nat.zero_le _, by simp⟩, ?_⟩, ?_⟩
      · conv => whnf
        repeat' (first | exact trivial | exact rfl | refine And.intro ?_ ?_ | ((conv => whnf); first | exact trivial | exact rfl | refine And.intro ?_ ?_ | omega))
        all_goals first | exact Nat.zero_add _ | exact (congrArg aLink (appAll (xs := ([] : List Lnk))) : _)
      rintro ⟨j, L⟩ ⟨hj, hL⟩ ρ2 t2 hρ2
      have hj : j ≤ lt.length := hj
      have hL : L = ls ++ (lt.take j).map (shiftL bs.length) := hL
      have hLl : L.length ≤ ls.length + j := by rw [hL]; simp; omega
      dsimp only
      conv => whnf
      refine ⟨fun hc => ?_, fun hc => ?_⟩
      · have hlt : j < lt.length := by simpa using hc
        have hpr := properF_iff.1 (ht.lnk _ (List.getElem_mem hlt))
        have hnext : ∀ x, x = shiftL bs.length lt[j] → L ++ [x] = ls ++ (lt.take (j + 1)).map (shiftL bs.length) := by
          intro x hx
          rw [hx, hL, take_snoc hlt, List.map_append, List.append_assoc]; rfl
        conv => whnf
        refine ⟨j, rfl, hlt, hlt, ?_⟩
        conv => whnf
        refine ⟨fun hc => ?_, fun hc => ?_⟩
        · have h5 : 0 ≤ lt[j].f := of_decide_eq_true (show decide (0 ≤ lt[j].f) = true from hc)
          have e5 : lt[j].f + bs.length = shiftI bs.length lt[j].f := by unfold shiftI; rw [if_pos h5]
          conv => whnf
          refine ⟨lt[j].f + bs.length, wrapId (z := lt[j].f + bs.length) ⟨by omega, by omega⟩, ?_⟩
          conv => whnf
          refine ⟨fun hc => ?_, fun hc => ?_⟩
          · have h6 : 0 ≤ lt[j].t := of_decide_eq_true (show decide (0 ≤ lt[j].t) = true from hc)
            have e6 : lt[j].t + bs.length = shiftI bs.length lt[j].t := by unfold shiftI; rw [if_pos h6]
            conv => whnf
            refine ⟨lt[j].t + bs.length, wrapId (z := lt[j].t + bs.length) ⟨by omega, by omega⟩, ?_⟩
            conv => whnf
            refine bs_step tB_ok (aLink [⟨lt[j].f + bs.length, lt[j].t + bs.length, lt[j].m, lt[j].i⟩]) rfl rfl ?_
            conv => whnf
            refine ⟨(by repeat' (first | exact trivial | exact rfl | refine And.intro ?_ ?_ | ((conv => whnf); first | exact trivial | exact rfl | refine And.intro ?_ ?_ | omega))), ?_⟩
            conv => whnf
            refine app_step tB_ok (aLink L) [⟨lt[j].f + bs.length, lt[j].t + bs.length, lt[j].m, lt[j].i⟩] (fun _ => rfl) rfl rfl rfl rfl ?_
            conv => whnf
            refine ⟨⟨rfl, rfl, Nat.le_refl _, Nat.le_refl _, by show (L.length + 1) * 33 ≤ _; omega⟩, ?_⟩
            conv => whnf
            refine ⟨(j : Int) + 1, wrapId (z := (j : Int) + 1) ⟨by omega, by omega⟩, ?_⟩
            refine ⟨(j + 1, L ++ [⟨lt[j].f + bs.length, lt[j].t + bs.length, lt[j].m, lt[j].i⟩]), ⟨hlt, hnext _ (by unfold shiftL; rw [← e5, ← e6])⟩, by show lt.length - (j + 1) < lt.length - j; omega, ?_⟩
            conv => whnf
            refine ⟨rfl, ?_⟩
            conv => whnf
            repeat' (first | exact trivial | exact rfl | refine And.intro ?_ ?_ | ((conv => whnf); first | exact trivial | exact rfl | refine And.intro ?_ ?_ | omega))
            all_goals first | exact (congrArg aLink app1 : _) | simp
          · have h6 : ¬ 0 ≤ lt[j].t := of_decide_eq_false (show decide (0 ≤ lt[j].t) = false from hc)
            have e6 : lt[j].t = shiftI bs.length lt[j].t := by unfold shiftI; rw [if_neg h6]
            conv => whnf
            refine bs_step tB_ok (aLink [⟨lt[j].f + bs.length, lt[j].t, lt[j].m, lt[j].i⟩]) rfl rfl ?_
            conv => whnf
            refine ⟨(by repeat' (first | exact trivial | exact rfl | refine And.intro ?_ ?_ | ((conv => whnf); first | exact trivial | exact rfl | refine And.intro ?_ ?_ | omega))), ?_⟩
            conv => whnf
            refine app_step tB_ok (aLink L) [⟨lt[j].f + bs.length, lt[j].t, lt[j].m, lt[j].i⟩] (fun _ => rfl) rfl rfl rfl rfl ?_
            conv => whnf
            refine ⟨⟨rfl, rfl, Nat.le_refl _, Nat.le_refl _, by show (L.length + 1) * 33 ≤ _; omega⟩, ?_⟩
            conv => whnf
            refine ⟨(j : Int) + 1, wrapId (z := (j : Int) + 1) ⟨by omega, by omega⟩, ?_⟩
            refine ⟨(j + 1, L ++ [⟨lt[j].f + bs.length, lt[j].t, lt[j].m, lt[j].i⟩]), ⟨hlt, hnext _ (by unfold shiftL; rw [← e5, ← e6])⟩, by show lt.length - (j + 1) < lt.length - j; omega, ?_⟩
            conv => whnf
            refine ⟨rfl, ?_⟩
            conv => whnf
            repeat' (first | exact trivial | exact rfl | refine And.intro ?_ ?_ | ((conv => whnf); first | exact trivial | exact rfl | refine And.intro ?_ ?_ | omega))
            all_goals first | exact (congrArg aLink app1 : _) | simp
        · have h5 : ¬ 0 ≤ lt[j].f := of_decide_eq_false (show decide (0 ≤ lt[j].f) = false from hc)
          have e5 : lt[j].f = shiftI bs.length lt[j].f := by unfold shiftI; rw [if_neg h5]
          conv => whnf
          refine ⟨fun hc => ?_, fun hc => ?_⟩
          · have h6 : 0 ≤ lt[j].t := of_decide_eq_true (show decide (0 ≤ lt[j].t) = true from hc)
            have e6 : lt[j].t + bs.length = shiftI bs.length lt[j].t := by unfold shiftI; rw [if_pos h6]
            conv => whnf
            refine ⟨lt[j].t + bs.length, wrapId (z := lt[j].t + bs.length) ⟨by omega, by omega⟩, ?_⟩
            conv => whnf
            refine bs_step tB_ok (aLink [⟨lt[j].f, lt[j].t + bs.length, lt[j].m, lt[j].i⟩]) rfl rfl ?_
            conv => whnf
            refine ⟨(by repeat' (first | exact trivial | exact rfl | refine And.intro ?_ ?_ | ((conv => whnf); first | exact trivial | exact rfl | refine And.intro ?_ ?_ | omega))), ?_⟩
            conv => whnf
            refine app_step tB_ok (aLink L) [⟨lt[j].f, lt[j].t + bs.length, lt[j].m, lt[j].i⟩] (fun _ => rfl) rfl rfl rfl rfl ?_
            conv => whnf
            refine ⟨⟨rfl, rfl, Nat.le_refl _, Nat.le_refl _, by show (L.length + 1) * 33 ≤ _; omega⟩, ?_⟩
            conv => whnf
            refine ⟨(j : Int) + 1, wrapId (z := (j : Int) + 1) ⟨by omega, by omega⟩, ?_⟩
            refine ⟨(j + 1, L ++ [⟨lt[j].f, lt[j].t + bs.length, lt[j].m, lt[j].i⟩]), ⟨hlt, hnext _ (by unfold shiftL; rw [← e5, ← e6])⟩, by show lt.length - (j + 1) < lt.length - j; omega, ?_⟩
            conv => whnf
            refine ⟨rfl, ?_⟩
            conv => whnf
            repeat' (first | exact trivial | exact rfl | refine And.intro ?_ ?_ | ((conv => whnf); first | exact trivial | exact rfl | refine And.intro ?_ ?_ | omega))
            all_goals first | exact (congrArg aLink app1 : _) | simp
          · have h6 : ¬ 0 ≤ lt[j].t := of_decide_eq_false (show decide (0 ≤ lt[j].t) = false from hc)
            have e6 : lt[j].t = shiftI bs.length lt[j].t := by unfold shiftI; rw [if_neg h6]
            conv => whnf
            refine bs_step tB_ok (aLink [⟨lt[j].f, lt[j].t, lt[j].m, lt[j].i⟩]) rfl rfl ?_
            conv => whnf
            refine ⟨(by repeat' (first | exact trivial | exact rfl | refine And.intro ?_ ?_ | ((conv => whnf); first | exact trivial | exact rfl | refine And.intro ?_ ?_ | omega))), ?_⟩
            conv => whnf
            refine app_step tB_ok (aLink L) [⟨lt[j].f, lt[j].t, lt[j].m, lt[j].i⟩] (fun _ => rfl) rfl rfl rfl rfl ?_
            conv => whnf
            refine ⟨⟨rfl, rfl, Nat.le_refl _, Nat.le_refl _, by show (L.length + 1) * 33 ≤ _; omega⟩, ?_⟩
            conv => whnf
            refine ⟨(j : Int) + 1, wrapId (z := (j : Int) + 1) ⟨by omega, by omega⟩, ?_⟩
            refine ⟨(j + 1, L ++ [⟨lt[j].f, lt[j].t, lt[j].m, lt[j].i⟩]), ⟨hlt, hnext _ (by unfold shiftL; rw [← e5, ← e6])⟩, by show lt.length - (j + 1) < lt.length - j; omega, ?_⟩
            conv => whnf
            refine ⟨rfl, ?_⟩
            conv => whnf
            repeat' (first | exact trivial | exact rfl | refine And.intro ?_ ?_ | ((conv => whnf); first | exact trivial | exact rfl | refine And.intro ?_ ?_ | omega))
            all_goals first | exact (congrArg aLink app1 : _) | simp
      · have hje : j = lt.length := by simp at hc; omega
        rw [hje, List.take_length] at hL
        rw [← hL] at hF
        rw [hF]
        have e1 : 0 + bs.length + bt.length = (bs ++ bt).length := by simp
        conv => whnf
        repeat' (first | exact trivial | exact rfl | refine And.intro ?_ ?_ | ((conv => whnf); first | exact trivial | exact rfl | refine And.intro ?_ ?_ | omega))
        all_goals first | exact e1 | exact (congrArg aSpan appAll : _) | (show aSpan (List.take (0 + bs.length) bs ++ List.take bt.length (List.drop 0 bt)) = aSpan (bs ++ bt); rw [Nat.zero_add, appAll])
    · rw [if_pos (by simpa using h1)] at hF
      rw [hF]
      generalize checkF bt lt = c at *
      refine ⟨fun hcc => ?_, fun hcc => absurd (by simpa using hcc) h1⟩
      conv => whnf
      repeat' (first | exact trivial | exact rfl | refine And.intro ?_ ?_ | ((conv => whnf); first | exact trivial | exact rfl | refine And.intro ?_ ?_ | omega))
  · rw [if_pos (by simpa using h0)] at hF
    rw [hF]
    generalize checkF bs ls = c at *
    refine ⟨fun hcc => ?_, fun hcc => absurd (by simpa using hcc) h0⟩
    conv => whnf
    repeat' (first | exact trivial | exact rfl | refine And.intro ?_ ?_ | ((conv => whnf); first | exact trivial | exact rfl | refine And.intro ?_ ?_ | omega))

theorem linksEq_t (xs : List Lnk) (hb : xs.length ≤ 1000000) : Triple Try.prog 46 [.c (.s 0 0 xs.length 4), .c (.s 1 0 xs.length 4)] [(0, false, .arr (aLink xs)), (1, false, .arr (aLink xs))] 2 (bv true) [] := linksSame_t xs hb

theorem spansSame_t (xs : List (Int × Int)) (hb : xs.length ≤ 1000000) : Triple Try.prog 58 [.c (.s 0 0 xs.length 2), .c (.s 1 0 xs.length 2)] [(0, false, .arr (aSpan xs)), (1, false, .arr (aSpan xs))] 2 (bv true) [] := by
  refine triple_of tB_ok Try.func58 rfl Try.call58 rfl ?_
  intro ρ w hH
  conv => whnf
  refine ⟨fun hc => absurd hc (by simp), fun hc => ?_⟩
  conv => whnf
  refine loop_step tB_ok (G := Nat) 0 [] (fun i => [(5, iv .i64 i)]) (fun _ => []) (fun i => i ≤ xs.length) (fun i => xs.length - i) ?_
  conv => whnf
  refine ⟨⟨0, Nat.zero_le _, ?_⟩, ?_⟩
  · conv => whnf
    repeat' (first | exact trivial | exact rfl | refine And.intro ?_ ?_ | ((conv => whnf); first | exact trivial | exact rfl | refine And.intro ?_ ?_ | omega))
  intro i hi ρ1 t1 hρ1
  conv => whnf
  refine ⟨fun hc => ?_, fun hc => ?_⟩
  · have h : i < xs.length := by simpa using hc
    conv => whnf
    refine ⟨i, rfl, h, h, ?_⟩
    conv => whnf
    refine ⟨i, rfl, h, h, ?_⟩
    conv => whnf
    refine ⟨fun hc => absurd hc (by simp), fun hc => ?_⟩
    conv => whnf
    refine ⟨_, wrapId ⟨by omega, by omega⟩, ?_⟩
    refine ⟨i + 1, h, by show xs.length - (i + 1) < xs.length - i; omega, ?_⟩
    conv => whnf
    refine ⟨rfl, ?_⟩
    conv => whnf
    repeat' (first | exact trivial | exact rfl | refine And.intro ?_ ?_ | ((conv => whnf); first | exact trivial | exact rfl | refine And.intro ?_ ?_ | omega))
  · conv => whnf
    repeat' (first | exact trivial | exact rfl | refine And.intro ?_ ?_ | ((conv => whnf); first | exact trivial | exact rfl | refine And.intro ?_ ?_ | omega))

theorem mergeF_len {bs : List (Int × Int)} {ls : List Lnk} {bt : List (Int × Int)} {lt : List Lnk} (h1 : bs.length ≤ 1000) (h2 : ls.length ≤ 10000) (h3 : bt.length ≤ 1000) (h4 : lt.length ≤ 10000) : (mergeF bs ls bt lt).1.length ≤ 1000000 ∧ (mergeF bs ls bt lt).2.1.length ≤ 1000000 := by
  unfold mergeF
  split
  · simp
  · split
    · simp
    · split
      · simp
      · simp only [List.length_append, List.length_map]; omega

theorem systemMerges_t (bs : List (Int × Int)) (ls : List Lnk) (bt : List (Int × Int)) (lt : List Lnk) : Triple Try.prog 11 (sysA2 bs.length ls.length bt.length lt.length) (sysH2 bs ls bt lt) 4 (bv true) [] := by
  refine triple_of tB_ok Try.func11 rfl Try.call11 rfl ?_
  intro ρ w hH
  conv => whnf
  refine call_step head_t rfl rfl ?_
  conv => whnf
  refine ⟨(by repeat' (first | exact trivial | exact rfl | refine And.intro ?_ ?_ | ((conv => whnf); first | exact trivial | exact rfl | refine And.intro ?_ ?_ | omega))), (by repeat' (first | exact trivial | exact rfl | refine And.intro ?_ ?_ | ((conv => whnf); first | exact trivial | exact rfl | refine And.intro ?_ ?_ | omega))), ?_⟩
  conv => whnf
  refine call_step (some_t bs ls) rfl rfl ?_
  conv => whnf
  refine ⟨(by repeat' (first | exact trivial | exact rfl | refine And.intro ?_ ?_ | ((conv => whnf); first | exact trivial | exact rfl | refine And.intro ?_ ?_ | omega))), (by repeat' (first | exact trivial | exact rfl | refine And.intro ?_ ?_ | ((conv => whnf); first | exact trivial | exact rfl | refine And.intro ?_ ?_ | omega))), ?_⟩
  conv => whnf
  refine ⟨fun hc => ?_, fun hc => ?_⟩
  · conv => whnf
    repeat' (first | exact trivial | exact rfl | refine And.intro ?_ ?_ | ((conv => whnf); first | exact trivial | exact rfl | refine And.intro ?_ ?_ | omega))
  have h1 : (decide (bs.length ≤ 480) && decide (ls.length ≤ 2400)) = true := by simpa using (show (!(decide (bs.length ≤ 480) && decide (ls.length ≤ 2400))) = false from hc)
  simp only [Bool.and_eq_true, decide_eq_true_eq] at h1
  conv => whnf
  refine call_step (some_t bt lt) rfl rfl ?_
  conv => whnf
  refine ⟨(by repeat' (first | exact trivial | exact rfl | refine And.intro ?_ ?_ | ((conv => whnf); first | exact trivial | exact rfl | refine And.intro ?_ ?_ | omega))), (by repeat' (first | exact trivial | exact rfl | refine And.intro ?_ ?_ | ((conv => whnf); first | exact trivial | exact rfl | refine And.intro ?_ ?_ | omega))), ?_⟩
  conv => whnf
  refine ⟨fun hc => ?_, fun hc => ?_⟩
  · conv => whnf
    repeat' (first | exact trivial | exact rfl | refine And.intro ?_ ?_ | ((conv => whnf); first | exact trivial | exact rfl | refine And.intro ?_ ?_ | omega))
  have h2 : (decide (bt.length ≤ 480) && decide (lt.length ≤ 2400)) = true := by simpa using (show (!(decide (bt.length ≤ 480) && decide (lt.length ≤ 2400))) = false from hc)
  simp only [Bool.and_eq_true, decide_eq_true_eq] at h2
  have hm := mergeF_len (bs := bs) (ls := ls) (bt := bt) (lt := lt) (by omega) (by omega) (by omega) (by omega)
  have m1 := merge_t bs ls bt lt (by omega) (by omega) (by omega) (by omega)
  have m2 := refMerge_t bs ls bt lt (by omega) (by omega) (by omega) (by omega)
  generalize mergeF bs ls bt lt = R at *
  obtain ⟨RB, RL, e⟩ := R
  obtain ⟨hm1, hm2⟩ := hm
  have hm1 : RB.length ≤ 1000000 := hm1
  have hm2 : RL.length ≤ 1000000 := hm2
  conv => whnf
  refine call_step m1 rfl rfl ?_
  conv => whnf
  refine ⟨(by repeat' (first | exact trivial | exact rfl | refine And.intro ?_ ?_ | ((conv => whnf); first | exact trivial | exact rfl | refine And.intro ?_ ?_ | omega))), (by repeat' (first | exact trivial | exact rfl | refine And.intro ?_ ?_ | ((conv => whnf); first | exact trivial | exact rfl | refine And.intro ?_ ?_ | omega))), ?_⟩
  conv => whnf
  refine call_step m2 rfl rfl ?_
  conv => whnf
  refine ⟨(by repeat' (first | exact trivial | exact rfl | refine And.intro ?_ ?_ | ((conv => whnf); first | exact trivial | exact rfl | refine And.intro ?_ ?_ | omega))), (by repeat' (first | exact trivial | exact rfl | refine And.intro ?_ ?_ | ((conv => whnf); first | exact trivial | exact rfl | refine And.intro ?_ ?_ | omega))), ?_⟩
  conv => whnf
  refine call_step (spansSame_t RB hm1) rfl rfl ?_
  conv => whnf
  refine ⟨(by repeat' (first | exact trivial | exact rfl | refine And.intro ?_ ?_ | ((conv => whnf); first | exact trivial | exact rfl | refine And.intro ?_ ?_ | omega))), (by repeat' (first | exact trivial | exact rfl | refine And.intro ?_ ?_ | ((conv => whnf); first | exact trivial | exact rfl | refine And.intro ?_ ?_ | omega))), ?_⟩
  conv => whnf
  refine call_step (linksEq_t RL hm2) rfl rfl ?_
  conv => whnf
  refine ⟨(by repeat' (first | exact trivial | exact rfl | refine And.intro ?_ ?_ | ((conv => whnf); first | exact trivial | exact rfl | refine And.intro ?_ ?_ | omega))), (by repeat' (first | exact trivial | exact rfl | refine And.intro ?_ ?_ | ((conv => whnf); first | exact trivial | exact rfl | refine And.intro ?_ ?_ | omega))), ?_⟩
  conv => whnf
  refine ⟨fun hc => ?_, fun hc => absurd hc (by simp)⟩
  conv => whnf
  refine ⟨fun hc => ?_, fun hc => absurd hc (by simp)⟩
  conv => whnf
  refine ⟨fun hc => ?_, fun hc => absurd hc (by simp)⟩
  conv => whnf
  repeat' (first | exact trivial | exact rfl | refine And.intro ?_ ?_ | ((conv => whnf); first | exact trivial | exact rfl | refine And.intro ?_ ?_ | omega))

end Go.Proofs

