/-
  A part of the proof that a law of dryweightlaw03 answers true: lemmas of a symbolic walk, plain functions, or contracts of the functions walked (Xi, Xu, Xv). Conditions: none.
-/
import Derived.Test.YtjjfadfmdodmnaaPart25
import Derived.Test.YtjjfadfmdodmnaaPart24
set_option maxRecDepth 100000
set_option linter.unusedVariables false
set_option linter.unusedSimpArgs false
namespace Go.Proofs
open Go.Sx

abbrev putH (bs : List (Int × Int)) (ls l : List Lnk) : Heap := [(0, true, netC 1 2 bs.length ls.length), (1, false, .arr (aSpan bs)), (2, false, .arr (aLink ls)), (3, false, .arr (aLink l))]

theorem putLim_t (bs : List (Int × Int)) (ls l : List Lnk) (h1 : ls.length ≤ 1000000) (h2 : l.length ≤ 1000000) (h : 1200 < ls.length + l.length) :
    Triple Try.prog 53 [.c (.p 0 0 0 0), .c (.s 3 0 l.length 4)] (putH bs ls l) 4 (.tup [.inl (.v (.slice none 0 0)), .inl (.v (.int .i64 2))]) [(0, true, netC 1 2 bs.length ls.length)] := by
  refine triple_of tB_ok Try.func53 rfl Try.call53 rfl ?_
  intro ρ w hH
  conv => whnf
  refine ⟨(ls.length : Int) + l.length, wrapId (z := (ls.length : Int) + l.length) ⟨by omega, by omega⟩, ?_⟩
  conv => whnf
  refine ⟨fun hc => ?_, fun hc => absurd (of_decide_eq_false (show decide ((1200 : Int) < (ls.length : Int) + l.length) = false from hc)) (by omega)⟩
  conv => whnf
  repeat' (first | exact trivial | exact rfl | refine And.intro ?_ ?_ | ((conv => whnf); first | exact trivial | exact rfl | refine And.intro ?_ ?_ | omega))

theorem putArg_t (bs : List (Int × Int)) (ls l : List Lnk) (hb : bs.length ≤ 1000000) (h : ls.length + l.length ≤ 1200) (hp : (l.all fun x => properF x bs.length) = false) :
    Triple Try.prog 53 [.c (.p 0 0 0 0), .c (.s 3 0 l.length 4)] (putH bs ls l) 4 (.tup [.inl (.v (.slice none 0 0)), .inl (.v (.int .i64 1))]) [(0, true, netC 1 2 bs.length ls.length)] := by
  refine triple_of tB_ok Try.func53 rfl Try.call53 rfl ?_
  intro ρ w hH
  conv => whnf
  refine ⟨(ls.length : Int) + l.length, wrapId (z := (ls.length : Int) + l.length) ⟨by omega, by omega⟩, ?_⟩
  conv => whnf
  refine ⟨fun hc => absurd (of_decide_eq_true (show decide ((1200 : Int) < (ls.length : Int) + l.length) = true from hc)) (by omega), fun hc => ?_⟩
  conv => whnf
  refine call_step (contains_t bs ls hb l (by omega)) rfl rfl ?_
  conv => whnf
  refine ⟨(by repeat' (first | exact trivial | exact rfl | refine And.intro ?_ ?_ | ((conv => whnf); first | exact trivial | exact rfl | refine And.intro ?_ ?_ | omega))), (by repeat' (first | exact trivial | exact rfl | refine And.intro ?_ ?_ | ((conv => whnf); first | exact trivial | exact rfl | refine And.intro ?_ ?_ | omega))), ?_⟩
  conv => whnf
  rw [hp]
  refine ⟨fun hc => ?_, fun hc => absurd hc (by simp)⟩
  conv => whnf
  repeat' (first | exact trivial | exact rfl | refine And.intro ?_ ?_ | ((conv => whnf); first | exact trivial | exact rfl | refine And.intro ?_ ?_ | omega))

theorem putClash_t (bs : List (Int × Int)) (ls l : List Lnk) (v : Nat) (P kk : Nat → Nat) (M : Nat) (hs : SysOK bs (ls ++ l)) (hch : (shortF bs.length noRev (graphF bs (ls ++ l) 0) bs.length).2 = ((v : Nat) : Int)) (h : Cyc bs.length (graphF bs (ls ++ l) 0) (shortF bs.length noRev (graphF bs (ls ++ l) 0) bs.length).1 v P kk M) :
    Triple Try.prog 53 [.c (.p 0 0 0 0), .c (.s 3 0 l.length 4)] (putH bs ls l) 4 (.tup [.inl (.s 4 0 (cycL bs.length (graphF bs (ls ++ l) 0) kk M).reverse.length 4), .inl (.v (.int .i64 9))]) [(0, true, netC 1 2 bs.length ls.length), (4, true, .arr (aLink (cycL bs.length (graphF bs (ls ++ l) 0) kk M).reverse))] := by
  refine triple_of tB_ok Try.func53 rfl Try.call53 rfl ?_
  intro ρ w hH
  conv => whnf
  have hnb := hs.nb
  have hnl := hs.nl
  rw [List.length_append] at hnl
  have hp : (l.all fun x => properF x bs.length) = true := List.all_eq_true.2 fun x hx => hs.lnk x (List.mem_append.2 (.inr hx))
  have hgl := graphF_len hs 0
  refine ⟨(ls.length : Int) + l.length, wrapId (z := (ls.length : Int) + l.length) ⟨by omega, by omega⟩, ?_⟩
  conv => whnf
  refine ⟨fun hc => absurd (of_decide_eq_true (show decide ((1200 : Int) < (ls.length : Int) + l.length) = true from hc)) (by omega), fun hc => ?_⟩
  conv => whnf
  refine call_step (contains_t bs ls (by omega) l (by omega)) rfl rfl ?_
  conv => whnf
  refine ⟨(by repeat' (first | exact trivial | exact rfl | refine And.intro ?_ ?_ | ((conv => whnf); first | exact trivial | exact rfl | refine And.intro ?_ ?_ | omega))), (by repeat' (first | exact trivial | exact rfl | refine And.intro ?_ ?_ | ((conv => whnf); first | exact trivial | exact rfl | refine And.intro ?_ ?_ | omega))), ?_⟩
  conv => whnf
  rw [hp]
  refine ⟨fun hc => absurd hc (by simp), fun hc => ?_⟩
  conv => whnf
  refine bsN_step tB_ok ((aRows 1 [1, 2] [[.s 1 0 ls.length 4], [.s 2 0 l.length 4]]).ren (rnf [(2, 3), (1, 2), (0, 5)])) rfl ?_
  conv => whnf
  refine ⟨(by repeat' (first | exact trivial | exact rfl | refine And.intro ?_ ?_ | ((conv => whnf); first | exact trivial | exact rfl | refine And.intro ?_ ?_ | omega))), ?_⟩
  conv => whnf
  refine call_step (concatLink_t ls l (by omega) (by omega)) rfl rfl ?_
  conv => whnf
  refine ⟨(by repeat' (first | exact trivial | exact rfl | refine And.intro ?_ ?_ | ((conv => whnf); first | exact trivial | exact rfl | refine And.intro ?_ ?_ | omega))), (by repeat' (first | exact trivial | exact rfl | refine And.intro ?_ ?_ | ((conv => whnf); first | exact trivial | exact rfl | refine And.intro ?_ ?_ | omega))), ?_⟩
  conv => whnf
  refine call_step (graphOf_t bs (ls ++ l) 0 (by omega) hs.boxB (by rw [List.length_append]; omega)) rfl rfl ?_
  conv => whnf
  refine ⟨(by repeat' (first | exact trivial | exact rfl | refine And.intro ?_ ?_ | ((conv => whnf); first | exact trivial | exact rfl | refine And.intro ?_ ?_ | omega))), (by repeat' (first | exact trivial | exact rfl | refine And.intro ?_ ?_ | ((conv => whnf); first | exact trivial | exact rfl | refine And.intro ?_ ?_ | omega))), ?_⟩
  conv => whnf
  refine call_step (clash_t bs.length (graphF bs (ls ++ l) 0) v P kk M (by omega) (by omega) (graphF_ok hs 0) hch h) rfl rfl ?_
  conv => whnf
  refine ⟨(by repeat' (first | exact trivial | exact rfl | refine And.intro ?_ ?_ | ((conv => whnf); first | exact trivial | exact rfl | refine And.intro ?_ ?_ | omega))), (by repeat' (first | exact trivial | exact rfl | refine And.intro ?_ ?_ | ((conv => whnf); first | exact trivial | exact rfl | refine And.intro ?_ ?_ | omega))), ?_⟩
  conv => whnf
  repeat' (first | exact trivial | exact rfl | refine And.intro ?_ ?_ | ((conv => whnf); first | exact trivial | exact rfl | refine And.intro ?_ ?_ | omega))

theorem putOk_t (bs : List (Int × Int)) (ls l : List Lnk) (hs : SysOK bs (ls ++ l)) (h : Calm bs (ls ++ l) 0) :
    Triple Try.prog 53 [.c (.p 0 0 0 0), .c (.s 3 0 l.length 4)] (putH bs ls l) 4 (.tup [.inl (.v (.slice none 0 0)), .inl (.v (.int .i64 0))]) [(0, true, netC 1 4 bs.length (ls ++ l).length), (4, true, .arr (aLink (ls ++ l)))] := by
  refine triple_of tB_ok Try.func53 rfl Try.call53 rfl ?_
  intro ρ w hH
  conv => whnf
  have hnb := hs.nb
  have hnl := hs.nl
  rw [List.length_append] at hnl
  have hp : (l.all fun x => properF x bs.length) = true := List.all_eq_true.2 fun x hx => hs.lnk x (List.mem_append.2 (.inr hx))
  have hgl := graphF_len hs 0
  refine ⟨(ls.length : Int) + l.length, wrapId (z := (ls.length : Int) + l.length) ⟨by omega, by omega⟩, ?_⟩
  conv => whnf
  refine ⟨fun hc => absurd (of_decide_eq_true (show decide ((1200 : Int) < (ls.length : Int) + l.length) = true from hc)) (by omega), fun hc => ?_⟩
  conv => whnf
  refine call_step (contains_t bs ls (by omega) l (by omega)) rfl rfl ?_
  conv => whnf
  refine ⟨(by repeat' (first | exact trivial | exact rfl | refine And.intro ?_ ?_ | ((conv => whnf); first | exact trivial | exact rfl | refine And.intro ?_ ?_ | omega))), (by repeat' (first | exact trivial | exact rfl | refine And.intro ?_ ?_ | ((conv => whnf); first | exact trivial | exact rfl | refine And.intro ?_ ?_ | omega))), ?_⟩
  conv => whnf
  rw [hp]
  refine ⟨fun hc => absurd hc (by simp), fun hc => ?_⟩
  conv => whnf
  refine bsN_step tB_ok ((aRows 1 [1, 2] [[.s 1 0 ls.length 4], [.s 2 0 l.length 4]]).ren (rnf [(2, 3), (1, 2), (0, 5)])) rfl ?_
  conv => whnf
  refine ⟨(by repeat' (first | exact trivial | exact rfl | refine And.intro ?_ ?_ | ((conv => whnf); first | exact trivial | exact rfl | refine And.intro ?_ ?_ | omega))), ?_⟩
  conv => whnf
  refine call_step (concatLink_t ls l (by omega) (by omega)) rfl rfl ?_
  conv => whnf
  refine ⟨(by repeat' (first | exact trivial | exact rfl | refine And.intro ?_ ?_ | ((conv => whnf); first | exact trivial | exact rfl | refine And.intro ?_ ?_ | omega))), (by repeat' (first | exact trivial | exact rfl | refine And.intro ?_ ?_ | ((conv => whnf); first | exact trivial | exact rfl | refine And.intro ?_ ?_ | omega))), ?_⟩
  conv => whnf
  refine call_step (graphOf_t bs (ls ++ l) 0 (by omega) hs.boxB (by rw [List.length_append]; omega)) rfl rfl ?_
  conv => whnf
  refine ⟨(by repeat' (first | exact trivial | exact rfl | refine And.intro ?_ ?_ | ((conv => whnf); first | exact trivial | exact rfl | refine And.intro ?_ ?_ | omega))), (by repeat' (first | exact trivial | exact rfl | refine And.intro ?_ ?_ | ((conv => whnf); first | exact trivial | exact rfl | refine And.intro ?_ ?_ | omega))), ?_⟩
  conv => whnf
  refine call_step (clashNone_t bs.length (graphF bs (ls ++ l) 0) (by omega) (by omega) (graphF_ok hs 0) h) rfl rfl ?_
  conv => whnf
  refine ⟨(by repeat' (first | exact trivial | exact rfl | refine And.intro ?_ ?_ | ((conv => whnf); first | exact trivial | exact rfl | refine And.intro ?_ ?_ | omega))), (by repeat' (first | exact trivial | exact rfl | refine And.intro ?_ ?_ | ((conv => whnf); first | exact trivial | exact rfl | refine And.intro ?_ ?_ | omega))), ?_⟩
  conv => whnf
  repeat' (first | exact trivial | exact rfl | refine And.intro ?_ ?_ | ((conv => whnf); first | exact trivial | exact rfl | refine And.intro ?_ ?_ | omega))

/-! ### Boxes -/

def revL (l : Lnk) : Lnk := ⟨l.t, l.f, l.m, 0⟩

theorem revL_ok {n : Nat} {arcs : List Lnk} (h : ∀ l ∈ arcs, ArcOK n l) : ∀ l ∈ arcs.map revL, ArcOK n l := by
  intro l hl
  obtain ⟨x, hx, rfl⟩ := List.mem_map.1 hl
  obtain ⟨h1, h2, h3⟩ := h x hx
  exact ⟨h2, h1, h3⟩

def boxesF (n : Nat) (arcs : List Lnk) : List (Int × Int) := (List.range n).map fun v => (-(shortF n noRev (arcs.map revL) n).1.sum.getD v 0, (shortF n noRev arcs n).1.sum.getD v 0)

theorem boxes_t (bs : List (Int × Int)) (ls : List Lnk) (hs : SysOK bs ls) :
    Triple Try.prog 69 [.c (.p 0 0 0 0)] (netH bs ls) 3 (.c (.s 3 0 (boxesF bs.length (graphF bs ls 0)).length 2)) [(3, true, .arr (aSpan (boxesF bs.length (graphF bs ls 0))))] := by
  refine triple_of tB_ok Try.func69 rfl Try.call69 rfl ?_
  intro ρ w hH
  conv => whnf
  have hnb := hs.nb
  have hnl := hs.nl
  have hgl := graphF_len hs 0
  refine call_step (graphOf_t bs ls 0 (by omega) hs.boxB (by omega)) rfl rfl ?_
  conv => whnf
  refine ⟨(by repeat' (first | exact trivial | exact rfl | refine And.intro ?_ ?_ | ((conv => whnf); first | exact trivial | exact rfl | refine And.intro ?_ ?_ | omega))), (by repeat' (first | exact trivial | exact rfl | refine And.intro ?_ ?_ | ((conv => whnf); first | exact trivial | exact rfl | refine And.intro ?_ ?_ | omega))), ?_⟩
  conv => whnf
  have hok := graphF_ok hs 0
  have hB : boxesF bs.length (graphF bs ls 0) = (List.range bs.length).map fun v => (-(shortF bs.length noRev ((graphF bs ls 0).map revL) bs.length).1.sum.getD v 0, (shortF bs.length noRev (graphF bs ls 0) bs.length).1.sum.getD v 0) := rfl
  generalize boxesF bs.length (graphF bs ls 0) = res at *
  generalize graphF bs ls 0 = arcs at *
  generalize bs.length = n at *
  refine call_step (plain_t n arcs n (by omega) (by omega) hok (Nat.le_refl _)) rfl rfl ?_
  conv => whnf
  refine ⟨(by repeat' (first | exact trivial | exact rfl | refine And.intro ?_ ?_ | ((conv => whnf); first | exact trivial | exact rfl | refine And.intro ?_ ?_ | omega))), (by repeat' (first | exact trivial | exact rfl | refine And.intro ?_ ?_ | ((conv => whnf); first | exact trivial | exact rfl | refine And.intro ?_ ?_ | omega))), ?_⟩
  conv => whnf
  have hlen := shortF_len n noRev arcs n hok
  have hbd := shortF_bd n noRev arcs n (by omega) (by omega) hok
  generalize (shortF n noRev arcs n).2 = c2 at *
  generalize (shortF n noRev arcs n).1 = T at *
  obtain ⟨hl1, hl2, hl3⟩ := hlen
  refine loop_step tB_ok (G := Nat × List Lnk) 1 [] (fun g => [(38, iv .i64 g.1)]) (fun g => [(9, true, .cells [.v (.int .i64 n), .s 10 0 g.2.length 4]), (10, true, .arr (aLink g.2))]) (fun g => g.1 ≤ arcs.length ∧ g.2 = (arcs.take g.1).map revL) (fun g => arcs.length - g.1) ?_
  conv => whnf
  refine ⟨⟨(0, []), ⟨Nat.zero_le _, rfl⟩, ?_⟩, ?_⟩
  · conv => whnf
    repeat' (first | exact trivial | exact rfl | refine And.intro ?_ ?_ | ((conv => whnf); first | exact trivial | exact rfl | refine And.intro ?_ ?_ | omega))
  rintro ⟨i, xs⟩ ⟨hi, hxs⟩ ρ1 t1 hρ1
  have hi : i ≤ arcs.length := hi
  have hxs : xs = (arcs.take i).map revL := hxs
  have hxl : xs.length ≤ arcs.length := by rw [hxs, List.length_map, List.length_take]; omega
  dsimp only
  conv => whnf
  refine ⟨fun hc => ?_, fun hc => ?_⟩
  · have hlt : i < arcs.length := by have := of_decide_eq_true (show decide ((i : Int) < arcs.length) = true from hc); omega
    have hst : xs ++ [revL arcs[i]] = (arcs.take (i + 1)).map revL := by rw [hxs, take_snoc hlt, List.map_append]; rfl
    conv => whnf
    refine ⟨i, rfl, hlt, hlt, ?_⟩
    conv => whnf
    refine bs_step tB_ok (aLink [revL arcs[i]]) rfl rfl ?_
    conv => whnf
    refine ⟨(by repeat' (first | exact trivial | exact rfl | refine And.intro ?_ ?_ | ((conv => whnf); first | exact trivial | exact rfl | refine And.intro ?_ ?_ | omega))), ?_⟩
    conv => whnf
    refine app_step tB_ok (aLink xs) [revL arcs[i]] (fun _ => rfl) rfl rfl rfl rfl ?_
    conv => whnf
    refine ⟨⟨rfl, rfl, Nat.le_refl _, Nat.le_refl _, by show (xs.length + 1) * 33 ≤ _; omega⟩, ?_⟩
    conv => whnf
    refine ⟨(i : Int) + 1, wrapId (z := (i : Int) + 1) ⟨by omega, by omega⟩, ?_⟩
    refine ⟨(i + 1, xs ++ [revL arcs[i]]), ⟨hlt, hst⟩, by show arcs.length - (i + 1) < arcs.length - i; omega, ?_⟩
    conv => whnf
    refine ⟨rfl, ?_⟩
    conv => whnf
    repeat' (first | exact trivial | exact rfl | refine And.intro ?_ ?_ | ((conv => whnf); first | exact trivial | exact rfl | refine And.intro ?_ ?_ | omega))
    all_goals first | exact (congrArg aLink app1 : _) | simp
  have hie : i = arcs.length := by have := of_decide_eq_false (show decide ((i : Int) < arcs.length) = false from hc); omega
  rw [hie, List.take_length] at hxs
  have hokr := revL_ok hok
  rw [← hxs] at hokr hB
  conv => whnf
  refine call_step (plain_t n xs n (by omega) (by omega) hokr (Nat.le_refl _)) rfl rfl ?_
  conv => whnf
  refine ⟨(by repeat' (first | exact trivial | exact rfl | refine And.intro ?_ ?_ | ((conv => whnf); first | exact trivial | exact rfl | refine And.intro ?_ ?_ | omega))), (by repeat' (first | exact trivial | exact rfl | refine And.intro ?_ ?_ | ((conv => whnf); first | exact trivial | exact rfl | refine And.intro ?_ ?_ | omega))), ?_⟩
  conv => whnf
  have hlenr := shortF_len n noRev xs n hokr
  have hbdr := shortF_bd n noRev xs n (by omega) (by omega) hokr
  generalize (shortF n noRev xs n).2 = c3 at *
  generalize (shortF n noRev xs n).1 = U at *
  obtain ⟨hm1, hm2, hm3⟩ := hlenr
  refine loop_step tB_ok (G := Nat × List (Int × Int)) 1 [] (fun g => [(72, iv .i64 g.1), (11, .c (.s 15 0 g.2.length 2))]) (fun g => [(15, true, .arr (aSpan g.2))]) (fun g => g.1 ≤ n ∧ g.2 = (List.range g.1).map fun v => (-U.sum.getD v 0, T.sum.getD v 0)) (fun g => n - g.1) ?_
  conv => whnf
  refine ⟨⟨(0, []), ⟨Nat.zero_le _, rfl⟩, ?_⟩, ?_⟩
  · conv => whnf
    repeat' (first | exact trivial | exact rfl | refine And.intro ?_ ?_ | ((conv => whnf); first | exact trivial | exact rfl | refine And.intro ?_ ?_ | omega))
  rintro ⟨v, ys⟩ ⟨hv, hys⟩ ρ2 t2 hρ2
  have hv : v ≤ n := hv
  have hys : ys = (List.range v).map fun v => (-U.sum.getD v 0, T.sum.getD v 0) := hys
  have hyl : ys.length = v := by rw [hys]; simp
  dsimp only
  conv => whnf
  refine ⟨fun hc => ?_, fun hc => ?_⟩
  · have hlt : v < n := by have := of_decide_eq_true (show decide ((v : Int) < n) = true from hc); omega
    have h1 : v < U.sum.length := by omega
    have h2 : v < T.sum.length := by omega
    have b1 := hbdr v
    rw [getD_of h1] at b1
    have hst : ys ++ [(-U.sum[v], T.sum[v])] = (List.range (v + 1)).map fun v => (-U.sum.getD v 0, T.sum.getD v 0) := by
      rw [hys, List.range_succ, List.map_append, List.map_cons, List.map_nil, getD_of h1, getD_of h2]
    conv => whnf
    refine ⟨v, rfl, by omega, h1, ?_⟩
    conv => whnf
    refine ⟨-U.sum[v], by show IntKind.i64.wrap (0 - U.sum[v]) = -U.sum[v]; rw [wrapId ⟨by omega, by omega⟩]; omega, ?_⟩
    conv => whnf
    refine ⟨v, rfl, by omega, h2, ?_⟩
    conv => whnf
    refine bs_step tB_ok (aSpan [(-U.sum[v], T.sum[v])]) rfl rfl ?_
    conv => whnf
    refine ⟨(by repeat' (first | exact trivial | exact rfl | refine And.intro ?_ ?_ | ((conv => whnf); first | exact trivial | exact rfl | refine And.intro ?_ ?_ | omega))), ?_⟩
    conv => whnf
    refine app_step tB_ok (aSpan ys) [(-U.sum[v], T.sum[v])] (fun _ => rfl) rfl rfl rfl rfl ?_
    conv => whnf
    refine ⟨⟨rfl, rfl, Nat.le_refl _, Nat.le_refl _, by show (ys.length + 1) * 17 ≤ _; omega⟩, ?_⟩
    conv => whnf
    refine ⟨(v : Int) + 1, wrapId (z := (v : Int) + 1) ⟨by omega, by omega⟩, ?_⟩
    refine ⟨(v + 1, ys ++ [(-U.sum[v], T.sum[v])]), ⟨hlt, hst⟩, by show n - (v + 1) < n - v; omega, ?_⟩
    conv => whnf
    refine ⟨rfl, ?_⟩
    conv => whnf
    repeat' (first | exact trivial | exact rfl | refine And.intro ?_ ?_ | ((conv => whnf); first | exact trivial | exact rfl | refine And.intro ?_ ?_ | omega))
    all_goals first | exact (congrArg aSpan app1 : _) | simp
  have hve : v = n := by have := of_decide_eq_false (show decide ((v : Int) < n) = false from hc); omega
  rw [hve, ← hB] at hys
  subst hys
  conv => whnf
  repeat' (first | exact trivial | exact rfl | refine And.intro ?_ ?_ | ((conv => whnf); first | exact trivial | exact rfl | refine And.intro ?_ ?_ | omega))

def refBoxesF (n : Nat) (arcs : List Lnk) : List (Int × Int) := (List.range n).map fun v => (-greatF n arcs (v : Nat) (-1), greatF n arcs (-1) (v : Nat))

theorem refBoxes_t (bs : List (Int × Int)) (ls : List Lnk) (hs : SysOK bs ls) :
    Triple Try.prog 70 [sysA bs.length ls.length] (sysH bs ls) 2 (.c (.s 2 0 (refBoxesF bs.length (allF bs ls)).length 2)) [(2, true, .arr (aSpan (refBoxesF bs.length (allF bs ls))))] := by
  refine triple_of tB_ok Try.func70 rfl Try.call70 rfl ?_
  intro ρ w hH
  conv => whnf
  have hnb := hs.nb
  have hnl := hs.nl
  have hal := allF_le hs
  have hB : refBoxesF bs.length (allF bs ls) = (List.range bs.length).map fun v => (-greatF bs.length (allF bs ls) (v : Nat) (-1), greatF bs.length (allF bs ls) (-1) (v : Nat)) := rfl
  generalize refBoxesF bs.length (allF bs ls) = res at *
  refine loop_step tB_ok (G := Nat × List (Int × Int)) 1 [] (fun g => [(4, iv .i64 g.1), (3, .c (.s 3 0 g.2.length 2))]) (fun g => [(3, true, .arr (aSpan g.2))]) (fun g => g.1 ≤ bs.length ∧ g.2 = (List.range g.1).map fun v => (-greatF bs.length (allF bs ls) (v : Nat) (-1), greatF bs.length (allF bs ls) (-1) (v : Nat))) (fun g => bs.length - g.1) ?_
  conv => whnf
  refine ⟨⟨(0, []), ⟨Nat.zero_le _, rfl⟩, ?_⟩, ?_⟩
  · conv => whnf
    repeat' (first | exact trivial | exact rfl | refine And.intro ?_ ?_ | ((conv => whnf); first | exact trivial | exact rfl | refine And.intro ?_ ?_ | omega))
  rintro ⟨v, ys⟩ ⟨hv, hys⟩ ρ2 t2 hρ2
  have hv : v ≤ bs.length := hv
  have hys : ys = (List.range v).map fun v => (-greatF bs.length (allF bs ls) (v : Nat) (-1), greatF bs.length (allF bs ls) (-1) (v : Nat)) := hys
  have hyl : ys.length = v := by rw [hys]; simp
  dsimp only
  conv => whnf
  refine ⟨fun hc => ?_, fun hc => ?_⟩
  · have hlt : v < bs.length := by simpa using hc
    have b1 := greatF_bd (n := bs.length) (arcs := allF bs ls) (v : Nat) (-1) (by omega) (by omega) (allF_ok hs)
    have hst : ys ++ [(-greatF bs.length (allF bs ls) (v : Nat) (-1), greatF bs.length (allF bs ls) (-1) (v : Nat))] = (List.range (v + 1)).map fun v => (-greatF bs.length (allF bs ls) (v : Nat) (-1), greatF bs.length (allF bs ls) (-1) (v : Nat)) := by
      rw [hys, List.range_succ, List.map_append]; rfl
    conv => whnf
    refine call_step (greatest_t bs ls (v : Nat) (-1) (by omega) hs.boxB (by omega) (allF_ok hs) ⟨by omega, by omega⟩ ⟨by omega, by omega⟩) rfl rfl ?_
    conv => whnf
    refine ⟨(by repeat' (first | exact trivial | exact rfl | refine And.intro ?_ ?_ | ((conv => whnf); first | exact trivial | exact rfl | refine And.intro ?_ ?_ | omega))), (by repeat' (first | exact trivial | exact rfl | refine And.intro ?_ ?_ | ((conv => whnf); first | exact trivial | exact rfl | refine And.intro ?_ ?_ | omega))), ?_⟩
    conv => whnf
    refine ⟨-greatF bs.length (allF bs ls) (v : Nat) (-1), by rw [wrapId ⟨by omega, by omega⟩]; omega, ?_⟩
    conv => whnf
    refine call_step (greatest_t bs ls (-1) (v : Nat) (by omega) hs.boxB (by omega) (allF_ok hs) ⟨by omega, by omega⟩ ⟨by omega, by omega⟩) rfl rfl ?_
    conv => whnf
    refine ⟨(by repeat' (first | exact trivial | exact rfl | refine And.intro ?_ ?_ | ((conv => whnf); first | exact trivial | exact rfl | refine And.intro ?_ ?_ | omega))), (by repeat' (first | exact trivial | exact rfl | refine And.intro ?_ ?_ | ((conv => whnf); first | exact trivial | exact rfl | refine And.intro ?_ ?_ | omega))), ?_⟩
    conv => whnf
    refine bs_step tB_ok (aSpan [(-greatF bs.length (allF bs ls) (v : Nat) (-1), greatF bs.length (allF bs ls) (-1) (v : Nat))]) rfl rfl ?_
    conv => whnf
    refine ⟨(by repeat' (first | exact trivial | exact rfl | refine And.intro ?_ ?_ | ((conv => whnf); first | exact trivial | exact rfl | refine And.intro ?_ ?_ | omega))), ?_⟩
    conv => whnf
    refine app_step tB_ok (aSpan ys) [(-greatF bs.length (allF bs ls) (v : Nat) (-1), greatF bs.length (allF bs ls) (-1) (v : Nat))] (fun _ => rfl) rfl rfl rfl rfl ?_
    conv => whnf
    refine ⟨⟨rfl, rfl, Nat.le_refl _, Nat.le_refl _, by show (ys.length + 1) * 17 ≤ _; omega⟩, ?_⟩
    conv => whnf
    refine ⟨(v : Int) + 1, wrapId (z := (v : Int) + 1) ⟨by omega, by omega⟩, ?_⟩
    refine ⟨(v + 1, ys ++ [(-greatF bs.length (allF bs ls) (v : Nat) (-1), greatF bs.length (allF bs ls) (-1) (v : Nat))]), ⟨hlt, hst⟩, by show bs.length - (v + 1) < bs.length - v; omega, ?_⟩
    conv => whnf
    refine ⟨rfl, ?_⟩
    conv => whnf
    repeat' (first | exact trivial | exact rfl | refine And.intro ?_ ?_ | ((conv => whnf); first | exact trivial | exact rfl | refine And.intro ?_ ?_ | omega))
    all_goals first | exact (congrArg aSpan app1 : _) | simp
  have hve : v = bs.length := by simp at hc; omega
  rw [hve, ← hB] at hys
  subst hys
  conv => whnf
  repeat' (first | exact trivial | exact rfl | refine And.intro ?_ ?_ | ((conv => whnf); first | exact trivial | exact rfl | refine And.intro ?_ ?_ | omega))

end Go.Proofs

namespace Go.Proofs
open Go.Sx

theorem treeW {bs : List (Int × Int)} {ls : List Lnk} (h : NetW bs ls) {a : Int} (ha : a < bs.length) :
    ∃ ts, Tree bs.length (graphF bs ls 0) (edgs bs.length noR 0 (graphF bs ls 0)) (plc bs.length a) (shortF bs.length noRev (graphF bs ls 0) (plc bs.length a)).1 ts :=
  (calm_tree h.sys h.calm 0 (plc_le ha)).2

/-- No numbers that no link contradicts have a greater difference. -/
theorem most_ge {bs : List (Int × Int)} {ls : List Lnk} (h : NetW bs ls) {q : Nat → Int} (hq : PotL bs.length q (graphF bs ls 0)) {a b : Int} (ha : a < bs.length) (hb : b < bs.length) :
    q (plc bs.length b) ≤ q (plc bs.length a) + mostF bs.length (graphF bs ls 0) a b := by
  obtain ⟨ts, hT⟩ := treeW h ha
  exact hT.low (potL_iff.1 hq) (plc_le hb)

theorem most_pot {bs : List (Int × Int)} {ls : List Lnk} (h : NetW bs ls) {a : Int} (ha : a < bs.length) : ∃ q : Nat → Int, PotL bs.length q (graphF bs ls 0) ∧ q (plc bs.length a) = 0 ∧ ∀ b, mostF bs.length (graphF bs ls 0) a b = q (plc bs.length b) := by
  obtain ⟨ts, hT⟩ := treeW h ha
  exact ⟨_, potL_iff.2 (hT.pot (edgs_ok (graphF_ok h.sys 0))), hT.src0.1, fun b => rfl⟩

theorem most_bdW {bs : List (Int × Int)} {ls : List Lnk} (h : NetW bs ls) (a b : Int) : -250000000000 ≤ mostF bs.length (graphF bs ls 0) a b ∧ mostF bs.length (graphF bs ls 0) a b ≤ 250000000000 := by
  have hl := allF_len bs ls
  have hf := h.few
  exact few_bd (src := plc bs.length a) hf.1 (show (graphF bs ls 0).length ≤ 200 by rw [graphF_zero]; omega) (graphF_ok h.sys 0) noRev _

/-- The triangle of greatest differences. -/
theorem most_tri {bs : List (Int × Int)} {ls : List Lnk} (h : NetW bs ls) {a b c : Int} (ha : a < bs.length) (hb : b < bs.length) (hc : c < bs.length) :
    mostF bs.length (graphF bs ls 0) a c ≤ mostF bs.length (graphF bs ls 0) a b + mostF bs.length (graphF bs ls 0) b c := by
  obtain ⟨q, hq, h0, he⟩ := most_pot h ha
  have := most_ge h hq hb hc
  rw [he, he]
  exact this

theorem most_two {bs : List (Int × Int)} {ls : List Lnk} (h : NetW bs ls) {a b : Int} (ha : a < bs.length) (hb : b < bs.length) :
    -mostF bs.length (graphF bs ls 0) b a ≤ mostF bs.length (graphF bs ls 0) a b := by
  obtain ⟨q, hq, h0, he⟩ := most_pot h ha
  have := most_ge h hq hb ha
  rw [h0] at this
  rw [he]
  omega

theorem most_mono {bs : List (Int × Int)} {ls ls' : List Lnk} (h : NetW bs ls) (h' : NetW bs ls') (hs : ∀ l ∈ ls, l ∈ ls') {a b : Int} (ha : a < bs.length) (hb : b < bs.length) :
    mostF bs.length (graphF bs ls' 0) a b ≤ mostF bs.length (graphF bs ls 0) a b := by
  obtain ⟨q, hq, h0, he⟩ := most_pot h' ha
  have hq2 : PotL bs.length q (graphF bs ls 0) := by
    intro l hl
    refine hq l ?_
    rw [graphF_zero] at hl ⊢
    rcases List.mem_append.1 hl with hl | hl
    · exact List.mem_append.2 (.inl hl)
    · exact List.mem_append.2 (.inr (hs l hl))
  have := most_ge h hq2 ha hb
  rw [h0] at this
  rw [he]
  omega

theorem allows_mono {bs : List (Int × Int)} {ls ls' : List Lnk} (h : SysOK bs ls) (h' : SysOK bs ls') (hs : ∀ l ∈ ls, l ∈ ls') {pt : List Int} (ha : (allowsF bs ls' pt).2 = true) : (allowsF bs ls pt).2 = true := by
  obtain ⟨h1, h2⟩ := (allows_iff h').1 ha
  refine (allows_iff h).2 ⟨h1, fun l hl => h2 l ?_⟩
  rcases List.mem_append.1 hl with hl | hl
  · exact List.mem_append.2 (.inl hl)
  · exact List.mem_append.2 (.inr (hs l hl))

theorem range_any {bs : List (Int × Int)} {ls : List Lnk} (h : NetW bs ls) (a b : Int) : ∃ lo hi e : Int,
    Triple Try.prog 21 [.c (.p 0 0 0 0), iv .i64 a, iv .i64 b] (netH bs ls) 3 (.tup [.inr [.v (.int .i64 lo), .v (.int .i64 hi)], .inl (.v (.int .i64 e))]) [] ∧
    ((e = 0 ∧ (-1 ≤ a ∧ a < bs.length) ∧ (-1 ≤ b ∧ b < bs.length) ∧ lo = -mostF bs.length (graphF bs ls 0) b a ∧ hi = mostF bs.length (graphF bs ls 0) a b) ∨
      (e = 1 ∧ lo = 0 ∧ hi = 0 ∧ ¬ ((-1 ≤ a ∧ a < bs.length) ∧ (-1 ≤ b ∧ b < bs.length)))) := by
  rcases both_places bs.length a b with ⟨ha, hb, h1, h2⟩ | ⟨h1, h2⟩
  · exact ⟨_, _, 0, range_t bs ls a b h.sys ha.2 hb.2 h1 h2 _ _ rfl rfl, .inl ⟨rfl, ha, hb, rfl, rfl⟩⟩
  · refine ⟨0, 0, 1, rangeErr_t bs ls a b h.sys h1, .inr ⟨rfl, rfl, rfl, fun hh => ?_⟩⟩
    have e1 : withinF a (-1) ((bs.length : Int) - 1) = true := by simp [withinF]; omega
    have e2 : withinF b (-1) ((bs.length : Int) - 1) = true := by simp [withinF]; omega
    rcases h1 with h1 | h1
    · rw [e1] at h1; cases h1
    · rw [e2] at h1; cases h1

theorem formedLong_t (form : List (Int × Int)) (vars : Int) (hl : 240 < form.length) : Triple Try.prog 91 [.c (.s 0 0 form.length 2), iv .i64 vars] [(0, false, .arr (aSpan form))] 1 (iv .i64 2) [] := by
  refine triple_of tB_ok Try.func91 rfl Try.call91 rfl ?_
  intro ρ w hH
  conv => whnf
  refine ⟨fun hc => ?_, fun hc => absurd (of_decide_eq_false (show decide ((240 : Int) < form.length) = false from hc)) (by omega)⟩
  conv => whnf
  repeat' (first | exact trivial | exact rfl | refine And.intro ?_ ?_ | ((conv => whnf); first | exact trivial | exact rfl | refine And.intro ?_ ?_ | omega))

theorem bestLong_t (bs : List (Int × Int)) (ls : List Lnk) (form : List (Int × Int)) (hfl : 240 < form.length) :
    Triple Try.prog 28 [.c (.p 0 0 0 0), .c (.s 3 0 form.length 2)] ((3, false, .arr (aSpan form)) :: netH bs ls) 4
      (.tup [.inr [.v (.int .i64 0), .v (.slice none 0 0), .v (.slice none 0 0)], .inl (.v (.int .i64 2))]) [] := by
  refine triple_of tB_ok Try.func28 rfl Try.call28 rfl ?_
  intro ρ w hH
  conv => whnf
  refine call_step (formedLong_t form bs.length (by omega)) rfl rfl ?_
  conv => whnf
  refine ⟨(by repeat' (first | exact trivial | exact rfl | refine And.intro ?_ ?_ | ((conv => whnf); first | exact trivial | exact rfl | refine And.intro ?_ ?_ | omega))), (by repeat' (first | exact trivial | exact rfl | refine And.intro ?_ ?_ | ((conv => whnf); first | exact trivial | exact rfl | refine And.intro ?_ ?_ | omega))), ?_⟩
  conv => whnf
  refine ⟨fun hc => ?_, fun hc => absurd hc (by simp)⟩
  conv => whnf
  repeat' (first | exact trivial | exact rfl | refine And.intro ?_ ?_ | ((conv => whnf); first | exact trivial | exact rfl | refine And.intro ?_ ?_ | omega))

theorem bestBad {bs : List (Int × Int)} {ls : List Lnk} (form : List (Int × Int)) (hb : bs.length ≤ 240) (hf : formF form bs.length ≠ 0) : 
    Triple Try.prog 28 [.c (.p 0 0 0 0), .c (.s 3 0 form.length 2)] ((3, false, .arr (aSpan form)) :: netH bs ls) 4
      (.tup [.inr [.v (.int .i64 0), .v (.slice none 0 0), .v (.slice none 0 0)], .inl (.v (.int .i64 (formF form bs.length)))]) [] := by
  by_cases hl : 240 < form.length
  · have e : formF form bs.length = 2 := by unfold formF; rw [if_pos hl]
    rw [e]
    exact bestLong_t bs ls form hl
  · exact BestErr_t bs ls form (by omega) (by omega) hf

/-- A net with one more link. -/
theorem NetOK.more {bs : List (Int × Int)} {ls : List Lnk} (h : NetOK bs ls) {x : Lnk} (hp : properF x bs.length = true) : SysOK bs (ls ++ [x]) := by
  have hf := h.few
  refine ⟨h.sys.nb, by rw [List.length_append]; simp; omega, h.sys.box, fun l hl => ?_⟩
  rcases List.mem_append.1 hl with hl | hl
  · exact h.sys.lnk l hl
  · simp at hl; rw [hl]; exact hp

end Go.Proofs

namespace Go.Proofs
open Go.Sx

theorem systemNarrows_t (bs : List (Int × Int)) (ls : List Lnk) (x : Lnk) (a b c : Int) (form : List (Int × Int)) :
    Triple Try.prog 9 [sysA bs.length ls.length, svL x, iv .i64 a, iv .i64 b, iv .i64 c, .c (.s 2 0 form.length 2)] (sysH bs ls ++ [(2, false, .arr (aSpan form))]) 3 (bv true) [] := by
  by_cases h : NetOK bs ls
  · have hfew := h.few
    have hnb := h.sys.nb
    have hnl := h.sys.nl
    obtain ⟨lo1, hi1, e1, r1, k1⟩ := range_any h.w a b
    by_cases hf : formF form bs.length = 0
    · obtain ⟨v1, u1, p1, hbA, v1b, _, a1, q1, m1⟩ := best_call h.w hf
      by_cases hp : properF x bs.length = true
      · have hs2 := h.more hp
        by_cases hcm : Calm bs (ls ++ [x]) 0
        · have h2 : NetW bs (ls ++ [x]) := ⟨⟨hfew.1, by rw [List.length_append]; simp; omega⟩, hs2, hcm⟩
          have hput := putOk_t bs ls [x] hs2 hcm
          obtain ⟨v2, u2, p2, hbB, v2b, _, a2, q2, m2⟩ := best_call h2 hf
          obtain ⟨lo2, hi2, e2, r2, k2⟩ := range_any h2 a b
          obtain ⟨lo3, hi3, e3, r3, k3⟩ := range_any h2 b c
          obtain ⟨lo4, hi4, e4, r4, k4⟩ := range_any h2 a c
          have hmem : ∀ l ∈ ls, l ∈ ls ++ [x] := fun l hl => List.mem_append.2 (.inl hl)
          have he12 : e2 = e1 := by omega
          have hrg : e1 = 0 → lo1 ≤ lo2 ∧ hi2 ≤ hi1 ∧ lo2 ≤ hi2 := fun he => by
            rcases k1 with ⟨_, ha, hb, l1, g1⟩ | ⟨hh, _⟩
            · rcases k2 with ⟨_, _, _, l2, g2⟩ | ⟨hh, _⟩
              · have m1 := most_mono h.w h2 hmem ha.2 hb.2
                have m2 := most_mono h.w h2 hmem hb.2 ha.2
                have m3 := most_two h2 ha.2 hb.2
                omega
              · omega
            · omega
          have htri : e1 = 0 → e3 = 0 → e4 = 0 ∧ hi4 ≤ hi2 + hi3 ∧ (-500000000000 ≤ hi2 + hi3 ∧ hi2 + hi3 ≤ 500000000000) := fun he he3 => by
            rcases k2 with ⟨_, ha, hb, l2, g2⟩ | ⟨hh, _⟩
            · rcases k3 with ⟨_, _, hc, l3, g3⟩ | ⟨hh, _⟩
              · have b2 := most_bdW h2 a b
                have b3 := most_bdW h2 b c
                rcases k4 with ⟨z4, _, _, l4, g4⟩ | ⟨_, _, _, hh⟩
                · have m := most_tri h2 ha.2 hb.2 hc.2
                  omega
                · exact absurd ⟨ha, hc⟩ hh
              · omega
            · omega
          subst he12
          clear k1 k2 k3 k4
          generalize ls ++ [x] = ls2 at *
          refine triple_of tB_ok Try.func9 rfl Try.call9 rfl ?_
          intro ρ w hH
          conv => whnf
          refine call_step head_t rfl rfl ?_
          conv => whnf
          refine ⟨(by repeat' (first | exact trivial | exact rfl | refine And.intro ?_ ?_ | ((conv => whnf); first | exact trivial | exact rfl | refine And.intro ?_ ?_ | omega))), (by repeat' (first | exact trivial | exact rfl | refine And.intro ?_ ?_ | ((conv => whnf); first | exact trivial | exact rfl | refine And.intro ?_ ?_ | omega))), ?_⟩
          conv => whnf
          refine call_step (startYes_t bs ls h) rfl rfl ?_
          conv => whnf
          refine ⟨(by repeat' (first | exact trivial | exact rfl | refine And.intro ?_ ?_ | ((conv => whnf); first | exact trivial | exact rfl | refine And.intro ?_ ?_ | omega))), (by repeat' (first | exact trivial | exact rfl | refine And.intro ?_ ?_ | ((conv => whnf); first | exact trivial | exact rfl | refine And.intro ?_ ?_ | omega))), ?_⟩
          conv => whnf
          refine call_step r1 rfl rfl ?_
          conv => whnf
          refine ⟨(by repeat' (first | exact trivial | exact rfl | refine And.intro ?_ ?_ | ((conv => whnf); first | exact trivial | exact rfl | refine And.intro ?_ ?_ | omega))), (by repeat' (first | exact trivial | exact rfl | refine And.intro ?_ ?_ | ((conv => whnf); first | exact trivial | exact rfl | refine And.intro ?_ ?_ | omega))), ?_⟩
          conv => whnf
          refine call_step hbA rfl rfl ?_
          conv => whnf
          refine ⟨(by repeat' (first | exact trivial | exact rfl | refine And.intro ?_ ?_ | ((conv => whnf); first | exact trivial | exact rfl | refine And.intro ?_ ?_ | omega))), (by repeat' (first | exact trivial | exact rfl | refine And.intro ?_ ?_ | ((conv => whnf); first | exact trivial | exact rfl | refine And.intro ?_ ?_ | omega))), ?_⟩
          conv => whnf
          refine bs_step tB_ok (aLink [x]) rfl rfl ?_
          conv => whnf
          refine ⟨(by repeat' (first | exact trivial | exact rfl | refine And.intro ?_ ?_ | ((conv => whnf); first | exact trivial | exact rfl | refine And.intro ?_ ?_ | omega))), ?_⟩
          conv => whnf
          refine call_step hput rfl rfl ?_
          conv => whnf
          refine ⟨(by repeat' (first | exact trivial | exact rfl | refine And.intro ?_ ?_ | ((conv => whnf); first | exact trivial | exact rfl | refine And.intro ?_ ?_ | omega))), (by repeat' (first | exact trivial | exact rfl | refine And.intro ?_ ?_ | ((conv => whnf); first | exact trivial | exact rfl | refine And.intro ?_ ?_ | omega))), ?_⟩
          conv => whnf
          refine ⟨fun hc => absurd hc (by simp), fun hc => ?_⟩
          conv => whnf
          refine call_step r2 rfl rfl ?_
          conv => whnf
          refine ⟨(by repeat' (first | exact trivial | exact rfl | refine And.intro ?_ ?_ | ((conv => whnf); first | exact trivial | exact rfl | refine And.intro ?_ ?_ | omega))), (by repeat' (first | exact trivial | exact rfl | refine And.intro ?_ ?_ | ((conv => whnf); first | exact trivial | exact rfl | refine And.intro ?_ ?_ | omega))), ?_⟩
          conv => whnf
          refine call_step hbB rfl rfl ?_
          conv => whnf
          refine ⟨(by repeat' (first | exact trivial | exact rfl | refine And.intro ?_ ?_ | ((conv => whnf); first | exact trivial | exact rfl | refine And.intro ?_ ?_ | omega))), (by repeat' (first | exact trivial | exact rfl | refine And.intro ?_ ?_ | ((conv => whnf); first | exact trivial | exact rfl | refine And.intro ?_ ?_ | omega))), ?_⟩
          conv => whnf
          refine ⟨fun hc => absurd hc (by simp), fun hc => ?_⟩
          conv => whnf
          refine ⟨fun hc => absurd hc (by simp), fun hc => ?_⟩
          conv => whnf
          refine ⟨fun hc => ?_, fun hc => ?_⟩
          · have he : e2 = 0 := by simpa using (show (e2 == 0) = true from hc)
            obtain ⟨q1, q2, q3⟩ := hrg he
            conv => whnf
            refine ⟨fun hc => absurd (of_decide_eq_true (show decide (lo2 < lo1) = true from hc)) (by omega), fun hc => ?_⟩
            conv => whnf
            refine ⟨fun hc => absurd (of_decide_eq_true (show decide (hi1 < hi2) = true from hc)) (by omega), fun hc => ?_⟩
            conv => whnf
            refine ⟨fun hc => absurd (of_decide_eq_true (show decide (hi2 < lo2) = true from hc)) (by omega), fun hc => ?_⟩
            conv => whnf
            have hw := m1 p2 (allows_mono h.sys h2.sys hmem a2)
            refine ⟨fun hc => ?_, fun hc => absurd hc (by simp)⟩
            conv => whnf
            refine ⟨fun hc => absurd (of_decide_eq_true (show decide (v1 < v2) = true from hc)) (by omega), fun hc => ?_⟩
            conv => whnf
            refine call_step r3 rfl rfl ?_
            conv => whnf
            refine ⟨(by repeat' (first | exact trivial | exact rfl | refine And.intro ?_ ?_ | ((conv => whnf); first | exact trivial | exact rfl | refine And.intro ?_ ?_ | omega))), (by repeat' (first | exact trivial | exact rfl | refine And.intro ?_ ?_ | ((conv => whnf); first | exact trivial | exact rfl | refine And.intro ?_ ?_ | omega))), ?_⟩
            conv => whnf
            refine call_step r4 rfl rfl ?_
            conv => whnf
            refine ⟨(by repeat' (first | exact trivial | exact rfl | refine And.intro ?_ ?_ | ((conv => whnf); first | exact trivial | exact rfl | refine And.intro ?_ ?_ | omega))), (by repeat' (first | exact trivial | exact rfl | refine And.intro ?_ ?_ | ((conv => whnf); first | exact trivial | exact rfl | refine And.intro ?_ ?_ | omega))), ?_⟩
            conv => whnf
            refine ⟨fun hc => ?_, fun hc => absurd hc (by simp)⟩
            conv => whnf
            refine ⟨fun hc => absurd (by simpa using (show (e2 != 0) = true from hc)) (by omega), fun hc => ?_⟩
            conv => whnf
            refine ⟨fun hc => ?_, fun hc => ?_⟩
            · conv => whnf
              repeat' (first | exact trivial | exact rfl | refine And.intro ?_ ?_ | ((conv => whnf); first | exact trivial | exact rfl | refine And.intro ?_ ?_ | omega))
            · have h30 : e3 = 0 := by simpa using (show (e3 != 0) = false from hc)
              obtain ⟨w1, w2, w3⟩ := htri he h30
              conv => whnf
              refine ⟨fun hc => ?_, fun hc => absurd w1 (by simpa using (show (e4 == 0) = false from hc))⟩
              conv => whnf
              refine ⟨hi2 + hi3, wrapId (z := hi2 + hi3) ⟨by omega, by omega⟩, ?_⟩
              conv => whnf
              refine ⟨?_, trivial⟩
              exact decide_eq_true w2
          · have he : e2 ≠ 0 := by simpa using (show (e2 == 0) = false from hc)
            conv => whnf
            have hw := m1 p2 (allows_mono h.sys h2.sys hmem a2)
            refine ⟨fun hc => ?_, fun hc => absurd hc (by simp)⟩
            conv => whnf
            refine ⟨fun hc => absurd (of_decide_eq_true (show decide (v1 < v2) = true from hc)) (by omega), fun hc => ?_⟩
            conv => whnf
            refine call_step r3 rfl rfl ?_
            conv => whnf
            refine ⟨(by repeat' (first | exact trivial | exact rfl | refine And.intro ?_ ?_ | ((conv => whnf); first | exact trivial | exact rfl | refine And.intro ?_ ?_ | omega))), (by repeat' (first | exact trivial | exact rfl | refine And.intro ?_ ?_ | ((conv => whnf); first | exact trivial | exact rfl | refine And.intro ?_ ?_ | omega))), ?_⟩
            conv => whnf
            refine call_step r4 rfl rfl ?_
            conv => whnf
            refine ⟨(by repeat' (first | exact trivial | exact rfl | refine And.intro ?_ ?_ | ((conv => whnf); first | exact trivial | exact rfl | refine And.intro ?_ ?_ | omega))), (by repeat' (first | exact trivial | exact rfl | refine And.intro ?_ ?_ | ((conv => whnf); first | exact trivial | exact rfl | refine And.intro ?_ ?_ | omega))), ?_⟩
            conv => whnf
            refine ⟨fun hc => ?_, fun hc => absurd hc (by simp)⟩
            conv => whnf
            refine ⟨fun hc => ?_, fun hc => absurd (by simpa using (show (e2 != 0) = false from hc)) he⟩
            conv => whnf
            repeat' (first | exact trivial | exact rfl | refine And.intro ?_ ?_ | ((conv => whnf); first | exact trivial | exact rfl | refine And.intro ?_ ?_ | omega))
        · obtain ⟨v, P, kk, M, hch, hv, hcy⟩ := cyc_of (graphF_ok hs2 0) (Nat.le_refl _) hcm
          have hput := putClash_t bs ls [x] v P kk M hs2 hch hcy
          generalize (cycL bs.length (graphF bs (ls ++ [x]) 0) kk M).reverse = cy at *
          refine triple_of tB_ok Try.func9 rfl Try.call9 rfl ?_
          intro ρ w hH
          conv => whnf
          refine call_step head_t rfl rfl ?_
          conv => whnf
          refine ⟨(by repeat' (first | exact trivial | exact rfl | refine And.intro ?_ ?_ | ((conv => whnf); first | exact trivial | exact rfl | refine And.intro ?_ ?_ | omega))), (by repeat' (first | exact trivial | exact rfl | refine And.intro ?_ ?_ | ((conv => whnf); first | exact trivial | exact rfl | refine And.intro ?_ ?_ | omega))), ?_⟩
          conv => whnf
          refine call_step (startYes_t bs ls h) rfl rfl ?_
          conv => whnf
          refine ⟨(by repeat' (first | exact trivial | exact rfl | refine And.intro ?_ ?_ | ((conv => whnf); first | exact trivial | exact rfl | refine And.intro ?_ ?_ | omega))), (by repeat' (first | exact trivial | exact rfl | refine And.intro ?_ ?_ | ((conv => whnf); first | exact trivial | exact rfl | refine And.intro ?_ ?_ | omega))), ?_⟩
          conv => whnf
          refine call_step r1 rfl rfl ?_
          conv => whnf
          refine ⟨(by repeat' (first | exact trivial | exact rfl | refine And.intro ?_ ?_ | ((conv => whnf); first | exact trivial | exact rfl | refine And.intro ?_ ?_ | omega))), (by repeat' (first | exact trivial | exact rfl | refine And.intro ?_ ?_ | ((conv => whnf); first | exact trivial | exact rfl | refine And.intro ?_ ?_ | omega))), ?_⟩
          conv => whnf
          refine call_step hbA rfl rfl ?_
          conv => whnf
          refine ⟨(by repeat' (first | exact trivial | exact rfl | refine And.intro ?_ ?_ | ((conv => whnf); first | exact trivial | exact rfl | refine And.intro ?_ ?_ | omega))), (by repeat' (first | exact trivial | exact rfl | refine And.intro ?_ ?_ | ((conv => whnf); first | exact trivial | exact rfl | refine And.intro ?_ ?_ | omega))), ?_⟩
          conv => whnf
          refine bs_step tB_ok (aLink [x]) rfl rfl ?_
          conv => whnf
          refine ⟨(by repeat' (first | exact trivial | exact rfl | refine And.intro ?_ ?_ | ((conv => whnf); first | exact trivial | exact rfl | refine And.intro ?_ ?_ | omega))), ?_⟩
          conv => whnf
          refine call_step hput rfl rfl ?_
          conv => whnf
          refine ⟨(by repeat' (first | exact trivial | exact rfl | refine And.intro ?_ ?_ | ((conv => whnf); first | exact trivial | exact rfl | refine And.intro ?_ ?_ | omega))), (by repeat' (first | exact trivial | exact rfl | refine And.intro ?_ ?_ | ((conv => whnf); first | exact trivial | exact rfl | refine And.intro ?_ ?_ | omega))), ?_⟩
          conv => whnf
          refine ⟨fun hc => ?_, fun hc => absurd hc (by simp)⟩
          conv => whnf
          repeat' (first | exact trivial | exact rfl | refine And.intro ?_ ?_ | ((conv => whnf); first | exact trivial | exact rfl | refine And.intro ?_ ?_ | omega))
      · have hput := putArg_t bs ls [x] (by omega) (by simp; omega) (by simp; simpa using hp)
        refine triple_of tB_ok Try.func9 rfl Try.call9 rfl ?_
        intro ρ w hH
        conv => whnf
        refine call_step head_t rfl rfl ?_
        conv => whnf
        refine ⟨(by repeat' (first | exact trivial | exact rfl | refine And.intro ?_ ?_ | ((conv => whnf); first | exact trivial | exact rfl | refine And.intro ?_ ?_ | omega))), (by repeat' (first | exact trivial | exact rfl | refine And.intro ?_ ?_ | ((conv => whnf); first | exact trivial | exact rfl | refine And.intro ?_ ?_ | omega))), ?_⟩
        conv => whnf
        refine call_step (startYes_t bs ls h) rfl rfl ?_
        conv => whnf
        refine ⟨(by repeat' (first | exact trivial | exact rfl | refine And.intro ?_ ?_ | ((conv => whnf); first | exact trivial | exact rfl | refine And.intro ?_ ?_ | omega))), (by repeat' (first | exact trivial | exact rfl | refine And.intro ?_ ?_ | ((conv => whnf); first | exact trivial | exact rfl | refine And.intro ?_ ?_ | omega))), ?_⟩
        conv => whnf
        refine call_step r1 rfl rfl ?_
        conv => whnf
        refine ⟨(by repeat' (first | exact trivial | exact rfl | refine And.intro ?_ ?_ | ((conv => whnf); first | exact trivial | exact rfl | refine And.intro ?_ ?_ | omega))), (by repeat' (first | exact trivial | exact rfl | refine And.intro ?_ ?_ | ((conv => whnf); first | exact trivial | exact rfl | refine And.intro ?_ ?_ | omega))), ?_⟩
        conv => whnf
        refine call_step hbA rfl rfl ?_
        conv => whnf
        refine ⟨(by repeat' (first | exact trivial | exact rfl | refine And.intro ?_ ?_ | ((conv => whnf); first | exact trivial | exact rfl | refine And.intro ?_ ?_ | omega))), (by repeat' (first | exact trivial | exact rfl | refine And.intro ?_ ?_ | ((conv => whnf); first | exact trivial | exact rfl | refine And.intro ?_ ?_ | omega))), ?_⟩
        conv => whnf
        refine bs_step tB_ok (aLink [x]) rfl rfl ?_
        conv => whnf
        refine ⟨(by repeat' (first | exact trivial | exact rfl | refine And.intro ?_ ?_ | ((conv => whnf); first | exact trivial | exact rfl | refine And.intro ?_ ?_ | omega))), ?_⟩
        conv => whnf
        refine call_step hput rfl rfl ?_
        conv => whnf
        refine ⟨(by repeat' (first | exact trivial | exact rfl | refine And.intro ?_ ?_ | ((conv => whnf); first | exact trivial | exact rfl | refine And.intro ?_ ?_ | omega))), (by repeat' (first | exact trivial | exact rfl | refine And.intro ?_ ?_ | ((conv => whnf); first | exact trivial | exact rfl | refine And.intro ?_ ?_ | omega))), ?_⟩
        conv => whnf
        refine ⟨fun hc => ?_, fun hc => absurd hc (by simp)⟩
        conv => whnf
        repeat' (first | exact trivial | exact rfl | refine And.intro ?_ ?_ | ((conv => whnf); first | exact trivial | exact rfl | refine And.intro ?_ ?_ | omega))
    · have hbA := bestBad (ls := ls) form hnb hf
      by_cases hp : properF x bs.length = true
      · have hs2 := h.more hp
        by_cases hcm : Calm bs (ls ++ [x]) 0
        · have h2 : NetW bs (ls ++ [x]) := ⟨⟨hfew.1, by rw [List.length_append]; simp; omega⟩, hs2, hcm⟩
          have hput := putOk_t bs ls [x] hs2 hcm
          have hbB := bestBad (ls := ls ++ [x]) form hnb hf
          obtain ⟨lo2, hi2, e2, r2, k2⟩ := range_any h2 a b
          obtain ⟨lo3, hi3, e3, r3, k3⟩ := range_any h2 b c
          obtain ⟨lo4, hi4, e4, r4, k4⟩ := range_any h2 a c
          have hmem : ∀ l ∈ ls, l ∈ ls ++ [x] := fun l hl => List.mem_append.2 (.inl hl)
          have he12 : e2 = e1 := by omega
          have hrg : e1 = 0 → lo1 ≤ lo2 ∧ hi2 ≤ hi1 ∧ lo2 ≤ hi2 := fun he => by
            rcases k1 with ⟨_, ha, hb, l1, g1⟩ | ⟨hh, _⟩
            · rcases k2 with ⟨_, _, _, l2, g2⟩ | ⟨hh, _⟩
              · have m1 := most_mono h.w h2 hmem ha.2 hb.2
                have m2 := most_mono h.w h2 hmem hb.2 ha.2
                have m3 := most_two h2 ha.2 hb.2
                omega
              · omega
            · omega
          have htri : e1 = 0 → e3 = 0 → e4 = 0 ∧ hi4 ≤ hi2 + hi3 ∧ (-500000000000 ≤ hi2 + hi3 ∧ hi2 + hi3 ≤ 500000000000) := fun he he3 => by
            rcases k2 with ⟨_, ha, hb, l2, g2⟩ | ⟨hh, _⟩
            · rcases k3 with ⟨_, _, hc, l3, g3⟩ | ⟨hh, _⟩
              · have b2 := most_bdW h2 a b
                have b3 := most_bdW h2 b c
                rcases k4 with ⟨z4, _, _, l4, g4⟩ | ⟨_, _, _, hh⟩
                · have m := most_tri h2 ha.2 hb.2 hc.2
                  omega
                · exact absurd ⟨ha, hc⟩ hh
              · omega
            · omega
          subst he12
          clear k1 k2 k3 k4
          generalize ls ++ [x] = ls2 at *
          refine triple_of tB_ok Try.func9 rfl Try.call9 rfl ?_
          intro ρ w hH
          conv => whnf
          refine call_step head_t rfl rfl ?_
          conv => whnf
          refine ⟨(by repeat' (first | exact trivial | exact rfl | refine And.intro ?_ ?_ | ((conv => whnf); first | exact trivial | exact rfl | refine And.intro ?_ ?_ | omega))), (by repeat' (first | exact trivial | exact rfl | refine And.intro ?_ ?_ | ((conv => whnf); first | exact trivial | exact rfl | refine And.intro ?_ ?_ | omega))), ?_⟩
          conv => whnf
          refine call_step (startYes_t bs ls h) rfl rfl ?_
          conv => whnf
          refine ⟨(by repeat' (first | exact trivial | exact rfl | refine And.intro ?_ ?_ | ((conv => whnf); first | exact trivial | exact rfl | refine And.intro ?_ ?_ | omega))), (by repeat' (first | exact trivial | exact rfl | refine And.intro ?_ ?_ | ((conv => whnf); first | exact trivial | exact rfl | refine And.intro ?_ ?_ | omega))), ?_⟩
          conv => whnf
          refine call_step r1 rfl rfl ?_
          conv => whnf
          refine ⟨(by repeat' (first | exact trivial | exact rfl | refine And.intro ?_ ?_ | ((conv => whnf); first | exact trivial | exact rfl | refine And.intro ?_ ?_ | omega))), (by repeat' (first | exact trivial | exact rfl | refine And.intro ?_ ?_ | ((conv => whnf); first | exact trivial | exact rfl | refine And.intro ?_ ?_ | omega))), ?_⟩
          conv => whnf
          refine call_step hbA rfl rfl ?_
          conv => whnf
          refine ⟨(by repeat' (first | exact trivial | exact rfl | refine And.intro ?_ ?_ | ((conv => whnf); first | exact trivial | exact rfl | refine And.intro ?_ ?_ | omega))), (by repeat' (first | exact trivial | exact rfl | refine And.intro ?_ ?_ | ((conv => whnf); first | exact trivial | exact rfl | refine And.intro ?_ ?_ | omega))), ?_⟩
          conv => whnf
          refine bs_step tB_ok (aLink [x]) rfl rfl ?_
          conv => whnf
          refine ⟨(by repeat' (first | exact trivial | exact rfl | refine And.intro ?_ ?_ | ((conv => whnf); first | exact trivial | exact rfl | refine And.intro ?_ ?_ | omega))), ?_⟩
          conv => whnf
          refine call_step hput rfl rfl ?_
          conv => whnf
          refine ⟨(by repeat' (first | exact trivial | exact rfl | refine And.intro ?_ ?_ | ((conv => whnf); first | exact trivial | exact rfl | refine And.intro ?_ ?_ | omega))), (by repeat' (first | exact trivial | exact rfl | refine And.intro ?_ ?_ | ((conv => whnf); first | exact trivial | exact rfl | refine And.intro ?_ ?_ | omega))), ?_⟩
          conv => whnf
          refine ⟨fun hc => absurd hc (by simp), fun hc => ?_⟩
          conv => whnf
          refine call_step r2 rfl rfl ?_
          conv => whnf
          refine ⟨(by repeat' (first | exact trivial | exact rfl | refine And.intro ?_ ?_ | ((conv => whnf); first | exact trivial | exact rfl | refine And.intro ?_ ?_ | omega))), (by repeat' (first | exact trivial | exact rfl | refine And.intro ?_ ?_ | ((conv => whnf); first | exact trivial | exact rfl | refine And.intro ?_ ?_ | omega))), ?_⟩
          conv => whnf
          refine call_step hbB rfl rfl ?_
          conv => whnf
          refine ⟨(by repeat' (first | exact trivial | exact rfl | refine And.intro ?_ ?_ | ((conv => whnf); first | exact trivial | exact rfl | refine And.intro ?_ ?_ | omega))), (by repeat' (first | exact trivial | exact rfl | refine And.intro ?_ ?_ | ((conv => whnf); first | exact trivial | exact rfl | refine And.intro ?_ ?_ | omega))), ?_⟩
          conv => whnf
          refine ⟨fun hc => absurd hc (by simp), fun hc => ?_⟩
          conv => whnf
          refine ⟨fun hc => absurd hc (by simp), fun hc => ?_⟩
          conv => whnf
          refine ⟨fun hc => ?_, fun hc => ?_⟩
          · have he : e2 = 0 := by simpa using (show (e2 == 0) = true from hc)
            obtain ⟨q1, q2, q3⟩ := hrg he
            conv => whnf
            refine ⟨fun hc => absurd (of_decide_eq_true (show decide (lo2 < lo1) = true from hc)) (by omega), fun hc => ?_⟩
            conv => whnf
            refine ⟨fun hc => absurd (of_decide_eq_true (show decide (hi1 < hi2) = true from hc)) (by omega), fun hc => ?_⟩
            conv => whnf
            refine ⟨fun hc => absurd (of_decide_eq_true (show decide (hi2 < lo2) = true from hc)) (by omega), fun hc => ?_⟩
            conv => whnf
            refine ⟨fun hc => absurd (by simpa using (show (formF form bs.length == 0) = true from hc)) hf, fun hc => ?_⟩
            conv => whnf
            refine call_step r3 rfl rfl ?_
            conv => whnf
            refine ⟨(by repeat' (first | exact trivial | exact rfl | refine And.intro ?_ ?_ | ((conv => whnf); first | exact trivial | exact rfl | refine And.intro ?_ ?_ | omega))), (by repeat' (first | exact trivial | exact rfl | refine And.intro ?_ ?_ | ((conv => whnf); first | exact trivial | exact rfl | refine And.intro ?_ ?_ | omega))), ?_⟩
            conv => whnf
            refine call_step r4 rfl rfl ?_
            conv => whnf
            refine ⟨(by repeat' (first | exact trivial | exact rfl | refine And.intro ?_ ?_ | ((conv => whnf); first | exact trivial | exact rfl | refine And.intro ?_ ?_ | omega))), (by repeat' (first | exact trivial | exact rfl | refine And.intro ?_ ?_ | ((conv => whnf); first | exact trivial | exact rfl | refine And.intro ?_ ?_ | omega))), ?_⟩
            conv => whnf
            refine ⟨fun hc => ?_, fun hc => absurd hc (by simp)⟩
            conv => whnf
            refine ⟨fun hc => absurd (by simpa using (show (e2 != 0) = true from hc)) (by omega), fun hc => ?_⟩
            conv => whnf
            refine ⟨fun hc => ?_, fun hc => ?_⟩
            · conv => whnf
              repeat' (first | exact trivial | exact rfl | refine And.intro ?_ ?_ | ((conv => whnf); first | exact trivial | exact rfl | refine And.intro ?_ ?_ | omega))
            · have h30 : e3 = 0 := by simpa using (show (e3 != 0) = false from hc)
              obtain ⟨w1, w2, w3⟩ := htri he h30
              conv => whnf
              refine ⟨fun hc => ?_, fun hc => absurd w1 (by simpa using (show (e4 == 0) = false from hc))⟩
              conv => whnf
              refine ⟨hi2 + hi3, wrapId (z := hi2 + hi3) ⟨by omega, by omega⟩, ?_⟩
              conv => whnf
              refine ⟨?_, trivial⟩
              exact decide_eq_true w2
          · have he : e2 ≠ 0 := by simpa using (show (e2 == 0) = false from hc)
            conv => whnf
            refine ⟨fun hc => absurd (by simpa using (show (formF form bs.length == 0) = true from hc)) hf, fun hc => ?_⟩
            conv => whnf
            refine call_step r3 rfl rfl ?_
            conv => whnf
            refine ⟨(by repeat' (first | exact trivial | exact rfl | refine And.intro ?_ ?_ | ((conv => whnf); first | exact trivial | exact rfl | refine And.intro ?_ ?_ | omega))), (by repeat' (first | exact trivial | exact rfl | refine And.intro ?_ ?_ | ((conv => whnf); first | exact trivial | exact rfl | refine And.intro ?_ ?_ | omega))), ?_⟩
            conv => whnf
            refine call_step r4 rfl rfl ?_
            conv => whnf
            refine ⟨(by repeat' (first | exact trivial | exact rfl | refine And.intro ?_ ?_ | ((conv => whnf); first | exact trivial | exact rfl | refine And.intro ?_ ?_ | omega))), (by repeat' (first | exact trivial | exact rfl | refine And.intro ?_ ?_ | ((conv => whnf); first | exact trivial | exact rfl | refine And.intro ?_ ?_ | omega))), ?_⟩
            conv => whnf
            refine ⟨fun hc => ?_, fun hc => absurd hc (by simp)⟩
            conv => whnf
            refine ⟨fun hc => ?_, fun hc => absurd (by simpa using (show (e2 != 0) = false from hc)) he⟩
            conv => whnf
            repeat' (first | exact trivial | exact rfl | refine And.intro ?_ ?_ | ((conv => whnf); first | exact trivial | exact rfl | refine And.intro ?_ ?_ | omega))
        · obtain ⟨v, P, kk, M, hch, hv, hcy⟩ := cyc_of (graphF_ok hs2 0) (Nat.le_refl _) hcm
          have hput := putClash_t bs ls [x] v P kk M hs2 hch hcy
          generalize (cycL bs.length (graphF bs (ls ++ [x]) 0) kk M).reverse = cy at *
          refine triple_of tB_ok Try.func9 rfl Try.call9 rfl ?_
          intro ρ w hH
          conv => whnf
          refine call_step head_t rfl rfl ?_
          conv => whnf
          refine ⟨(by repeat' (first | exact trivial | exact rfl | refine And.intro ?_ ?_ | ((conv => whnf); first | exact trivial | exact rfl | refine And.intro ?_ ?_ | omega))), (by repeat' (first | exact trivial | exact rfl | refine And.intro ?_ ?_ | ((conv => whnf); first | exact trivial | exact rfl | refine And.intro ?_ ?_ | omega))), ?_⟩
          conv => whnf
          refine call_step (startYes_t bs ls h) rfl rfl ?_
          conv => whnf
          refine ⟨(by repeat' (first | exact trivial | exact rfl | refine And.intro ?_ ?_ | ((conv => whnf); first | exact trivial | exact rfl | refine And.intro ?_ ?_ | omega))), (by repeat' (first | exact trivial | exact rfl | refine And.intro ?_ ?_ | ((conv => whnf); first | exact trivial | exact rfl | refine And.intro ?_ ?_ | omega))), ?_⟩
          conv => whnf
          refine call_step r1 rfl rfl ?_
          conv => whnf
          refine ⟨(by repeat' (first | exact trivial | exact rfl | refine And.intro ?_ ?_ | ((conv => whnf); first | exact trivial | exact rfl | refine And.intro ?_ ?_ | omega))), (by repeat' (first | exact trivial | exact rfl | refine And.intro ?_ ?_ | ((conv => whnf); first | exact trivial | exact rfl | refine And.intro ?_ ?_ | omega))), ?_⟩
          conv => whnf
          refine call_step hbA rfl rfl ?_
          conv => whnf
          refine ⟨(by repeat' (first | exact trivial | exact rfl | refine And.intro ?_ ?_ | ((conv => whnf); first | exact trivial | exact rfl | refine And.intro ?_ ?_ | omega))), (by repeat' (first | exact trivial | exact rfl | refine And.intro ?_ ?_ | ((conv => whnf); first | exact trivial | exact rfl | refine And.intro ?_ ?_ | omega))), ?_⟩
          conv => whnf
          refine bs_step tB_ok (aLink [x]) rfl rfl ?_
          conv => whnf
          refine ⟨(by repeat' (first | exact trivial | exact rfl | refine And.intro ?_ ?_ | ((conv => whnf); first | exact trivial | exact rfl | refine And.intro ?_ ?_ | omega))), ?_⟩
          conv => whnf
          refine call_step hput rfl rfl ?_
          conv => whnf
          refine ⟨(by repeat' (first | exact trivial | exact rfl | refine And.intro ?_ ?_ | ((conv => whnf); first | exact trivial | exact rfl | refine And.intro ?_ ?_ | omega))), (by repeat' (first | exact trivial | exact rfl | refine And.intro ?_ ?_ | ((conv => whnf); first | exact trivial | exact rfl | refine And.intro ?_ ?_ | omega))), ?_⟩
          conv => whnf
          refine ⟨fun hc => ?_, fun hc => absurd hc (by simp)⟩
          conv => whnf
          repeat' (first | exact trivial | exact rfl | refine And.intro ?_ ?_ | ((conv => whnf); first | exact trivial | exact rfl | refine And.intro ?_ ?_ | omega))
      · have hput := putArg_t bs ls [x] (by omega) (by simp; omega) (by simp; simpa using hp)
        refine triple_of tB_ok Try.func9 rfl Try.call9 rfl ?_
        intro ρ w hH
        conv => whnf
        refine call_step head_t rfl rfl ?_
        conv => whnf
        refine ⟨(by repeat' (first | exact trivial | exact rfl | refine And.intro ?_ ?_ | ((conv => whnf); first | exact trivial | exact rfl | refine And.intro ?_ ?_ | omega))), (by repeat' (first | exact trivial | exact rfl | refine And.intro ?_ ?_ | ((conv => whnf); first | exact trivial | exact rfl | refine And.intro ?_ ?_ | omega))), ?_⟩
        conv => whnf
        refine call_step (startYes_t bs ls h) rfl rfl ?_
        conv => whnf
        refine ⟨(by repeat' (first | exact trivial | exact rfl | refine And.intro ?_ ?_ | ((conv => whnf); first | exact trivial | exact rfl | refine And.intro ?_ ?_ | omega))), (by repeat' (first | exact trivial | exact rfl | refine And.intro ?_ ?_ | ((conv => whnf); first | exact trivial | exact rfl | refine And.intro ?_ ?_ | omega))), ?_⟩
        conv => whnf
        refine call_step r1 rfl rfl ?_
        conv => whnf
        refine ⟨(by repeat' (first | exact trivial | exact rfl | refine And.intro ?_ ?_ | ((conv => whnf); first | exact trivial | exact rfl | refine And.intro ?_ ?_ | omega))), (by repeat' (first | exact trivial | exact rfl | refine And.intro ?_ ?_ | ((conv => whnf); first | exact trivial | exact rfl | refine And.intro ?_ ?_ | omega))), ?_⟩
        conv => whnf
        refine call_step hbA rfl rfl ?_
        conv => whnf
        refine ⟨(by repeat' (first | exact trivial | exact rfl | refine And.intro ?_ ?_ | ((conv => whnf); first | exact trivial | exact rfl | refine And.intro ?_ ?_ | omega))), (by repeat' (first | exact trivial | exact rfl | refine And.intro ?_ ?_ | ((conv => whnf); first | exact trivial | exact rfl | refine And.intro ?_ ?_ | omega))), ?_⟩
        conv => whnf
        refine bs_step tB_ok (aLink [x]) rfl rfl ?_
        conv => whnf
        refine ⟨(by repeat' (first | exact trivial | exact rfl | refine And.intro ?_ ?_ | ((conv => whnf); first | exact trivial | exact rfl | refine And.intro ?_ ?_ | omega))), ?_⟩
        conv => whnf
        refine call_step hput rfl rfl ?_
        conv => whnf
        refine ⟨(by repeat' (first | exact trivial | exact rfl | refine And.intro ?_ ?_ | ((conv => whnf); first | exact trivial | exact rfl | refine And.intro ?_ ?_ | omega))), (by repeat' (first | exact trivial | exact rfl | refine And.intro ?_ ?_ | ((conv => whnf); first | exact trivial | exact rfl | refine And.intro ?_ ?_ | omega))), ?_⟩
        conv => whnf
        refine ⟨fun hc => ?_, fun hc => absurd hc (by simp)⟩
        conv => whnf
        repeat' (first | exact trivial | exact rfl | refine And.intro ?_ ?_ | ((conv => whnf); first | exact trivial | exact rfl | refine And.intro ?_ ?_ | omega))
  · skip
    refine triple_of tB_ok Try.func9 rfl Try.call9 rfl ?_
    intro ρ w hH
    conv => whnf
    refine call_step head_t rfl rfl ?_
    conv => whnf
    refine ⟨(by repeat' (first | exact trivial | exact rfl | refine And.intro ?_ ?_ | ((conv => whnf); first | exact trivial | exact rfl | refine And.intro ?_ ?_ | omega))), (by repeat' (first | exact trivial | exact rfl | refine And.intro ?_ ?_ | ((conv => whnf); first | exact trivial | exact rfl | refine And.intro ?_ ?_ | omega))), ?_⟩
    conv => whnf
    refine call_step (startNo_t bs ls h) rfl rfl ?_
    conv => whnf
    refine ⟨(by repeat' (first | exact trivial | exact rfl | refine And.intro ?_ ?_ | ((conv => whnf); first | exact trivial | exact rfl | refine And.intro ?_ ?_ | omega))), (by repeat' (first | exact trivial | exact rfl | refine And.intro ?_ ?_ | ((conv => whnf); first | exact trivial | exact rfl | refine And.intro ?_ ?_ | omega))), ?_⟩
    conv => whnf
    repeat' (first | exact trivial | exact rfl | refine And.intro ?_ ?_ | ((conv => whnf); first | exact trivial | exact rfl | refine And.intro ?_ ?_ | omega))

end Go.Proofs

