/-
  A part of the proof that a law of dryweightlaw03 answers true: lemmas of a symbolic walk, plain functions, or contracts of the functions walked (Xi, Xu, Zd, Ze, Zf, Zg, Sx34, Zh, Xw, Xx, Xy, Xz, Za, Xq, Zb, Zc, Zi, Sx35, Zj, Sx36, Zk, Zl, Pm18, Zm, Zn, Zo, Zp, Zq, Sx37). Conditions: none.
-/
import Derived.Test.YtjjfadfmdodmnaaPart18
import Derived.Test.YtjjfadfmdodmnaaPart09
import Derived.Test.YtjjfadfmdodmnaaPart16
set_option maxRecDepth 100000
set_option linter.unusedVariables false
set_option linter.unusedSimpArgs false
namespace Go.Proofs
open Go.Sx

abbrev putH (bs : List (Int × Int)) (ls l : List Lnk) : Heap := [(0, true, netC 1 2 bs.length ls.length), (1, false, .arr (aSpan bs)), (2, false, .arr (aLink ls)), (3, false, .arr (aLink l))]

theorem putArg_t (bs : List (Int × Int)) (ls l : List Lnk) (hb : bs.length ≤ 1000000) (h : ls.length + l.length ≤ 1200) (hp : (l.all fun x => properF x bs.length) = false) :
    Triple Try.prog 53 [.c (.p 0 0 0 0), .c (.s 3 0 l.length 4)] (putH bs ls l) 4 (.tup [.inl (.v (.slice none 0 0)), .inl (.v (.int .i64 1))]) [(0, true, netC 1 2 bs.length ls.length)] := by
  refine triple_of tB_ok Try.func53 rfl Try.call53 rfl ?_
  intro ρ w hH
  conv => whnf
  refine ⟨(ls.length : Int) + l.length, wrapId (z := (ls.length : Int) + l.length) ⟨by omega, by omega⟩, ?_⟩
  conv => whnf
  refine ⟨fun hc => absurd (of_decide_eq_true (show decide ((1200 : Int) < (ls.length : Int) + l.length) = true from hc)) (by omega), fun hc => ?_⟩
  conv => whnf
  refine call_step (contains_t bs ls hb l (by omega)) rfl rfl ?_
  conv => whnf
  refine ⟨(by repeat' (first | exact trivial | exact rfl | refine And.intro ?_ ?_ | ((conv => whnf); first | exact trivial | exact rfl | refine And.intro ?_ ?_ | omega))), (by repeat' (first | exact trivial | exact rfl | refine And.intro ?_ ?_ | ((conv => whnf); first | exact trivial | exact rfl | refine And.intro ?_ ?_ | omega))), ?_⟩
  conv => whnf
  rw [hp]
  refine ⟨fun hc => ?_, fun hc => absurd hc (by simp)⟩
  conv => whnf
  repeat' (first | exact trivial | exact rfl | refine And.intro ?_ ?_ | ((conv => whnf); first | exact trivial | exact rfl | refine And.intro ?_ ?_ | omega))

theorem putClash_t (bs : List (Int × Int)) (ls l : List Lnk) (v : Nat) (P kk : Nat → Nat) (M : Nat) (hs : SysOK bs (ls ++ l)) (hch : (shortF bs.length noRev (graphF bs (ls ++ l) 0) bs.length).2 = ((v : Nat) : Int)) (h : Cyc bs.length (graphF bs (ls ++ l) 0) (shortF bs.length noRev (graphF bs (ls ++ l) 0) bs.length).1 v P kk M) :
    Triple Try.prog 53 [.c (.p 0 0 0 0), .c (.s 3 0 l.length 4)] (putH bs ls l) 4 (.tup [.inl (.s 4 0 (cycL bs.length (graphF bs (ls ++ l) 0) kk M).reverse.length 4), .inl (.v (.int .i64 9))]) [(0, true, netC 1 2 bs.length ls.length), (4, true, .arr (aLink (cycL bs.length (graphF bs (ls ++ l) 0) kk M).reverse))] := by
  refine triple_of tB_ok Try.func53 rfl Try.call53 rfl ?_
  intro ρ w hH
  conv => whnf
  have hnb := hs.nb
  have hnl := hs.nl
  rw [List.length_append] at hnl
  have hp : (l.all fun x => properF x bs.length) = true := List.all_eq_true.2 fun x hx => hs.lnk x (List.mem_append.2 (.inr hx))
  have hgl := graphF_len hs 0
  refine ⟨(ls.length : Int) + l.length, wrapId (z := (ls.length : Int) + l.length) ⟨by omega, by omega⟩, ?_⟩
  conv => whnf
  refine ⟨fun hc => absurd (of_decide_eq_true (show decide ((1200 : Int) < (ls.length : Int) + l.length) = true from hc)) (by omega), fun hc => ?_⟩
  conv => whnf
  refine call_step (contains_t bs ls (by omega) l (by omega)) rfl rfl ?_
  conv => whnf
  refine ⟨(by repeat' (first | exact trivial | exact rfl | refine And.intro ?_ ?_ | ((conv => whnf); first | exact trivial | exact rfl | refine And.intro ?_ ?_ | omega))), (by repeat' (first | exact trivial | exact rfl | refine And.intro ?_ ?_ | ((conv => whnf); first | exact trivial | exact rfl | refine And.intro ?_ ?_ | omega))), ?_⟩
  conv => whnf
  rw [hp]
  refine ⟨fun hc => absurd hc (by simp), fun hc => ?_⟩
  conv => whnf
  refine bsN_step tB_ok ((aRows 1 [1, 2] [[.s 1 0 ls.length 4], [.s 2 0 l.length 4]]).ren (rnf [(2, 3), (1, 2), (0, 5)])) rfl ?_
  conv => whnf
  refine ⟨(by repeat' (first | exact trivial | exact rfl | refine And.intro ?_ ?_ | ((conv => whnf); first | exact trivial | exact rfl | refine And.intro ?_ ?_ | omega))), ?_⟩
  conv => whnf
  refine call_step (concatLink_t ls l (by omega) (by omega)) rfl rfl ?_
  conv => whnf
  refine ⟨(by repeat' (first | exact trivial | exact rfl | refine And.intro ?_ ?_ | ((conv => whnf); first | exact trivial | exact rfl | refine And.intro ?_ ?_ | omega))), (by repeat' (first | exact trivial | exact rfl | refine And.intro ?_ ?_ | ((conv => whnf); first | exact trivial | exact rfl | refine And.intro ?_ ?_ | omega))), ?_⟩
  conv => whnf
  refine call_step (graphOf_t bs (ls ++ l) 0 (by omega) hs.boxB (by rw [List.length_append]; omega)) rfl rfl ?_
  conv => whnf
  refine ⟨(by repeat' (first | exact trivial | exact rfl | refine And.intro ?_ ?_ | ((conv => whnf); first | exact trivial | exact rfl | refine And.intro ?_ ?_ | omega))), (by repeat' (first | exact trivial | exact rfl | refine And.intro ?_ ?_ | ((conv => whnf); first | exact trivial | exact rfl | refine And.intro ?_ ?_ | omega))), ?_⟩
  conv => whnf
  refine call_step (clash_t bs.length (graphF bs (ls ++ l) 0) v P kk M (by omega) (by omega) (graphF_ok hs 0) hch h) rfl rfl ?_
  conv => whnf
  refine ⟨(by repeat' (first | exact trivial | exact rfl | refine And.intro ?_ ?_ | ((conv => whnf); first | exact trivial | exact rfl | refine And.intro ?_ ?_ | omega))), (by repeat' (first | exact trivial | exact rfl | refine And.intro ?_ ?_ | ((conv => whnf); first | exact trivial | exact rfl | refine And.intro ?_ ?_ | omega))), ?_⟩
  conv => whnf
  repeat' (first | exact trivial | exact rfl | refine And.intro ?_ ?_ | ((conv => whnf); first | exact trivial | exact rfl | refine And.intro ?_ ?_ | omega))

theorem putOk_t (bs : List (Int × Int)) (ls l : List Lnk) (hs : SysOK bs (ls ++ l)) (h : Calm bs (ls ++ l) 0) :
    Triple Try.prog 53 [.c (.p 0 0 0 0), .c (.s 3 0 l.length 4)] (putH bs ls l) 4 (.tup [.inl (.v (.slice none 0 0)), .inl (.v (.int .i64 0))]) [(0, true, netC 1 4 bs.length (ls ++ l).length), (4, true, .arr (aLink (ls ++ l)))] := by
  refine triple_of tB_ok Try.func53 rfl Try.call53 rfl ?_
  intro ρ w hH
  conv => whnf
  have hnb := hs.nb
  have hnl := hs.nl
  rw [List.length_append] at hnl
  have hp : (l.all fun x => properF x bs.length) = true := List.all_eq_true.2 fun x hx => hs.lnk x (List.mem_append.2 (.inr hx))
  have hgl := graphF_len hs 0
  refine ⟨(ls.length : Int) + l.length, wrapId (z := (ls.length : Int) + l.length) ⟨by omega, by omega⟩, ?_⟩
  conv => whnf
  refine ⟨fun hc => absurd (of_decide_eq_true (show decide ((1200 : Int) < (ls.length : Int) + l.length) = true from hc)) (by omega), fun hc => ?_⟩
  conv => whnf
  refine call_step (contains_t bs ls (by omega) l (by omega)) rfl rfl ?_
  conv => whnf
  refine ⟨(by repeat' (first | exact trivial | exact rfl | refine And.intro ?_ ?_ | ((conv => whnf); first | exact trivial | exact rfl | refine And.intro ?_ ?_ | omega))), (by repeat' (first | exact trivial | exact rfl | refine And.intro ?_ ?_ | ((conv => whnf); first | exact trivial | exact rfl | refine And.intro ?_ ?_ | omega))), ?_⟩
  conv => whnf
  rw [hp]
  refine ⟨fun hc => absurd hc (by simp), fun hc => ?_⟩
  conv => whnf
  refine bsN_step tB_ok ((aRows 1 [1, 2] [[.s 1 0 ls.length 4], [.s 2 0 l.length 4]]).ren (rnf [(2, 3), (1, 2), (0, 5)])) rfl ?_
  conv => whnf
  refine ⟨(by repeat' (first | exact trivial | exact rfl | refine And.intro ?_ ?_ | ((conv => whnf); first | exact trivial | exact rfl | refine And.intro ?_ ?_ | omega))), ?_⟩
  conv => whnf
  refine call_step (concatLink_t ls l (by omega) (by omega)) rfl rfl ?_
  conv => whnf
  refine ⟨(by repeat' (first | exact trivial | exact rfl | refine And.intro ?_ ?_ | ((conv => whnf); first | exact trivial | exact rfl | refine And.intro ?_ ?_ | omega))), (by repeat' (first | exact trivial | exact rfl | refine And.intro ?_ ?_ | ((conv => whnf); first | exact trivial | exact rfl | refine And.intro ?_ ?_ | omega))), ?_⟩
  conv => whnf
  refine call_step (graphOf_t bs (ls ++ l) 0 (by omega) hs.boxB (by rw [List.length_append]; omega)) rfl rfl ?_
  conv => whnf
  refine ⟨(by repeat' (first | exact trivial | exact rfl | refine And.intro ?_ ?_ | ((conv => whnf); first | exact trivial | exact rfl | refine And.intro ?_ ?_ | omega))), (by repeat' (first | exact trivial | exact rfl | refine And.intro ?_ ?_ | ((conv => whnf); first | exact trivial | exact rfl | refine And.intro ?_ ?_ | omega))), ?_⟩
  conv => whnf
  refine call_step (clashNone_t bs.length (graphF bs (ls ++ l) 0) (by omega) (by omega) (graphF_ok hs 0) h) rfl rfl ?_
  conv => whnf
  refine ⟨(by repeat' (first | exact trivial | exact rfl | refine And.intro ?_ ?_ | ((conv => whnf); first | exact trivial | exact rfl | refine And.intro ?_ ?_ | omega))), (by repeat' (first | exact trivial | exact rfl | refine And.intro ?_ ?_ | ((conv => whnf); first | exact trivial | exact rfl | refine And.intro ?_ ?_ | omega))), ?_⟩
  conv => whnf
  repeat' (first | exact trivial | exact rfl | refine And.intro ?_ ?_ | ((conv => whnf); first | exact trivial | exact rfl | refine And.intro ?_ ?_ | omega))

/-! ### Boxes -/

def revL (l : Lnk) : Lnk := ⟨l.t, l.f, l.m, 0⟩

theorem revL_ok {n : Nat} {arcs : List Lnk} (h : ∀ l ∈ arcs, ArcOK n l) : ∀ l ∈ arcs.map revL, ArcOK n l := by
  intro l hl
  obtain ⟨x, hx, rfl⟩ := List.mem_map.1 hl
  obtain ⟨h1, h2, h3⟩ := h x hx
  exact ⟨h2, h1, h3⟩

def boxesF (n : Nat) (arcs : List Lnk) : List (Int × Int) := (List.range n).map fun v => (-(shortF n noRev (arcs.map revL) n).1.sum.getD v 0, (shortF n noRev arcs n).1.sum.getD v 0)

theorem boxes_t (bs : List (Int × Int)) (ls : List Lnk) (hs : SysOK bs ls) :
    Triple Try.prog 69 [.c (.p 0 0 0 0)] (netH bs ls) 3 (.c (.s 3 0 (boxesF bs.length (graphF bs ls 0)).length 2)) [(3, true, .arr (aSpan (boxesF bs.length (graphF bs ls 0))))] := by
  refine triple_of tB_ok Try.func69 rfl Try.call69 rfl ?_
  intro ρ w hH
  conv => whnf
  have hnb := hs.nb
  have hnl := hs.nl
  have hgl := graphF_len hs 0
  refine call_step (graphOf_t bs ls 0 (by omega) hs.boxB (by omega)) rfl rfl ?_
  conv => whnf
  refine ⟨(by repeat' (first | exact trivial | exact rfl | refine And.intro ?_ ?_ | ((conv => whnf); first | exact trivial | exact rfl | refine And.intro ?_ ?_ | omega))), (by repeat' (first | exact trivial | exact rfl | refine And.intro ?_ ?_ | ((conv => whnf); first | exact trivial | exact rfl | refine And.intro ?_ ?_ | omega))), ?_⟩
  conv => whnf
  have hok := graphF_ok hs 0
  have hB : boxesF bs.length (graphF bs ls 0) = (List.range bs.length).map fun v => (-(shortF bs.length noRev ((graphF bs ls 0).map revL) bs.length).1.sum.getD v 0, (shortF bs.length noRev (graphF bs ls 0) bs.length).1.sum.getD v 0) := rfl
  generalize boxesF bs.length (graphF bs ls 0) = res at *
  generalize graphF bs ls 0 = arcs at *
  generalize bs.length = n at *
  refine call_step (plain_t n arcs n (by omega) (by omega) hok (Nat.le_refl _)) rfl rfl ?_
  conv => whnf
  refine ⟨(by repeat' (first | exact trivial | exact rfl | refine And.intro ?_ ?_ | ((conv => whnf); first | exact trivial | exact rfl | refine And.intro ?_ ?_ | omega))), (by repeat' (first | exact trivial | exact rfl | refine And.intro ?_ ?_ | ((conv => whnf); first | exact trivial | exact rfl | refine And.intro ?_ ?_ | omega))), ?_⟩
  conv => whnf
  have hlen := shortF_len n noRev arcs n hok
  have hbd := shortF_bd n noRev arcs n (by omega) (by omega) hok
  generalize (shortF n noRev arcs n).2 = c2 at *
  generalize (shortF n noRev arcs n).1 = T at *
  obtain ⟨hl1, hl2, hl3⟩ := hlen
  refine loop_step tB_ok (G := Nat × List Lnk) 1 [] (fun g => [(38, iv .i64 g.1)]) (fun g => [(9, true, .cells [.v (.int .i64 n), .s 10 0 g.2.length 4]), (10, true, .arr (aLink g.2))]) (fun g => g.1 ≤ arcs.length ∧ g.2 = (arcs.take g.1).map revL) (fun g => arcs.length - g.1) ?_
  conv => whnf
  refine ⟨⟨(0, []), ⟨Nat.zero_le _, rfl⟩, ?_⟩, ?_⟩
  · conv => whnf
    repeat' (first | exact trivial | exact rfl | refine And.intro ?_ ?_ | ((conv => whnf); first | exact trivial | exact rfl | refine And.intro ?_ ?_ | omega))
  rintro ⟨i, xs⟩ ⟨hi, hxs⟩ ρ1 t1 hρ1
  have hi : i ≤ arcs.length := hi
  have hxs : xs = (arcs.take i).map revL := hxs
  have hxl : xs.length ≤ arcs.length := by rw [hxs, List.length_map, List.length_take]; omega
  dsimp only
  conv => whnf
  refine ⟨fun hc => ?_, fun hc => ?_⟩
  · have hlt : i < arcs.length := by have := of_decide_eq_true (show decide ((i : Int) < arcs.length) = true from hc); omega
    have hst : xs ++ [revL arcs[i]] = (arcs.take (i + 1)).map revL := by rw [hxs, take_snoc hlt, List.map_append]; rfl
    conv => whnf
    refine ⟨i, rfl, hlt, hlt, ?_⟩
    conv => whnf
    refine bs_step tB_ok (aLink [revL arcs[i]]) rfl rfl ?_
    conv => whnf
    refine ⟨(by repeat' (first | exact trivial | exact rfl | refine And.intro ?_ ?_ | ((conv => whnf); first | exact trivial | exact rfl | refine And.intro ?_ ?_ | omega))), ?_⟩
    conv => whnf
    refine app_step tB_ok (aLink xs) [revL arcs[i]] (fun _ => rfl) rfl rfl rfl rfl ?_
    conv => whnf
    refine ⟨⟨rfl, rfl, Nat.le_refl _, Nat.le_refl _, by show (xs.length + 1) * 33 ≤ _; omega⟩, ?_⟩
    conv => whnf
    refine ⟨(i : Int) + 1, wrapId (z := (i : Int) + 1) ⟨by omega, by omega⟩, ?_⟩
    refine ⟨(i + 1, xs ++ [revL arcs[i]]), ⟨hlt, hst⟩, by show arcs.length - (i + 1) < arcs.length - i; omega, ?_⟩
    conv => whnf
    refine ⟨rfl, ?_⟩
    conv => whnf
    repeat' (first | exact trivial | exact rfl | refine And.intro ?_ ?_ | ((conv => whnf); first | exact trivial | exact rfl | refine And.intro ?_ ?_ | omega))
    all_goals first | exact (congrArg aLink app1 : _) | simp
  have hie : i = arcs.length := by have := of_decide_eq_false (show decide ((i : Int) < arcs.length) = false from hc); omega
  rw [hie, List.take_length] at hxs
  have hokr := revL_ok hok
  rw [← hxs] at hokr hB
  conv => whnf
  refine call_step (plain_t n xs n (by omega) (by omega) hokr (Nat.le_refl _)) rfl rfl ?_
  conv => whnf
  refine ⟨(by repeat' (first | exact trivial | exact rfl | refine And.intro ?_ ?_ | ((conv => whnf); first | exact trivial | exact rfl | refine And.intro ?_ ?_ | omega))), (by repeat' (first | exact trivial | exact rfl | refine And.intro ?_ ?_ | ((conv => whnf); first | exact trivial | exact rfl | refine And.intro ?_ ?_ | omega))), ?_⟩
  conv => whnf
  have hlenr := shortF_len n noRev xs n hokr
  have hbdr := shortF_bd n noRev xs n (by omega) (by omega) hokr
  generalize (shortF n noRev xs n).2 = c3 at *
  generalize (shortF n noRev xs n).1 = U at *
  obtain ⟨hm1, hm2, hm3⟩ := hlenr
  refine loop_step tB_ok (G := Nat × List (Int × Int)) 1 [] (fun g => [(72, iv .i64 g.1), (11, .c (.s 15 0 g.2.length 2))]) (fun g => [(15, true, .arr (aSpan g.2))]) (fun g => g.1 ≤ n ∧ g.2 = (List.range g.1).map fun v => (-U.sum.getD v 0, T.sum.getD v 0)) (fun g => n - g.1) ?_
  conv => whnf
  refine ⟨⟨(0, []), ⟨Nat.zero_le _, rfl⟩, ?_⟩, ?_⟩
  · conv => whnf
    repeat' (first | exact trivial | exact rfl | refine And.intro ?_ ?_ | ((conv => whnf); first | exact trivial | exact rfl | refine And.intro ?_ ?_ | omega))
  rintro ⟨v, ys⟩ ⟨hv, hys⟩ ρ2 t2 hρ2
  have hv : v ≤ n := hv
  have hys : ys = (List.range v).map fun v => (-U.sum.getD v 0, T.sum.getD v 0) := hys
  have hyl : ys.length = v := by rw [hys]; simp
  dsimp only
  conv => whnf
  refine ⟨fun hc => ?_, fun hc => ?_⟩
  · have hlt : v < n := by have := of_decide_eq_true (show decide ((v : Int) < n) = true from hc); omega
    have h1 : v < U.sum.length := by omega
    have h2 : v < T.sum.length := by omega
    have b1 := hbdr v
    rw [getD_of h1] at b1
    have hst : ys ++ [(-U.sum[v], T.sum[v])] = (List.range (v + 1)).map fun v => (-U.sum.getD v 0, T.sum.getD v 0) := by
      rw [hys, List.range_succ, List.map_append, List.map_cons, List.map_nil, getD_of h1, getD_of h2]
    conv => whnf
    refine ⟨v, rfl, by omega, h1, ?_⟩
    conv => whnf
    refine ⟨-U.sum[v], by show IntKind.i64.wrap (0 - U.sum[v]) = -U.sum[v]; rw [wrapId ⟨by omega, by omega⟩]; omega, ?_⟩
    conv => whnf
    refine ⟨v, rfl, by omega, h2, ?_⟩
    conv => whnf
    refine bs_step tB_ok (aSpan [(-U.sum[v], T.sum[v])]) rfl rfl ?_
    conv => whnf
    refine ⟨(by repeat' (first | exact trivial | exact rfl | refine And.intro ?_ ?_ | ((conv => whnf); first | exact trivial | exact rfl | refine And.intro ?_ ?_ | omega))), ?_⟩
    conv => whnf
    refine app_step tB_ok (aSpan ys) [(-U.sum[v], T.sum[v])] (fun _ => rfl) rfl rfl rfl rfl ?_
    conv => whnf
    refine ⟨⟨rfl, rfl, Nat.le_refl _, Nat.le_refl _, by show (ys.length + 1) * 17 ≤ _; omega⟩, ?_⟩
    conv => whnf
    refine ⟨(v : Int) + 1, wrapId (z := (v : Int) + 1) ⟨by omega, by omega⟩, ?_⟩
    refine ⟨(v + 1, ys ++ [(-U.sum[v], T.sum[v])]), ⟨hlt, hst⟩, by show n - (v + 1) < n - v; omega, ?_⟩
    conv => whnf
    refine ⟨rfl, ?_⟩
    conv => whnf
    repeat' (first | exact trivial | exact rfl | refine And.intro ?_ ?_ | ((conv => whnf); first | exact trivial | exact rfl | refine And.intro ?_ ?_ | omega))
    all_goals first | exact (congrArg aSpan app1 : _) | simp
  have hve : v = n := by have := of_decide_eq_false (show decide ((v : Int) < n) = false from hc); omega
  rw [hve, ← hB] at hys
  subst hys
  conv => whnf
  repeat' (first | exact trivial | exact rfl | refine And.intro ?_ ?_ | ((conv => whnf); first | exact trivial | exact rfl | refine And.intro ?_ ?_ | omega))

def refBoxesF (n : Nat) (arcs : List Lnk) : List (Int × Int) := (List.range n).map fun v => (-greatF n arcs (v : Nat) (-1), greatF n arcs (-1) (v : Nat))

theorem refBoxes_t (bs : List (Int × Int)) (ls : List Lnk) (hs : SysOK bs ls) :
    Triple Try.prog 70 [sysA bs.length ls.length] (sysH bs ls) 2 (.c (.s 2 0 (refBoxesF bs.length (allF bs ls)).length 2)) [(2, true, .arr (aSpan (refBoxesF bs.length (allF bs ls))))] := by
  refine triple_of tB_ok Try.func70 rfl Try.call70 rfl ?_
  intro ρ w hH
  conv => whnf
  have hnb := hs.nb
  have hnl := hs.nl
  have hal := allF_le hs
  have hB : refBoxesF bs.length (allF bs ls) = (List.range bs.length).map fun v => (-greatF bs.length (allF bs ls) (v : Nat) (-1), greatF bs.length (allF bs ls) (-1) (v : Nat)) := rfl
  generalize refBoxesF bs.length (allF bs ls) = res at *
  refine loop_step tB_ok (G := Nat × List (Int × Int)) 1 [] (fun g => [(4, iv .i64 g.1), (3, .c (.s 3 0 g.2.length 2))]) (fun g => [(3, true, .arr (aSpan g.2))]) (fun g => g.1 ≤ bs.length ∧ g.2 = (List.range g.1).map fun v => (-greatF bs.length (allF bs ls) (v : Nat) (-1), greatF bs.length (allF bs ls) (-1) (v : Nat))) (fun g => bs.length - g.1) ?_
  conv => whnf
  refine ⟨⟨(0, []), ⟨Nat.zero_le _, rfl⟩, ?_⟩, ?_⟩
  · conv => whnf
    repeat' (first | exact trivial | exact rfl | refine And.intro ?_ ?_ | ((conv => whnf); first | exact trivial | exact rfl | refine And.intro ?_ ?_ | omega))
  rintro ⟨v, ys⟩ ⟨hv, hys⟩ ρ2 t2 hρ2
  have hv : v ≤ bs.length := hv
  have hys : ys = (List.range v).map fun v => (-greatF bs.length (allF bs ls) (v : Nat) (-1), greatF bs.length (allF bs ls) (-1) (v : Nat)) := hys
  have hyl : ys.length = v := by rw [hys]; simp
  dsimp only
  conv => whnf
  refine ⟨fun hc => ?_, fun hc => ?_⟩
  · have hlt : v < bs.length := by simpa using hc
    have b1 := greatF_bd (n := bs.length) (arcs := allF bs ls) (v : Nat) (-1) (by omega) (by omega) (allF_ok hs)
    have hst : ys ++ [(-greatF bs.length (allF bs ls) (v : Nat) (-1), greatF bs.length (allF bs ls) (-1) (v : Nat))] = (List.range (v + 1)).map fun v => (-greatF bs.length (allF bs ls) (v : Nat) (-1), greatF bs.length (allF bs ls) (-1) (v : Nat)) := by
      rw [hys, List.range_succ, List.map_append]; rfl
    conv => whnf
    refine call_step (greatest_t bs ls (v : Nat) (-1) (by omega) hs.boxB (by omega) (allF_ok hs) ⟨by omega, by omega⟩ ⟨by omega, by omega⟩) rfl rfl ?_
    conv => whnf
    refine ⟨(by repeat' (first | exact trivial | exact rfl | refine And.intro ?_ ?_ | ((conv => whnf); first | exact trivial | exact rfl | refine And.intro ?_ ?_ | omega))), (by repeat' (first | exact trivial | exact rfl | refine And.intro ?_ ?_ | ((conv => whnf); first | exact trivial | exact rfl | refine And.intro ?_ ?_ | omega))), ?_⟩
    conv => whnf
    refine ⟨-greatF bs.length (allF bs ls) (v : Nat) (-1), by rw [wrapId ⟨by omega, by omega⟩]; omega, ?_⟩
    conv => whnf
    refine call_step (greatest_t bs ls (-1) (v : Nat) (by omega) hs.boxB (by omega) (allF_ok hs) ⟨by omega, by omega⟩ ⟨by omega, by omega⟩) rfl rfl ?_
    conv => whnf
    refine ⟨(by repeat' (first | exact trivial | exact rfl | refine And.intro ?_ ?_ | ((conv => whnf); first | exact trivial | exact rfl | refine And.intro ?_ ?_ | omega))), (by repeat' (first | exact trivial | exact rfl | refine And.intro ?_ ?_ | ((conv => whnf); first | exact trivial | exact rfl | refine And.intro ?_ ?_ | omega))), ?_⟩
    conv => whnf
    refine bs_step tB_ok (aSpan [(-greatF bs.length (allF bs ls) (v : Nat) (-1), greatF bs.length (allF bs ls) (-1) (v : Nat))]) rfl rfl ?_
    conv => whnf
    refine ⟨(by repeat' (first | exact trivial | exact rfl | refine And.intro ?_ ?_ | ((conv => whnf); first | exact trivial | exact rfl | refine And.intro ?_ ?_ | omega))), ?_⟩
    conv => whnf
    refine app_step tB_ok (aSpan ys) [(-greatF bs.length (allF bs ls) (v : Nat) (-1), greatF bs.length (allF bs ls) (-1) (v : Nat))] (fun _ => rfl) rfl rfl rfl rfl ?_
    conv => whnf
    refine ⟨⟨rfl, rfl, Nat.le_refl _, Nat.le_refl _, by show (ys.length + 1) * 17 ≤ _; omega⟩, ?_⟩
    conv => whnf
    refine ⟨(v : Int) + 1, wrapId (z := (v : Int) + 1) ⟨by omega, by omega⟩, ?_⟩
    refine ⟨(v + 1, ys ++ [(-greatF bs.length (allF bs ls) (v : Nat) (-1), greatF bs.length (allF bs ls) (-1) (v : Nat))]), ⟨hlt, hst⟩, by show bs.length - (v + 1) < bs.length - v; omega, ?_⟩
    conv => whnf
    refine ⟨rfl, ?_⟩
    conv => whnf
    repeat' (first | exact trivial | exact rfl | refine And.intro ?_ ?_ | ((conv => whnf); first | exact trivial | exact rfl | refine And.intro ?_ ?_ | omega))
    all_goals first | exact (congrArg aSpan app1 : _) | simp
  have hve : v = bs.length := by simp at hc; omega
  rw [hve, ← hB] at hys
  subst hys
  conv => whnf
  repeat' (first | exact trivial | exact rfl | refine And.intro ?_ ?_ | ((conv => whnf); first | exact trivial | exact rfl | refine And.intro ?_ ?_ | omega))

end Go.Proofs

namespace Go.Proofs
open Go.Sx

theorem treeW {bs : List (Int × Int)} {ls : List Lnk} (h : NetW bs ls) {a : Int} (ha : a < bs.length) :
    ∃ ts, Tree bs.length (graphF bs ls 0) (edgs bs.length noR 0 (graphF bs ls 0)) (plc bs.length a) (shortF bs.length noRev (graphF bs ls 0) (plc bs.length a)).1 ts :=
  (calm_tree h.sys h.calm 0 (plc_le ha)).2

/-- No numbers that no link contradicts have a greater difference. -/
theorem most_ge {bs : List (Int × Int)} {ls : List Lnk} (h : NetW bs ls) {q : Nat → Int} (hq : PotL bs.length q (graphF bs ls 0)) {a b : Int} (ha : a < bs.length) (hb : b < bs.length) :
    q (plc bs.length b) ≤ q (plc bs.length a) + mostF bs.length (graphF bs ls 0) a b := by
  obtain ⟨ts, hT⟩ := treeW h ha
  exact hT.low (potL_iff.1 hq) (plc_le hb)

theorem most_pot {bs : List (Int × Int)} {ls : List Lnk} (h : NetW bs ls) {a : Int} (ha : a < bs.length) : ∃ q : Nat → Int, PotL bs.length q (graphF bs ls 0) ∧ q (plc bs.length a) = 0 ∧ ∀ b, mostF bs.length (graphF bs ls 0) a b = q (plc bs.length b) := by
  obtain ⟨ts, hT⟩ := treeW h ha
  exact ⟨_, potL_iff.2 (hT.pot (edgs_ok (graphF_ok h.sys 0))), hT.src0.1, fun b => rfl⟩

end Go.Proofs

namespace Go.Proofs
open Go.Sx

theorem rev_pot {n : Nat} {q : Nat → Int} {arcs : List Lnk} : PotL n q (arcs.map revL) ↔ PotL n (fun v => -q v) arcs := by
  constructor
  · intro h l hl
    have h1 : q (plc n l.f) ≤ q (plc n l.t) + l.m := h (revL l) (List.mem_map_of_mem hl)
    show -q (plc n l.t) ≤ -q (plc n l.f) + l.m
    omega
  · intro h l hl
    obtain ⟨x, hx, rfl⟩ := List.mem_map.1 hl
    have h1 : -q (plc n x.t) ≤ -q (plc n x.f) + x.m := h x hx
    show q (plc n x.f) ≤ q (plc n x.t) + x.m
    omega

theorem hub_rev {n : Nat} {arcs : List Lnk} (h : Hub n arcs) : Hub n (arcs.map revL) := by
  intro v hv
  obtain ⟨⟨a, ha, a1, a2⟩, ⟨b, hb, b1, b2⟩⟩ := h v hv
  exact ⟨⟨revL b, List.mem_map_of_mem hb, b2, b1⟩, ⟨revL a, List.mem_map_of_mem ha, a2, a1⟩⟩

/-- The least values are greatest differences to the origin. -/
theorem down_most {bs : List (Int × Int)} {ls : List Lnk} (h : NetW bs ls) {v : Nat} (hv : v < bs.length) :
    (shortF bs.length noRev ((graphF bs ls 0).map revL) bs.length).1.sum.getD v 0 = mostF bs.length (graphF bs ls 0) v (-1) := by
  have hok := graphF_ok h.sys 0
  have hokr := revL_ok hok
  obtain ⟨q0, hq0⟩ := calm_pot h.sys h.calm
  have hq0 := hq0 0
  have hqr : PotL bs.length (fun v => -q0 v) ((graphF bs ls 0).map revL) := rev_pot.2 (by simpa using hq0)
  have hr := rounds_pot (rev := noR) (k := bs.length + 2) hokr (potL_iff.1 hqr) (Nat.le_refl bs.length) (by omega)
  obtain ⟨ts, hT⟩ := tree_of (rev := noR) hokr (hub_rev (hub_graph bs ls 0)) (Nat.le_refl bs.length) hr.1
  have e : (roundsF bs.length noR ((graphF bs ls 0).map revL) (bs.length + 2) (startF bs.length bs.length)).1 = (shortF bs.length noRev ((graphF bs ls 0).map revL) bs.length).1 := rfl
  rw [e] at hT
  generalize (shortF bs.length noRev ((graphF bs ls 0).map revL) bs.length).1 = T at *
  obtain ⟨q1, hq1, hz1, he1⟩ := most_pot h (a := ((v : Nat) : Int)) (by omega)
  have hp1 : plc bs.length ((v : Nat) : Int) = v := by unfold plc; rw [if_neg (by omega), Int.toNat_natCast]
  have hp2 : plc bs.length (-1) = bs.length := rfl
  have h1 := hT.low (potL_iff.1 (rev_pot.2 (show PotL bs.length (fun v => - (fun v => -q1 v) v) (graphF bs ls 0) by simpa using hq1))) (v := v) (by omega)
  have h1 : -q1 v ≤ -q1 bs.length + T.sum.getD v 0 := h1
  have hTp : PotL bs.length (fun v => T.sum.getD v 0) ((graphF bs ls 0).map revL) := potL_iff.2 (hT.pot (edgs_ok hokr))
  have h2 := most_ge h (rev_pot.1 hTp) (a := ((v : Nat) : Int)) (b := -1) (by omega) (by omega)
  have h2 : -T.sum.getD (plc bs.length (-1)) 0 ≤ -T.sum.getD (plc bs.length ((v : Nat) : Int)) 0 + mostF bs.length (graphF bs ls 0) ((v : Nat) : Int) (-1) := h2
  rw [hp1, hp2, hT.src0.1] at h2
  have h3 := he1 (-1)
  rw [hp2] at h3
  rw [hp1] at hz1
  omega

theorem up_most {bs : List (Int × Int)} {ls : List Lnk} (v : Nat) : (shortF bs.length noRev (graphF bs ls 0) bs.length).1.sum.getD v 0 = mostF bs.length (graphF bs ls 0) (-1) v := by
  unfold mostF
  have hp1 : plc bs.length ((v : Nat) : Int) = v := by unfold plc; rw [if_neg (by omega), Int.toNat_natCast]
  have hp2 : plc bs.length (-1) = bs.length := rfl
  rw [hp1, hp2]

theorem great_netW {bs : List (Int × Int)} {ls : List Lnk} (h : NetW bs ls) {a b : Int} (ha : -1 ≤ a ∧ a < bs.length) (hb : -1 ≤ b ∧ b < bs.length) :
    greatF bs.length (allF bs ls) a b = mostF bs.length (graphF bs ls 0) a b := by
  obtain ⟨q, hq⟩ := calm_pot h.sys h.calm
  have hf := h.few
  have hl := allF_len bs ls
  have hq := hq 0
  have hok := graphF_ok h.sys 0
  have hub := hub_graph bs ls 0
  rw [graphF_zero] at hq hok hub ⊢
  exact great_most hf.1 (by omega) hok hub hq ha hb

/-- Boxes agree with the reference implementation. -/
theorem boxes_eq {bs : List (Int × Int)} {ls : List Lnk} (h : NetW bs ls) : boxesF bs.length (graphF bs ls 0) = refBoxesF bs.length (allF bs ls) := by
  unfold boxesF refBoxesF
  refine List.map_congr_left fun v hv => ?_
  have hv : v < bs.length := List.mem_range.1 hv
  rw [down_most h hv, up_most, great_netW h ⟨by omega, by omega⟩ ⟨by omega, by omega⟩, great_netW h ⟨by omega, by omega⟩ ⟨by omega, by omega⟩]

end Go.Proofs

namespace Go.Proofs
open Go.Sx

theorem refTakenErr_t (bs : List (Int × Int)) (ls : List Lnk) (id : Int) (hl : ls.length ≤ 100000) (h : takeF ls id ≠ 0) :
    Triple Try.prog 65 [sysA bs.length ls.length, iv .i64 id] (sysH bs ls) 2 (.tup [.inr [.s 0 0 bs.length 2, .s 1 0 ls.length 4], .inl (.v (.int .i64 (takeF ls id)))]) [] := by
  have hT : takeF ls id = if id = 0 then 1 else if (withoutF ls id).length = ls.length then 5 else 0 := rfl
  generalize takeF ls id = R at *
  refine triple_of tB_ok Try.func65 rfl Try.call65 rfl ?_
  intro ρ w hH
  conv => whnf
  refine ⟨fun hc => ?_, fun hc => ?_⟩
  · have h0 : id = 0 := by simpa using (show (id == 0) = true from hc)
    rw [if_pos h0] at hT
    rw [hT]
    conv => whnf
    repeat' (first | exact trivial | exact rfl | refine And.intro ?_ ?_ | ((conv => whnf); first | exact trivial | exact rfl | refine And.intro ?_ ?_ | omega))
  have h0 : id ≠ 0 := by simpa using (show (id == 0) = false from hc)
  rw [if_neg h0] at hT
  conv => whnf
  refine call_step (refWithout_t bs ls id hl) rfl rfl ?_
  conv => whnf
  refine ⟨(by repeat' (first | exact trivial | exact rfl | refine And.intro ?_ ?_ | ((conv => whnf); first | exact trivial | exact rfl | refine And.intro ?_ ?_ | omega))), (by repeat' (first | exact trivial | exact rfl | refine And.intro ?_ ?_ | ((conv => whnf); first | exact trivial | exact rfl | refine And.intro ?_ ?_ | omega))), ?_⟩
  conv => whnf
  refine ⟨fun hc => ?_, fun hc => ?_⟩
  · have h1 : (withoutF ls id).length = ls.length := by
      have : (((withoutF ls id).length : Nat) : Int) = (ls.length : Int) := by simpa using hc
      omega
    rw [if_pos h1] at hT
    rw [hT]
    conv => whnf
    repeat' (first | exact trivial | exact rfl | refine And.intro ?_ ?_ | ((conv => whnf); first | exact trivial | exact rfl | refine And.intro ?_ ?_ | omega))
  · have h1 : (withoutF ls id).length ≠ ls.length := by
      have : (((withoutF ls id).length : Nat) : Int) ≠ (ls.length : Int) := by simpa using hc
      omega
    rw [if_neg h1] at hT
    exact absurd hT h

theorem refTakenOk_t (bs : List (Int × Int)) (ls : List Lnk) (id : Int) (hl : ls.length ≤ 100000) (h : takeF ls id = 0) :
    Triple Try.prog 65 [sysA bs.length ls.length, iv .i64 id] (sysH bs ls) 2 (.tup [.inr [.s 0 0 bs.length 2, .s 2 0 (withoutF ls id).length 4], .inl (.v (.int .i64 0))]) [(2, true, .arr (aLink (withoutF ls id)))] := by
  have hT : takeF ls id = if id = 0 then 1 else if (withoutF ls id).length = ls.length then 5 else 0 := rfl
  rw [h] at hT
  refine triple_of tB_ok Try.func65 rfl Try.call65 rfl ?_
  intro ρ w hH
  conv => whnf
  refine ⟨fun hc => ?_, fun hc => ?_⟩
  · have h0 : id = 0 := by simpa using (show (id == 0) = true from hc)
    rw [if_pos h0] at hT
    exact absurd hT (by decide)
  have h0 : id ≠ 0 := by simpa using (show (id == 0) = false from hc)
  rw [if_neg h0] at hT
  conv => whnf
  refine call_step (refWithout_t bs ls id hl) rfl rfl ?_
  conv => whnf
  refine ⟨(by repeat' (first | exact trivial | exact rfl | refine And.intro ?_ ?_ | ((conv => whnf); first | exact trivial | exact rfl | refine And.intro ?_ ?_ | omega))), (by repeat' (first | exact trivial | exact rfl | refine And.intro ?_ ?_ | ((conv => whnf); first | exact trivial | exact rfl | refine And.intro ?_ ?_ | omega))), ?_⟩
  conv => whnf
  refine ⟨fun hc => ?_, fun hc => ?_⟩
  · have h1 : (withoutF ls id).length = ls.length := by
      have : (((withoutF ls id).length : Nat) : Int) = (ls.length : Int) := by simpa using hc
      omega
    rw [if_pos h1] at hT
    exact absurd hT (by decide)
  · skip
    conv => whnf
    repeat' (first | exact trivial | exact rfl | refine And.intro ?_ ?_ | ((conv => whnf); first | exact trivial | exact rfl | refine And.intro ?_ ?_ | omega))

end Go.Proofs

namespace Go.Proofs
open Go.Sx

def addedF (bs : List (Int × Int)) (ls l : List Lnk) : Int :=
  if 1200 < ls.length + l.length then 2 else if (l.all fun x => properF x bs.length) = false then 1 else if (fromF bs.length (allF bs (ls ++ l)) (-1)).isSome = false then 9 else 0

theorem refAddedErr_t (bs : List (Int × Int)) (ls l : List Lnk) (hs : SysOK bs ls) (hl : l.length ≤ 1000000) (h : addedF bs ls l ≠ 0) :
    Triple Try.prog 67 [sysA bs.length ls.length, .c (.s 2 0 l.length 4)] ((2, false, .arr (aLink l)) :: sysH bs ls) 3 (.tup [.inr [.s 0 0 bs.length 2, .s 1 0 ls.length 4], .inl (.v (.int .i64 (addedF bs ls l)))]) [] := by
  have hF : addedF bs ls l = if 1200 < ls.length + l.length then 2 else if (l.all fun x => properF x bs.length) = false then 1 else if (fromF bs.length (allF bs (ls ++ l)) (-1)).isSome = false then 9 else 0 := rfl
  generalize addedF bs ls l = R at *
  have hnb := hs.nb
  have hnl := hs.nl
  refine triple_of tB_ok Try.func67 rfl Try.call67 rfl ?_
  intro ρ w hH
  conv => whnf
  refine ⟨(ls.length : Int) + l.length, wrapId (z := (ls.length : Int) + l.length) ⟨by omega, by omega⟩, ?_⟩
  conv => whnf
  refine ⟨fun hc => ?_, fun hc => ?_⟩
  · have hc : 1200 < ls.length + l.length := by have := of_decide_eq_true (show decide ((1200 : Int) < (ls.length : Int) + l.length) = true from hc); omega
    rw [if_pos hc] at hF
    rw [hF]
    conv => whnf
    repeat' (first | exact trivial | exact rfl | refine And.intro ?_ ?_ | ((conv => whnf); first | exact trivial | exact rfl | refine And.intro ?_ ?_ | omega))
  have hlim : ¬ 1200 < ls.length + l.length := by have := of_decide_eq_false (show decide ((1200 : Int) < (ls.length : Int) + l.length) = false from hc); omega
  rw [if_neg hlim] at hF
  conv => whnf
  refine loop_step tB_ok (G := Nat) 0 [] (fun i => [(6, iv .i64 i)]) (fun _ => []) (fun i => i ≤ l.length ∧ ∀ x ∈ l.take i, properF x bs.length = true) (fun i => l.length - i) ?_
  conv => whnf
  refine ⟨⟨0, ⟨Nat.zero_le _, by simp⟩, ?_⟩, ?_⟩
  · conv => whnf
    repeat' (first | exact trivial | exact rfl | refine And.intro ?_ ?_ | ((conv => whnf); first | exact trivial | exact rfl | refine And.intro ?_ ?_ | omega))
  intro i hi ρ1 t1 hρ1
  obtain ⟨hi, hg⟩ := hi
  conv => whnf
  refine ⟨fun hc => ?_, fun hc => ?_⟩
  · have hlt : i < l.length := by simpa using hc
    conv => whnf
    refine ⟨i, rfl, hlt, hlt, ?_⟩
    conv => whnf
    refine call_step (linked_t bs ls l[i]) rfl rfl ?_
    conv => whnf
    refine ⟨(by repeat' (first | exact trivial | exact rfl | refine And.intro ?_ ?_ | ((conv => whnf); first | exact trivial | exact rfl | refine And.intro ?_ ?_ | omega))), (by repeat' (first | exact trivial | exact rfl | refine And.intro ?_ ?_ | ((conv => whnf); first | exact trivial | exact rfl | refine And.intro ?_ ?_ | omega))), ?_⟩
    conv => whnf
    refine ⟨fun hc => ?_, fun hc => ?_⟩
    · have h1 : properF l[i] bs.length = false := by simpa using (show (!properF l[i] bs.length) = true from hc)
      have hall : (l.all fun x => properF x bs.length) = false := by
        rw [List.all_eq_false]
        exact ⟨l[i], List.getElem_mem hlt, by rw [h1]; simp⟩
      rw [if_pos hall] at hF
      rw [hF]
      conv => whnf
      repeat' (first | exact trivial | exact rfl | refine And.intro ?_ ?_ | ((conv => whnf); first | exact trivial | exact rfl | refine And.intro ?_ ?_ | omega))
    · have h1 : properF l[i] bs.length = true := by simpa using (show (!properF l[i] bs.length) = false from hc)
      conv => whnf
      refine ⟨(i : Int) + 1, wrapId (z := (i : Int) + 1) ⟨by omega, by omega⟩, ?_⟩
      refine ⟨i + 1, ⟨hlt, fun x hx => ?_⟩, by show l.length - (i + 1) < l.length - i; omega, ?_⟩
      · rw [take_snoc hlt] at hx
        rcases List.mem_append.1 hx with hx | hx
        · exact hg x hx
        · simp at hx; rw [hx]; exact h1
      conv => whnf
      refine ⟨rfl, ?_⟩
      conv => whnf
      repeat' (first | exact trivial | exact rfl | refine And.intro ?_ ?_ | ((conv => whnf); first | exact trivial | exact rfl | refine And.intro ?_ ?_ | omega))
  have hie : i = l.length := by simp at hc; omega
  subst hie
  rw [List.take_length] at hg
  have hall : (l.all fun x => properF x bs.length) = true := List.all_eq_true.2 hg
  rw [if_neg (by rw [hall]; simp)] at hF
  have hs2 : SysOK bs (ls ++ l) := ⟨hs.nb, by rw [List.length_append]; omega, hs.box, fun x hx => by
    rcases List.mem_append.1 hx with hx | hx
    · exact hs.lnk x hx
    · exact hg x hx⟩
  have hagr := agrees_t bs (ls ++ l) (by omega) hs2.boxB (by rw [List.length_append]; omega) (allF_ok hs2)
  conv => whnf
  refine bs_step tB_ok (aLink []) rfl rfl ?_
  conv => whnf
  refine ⟨⟨rfl, trivial⟩, ?_⟩
  conv => whnf
  refine app_step tB_ok (aLink []) ls (fun _ => rfl) rfl rfl rfl rfl ?_
  conv => whnf
  refine ⟨⟨rfl, rfl, Nat.le_refl _, by rw [Nat.zero_add]; exact Nat.le_refl _, by show (0 + ls.length) * 33 ≤ _; omega⟩, ?_⟩
  conv => whnf
  refine app_step tB_ok (aLink ls) l (fun _ => rfl) rfl rfl rfl rfl ?_
  conv => whnf
  refine ⟨⟨congrArg aLink (appAll (xs := ([] : List Lnk))), rfl, by show 0 + ls.length ≤ ls.length; omega, by rw [Nat.zero_add]; exact Nat.le_refl _, by show (0 + ls.length + l.length) * 33 ≤ _; omega⟩, ?_⟩
  conv => whnf
  have go : aLink (List.take ls.length ls ++ List.take l.length (List.drop 0 l)) = aLink (ls ++ l) := congrArg aLink appAll
  have hlen : 0 + ls.length + l.length = (ls ++ l).length := by rw [List.length_append]; omega
  refine call_step hagr rfl rfl ?_
  conv => whnf
  refine ⟨(by
    repeat' (first | exact trivial | exact rfl | refine And.intro ?_ ?_ | ((conv => whnf); first | exact trivial | exact rfl | refine And.intro ?_ ?_ | omega))
    all_goals first | exact hlen | exact hlen.symm | (refine congrArg aLink ?_; rw [Nat.zero_add]; exact appAll)), (by
    repeat' (first | exact trivial | exact rfl | refine And.intro ?_ ?_ | ((conv => whnf); first | exact trivial | exact rfl | refine And.intro ?_ ?_ | omega))
    all_goals first | exact hlen | exact hlen.symm | (refine congrArg aLink ?_; rw [Nat.zero_add]; exact appAll)), ?_⟩
  conv => whnf
  refine ⟨fun hc => ?_, fun hc => ?_⟩
  · have ha : (fromF bs.length (allF bs (ls ++ l)) (-1)).isSome = false := by simpa using (show (!(fromF bs.length (allF bs (ls ++ l)) (-1)).isSome) = true from hc)
    rw [if_pos ha] at hF
    rw [hF]
    conv => whnf
    repeat' (first | exact trivial | exact rfl | refine And.intro ?_ ?_ | ((conv => whnf); first | exact trivial | exact rfl | refine And.intro ?_ ?_ | omega))
  · have ha : (fromF bs.length (allF bs (ls ++ l)) (-1)).isSome = true := by simpa using (show (!(fromF bs.length (allF bs (ls ++ l)) (-1)).isSome) = false from hc)
    rw [if_neg (by rw [ha]; simp)] at hF
    exact absurd hF h

theorem refAddedOk_t (bs : List (Int × Int)) (ls l : List Lnk) (hs : SysOK bs ls) (hl : l.length ≤ 1000000) (h : addedF bs ls l = 0) :
    Triple Try.prog 67 [sysA bs.length ls.length, .c (.s 2 0 l.length 4)] ((2, false, .arr (aLink l)) :: sysH bs ls) 3 (.tup [.inr [.s 0 0 bs.length 2, .s 3 0 (ls ++ l).length 4], .inl (.v (.int .i64 0))]) [(3, true, .arr (aLink (ls ++ l)))] := by
  have hF : addedF bs ls l = if 1200 < ls.length + l.length then 2 else if (l.all fun x => properF x bs.length) = false then 1 else if (fromF bs.length (allF bs (ls ++ l)) (-1)).isSome = false then 9 else 0 := rfl
  rw [h] at hF
  have hnb := hs.nb
  have hnl := hs.nl
  refine triple_of tB_ok Try.func67 rfl Try.call67 rfl ?_
  intro ρ w hH
  conv => whnf
  refine ⟨(ls.length : Int) + l.length, wrapId (z := (ls.length : Int) + l.length) ⟨by omega, by omega⟩, ?_⟩
  conv => whnf
  refine ⟨fun hc => ?_, fun hc => ?_⟩
  · have hc : 1200 < ls.length + l.length := by have := of_decide_eq_true (show decide ((1200 : Int) < (ls.length : Int) + l.length) = true from hc); omega
    rw [if_pos hc] at hF
    exact absurd hF.symm (by decide)
  have hlim : ¬ 1200 < ls.length + l.length := by have := of_decide_eq_false (show decide ((1200 : Int) < (ls.length : Int) + l.length) = false from hc); omega
  rw [if_neg hlim] at hF
  conv => whnf
  refine loop_step tB_ok (G := Nat) 0 [] (fun i => [(6, iv .i64 i)]) (fun _ => []) (fun i => i ≤ l.length ∧ ∀ x ∈ l.take i, properF x bs.length = true) (fun i => l.length - i) ?_
  conv => whnf
  refine ⟨⟨0, ⟨Nat.zero_le _, by simp⟩, ?_⟩, ?_⟩
  · conv => whnf
    repeat' (first | exact trivial | exact rfl | refine And.intro ?_ ?_ | ((conv => whnf); first | exact trivial | exact rfl | refine And.intro ?_ ?_ | omega))
  intro i hi ρ1 t1 hρ1
  obtain ⟨hi, hg⟩ := hi
  conv => whnf
  refine ⟨fun hc => ?_, fun hc => ?_⟩
  · have hlt : i < l.length := by simpa using hc
    conv => whnf
    refine ⟨i, rfl, hlt, hlt, ?_⟩
    conv => whnf
    refine call_step (linked_t bs ls l[i]) rfl rfl ?_
    conv => whnf
    refine ⟨(by repeat' (first | exact trivial | exact rfl | refine And.intro ?_ ?_ | ((conv => whnf); first | exact trivial | exact rfl | refine And.intro ?_ ?_ | omega))), (by repeat' (first | exact trivial | exact rfl | refine And.intro ?_ ?_ | ((conv => whnf); first | exact trivial | exact rfl | refine And.intro ?_ ?_ | omega))), ?_⟩
    conv => whnf
    refine ⟨fun hc => ?_, fun hc => ?_⟩
    · have h1 : properF l[i] bs.length = false := by simpa using (show (!properF l[i] bs.length) = true from hc)
      have hall : (l.all fun x => properF x bs.length) = false := by
        rw [List.all_eq_false]
        exact ⟨l[i], List.getElem_mem hlt, by rw [h1]; simp⟩
      rw [if_pos hall] at hF
      exact absurd hF.symm (by decide)
    · have h1 : properF l[i] bs.length = true := by simpa using (show (!properF l[i] bs.length) = false from hc)
      conv => whnf
      refine ⟨(i : Int) + 1, wrapId (z := (i : Int) + 1) ⟨by omega, by omega⟩, ?_⟩
      refine ⟨i + 1, ⟨hlt, fun x hx => ?_⟩, by show l.length - (i + 1) < l.length - i; omega, ?_⟩
      · rw [take_snoc hlt] at hx
        rcases List.mem_append.1 hx with hx | hx
        · exact hg x hx
        · simp at hx; rw [hx]; exact h1
      conv => whnf
      refine ⟨rfl, ?_⟩
      conv => whnf
      repeat' (first | exact trivial | exact rfl | refine And.intro ?_ ?_ | ((conv => whnf); first | exact trivial | exact rfl | refine And.intro ?_ ?_ | omega))
  have hie : i = l.length := by simp at hc; omega
  subst hie
  rw [List.take_length] at hg
  have hall : (l.all fun x => properF x bs.length) = true := List.all_eq_true.2 hg
  rw [if_neg (by rw [hall]; simp)] at hF
  have hs2 : SysOK bs (ls ++ l) := ⟨hs.nb, by rw [List.length_append]; omega, hs.box, fun x hx => by
    rcases List.mem_append.1 hx with hx | hx
    · exact hs.lnk x hx
    · exact hg x hx⟩
  have hagr := agrees_t bs (ls ++ l) (by omega) hs2.boxB (by rw [List.length_append]; omega) (allF_ok hs2)
  conv => whnf
  refine bs_step tB_ok (aLink []) rfl rfl ?_
  conv => whnf
  refine ⟨⟨rfl, trivial⟩, ?_⟩
  conv => whnf
  refine app_step tB_ok (aLink []) ls (fun _ => rfl) rfl rfl rfl rfl ?_
  conv => whnf
  refine ⟨⟨rfl, rfl, Nat.le_refl _, by rw [Nat.zero_add]; exact Nat.le_refl _, by show (0 + ls.length) * 33 ≤ _; omega⟩, ?_⟩
  conv => whnf
  refine app_step tB_ok (aLink ls) l (fun _ => rfl) rfl rfl rfl rfl ?_
  conv => whnf
  refine ⟨⟨congrArg aLink (appAll (xs := ([] : List Lnk))), rfl, by show 0 + ls.length ≤ ls.length; omega, by rw [Nat.zero_add]; exact Nat.le_refl _, by show (0 + ls.length + l.length) * 33 ≤ _; omega⟩, ?_⟩
  conv => whnf
  have go : aLink (List.take ls.length ls ++ List.take l.length (List.drop 0 l)) = aLink (ls ++ l) := congrArg aLink appAll
  have hlen : 0 + ls.length + l.length = (ls ++ l).length := by rw [List.length_append]; omega
  refine call_step hagr rfl rfl ?_
  conv => whnf
  refine ⟨(by
    repeat' (first | exact trivial | exact rfl | refine And.intro ?_ ?_ | ((conv => whnf); first | exact trivial | exact rfl | refine And.intro ?_ ?_ | omega))
    all_goals first | exact hlen | exact hlen.symm | (refine congrArg aLink ?_; rw [Nat.zero_add]; exact appAll)), (by
    repeat' (first | exact trivial | exact rfl | refine And.intro ?_ ?_ | ((conv => whnf); first | exact trivial | exact rfl | refine And.intro ?_ ?_ | omega))
    all_goals first | exact hlen | exact hlen.symm | (refine congrArg aLink ?_; rw [Nat.zero_add]; exact appAll)), ?_⟩
  conv => whnf
  refine ⟨fun hc => ?_, fun hc => ?_⟩
  · have ha : (fromF bs.length (allF bs (ls ++ l)) (-1)).isSome = false := by simpa using (show (!(fromF bs.length (allF bs (ls ++ l)) (-1)).isSome) = true from hc)
    rw [if_pos ha] at hF
    exact absurd hF.symm (by decide)
  · skip
    conv => whnf
    repeat' (first | exact trivial | exact rfl | refine And.intro ?_ ?_ | ((conv => whnf); first | exact trivial | exact rfl | refine And.intro ?_ ?_ | omega))
    all_goals first | exact hlen | exact hlen.symm | (refine congrArg aLink ?_; rw [Nat.zero_add]; exact appAll)

end Go.Proofs

namespace Go.Proofs
open Go.Sx

end Go.Proofs

namespace Go
namespace Sx

/-! ### A range over a function whose body returns -/

end Sx
end Go

namespace Go.Proofs
open Go.Sx

/-! ### The first link that does not hold -/

end Go.Proofs

namespace Go.Proofs
open Go.Sx

end Go.Proofs

namespace Go.Proofs
open Go.Sx

end Go.Proofs

namespace Go.Proofs
open Go.Sx

end Go.Proofs

namespace Go.Proofs
open Go.Sx

/-! ### The greatest quotient -/

end Go.Proofs

namespace Go.Proofs
open Go.Sx

end Go.Proofs

namespace Go.Proofs
open Go.Sx

end Go.Proofs

namespace Go.Proofs
open Go.Sx

end Go.Proofs

namespace Go.Proofs
open Go.Sx

end Go.Proofs

namespace Go.Proofs
open Go.Sx

end Go.Proofs

namespace Go
namespace Sx

end Sx
end Go

namespace Go.Proofs
open Go.Sx

theorem calm_of {bs : List (Int × Int)} {ls : List Lnk} (hs : SysOK bs ls) {q : Nat → Int} (hq : PotL bs.length q (graphF bs ls 0)) : Calm bs ls 0 :=
  (rounds_pot (rev := noR) (k := bs.length + 2) (graphF_ok hs 0) (potL_iff.1 hq) (Nat.le_refl _) (by omega)).1

theorem potL_sub {bs : List (Int × Int)} {ls ls' : List Lnk} {q : Nat → Int} (h : PotL bs.length q (graphF bs ls 0)) (hs : ∀ l ∈ ls', l ∈ ls) : PotL bs.length q (graphF bs ls' 0) := by
  intro l hl
  refine h l ?_
  rw [graphF_zero] at hl ⊢
  rcases List.mem_append.1 hl with hl | hl
  · exact List.mem_append.2 (.inl hl)
  · exact List.mem_append.2 (.inr (hs l hl))

/-- A system without some of its links. -/
theorem NetW.sub {bs : List (Int × Int)} {ls ls' : List Lnk} (h : NetW bs ls) (hl : ls'.length ≤ 150) (hs : ∀ l ∈ ls', l ∈ ls) : NetW bs ls' := by
  have hsys : SysOK bs ls' := ⟨h.sys.nb, by omega, h.sys.box, fun l hm => h.sys.lnk l (hs l hm)⟩
  obtain ⟨q, hq⟩ := calm_pot h.sys h.calm
  exact ⟨⟨h.few.1, hl⟩, hsys, calm_of hsys (potL_sub (hq 0) hs)⟩

theorem boxesF_len (n : Nat) (arcs : List Lnk) : (boxesF n arcs).length = n := by simp [boxesF]

theorem appZ {α : Type} (xs : List α) : List.take 0 ([] : List α) ++ List.take xs.length (List.drop 0 xs) = xs := by simp

end Go.Proofs

namespace Go
namespace Sx

end Sx
end Go

namespace Go.Proofs
open Go.Sx

/-! ### Two nets with the same links -/

end Go.Proofs

namespace Go.Proofs
open Go.Sx

end Go.Proofs

namespace Go
namespace Proofs

/-! ### All points of small boxes, one after another -/

/-! ### What is seen -/

end Proofs
end Go

namespace Go.Proofs
open Go.Sx

end Go.Proofs

namespace Go.Proofs
open Go.Sx

end Go.Proofs

namespace Go.Proofs
open Go.Sx

end Go.Proofs

namespace Go.Proofs
open Go.Sx

end Go.Proofs

namespace Go.Proofs
open Go.Sx

end Go.Proofs

namespace Go
namespace Sx

/-! ### A list of records with lists inside: what lies in the initial world is looked at within a round -/

/-- A contract under a condition on the world. -/
structure TripleG (P : Program) (f : FuncId) (args : List SV) (pre : Heap) (np : Nat) (r : SV) (post : Heap) (G : Asg → World → Prop) : Prop where
  enter : ∀ args w, (callFunc f args).run P w = .ok (.enter f args) w
  h : ∀ (ρ : Asg) (w : World) (vals : Array Value), relVs ρ args vals.toList → SatH w (ownB ρ pre) ρ pre w → G ρ w →
    Calls P f vals w fun e w' => ∃ ρ' v, (∀ k, k < np → ρ' k = ρ k) ∧ e = .returned v ∧ r.rel ρ' v ∧ SatH w (ownB ρ pre) ρ' post w'

theorem triple_ofG {P : Program} {B : Tabs} (hB : TabsOK P B) {f : FuncId} {fn : Func} {c : Code} {args : List SV} {pre : Heap} {np : Nat} {r : SV} {post : Heap}
    (hf : P.funcs[f]? = some fn) (hb : fn.body = some c) (henter : ∀ args w, (callFunc f args).run P w = .ok (.enter f args) w)
    (hn : (allLt np (nmsV args) && (allLt np (nmsH pre) && Nat.ble args.length fn.ntmps)) = true)
    (G : Asg → World → Prop) (h : ∀ (ρ : Asg) (w : World), SatH w (ownB ρ pre) ρ pre w → G ρ w → vc (cxOf P w ρ pre fn.ntmps np) B c (RetP B fn np r post) ⟨envOf 0 args, pre, np⟩) :
    TripleG P f args pre np r post G where
  enter := henter
  h ρ w vals hv hH hG := by
    simp only [Bool.and_eq_true] at hn
    obtain ⟨hn1, hn2, hn3⟩ := hn
    have hn1 := allLt_iff.1 hn1
    have hn2 := allLt_iff.1 hn2
    have hn3 := Nat.le_of_ble_eq_true hn3
    have hlen : args.length = vals.size := by simpa using relVs_length hv
    rw [← callsIn_wide (n := 0)]
    refine callsIn_of_wp_marks (F := Fence.wide) hf hb trivial ?_ rfl
    have hs : Sat (cxOf P w ρ pre fn.ntmps np) ρ ⟨envOf 0 args, pre, np⟩ { tmps := vals ++ Array.replicate (fn.ntmps - vals.size) undef, defers := [] } w := by
      refine ⟨by simp [cxOf]; omega, by simp only [envOf_marks, List.map_nil], ?_, hH, ⟨?_, by simp only [envOf_marks]; simp, ?_⟩, fun _ _ => rfl, (fun _ h => by cases h), Nat.le_refl _⟩
      · intro i
        simp only [envOf_get, Nat.zero_le, if_true, Nat.sub_zero]
        cases ha : args[i]? with
        | none => trivial
        | some s =>
          obtain ⟨v, hv', hr⟩ := relVs_get hv ha
          have hlt : i < vals.size := by
            have := (List.getElem?_eq_some_iff.1 hv').1; simpa using this
          have : (vals ++ Array.replicate (fn.ntmps - vals.size) undef).getD i undef = v := by
            rw [Array.getD_eq_getD_getElem?, Array.getElem?_append_left hlt]
            have h2 : vals[i]? = some v := by simpa using hv'
            simp [h2]
          rw [this]; exact hr
      · intro i k hk
        simp only [envOf_get, Nat.zero_le, if_true, Nat.sub_zero] at hk
        cases ha : args[i]? with
        | none => simp [ha, SV.uses, SC.uses, SC.nms, anyMem] at hk
        | some s =>
          simp only [ha, Option.getD_some] at hk
          exact hn1 k (mem_nmsV (List.mem_of_getElem? ha) (SV.uses_nms.1 hk))
      · intro k own o hl
        have := look_nms hl
        exact ⟨hn2 k this.1, fun j hj => hn2 j (this.2 j (SO.uses_nms.1 hj))⟩
    refine (vc_sound hB c _ _ (h ρ w hH hG)).h ρ _ w hs _ ?_
    intro ex s' ρ' a' w' hq hs'
    have fin0 : ∀ (s' : St) (ρ' : Asg) (a' : Act) (w' : World), Sat (cxOf P w ρ pre fn.ntmps np) ρ' s' a' w' → (resK B s' fn.results.toList fun l => RetE (packR l) s'.H s'.nx np r post) → ∃ v, (results fn a'.tmps).run P w' = .ok v w' ∧
        ∃ ρ' v', (∀ k, k < np → ρ' k = ρ k) ∧ Ending.returned v = .returned v' ∧ r.rel ρ' v' ∧ SatH w (ownB ρ pre) ρ' post w' := by
      intro s' ρ' a' w' hs' hk
      obtain ⟨rv, hret, hres⟩ := results_run (cx := cxOf P w ρ pre fn.ntmps np) (fn := fn) (K := fun rv => RetE rv s'.H s'.nx np r post) hB hk
      obtain ⟨v, hv, hrel, hbel⟩ := hres ρ' a' w' hs'
      obtain ⟨ρ'', h1, h2, h3⟩ := ret_sat hs' rfl hrel hbel hret
      exact ⟨v, hv, ρ'', v, h1, rfl, h2, h3⟩
    have fin : ∀ (ds : List Nat) (e : Env) (H : Heap) (nx : Nat) (ρ' : Asg) (a' : Act) (w' : World), e.marks = [] → Sat (cxOf P w ρ pre fn.ntmps np) ρ' ⟨e, H, nx⟩ { a' with defers := [] } w' → (∀ k ∈ ds, k < nx) →
        (takeK ds H fun H => resK B ⟨e, H, nx⟩ fn.results.toList fun l => RetE (packR l) H nx np r post) →
        LeavesInM Fence.wide 0 P fn a'.tmps (fun e w' => ∃ ρ' v, (∀ k, k < np → ρ' k = ρ k) ∧ e = .returned v ∧ r.rel ρ' v ∧ SatH w (ownB ρ pre) ρ' post w') (ds.map (mkD ρ')) .returning w' := by
      intro ds
      induction ds with
      | nil =>
        intro e H nx ρ' a' w' _ hs' _ hk
        obtain ⟨v, hv, hR⟩ := fin0 ⟨e, H, nx⟩ ρ' _ w' hs' hk
        exact ⟨v, hv, hR⟩
      | cons k ds ih =>
        intro e H nx ρ' a' w' he hs' hlt hk
        simp only [takeK] at hk
        split at hk
        · rename_i Φ hl
          obtain ⟨hΦ, hk⟩ := hk
          obtain ⟨x, hx, hxx⟩ := (hs'.heap.reg k true _ hl).keys Φ rfl
          rw [hΦ x hxx] at hx
          refine ⟨by simp, .inl ⟨(ρ' k).blk, _, rfl, run_takeDeferred hx, ?_⟩⟩
          exact ih e _ nx ρ' a' _ he (hs'.dropObj hl (hlt k (by simp)) _) (fun j hj => hlt j (by simp [hj])) hk
        · exact hk.elim
    obtain ⟨e', H', nx'⟩ := s'
    have hclr : Sat (cxOf P w ρ pre fn.ntmps np) ρ' ⟨e'.clear, H', nx'⟩ { a' with defers := [] } w' :=
      { size := hs'.size, defers := by simp [clear_marks], env := fun i => by simp only [clear_get]; exact hs'.env i, heap := hs'.heap,
        bnd := ⟨fun i k hk => hs'.bnd.env i k (by simp only [clear_get] at hk; exact hk), by simp [clear_marks], hs'.bnd.heap⟩, base := hs'.base, keep := hs'.keep, n0 := hs'.n0 }
    have hgo : (takeK e'.marks H' fun H => resK B ⟨e', H, nx'⟩ fn.results.toList fun l => RetE (packR l) H nx' np r post) → LeavesInM Fence.wide 0 P fn a'.tmps _ a'.defers .returning w' := fun hk => by
      rw [hs'.defers]
      refine fin e'.marks e'.clear H' nx' ρ' a' w' (clear_marks _) hclr (fun k hk => hs'.bnd.mks k hk) ?_
      clear hq hs' hclr
      generalize e'.marks = ds at hk
      induction ds generalizing H' with
      | nil => exact resK_clear (clear_get e') hk
      | cons k ds ih =>
        simp only [takeK] at hk ⊢
        split at hk
        · rename_i Φ hl
          exact ⟨hk.1, ih _ hk.2⟩
        · exact hk.elim
    cases ex with
    | normal => exact hgo hq
    | ret => exact hgo hq
    | _ => exact hq.elim


/-- A region that is not the callee's own, and may lie where others of that kind lie. -/
theorem SatH.consF {w0 : World} {M : List Nat} {ρ ρ' : Asg} {H : Heap} {w : World} {k : Nat} {o : SO} (h : SatH w0 M ρ H w)
    (hag : ∀ j own o', look H j = some (own, o') → j ≠ k → ρ' j = ρ j ∧ ∀ n, o'.uses [n] = true → ρ' n = ρ n)
    (hdis : ∀ j o', look H j = some (true, o') → j ≠ k → 0 < o'.room (ρ j) → 0 < o.room (ρ' k) → (ρ j).blk ≠ (ρ' k).blk)
    (hnew : SatO ρ' w k false o) (hvalid : 0 < o.room (ρ' k) → (ρ' k).blk < w.heap.size) : SatH w0 M ρ' ((k, false, o) :: H) w where
  frm := h.frm
  reg j own' o' hl := by
    rw [look_cons] at hl
    by_cases hj : j = k
    · subst hj; simp at hl; obtain ⟨rfl, rfl⟩ := hl; exact hnew
    · rw [if_neg hj] at hl
      have ha := hag j own' o' hl hj
      exact (h.reg j own' o' hl).asg ha.1 ha.2
  apart j j' o1 own' o2 hne hl hl' hr hr' := by
    rw [look_cons] at hl hl'
    by_cases hj : j = k
    · subst hj; simp at hl
    · rw [if_neg hj] at hl
      have ha := hag j true o1 hl hj
      rw [ha.1] at hr ⊢
      by_cases hj' : j' = k
      · subst hj'
        simp at hl'; obtain ⟨rfl, rfl⟩ := hl'
        exact hdis j o1 hl hj hr hr'
      · rw [if_neg hj'] at hl'
        have ha' := hag j' own' o2 hl' hj'
        rw [ha'.1] at hr' ⊢
        exact h.apart j j' o1 own' o2 hne hl hl' hr hr'
  fresh j o1 hl hr := by
    rw [look_cons] at hl
    by_cases hj : j = k
    · subst hj; simp at hl
    · rw [if_neg hj] at hl
      have ha := hag j true o1 hl hj
      rw [ha.1] at hr ⊢
      exact h.fresh j o1 hl hr
  valid j own' o1 hl hr := by
    rw [look_cons] at hl
    by_cases hj : j = k
    · subst hj; simp at hl; obtain ⟨rfl, rfl⟩ := hl; exact hvalid hr
    · rw [if_neg hj] at hl
      have ha := hag j own' o1 hl hj
      rw [ha.1] at hr ⊢
      exact h.valid j own' o1 hl hr

theorem Sat.addF {cx : Cx} {ρ : Asg} {e : Env} {H : Heap} {nx : Nat} {a : Act} {w : World} (h : Sat cx ρ ⟨e, H, nx⟩ a w) (hM : cx.M = []) {r : Rg} {o : SO} (hin : 0 < o.room r → r.blk < cx.w0.heap.size)
    (hb : o.below (nx + 1)) (hnew : SatO (upd ρ nx r) w nx false o) : Sat cx (upd ρ nx r) ⟨e, (nx, false, o) :: H, nx + 1⟩ a w where
  size := h.size
  defers := by rw [h.defers]; exact (marks_agree fun k hk => upd_ne (Nat.ne_of_lt (h.bnd.mks k hk))).symm
  env i := SV.rel_upd (h.env i) (h.bnd.get i)
  heap := by
    refine h.heap.consF (fun j own o' hl _ => ?_) (fun j o' hl _ hr hr' => ?_) hnew (fun hr => ?_)
    · have hlt := h.bnd.heap j own o' hl
      exact ⟨upd_ne (Nat.ne_of_lt hlt.1), fun n hn => upd_ne (Nat.ne_of_lt (hlt.2 n hn))⟩
    · rw [upd_eq] at hr' ⊢
      have h1 := hin hr'
      rcases h.heap.fresh j o' hl hr with h2 | h2
      · omega
      · rw [hM] at h2; cases h2
    · rw [upd_eq] at hr ⊢
      exact Nat.lt_of_lt_of_le (hin hr) h.heap.frm.size
  bnd := ⟨fun i k hk => Nat.lt_succ_of_lt (h.bnd.env i k hk), fun k hk => Nat.lt_succ_of_lt (h.bnd.mks k hk), fun k own o' hl => by
    rw [look_cons] at hl
    by_cases hk : k = nx
    · rw [if_pos hk] at hl; cases hl
      exact ⟨by show k < nx + 1; omega, fun j hj => hb j hj⟩
    · rw [if_neg hk] at hl
      have := h.bnd.heap k own o' hl
      exact ⟨Nat.lt_succ_of_lt this.1, fun j hj => Nat.lt_succ_of_lt (this.2 j hj)⟩⟩
  base k hk := by rw [upd_ne (by have := h.n0; simp only at this; omega)]; exact h.base k hk
  keep := h.keep
  n0 := Nat.le_succ_of_le h.n0

/-- One more symbolic value of a slot that holds a list: by another name. -/
theorem Sat.alias {cx : Cx} {ρ : Asg} {e : Env} {H : Heap} {nx : Nat} {a : Act} {w : World} (h : Sat cx ρ ⟨e, H, nx⟩ a w) {i0 k0 k1 n sz : Nat} (he : e.get i0 = .c (.s k0 0 n sz)) (hk : ρ k1 = ρ k0) (hlt : k1 < nx) :
    Sat cx ρ ⟨.put i0 (.c (.s k1 0 n sz)) e, H, nx⟩ a w where
  size := h.size
  defers := h.defers
  env i := by
    rw [get_put]
    by_cases hi : i = i0
    · subst hi
      rw [if_pos rfl]
      have := h.env i
      simp only [he] at this
      simp only [SV.rel, SC.rel, adr, hk] at this ⊢
      exact this
    · rw [if_neg hi]; exact h.env i
  heap := h.heap
  bnd := ⟨fun i k hku => by
    simp only [get_put] at hku
    by_cases hi : i = i0
    · rw [if_pos hi] at hku
      have := SV.uses_nms.1 hku
      simp [SV.nms, SC.nms] at this
      rw [this]; exact hlt
    · rw [if_neg hi] at hku; exact h.bnd.env i k hku, h.bnd.mks, h.bnd.heap⟩
  base := h.base
  keep := h.keep
  n0 := h.n0

def loopFK (cx : Cx) (B : Tabs) (b : Code) (Q : Exit → St → Prop) (s : St) {G : Type} (nl : Nat) (dead : List Nat) (st : G → List (Nat × SV)) (hp : G → Heap) (I : G → Prop) (μ : G → Nat) (i0 k0 ln sz : Nat) (O : SO) (O' : G → Nat → SO) (L : G → SO) : Prop :=
  forceN (modC b 0) fun m => bif subMd m cx.md then
    (∃ g, I g ∧ LoopK s nl dead (st g) (hp g) s) ∧
    (∀ g, I g → ∀ ρ t0, (∀ k, k < cx.n0 → ρ k = cx.ρ0 k) → forceSt s m nl dead (st g) (hp g) fun s1 => match s1 with
      | ⟨e, H, nx⟩ => forceN nx fun nx => (e.get i0 = .c (.s k0 0 ln sz) ∧ look H k0 = some (false, O)) ∧ vc (lcx cx s.nx m ρ t0) B b (fun ex s' => match ex with
        | .normal => ∃ g', I g' ∧ μ g' < μ g ∧ BackK s nl dead (st g') (hp g') s'
        | ex => Q ex s') ⟨.put i0 (.c (.s (nx + 1) 0 ln sz)) e, (nx + 1, false, O' g nx) :: (nx, false, L g) :: H, nx + 2⟩)
  else False

theorem loopF_step {cx : Cx} {B : Tabs} (hB : TabsOK cx.P B) {b : Code} {Q : Exit → St → Prop} {s : St} {G : Type} (nl : Nat) (dead : List Nat) (st : G → List (Nat × SV)) (hp : G → Heap) (I : G → Prop) (μ : G → Nat)
    (i0 k0 ln sz : Nat) (O : SO) (O' : G → Nat → SO) (L : G → SO) (hM : cx.M = []) (hroom : ∀ g nx r, (O' g nx).room r = O.room r) (hbO : ∀ g nx, (O' g nx).below (nx + 1)) (hbL : ∀ g, (L g).below 0) (hLr : ∀ g r, 0 < (L g).room r → 0 < r.cap)
    (hO : 0 < O.room (cx.ρ0 k0) → (cx.ρ0 k0).blk < cx.w0.heap.size) (hk0 : k0 < cx.n0)
    (hF : ∀ g, I g → ∃ r : Rg, (0 < r.cap → r.blk < cx.w0.heap.size) ∧ ∀ (ρ : Asg) (w : World) (nx : Nat), ρ nx = r → ρ (nx + 1) = ρ k0 → (∀ b, b < cx.w0.heap.size → w.heap[b]? = cx.w0.heap[b]?) → SatO ρ w k0 false O →
      SatO ρ w nx false (L g) ∧ SatO ρ w (nx + 1) false (O' g nx))
    (h : loopFK cx B b Q s nl dead st hp I μ i0 k0 ln sz O O' L) : Sound cx (.loop b) Q s := by
  refine ⟨fun ρ a w hs QQ hQ => ?_⟩
  simp only [loopFK, forceN_eq] at h
  generalize modC b 0 = m at h
  obtain ⟨hm, ⟨g0, hg0, h0⟩, hstep⟩ := bif_and h
  simp only [forceSt_eq] at hstep
  have hs1 : Sat (lcx cx s.nx m ρ a.tmps) ρ s a w :=
    { size := hs.size, defers := hs.defers, env := hs.env, heap := hs.heap, bnd := hs.bnd, base := fun _ _ => rfl, keep := fun _ _ => rfl, n0 := Nat.le_refl _ }
  obtain ⟨ρ1, h1⟩ := ent_sat hs hs1 h0 (fun _ _ _ _ => rfl) rfl
  refine wpIn_loop_rounds (μ g0 + 1) ?_
  have key : ∀ n g ρ' a' w', μ g < n → I g → Sat (lcx cx s.nx m ρ a.tmps) ρ' (invSt s m nl dead (st g) (hp g)) a' w' → Code.roundsIn (fen cx.rd) 0 cx.P b QQ n a' w' := by
    intro n
    induction n with
    | zero => intro g ρ' a' w' h; omega
    | succ n ih =>
      intro g ρ' a1 w1 hlt hg hsat
      have hst := hstep g hg ρ a.tmps hs.base
      generalize invSt s m nl dead (st g) (hp g) = s1 at hst hsat
      obtain ⟨e1, H1, nx1⟩ := s1
      simp only [forceN_eq] at hst
      obtain ⟨⟨hget, hlook⟩, hvc⟩ := hst
      obtain ⟨r, hr, hfoc⟩ := hF g hg
      have hM' : (lcx cx s.nx m ρ a.tmps).M = [] := hM
      have hkn : k0 < nx1 := (hsat.bnd.heap k0 false O hlook).1
      have hk0s : k0 < s.nx := Nat.lt_of_lt_of_le hk0 hs.n0
      have hrk : ρ' k0 = cx.ρ0 k0 := (hsat.base k0 hk0s).trans (hs.base k0 hk0)
      have hsame : ∀ b, b < cx.w0.heap.size → w1.heap[b]? = cx.w0.heap[b]? := fun b hb => hsat.heap.frm.same b hb (by rw [hM']; simp)
      obtain ⟨ρ2, hρ2⟩ : ∃ ρ2, ρ2 = upd (upd ρ' nx1 r) (nx1 + 1) (ρ' k0) := ⟨_, rfl⟩
      have q1 : ρ2 nx1 = r := by rw [hρ2, upd_ne (by omega), upd_eq]
      have q2 : ρ2 (nx1 + 1) = ρ' k0 := by rw [hρ2, upd_eq]
      have q3 : ρ2 k0 = ρ' k0 := by rw [hρ2, upd_ne (by omega), upd_ne (by omega)]
      have hO0 : SatO ρ2 w1 k0 false O := (hsat.heap.reg k0 false O hlook).asg q3 (fun j hj => by
        have := (hsat.bnd.heap k0 false O hlook).2 j hj
        simp only at this
        rw [hρ2, upd_ne (by omega), upd_ne (by omega)])
      obtain ⟨f1, f2⟩ := hfoc ρ2 w1 nx1 q1 (by rw [q2, q3]) hsame hO0
      have hb0 : (L g).below (nx1 + 1) := fun j hj => by have := hbL g j hj; omega
      have s1 := hsat.addF hM' (r := r) (o := L g) (fun h0 => hr (hLr g r h0)) hb0 (f1.asg (by rw [q1, upd_eq]) (fun j hj => by have := hbL g j hj; omega))
      have s2 := s1.addF hM' (r := ρ' k0) (o := O' g nx1) (fun h0 => by rw [hroom] at h0; rw [hrk] at h0 ⊢; exact hO h0) (fun j hj => by have := hbO g nx1 j hj; omega) (by rw [← hρ2]; exact f2)
      rw [← hρ2] at s2
      have s3 := s2.alias (i0 := i0) (k0 := k0) (k1 := nx1 + 1) (n := ln) (sz := sz) hget (by rw [q2, q3]) (by omega)
      refine (vc_sound (cx := lcx cx s.nx m ρ a.tmps) hB b _ _ hvc).h ρ2 a1 w1 s3 _ ?_
      intro ex s' ρ4 a2 w2 hq hs2
      cases ex with
      | normal =>
        obtain ⟨g', hg', hlt', hback⟩ := hq
        obtain ⟨hf, hd, hK⟩ := bif_and hback
        simp only [Bool.and_eq_true] at hf
        obtain ⟨ρ3, h3⟩ := ent_sat hs hs2 hK (front_look hf.1 hd) (eqNs_eq hf.2)
        exact ih g' ρ3 a2 w2 (by omega) hg' h3
      | _ => exact hQ _ _ _ _ _ hq (hs.out hm hs2)
  exact key _ g0 ρ1 a w (Nat.lt_succ_self _) hg0 h1

end Sx
end Go

