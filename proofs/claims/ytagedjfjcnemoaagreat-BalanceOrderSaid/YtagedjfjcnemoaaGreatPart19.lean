/-
  A part of the proof that a law answers true: lemmas of a symbolic walk, plain functions, or contracts of the functions walked (Sx45, R6, R7, R8, R9). Conditions: none.
-/
import Derived.Test.YtagedjfjcnemoaaGreatPart11
import Derived.Shelf.SlSortCmp.Kit1
import Derived.Test.YtagedjfjcnemoaaGreatPart18
import Derived.Test.YtagedjfjcnemoaaGreatPart14
import Derived.Shelf.SlSortCmp.NoneTotal
set_option maxRecDepth 100000
set_option linter.unusedVariables false
set_option linter.unusedSimpArgs false
namespace Go
namespace Sx
open Go.Sort Go.RowKit Go.Proofs Go.Lib

theorem cmpLays1_of {P : Program} {g : FuncId} {cf : Int → Int → Int} {np : Nat} {w : World} {blk off size : Nat} (hT : ∀ x y, Triple P g [iv .i64 x, iv .i64 y] [] np (iv .i64 (cf x y)) []) :
    CmpLays1 P g #[] (Value.int .i64) cf blk off size w := by
  intro m os dk _ x y
  generalize sortWorld (Value.int .i64) w blk off m dk os = W
  have hsat : SatH W (ownB (fun _ => ⟨0, 0, 0⟩) []) (fun _ => ⟨0, 0, 0⟩) [] W :=
    ⟨Frm.refl W _, fun k own o h => by simp [look] at h, fun k k' o own' o' _ h => by simp [look] at h, fun k o h => by simp [look] at h, fun k own o h => by simp [look] at h⟩
  have hrel : relVs (fun _ => ⟨0, 0, 0⟩) [iv .i64 x, iv .i64 y] (#[Value.int .i64 x, Value.int .i64 y] ++ #[]).toList := ⟨rfl, rfl, trivial⟩
  refine ((hT x y).h _ W _ hrel hsat).mono ?_
  rintro e w' ⟨ρ', v, _, rfl, hv, hw'⟩
  have hv : v = .int .i64 (cf x y) := hv
  exact ⟨by rw [hv], grow_of_frm hw'.frm⟩

theorem sortI_of {P : Program} {F g : FuncId} {cf : Int → Int → Int} (hO : SWO (ltOf cf)) {np : Nat} (xs : List Int) (hx : xs.length ≤ 1000000) (enter : ∀ args w, (callFunc F args).run P w = .ok (.enter F args) w)
    (hcon : ∀ (cb : Array Value) (blk off cap : Nat) (d : Array Int) (w : World), CmpLays1 P g cb (Value.int .i64) cf blk off d.size w → Holds (Value.int .i64) w blk off d → blk < w.heap.size → d.size < 4611686018427387904 →
      Calls P F #[.slice (some ⟨blk, off, none⟩) d.size cap, .func (.func g) #[] cb] w fun e w' => e = .returned (.tuple #[]) ∧ ∃ m os, w' = sortWorld (Value.int .i64) w blk off m (pdq (ltOf cf) d 0 d.size (Lib.bitLen d.size) true true) os)
    (hnone : ∀ (p : Option Addr) (cap : Nat) (fv : Value) (w : World), Calls P F #[.slice p 0 cap, fv] w fun e w' => e = .returned (.tuple #[]) ∧ w' = w)
    (hT : ∀ x y, Triple P g [iv .i64 x, iv .i64 y] [] np (iv .i64 (cf x y)) []) :
    Triple P F [.c (.s 0 0 xs.length 1), .c (.f g [])] [(0, true, .arr (aInt xs))] 1 (.tup []) [(0, true, .arr (aInt (pdqL cf xs)))] where
  enter := enter
  h ρ w vals hv hH := by
    have hlen := pdqL_len hO xs
    match hvl : vals.toList, hv with
    | [v, u], hv =>
    have hu : u = .func (.func g) #[] #[] := hv.2.1
    have hvals : vals = #[v, u] := Array.toList_inj.1 (by simpa using hvl)
    subst hvals
    subst hu
    obtain ⟨a, ea, hcap, ha, hcells, hroom⟩ := own_slice (vals := #[v]) (xs := xs) ⟨hv.1, trivial⟩ hH
    have ev : v = .slice a xs.length (ρ 0).cap := by simpa using ea
    subst ev
    rcases Nat.eq_zero_or_pos xs.length with h0 | hpos
    · have hx0 := List.length_eq_zero_iff.1 h0
      subst hx0
      refine (hnone a (ρ 0).cap _ w).mono ?_
      rintro e w' ⟨rfl, rfl⟩
      refine ⟨ρ, _, fun _ _ => rfl, rfl, undef_rel, ?_⟩
      have : pdqL cf ([] : List Int) = [] := List.length_eq_zero_iff.1 hlen
      rw [this]; exact hH
    · obtain ⟨rfl, hblk⟩ := ha (by omega)
      have hoff : (ρ 0).off = 0 := (hH.reg 0 true _ (rfl : Sx.look [(0, true, SO.arr (aInt xs))] 0 = _)).off0 rfl
      have hHo : Holds (Value.int .i64) w (ρ 0).blk 0 xs.toArray := by
        intro j hj
        have hj : j < xs.length := by simpa using hj
        refine ⟨?_, ?_⟩
        · rw [hcells j hj]
          congr 2
          simp [hj]
        · have := (hroom j (by omega)).2
          simpa [adr, hoff] using this
      have hcc := hcon #[] (ρ 0).blk 0 (ρ 0).cap xs.toArray w (cmpLays1_of hT) hHo hblk (by simp; omega)
      simp only [List.size_toArray] at hcc
      refine hcc.mono ?_
      rintro e w' ⟨rfl, m, os, rfl⟩
      refine ⟨ρ, _, fun _ _ => rfl, rfl, undef_rel, ?_⟩
      obtain ⟨hsz, _, _⟩ := pdqL_size hO xs
      have hd : pdqL cf xs = (pdq (ltOf cf) xs.toArray 0 xs.length (Lib.bitLen xs.length) true true).toList := rfl
      generalize pdq (ltOf cf) xs.toArray 0 xs.length (Lib.bitLen xs.length) true true = d' at *
      rw [hd]
      have hdl : d'.toList.length = xs.length := by simpa using hsz
      have hHo2 : Holds (Value.int .i64) (Sort.ahead w m) (ρ 0).blk 0 xs.toArray := hHo
      have hblk2 : (ρ 0).blk < (putRow (Value.int .i64) (Sort.ahead w m) (ρ 0).blk 0 d').heap.size := by rw [Proofs.size_putRow]; exact hblk
      refine hH.rewrite ?_ (by rw [hdl]; exact hcap) ?_ ?_ ?_ (fun h => by omega)
      · show w.heap.size ≤ ((putRow (Value.int .i64) (Sort.ahead w m) (ρ 0).blk 0 d').heap ++ os).size
        rw [Array.size_append, Proofs.size_putRow]
        show w.heap.size ≤ w.heap.size + _
        omega
      · intro b hb hne
        show ((putRow (Value.int .i64) (Sort.ahead w m) (ρ 0).blk 0 d').heap ++ os)[b]? = _
        rw [Array.getElem?_append_left (by rw [Proofs.size_putRow]; exact hb)]
        simp only [putRow, mapBlock, Array.getElem?_modify]
        rw [if_neg (Ne.symm hne)]; rfl
      · intro j x hx
        have hj : j < d'.size := by have := (List.getElem?_eq_some_iff.1 hx).1; simpa using this
        have e := cell?_putRow (Value.int .i64) (Sort.ahead w m) (ρ 0).blk 0 xs.toArray d' hHo2 (by simpa using hsz) j hj
        rw [show adr ρ 0 j = ⟨(ρ 0).blk, 0 + j, none⟩ from by simp [adr, hoff]]
        show (grow (putRow (Value.int .i64) (Sort.ahead w m) (ρ 0).blk 0 d') os).cell? _ = _
        rw [cell?_grow _ _ _ hblk2, e]
        have hx2 : d'[j]? = some x := by simpa using hx
        obtain ⟨h1, h2⟩ := Array.getElem?_eq_some_iff.1 hx2
        rw [getElem!_pos d' j h1, h2]
      · intro t ht
        have hr := hroom t ht
        rw [show adr ρ 0 t = ⟨(ρ 0).blk, 0 + t, none⟩ from by simp [adr, hoff]] at hr ⊢
        show (∃ v, (grow (putRow (Value.int .i64) (Sort.ahead w m) (ρ 0).blk 0 d') os).cell? _ = some v) ∧ (grow (putRow (Value.int .i64) (Sort.ahead w m) (ρ 0).blk 0 d') os).frozen? _ = false
        rw [cell?_grow _ _ _ hblk2, frozen?_grow _ _ _ hblk2, frozen?_putRow]
        refine ⟨?_, hr.2⟩
        by_cases htl : t < xs.length
        · exact ⟨_, cell?_putRow (Value.int .i64) (Sort.ahead w m) (ρ 0).blk 0 xs.toArray d' hHo2 (by simpa using hsz) t (by rw [hsz]; exact htl)⟩
        · rw [cell?_putRow_other _ _ _ _ _ _ (.inr (.inr (by show 0 + d'.size ≤ 0 + t; omega)))]
          exact hr.1

end Sx
end Go

namespace Go.Proofs
open Go.Sx Go.Sort Go.RowKit

theorem encI_one {α : Type} (f : α → List Int) (x : α) : ∀ v ∈ encV f x, v.oneCell' = true := by
  intro v hv
  obtain ⟨z, _, rfl⟩ := List.mem_map.1 hv
  rfl

theorem sortThg_t (xs : List Thg) (hx : xs.length ≤ 1000000) : Triple Tryz.prog 223 [.c (.s 0 0 xs.length 4), .c (.f 175 [])] [(0, true, .arr (aThg xs))] 1 (.tup []) [(0, true, .arr (aThg (pdqL (fun x y : Thg => orI [cmpI x.lot y.lot, cmpI x.bale y.bale, cmpI x.smp y.smp, cmpI x.st y.st]) xs)))] :=
  sortF_of (n := 4) (f := thgL) (cf := (fun x y : Thg => orI [cmpI x.lot y.lot, cmpI x.bale y.bale, cmpI x.smp y.smp, cmpI x.st y.st])) (HC := []) (np := 1) (fun _ => rfl) (swo_of thgLt_ok cmp_thg) [] xs (by decide) hx Tryz.call223
    (fun cb blk off cap d w hcmp hH hblk hsz => AnyQ.slices_SortFunc_eq Tryz.laysSlF06_f223 4 (by intro w; kernel_rfl) (by intro w; kernel_rfl) (encV thgL) (fun _ => rfl) (encI_one _) (fun x y : Thg => orI [cmpI x.lot y.lot, cmpI x.bale y.bale, cmpI x.smp y.smp, cmpI x.st y.st]) (swo_of thgLt_ok cmp_thg) 175 cb blk off cap d w Tryz.call175 hcmp hH hblk hsz)
    (fun p cap fv w => AnyF.slices_SortFunc_none Tryz.laysSlF06_f223 p cap fv w) byObject_t (fun p hp => by cases hp)
theorem sortMom_t (xs : List Mom) (hx : xs.length ≤ 1000000) : Triple Tryz.prog 227 [.c (.s 0 0 xs.length 2), .c (.f 178 [])] [(0, true, .arr (aMom xs))] 1 (.tup []) [(0, true, .arr (aMom (pdqL (fun x y : Mom => orI [cmpI x.bal y.bal, cmpI x.tick y.tick]) xs)))] :=
  sortF_of (n := 2) (f := momL) (cf := (fun x y : Mom => orI [cmpI x.bal y.bal, cmpI x.tick y.tick])) (HC := []) (np := 1) (fun _ => rfl) (swo_of momLt_ok cmp_mom) [] xs (by decide) hx Tryz.call227
    (fun cb blk off cap d w hcmp hH hblk hsz => AnyQ.slices_SortFunc_eq Tryz.laysSlF06_f227 2 (by intro w; kernel_rfl) (by intro w; kernel_rfl) (encV momL) (fun _ => rfl) (encI_one _) (fun x y : Mom => orI [cmpI x.bal y.bal, cmpI x.tick y.tick]) (swo_of momLt_ok cmp_mom) 178 cb blk off cap d w Tryz.call178 hcmp hH hblk hsz)
    (fun p cap fv w => AnyF.slices_SortFunc_none Tryz.laysSlF06_f227 p cap fv w) byMoment_t (fun p hp => by cases hp)
theorem sortWgh_t (xs : List Wgh) (hx : xs.length ≤ 1000000) : Triple Tryz.prog 213 [.c (.s 0 0 xs.length 8), .c (.f 156 [])] [(0, true, .arr (aWgh xs))] 1 (.tup []) [(0, true, .arr (aWgh (pdqL (fun x y : Wgh => cmpI x.id y.id) xs)))] :=
  sortF_of (n := 8) (f := wghL) (cf := (fun x y : Wgh => cmpI x.id y.id)) (HC := []) (np := 1) (fun _ => rfl) (swo_id (cmp_id Wgh.id)) [] xs (by decide) hx Tryz.call213
    (fun cb blk off cap d w hcmp hH hblk hsz => AnyQ.slices_SortFunc_eq Tryz.laysSlF06_f213 8 (by intro w; kernel_rfl) (by intro w; kernel_rfl) (encV wghL) (fun _ => rfl) (encI_one _) (fun x y : Wgh => cmpI x.id y.id) (swo_id (cmp_id Wgh.id)) 156 cb blk off cap d w Tryz.call156 hcmp hH hblk hsz)
    (fun p cap fv w => AnyF.slices_SortFunc_none Tryz.laysSlF06_f213 p cap fv w) byIdWgh_t (fun p hp => by cases hp)
theorem sortChk_t (xs : List Chk) (hx : xs.length ≤ 1000000) : Triple Tryz.prog 217 [.c (.s 0 0 xs.length 5), .c (.f 160 [])] [(0, true, .arr (aChk xs))] 1 (.tup []) [(0, true, .arr (aChk (pdqL (fun x y : Chk => cmpI x.id y.id) xs)))] :=
  sortF_of (n := 5) (f := chkL) (cf := (fun x y : Chk => cmpI x.id y.id)) (HC := []) (np := 1) (fun _ => rfl) (swo_id (cmp_id Chk.id)) [] xs (by decide) hx Tryz.call217
    (fun cb blk off cap d w hcmp hH hblk hsz => AnyQ.slices_SortFunc_eq Tryz.laysSlF06_f217 5 (by intro w; kernel_rfl) (by intro w; kernel_rfl) (encV chkL) (fun _ => rfl) (encI_one _) (fun x y : Chk => cmpI x.id y.id) (swo_id (cmp_id Chk.id)) 160 cb blk off cap d w Tryz.call160 hcmp hH hblk hsz)
    (fun p cap fv w => AnyF.slices_SortFunc_none Tryz.laysSlF06_f217 p cap fv w) byIdChk_t (fun p hp => by cases hp)
theorem sortNtc_t (xs : List Ntc) (hx : xs.length ≤ 1000000) : Triple Tryz.prog 230 [.c (.s 0 0 xs.length 6), .c (.f 181 [])] [(0, true, .arr (aNtc xs))] 1 (.tup []) [(0, true, .arr (aNtc (pdqL (fun x y : Ntc => cmpI x.id y.id) xs)))] :=
  sortF_of (n := 6) (f := ntcL) (cf := (fun x y : Ntc => cmpI x.id y.id)) (HC := []) (np := 1) (fun _ => rfl) (swo_id (cmp_id Ntc.id)) [] xs (by decide) hx Tryz.call230
    (fun cb blk off cap d w hcmp hH hblk hsz => AnyQ.slices_SortFunc_eq Tryz.laysSlF06_f230 6 (by intro w; kernel_rfl) (by intro w; kernel_rfl) (encV ntcL) (fun _ => rfl) (encI_one _) (fun x y : Ntc => cmpI x.id y.id) (swo_id (cmp_id Ntc.id)) 181 cb blk off cap d w Tryz.call181 hcmp hH hblk hsz)
    (fun p cap fv w => AnyF.slices_SortFunc_none Tryz.laysSlF06_f230 p cap fv w) byIdNtc_t (fun p hp => by cases hp)

theorem sortInt_t (xs : List Int) (hx : xs.length ≤ 1000000) : Triple Tryz.prog 220 [.c (.s 0 0 xs.length 1), .c (.f 157 [])] [(0, true, .arr (aInt xs))] 1 (.tup []) [(0, true, .arr (aInt (pdqL cmpI xs)))] :=
  sortI_of (swo_id (cmp_id id)) xs hx Tryz.call220
    (fun cb blk off cap d w hcmp hH hblk hsz => Any.slices_SortFunc_eq Tryz.laysSlF6_f220 (Value.int .i64) (by intro x; rfl) cmpI (swo_id (cmp_id id)) 157 cb blk off cap d w Tryz.call157 hcmp hH hblk hsz)
    (fun p cap fv w => AnyF.slices_SortFunc_none Tryz.laysSlF06_f220 p cap fv w) compare_t

end Go.Proofs

namespace Go.Proofs
open Go.Sx

theorem distinctThg_t (xs : List Thg) (hx : xs.length ≤ 1000000) : Triple Tryz.prog 174 [.c (.s 0 0 xs.length 4), .c (.f 175 [])] [(0, true, .arr (aThg xs))] 1 (.c (.s 0 0 (distS thgLt xs).length 4)) [(0, true, .arr (aThg (distS thgLt xs)))] := by
  have hO := swo_of thgLt_ok cmp_thg
  have hl := pdqL_len hO xs
  have hS := sortThg_t xs hx
  rw [← pdqL_dist thgLt_ok cmp_thg xs]
  generalize pdqL (fun x y : Thg => orI [cmpI x.lot y.lot, cmpI x.bale y.bale, cmpI x.smp y.smp, cmpI x.st y.st]) xs = ys at *
  refine triple_of tB_ok Tryz.func174 rfl Tryz.call174 rfl ?_
  intro ρ w hH
  conv=>whnf
  refine call_step hS rfl rfl ?_
  conv=>whnf
  refine ⟨?_, ?_, ?_⟩
  iterate 2 · repeat' (first | exact trivial | exact rfl | refine And.intro ?_ ?_ | ((conv=>whnf); first | exact trivial | exact rfl | refine And.intro ?_ ?_ | omega))
  conv=>whnf
  have hC := compactThg_t ys (by omega)
  rw [hl] at hC
  refine call_step hC rfl rfl ?_
  conv=>whnf
  refine ⟨?_, ?_, ?_⟩
  iterate 2 · repeat' (first | exact trivial | exact rfl | refine And.intro ?_ ?_ | ((conv=>whnf); first | exact trivial | exact rfl | refine And.intro ?_ ?_ | omega))
  conv=>whnf
  repeat' (first | exact trivial | exact rfl | refine And.intro ?_ ?_ | ((conv=>whnf); first | exact trivial | exact rfl | refine And.intro ?_ ?_ | omega))

theorem distinctMom_t (xs : List Mom) (hx : xs.length ≤ 1000000) : Triple Tryz.prog 177 [.c (.s 0 0 xs.length 2), .c (.f 178 [])] [(0, true, .arr (aMom xs))] 1 (.c (.s 0 0 (distS momLt xs).length 2)) [(0, true, .arr (aMom (distS momLt xs)))] := by
  have hO := swo_of momLt_ok cmp_mom
  have hl := pdqL_len hO xs
  have hS := sortMom_t xs hx
  rw [← pdqL_dist momLt_ok cmp_mom xs]
  generalize pdqL (fun x y : Mom => orI [cmpI x.bal y.bal, cmpI x.tick y.tick]) xs = ys at *
  refine triple_of tB_ok Tryz.func177 rfl Tryz.call177 rfl ?_
  intro ρ w hH
  conv=>whnf
  refine call_step hS rfl rfl ?_
  conv=>whnf
  refine ⟨?_, ?_, ?_⟩
  iterate 2 · repeat' (first | exact trivial | exact rfl | refine And.intro ?_ ?_ | ((conv=>whnf); first | exact trivial | exact rfl | refine And.intro ?_ ?_ | omega))
  conv=>whnf
  have hC := compactMom_t ys (by omega)
  rw [hl] at hC
  refine call_step hC rfl rfl ?_
  conv=>whnf
  refine ⟨?_, ?_, ?_⟩
  iterate 2 · repeat' (first | exact trivial | exact rfl | refine And.intro ?_ ?_ | ((conv=>whnf); first | exact trivial | exact rfl | refine And.intro ?_ ?_ | omega))
  conv=>whnf
  repeat' (first | exact trivial | exact rfl | refine And.intro ?_ ?_ | ((conv=>whnf); first | exact trivial | exact rfl | refine And.intro ?_ ?_ | omega))

theorem distinctInt_t (xs : List Int) (hx : xs.length ≤ 1000000) : Triple Tryz.prog 168 [.c (.s 0 0 xs.length 1), .c (.f 157 [])] [(0, true, .arr (aInt xs))] 1 (.c (.s 0 0 (distS (fun a b : Int => decide (a < b)) xs).length 1)) [(0, true, .arr (aInt (distS (fun a b : Int => decide (a < b)) xs)))] := by
  have hO := swo_of intLt_ok (fun x y => cmp_id id x y)
  have hl := pdqL_len hO xs
  have hS := sortInt_t xs hx
  rw [← pdqL_dist intLt_ok (fun x y => cmp_id id x y) xs]
  have e : (fun x y : Int => cmpI (id x) (id y)) = cmpI := rfl
  rw [e] at hl ⊢
  generalize pdqL cmpI xs = ys at *
  refine triple_of tB_ok Tryz.func168 rfl Tryz.call168 rfl ?_
  intro ρ w hH
  conv=>whnf
  refine call_step hS rfl rfl ?_
  conv=>whnf
  refine ⟨?_, ?_, ?_⟩
  iterate 2 · repeat' (first | exact trivial | exact rfl | refine And.intro ?_ ?_ | ((conv=>whnf); first | exact trivial | exact rfl | refine And.intro ?_ ?_ | omega))
  conv=>whnf
  have hC := compactInt_t ys (by omega)
  rw [hl] at hC
  refine call_step hC rfl rfl ?_
  conv=>whnf
  refine ⟨?_, ?_, ?_⟩
  iterate 2 · repeat' (first | exact trivial | exact rfl | refine And.intro ?_ ?_ | ((conv=>whnf); first | exact trivial | exact rfl | refine And.intro ?_ ?_ | omega))
  conv=>whnf
  repeat' (first | exact trivial | exact rfl | refine And.intro ?_ ?_ | ((conv=>whnf); first | exact trivial | exact rfl | refine And.intro ?_ ?_ | omega))

theorem objects_t (r : Rd) (hw : r.ws.length ≤ 100000) : Triple Tryz.prog 118 [rdA r] (rdH r) 4 (.c (.s 4 0 (objsF r).length 4)) [(4, true, .arr (aThg (objsF r)))] := by
  have e : objsF r = distS thgLt (r.ws.map Wgh.o) := rfl
  rw [e]
  clear e
  obtain ⟨bs, cs, ns, ws⟩ := r
  dsimp only at *
  refine triple_of tB_ok Tryz.func118 rfl Tryz.call118 rfl ?_
  intro ρ w hH
  conv=>whnf
  refine loop_step tB_ok (G := Nat) 1 [] (fun i => [(9, iv .i64 i), (3, .c (.s 5 0 ((ws.take i).map Wgh.o).length 4))]) (fun i => [(5, true, .arr (aThg ((ws.take i).map Wgh.o)))]) (fun i => i ≤ ws.length) (fun i => ws.length - i) ?_
  conv=>whnf
  refine ⟨⟨0, Nat.zero_le _, ?_⟩, ?_⟩
  · conv=>whnf
    repeat' (first | exact trivial | exact rfl | refine And.intro ?_ ?_ | ((conv=>whnf); first | exact trivial | exact rfl | refine And.intro ?_ ?_ | omega))
  rintro i hi ρ1 t1 hρ1
  conv=>whnf
  refine ⟨fun hc => ?_, fun hc => ?_⟩
  · have hlt : i < ws.length := by simpa using hc
    have hL : ((ws.take i).map Wgh.o).length ≤ 100000 := by rw [List.length_map, List.length_take]; omega
    have hnx : (ws.take (i + 1)).map Wgh.o = (ws.take i).map Wgh.o ++ [ws[i].o] := by rw [take_snoc hlt, List.map_append]; rfl
    generalize (ws.take i).map Wgh.o = L at *
    conv=>whnf
    refine ⟨i, rfl, hlt, hlt, ?_⟩
    conv=>whnf
    refine bs_step tB_ok (aThg [ws[i].o]) rfl rfl ?_
    conv=>whnf
    refine ⟨⟨rfl, (by repeat' (first | exact trivial | exact rfl | refine And.intro ?_ ?_ | ((conv=>whnf); first | exact trivial | exact rfl | refine And.intro ?_ ?_ | omega)))⟩, ?_⟩
    conv=>whnf
    refine app_step tB_ok (aThg L) [ws[i].o] (fun _ => rfl) rfl rfl rfl rfl ?_
    conv=>whnf
    refine ⟨⟨rfl, rfl, Nat.le_refl _, Nat.le_refl _, by show (L.length + 1) * 33 ≤ _; omega⟩, ?_⟩
    conv=>whnf
    refine ⟨_, wrapId ⟨by omega, by omega⟩, ?_⟩
    refine ⟨i + 1, hlt, by show ws.length - (i + 1) < ws.length - i; omega, ?_⟩
    dsimp only
    rw [hnx]
    conv=>whnf
    refine ⟨rfl, ?_⟩
    conv=>whnf
    repeat' (first | exact trivial | exact rfl | refine And.intro ?_ ?_ | ((conv=>whnf); first | exact trivial | exact rfl | refine And.intro ?_ ?_ | omega))
    all_goals first | exact (congrArg aThg app1.symm : _) | exact (congrArg aThg app1 : _) | simp
  · have hie : i = ws.length := by simp at hc; omega
    subst hie
    rw [List.take_length]
    conv=>whnf
    refine call_step (distinctThg_t (ws.map Wgh.o) (by rw [List.length_map]; omega)) rfl rfl ?_
    conv=>whnf
    refine ⟨?_, ?_, ?_⟩
    iterate 2 · repeat' (first | exact trivial | exact rfl | refine And.intro ?_ ?_ | ((conv=>whnf); first | exact trivial | exact rfl | refine And.intro ?_ ?_ | omega))
    conv=>whnf
    repeat' (first | exact trivial | exact rfl | refine And.intro ?_ ?_ | ((conv=>whnf); first | exact trivial | exact rfl | refine And.intro ?_ ?_ | omega))

theorem moms_eq (r : Rd) (more : List Mom) : distS momLt ((more ++ r.ws.map wMom) ++ r.cs.map cMom) = momsF r more := by
  unfold momsF
  refine distS_unique momLt_ok (distS_inc momLt_ok _) fun z => ?_
  rw [distS_mem momLt_ok]
  simp only [List.mem_append]
  constructor
  · rintro ((h | h) | h)
    · exact .inr (.inr h)
    · exact .inl h
    · exact .inr (.inl h)
  · rintro (h | h | h)
    · exact .inl (.inr h)
    · exact .inr h
    · exact .inl (.inl h)

theorem cloneMom_t (xs : List Mom) (hb : xs.length ≤ 1000000) : Triple Tryz.prog 176 [.c (.s 0 0 xs.length 2)] [(0, false, .arr (aMom xs))] 1 (.c (.s 1 0 xs.length 2)) [(1, true, .arr (aMom xs))] := by
  refine triple_of tB_ok Tryz.func176 rfl Tryz.call176 rfl ?_
  intro ρ w hH
  conv=>whnf
  have go : aMom (List.take 0 [] ++ List.take xs.length (List.drop 0 xs)) = aMom xs := by
    simp
  refine ⟨fun h0 => ?_, fun h0 => ?_⟩
  · conv=>whnf
    refine ⟨?_, ?_⟩
    · conv=>whnf
      repeat' (first | exact trivial | exact rfl | refine And.intro ?_ ?_ | ((conv=>whnf); first | exact trivial | exact rfl | refine And.intro ?_ ?_ | omega))
      all_goals first | exact h0 | exact List.length_eq_zero_iff.1 h0
    · conv=>whnf
      refine bs_step tB_ok (aMom []) rfl rfl ?_
      conv=>whnf
      refine ⟨⟨rfl, trivial⟩, ?_⟩
      conv=>whnf
      refine app_step tB_ok (aMom []) xs (fun _ => rfl) rfl rfl rfl rfl ?_
      conv=>whnf
      refine ⟨⟨rfl, rfl, Nat.le_refl _, by rw [Nat.zero_add]; exact Nat.le_refl _, by show (0 + xs.length) * 17 ≤ _; omega⟩, ?_⟩
      conv=>whnf
      repeat' (first | exact trivial | exact rfl | refine And.intro ?_ ?_ | ((conv=>whnf); first | exact trivial | exact rfl | refine And.intro ?_ ?_ | omega))
      all_goals first | exact go | simp
  · conv=>whnf
    refine bs_step tB_ok (aMom []) rfl rfl ?_
    conv=>whnf
    refine ⟨⟨rfl, trivial⟩, ?_⟩
    conv=>whnf
    refine app_step tB_ok (aMom []) xs (fun _ => rfl) rfl rfl rfl rfl ?_
    conv=>whnf
    refine ⟨⟨rfl, rfl, Nat.le_refl _, by rw [Nat.zero_add]; exact Nat.le_refl _, by show (0 + xs.length) * 17 ≤ _; omega⟩, ?_⟩
    conv=>whnf
    repeat' (first | exact trivial | exact rfl | refine And.intro ?_ ?_ | ((conv=>whnf); first | exact trivial | exact rfl | refine And.intro ?_ ?_ | omega))
    all_goals first | exact go | simp

theorem map_round {α β : Type} (a : List β) (f : α → β) {l : List α} {i : Nat} (h : i < l.length) : a ++ (l.take (i + 1)).map f = (a ++ (l.take i).map f) ++ [f l[i]] := by
  rw [take_snoc h, List.map_append, List.append_assoc]; rfl

theorem moments_t (r : Rd) (more : List Mom) (hm : more.length ≤ 100000) (hw : r.ws.length ≤ 100000) (hcs : r.cs.length ≤ 100000) :
    Triple Tryz.prog 119 [rdA r, .c (.s 4 0 more.length 2)] (rdH r ++ [(4, false, .arr (aMom more))]) 5 (.c (.s 5 0 (momsF r more).length 2)) [(5, true, .arr (aMom (momsF r more)))] := by
  rw [← moms_eq]
  obtain ⟨bs, cs, ns, ws⟩ := r
  dsimp only at *
  refine triple_of tB_ok Tryz.func119 rfl Tryz.call119 rfl ?_
  intro ρ w hH
  conv=>whnf
  refine call_step (cloneMom_t more (by omega)) rfl rfl ?_
  conv=>whnf
  refine ⟨?_, ?_, ?_⟩
  iterate 2 · repeat' (first | exact trivial | exact rfl | refine And.intro ?_ ?_ | ((conv=>whnf); first | exact trivial | exact rfl | refine And.intro ?_ ?_ | omega))
  conv=>whnf
  refine loop_step tB_ok (G := Nat) 1 [6] (fun i => [(15, iv .i64 i), (5, .c (.s 7 0 (more ++ (ws.take i).map wMom).length 2))]) (fun i => [(7, true, .arr (aMom (more ++ (ws.take i).map wMom)))]) (fun i => i ≤ ws.length) (fun i => ws.length - i) ?_
  conv=>whnf
  refine ⟨⟨0, Nat.zero_le _, ?_⟩, ?_⟩
  · conv=>whnf
    repeat' (first | exact trivial | exact rfl | refine And.intro ?_ ?_ | ((conv=>whnf); first | exact trivial | exact rfl | refine And.intro ?_ ?_ | omega))
    all_goals first | (show aMom more = aMom (more ++ []); rw [List.append_nil]) | simp
  rintro i hi ρ1 t1 hρ1
  conv=>whnf
  refine ⟨fun hc => ?_, fun hc => ?_⟩
  · have hlt : i < ws.length := by simpa using hc
    have hL : (more ++ (ws.take i).map wMom).length ≤ 200000 := by rw [List.length_append, List.length_map, List.length_take]; omega
    have hnx := map_round more wMom hlt
    generalize more ++ (ws.take i).map wMom = L at *
    conv=>whnf
    refine ⟨i, rfl, hlt, hlt, ?_⟩
    conv=>whnf
    refine bs_step tB_ok (aMom [wMom ws[i]]) rfl rfl ?_
    conv=>whnf
    refine ⟨⟨rfl, (by repeat' (first | exact trivial | exact rfl | refine And.intro ?_ ?_ | ((conv=>whnf); first | exact trivial | exact rfl | refine And.intro ?_ ?_ | omega)))⟩, ?_⟩
    conv=>whnf
    refine app_step tB_ok (aMom L) [wMom ws[i]] (fun _ => rfl) rfl rfl rfl rfl ?_
    conv=>whnf
    refine ⟨⟨rfl, rfl, Nat.le_refl _, Nat.le_refl _, by show (L.length + 1) * 17 ≤ _; omega⟩, ?_⟩
    conv=>whnf
    refine ⟨_, wrapId ⟨by omega, by omega⟩, ?_⟩
    refine ⟨i + 1, hlt, by show ws.length - (i + 1) < ws.length - i; omega, ?_⟩
    dsimp only
    rw [hnx]
    conv=>whnf
    refine ⟨rfl, ?_⟩
    conv=>whnf
    repeat' (first | exact trivial | exact rfl | refine And.intro ?_ ?_ | ((conv=>whnf); first | exact trivial | exact rfl | refine And.intro ?_ ?_ | omega))
    all_goals first | exact (congrArg aMom app1.symm : _) | exact (congrArg aMom app1 : _) | simp
  have hie : i = ws.length := by simp at hc; omega
  subst hie
  rw [List.take_length]
  have hL : (more ++ ws.map wMom).length ≤ 200000 := by rw [List.length_append, List.length_map]; omega
  generalize more ++ ws.map wMom = L at *
  conv=>whnf
  refine loop_step tB_ok (G := Nat) 1 [7] (fun i => [(31, iv .i64 i), (5, .c (.s 8 0 (L ++ (cs.take i).map cMom).length 2))]) (fun i => [(8, true, .arr (aMom (L ++ (cs.take i).map cMom)))]) (fun i => i ≤ cs.length) (fun i => cs.length - i) ?_
  conv=>whnf
  refine ⟨⟨0, Nat.zero_le _, ?_⟩, ?_⟩
  · conv=>whnf
    repeat' (first | exact trivial | exact rfl | refine And.intro ?_ ?_ | ((conv=>whnf); first | exact trivial | exact rfl | refine And.intro ?_ ?_ | omega))
    all_goals first | (show aMom L = aMom (L ++ []); rw [List.append_nil]) | simp
  rintro i hi ρ1 t1 hρ1
  conv=>whnf
  refine ⟨fun hc => ?_, fun hc => ?_⟩
  · have hlt : i < cs.length := by simpa using hc
    have hL : (L ++ (cs.take i).map cMom).length ≤ 300000 := by rw [List.length_append, List.length_map, List.length_take]; omega
    have hnx := map_round L cMom hlt
    generalize L ++ (cs.take i).map cMom = M at *
    conv=>whnf
    refine ⟨i, rfl, hlt, hlt, ?_⟩
    conv=>whnf
    refine bs_step tB_ok (aMom [cMom cs[i]]) rfl rfl ?_
    conv=>whnf
    refine ⟨⟨rfl, (by repeat' (first | exact trivial | exact rfl | refine And.intro ?_ ?_ | ((conv=>whnf); first | exact trivial | exact rfl | refine And.intro ?_ ?_ | omega)))⟩, ?_⟩
    conv=>whnf
    refine app_step tB_ok (aMom M) [cMom cs[i]] (fun _ => rfl) rfl rfl rfl rfl ?_
    conv=>whnf
    refine ⟨⟨rfl, rfl, Nat.le_refl _, Nat.le_refl _, by show (M.length + 1) * 17 ≤ _; omega⟩, ?_⟩
    conv=>whnf
    refine ⟨_, wrapId ⟨by omega, by omega⟩, ?_⟩
    refine ⟨i + 1, hlt, by show cs.length - (i + 1) < cs.length - i; omega, ?_⟩
    dsimp only
    rw [hnx]
    conv=>whnf
    refine ⟨rfl, ?_⟩
    conv=>whnf
    repeat' (first | exact trivial | exact rfl | refine And.intro ?_ ?_ | ((conv=>whnf); first | exact trivial | exact rfl | refine And.intro ?_ ?_ | omega))
    all_goals first | exact (congrArg aMom app1.symm : _) | exact (congrArg aMom app1 : _) | simp
  have hie : i = cs.length := by simp at hc; omega
  subst hie
  rw [List.take_length]
  have hL2 : (L ++ cs.map cMom).length ≤ 300000 := by rw [List.length_append, List.length_map]; omega
  generalize L ++ cs.map cMom = M at *
  conv=>whnf
  refine call_step (distinctMom_t M (by omega)) rfl rfl ?_
  conv=>whnf
  refine ⟨?_, ?_, ?_⟩
  iterate 2 · repeat' (first | exact trivial | exact rfl | refine And.intro ?_ ?_ | ((conv=>whnf); first | exact trivial | exact rfl | refine And.intro ?_ ?_ | omega))
  conv=>whnf
  repeat' (first | exact trivial | exact rfl | refine And.intro ?_ ?_ | ((conv=>whnf); first | exact trivial | exact rfl | refine And.intro ?_ ?_ | omega))

end Go.Proofs

namespace Go.Proofs
open Go.Sx

theorem sortedWgh_t (xs : List Wgh) (hb : xs.length ≤ 1000) (hd : (xs.map Wgh.id).Nodup) :
    Triple Tryz.prog 154 [.c (.f 214 [0]), .c (.f 156 [])]
      [(0, false, .cells [.s 1 0 xs.length 8]), (1, false, .arr (aWgh xs))] 2 (.c (.s 2 0 xs.length 8)) [(2, true, .arr (aWgh (sortK Wgh.id xs)))] := by
  have hS := sortWgh_t xs (by omega)
  rw [pdqL_sort (cmp_id Wgh.id) hd] at hS
  refine triple_of tB_ok Tryz.func154 rfl Tryz.call154 rfl ?_
  intro ρ w hH
  conv=>whnf
  refine call_step (collectWgh_t xs hb) rfl rfl ?_
  conv=>whnf
  refine ⟨?_, ?_, ?_⟩
  iterate 2 · repeat' (first | exact trivial | exact rfl | refine And.intro ?_ ?_ | ((conv=>whnf); first | exact trivial | exact rfl | refine And.intro ?_ ?_ | omega))
  conv=>whnf
  refine call_step hS rfl rfl ?_
  conv=>whnf
  refine ⟨?_, ?_, ?_⟩
  iterate 2 · repeat' (first | exact trivial | exact rfl | refine And.intro ?_ ?_ | ((conv=>whnf); first | exact trivial | exact rfl | refine And.intro ?_ ?_ | omega))
  conv=>whnf
  repeat' (first | exact trivial | exact rfl | refine And.intro ?_ ?_ | ((conv=>whnf); first | exact trivial | exact rfl | refine And.intro ?_ ?_ | omega))
theorem sortedChk_t (xs : List Chk) (hb : xs.length ≤ 1000) (hd : (xs.map Chk.id).Nodup) :
    Triple Tryz.prog 158 [.c (.f 218 [0]), .c (.f 160 [])]
      [(0, false, .cells [.s 1 0 xs.length 5]), (1, false, .arr (aChk xs))] 2 (.c (.s 2 0 xs.length 5)) [(2, true, .arr (aChk (sortK Chk.id xs)))] := by
  have hS := sortChk_t xs (by omega)
  rw [pdqL_sort (cmp_id Chk.id) hd] at hS
  refine triple_of tB_ok Tryz.func158 rfl Tryz.call158 rfl ?_
  intro ρ w hH
  conv=>whnf
  refine call_step (collectChk_t xs hb) rfl rfl ?_
  conv=>whnf
  refine ⟨?_, ?_, ?_⟩
  iterate 2 · repeat' (first | exact trivial | exact rfl | refine And.intro ?_ ?_ | ((conv=>whnf); first | exact trivial | exact rfl | refine And.intro ?_ ?_ | omega))
  conv=>whnf
  refine call_step hS rfl rfl ?_
  conv=>whnf
  refine ⟨?_, ?_, ?_⟩
  iterate 2 · repeat' (first | exact trivial | exact rfl | refine And.intro ?_ ?_ | ((conv=>whnf); first | exact trivial | exact rfl | refine And.intro ?_ ?_ | omega))
  conv=>whnf
  repeat' (first | exact trivial | exact rfl | refine And.intro ?_ ?_ | ((conv=>whnf); first | exact trivial | exact rfl | refine And.intro ?_ ?_ | omega))
theorem sortedNtc_t (xs : List Ntc) (hb : xs.length ≤ 1000) (hd : (xs.map Ntc.id).Nodup) :
    Triple Tryz.prog 179 [.c (.f 231 [0]), .c (.f 181 [])]
      [(0, false, .cells [.s 1 0 xs.length 6]), (1, false, .arr (aNtc xs))] 2 (.c (.s 2 0 xs.length 6)) [(2, true, .arr (aNtc (sortK Ntc.id xs)))] := by
  have hS := sortNtc_t xs (by omega)
  rw [pdqL_sort (cmp_id Ntc.id) hd] at hS
  refine triple_of tB_ok Tryz.func179 rfl Tryz.call179 rfl ?_
  intro ρ w hH
  conv=>whnf
  refine call_step (collectNtc_t xs hb) rfl rfl ?_
  conv=>whnf
  refine ⟨?_, ?_, ?_⟩
  iterate 2 · repeat' (first | exact trivial | exact rfl | refine And.intro ?_ ?_ | ((conv=>whnf); first | exact trivial | exact rfl | refine And.intro ?_ ?_ | omega))
  conv=>whnf
  refine call_step hS rfl rfl ?_
  conv=>whnf
  refine ⟨?_, ?_, ?_⟩
  iterate 2 · repeat' (first | exact trivial | exact rfl | refine And.intro ?_ ?_ | ((conv=>whnf); first | exact trivial | exact rfl | refine And.intro ?_ ?_ | omega))
  conv=>whnf
  repeat' (first | exact trivial | exact rfl | refine And.intro ?_ ?_ | ((conv=>whnf); first | exact trivial | exact rfl | refine And.intro ?_ ?_ | omega))

theorem shift_t (r : Rd) (m : Mom) (hb : r.bs.length ≤ 1000000) (hn : r.ns.length ≤ 1000) (hd : (r.ns.map Ntc.id).Nodup) :
    Triple Tryz.prog 120 [rdA r, svMom m] (rdH r) 4 (.tup [.inr [.v (.int .i64 (sideF r m).lo), .v (.int .i64 (sideF r m).hi)], .inr [.v (.int .i64 (sideF r m).loI), .v (.int .i64 (sideF r m).hiI)]]) [] := by
  have hF := find_t r m.bal hb
  have e0 : sideF r m = (sortK Ntc.id r.ns).foldl (sideStep m) ⟨(findD r.bs m.bal).lo, (findD r.bs m.bal).hi, 0, 0, false⟩ := rfl
  have hsl := sortK_len Ntc.id r.ns
  have hS := sortedNtc_t r.ns hn hd
  rw [e0]
  clear e0
  generalize findD r.bs m.bal = d at *
  generalize hasB r.bs m.bal = ok at *
  generalize sortK Ntc.id r.ns = L at *
  refine triple_of tB_ok Tryz.func120 rfl Tryz.call120 rfl ?_
  intro ρ w hH
  conv=>whnf
  refine call_step hF rfl rfl ?_
  conv=>whnf
  refine ⟨?_, ?_, ?_⟩
  iterate 2 · repeat' (first | exact trivial | exact rfl | refine And.intro ?_ ?_ | ((conv=>whnf); first | exact trivial | exact rfl | refine And.intro ?_ ?_ | omega))
  conv=>whnf
  refine call_step (valuesNtc_t r.ns) rfl rfl ?_
  conv=>whnf
  refine ⟨?_, ?_, ?_⟩
  iterate 2 · repeat' (first | exact trivial | exact rfl | refine And.intro ?_ ?_ | ((conv=>whnf); first | exact trivial | exact rfl | refine And.intro ?_ ?_ | omega))
  conv=>whnf
  refine call_step hS rfl rfl ?_
  conv=>whnf
  refine ⟨?_, ?_, ?_⟩
  iterate 2 · repeat' (first | exact trivial | exact rfl | refine And.intro ?_ ?_ | ((conv=>whnf); first | exact trivial | exact rfl | refine And.intro ?_ ?_ | omega))
  generalize hs0 : (⟨d.lo, d.hi, 0, 0, false⟩ : Sid) = s0
  rw [← hsl]
  conv=>whnf
  refine loop_step tB_ok (G := Nat) 0 [] (fun i => [(25, iv .i64 i), (8, bv ((L.take i).foldl (sideStep m) s0).some)])
    (fun i => [(6, true, .cells [.v (.int .i64 ((L.take i).foldl (sideStep m) s0).lo), .v (.int .i64 ((L.take i).foldl (sideStep m) s0).hi)]), (7, true, .cells [.v (.int .i64 ((L.take i).foldl (sideStep m) s0).loI), .v (.int .i64 ((L.take i).foldl (sideStep m) s0).hiI)])])
    (fun i => i ≤ L.length) (fun i => L.length - i) ?_
  conv=>whnf
  refine ⟨⟨0, Nat.zero_le _, ?_⟩, ?_⟩
  · subst hs0
    conv=>whnf
    repeat' (first | exact trivial | exact rfl | refine And.intro ?_ ?_ | ((conv=>whnf); first | exact trivial | exact rfl | refine And.intro ?_ ?_ | omega))
  clear hs0
  intro i hi ρ1 t1 hρ1
  conv=>whnf
  refine ⟨fun hc => ?_, fun hc => ?_⟩
  · have hlt : i < L.length := by simpa using hc
    have hnx : (L.take (i + 1)).foldl (sideStep m) s0 = sideStep m ((L.take i).foldl (sideStep m) s0) L[i] := by
      rw [take_snoc hlt, List.foldl_append]; rfl
    generalize (L.take i).foldl (sideStep m) s0 = s at *
    conv=>whnf
    refine ⟨i, rfl, hlt, hlt, ?_⟩
    conv=>whnf
    refine ⟨fun hc => ?_, fun hc => ?_⟩
    · have h1 : (L[i].bal == m.bal) = false := by
        have : (L[i].bal != m.bal) = true := hc
        simpa using this
      have e : sideStep m s L[i] = s := by
        unfold sideStep
        simp [h1]
      rw [e] at hnx
      conv=>whnf
      refine ⟨_, wrapId ⟨by omega, by omega⟩, ?_⟩
      refine ⟨i + 1, hlt, by show L.length - (i + 1) < L.length - i; omega, ?_⟩
      dsimp only
      rw [hnx]
      conv=>whnf
      refine ⟨rfl, ?_⟩
      conv=>whnf
      repeat' (first | exact trivial | exact rfl | refine And.intro ?_ ?_ | ((conv=>whnf); first | exact trivial | exact rfl | refine And.intro ?_ ?_ | omega))
    have h1 : (L[i].bal == m.bal) = true := by
      have : (L[i].bal != m.bal) = false := hc
      simpa using this
    conv=>whnf
    refine call_step (bWithin_t m.tick L[i].wlo L[i].whi) rfl rfl ?_
    conv=>whnf
    refine ⟨?_, ?_, ?_⟩
    iterate 2 · repeat' (first | exact trivial | exact rfl | refine And.intro ?_ ?_ | ((conv=>whnf); first | exact trivial | exact rfl | refine And.intro ?_ ?_ | omega))
    conv=>whnf
    refine ⟨fun hc => ?_, fun hc => ?_⟩
    · have h2 : withinF m.tick L[i].wlo L[i].whi = false := by simpa using (show (!withinF m.tick L[i].wlo L[i].whi) = true from hc)
      have e : sideStep m s L[i] = s := by
        unfold sideStep
        simp [h2]
      rw [e] at hnx
      conv=>whnf
      refine ⟨_, wrapId ⟨by omega, by omega⟩, ?_⟩
      refine ⟨i + 1, hlt, by show L.length - (i + 1) < L.length - i; omega, ?_⟩
      dsimp only
      rw [hnx]
      conv=>whnf
      refine ⟨rfl, ?_⟩
      conv=>whnf
      repeat' (first | exact trivial | exact rfl | refine And.intro ?_ ?_ | ((conv=>whnf); first | exact trivial | exact rfl | refine And.intro ?_ ?_ | omega))
    have h2 : withinF m.tick L[i].wlo L[i].whi = true := by simpa using (show (!withinF m.tick L[i].wlo L[i].whi) = false from hc)
    obtain ⟨lo, hi', loI, hiI, so⟩ := s
    cases so with
    | false =>
      conv=>whnf
      refine ⟨fun hc => ?_, fun hc => absurd hc (by simp)⟩
      conv=>whnf
      refine ⟨0, rfl, by decide, ?_⟩
      conv=>whnf
      refine ⟨fun hc => ?_, fun hc => absurd hc (by simp)⟩
      conv=>whnf
      refine ⟨1, rfl, by decide, ?_⟩
      have e : sideStep m ⟨lo, hi', loI, hiI, false⟩ L[i] = ⟨L[i].slo, L[i].shi, L[i].id, L[i].id, true⟩ := by
        unfold sideStep
        simp [h1, h2]
      rw [e] at hnx
      conv=>whnf
      refine ⟨_, wrapId ⟨by omega, by omega⟩, ?_⟩
      refine ⟨i + 1, hlt, by show L.length - (i + 1) < L.length - i; omega, ?_⟩
      dsimp only
      rw [hnx]
      conv=>whnf
      refine ⟨rfl, ?_⟩
      conv=>whnf
      repeat' (first | exact trivial | exact rfl | refine And.intro ?_ ?_ | ((conv=>whnf); first | exact trivial | exact rfl | refine And.intro ?_ ?_ | omega))
    | true =>
      conv=>whnf
      refine ⟨fun hc => absurd hc (by simp), fun hc => ?_⟩
      conv=>whnf
      refine ⟨fun hc => ?_, fun hc => ?_⟩
      · have h3 : lo < L[i].slo := of_decide_eq_true hc
        conv=>whnf
        refine ⟨0, rfl, by decide, ?_⟩
        conv=>whnf
        refine ⟨fun hc => absurd hc (by simp), fun hc => ?_⟩
        conv=>whnf
        refine ⟨fun hc => ?_, fun hc => ?_⟩
        · have h4 : L[i].shi < hi' := of_decide_eq_true hc
          conv=>whnf
          refine ⟨1, rfl, by decide, ?_⟩
          have e : sideStep m ⟨lo, hi', loI, hiI, true⟩ L[i] = ⟨L[i].slo, L[i].shi, L[i].id, L[i].id, true⟩ := by
            unfold sideStep
            simp [h1, h2, h3, h4]
          rw [e] at hnx
          conv=>whnf
          refine ⟨_, wrapId ⟨by omega, by omega⟩, ?_⟩
          refine ⟨i + 1, hlt, by show L.length - (i + 1) < L.length - i; omega, ?_⟩
          dsimp only
          rw [hnx]
          conv=>whnf
          refine ⟨rfl, ?_⟩
          conv=>whnf
          repeat' (first | exact trivial | exact rfl | refine And.intro ?_ ?_ | ((conv=>whnf); first | exact trivial | exact rfl | refine And.intro ?_ ?_ | omega))
        · have h4 : ¬ L[i].shi < hi' := of_decide_eq_false hc
          have e : sideStep m ⟨lo, hi', loI, hiI, true⟩ L[i] = ⟨L[i].slo, hi', L[i].id, hiI, true⟩ := by
            unfold sideStep
            simp [h1, h2, h3, h4]
          rw [e] at hnx
          conv=>whnf
          refine ⟨_, wrapId ⟨by omega, by omega⟩, ?_⟩
          refine ⟨i + 1, hlt, by show L.length - (i + 1) < L.length - i; omega, ?_⟩
          dsimp only
          rw [hnx]
          conv=>whnf
          refine ⟨rfl, ?_⟩
          conv=>whnf
          repeat' (first | exact trivial | exact rfl | refine And.intro ?_ ?_ | ((conv=>whnf); first | exact trivial | exact rfl | refine And.intro ?_ ?_ | omega))
      · have h3 : ¬ lo < L[i].slo := of_decide_eq_false hc
        conv=>whnf
        refine ⟨fun hc => absurd hc (by simp), fun hc => ?_⟩
        conv=>whnf
        refine ⟨fun hc => ?_, fun hc => ?_⟩
        · have h4 : L[i].shi < hi' := of_decide_eq_true hc
          conv=>whnf
          refine ⟨1, rfl, by decide, ?_⟩
          have e : sideStep m ⟨lo, hi', loI, hiI, true⟩ L[i] = ⟨lo, L[i].shi, loI, L[i].id, true⟩ := by
            unfold sideStep
            simp [h1, h2, h3, h4]
          rw [e] at hnx
          conv=>whnf
          refine ⟨_, wrapId ⟨by omega, by omega⟩, ?_⟩
          refine ⟨i + 1, hlt, by show L.length - (i + 1) < L.length - i; omega, ?_⟩
          dsimp only
          rw [hnx]
          conv=>whnf
          refine ⟨rfl, ?_⟩
          conv=>whnf
          repeat' (first | exact trivial | exact rfl | refine And.intro ?_ ?_ | ((conv=>whnf); first | exact trivial | exact rfl | refine And.intro ?_ ?_ | omega))
        · have h4 : ¬ L[i].shi < hi' := of_decide_eq_false hc
          have e : sideStep m ⟨lo, hi', loI, hiI, true⟩ L[i] = ⟨lo, hi', loI, hiI, true⟩ := by
            unfold sideStep
            simp [h1, h2, h3, h4]
          rw [e] at hnx
          conv=>whnf
          refine ⟨_, wrapId ⟨by omega, by omega⟩, ?_⟩
          refine ⟨i + 1, hlt, by show L.length - (i + 1) < L.length - i; omega, ?_⟩
          dsimp only
          rw [hnx]
          conv=>whnf
          refine ⟨rfl, ?_⟩
          conv=>whnf
          repeat' (first | exact trivial | exact rfl | refine And.intro ?_ ?_ | ((conv=>whnf); first | exact trivial | exact rfl | refine And.intro ?_ ?_ | omega))
  · have hie : i = L.length := by simp at hc; omega
    subst hie
    rw [List.take_length]
    conv=>whnf
    repeat' (first | exact trivial | exact rfl | refine And.intro ?_ ?_ | ((conv=>whnf); first | exact trivial | exact rfl | refine And.intro ?_ ?_ | omega))

def placesF {α : Type} (f : α → List Int) (k : Nat) (l : List α) : KVs := (l.zipIdx k).map fun p => (f p.1, [(p.2 : Int)])

theorem places_snoc {α : Type} {f : α → List Int} {k : Nat} {l : List α} {i : Nat} (h : i < l.length) : placesF f k (l.take (i + 1)) = placesF f k (l.take i) ++ [(f l[i], [((k + i : Nat) : Int)])] := by
  unfold placesF
  rw [take_snoc h, List.zipIdx_append, List.map_append, List.length_take, Nat.min_eq_left (by omega)]
  rfl

theorem places_fst {α : Type} {f : α → List Int} {k : Nat} {l : List α} : (placesF f k l).map Prod.fst = l.map f := by
  unfold placesF
  rw [List.map_map]
  have : (Prod.fst ∘ fun p : α × Nat => (f p.1, [(p.2 : Int)])) = f ∘ Prod.fst := rfl
  rw [this, ← List.map_map, List.zipIdx_map_fst]

theorem places_new {α : Type} {f : α → List Int} (hf : ∀ x y, f x = f y → x = y) {k : Nat} {l : List α} (hd : l.Nodup) {i : Nat} (h : i < l.length) : f l[i] ∉ (placesF f k (l.take i)).map Prod.fst := by
  rw [places_fst]
  intro hm
  obtain ⟨x, hx, he⟩ := List.mem_map.1 hm
  have := hf _ _ he
  subst this
  have e := List.take_append_drop i l
  have hd2 : (l.take i ++ l.drop i).Nodup := by rw [e]; exact hd
  rw [List.drop_eq_getElem_cons h] at hd2
  exact (List.nodup_append.1 hd2).2.2 _ hx _ (List.mem_cons_self ..) rfl

theorem places_look {α : Type} [DecidableEq α] {f : α → List Int} (hf : ∀ x y, f x = f y → x = y) (l : List α) (x : α) : ∀ k : Nat, lookKV (placesF f k l) (f x) [0] = if x ∈ l then ([(k : Int) + plF l x], true) else ([0], false) := by
  induction l with
  | nil => intro k; rfl
  | cons y r ih =>
    intro k
    have ec : placesF f k (y :: r) = (f y, [(k : Int)]) :: placesF f (k + 1) r := rfl
    have ih2 := ih (k + 1)
    unfold lookKV at ih2 ⊢
    rw [ec, List.find?_cons]
    by_cases hxy : y = x
    · subst hxy
      rw [show (f y == f y) = true by simp, if_pos (by simp)]
      unfold plF
      rw [if_pos (by simp), List.idxOf_cons_self]
      simp
    · have hb : (f y == f x) = false := by simpa using fun h => hxy (hf _ _ h)
      dsimp only
      rw [hb]
      dsimp only
      rw [ih2]
      have hyx : (y == x) = false := by simpa using hxy
      by_cases hm : x ∈ r
      · rw [if_pos hm, if_pos (by simp [hm])]
        unfold plF
        rw [if_pos hm, if_pos (by simp [hm]), List.idxOf_cons, hyx]
        simp only [cond_false, Prod.mk.injEq, List.cons.injEq, and_true]
        omega
      · have : ¬ x ∈ y :: r := by
          simp only [List.mem_cons, not_or]
          exact ⟨fun h => hxy h.symm, hm⟩
        rw [if_neg hm, if_neg this]

theorem keyThg : KeyOK Tryz.prog 30 true 4 := keyOK_rec eq_ok (by simp [tB]) (by kernel_rfl) (by kernel_rfl) (by kernel_rfl)
theorem keyMom : KeyOK Tryz.prog 53 true 2 := keyOK_rec eq_ok (by simp [tB]) (by kernel_rfl) (by kernel_rfl) (by kernel_rfl)
theorem zeroInt_ok : ∀ w, (zeroValue 3).run Tryz.prog w = .ok (encB false [0]) w := by intro w; kernel_rfl

abbrev sheetO (r : Rd) (ko kp km ka no nm : Nat) : SO := .cells [.s 0 0 r.bs.length 6, .s 2 0 r.cs.length 5, .s 3 0 r.ns.length 6, .s 1 0 r.ws.length 8, .s ko 0 no 4, .m kp, .s km 0 nm 2, .m ka]
abbrev placesO (os : List Thg) : SO := kvO true false 4 (placesF thgL 0 os)
abbrev atO (os : List Thg) (ms : List Mom) : SO := kvO true false 2 (placesF momL os.length ms)

theorem spread_t (r : Rd) (more : List Mom) (hm : more.length ≤ 100000) (hw : r.ws.length ≤ 100000) (hcs : r.cs.length ≤ 100000) :
    Triple Tryz.prog 81 [rdA r, .c (.s 4 0 more.length 2)] (rdH r ++ [(4, false, .arr (aMom more))]) 5 (.c (.p 5 0 0 0))
      [(5, true, sheetO r 6 7 8 9 (objsF r).length (momsF r more).length), (6, true, .arr (aThg (objsF r))), (7, true, placesO (objsF r)), (8, true, .arr (aMom (momsF r more))), (9, true, atO (objsF r) (momsF r more))] := by
  have hO := objects_t r hw
  have hM := moments_t r more hm hw hcs
  have hod := objsF_nodup r
  have hmd := momsF_nodup r more
  have hol := objsF_len r
  have hml := momsF_len r more
  generalize objsF r = os at *
  generalize momsF r more = ms at *
  refine triple_of tB_ok Tryz.func81 rfl Tryz.call81 rfl ?_
  intro ρ w hH
  conv=>whnf
  refine call_step hO rfl rfl ?_
  conv=>whnf
  refine ⟨?_, ?_, ?_⟩
  iterate 2 · repeat' (first | exact trivial | exact rfl | refine And.intro ?_ ?_ | ((conv=>whnf); first | exact trivial | exact rfl | refine And.intro ?_ ?_ | omega))
  conv=>whnf
  refine mkmapKV_step true false 4 rfl ?_
  conv=>whnf
  refine call_step hM rfl rfl ?_
  conv=>whnf
  refine ⟨?_, ?_, ?_⟩
  iterate 2 · repeat' (first | exact trivial | exact rfl | refine And.intro ?_ ?_ | ((conv=>whnf); first | exact trivial | exact rfl | refine And.intro ?_ ?_ | omega))
  conv=>whnf
  refine mkmapKV_step true false 2 rfl ?_
  conv=>whnf
  refine loop_step tB_ok (G := Nat) 0 [] (fun i => [(25, iv .i64 i)]) (fun i => [(7, true, kvO true false 4 (placesF thgL 0 (os.take i)))]) (fun i => i ≤ os.length) (fun i => os.length - i) ?_
  conv=>whnf
  refine ⟨⟨0, Nat.zero_le _, ?_⟩, ?_⟩
  · conv=>whnf
    repeat' (first | exact trivial | exact rfl | refine And.intro ?_ ?_ | ((conv=>whnf); first | exact trivial | exact rfl | refine And.intro ?_ ?_ | omega))
  intro i hi ρ1 t1 hρ1
  conv=>whnf
  refine ⟨fun hc => ?_, fun hc => ?_⟩
  · have hlt : i < os.length := by simpa using hc
    have hsn := places_snoc (f := thgL) (k := 0) hlt
    rw [Nat.zero_add] at hsn
    have hnw := places_new (f := thgL) (fun _ _ => thgL_inj) (k := 0) hod hlt
    conv=>whnf
    refine ⟨i, rfl, hlt, hlt, ?_⟩
    conv=>whnf
    refine mapUpKV_step tB_ok 30 true false 4 keyThg rfl ?_
    conv=>whnf
    refine ⟨_, rfl, hnw, ?_⟩
    conv=>whnf
    refine ⟨_, wrapId ⟨by omega, by omega⟩, ?_⟩
    refine ⟨i + 1, hlt, by show os.length - (i + 1) < os.length - i; omega, ?_⟩
    dsimp only
    conv=>whnf
    refine ⟨rfl, ?_⟩
    conv=>whnf
    repeat' (first | exact trivial | exact rfl | refine And.intro ?_ ?_ | ((conv=>whnf); first | exact trivial | exact rfl | refine And.intro ?_ ?_ | omega))
    all_goals exact congrArg (KVObj true false 4) hsn.symm
  have hie : i = os.length := by simp at hc; omega
  subst hie
  rw [List.take_length]
  conv=>whnf
  refine loop_step tB_ok (G := Nat) 0 [] (fun i => [(42, iv .i64 i)]) (fun i => [(9, true, kvO true false 2 (placesF momL os.length (ms.take i)))]) (fun i => i ≤ ms.length) (fun i => ms.length - i) ?_
  conv=>whnf
  refine ⟨⟨0, Nat.zero_le _, ?_⟩, ?_⟩
  · conv=>whnf
    repeat' (first | exact trivial | exact rfl | refine And.intro ?_ ?_ | ((conv=>whnf); first | exact trivial | exact rfl | refine And.intro ?_ ?_ | omega))
  intro i hi ρ1 t1 hρ1
  conv=>whnf
  refine ⟨fun hc => ?_, fun hc => ?_⟩
  · have hlt : i < ms.length := by simpa using hc
    have hsn := places_snoc (f := momL) (k := os.length) hlt
    have hnw := places_new (f := momL) (fun _ _ => momL_inj) (k := os.length) hmd hlt
    conv=>whnf
    refine ⟨i, rfl, hlt, hlt, ?_⟩
    conv=>whnf
    refine ⟨((os.length + i : Nat) : Int), (show IntKind.i64.wrap ((os.length : Int) + i) = ((os.length + i : Nat) : Int) by rw [wrapId ⟨by omega, by omega⟩]; omega), ?_⟩
    conv=>whnf
    refine mapUpKV_step tB_ok 53 true false 2 keyMom rfl ?_
    conv=>whnf
    refine ⟨_, rfl, hnw, ?_⟩
    conv=>whnf
    refine ⟨_, wrapId ⟨by omega, by omega⟩, ?_⟩
    refine ⟨i + 1, hlt, by show ms.length - (i + 1) < ms.length - i; omega, ?_⟩
    dsimp only
    conv=>whnf
    refine ⟨rfl, ?_⟩
    conv=>whnf
    repeat' (first | exact trivial | exact rfl | refine And.intro ?_ ?_ | ((conv=>whnf); first | exact trivial | exact rfl | refine And.intro ?_ ?_ | omega))
    all_goals exact congrArg (KVObj true false 2) hsn.symm
  have hie : i = ms.length := by simp at hc; omega
  subst hie
  rw [List.take_length]
  conv=>whnf
  repeat' (first | exact trivial | exact rfl | refine And.intro ?_ ?_ | ((conv=>whnf); first | exact trivial | exact rfl | refine And.intro ?_ ?_ | omega))

end Go.Proofs

namespace Go.Proofs
open Go.Sx

theorem lay_t (f t m i : Int) (bs : List (Int × Int)) (L : List Lnk) (hL : L.length ≤ 1000000) :
    Triple Tryz.prog 153 [iv .i64 f, iv .i64 t, iv .i64 m, iv .i64 i, .c (.p 0 0 0 0)] [(0, true, .cells [.s 2 0 bs.length 2, .s 1 0 L.length 4]), (1, true, .arr (aLink L)), (2, false, .arr (aSpan bs))] 3 (.tup [])
      [(0, true, .cells [.s 2 0 bs.length 2, .s 3 0 (L ++ [(⟨f, t, m, i⟩ : Lnk)]).length 4]), (3, true, .arr (aLink (L ++ [(⟨f, t, m, i⟩ : Lnk)])))] := by
  refine triple_of tB_ok Tryz.func153 rfl Tryz.call153 rfl ?_
  intro ρ w hH
  conv=>whnf
  refine bs_step tB_ok (aLink [⟨f, t, m, i⟩]) rfl rfl ?_
  conv=>whnf
  refine ⟨⟨rfl, (by repeat' (first | exact trivial | exact rfl | refine And.intro ?_ ?_ | ((conv=>whnf); first | exact trivial | exact rfl | refine And.intro ?_ ?_ | omega)))⟩, ?_⟩
  conv=>whnf
  refine app_step tB_ok (aLink L) [(⟨f, t, m, i⟩ : Lnk)] (fun _ => rfl) rfl rfl rfl rfl ?_
  conv=>whnf
  refine ⟨⟨rfl, rfl, Nat.le_refl _, Nat.le_refl _, by show (L.length + 1) * 33 ≤ _; omega⟩, ?_⟩
  conv=>whnf
  repeat' (first | exact trivial | exact rfl | refine And.intro ?_ ?_ | ((conv=>whnf); first | exact trivial | exact rfl | refine And.intro ?_ ?_ | omega))
  all_goals first | exact (congrArg aLink app1.symm : _) | exact (congrArg aLink app1 : _) | simp

theorem look_obj {os : List Thg} {o : Thg} (h : o ∈ os) : lookKV (placesF thgL 0 os) (thgL o) [0] = ([plF os o], true) := by
  rw [places_look (fun _ _ => thgL_inj), if_pos h]
  simp
theorem look_noobj {os : List Thg} {o : Thg} (h : ¬ o ∈ os) : lookKV (placesF thgL 0 os) (thgL o) [0] = ([0], false) := by
  rw [places_look (fun _ _ => thgL_inj), if_neg h]
theorem look_mom {n : Nat} {ms : List Mom} {m : Mom} (h : m ∈ ms) : lookKV (placesF momL n ms) (momL m) [0] = ([(n : Int) + plF ms m], true) := by
  rw [places_look (fun _ _ => momL_inj), if_pos h]
theorem flat_round {α : Type} (a : List Lnk) (f : α → List Lnk) {l : List α} {i : Nat} (h : i < l.length) {b : List Lnk} (hb : f l[i] = b) : a ++ (l.take (i + 1)).flatMap f = (a ++ (l.take i).flatMap f) ++ b := by
  rw [take_snoc h, List.flatMap_append, List.append_assoc]
  simp [hb]

theorem flat_round2 {α : Type} (a : List Lnk) (f : α → List Lnk) {l : List α} {i : Nat} (h : i < l.length) {x y : Lnk} (hb : f l[i] = [x, y]) : a ++ (l.take (i + 1)).flatMap f = ((a ++ (l.take i).flatMap f) ++ [x]) ++ [y] := by
  rw [flat_round a f h hb]; simp

theorem flat_le2 {α : Type} (f : α → List Lnk) (hf : ∀ x, (f x).length ≤ 2) : ∀ l : List α, (l.flatMap f).length ≤ 2 * l.length
  | [] => by simp
  | x :: r => by
    rw [List.flatMap_cons, List.length_append, List.length_cons]
    have := hf x
    have := flat_le2 f hf r
    omega

theorem drf_snoc (bs : List Bal) (k : Nat) (a b : Mom) : ∀ (l : List Mom) (j : Nat), drfLs bs k j (l ++ [a, b]) = drfLs bs k j (l ++ [a]) ++ (bif a.bal == b.bal then
      [⟨k + ((j + l.length : Nat) : Int), k + ((j + l.length : Nat) : Int) + 1, min ((findD bs a.bal).dr * (b.tick - a.tick)) 2000000, 0⟩, ⟨k + ((j + l.length : Nat) : Int) + 1, k + ((j + l.length : Nat) : Int), min ((findD bs a.bal).dr * (b.tick - a.tick)) 2000000, 0⟩] else [])
  | [], j => by simp [drfLs]
  | [x], j => by
    simp only [List.cons_append, List.nil_append, drfLs, List.length_cons, List.length_nil, Nat.zero_add, List.append_nil]
  | x :: y :: r, j => by
    have ih := drf_snoc bs k a b (y :: r) (j + 1)
    simp only [List.cons_append, drfLs] at ih ⊢
    rw [ih, List.append_assoc]
    have e : j + 1 + (y :: r).length = j + (x :: y :: r).length := by simp only [List.length_cons]; omega
    rw [e]

theorem drf_round (bs : List Bal) (k : Nat) {ms : List Mom} {i : Nat} (h1 : 1 ≤ i) (h : i < ms.length) : drfLs bs k 0 (ms.take (i + 1)) = drfLs bs k 0 (ms.take i) ++ (bif (ms[i - 1]'(by omega)).bal == ms[i].bal then
      [⟨(k : Int) + ((i - 1 : Nat) : Int), (k : Int) + (i : Int), min ((findD bs (ms[i - 1]'(by omega)).bal).dr * (ms[i].tick - (ms[i - 1]'(by omega)).tick)) 2000000, 0⟩,
       ⟨(k : Int) + (i : Int), (k : Int) + ((i - 1 : Nat) : Int), min ((findD bs (ms[i - 1]'(by omega)).bal).dr * (ms[i].tick - (ms[i - 1]'(by omega)).tick)) 2000000, 0⟩] else []) := by
  obtain ⟨j, rfl⟩ : ∃ j, i = j + 1 := ⟨i - 1, by omega⟩
  have e1 : ms.take (j + 1) = ms.take j ++ [ms[j]] := take_snoc (by omega)
  have e2 : ms.take (j + 1 + 1) = ms.take j ++ [ms[j], ms[j + 1]] := by rw [take_snoc h, e1, List.append_assoc]; rfl
  rw [e2, e1, drf_snoc]
  simp only [Nat.add_sub_cancel, Nat.zero_add, List.length_take, Nat.min_eq_left (show j ≤ ms.length by omega)]
  have e3 : (k : Int) + ((j + 1 : Nat) : Int) = (k : Int) + (j : Int) + 1 := by omega
  rw [e3]

theorem drf_le (bs : List Bal) (k : Nat) (ms : List Mom) : (drfLs bs k 0 ms).length ≤ 2 * ms.length := drfLs_len bs k ms 0

theorem cap_round {bs : List Bal} {o : Thg} {ws : List Wgh} {j : Nat} (h : j < ws.length) : (ws.take (j + 1)).foldl (capStep bs o) 10000000 = capStep bs o ((ws.take j).foldl (capStep bs o) 10000000) ws[j] := by
  rw [take_snoc h, List.foldl_append]; rfl

end Go.Proofs

