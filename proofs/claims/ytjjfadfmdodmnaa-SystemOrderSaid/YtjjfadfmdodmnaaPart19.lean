/-
  A part of the proof that a law of dryweightlaw03 answers true: lemmas of a symbolic walk, plain functions, or contracts of the functions walked (Sx33, Xe, Xf, Xg, Xh, Xi, Xu, Zd, Ze, Zf, Zg, Sx34, Zh, Xw, Xx, Xy, Xz, Za, Xq, Zb, Zc, Zi, Sx35, Zj, Sx36). Conditions: none.
-/
import Derived.Test.YtjjfadfmdodmnaaPart07
import Derived.Test.YtjjfadfmdodmnaaPart16
import Derived.Test.YtjjfadfmdodmnaaPart18
import Derived.Test.YtjjfadfmdodmnaaPart17
import Derived.Test.YtjjfadfmdodmnaaPart09
set_option maxRecDepth 100000
set_option linter.unusedVariables false
set_option linter.unusedSimpArgs false
namespace Go
namespace Sx

/-! ### A list of slices, written out -/

def inVs (k : Nat) (e : Env) : List (Nat × Operand) → Bool
  | [] => false
  | p :: r => bif (ev e p.2).uses [k] then true else inVs k e r

def allVs (e : Env) (ps : List (Nat × Operand)) : List Nat → Bool
  | [] => true
  | k :: r => bif inVs k e ps then allVs e ps r else false

theorem inVs_get {k : Nat} {e : Env} : ∀ {ps : List (Nat × Operand)}, inVs k e ps = true → ∃ p ∈ ps, (ev e p.2).uses [k] = true
  | [], h => by cases h
  | p :: r, h => by
    simp only [inVs] at h
    cases hu : (ev e p.2).uses [k] with
    | true => exact ⟨p, List.mem_cons_self .., hu⟩
    | false =>
      rw [hu] at h
      obtain ⟨q, hq, h2⟩ := inVs_get h
      exact ⟨q, List.mem_cons_of_mem _ hq, h2⟩

theorem allVs_get {e : Env} {ps : List (Nat × Operand)} : ∀ {l : List Nat} {k : Nat}, allVs e ps l = true → k ∈ l → ∃ p ∈ ps, (ev e p.2).uses [k] = true
  | [], _, _, h => by cases h
  | j :: r, k, h, hk => by
    simp only [allVs] at h
    cases hu : inVs j e ps with
    | false => rw [hu] at h; cases h
    | true =>
      rw [hu] at h
      rcases List.mem_cons.1 hk with rfl | hk
      · exact inVs_get hu
      · exact allVs_get h hk

def bsNK (B : Tabs) (A : Arr) (e : Env) (t : TypeId) (len : Nat) (ps : List (Nat × Operand)) (nx : Nat) (K : Eff → Prop) : Prop :=
  bif allVs e ps A.nm then bsK B A e t len ps nx K else False

theorem bsN_step {cx : Cx} {B : Tabs} (hB : TabsOK cx.P B) {o : Oper} {e : Env} {H : Heap} {nx : Nat} {K : Eff → Prop} {t : TypeId} {len : Nat} {parts : Array (Nat × Operand)} (A : Arr)
    (ho : o.op = .buildSlice t len parts) (h : bsNK B A e t len parts.toList nx K) : ∃ F, CallOK cx o e H nx F ∧ K F := by
  have hmem : ∀ p ∈ parts.toList, p.2 ∈ o.op.operands.toList := fun p hp => by
    simp [ho, Op.operands]; exact ⟨p.1, by simpa using hp⟩
  obtain ⟨hall, h⟩ := bif_and h
  unfold bsK at h
  split at h
  · rename_i el s0 b0 z0 ht
    split at h
    · rename_i ti hti
      split at h
      · rename_i l hl
        obtain ⟨hb, ⟨hlen, hent⟩, hK⟩ := bif_and h
        simp only [Bool.and_eq_true] at hb
        have hb1 := Nat.eq_of_beq_eq_true hb.1
        have hb2 := Nat.le_of_ble_eq_true hb.2.1
        have hb3 := Nat.le_of_ble_eq_true hb.2.2
        refine ⟨_, ⟨loc_new (by simp [ho]) below_s ?_ ?_, fun j hj => by simp at hj; subst hj; simp⟩, hK⟩
        · intro n' hn' j hj
          obtain ⟨k, hk, hjk⟩ := anyMem_iff.1 (show anyMem [j] A.nm = true from hj)
          simp only [List.mem_singleton] at hjk
          subst hjk
          obtain ⟨p, hp, hu⟩ := allVs_get hall hk
          exact (reads_below (hmem p hp) hn') k hu
        · intro ρ a w hr hfr
          obtain ⟨i, z, hi, hz, hisz, hiby, hzz⟩ := ti_parts hB hti
          have hr' : ∀ p ∈ parts.toList, (ev e p.2).rel (upd ρ nx ⟨w.heap.size, 0, len⟩) (a.eval p.2) := by
            intro p hp
            refine SV.rel_upd' (reads_fit (hmem p hp) hr) ?_
            have hm := hmem p hp
            cases hx : p.2 with
            | tmp t => rw [hx] at hm; exact hfr t hm
            | const v => exact evC_uses v _
            | global g => simp [ev, SV.uses, SC.uses, SC.nms, anyMem]
            | func g => simp [ev, SV.uses, SC.uses, SC.nms, anyMem]
          have hinit : ((Array.range (len * i.size)).map (z.cells[· % z.cells.size]!)).size = len * ti.size := by simp [hisz]
          obtain ⟨out, hout, hrel⟩ := fillR_ok (ρ := upd ρ nx ⟨w.heap.size, 0, len⟩) (a := a) (e := e) (sz := ti.size) parts.toList (junks (len * ti.size)) ((Array.range (len * i.size)).map (z.cells[· % z.cells.size]!)) l
            (by have := @junks_rel (upd ρ nx ⟨w.heap.size, 0, len⟩) ((Array.range (len * i.size)).map (z.cells[· % z.cells.size]!)).toList; rwa [Array.length_toList, hinit] at this) hr' hl
          have hlo := relL_length hrel
          have hrelA := entL_rel0 hent hrel
          have hlA := relL_length hrelA
          have hencl : ∀ xs : List A.α, (encAll A xs).length = xs.length * A.sz := by
            intro xs; induction xs with
            | nil => simp [encAll]
            | cons x r ih => simp only [encAll, List.length_append, ih, A.hl, List.length_cons, Nat.add_mul]; omega
          refine ⟨.slice (some ⟨w.heap.size, 0, none⟩) len len, .cells out el (0, 0), len, ?_, ?_, satO_new_arr (by omega) ?_ ?_⟩
          · have hsz : (sizeOf el).run cx.P w = .ok i.size w := by simp [sizeOf, typeInfo, hi]
            have hle : ¬ (len * i.size > 2 ^ 24) := by rw [hisz]; omega
            have h2 : (Array.map (fun x => (x.fst, a.eval x.snd)) parts).toList = parts.toList.map fun p => (p.1, a.eval p.2) := by simp
            simp only [execOp, ho, Instr.buildSlice, Sem.run_bind, run_underlying (und_slice hB ht), Result.andThen_ok, hsz, if_neg hle, h2]
            by_cases h0 : len * i.size = 0
            · have hl0 : len = 0 := by
                rcases Nat.mul_eq_zero.1 h0 with h | h
                · exact h
                · omega
              subst hl0
              simp only [Nat.zero_mul, if_true, Sem.run_pure, Result.andThen_ok]
              simp only [Nat.zero_mul] at hout
              rw [← hisz] at hout
              have e0 : (Array.map (fun x => (#[] : Array Value)[x % (#[] : Array Value).size]!) (Array.range 0)) = (Array.map (fun x => z.cells[x % z.cells.size]!) (Array.range 0)) := by simp
              simp only [e0, hout, Sem.run_bind, newRow, newObj, Sem.run, Result.andThen_ok, Sem.run_pure]
              rfl
            · have hzr : (zeroValue el).run cx.P w = .ok z w := by simp [zeroValue, typeInfo, hi, hz]
              rw [← hisz] at hout
              simp only [if_neg h0, Sem.run_bind, hzr, Result.andThen_ok, Sem.run_pure, hout, newRow, newObj, Sem.run]
              rfl
          · simp only [SV.rel, SC.rel, upd_eq, Nat.sub_zero, Nat.zero_mul, Nat.zero_add]
            exact ⟨_, rfl, Nat.le_refl _, fun _ => by simp [adr, upd_eq]⟩
          · rw [hencl] at hlA; rw [← hlen]; simpa using hlA.symm
          · intro i' xx hxx j d hd
            obtain ⟨v, hv, hvr⟩ := relL_get hrelA (encAll_get hxx hd)
            exact ⟨v, by simpa using hv, hvr⟩
      · exact h.elim
    · exact h.elim
  · exact h.elim

end Sx
end Go

namespace Go.Proofs
open Go.Sx

theorem growLink_t (n : Nat) (hn : n ≤ 1000000) : Triple Try.prog 142 [.c (.v (.slice none 0 0)), iv .i64 n] [] 0 (.c (.s 0 0 0 4)) [(0, true, .arr (aLink []))] := by
  refine triple_of tB_ok Try.func142 rfl Try.call142 rfl ?_
  intro ρ w hH
  conv => whnf
  refine ⟨fun hc => absurd (of_decide_eq_true (show decide ((n : Int) < 0) = true from hc)) (by omega), fun hc => ?_⟩
  conv => whnf
  refine capNil_step tB_ok rfl rfl rfl rfl ?_
  conv => whnf
  refine ⟨0, rfl, ?_⟩
  conv => whnf
  refine ⟨(n : Int), by show IntKind.i64.wrap ((n : Int) - 0) = n; rw [Int.sub_zero]; exact wrapId ⟨by omega, by omega⟩, ?_⟩
  conv => whnf
  refine ⟨fun hc => ?_, fun hc => ?_⟩
  · have hp : 0 < n := by have := of_decide_eq_true (show decide ((0 : Int) < n) = true from hc); omega
    conv => whnf
    refine capNil_step tB_ok rfl rfl rfl rfl ?_
    conv => whnf
    refine ⟨0, rfl, Nat.le_refl _, ?_⟩
    conv => whnf
    refine ⟨Nat.le_refl _, ?_⟩
    conv => whnf
    refine grow_step tB_ok (aLink []) rfl rfl rfl rfl rfl ?_
    conv => whnf
    refine ⟨n, ⟨rfl, hp, by show n * 33 ≤ _; omega, rfl⟩, ?_⟩
    conv => whnf
    refine ⟨0, rfl, Nat.zero_le _, ?_⟩
    conv => whnf
    refine ⟨Nat.le_refl _, ?_⟩
    conv => whnf
    repeat' (first | exact trivial | exact rfl | refine And.intro ?_ ?_ | ((conv => whnf); first | exact trivial | exact rfl | refine And.intro ?_ ?_ | omega))
  · conv => whnf
    repeat' (first | exact trivial | exact rfl | refine And.intro ?_ ?_ | ((conv => whnf); first | exact trivial | exact rfl | refine And.intro ?_ ?_ | omega))

theorem concatLink_t (xs ys : List Lnk) (h1 : xs.length ≤ 100000) (h2 : ys.length ≤ 100000) : Triple Try.prog 111 [.c (.s 0 0 2 1)]
    [(0, false, .arr (aRows 1 [1, 2] [[.s 1 0 xs.length 4], [.s 2 0 ys.length 4]])), (1, false, .arr (aLink xs)), (2, false, .arr (aLink ys))] 3 (.c (.s 3 0 (xs ++ ys).length 4)) [(3, true, .arr (aLink (xs ++ ys)))] := by
  refine triple_of tB_ok Try.func111 rfl Try.call111 rfl ?_
  intro ρ w hH
  conv => whnf
  refine loop_step tB_ok (G := Nat × Int) 0 [] (fun g => [(11, iv .i64 g.1), (3, iv .i64 g.2)]) (fun _ => []) (fun g => (g.1 = 0 ∧ g.2 = 0) ∨ (g.1 = 1 ∧ g.2 = xs.length) ∨ (g.1 = 2 ∧ g.2 = (xs.length : Int) + ys.length)) (fun g => 2 - g.1) ?_
  conv => whnf
  refine ⟨⟨(0, 0), .inl ⟨rfl, rfl⟩, ?_⟩, ?_⟩
  · conv => whnf
    repeat' (first | exact trivial | exact rfl | refine And.intro ?_ ?_ | ((conv => whnf); first | exact trivial | exact rfl | refine And.intro ?_ ?_ | omega))
  rintro ⟨i, tot⟩ hi ρ1 t1 hρ1
  have hi : (i = 0 ∧ tot = 0) ∨ (i = 1 ∧ tot = xs.length) ∨ (i = 2 ∧ tot = (xs.length : Int) + ys.length) := hi
  dsimp only
  rcases hi with ⟨rfl, rfl⟩ | ⟨rfl, rfl⟩ | ⟨rfl, rfl⟩
  · conv => whnf
    refine ⟨fun hc => ?_, fun hc => absurd hc (by decide)⟩
    conv => whnf
    refine ⟨0, rfl, by decide, by show _ < 2; decide, ?_⟩
    conv => whnf
    refine ⟨(xs.length : Int), by show IntKind.i64.wrap ((0 : Int) + xs.length) = xs.length; rw [Int.zero_add]; exact wrapId ⟨by omega, by omega⟩, ?_⟩
    conv => whnf
    refine ⟨fun hc => absurd (of_decide_eq_true hc) (by omega), fun hc => ?_⟩
    conv => whnf
    refine ⟨1, rfl, ?_⟩
    refine ⟨(1, (xs.length : Int)), .inr (.inl ⟨rfl, rfl⟩), by show 2 - 1 < 2 - 0; decide, ?_⟩
    conv => whnf
    refine ⟨rfl, ?_⟩
    conv => whnf
    repeat' (first | exact trivial | exact rfl | refine And.intro ?_ ?_ | ((conv => whnf); first | exact trivial | exact rfl | refine And.intro ?_ ?_ | omega))
  · conv => whnf
    refine ⟨fun hc => ?_, fun hc => absurd hc (by decide)⟩
    conv => whnf
    refine ⟨1, rfl, by decide, by show _ < 2; decide, ?_⟩
    conv => whnf
    refine ⟨(xs.length : Int) + ys.length, wrapId ⟨by omega, by omega⟩, ?_⟩
    conv => whnf
    refine ⟨fun hc => absurd (of_decide_eq_true hc) (by omega), fun hc => ?_⟩
    conv => whnf
    refine ⟨2, rfl, ?_⟩
    refine ⟨(2, (xs.length : Int) + ys.length), .inr (.inr ⟨rfl, rfl⟩), by show 2 - 2 < 2 - 1; decide, ?_⟩
    conv => whnf
    refine ⟨rfl, ?_⟩
    conv => whnf
    repeat' (first | exact trivial | exact rfl | refine And.intro ?_ ?_ | ((conv => whnf); first | exact trivial | exact rfl | refine And.intro ?_ ?_ | omega))
  conv => whnf
  refine ⟨fun hc => absurd (show decide (((2 : Nat) : Int) < 2) = true from hc) (by decide), fun hc => ?_⟩
  conv => whnf
  have hg := growLink_t (xs.length + ys.length) (by omega)
  rw [show ((xs.length + ys.length : Nat) : Int) = (xs.length : Int) + ys.length from by omega] at hg
  refine call_step hg rfl rfl ?_
  conv => whnf
  refine ⟨(by repeat' (first | exact trivial | exact rfl | refine And.intro ?_ ?_ | ((conv => whnf); first | exact trivial | exact rfl | refine And.intro ?_ ?_ | omega))), (by repeat' (first | exact trivial | exact rfl | refine And.intro ?_ ?_ | ((conv => whnf); first | exact trivial | exact rfl | refine And.intro ?_ ?_ | omega))), ?_⟩
  conv => whnf
  refine loop_step tB_ok (G := Nat × List Lnk) 1 [3] (fun g => [(27, iv .i64 g.1), (6, .c (.s 4 0 g.2.length 4))]) (fun g => [(4, true, .arr (aLink g.2))]) (fun g => (g.1 = 0 ∧ [] = g.2) ∨ (g.1 = 1 ∧ xs = g.2) ∨ (g.1 = 2 ∧ xs ++ ys = g.2)) (fun g => 2 - g.1) ?_
  conv => whnf
  refine ⟨⟨(0, []), .inl ⟨rfl, rfl⟩, ?_⟩, ?_⟩
  · conv => whnf
    repeat' (first | exact trivial | exact rfl | refine And.intro ?_ ?_ | ((conv => whnf); first | exact trivial | exact rfl | refine And.intro ?_ ?_ | omega))
  rintro ⟨i, out⟩ hi ρ2 t2 hρ2
  have hi : (i = 0 ∧ [] = out) ∨ (i = 1 ∧ xs = out) ∨ (i = 2 ∧ xs ++ ys = out) := hi
  dsimp only
  rcases hi with ⟨rfl, rfl⟩ | ⟨rfl, rfl⟩ | ⟨rfl, rfl⟩
  · conv => whnf
    refine ⟨fun hc => ?_, fun hc => absurd hc (by decide)⟩
    conv => whnf
    refine ⟨0, rfl, by decide, by show _ < 2; decide, ?_⟩
    conv => whnf
    refine app_step tB_ok (aLink []) xs (fun _ => rfl) rfl rfl rfl rfl ?_
    conv => whnf
    refine ⟨⟨rfl, rfl, Nat.le_refl _, by rw [Nat.zero_add]; exact Nat.le_refl _, by show (List.length (α := Lnk) [] + xs.length) * 33 ≤ _; first | omega | (simp only [List.length_nil]; omega)⟩, ?_⟩
    conv => whnf
    refine ⟨1, rfl, ?_⟩
    refine ⟨(1, xs), .inr (.inl ⟨rfl, rfl⟩), by show 2 - 1 < 2 - 0; decide, ?_⟩
    conv => whnf
    refine ⟨rfl, ?_⟩
    conv => whnf
    repeat' (first | exact trivial | exact rfl | refine And.intro ?_ ?_ | ((conv => whnf); first | exact trivial | exact rfl | refine And.intro ?_ ?_ | omega))
    all_goals first | exact (congrArg aLink appAll : _) | exact (congrArg aLink (appAll (xs := [])) : _) | simp
  · conv => whnf
    refine ⟨fun hc => ?_, fun hc => absurd hc (by decide)⟩
    conv => whnf
    refine ⟨1, rfl, by decide, by show _ < 2; decide, ?_⟩
    conv => whnf
    refine app_step tB_ok (aLink xs) ys (fun _ => rfl) rfl rfl rfl rfl ?_
    conv => whnf
    refine ⟨⟨rfl, rfl, Nat.le_refl _, by rw [Nat.zero_add]; exact Nat.le_refl _, by show (List.length (α := Lnk) xs + ys.length) * 33 ≤ _; first | omega | (simp only [List.length_nil]; omega)⟩, ?_⟩
    conv => whnf
    refine ⟨2, rfl, ?_⟩
    refine ⟨(2, xs ++ ys), .inr (.inr ⟨rfl, rfl⟩), by show 2 - 2 < 2 - 1; decide, ?_⟩
    conv => whnf
    refine ⟨rfl, ?_⟩
    conv => whnf
    repeat' (first | exact trivial | exact rfl | refine And.intro ?_ ?_ | ((conv => whnf); first | exact trivial | exact rfl | refine And.intro ?_ ?_ | omega))
    all_goals first | exact (congrArg aLink appAll : _) | exact (congrArg aLink (appAll (xs := [])) : _) | simp
  conv => whnf
  refine ⟨fun hc => absurd (show decide (((2 : Nat) : Int) < 2) = true from hc) (by decide), fun hc => ?_⟩
  conv => whnf
  repeat' (first | exact trivial | exact rfl | refine And.intro ?_ ?_ | ((conv => whnf); first | exact trivial | exact rfl | refine And.intro ?_ ?_ | omega))

end Go.Proofs

namespace Go.Proofs
open Go.Sx

end Go.Proofs

namespace Go.Proofs
open Go.Sx

theorem spansSame_t (xs : List (Int × Int)) (hb : xs.length ≤ 1000000) : Triple Try.prog 58 [.c (.s 0 0 xs.length 2), .c (.s 1 0 xs.length 2)] [(0, false, .arr (aSpan xs)), (1, false, .arr (aSpan xs))] 2 (bv true) [] := by
  refine triple_of tB_ok Try.func58 rfl Try.call58 rfl ?_
  intro ρ w hH
  conv => whnf
  refine ⟨fun hc => absurd hc (by simp), fun hc => ?_⟩
  conv => whnf
  refine loop_step tB_ok (G := Nat) 0 [] (fun i => [(5, iv .i64 i)]) (fun _ => []) (fun i => i ≤ xs.length) (fun i => xs.length - i) ?_
  conv => whnf
  refine ⟨⟨0, Nat.zero_le _, ?_⟩, ?_⟩
  · conv => whnf
    repeat' (first | exact trivial | exact rfl | refine And.intro ?_ ?_ | ((conv => whnf); first | exact trivial | exact rfl | refine And.intro ?_ ?_ | omega))
  intro i hi ρ1 t1 hρ1
  conv => whnf
  refine ⟨fun hc => ?_, fun hc => ?_⟩
  · have h : i < xs.length := by simpa using hc
    conv => whnf
    refine ⟨i, rfl, h, h, ?_⟩
    conv => whnf
    refine ⟨i, rfl, h, h, ?_⟩
    conv => whnf
    refine ⟨fun hc => absurd hc (by simp), fun hc => ?_⟩
    conv => whnf
    refine ⟨_, wrapId ⟨by omega, by omega⟩, ?_⟩
    refine ⟨i + 1, h, by show xs.length - (i + 1) < xs.length - i; omega, ?_⟩
    conv => whnf
    refine ⟨rfl, ?_⟩
    conv => whnf
    repeat' (first | exact trivial | exact rfl | refine And.intro ?_ ?_ | ((conv => whnf); first | exact trivial | exact rfl | refine And.intro ?_ ?_ | omega))
  · conv => whnf
    repeat' (first | exact trivial | exact rfl | refine And.intro ?_ ?_ | ((conv => whnf); first | exact trivial | exact rfl | refine And.intro ?_ ?_ | omega))

end Go.Proofs

namespace Go.Proofs
open Go.Sx

theorem take1_t (id : Int) (l : Lnk) : Triple Try.prog 125 [svL l, .c (.p 1 0 0 0)] [(1, false, .cells [.v (.int .i64 id)])] 2 (bv (l.i == id)) [] := by
  refine triple_of tB_ok Try.func125 rfl Try.call125 rfl ?_
  intro ρ w hH
  conv => whnf
  repeat' (first | exact trivial | exact rfl | refine And.intro ?_ ?_ | ((conv => whnf); first | exact trivial | exact rfl | refine And.intro ?_ ?_ | omega))

abbrev hxTake (id : Int) : Heap := [(1, false, .cells [.v (.int .i64 id)])]

theorem indexTake_t
    (id : Int)
    (xs : List Lnk) (hx : xs.length ≤ 100000) :
    Triple Try.prog 141 [.c (.s 0 0 xs.length 4), .c (.f 125 [1])]
      ((0, false, .arr (aLink xs)) :: hxTake id)
      2 (iv .i64 (idxF (fun l : Lnk => l.i == id) 0 xs)) [] := by
  refine triple_of tB_ok Try.func141 rfl Try.call141 rfl ?_
  intro ρ w hH
  conv => whnf
  refine loop_step tB_ok (G := Nat) 0 [] (fun i => [(8, iv .i64 i)]) (fun i => []) (fun i => i ≤ xs.length ∧ ∀ x ∈ xs.take i, (fun l : Lnk => l.i == id) x = false) (fun i => xs.length - i) ?_
  conv => whnf
  refine ⟨⟨0, ⟨Nat.zero_le _, by simp⟩, ?_⟩, ?_⟩
  · conv => whnf
    repeat' (first | exact trivial | exact rfl | refine And.intro ?_ ?_ | ((conv => whnf); first | exact trivial | exact rfl | refine And.intro ?_ ?_ | omega))
  intro i hi ρ1 t1 hρ1
  obtain ⟨hi, hn⟩ := hi
  conv => whnf
  refine ⟨fun hc => ?_, fun hc => ?_⟩
  · have hc : i < xs.length := by simpa using hc
    have hlt := hc
    conv => whnf
    refine ⟨i, rfl, hc, hc, ?_⟩
    conv => whnf
    refine call_step (take1_t id xs[i]) rfl rfl ?_
    conv => whnf
    refine ⟨(by repeat' (first | exact trivial | exact rfl | refine And.intro ?_ ?_ | ((conv => whnf); first | exact trivial | exact rfl | refine And.intro ?_ ?_ | omega))), (by repeat' (first | exact trivial | exact rfl | refine And.intro ?_ ?_ | ((conv => whnf); first | exact trivial | exact rfl | refine And.intro ?_ ?_ | omega))), ?_⟩
    conv => whnf
    refine ⟨fun hc => ?_, fun hc => ?_⟩
    · conv => whnf
      refine ⟨?_, trivial⟩
      show (i : Int) = idxF (fun l : Lnk => l.i == id) 0 xs
      rw [idxF_at (k := i) hlt hn hc, Nat.zero_add]
    · conv => whnf
      refine ⟨_, wrapId ⟨by omega, by omega⟩, ?_⟩
      refine ⟨i + 1, ⟨by omega, ?_⟩, by show xs.length - (i + 1) < xs.length - i; omega, ?_⟩
      · intro x hxx
        rw [take_snoc hlt] at hxx
        rcases List.mem_append.1 hxx with hxx | hxx
        · exact hn x hxx
        · simp only [List.mem_singleton] at hxx; rw [hxx]; exact hc
      conv => whnf
      refine ⟨rfl, ?_⟩
      conv => whnf
      repeat' (first | exact trivial | exact rfl | refine And.intro ?_ ?_ | ((conv => whnf); first | exact trivial | exact rfl | refine And.intro ?_ ?_ | omega))
  · have hi2 : i = xs.length := by simp at hc; omega
    subst hi2
    rw [List.take_length] at hn
    conv => whnf
    refine ⟨?_, trivial⟩
    show (-1 : Int) = idxF (fun l : Lnk => l.i == id) 0 xs
    rw [idxF_none hn]

theorem deleteTake_t
    (id : Int)
    (xs : List Lnk) (hx : xs.length ≤ 100000) :
    Triple Try.prog 124 [.c (.s 0 0 xs.length 4), .c (.f 125 [1])]
      ((0, true, .arr (aLink xs)) :: hxTake id)
      2 (.c (.s 0 0 (xs.filter fun x => !(fun l : Lnk => l.i == id) x).length 4)) [(0, true, .arr (aLink (xs.filter fun x => !(fun l : Lnk => l.i == id) x)))] := by
  refine triple_of tB_ok Try.func124 rfl Try.call124 rfl ?_
  intro ρ w hH
  conv => whnf
  refine call_step (indexTake_t id xs hx) rfl rfl ?_
  conv => whnf
  refine ⟨(by repeat' (first | exact trivial | exact rfl | refine And.intro ?_ ?_ | ((conv => whnf); first | exact trivial | exact rfl | refine And.intro ?_ ?_ | omega))), (by repeat' (first | exact trivial | exact rfl | refine And.intro ?_ ?_ | ((conv => whnf); first | exact trivial | exact rfl | refine And.intro ?_ ?_ | omega))), ?_⟩
  generalize hp : (fun l : Lnk => l.i == id) = p
  have hdel : ∀ x, (fun l : Lnk => l.i == id) x = p x := fun x => by rw [hp]
  rcases idxF_cases p xs with ⟨hi, hn⟩ | ⟨k, hk, hi, hn, hpk⟩
  · rw [hi]
    conv => whnf
    refine ⟨fun hc => ?_, fun hc => ?_⟩
    · conv => whnf
      have e : (xs.filter fun x => !p x) = xs := List.filter_eq_self.2 fun x hx => by rw [hn x hx]; rfl
      rw [e]
      repeat' (first | exact trivial | exact rfl | refine And.intro ?_ ?_ | ((conv => whnf); first | exact trivial | exact rfl | refine And.intro ?_ ?_ | omega))
    · simp at hc
  rw [hi]
  conv => whnf
  refine ⟨fun hc => ?_, fun hc => ?_⟩
  · exact absurd hc (by simp)
  conv => whnf
  refine ⟨_, wrapId ⟨by omega, by omega⟩, ?_⟩
  have hst := delC_start hk hn hpk
  have hkl : (xs.take k).length = k := by simp; omega
  refine loop_step tB_ok (G := Nat × Nat × List Lnk) 0 [] (fun g => [(6, iv .i64 g.1), (5, iv .i64 g.2.1)]) (fun g => [(0, true, .arr (aLink g.2.2))]) (fun g => (k < g.1 ∧ g.1 ≤ xs.length ∧ g.2.1 < g.1) ∧ g.2.1 = (delL p xs g.1).length ∧ g.2.2 = delC p xs g.1) (fun g => xs.length - g.1) ?_
  conv => whnf
  refine ⟨⟨(k + 1, k, xs), ⟨⟨Nat.lt_succ_self k, hk, Nat.lt_succ_self k⟩, by rw [hst.1, hkl], hst.2.symm⟩, ?_⟩, ?_⟩
  · conv => whnf
    repeat' (first | exact trivial | exact rfl | refine And.intro ?_ ?_ | ((conv => whnf); first | exact trivial | exact rfl | refine And.intro ?_ ?_ | omega))
  rintro ⟨j, k2, C⟩ ⟨⟨hj1, hj2, hj3⟩, hk2e, hCe⟩ ρ1 t1 hρ1
  have hj1 : k < j := hj1
  have hj2 : j ≤ xs.length := hj2
  have hj3 : k2 < j := hj3
  have hk2e : k2 = (delL p xs j).length := hk2e
  have hCe : C = delC p xs j := hCe
  have hCl : C.length = xs.length := by rw [hCe]; exact delC_length p xs j hj2
  have hno : ∀ (h : j < xs.length), p xs[j] = false → k2 + 1 = (delL p xs (j + 1)).length ∧ C.set k2 xs[j] = delC p xs (j + 1) := fun h hp =>
    ⟨by rw [delL_no h hp, hk2e]; simp, by rw [hk2e, hCe]; exact delC_no h hp⟩
  have hyes : ∀ (h : j < xs.length), p xs[j] = true → k2 = (delL p xs (j + 1)).length ∧ C = delC p xs (j + 1) := fun h hp =>
    ⟨by rw [delL_yes h hp]; exact hk2e, by rw [hCe]; exact (delC_yes h hp).symm⟩
  have hgt : ∀ i, j ≤ i → C[i]? = xs[i]? := fun i hi => by rw [hCe]; exact delC_get p xs j i (by omega)
  have hend : j = xs.length → C.take k2 = xs.filter fun x => !p x := fun h => by rw [hCe, hk2e, h]; exact delC_end p xs
  clear hk2e hCe
  conv => whnf
  refine ⟨fun hc => ?_, fun hc => ?_⟩
  · have hc : j < xs.length := by simpa using hc
    have hlt := hc
    have hcl : j < C.length := by omega
    have hget : C[j] = xs[j] := by
      have := hgt j (by omega)
      rw [List.getElem?_eq_getElem hcl, List.getElem?_eq_getElem hlt] at this
      exact Option.some.inj this
    have hpv : (fun l : Lnk => l.i == id) C[j] = p xs[j] := by rw [hdel, hget]
    have hkl2 : k2 < C.length := by omega
    refine ⟨j, rfl, hc, hcl, ?_⟩
    conv => whnf
    refine call_step (take1_t id C[j]) rfl rfl ?_
    conv => whnf
    refine ⟨(by repeat' (first | exact trivial | exact rfl | refine And.intro ?_ ?_ | ((conv => whnf); first | exact trivial | exact rfl | refine And.intro ?_ ?_ | omega))), (by repeat' (first | exact trivial | exact rfl | refine And.intro ?_ ?_ | ((conv => whnf); first | exact trivial | exact rfl | refine And.intro ?_ ?_ | omega))), ?_⟩
    conv => whnf
    refine ⟨fun hc => ?_, fun hc => ?_⟩
    · have hpj : p xs[j] = false := by rw [← hpv]; simpa using hc
      obtain ⟨hl1, e2⟩ := hno hlt hpj
      conv => whnf
      refine ⟨k2, rfl, by omega, hkl2, C[j], rfl, ?_⟩
      conv => whnf
      refine ⟨_, wrapId ⟨by omega, by omega⟩, ?_⟩
      conv => whnf
      refine ⟨_, wrapId ⟨by omega, by omega⟩, ?_⟩
      refine ⟨(j + 1, k2 + 1, C.set k2 C[j]), ⟨⟨by show k < j + 1; omega, hlt, by show k2 + 1 < j + 1; omega⟩, hl1, ?_⟩, by show xs.length - (j + 1) < xs.length - j; omega, ?_⟩
      · rw [hget]; exact e2
      conv => whnf
      refine ⟨rfl, ?_⟩
      conv => whnf
      repeat' (first | exact trivial | exact rfl | refine And.intro ?_ ?_ | ((conv => whnf); first | exact trivial | exact rfl | refine And.intro ?_ ?_ | omega))
    · have hpj : p xs[j] = true := by rw [← hpv]; simpa using hc
      obtain ⟨hl1, e2⟩ := hyes hlt hpj
      conv => whnf
      refine ⟨_, wrapId ⟨by omega, by omega⟩, ?_⟩
      refine ⟨(j + 1, k2, C), ⟨⟨by show k < j + 1; omega, hlt, by show k2 < j + 1; omega⟩, hl1, e2⟩, by show xs.length - (j + 1) < xs.length - j; omega, ?_⟩
      conv => whnf
      refine ⟨rfl, ?_⟩
      conv => whnf
      repeat' (first | exact trivial | exact rfl | refine And.intro ?_ ?_ | ((conv => whnf); first | exact trivial | exact rfl | refine And.intro ?_ ?_ | omega))
  · have hj4 : j = xs.length := by simp at hc; omega
    have he := hend hj4
    have hfl : (xs.filter fun x => !p x).length = k2 := by rw [← he, List.length_take]; omega
    conv => whnf
    refine ⟨Nat.le_refl _, k2, rfl, by omega, ?_⟩
    conv => whnf
    refine clear_step tB_ok rfl rfl rfl rfl ?_
    conv => whnf
    refine ⟨⟨rfl, ?_⟩, ?_⟩
    · show addN 0 _ + subN xs.length _ ≤ C.length
      rw [addN_eq, subN_eq]; omega
    conv => whnf
    refine ⟨k2, rfl, by omega, ?_⟩
    conv => whnf
    refine ⟨Nat.zero_le _, ?_⟩
    conv => whnf
    repeat' (first | exact trivial | exact rfl | refine And.intro ?_ ?_ | ((conv => whnf); first | exact trivial | exact rfl | refine And.intro ?_ ?_ | omega))
    · rw [subN_eq]; omega
    · rw [addN_eq, Nat.zero_add]; exact congrArg aLink he


abbrev hxPut (bs : List (Int × Int)) (ls : List Lnk) : Heap := [(1, false, .cells [.p 2 0 0 0]), (2, false, netC 3 4 bs.length ls.length), (3, false, .arr (aSpan bs)), (4, false, .arr (aLink ls))]

theorem put1_t (bs : List (Int × Int)) (ls : List Lnk) (l : Lnk) (hn : bs.length ≤ 1000000) : Triple Try.prog 110 [svL l, .c (.p 1 0 0 0)] (hxPut bs ls) 5 (bv (!properF l bs.length)) [] := by
  refine triple_of tB_ok Try.func110 rfl Try.call110 rfl ?_
  intro ρ w hH
  conv => whnf
  refine call_step (properF_t l bs.length hn) rfl rfl ?_
  conv => whnf
  refine ⟨(by repeat' (first | exact trivial | exact rfl | refine And.intro ?_ ?_ | ((conv => whnf); first | exact trivial | exact rfl | refine And.intro ?_ ?_ | omega))), (by repeat' (first | exact trivial | exact rfl | refine And.intro ?_ ?_ | ((conv => whnf); first | exact trivial | exact rfl | refine And.intro ?_ ?_ | omega))), ?_⟩
  conv => whnf
  repeat' (first | exact trivial | exact rfl | refine And.intro ?_ ?_ | ((conv => whnf); first | exact trivial | exact rfl | refine And.intro ?_ ?_ | omega))

theorem indexPut_t
    (bs : List (Int × Int)) (ls : List Lnk) (hnn : bs.length ≤ 1000000)
    (xs : List Lnk) (hx : xs.length ≤ 100000) :
    Triple Try.prog 141 [.c (.s 0 0 xs.length 4), .c (.f 110 [1])]
      ((0, false, .arr (aLink xs)) :: hxPut bs ls)
      5 (iv .i64 (idxF (fun l : Lnk => !properF l bs.length) 0 xs)) [] := by
  refine triple_of tB_ok Try.func141 rfl Try.call141 rfl ?_
  intro ρ w hH
  conv => whnf
  refine loop_step tB_ok (G := Nat) 0 [] (fun i => [(8, iv .i64 i)]) (fun i => []) (fun i => i ≤ xs.length ∧ ∀ x ∈ xs.take i, (fun l : Lnk => !properF l bs.length) x = false) (fun i => xs.length - i) ?_
  conv => whnf
  refine ⟨⟨0, ⟨Nat.zero_le _, by simp⟩, ?_⟩, ?_⟩
  · conv => whnf
    repeat' (first | exact trivial | exact rfl | refine And.intro ?_ ?_ | ((conv => whnf); first | exact trivial | exact rfl | refine And.intro ?_ ?_ | omega))
  intro i hi ρ1 t1 hρ1
  obtain ⟨hi, hn⟩ := hi
  conv => whnf
  refine ⟨fun hc => ?_, fun hc => ?_⟩
  · have hc : i < xs.length := by simpa using hc
    have hlt := hc
    conv => whnf
    refine ⟨i, rfl, hc, hc, ?_⟩
    conv => whnf
    refine call_step (put1_t bs ls xs[i] hnn) rfl rfl ?_
    conv => whnf
    refine ⟨(by repeat' (first | exact trivial | exact rfl | refine And.intro ?_ ?_ | ((conv => whnf); first | exact trivial | exact rfl | refine And.intro ?_ ?_ | omega))), (by repeat' (first | exact trivial | exact rfl | refine And.intro ?_ ?_ | ((conv => whnf); first | exact trivial | exact rfl | refine And.intro ?_ ?_ | omega))), ?_⟩
    conv => whnf
    refine ⟨fun hc => ?_, fun hc => ?_⟩
    · conv => whnf
      refine ⟨?_, trivial⟩
      show (i : Int) = idxF (fun l : Lnk => !properF l bs.length) 0 xs
      rw [idxF_at (k := i) hlt hn hc, Nat.zero_add]
    · conv => whnf
      refine ⟨_, wrapId ⟨by omega, by omega⟩, ?_⟩
      refine ⟨i + 1, ⟨by omega, ?_⟩, by show xs.length - (i + 1) < xs.length - i; omega, ?_⟩
      · intro x hxx
        rw [take_snoc hlt] at hxx
        rcases List.mem_append.1 hxx with hxx | hxx
        · exact hn x hxx
        · simp only [List.mem_singleton] at hxx; rw [hxx]; exact hc
      conv => whnf
      refine ⟨rfl, ?_⟩
      conv => whnf
      repeat' (first | exact trivial | exact rfl | refine And.intro ?_ ?_ | ((conv => whnf); first | exact trivial | exact rfl | refine And.intro ?_ ?_ | omega))
  · have hi2 : i = xs.length := by simp at hc; omega
    subst hi2
    rw [List.take_length] at hn
    conv => whnf
    refine ⟨?_, trivial⟩
    show (-1 : Int) = idxF (fun l : Lnk => !properF l bs.length) 0 xs
    rw [idxF_none hn]


theorem contains_t (bs : List (Int × Int)) (ls : List Lnk) (hnn : bs.length ≤ 1000000) (xs : List Lnk) (hx : xs.length ≤ 100000) :
    Triple Try.prog 109 [.c (.s 0 0 xs.length 4), .c (.f 110 [1])] ((0, false, .arr (aLink xs)) :: hxPut bs ls) 5 (bv (!xs.all fun l => properF l bs.length)) [] := by
  refine triple_of tB_ok Try.func109 rfl Try.call109 rfl ?_
  intro ρ w hH
  conv => whnf
  refine call_step (indexPut_t bs ls hnn xs hx) rfl rfl ?_
  conv => whnf
  refine ⟨(by repeat' (first | exact trivial | exact rfl | refine And.intro ?_ ?_ | ((conv => whnf); first | exact trivial | exact rfl | refine And.intro ?_ ?_ | omega))), (by repeat' (first | exact trivial | exact rfl | refine And.intro ?_ ?_ | ((conv => whnf); first | exact trivial | exact rfl | refine And.intro ?_ ?_ | omega))), ?_⟩
  conv => whnf
  refine ⟨?_, trivial⟩
  show decide (0 ≤ idxF (fun l : Lnk => !properF l bs.length) 0 xs) = !xs.all fun l => properF l bs.length
  rcases idxF_cases (fun l : Lnk => !properF l bs.length) xs with ⟨h1, h2⟩ | ⟨k, hk, h1, h2, h3⟩
  · rw [h1]
    have : (xs.all fun l => properF l bs.length) = true := List.all_eq_true.2 fun l hl => by have := h2 l hl; simpa using this
    rw [this]; rfl
  · rw [h1, decide_eq_true (by omega)]
    have h3 : properF xs[k] bs.length = false := by simpa using h3
    have : (xs.all fun l => properF l bs.length) = false := by
      rw [← Bool.not_eq_true, List.all_eq_true]
      intro hh
      have := hh _ (List.getElem_mem hk)
      rw [h3] at this; cases this
    rw [this]; rfl

theorem netLinks_t (bs : List (Int × Int)) (ls : List Lnk) (hl : ls.length ≤ 1000000) : Triple Try.prog 68 [.c (.p 0 0 0 0)] [(0, false, netC 1 2 bs.length ls.length), (1, false, .arr (aSpan bs)), (2, false, .arr (aLink ls))] 3 (.c (.s 3 0 ls.length 4)) [(3, true, .arr (aLink ls))] := by
  refine triple_of tB_ok Try.func68 rfl Try.call68 rfl ?_
  intro ρ w hH
  conv => whnf
  refine call_step (cloneLink_t ls hl) rfl rfl ?_
  conv => whnf
  refine ⟨(by repeat' (first | exact trivial | exact rfl | refine And.intro ?_ ?_ | ((conv => whnf); first | exact trivial | exact rfl | refine And.intro ?_ ?_ | omega))), (by repeat' (first | exact trivial | exact rfl | refine And.intro ?_ ?_ | ((conv => whnf); first | exact trivial | exact rfl | refine And.intro ?_ ?_ | omega))), ?_⟩
  conv => whnf
  repeat' (first | exact trivial | exact rfl | refine And.intro ?_ ?_ | ((conv => whnf); first | exact trivial | exact rfl | refine And.intro ?_ ?_ | omega))

/-- What Take answers. -/
def takeF (ls : List Lnk) (id : Int) : Int := if id = 0 then 1 else if (withoutF ls id).length = ls.length then 5 else 0

theorem takeErr_t (bs : List (Int × Int)) (ls : List Lnk) (id : Int) (hl : ls.length ≤ 100000) (h : takeF ls id ≠ 0) :
    Triple Try.prog 66 [.c (.p 0 0 0 0), iv .i64 id] [(0, true, netC 1 2 bs.length ls.length), (1, false, .arr (aSpan bs)), (2, false, .arr (aLink ls))] 3 (iv .i64 (takeF ls id)) [(0, true, netC 1 2 bs.length ls.length)] := by
  refine triple_of tB_ok Try.func66 rfl Try.call66 rfl ?_
  intro ρ w hH
  conv => whnf
  refine ⟨fun hc => ?_, fun hc => ?_⟩
  · have h0 : id = 0 := by simpa using (show (id == 0) = true from hc)
    have e : takeF ls id = 1 := by unfold takeF; rw [if_pos h0]
    rw [e]
    conv => whnf
    repeat' (first | exact trivial | exact rfl | refine And.intro ?_ ?_ | ((conv => whnf); first | exact trivial | exact rfl | refine And.intro ?_ ?_ | omega))
  have h0 : id ≠ 0 := by simpa using (show (id == 0) = false from hc)
  have hlen : (withoutF ls id).length = ls.length := by
    unfold takeF at h
    rw [if_neg h0] at h
    by_cases hh : (withoutF ls id).length = ls.length
    · exact hh
    · rw [if_neg hh] at h; exact absurd rfl h
  have e : takeF ls id = 5 := by unfold takeF; rw [if_neg h0, if_pos hlen]
  have hfl : (ls.filter fun x => !(x.i == id)) = withoutF ls id := rfl
  conv => whnf
  refine call_step (cloneLink_t ls (by omega)) rfl rfl ?_
  conv => whnf
  refine ⟨(by repeat' (first | exact trivial | exact rfl | refine And.intro ?_ ?_ | ((conv => whnf); first | exact trivial | exact rfl | refine And.intro ?_ ?_ | omega))), (by repeat' (first | exact trivial | exact rfl | refine And.intro ?_ ?_ | ((conv => whnf); first | exact trivial | exact rfl | refine And.intro ?_ ?_ | omega))), ?_⟩
  conv => whnf
  refine call_step (deleteTake_t id ls (by omega)) rfl rfl ?_
  conv => whnf
  refine ⟨(by repeat' (first | exact trivial | exact rfl | refine And.intro ?_ ?_ | ((conv => whnf); first | exact trivial | exact rfl | refine And.intro ?_ ?_ | omega))), (by repeat' (first | exact trivial | exact rfl | refine And.intro ?_ ?_ | ((conv => whnf); first | exact trivial | exact rfl | refine And.intro ?_ ?_ | omega))), ?_⟩
  conv => whnf
  rw [hfl, e]
  refine ⟨fun hc => ?_, fun hc => ?_⟩
  · conv => whnf
    repeat' (first | exact trivial | exact rfl | refine And.intro ?_ ?_ | ((conv => whnf); first | exact trivial | exact rfl | refine And.intro ?_ ?_ | omega))
  · exact absurd (show (((withoutF ls id).length : Int) == ls.length) = false from hc) (by rw [hlen]; simp)

theorem takeOk_t (bs : List (Int × Int)) (ls : List Lnk) (id : Int) (hl : ls.length ≤ 100000) (h : takeF ls id = 0) :
    Triple Try.prog 66 [.c (.p 0 0 0 0), iv .i64 id] [(0, true, netC 1 2 bs.length ls.length), (1, false, .arr (aSpan bs)), (2, false, .arr (aLink ls))] 3 (iv .i64 0) [(0, true, netC 1 3 bs.length (withoutF ls id).length), (3, true, .arr (aLink (withoutF ls id)))] := by
  have h0 : id ≠ 0 := fun hh => by unfold takeF at h; rw [if_pos hh] at h; cases h
  have hlen : (withoutF ls id).length ≠ ls.length := fun hh => by unfold takeF at h; rw [if_neg h0, if_pos hh] at h; cases h
  have hfl : (ls.filter fun x => !(x.i == id)) = withoutF ls id := rfl
  refine triple_of tB_ok Try.func66 rfl Try.call66 rfl ?_
  intro ρ w hH
  conv => whnf
  refine ⟨fun hc => absurd (by simpa using (show (id == 0) = true from hc)) h0, fun hc => ?_⟩
  conv => whnf
  refine call_step (cloneLink_t ls (by omega)) rfl rfl ?_
  conv => whnf
  refine ⟨(by repeat' (first | exact trivial | exact rfl | refine And.intro ?_ ?_ | ((conv => whnf); first | exact trivial | exact rfl | refine And.intro ?_ ?_ | omega))), (by repeat' (first | exact trivial | exact rfl | refine And.intro ?_ ?_ | ((conv => whnf); first | exact trivial | exact rfl | refine And.intro ?_ ?_ | omega))), ?_⟩
  conv => whnf
  refine call_step (deleteTake_t id ls (by omega)) rfl rfl ?_
  conv => whnf
  refine ⟨(by repeat' (first | exact trivial | exact rfl | refine And.intro ?_ ?_ | ((conv => whnf); first | exact trivial | exact rfl | refine And.intro ?_ ?_ | omega))), (by repeat' (first | exact trivial | exact rfl | refine And.intro ?_ ?_ | ((conv => whnf); first | exact trivial | exact rfl | refine And.intro ?_ ?_ | omega))), ?_⟩
  conv => whnf
  rw [hfl]
  refine ⟨fun hc => ?_, fun hc => ?_⟩
  · have := (by simpa using (show (((withoutF ls id).length : Int) == ls.length) = true from hc) : ((withoutF ls id).length : Int) = ls.length)
    omega
  conv => whnf
  repeat' (first | exact trivial | exact rfl | refine And.intro ?_ ?_ | ((conv => whnf); first | exact trivial | exact rfl | refine And.intro ?_ ?_ | omega))

end Go.Proofs

namespace Go.Proofs
open Go.Sx

abbrev putH (bs : List (Int × Int)) (ls l : List Lnk) : Heap := [(0, true, netC 1 2 bs.length ls.length), (1, false, .arr (aSpan bs)), (2, false, .arr (aLink ls)), (3, false, .arr (aLink l))]

theorem putArg_t (bs : List (Int × Int)) (ls l : List Lnk) (hb : bs.length ≤ 1000000) (h : ls.length + l.length ≤ 1200) (hp : (l.all fun x => properF x bs.length) = false) :
    Triple Try.prog 53 [.c (.p 0 0 0 0), .c (.s 3 0 l.length 4)] (putH bs ls l) 4 (.tup [.inl (.v (.slice none 0 0)), .inl (.v (.int .i64 1))]) [(0, true, netC 1 2 bs.length ls.length)] := by
  refine triple_of tB_ok Try.func53 rfl Try.call53 rfl ?_
  intro ρ w hH
  conv => whnf
  refine ⟨(ls.length : Int) + l.length, wrapId (z := (ls.length : Int) + l.length) ⟨by omega, by omega⟩, ?_⟩
  conv => whnf
  refine ⟨fun hc => absurd (of_decide_eq_true (show decide ((1200 : Int) < (ls.length : Int) + l.length) = true from hc)) (by omega), fun hc => ?_⟩
  conv => whnf
  refine call_step (contains_t bs ls hb l (by omega)) rfl rfl ?_
  conv => whnf
  refine ⟨(by repeat' (first | exact trivial | exact rfl | refine And.intro ?_ ?_ | ((conv => whnf); first | exact trivial | exact rfl | refine And.intro ?_ ?_ | omega))), (by repeat' (first | exact trivial | exact rfl | refine And.intro ?_ ?_ | ((conv => whnf); first | exact trivial | exact rfl | refine And.intro ?_ ?_ | omega))), ?_⟩
  conv => whnf
  rw [hp]
  refine ⟨fun hc => ?_, fun hc => absurd hc (by simp)⟩
  conv => whnf
  repeat' (first | exact trivial | exact rfl | refine And.intro ?_ ?_ | ((conv => whnf); first | exact trivial | exact rfl | refine And.intro ?_ ?_ | omega))

theorem putClash_t (bs : List (Int × Int)) (ls l : List Lnk) (v : Nat) (P kk : Nat → Nat) (M : Nat) (hs : SysOK bs (ls ++ l)) (hch : (shortF bs.length noRev (graphF bs (ls ++ l) 0) bs.length).2 = ((v : Nat) : Int)) (h : Cyc bs.length (graphF bs (ls ++ l) 0) (shortF bs.length noRev (graphF bs (ls ++ l) 0) bs.length).1 v P kk M) :
    Triple Try.prog 53 [.c (.p 0 0 0 0), .c (.s 3 0 l.length 4)] (putH bs ls l) 4 (.tup [.inl (.s 4 0 (cycL bs.length (graphF bs (ls ++ l) 0) kk M).reverse.length 4), .inl (.v (.int .i64 9))]) [(0, true, netC 1 2 bs.length ls.length), (4, true, .arr (aLink (cycL bs.length (graphF bs (ls ++ l) 0) kk M).reverse))] := by
  refine triple_of tB_ok Try.func53 rfl Try.call53 rfl ?_
  intro ρ w hH
  conv => whnf
  have hnb := hs.nb
  have hnl := hs.nl
  rw [List.length_append] at hnl
  have hp : (l.all fun x => properF x bs.length) = true := List.all_eq_true.2 fun x hx => hs.lnk x (List.mem_append.2 (.inr hx))
  have hgl := graphF_len hs 0
  refine ⟨(ls.length : Int) + l.length, wrapId (z := (ls.length : Int) + l.length) ⟨by omega, by omega⟩, ?_⟩
  conv => whnf
  refine ⟨fun hc => absurd (of_decide_eq_true (show decide ((1200 : Int) < (ls.length : Int) + l.length) = true from hc)) (by omega), fun hc => ?_⟩
  conv => whnf
  refine call_step (contains_t bs ls (by omega) l (by omega)) rfl rfl ?_
  conv => whnf
  refine ⟨(by repeat' (first | exact trivial | exact rfl | refine And.intro ?_ ?_ | ((conv => whnf); first | exact trivial | exact rfl | refine And.intro ?_ ?_ | omega))), (by repeat' (first | exact trivial | exact rfl | refine And.intro ?_ ?_ | ((conv => whnf); first | exact trivial | exact rfl | refine And.intro ?_ ?_ | omega))), ?_⟩
  conv => whnf
  rw [hp]
  refine ⟨fun hc => absurd hc (by simp), fun hc => ?_⟩
  conv => whnf
  refine bsN_step tB_ok ((aRows 1 [1, 2] [[.s 1 0 ls.length 4], [.s 2 0 l.length 4]]).ren (rnf [(2, 3), (1, 2), (0, 5)])) rfl ?_
  conv => whnf
  refine ⟨(by repeat' (first | exact trivial | exact rfl | refine And.intro ?_ ?_ | ((conv => whnf); first | exact trivial | exact rfl | refine And.intro ?_ ?_ | omega))), ?_⟩
  conv => whnf
  refine call_step (concatLink_t ls l (by omega) (by omega)) rfl rfl ?_
  conv => whnf
  refine ⟨(by repeat' (first | exact trivial | exact rfl | refine And.intro ?_ ?_ | ((conv => whnf); first | exact trivial | exact rfl | refine And.intro ?_ ?_ | omega))), (by repeat' (first | exact trivial | exact rfl | refine And.intro ?_ ?_ | ((conv => whnf); first | exact trivial | exact rfl | refine And.intro ?_ ?_ | omega))), ?_⟩
  conv => whnf
  refine call_step (graphOf_t bs (ls ++ l) 0 (by omega) hs.boxB (by rw [List.length_append]; omega)) rfl rfl ?_
  conv => whnf
  refine ⟨(by repeat' (first | exact trivial | exact rfl | refine And.intro ?_ ?_ | ((conv => whnf); first | exact trivial | exact rfl | refine And.intro ?_ ?_ | omega))), (by repeat' (first | exact trivial | exact rfl | refine And.intro ?_ ?_ | ((conv => whnf); first | exact trivial | exact rfl | refine And.intro ?_ ?_ | omega))), ?_⟩
  conv => whnf
  refine call_step (clash_t bs.length (graphF bs (ls ++ l) 0) v P kk M (by omega) (by omega) (graphF_ok hs 0) hch h) rfl rfl ?_
  conv => whnf
  refine ⟨(by repeat' (first | exact trivial | exact rfl | refine And.intro ?_ ?_ | ((conv => whnf); first | exact trivial | exact rfl | refine And.intro ?_ ?_ | omega))), (by repeat' (first | exact trivial | exact rfl | refine And.intro ?_ ?_ | ((conv => whnf); first | exact trivial | exact rfl | refine And.intro ?_ ?_ | omega))), ?_⟩
  conv => whnf
  repeat' (first | exact trivial | exact rfl | refine And.intro ?_ ?_ | ((conv => whnf); first | exact trivial | exact rfl | refine And.intro ?_ ?_ | omega))

theorem putOk_t (bs : List (Int × Int)) (ls l : List Lnk) (hs : SysOK bs (ls ++ l)) (h : Calm bs (ls ++ l) 0) :
    Triple Try.prog 53 [.c (.p 0 0 0 0), .c (.s 3 0 l.length 4)] (putH bs ls l) 4 (.tup [.inl (.v (.slice none 0 0)), .inl (.v (.int .i64 0))]) [(0, true, netC 1 4 bs.length (ls ++ l).length), (4, true, .arr (aLink (ls ++ l)))] := by
  refine triple_of tB_ok Try.func53 rfl Try.call53 rfl ?_
  intro ρ w hH
  conv => whnf
  have hnb := hs.nb
  have hnl := hs.nl
  rw [List.length_append] at hnl
  have hp : (l.all fun x => properF x bs.length) = true := List.all_eq_true.2 fun x hx => hs.lnk x (List.mem_append.2 (.inr hx))
  have hgl := graphF_len hs 0
  refine ⟨(ls.length : Int) + l.length, wrapId (z := (ls.length : Int) + l.length) ⟨by omega, by omega⟩, ?_⟩
  conv => whnf
  refine ⟨fun hc => absurd (of_decide_eq_true (show decide ((1200 : Int) < (ls.length : Int) + l.length) = true from hc)) (by omega), fun hc => ?_⟩
  conv => whnf
  refine call_step (contains_t bs ls (by omega) l (by omega)) rfl rfl ?_
  conv => whnf
  refine ⟨(by repeat' (first | exact trivial | exact rfl | refine And.intro ?_ ?_ | ((conv => whnf); first | exact trivial | exact rfl | refine And.intro ?_ ?_ | omega))), (by repeat' (first | exact trivial | exact rfl | refine And.intro ?_ ?_ | ((conv => whnf); first | exact trivial | exact rfl | refine And.intro ?_ ?_ | omega))), ?_⟩
  conv => whnf
  rw [hp]
  refine ⟨fun hc => absurd hc (by simp), fun hc => ?_⟩
  conv => whnf
  refine bsN_step tB_ok ((aRows 1 [1, 2] [[.s 1 0 ls.length 4], [.s 2 0 l.length 4]]).ren (rnf [(2, 3), (1, 2), (0, 5)])) rfl ?_
  conv => whnf
  refine ⟨(by repeat' (first | exact trivial | exact rfl | refine And.intro ?_ ?_ | ((conv => whnf); first | exact trivial | exact rfl | refine And.intro ?_ ?_ | omega))), ?_⟩
  conv => whnf
  refine call_step (concatLink_t ls l (by omega) (by omega)) rfl rfl ?_
  conv => whnf
  refine ⟨(by repeat' (first | exact trivial | exact rfl | refine And.intro ?_ ?_ | ((conv => whnf); first | exact trivial | exact rfl | refine And.intro ?_ ?_ | omega))), (by repeat' (first | exact trivial | exact rfl | refine And.intro ?_ ?_ | ((conv => whnf); first | exact trivial | exact rfl | refine And.intro ?_ ?_ | omega))), ?_⟩
  conv => whnf
  refine call_step (graphOf_t bs (ls ++ l) 0 (by omega) hs.boxB (by rw [List.length_append]; omega)) rfl rfl ?_
  conv => whnf
  refine ⟨(by repeat' (first | exact trivial | exact rfl | refine And.intro ?_ ?_ | ((conv => whnf); first | exact trivial | exact rfl | refine And.intro ?_ ?_ | omega))), (by repeat' (first | exact trivial | exact rfl | refine And.intro ?_ ?_ | ((conv => whnf); first | exact trivial | exact rfl | refine And.intro ?_ ?_ | omega))), ?_⟩
  conv => whnf
  refine call_step (clashNone_t bs.length (graphF bs (ls ++ l) 0) (by omega) (by omega) (graphF_ok hs 0) h) rfl rfl ?_
  conv => whnf
  refine ⟨(by repeat' (first | exact trivial | exact rfl | refine And.intro ?_ ?_ | ((conv => whnf); first | exact trivial | exact rfl | refine And.intro ?_ ?_ | omega))), (by repeat' (first | exact trivial | exact rfl | refine And.intro ?_ ?_ | ((conv => whnf); first | exact trivial | exact rfl | refine And.intro ?_ ?_ | omega))), ?_⟩
  conv => whnf
  repeat' (first | exact trivial | exact rfl | refine And.intro ?_ ?_ | ((conv => whnf); first | exact trivial | exact rfl | refine And.intro ?_ ?_ | omega))

/-! ### Boxes -/

def revL (l : Lnk) : Lnk := ⟨l.t, l.f, l.m, 0⟩

theorem revL_ok {n : Nat} {arcs : List Lnk} (h : ∀ l ∈ arcs, ArcOK n l) : ∀ l ∈ arcs.map revL, ArcOK n l := by
  intro l hl
  obtain ⟨x, hx, rfl⟩ := List.mem_map.1 hl
  obtain ⟨h1, h2, h3⟩ := h x hx
  exact ⟨h2, h1, h3⟩

def boxesF (n : Nat) (arcs : List Lnk) : List (Int × Int) := (List.range n).map fun v => (-(shortF n noRev (arcs.map revL) n).1.sum.getD v 0, (shortF n noRev arcs n).1.sum.getD v 0)

theorem boxes_t (bs : List (Int × Int)) (ls : List Lnk) (hs : SysOK bs ls) :
    Triple Try.prog 69 [.c (.p 0 0 0 0)] (netH bs ls) 3 (.c (.s 3 0 (boxesF bs.length (graphF bs ls 0)).length 2)) [(3, true, .arr (aSpan (boxesF bs.length (graphF bs ls 0))))] := by
  refine triple_of tB_ok Try.func69 rfl Try.call69 rfl ?_
  intro ρ w hH
  conv => whnf
  have hnb := hs.nb
  have hnl := hs.nl
  have hgl := graphF_len hs 0
  refine call_step (graphOf_t bs ls 0 (by omega) hs.boxB (by omega)) rfl rfl ?_
  conv => whnf
  refine ⟨(by repeat' (first | exact trivial | exact rfl | refine And.intro ?_ ?_ | ((conv => whnf); first | exact trivial | exact rfl | refine And.intro ?_ ?_ | omega))), (by repeat' (first | exact trivial | exact rfl | refine And.intro ?_ ?_ | ((conv => whnf); first | exact trivial | exact rfl | refine And.intro ?_ ?_ | omega))), ?_⟩
  conv => whnf
  have hok := graphF_ok hs 0
  have hB : boxesF bs.length (graphF bs ls 0) = (List.range bs.length).map fun v => (-(shortF bs.length noRev ((graphF bs ls 0).map revL) bs.length).1.sum.getD v 0, (shortF bs.length noRev (graphF bs ls 0) bs.length).1.sum.getD v 0) := rfl
  generalize boxesF bs.length (graphF bs ls 0) = res at *
  generalize graphF bs ls 0 = arcs at *
  generalize bs.length = n at *
  refine call_step (plain_t n arcs n (by omega) (by omega) hok (Nat.le_refl _)) rfl rfl ?_
  conv => whnf
  refine ⟨(by repeat' (first | exact trivial | exact rfl | refine And.intro ?_ ?_ | ((conv => whnf); first | exact trivial | exact rfl | refine And.intro ?_ ?_ | omega))), (by repeat' (first | exact trivial | exact rfl | refine And.intro ?_ ?_ | ((conv => whnf); first | exact trivial | exact rfl | refine And.intro ?_ ?_ | omega))), ?_⟩
  conv => whnf
  have hlen := shortF_len n noRev arcs n hok
  have hbd := shortF_bd n noRev arcs n (by omega) (by omega) hok
  generalize (shortF n noRev arcs n).2 = c2 at *
  generalize (shortF n noRev arcs n).1 = T at *
  obtain ⟨hl1, hl2, hl3⟩ := hlen
  refine loop_step tB_ok (G := Nat × List Lnk) 1 [] (fun g => [(38, iv .i64 g.1)]) (fun g => [(9, true, .cells [.v (.int .i64 n), .s 10 0 g.2.length 4]), (10, true, .arr (aLink g.2))]) (fun g => g.1 ≤ arcs.length ∧ g.2 = (arcs.take g.1).map revL) (fun g => arcs.length - g.1) ?_
  conv => whnf
  refine ⟨⟨(0, []), ⟨Nat.zero_le _, rfl⟩, ?_⟩, ?_⟩
  · conv => whnf
    repeat' (first | exact trivial | exact rfl | refine And.intro ?_ ?_ | ((conv => whnf); first | exact trivial | exact rfl | refine And.intro ?_ ?_ | omega))
  rintro ⟨i, xs⟩ ⟨hi, hxs⟩ ρ1 t1 hρ1
  have hi : i ≤ arcs.length := hi
  have hxs : xs = (arcs.take i).map revL := hxs
  have hxl : xs.length ≤ arcs.length := by rw [hxs, List.length_map, List.length_take]; omega
  dsimp only
  conv => whnf
  refine ⟨fun hc => ?_, fun hc => ?_⟩
  · have hlt : i < arcs.length := by have := of_decide_eq_true (show decide ((i : Int) < arcs.length) = true from hc); omega
    have hst : xs ++ [revL arcs[i]] = (arcs.take (i + 1)).map revL := by rw [hxs, take_snoc hlt, List.map_append]; rfl
    conv => whnf
    refine ⟨i, rfl, hlt, hlt, ?_⟩
    conv => whnf
    refine bs_step tB_ok (aLink [revL arcs[i]]) rfl rfl ?_
    conv => whnf
    refine ⟨(by repeat' (first | exact trivial | exact rfl | refine And.intro ?_ ?_ | ((conv => whnf); first | exact trivial | exact rfl | refine And.intro ?_ ?_ | omega))), ?_⟩
    conv => whnf
    refine app_step tB_ok (aLink xs) [revL arcs[i]] (fun _ => rfl) rfl rfl rfl rfl ?_
    conv => whnf
    refine ⟨⟨rfl, rfl, Nat.le_refl _, Nat.le_refl _, by show (xs.length + 1) * 33 ≤ _; omega⟩, ?_⟩
    conv => whnf
    refine ⟨(i : Int) + 1, wrapId (z := (i : Int) + 1) ⟨by omega, by omega⟩, ?_⟩
    refine ⟨(i + 1, xs ++ [revL arcs[i]]), ⟨hlt, hst⟩, by show arcs.length - (i + 1) < arcs.length - i; omega, ?_⟩
    conv => whnf
    refine ⟨rfl, ?_⟩
    conv => whnf
    repeat' (first | exact trivial | exact rfl | refine And.intro ?_ ?_ | ((conv => whnf); first | exact trivial | exact rfl | refine And.intro ?_ ?_ | omega))
    all_goals first | exact (congrArg aLink app1 : _) | simp
  have hie : i = arcs.length := by have := of_decide_eq_false (show decide ((i : Int) < arcs.length) = false from hc); omega
  rw [hie, List.take_length] at hxs
  have hokr := revL_ok hok
  rw [← hxs] at hokr hB
  conv => whnf
  refine call_step (plain_t n xs n (by omega) (by omega) hokr (Nat.le_refl _)) rfl rfl ?_
  conv => whnf
  refine ⟨(by repeat' (first | exact trivial | exact rfl | refine And.intro ?_ ?_ | ((conv => whnf); first | exact trivial | exact rfl | refine And.intro ?_ ?_ | omega))), (by repeat' (first | exact trivial | exact rfl | refine And.intro ?_ ?_ | ((conv => whnf); first | exact trivial | exact rfl | refine And.intro ?_ ?_ | omega))), ?_⟩
  conv => whnf
  have hlenr := shortF_len n noRev xs n hokr
  have hbdr := shortF_bd n noRev xs n (by omega) (by omega) hokr
  generalize (shortF n noRev xs n).2 = c3 at *
  generalize (shortF n noRev xs n).1 = U at *
  obtain ⟨hm1, hm2, hm3⟩ := hlenr
  refine loop_step tB_ok (G := Nat × List (Int × Int)) 1 [] (fun g => [(72, iv .i64 g.1), (11, .c (.s 15 0 g.2.length 2))]) (fun g => [(15, true, .arr (aSpan g.2))]) (fun g => g.1 ≤ n ∧ g.2 = (List.range g.1).map fun v => (-U.sum.getD v 0, T.sum.getD v 0)) (fun g => n - g.1) ?_
  conv => whnf
  refine ⟨⟨(0, []), ⟨Nat.zero_le _, rfl⟩, ?_⟩, ?_⟩
  · conv => whnf
    repeat' (first | exact trivial | exact rfl | refine And.intro ?_ ?_ | ((conv => whnf); first | exact trivial | exact rfl | refine And.intro ?_ ?_ | omega))
  rintro ⟨v, ys⟩ ⟨hv, hys⟩ ρ2 t2 hρ2
  have hv : v ≤ n := hv
  have hys : ys = (List.range v).map fun v => (-U.sum.getD v 0, T.sum.getD v 0) := hys
  have hyl : ys.length = v := by rw [hys]; simp
  dsimp only
  conv => whnf
  refine ⟨fun hc => ?_, fun hc => ?_⟩
  · have hlt : v < n := by have := of_decide_eq_true (show decide ((v : Int) < n) = true from hc); omega
    have h1 : v < U.sum.length := by omega
    have h2 : v < T.sum.length := by omega
    have b1 := hbdr v
    rw [getD_of h1] at b1
    have hst : ys ++ [(-U.sum[v], T.sum[v])] = (List.range (v + 1)).map fun v => (-U.sum.getD v 0, T.sum.getD v 0) := by
      rw [hys, List.range_succ, List.map_append, List.map_cons, List.map_nil, getD_of h1, getD_of h2]
    conv => whnf
    refine ⟨v, rfl, by omega, h1, ?_⟩
    conv => whnf
    refine ⟨-U.sum[v], by show IntKind.i64.wrap (0 - U.sum[v]) = -U.sum[v]; rw [wrapId ⟨by omega, by omega⟩]; omega, ?_⟩
    conv => whnf
    refine ⟨v, rfl, by omega, h2, ?_⟩
    conv => whnf
    refine bs_step tB_ok (aSpan [(-U.sum[v], T.sum[v])]) rfl rfl ?_
    conv => whnf
    refine ⟨(by repeat' (first | exact trivial | exact rfl | refine And.intro ?_ ?_ | ((conv => whnf); first | exact trivial | exact rfl | refine And.intro ?_ ?_ | omega))), ?_⟩
    conv => whnf
    refine app_step tB_ok (aSpan ys) [(-U.sum[v], T.sum[v])] (fun _ => rfl) rfl rfl rfl rfl ?_
    conv => whnf
    refine ⟨⟨rfl, rfl, Nat.le_refl _, Nat.le_refl _, by show (ys.length + 1) * 17 ≤ _; omega⟩, ?_⟩
    conv => whnf
    refine ⟨(v : Int) + 1, wrapId (z := (v : Int) + 1) ⟨by omega, by omega⟩, ?_⟩
    refine ⟨(v + 1, ys ++ [(-U.sum[v], T.sum[v])]), ⟨hlt, hst⟩, by show n - (v + 1) < n - v; omega, ?_⟩
    conv => whnf
    refine ⟨rfl, ?_⟩
    conv => whnf
    repeat' (first | exact trivial | exact rfl | refine And.intro ?_ ?_ | ((conv => whnf); first | exact trivial | exact rfl | refine And.intro ?_ ?_ | omega))
    all_goals first | exact (congrArg aSpan app1 : _) | simp
  have hve : v = n := by have := of_decide_eq_false (show decide ((v : Int) < n) = false from hc); omega
  rw [hve, ← hB] at hys
  subst hys
  conv => whnf
  repeat' (first | exact trivial | exact rfl | refine And.intro ?_ ?_ | ((conv => whnf); first | exact trivial | exact rfl | refine And.intro ?_ ?_ | omega))

end Go.Proofs

namespace Go.Proofs
open Go.Sx

theorem treeW {bs : List (Int × Int)} {ls : List Lnk} (h : NetW bs ls) {a : Int} (ha : a < bs.length) :
    ∃ ts, Tree bs.length (graphF bs ls 0) (edgs bs.length noR 0 (graphF bs ls 0)) (plc bs.length a) (shortF bs.length noRev (graphF bs ls 0) (plc bs.length a)).1 ts :=
  (calm_tree h.sys h.calm 0 (plc_le ha)).2

/-- No numbers that no link contradicts have a greater difference. -/
theorem most_ge {bs : List (Int × Int)} {ls : List Lnk} (h : NetW bs ls) {q : Nat → Int} (hq : PotL bs.length q (graphF bs ls 0)) {a b : Int} (ha : a < bs.length) (hb : b < bs.length) :
    q (plc bs.length b) ≤ q (plc bs.length a) + mostF bs.length (graphF bs ls 0) a b := by
  obtain ⟨ts, hT⟩ := treeW h ha
  exact hT.low (potL_iff.1 hq) (plc_le hb)

theorem most_pot {bs : List (Int × Int)} {ls : List Lnk} (h : NetW bs ls) {a : Int} (ha : a < bs.length) : ∃ q : Nat → Int, PotL bs.length q (graphF bs ls 0) ∧ q (plc bs.length a) = 0 ∧ ∀ b, mostF bs.length (graphF bs ls 0) a b = q (plc bs.length b) := by
  obtain ⟨ts, hT⟩ := treeW h ha
  exact ⟨_, potL_iff.2 (hT.pot (edgs_ok (graphF_ok h.sys 0))), hT.src0.1, fun b => rfl⟩

theorem most_mono {bs : List (Int × Int)} {ls ls' : List Lnk} (h : NetW bs ls) (h' : NetW bs ls') (hs : ∀ l ∈ ls, l ∈ ls') {a b : Int} (ha : a < bs.length) (hb : b < bs.length) :
    mostF bs.length (graphF bs ls' 0) a b ≤ mostF bs.length (graphF bs ls 0) a b := by
  obtain ⟨q, hq, h0, he⟩ := most_pot h' ha
  have hq2 : PotL bs.length q (graphF bs ls 0) := by
    intro l hl
    refine hq l ?_
    rw [graphF_zero] at hl ⊢
    rcases List.mem_append.1 hl with hl | hl
    · exact List.mem_append.2 (.inl hl)
    · exact List.mem_append.2 (.inr (hs l hl))
  have := most_ge h hq2 ha hb
  rw [h0] at this
  rw [he]
  omega

theorem allows_mono {bs : List (Int × Int)} {ls ls' : List Lnk} (h : SysOK bs ls) (h' : SysOK bs ls') (hs : ∀ l ∈ ls, l ∈ ls') {pt : List Int} (ha : (allowsF bs ls' pt).2 = true) : (allowsF bs ls pt).2 = true := by
  obtain ⟨h1, h2⟩ := (allows_iff h').1 ha
  refine (allows_iff h).2 ⟨h1, fun l hl => h2 l ?_⟩
  rcases List.mem_append.1 hl with hl | hl
  · exact List.mem_append.2 (.inl hl)
  · exact List.mem_append.2 (.inr (hs l hl))

theorem range_any {bs : List (Int × Int)} {ls : List Lnk} (h : NetW bs ls) (a b : Int) : ∃ lo hi e : Int,
    Triple Try.prog 21 [.c (.p 0 0 0 0), iv .i64 a, iv .i64 b] (netH bs ls) 3 (.tup [.inr [.v (.int .i64 lo), .v (.int .i64 hi)], .inl (.v (.int .i64 e))]) [] ∧
    ((e = 0 ∧ (-1 ≤ a ∧ a < bs.length) ∧ (-1 ≤ b ∧ b < bs.length) ∧ lo = -mostF bs.length (graphF bs ls 0) b a ∧ hi = mostF bs.length (graphF bs ls 0) a b) ∨
      (e = 1 ∧ lo = 0 ∧ hi = 0 ∧ ¬ ((-1 ≤ a ∧ a < bs.length) ∧ (-1 ≤ b ∧ b < bs.length)))) := by
  rcases both_places bs.length a b with ⟨ha, hb, h1, h2⟩ | ⟨h1, h2⟩
  · exact ⟨_, _, 0, range_t bs ls a b h.sys ha.2 hb.2 h1 h2 _ _ rfl rfl, .inl ⟨rfl, ha, hb, rfl, rfl⟩⟩
  · refine ⟨0, 0, 1, rangeErr_t bs ls a b h.sys h1, .inr ⟨rfl, rfl, rfl, fun hh => ?_⟩⟩
    have e1 : withinF a (-1) ((bs.length : Int) - 1) = true := by simp [withinF]; omega
    have e2 : withinF b (-1) ((bs.length : Int) - 1) = true := by simp [withinF]; omega
    rcases h1 with h1 | h1
    · rw [e1] at h1; cases h1
    · rw [e2] at h1; cases h1

theorem formedLong_t (form : List (Int × Int)) (vars : Int) (hl : 240 < form.length) : Triple Try.prog 91 [.c (.s 0 0 form.length 2), iv .i64 vars] [(0, false, .arr (aSpan form))] 1 (iv .i64 2) [] := by
  refine triple_of tB_ok Try.func91 rfl Try.call91 rfl ?_
  intro ρ w hH
  conv => whnf
  refine ⟨fun hc => ?_, fun hc => absurd (of_decide_eq_false (show decide ((240 : Int) < form.length) = false from hc)) (by omega)⟩
  conv => whnf
  repeat' (first | exact trivial | exact rfl | refine And.intro ?_ ?_ | ((conv => whnf); first | exact trivial | exact rfl | refine And.intro ?_ ?_ | omega))

theorem bestLong_t (bs : List (Int × Int)) (ls : List Lnk) (form : List (Int × Int)) (hfl : 240 < form.length) :
    Triple Try.prog 28 [.c (.p 0 0 0 0), .c (.s 3 0 form.length 2)] ((3, false, .arr (aSpan form)) :: netH bs ls) 4
      (.tup [.inr [.v (.int .i64 0), .v (.slice none 0 0), .v (.slice none 0 0)], .inl (.v (.int .i64 2))]) [] := by
  refine triple_of tB_ok Try.func28 rfl Try.call28 rfl ?_
  intro ρ w hH
  conv => whnf
  refine call_step (formedLong_t form bs.length (by omega)) rfl rfl ?_
  conv => whnf
  refine ⟨(by repeat' (first | exact trivial | exact rfl | refine And.intro ?_ ?_ | ((conv => whnf); first | exact trivial | exact rfl | refine And.intro ?_ ?_ | omega))), (by repeat' (first | exact trivial | exact rfl | refine And.intro ?_ ?_ | ((conv => whnf); first | exact trivial | exact rfl | refine And.intro ?_ ?_ | omega))), ?_⟩
  conv => whnf
  refine ⟨fun hc => ?_, fun hc => absurd hc (by simp)⟩
  conv => whnf
  repeat' (first | exact trivial | exact rfl | refine And.intro ?_ ?_ | ((conv => whnf); first | exact trivial | exact rfl | refine And.intro ?_ ?_ | omega))

theorem bestBad {bs : List (Int × Int)} {ls : List Lnk} (form : List (Int × Int)) (hb : bs.length ≤ 240) (hf : formF form bs.length ≠ 0) : 
    Triple Try.prog 28 [.c (.p 0 0 0 0), .c (.s 3 0 form.length 2)] ((3, false, .arr (aSpan form)) :: netH bs ls) 4
      (.tup [.inr [.v (.int .i64 0), .v (.slice none 0 0), .v (.slice none 0 0)], .inl (.v (.int .i64 (formF form bs.length)))]) [] := by
  by_cases hl : 240 < form.length
  · have e : formF form bs.length = 2 := by unfold formF; rw [if_pos hl]
    rw [e]
    exact bestLong_t bs ls form hl
  · exact BestErr_t bs ls form (by omega) (by omega) hf

end Go.Proofs

namespace Go.Proofs
open Go.Sx

theorem rev_pot {n : Nat} {q : Nat → Int} {arcs : List Lnk} : PotL n q (arcs.map revL) ↔ PotL n (fun v => -q v) arcs := by
  constructor
  · intro h l hl
    have h1 : q (plc n l.f) ≤ q (plc n l.t) + l.m := h (revL l) (List.mem_map_of_mem hl)
    show -q (plc n l.t) ≤ -q (plc n l.f) + l.m
    omega
  · intro h l hl
    obtain ⟨x, hx, rfl⟩ := List.mem_map.1 hl
    have h1 : -q (plc n x.t) ≤ -q (plc n x.f) + x.m := h x hx
    show q (plc n x.f) ≤ q (plc n x.t) + x.m
    omega

theorem hub_rev {n : Nat} {arcs : List Lnk} (h : Hub n arcs) : Hub n (arcs.map revL) := by
  intro v hv
  obtain ⟨⟨a, ha, a1, a2⟩, ⟨b, hb, b1, b2⟩⟩ := h v hv
  exact ⟨⟨revL b, List.mem_map_of_mem hb, b2, b1⟩, ⟨revL a, List.mem_map_of_mem ha, a2, a1⟩⟩

/-- The least values are greatest differences to the origin. -/
theorem down_most {bs : List (Int × Int)} {ls : List Lnk} (h : NetW bs ls) {v : Nat} (hv : v < bs.length) :
    (shortF bs.length noRev ((graphF bs ls 0).map revL) bs.length).1.sum.getD v 0 = mostF bs.length (graphF bs ls 0) v (-1) := by
  have hok := graphF_ok h.sys 0
  have hokr := revL_ok hok
  obtain ⟨q0, hq0⟩ := calm_pot h.sys h.calm
  have hq0 := hq0 0
  have hqr : PotL bs.length (fun v => -q0 v) ((graphF bs ls 0).map revL) := rev_pot.2 (by simpa using hq0)
  have hr := rounds_pot (rev := noR) (k := bs.length + 2) hokr (potL_iff.1 hqr) (Nat.le_refl bs.length) (by omega)
  obtain ⟨ts, hT⟩ := tree_of (rev := noR) hokr (hub_rev (hub_graph bs ls 0)) (Nat.le_refl bs.length) hr.1
  have e : (roundsF bs.length noR ((graphF bs ls 0).map revL) (bs.length + 2) (startF bs.length bs.length)).1 = (shortF bs.length noRev ((graphF bs ls 0).map revL) bs.length).1 := rfl
  rw [e] at hT
  generalize (shortF bs.length noRev ((graphF bs ls 0).map revL) bs.length).1 = T at *
  obtain ⟨q1, hq1, hz1, he1⟩ := most_pot h (a := ((v : Nat) : Int)) (by omega)
  have hp1 : plc bs.length ((v : Nat) : Int) = v := by unfold plc; rw [if_neg (by omega), Int.toNat_natCast]
  have hp2 : plc bs.length (-1) = bs.length := rfl
  have h1 := hT.low (potL_iff.1 (rev_pot.2 (show PotL bs.length (fun v => - (fun v => -q1 v) v) (graphF bs ls 0) by simpa using hq1))) (v := v) (by omega)
  have h1 : -q1 v ≤ -q1 bs.length + T.sum.getD v 0 := h1
  have hTp : PotL bs.length (fun v => T.sum.getD v 0) ((graphF bs ls 0).map revL) := potL_iff.2 (hT.pot (edgs_ok hokr))
  have h2 := most_ge h (rev_pot.1 hTp) (a := ((v : Nat) : Int)) (b := -1) (by omega) (by omega)
  have h2 : -T.sum.getD (plc bs.length (-1)) 0 ≤ -T.sum.getD (plc bs.length ((v : Nat) : Int)) 0 + mostF bs.length (graphF bs ls 0) ((v : Nat) : Int) (-1) := h2
  rw [hp1, hp2, hT.src0.1] at h2
  have h3 := he1 (-1)
  rw [hp2] at h3
  rw [hp1] at hz1
  omega

theorem up_most {bs : List (Int × Int)} {ls : List Lnk} (v : Nat) : (shortF bs.length noRev (graphF bs ls 0) bs.length).1.sum.getD v 0 = mostF bs.length (graphF bs ls 0) (-1) v := by
  unfold mostF
  have hp1 : plc bs.length ((v : Nat) : Int) = v := by unfold plc; rw [if_neg (by omega), Int.toNat_natCast]
  have hp2 : plc bs.length (-1) = bs.length := rfl
  rw [hp1, hp2]

end Go.Proofs

namespace Go.Proofs
open Go.Sx

end Go.Proofs

namespace Go.Proofs
open Go.Sx

end Go.Proofs

namespace Go.Proofs
open Go.Sx

end Go.Proofs

namespace Go
namespace Sx

/-! ### A range over a function whose body returns -/

end Sx
end Go

namespace Go.Proofs
open Go.Sx

/-! ### The first link that does not hold -/

end Go.Proofs

namespace Go.Proofs
open Go.Sx

end Go.Proofs

namespace Go.Proofs
open Go.Sx

end Go.Proofs

namespace Go.Proofs
open Go.Sx

end Go.Proofs

namespace Go.Proofs
open Go.Sx

/-! ### The greatest quotient -/

end Go.Proofs

namespace Go.Proofs
open Go.Sx

end Go.Proofs

namespace Go.Proofs
open Go.Sx

end Go.Proofs

namespace Go.Proofs
open Go.Sx

end Go.Proofs

namespace Go.Proofs
open Go.Sx

end Go.Proofs

namespace Go.Proofs
open Go.Sx

end Go.Proofs

namespace Go
namespace Sx

end Sx
end Go

namespace Go.Proofs
open Go.Sx

theorem calm_of {bs : List (Int × Int)} {ls : List Lnk} (hs : SysOK bs ls) {q : Nat → Int} (hq : PotL bs.length q (graphF bs ls 0)) : Calm bs ls 0 :=
  (rounds_pot (rev := noR) (k := bs.length + 2) (graphF_ok hs 0) (potL_iff.1 hq) (Nat.le_refl _) (by omega)).1

theorem potL_sub {bs : List (Int × Int)} {ls ls' : List Lnk} {q : Nat → Int} (h : PotL bs.length q (graphF bs ls 0)) (hs : ∀ l ∈ ls', l ∈ ls) : PotL bs.length q (graphF bs ls' 0) := by
  intro l hl
  refine h l ?_
  rw [graphF_zero] at hl ⊢
  rcases List.mem_append.1 hl with hl | hl
  · exact List.mem_append.2 (.inl hl)
  · exact List.mem_append.2 (.inr (hs l hl))

/-- A system without some of its links. -/
theorem NetW.sub {bs : List (Int × Int)} {ls ls' : List Lnk} (h : NetW bs ls) (hl : ls'.length ≤ 150) (hs : ∀ l ∈ ls', l ∈ ls) : NetW bs ls' := by
  have hsys : SysOK bs ls' := ⟨h.sys.nb, by omega, h.sys.box, fun l hm => h.sys.lnk l (hs l hm)⟩
  obtain ⟨q, hq⟩ := calm_pot h.sys h.calm
  exact ⟨⟨h.few.1, hl⟩, hsys, calm_of hsys (potL_sub (hq 0) hs)⟩

theorem most_same {bs : List (Int × Int)} {ls ls' : List Lnk} (h : NetW bs ls) (h' : NetW bs ls') (hs : ∀ l, l ∈ ls ↔ l ∈ ls') {a b : Int} (ha : a < bs.length) (hb : b < bs.length) :
    mostF bs.length (graphF bs ls' 0) a b = mostF bs.length (graphF bs ls 0) a b :=
  Int.le_antisymm (most_mono h h' (fun l hl => (hs l).1 hl) ha hb) (most_mono h' h (fun l hl => (hs l).2 hl) ha hb)

/-- The boxes depend on which links there are, and on nothing else. -/
theorem boxes_same {bs : List (Int × Int)} {ls ls' : List Lnk} (h : NetW bs ls) (h' : NetW bs ls') (hs : ∀ l, l ∈ ls ↔ l ∈ ls') : boxesF bs.length (graphF bs ls' 0) = boxesF bs.length (graphF bs ls 0) := by
  unfold boxesF
  refine List.map_congr_left fun v hv => ?_
  have hv : v < bs.length := List.mem_range.1 hv
  rw [down_most h hv, down_most h' hv, up_most, up_most, most_same h h' hs (by omega) (by omega), most_same h h' hs (by omega) (by omega)]

theorem boxesF_len (n : Nat) (arcs : List Lnk) : (boxesF n arcs).length = n := by simp [boxesF]

end Go.Proofs

namespace Go
namespace Sx

theorem ownB_nil {ρ : Asg} {k : Nat} {r : Rg} {o : SO} : ∀ {H : Heap}, (∀ j ∈ keys H, j < k) → ownB (upd ρ k r) (H ++ [(k, false, o)]) = ownB ρ H
  | [], _ => by simp [ownB]
  | (j, own, q) :: t, h => by
    have hj : j ≠ k := Nat.ne_of_lt (h j (by simp [keys]))
    simp only [List.cons_append, ownB, upd_ne hj]
    rw [ownB_nil (H := t) (fun i hi => h i (by simp [keys, hi]))]

theorem satH_nil {w0 : World} {M : List Nat} {ρ : Asg} {k : Nat} {o : SO} {H : Heap} {w : World} (ho : nilO o) (hk : ∀ j ∈ nmsH H, j < k) (h : SatH w0 M ρ H w) :
    SatH w0 M (upd ρ k ⟨0, 0, 0⟩) (H ++ [(k, false, o)]) w := by
  have hold : ∀ {j own q}, look H j = some (own, q) → j ≠ k ∧ ∀ i, q.uses [i] = true → upd ρ k ⟨0, 0, 0⟩ i = ρ i := fun {j own q} hl => by
    have hn := look_nms hl
    exact ⟨Nat.ne_of_lt (hk j hn.1), fun i hi => upd_ne (Nat.ne_of_lt (hk i (hn.2 i (SO.uses_nms.1 hi))))⟩
  have hnil := satO_nil (ρ := upd ρ k ⟨0, 0, 0⟩) (w := w) (k := k) (own := false) ho upd_eq
  have key : ∀ {j own q}, look (H ++ [(k, false, o)]) j = some (own, q) → (look H j = some (own, q)) ∨ (j = k ∧ own = false ∧ q = o) := fun {j own q} hl => by
    rw [look_append] at hl
    cases hh : look H j with
    | some x => rw [hh] at hl; exact .inl hl
    | none =>
      rw [hh] at hl
      simp only [Option.none_or] at hl
      rw [look_cons] at hl
      by_cases hj : j = k
      · rw [if_pos hj] at hl; cases hl; exact .inr ⟨hj, rfl, rfl⟩
      · rw [if_neg hj] at hl; cases hl
  refine ⟨h.frm, ?_, ?_, ?_, ?_⟩
  · intro j own q hl
    rcases key hl with hl | ⟨rfl, rfl, rfl⟩
    · obtain ⟨h1, h2⟩ := hold hl
      exact (h.reg j own q hl).asg (upd_ne h1) h2
    · exact hnil.1
  · intro j j' q own' q' hne hl hl' hr hr'
    rcases key hl with hl | ⟨_, hf, _⟩
    · rcases key hl' with hl' | ⟨rfl, rfl, rfl⟩
      · have h1 := (hold hl).1
        have h2 := (hold hl').1
        rw [upd_ne h1] at hr ⊢
        rw [upd_ne h2] at hr' ⊢
        exact h.apart j j' q own' q' hne hl hl' hr hr'
      · rw [hnil.2] at hr'; omega
    · cases hf
  · intro j q hl hr
    rcases key hl with hl | ⟨_, hf, _⟩
    · rw [upd_ne (hold hl).1] at hr ⊢
      exact h.fresh j q hl hr
    · cases hf
  · intro j own q hl hr
    rcases key hl with hl | ⟨rfl, rfl, rfl⟩
    · rw [upd_ne (hold hl).1] at hr ⊢
      exact h.valid j own q hl hr
    · rw [hnil.2] at hr; omega

/-- A contract for a list that is empty serves for nil. -/
theorem Triple.nilK {P : Program} {f : FuncId} {args args' : List SV} {k : Nat} {o : SO} {H : Heap} {np : Nat} {r : SV} {post : Heap} (h : Triple P f args (H ++ [(k, false, o)]) np r post) (ho : nilO o) (hnp : np = k + 1)
    (hk : allLt k (nmsH H) = true) (hargs : ∀ ρ vals, relVs ρ args' vals → relVs (upd ρ k ⟨0, 0, 0⟩) args vals) : Triple P f args' H k r post where
  enter := h.enter
  h ρ w vals hv hH := by
    have hk := allLt_iff.1 hk
    have hkeys : ∀ j ∈ keys H, j < k := fun j hj => by
      obtain ⟨x, hx⟩ := look_of_keys hj
      exact hk j (look_nms hx).1
    have e := ownB_nil (ρ := ρ) (r := ⟨0, 0, 0⟩) (o := o) hkeys
    have hH1 : SatH w (ownB (upd ρ k ⟨0, 0, 0⟩) (H ++ [(k, false, o)])) (upd ρ k ⟨0, 0, 0⟩) (H ++ [(k, false, o)]) w := by
      rw [e]; exact satH_nil ho hk hH
    refine (h.h _ w vals (hargs ρ _ hv) hH1).mono ?_
    rintro en w' ⟨ρ', v, h1, h2, h3, h4⟩
    rw [e] at h4
    exact ⟨ρ', v, fun j hj => by rw [h1 j (by omega), upd_ne (by omega)], h2, h3, h4⟩

end Sx
end Go

