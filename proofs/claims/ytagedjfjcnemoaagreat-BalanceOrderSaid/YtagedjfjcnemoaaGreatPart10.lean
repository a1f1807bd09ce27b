/-
  A part of the proof that a law answers true: lemmas of a symbolic walk, plain functions, or contracts of the functions walked (Sx23, W4, W5, W6, W7, W8, W9, Sx34). Conditions: none.
-/
import Derived.Test.YtagedjfjcnemoaaGreatPart09
set_option maxRecDepth 100000
set_option linter.unusedVariables false
set_option linter.unusedSimpArgs false
namespace Go
namespace Sx

theorem aInt_xs (xs : List Int) : (aInt xs).xs = xs := rfl
theorem aBool_xs (xs : List Bool) : (aBool xs).xs = xs := rfl
theorem setXs_xs (A : Arr) (xs : List A.α) : (A.setXs xs).xs = xs := rfl
theorem setInt_xs (xs ys : List Int) : (aInt xs).setXs ys = aInt ys := rfl
theorem setBool_xs (xs ys : List Bool) : (aBool xs).setXs ys = aBool ys := rfl
attribute [simp] aInt_xs aBool_xs setXs_xs setInt_xs setBool_xs

def spl {α : Type} (xs : List α) (o : Nat) (ys : List α) : List α := xs.take o ++ (ys ++ xs.drop (o + ys.length))

theorem spl_length {α : Type} {xs ys : List α} {o : Nat} (h : o + ys.length ≤ xs.length) : (spl xs o ys).length = xs.length := by
  simp [spl]; omega

theorem spl_get {α : Type} {xs ys : List α} {o i : Nat} (h : o + ys.length ≤ xs.length) : (spl xs o ys)[i]? = if o ≤ i ∧ i < o + ys.length then ys[i - o]? else xs[i]? := by
  have hl : (xs.take o).length = o := by rw [List.length_take]; omega
  unfold spl
  by_cases h1 : i < o
  · rw [List.getElem?_append_left (by omega), List.getElem?_take, if_pos h1, if_neg (by omega)]
  · rw [List.getElem?_append_right (by omega), hl]
    by_cases h2 : i < o + ys.length
    · rw [if_pos ⟨by omega, h2⟩, List.getElem?_append_left (by omega)]
    · rw [if_neg (by omega), List.getElem?_append_right (by omega), List.getElem?_drop]
      congr 1; omega

theorem write_arr {cx : Cx} {ρ : Asg} {s : St} {a : Act} {w : World} {k st : Nat} {A : Arr} {ys : List A.α} {vs : List Value} (hs : Sat cx ρ s a w) (hl : look s.H k = some (true, .arr A))
    (hle : st + ys.length ≤ A.xs.length) (hvl : vs.length = ys.length * A.sz)
    (hv : ∀ (i j : Nat) (x : A.α) (c : SC), ys[i]? = some x → (A.enc x)[j]? = some c → ∃ v, vs[i * A.sz + j]? = some v ∧ c.rel ρ v) (h1 : ∀ v ∈ vs, (∀ xs, v ≠ .agg xs) ∧ (∀ xs, v ≠ .tuple xs)) :
    (∀ P, (storeCells (adr ρ k (st * A.sz)) vs 0).run P w = .ok () (setCells w (ρ k).blk (st * A.sz) vs)) ∧
    Sat cx ρ { s with H := (k, true, .arr (A.setXs (spl A.xs st ys))) :: s.H } a (setCells w (ρ k).blk (st * A.sz) vs) := by
  have hso := hs.heap.reg k true _ hl
  have hoff := hso.off0 rfl
  have hwf := hso.wf
  simp only [SO.wf] at hwf
  have hroom := fun n hn => hso.room rfl (by simp) n hn
  simp only [SO.room] at hroom
  have hm1 : (st + ys.length) * A.sz ≤ (ρ k).cap * A.sz := Nat.mul_le_mul_right _ (by omega)
  rw [Nat.add_mul] at hm1
  have hadr : adr ρ k (st * A.sz) = ⟨(ρ k).blk, st * A.sz, none⟩ := by simp [adr, hoff]
  refine ⟨fun P => ?_, ?_⟩
  · rw [hadr]
    have := run_storeCells (P := P) (b := (ρ k).blk) (n := st * A.sz) vs 0 w (fun j hj => by
      have := hroom (st * A.sz + j) (by omega)
      simp only [adr, hoff, Nat.zero_add] at this
      simpa using this) h1
    simpa using this
  have hvs : (ρ k).cap * A.sz = 0 → vs = [] := fun h0 => List.length_eq_zero_iff.1 (by omega)
  have hdj : ∀ j own' p, look s.H j = some (own', p) → j ≠ k → 0 < p.room (ρ j) → 0 < (ρ k).cap * A.sz → (ρ j).blk ≠ (ρ k).blk := fun j own' p hj hjk hpr hr =>
    Ne.symm (hs.heap.apart k j _ own' p (Ne.symm hjk) hl hj (by simpa [SO.room] using hr) hpr)
  have hcell : ∀ n, (setCells w (ρ k).blk (st * A.sz) vs).cell? (adr ρ k n) = if st * A.sz ≤ n ∧ n < st * A.sz + vs.length then vs[n - st * A.sz]? else w.cell? (adr ρ k n) := by
    intro n
    have := setCells_cell w (ρ k).blk (st * A.sz) vs (fun j hj => by
      have := (hroom (st * A.sz + j) (by omega)).1
      simpa [adr, hoff] using this) n
    simpa [adr, hoff] using this
  have hnew : SatO ρ (setCells w (ρ k).blk (st * A.sz) vs) k true (.arr (A.setXs (spl A.xs st ys))) := by
    refine ⟨?_, ?_, ?_, fun _ => hoff, fun _ h => by cases h⟩
    · simp only [SO.wf, Arr.setXs]; rw [spl_length hle]; exact hwf
    · intro i j c hc
      rw [setXs_cell] at hc
      show ∃ v, (setCells w (ρ k).blk (st * A.sz) vs).cell? (adr ρ k (i * A.sz + j)) = some v ∧ _
      cases hx : (spl A.xs st ys)[i]? with
      | none => simp [hx] at hc
      | some x =>
        simp only [hx, Option.bind_some] at hc
        have hj : j < A.sz := by have := (List.getElem?_eq_some_iff.1 hc).1; rwa [A.hl] at this
        rw [spl_get hle] at hx
        rw [hcell]
        by_cases hin : st ≤ i ∧ i < st + ys.length
        · rw [if_pos hin] at hx
          have e1 := Nat.mul_le_mul_right A.sz hin.1
          have e2 := Nat.mul_le_mul_right A.sz (show i + 1 ≤ st + ys.length from hin.2)
          rw [Nat.add_mul, Nat.add_mul] at e2
          rw [if_pos ⟨by omega, by omega⟩]
          have e3 : i * A.sz + j - st * A.sz = (i - st) * A.sz + j := by rw [Nat.sub_mul]; omega
          rw [e3]
          exact hv (i - st) j x c hx hc
        · rw [if_neg hin] at hx
          have : ¬ (st * A.sz ≤ i * A.sz + j ∧ i * A.sz + j < st * A.sz + vs.length) := by
            rintro ⟨q1, q2⟩
            refine hin ⟨?_, ?_⟩
            · refine Nat.le_of_not_lt fun hlt => ?_
              have := Nat.mul_le_mul_right A.sz (show i + 1 ≤ st from hlt)
              rw [Nat.add_mul] at this; omega
            · refine Nat.lt_of_not_le fun hge => ?_
              have := Nat.mul_le_mul_right A.sz hge
              rw [Nat.add_mul] at this; omega
          rw [if_neg this]
          exact hso.at_ i j c (by simp only [SO.cell?, hx]; exact hc)
    · intro _ _ n hn
      have hn : n < (ρ k).cap * A.sz := by simpa [SO.room, Arr.setXs] using hn
      have := hroom n hn
      rw [hcell]
      refine ⟨?_, by rw [setCells_frozen]; exact this.2⟩
      by_cases hin : st * A.sz ≤ n ∧ n < st * A.sz + vs.length
      · rw [if_pos hin]; exact ⟨vs[n - st * A.sz]'(by omega), by rw [List.getElem?_eq_getElem]⟩
      · rw [if_neg hin]; exact this.1
  have hr2 : (SO.arr (A.setXs (spl A.xs st ys))).room (ρ k) = (ρ k).cap * A.sz := rfl
  exact { size := hs.size, defers := hs.defers, env := hs.env
          heap := hs.heap.cons (fun j own q _ _ => ⟨rfl, fun _ _ => rfl⟩) (by rw [setCells_size]; exact Nat.le_refl _)
            (by
              by_cases hr : 0 < (ρ k).cap * A.sz
              · exact hs.heap.frmSet hl (by simpa [SO.room] using hr) _ _
              · rw [hvs (by omega)]; exact hs.heap.frm)
            (fun b _ hb => setCells_other _ _ _ _ hb)
            (fun j own' q hj hjk hq hr => hdj j own' q hj hjk hq (by rwa [hr2] at hr))
            (fun j own' q hj hjk hq => by
              by_cases hr : 0 < (ρ k).cap * A.sz
              · exact setCells_other _ _ _ _ (hdj j own' q hj hjk hq hr)
              · rw [hvs (by omega)]; rfl)
            hnew (fun _ hr => hs.heap.fresh k _ hl (by rw [hr2] at hr; simpa [SO.room] using hr))
            (fun hr => by rw [setCells_size]; exact hs.heap.valid k true _ hl (by rw [hr2] at hr; simpa [SO.room] using hr))
          bnd := hs.bnd.cons (hs.bnd.heap k true _ hl).1 (fun j hj => (hs.bnd.heap k true _ hl).2 j hj), base := hs.base, keep := hs.keep, n0 := hs.n0 }

def copyK (B : Tabs) (A : Arr) (zs : List A.α) (t : TypeId) (x y : SV) (H : Heap) (K : Eff → Prop) : Prop :=
  match lookT B.T t, x, y with
  | some ⟨.slice el, _, _, _⟩, .c (.s k st len sz), .c (.s k' st' len' sz') => (match lookT B.T el with
    | some ti => bif (Nat.beq ti.size sz && Nat.beq sz sz') && (Nat.ble 1 sz && Nat.beq sz A.sz) then (match look H k, look H k' with
      | some (true, .arr A0), some (_, .arr X) => (A0 = A ∧ X = A.setXs zs ∧ st + len ≤ A.xs.length ∧ st' + len' ≤ zs.length) ∧
          ∃ n, min len len' = n ∧ K ⟨iv .i64 n, [k, k'], [(k, true, .arr (A.setXs (spl A.xs st ((zs.drop st').take n))))], []⟩
      | _, _ => False) else False
    | none => False)
  | _, _, _ => False

theorem copy_step {cx : Cx} {B : Tabs} (hB : TabsOK cx.P B) {o : Oper} {e : Env} {H : Heap} {nx : Nat} {K : Eff → Prop} {c : Call} {x y : Operand} {t t' : TypeId} (A : Arr) (zs : List A.α)
    (hone : ∀ x, allOne (A.enc x) = true) (ho : o.op = .call c) (hc : c.callee = .builtin .copy) (hca : c.args = #[x, y]) (hct : c.argTypes = #[t, t'])
    (h : copyK B A zs t (ev e x) (ev e y) H K) : ∃ F, CallOK cx o e H nx F ∧ K F := by
  have hx : x ∈ o.op.operands.toList := by simp [ho, Op.operands, Call.operands, hc, hca]
  have hy : y ∈ o.op.operands.toList := by simp [ho, Op.operands, Call.operands, hc, hca]
  unfold copyK at h
  split at h
  · rename_i el s0 b0 z0 k st len sz k' st' len' sz' ht hex hey
    split at h
    · rename_i ti hti
      obtain ⟨hb, h⟩ := bif_and h
      simp only [Bool.and_eq_true] at hb
      obtain ⟨⟨hb1, hb2⟩, hb3, hb4⟩ := hb
      have hb1 := Nat.eq_of_beq_eq_true hb1
      have hb2 := Nat.eq_of_beq_eq_true hb2
      have hb3 := Nat.le_of_ble_eq_true hb3
      have hb4 := Nat.eq_of_beq_eq_true hb4
      split at h
      · rename_i A0 ow X hlk hlk'
        obtain ⟨⟨rfl, rfl, h1, h2⟩, n, hn, hK⟩ := h
        refine ⟨_, ⟨?_, fun j hj => by cases hj⟩, hK⟩
        intro ρ s a w hs hr hk _ hdst KK Q hKK
        have hl1 : look s.H k = some (true, .arr A0) := by rw [hk k (by simp)]; exact hlk
        have hl2 : look s.H k' = some (ow, .arr (A0.setXs zs)) := by rw [hk k' (by simp)]; exact hlk'
        have hfit : ∀ z, z ∈ o.op.operands.toList → (ev e z).rel ρ (a.eval z) := fun z hz => reads_fit hz (fun t ht => by rw [← hr t ht]; exact hs.env t)
        have hx1 := hfit x hx
        have hy1 := hfit y hy
        rw [hex] at hx1; rw [hey] at hy1
        simp only [SV.rel, SC.rel] at hx1 hy1
        obtain ⟨ad, hxv, hcap, had⟩ := hx1
        obtain ⟨ad', hyv, hcap', had'⟩ := hy1
        have hs2 := hs.heap.reg k' ow _ hl2
        have hnl : n ≤ len ∧ n ≤ len' := by omega
        have hys : ((zs.drop st').take n).length = n := by simp; omega
        have hflat : ∀ i j x' cc, ((zs.drop st').take n)[i]? = some x' → (A0.enc x')[j]? = some cc → ∃ v, (flat w ρ k' (st' * A0.sz) (n * A0.sz))[i * A0.sz + j]? = some v ∧ cc.rel ρ v := by
          intro i j x' cc hxx hcc
          have hi : i < n := by have := (List.getElem?_eq_some_iff.1 hxx).1; omega
          have hj : j < A0.sz := by have := (List.getElem?_eq_some_iff.1 hcc).1; rwa [A0.hl] at this
          have hlt : i * A0.sz + j < n * A0.sz := by
            have := Nat.mul_le_mul_right A0.sz (show i + 1 ≤ n from hi)
            rw [Nat.add_mul] at this; omega
          rw [flat_get hlt]
          rw [List.getElem?_take, if_pos hi, List.getElem?_drop] at hxx
          obtain ⟨v, hv, hvr⟩ := hs2.at_ (st' + i) j cc (by rw [setXs_cell, hxx]; exact hcc)
          have e1 : (st' + i) * (SO.arr (A0.setXs zs)).sz + j = st' * A0.sz + (i * A0.sz + j) := by
            show (st' + i) * A0.sz + j = _
            rw [Nat.add_mul]; omega
          rw [e1] at hv
          exact ⟨v, by rw [hv]; rfl, hvr⟩
        have hflat1 : ∀ v ∈ flat w ρ k' (st' * A0.sz) (n * A0.sz), (∀ xs, v ≠ .agg xs) ∧ (∀ xs, v ≠ .tuple xs) := by
          intro v hv
          obtain ⟨j, hj⟩ := List.mem_iff_getElem?.1 hv
          have hlt : j < n * A0.sz := by have := (List.getElem?_eq_some_iff.1 hj).1; rwa [flat_length] at this
          have hsz : 0 < A0.sz := by omega
          have hi : j / A0.sz < n := (Nat.div_lt_iff_lt_mul hsz).2 hlt
          have hjm : j % A0.sz < A0.sz := Nat.mod_lt _ hsz
          have hxx : ((zs.drop st').take n)[j / A0.sz]? = some (((zs.drop st').take n)[j / A0.sz]'(by omega)) := List.getElem?_eq_getElem _
          have hcl : j % A0.sz < (A0.enc (((zs.drop st').take n)[j / A0.sz]'(by omega))).length := by rw [A0.hl]; exact hjm
          obtain ⟨v', hv', hvr⟩ := hflat _ _ _ _ hxx (List.getElem?_eq_getElem hcl)
          have : j / A0.sz * A0.sz + j % A0.sz = j := by rw [Nat.mul_comm]; exact Nat.div_add_mod _ _
          rw [this, hj] at hv'
          cases hv'
          exact ⟨(one_cells (allOne_mem (hone _) (List.getElem_mem hcl)) hvr).2.1, (one_cells (allOne_mem (hone _) (List.getElem_mem hcl)) hvr).2.2⟩
        obtain ⟨hst, hsat⟩ := write_arr (ys := (zs.drop st').take n) (vs := flat w ρ k' (st' * A0.sz) (n * A0.sz)) (st := st) hs hl1 (by rw [hys]; omega) (by rw [flat_length, hys]) hflat hflat1
        have hrun : (execOp a.eval o).run cx.P w = .ok (.value (.int .i64 n)) (setCells w (ρ k).blk (st * A0.sz) (flat w ρ k' (st' * A0.sz) (n * A0.sz))) := by
          have hrun0 := run_builtin (P := cx.P) ho hc a w
          rw [hca, hct] at hrun0
          rw [hrun0]
          have hmin : Nat.min len' len = n := by rw [← hn, Nat.min_comm]
          have hsize := run_sizeOf hB hti w
          have hfc : (Builtin.firstCells A0.sz n (.slice ad' len' ((ρ k').cap - st'))).run cx.P w = .ok (flat w ρ k' (st' * A0.sz) (n * A0.sz)).toArray w := by
            rcases Nat.eq_zero_or_pos n with h0 | hpos
            · subst h0
              cases ad' with
              | none => simp [Builtin.firstCells, flat]
              | some b =>
                have := run_loadCells (P := cx.P) (w := w) (a := b) (vs := []) (by simp)
                simpa [Builtin.firstCells, flat] using this
            · have hb := had' (by omega)
              rw [hb]
              simp only [Builtin.firstCells]
              have := run_loadCells (P := cx.P) (w := w) (a := adr ρ k' (st' * sz')) (vs := flat w ρ k' (st' * A0.sz) (n * A0.sz)) (fun j v hj => by
                have hlt : j < n * A0.sz := by have := (List.getElem?_eq_some_iff.1 hj).1; rwa [flat_length] at this
                rw [flat_get hlt] at hj
                rw [adr_add, ← hb2, hb4]
                have hsz : 0 < A0.sz := by omega
                obtain ⟨u, xx, cc, q1, q2, q3, q4⟩ := arr_cell hs2 (n := st' * A0.sz + j) (by
                  show st' * A0.sz + j < zs.length * A0.sz
                  have := Nat.mul_le_mul_right A0.sz (show st' + n ≤ zs.length by omega)
                  rw [Nat.add_mul] at this; omega)
                rw [q3] at hj ⊢
                exact hj)
              rw [flat_length] at this
              exact this
          simp only [List.map_toArray, List.map_cons, List.map_nil, builtin, Builtin.copy_, hxv, hyv]
          have hsz2 : ti.size = A0.sz := by omega
          rcases Nat.eq_zero_or_pos n with h0 | hpos
          · subst h0
            simp only [Nat.zero_mul, flat, setCells] at hfc ⊢
            cases ad with
            | none => simp [run_underlying (und_slice hB ht), Builtin.lenOf, hmin, hsize, hsz2, hfc, goInt]
            | some b => simp [run_underlying (und_slice hB ht), Builtin.lenOf, hmin, hsize, hsz2, hfc, goInt, storeCells]
          · rw [had (by omega)]
            have hst' := hst cx.P
            simp [run_underlying (und_slice hB ht), Builtin.lenOf, hmin, hsize, hsz2, hfc, goInt, hst', hb4]
        refine wpIn_of_value (by simp [ho]) hrun (hKK ρ _ _ ?_ (fun _ _ => rfl))
        exact hsat.putO hdst rfl (below_iv _ _ _)
      · exact h.elim
    · exact h.elim
  · exact h.elim

end Sx
end Go

namespace Go.Proofs
open Go.Sx

theorem wrapU {z : Int} (h : 0 ≤ z ∧ z < 18446744073709551616) : IntKind.u64.wrap z = z := by
  simp only [IntKind.wrap, IntKind.bits, IntKind.signed]
  simp
  omega

theorem band32 {n : Int} (h : 0 ≤ n ∧ n < 4294967296) : bitsV .and .u64 n 4294967295 = some n := by
  obtain ⟨m, rfl⟩ := Int.eq_ofNat_of_zero_le h.1
  have hm : m < 4294967296 := by omega
  have key : ∀ x y : BitVec 64, x.toNat = m → y.toNat = 2 ^ 32 - 1 → IntKind.u64.wrap ((x &&& y).toNat : Int) = m := by
    intro x y h1 h2
    rw [BitVec.toNat_and, h1, h2, Nat.and_two_pow_sub_one_eq_mod, Nat.mod_eq_of_lt (by omega)]
    exact wrapU ⟨by omega, by omega⟩
  have e1 : (BitVec.ofInt 64 (m : Int)).toNat = m := by
    rw [BitVec.toNat_ofInt]
    have : ((m : Int) % (2 ^ 64 : Nat)) = m := by omega
    rw [this]; simp
  have e2 : (BitVec.ofInt 64 4294967295).toNat = 2 ^ 32 - 1 := by decide
  exact congrArg some (key _ _ e1 e2)

theorem shr32 {n : Int} (h : 0 ≤ n ∧ n < 4294967296) : n.fdiv (2 ^ (min (32 : Int).toNat IntKind.u64.bits)) = 0 := by
  have e : (2 ^ (min (32 : Int).toNat IntKind.u64.bits) : Int) = 4294967296 := by decide
  rw [e, Int.fdiv_eq_ediv_of_nonneg _ (by omega)]
  omega

theorem mul64_t (n : Int) (h : 0 ≤ n ∧ n < 4294967296) : Triple Tryz.prog 323 [iv .u64 1, iv .u64 n] [] 0 (.tup [.inl (.v (.int .u64 0)), .inl (.v (.int .u64 n))]) [] := by
  refine triple_of tB_ok Tryz.func323 rfl Tryz.call323 rfl ?_
  intro ρ w hH
  conv=>whnf
  refine ⟨1, rfl, ?_⟩
  conv=>whnf
  refine ⟨by decide, 0, rfl, ?_⟩
  conv=>whnf
  refine ⟨n, band32 h, ?_⟩
  conv=>whnf
  refine ⟨by decide, 0, shr32 h, ?_⟩
  conv=>whnf
  refine ⟨n, by rw [wrapU ⟨by omega, by omega⟩]; omega, ?_⟩
  conv=>whnf
  refine ⟨0, by rw [wrapU ⟨by omega, by omega⟩]; omega, ?_⟩
  conv=>whnf
  refine ⟨by decide, 0, shr32 h, ?_⟩
  conv=>whnf
  refine ⟨0, rfl, ?_⟩
  conv=>whnf
  refine ⟨0, band32 (by omega), ?_⟩
  conv=>whnf
  refine ⟨by decide, 0, shr32 (by omega), ?_⟩
  conv=>whnf
  refine ⟨0, rfl, ?_⟩
  conv=>whnf
  refine ⟨0, rfl, ?_⟩
  conv=>whnf
  refine ⟨0, rfl, ?_⟩
  conv=>whnf
  refine ⟨0, rfl, ?_⟩
  conv=>whnf
  refine ⟨by decide, 0, shr32 (by omega), ?_⟩
  conv=>whnf
  refine ⟨0, rfl, ?_⟩
  conv=>whnf
  refine ⟨n, by rw [wrapU ⟨by omega, by omega⟩]; omega, ?_⟩
  conv=>whnf
  repeat' (first | exact trivial | exact rfl | refine And.intro ?_ ?_ | ((conv=>whnf); first | exact trivial | exact rfl | refine And.intro ?_ ?_ | omega))

theorem mul_t (n : Int) (h : 0 ≤ n ∧ n < 4294967296) : Triple Tryz.prog 263 [iv .u64 1, iv .u64 n] [] 0 (.tup [.inl (.v (.int .u64 0)), .inl (.v (.int .u64 n))]) [] := by
  refine triple_of tB_ok Tryz.func263 rfl Tryz.call263 rfl ?_
  intro ρ w hH
  conv=>whnf
  refine call_step (mul64_t n h) rfl rfl ?_
  conv=>whnf
  refine ⟨?_, ?_, ?_⟩
  iterate 2 · repeat' (first | exact trivial | exact rfl | refine And.intro ?_ ?_ | ((conv=>whnf); first | exact trivial | exact rfl | refine And.intro ?_ ?_ | omega))
  conv=>whnf
  repeat' (first | exact trivial | exact rfl | refine And.intro ?_ ?_ | ((conv=>whnf); first | exact trivial | exact rfl | refine And.intro ?_ ?_ | omega))

theorem spl_rep {n k m : Nat} {v : Int} (h : k + m ≤ n) :
    spl (List.replicate k v ++ List.replicate (n - k) 0) k (List.replicate m v) = List.replicate (k + m) v ++ List.replicate (n - (k + m)) 0 := by
  unfold spl
  have e1 : (List.replicate k v ++ List.replicate (n - k) 0).take k = List.replicate k v := List.take_left' (by simp)
  have e2 : (List.replicate k v ++ List.replicate (n - k) 0).drop (k + (List.replicate m v).length) = List.replicate (n - (k + m)) 0 := by
    rw [List.drop_append]
    simp
    omega
  rw [e1, e2, ← List.append_assoc, List.replicate_append_replicate]

theorem rep_copy {n k : Nat} {v : Int} (h : k ≤ n) : spl (List.replicate k v ++ List.replicate (n - k) 0) k (List.take (min (n - k) k) (List.replicate k v ++ List.replicate (n - k) 0)) =
    List.replicate (k + min (n - k) k) v ++ List.replicate (n - (k + min (n - k) k)) 0 := by
  rw [← @spl_rep n k (min (n - k) k) v (by omega)]
  congr 1
  rw [List.take_append_of_le_length (by simp; omega), List.take_replicate]
  congr 1; omega

theorem repeat_t (v : Int) (n : Nat) (h : n ≤ 1000000) : Triple Tryz.prog 245 [.c (.s 0 0 1 1), iv .i64 n] [(0, false, .arr (aInt [v]))] 1 (.c (.s 1 0 n 1)) [(1, true, .arr (aInt (List.replicate n v)))] := by
  refine triple_of tB_ok Tryz.func245 rfl Tryz.call245 rfl ?_
  intro ρ w hH
  conv=>whnf
  refine ⟨fun hc => ?_, fun hc => ?_⟩
  · exact absurd hc (by simp <;> omega)
  conv=>whnf
  refine ⟨1, rfl, ?_⟩
  conv=>whnf
  refine ⟨n, wrapU ⟨by omega, by omega⟩, ?_⟩
  conv=>whnf
  refine call_step (mul_t n (by omega)) rfl rfl ?_
  conv=>whnf
  refine ⟨?_, ?_, ?_⟩
  iterate 2 · repeat' (first | exact trivial | exact rfl | refine And.intro ?_ ?_ | ((conv=>whnf); first | exact trivial | exact rfl | refine And.intro ?_ ?_ | omega))
  conv=>whnf
  refine ⟨fun hc => ?_, fun hc => ?_⟩
  · exact absurd hc (by simp <;> omega)
  conv=>whnf
  refine ⟨fun hc => ?_, fun hc => ?_⟩
  · exact absurd hc (by simp <;> omega)
  conv=>whnf
  refine ⟨_, wrapId ⟨by omega, by omega⟩, ?_⟩
  refine mks_step tB_ok (aInt (List.replicate n 0)) rfl rfl ?_
  conv=>whnf
  refine ⟨n, ⟨List.length_replicate, rfl, rfl, by show n * 9 ≤ _; omega, fun x hx => ?_⟩, ?_⟩
  · obtain ⟨_, rfl⟩ := List.mem_replicate.1 hx
    conv=>whnf
    repeat' (first | exact trivial | exact rfl | refine And.intro ?_ ?_ | ((conv=>whnf); first | exact trivial | exact rfl | refine And.intro ?_ ?_ | omega))
  conv=>whnf
  refine copy_step tB_ok (aInt (List.replicate n 0)) [v] (fun _ => rfl) rfl rfl rfl rfl ?_
  conv=>whnf
  refine ⟨⟨rfl, rfl, by show 0 + n ≤ (List.replicate n (0 : Int)).length; simp, by show 0 + 1 ≤ 1; omega⟩, min n 1, rfl, ?_⟩
  conv=>whnf
  refine loop_step tB_ok (G := Nat) 0 [] (fun k => [(8, iv .i64 k)]) (fun k => [(1, true, .arr (aInt (List.replicate k v ++ List.replicate (n - k) 0)))])
    (fun k => k ≤ n ∧ (0 < n → 0 < k)) (fun k => n - k) ?_
  conv=>whnf
  refine ⟨⟨min n 1, ⟨by omega, by omega⟩, ?_⟩, ?_⟩
  · conv=>whnf
    repeat' (first | exact trivial | exact rfl | refine And.intro ?_ ?_ | ((conv=>whnf); first | exact trivial | exact rfl | refine And.intro ?_ ?_ | omega))
    refine congrArg aInt ?_
    rcases Nat.eq_zero_or_pos n with rfl | hp
    · rfl
    · have := @spl_rep n 0 1 v (by omega)
      rw [show min n 1 = 1 from by omega]
      exact this
  · intro k hk ρ1 t1 hρ1
    conv=>whnf
    refine ⟨fun hc => ?_, fun hc => ?_⟩
    · have hc : k < n := by simpa using hc
      conv=>whnf
      refine ⟨Nat.le_refl _, k, rfl, by omega, ?_⟩
      conv=>whnf
      refine ⟨k, rfl, by omega, by omega, ?_⟩
      conv=>whnf
      refine copy_step tB_ok (aInt (List.replicate k v ++ List.replicate (n - k) 0)) (List.replicate k v ++ List.replicate (n - k) 0) (fun _ => rfl) rfl rfl rfl rfl ?_
      conv=>whnf
      refine ⟨⟨rfl, rfl, ?_, ?_⟩, min (n - k) k, ?_, ?_⟩
      · show addN 0 k + subN n k ≤ (List.replicate k v ++ List.replicate (n - k) (0 : Int)).length
        rw [addN_eq, subN_eq, List.length_append, List.length_replicate, List.length_replicate]; omega
      · show addN 0 0 + subN k 0 ≤ (List.replicate k v ++ List.replicate (n - k) (0 : Int)).length
        rw [addN_eq, subN_eq, List.length_append, List.length_replicate, List.length_replicate]; omega
      · rw [subN_eq, subN_eq]; rfl
      conv=>whnf
      refine ⟨((k + min (n - k) k : Nat) : Int), ?_, ?_⟩
      · rw [wrapId ⟨by omega, by omega⟩]; omega
      conv=>whnf
      refine ⟨k + min (n - k) k, ⟨by omega, by omega⟩, by show n - (k + min (n - k) k) < n - k; omega, ?_⟩
      conv=>whnf
      refine ⟨rfl, ?_⟩
      conv=>whnf
      repeat' (first | exact trivial | exact rfl | refine And.intro ?_ ?_ | ((conv=>whnf); first | exact trivial | exact rfl | refine And.intro ?_ ?_ | omega))
      refine congrArg aInt ?_
      exact rep_copy hk.1
    · conv=>whnf
      have hkn : k = n := by simp at hc; omega
      repeat' (first | exact trivial | exact rfl | refine And.intro ?_ ?_ | ((conv=>whnf); first | exact trivial | exact rfl | refine And.intro ?_ ?_ | omega))
      refine congrArg aInt ?_
      rw [hkn]; simp

end Go.Proofs

namespace Go.Proofs
open Go.Sx

abbrev treeSV (n a b c : Nat) : List SC := [.s a 0 n 1, .s b 0 n 1, .s c 0 n 1]

abbrev graphH (n : Nat) (arcs : List Lnk) : Heap := [(0, false, .cells [.v (.int .i64 n), .s 1 0 arcs.length 4]), (1, false, .arr (aLink arcs))]

theorem place_t (n : Nat) (arcs : List Lnk) (p : Int) : Triple Tryz.prog 149 [.c (.p 0 0 0 0), iv .i64 p] (graphH n arcs) 2 (iv .i64 (plc n p)) [] := by
  refine triple_of tB_ok Tryz.func149 rfl Tryz.call149 rfl ?_
  intro ρ w hH
  conv=>whnf
  refine ⟨fun hc => ?_, fun hc => ?_⟩
  · have hp : p < 0 := by simpa using hc
    conv=>whnf
    refine ⟨?_, trivial⟩
    show (n : Int) = (plc n p : Nat)
    simp [plc, hp]
  · have hp : ¬ p < 0 := by simpa using hc
    conv=>whnf
    refine ⟨?_, trivial⟩
    show p = (plc n p : Nat)
    simp [plc, hp]; omega

theorem worth_t (n : Nat) (arcs : List Lnk) (i : Nat) (h : i < arcs.length) : Triple Tryz.prog 208 [iv .i64 i, .c (.p 2 0 0 0)] ((2, false, .cells [.p 0 0 0 0]) :: graphH n arcs) 3 (.tup [.inl (.v (.int .i64 arcs[i].m)), .inl (.b true)]) [] := by
  refine triple_of tB_ok Tryz.func208 rfl Tryz.call208 rfl ?_
  intro ρ w hH
  conv=>whnf
  refine ⟨i, rfl, h, h, ?_⟩
  conv=>whnf
  repeat' (first | exact trivial | exact rfl | refine And.intro ?_ ?_ | ((conv=>whnf); first | exact trivial | exact rfl | refine And.intro ?_ ?_ | omega))

theorem back_t (i : Nat) : Triple Tryz.prog 209 [iv .i64 i] [] 0 (.c (.b false)) [] := by
  refine triple_of tB_ok Tryz.func209 rfl Tryz.call209 rfl ?_
  intro ρ w hH
  conv=>whnf
  repeat' (first | exact trivial | exact rfl | refine And.intro ?_ ?_ | ((conv=>whnf); first | exact trivial | exact rfl | refine And.intro ?_ ?_ | omega))

theorem relax_t (n : Nat) (B : Int) (T : Tr) (i : Int) (a b : Nat) (x : Int) (hT : Tok n B T) (hB : B ≤ 4611686018427387904) (ha : a ≤ n) (hb : b ≤ n) (hx : -33554432 ≤ x ∧ x ≤ 33554432) :
    Triple Tryz.prog 246 [iv .i64 i, iv .i64 a, iv .i64 b, iv .i64 x, .c (.p 0 0 0 0), .c (.p 1 0 0 0)]
      [(0, false, .cells (treeSV (n + 1) 2 3 4)), (1, true, .cells [.v (.int .i64 T.ch)]), (2, true, .arr (aInt T.sum)), (3, true, .arr (aBool T.there)), (4, true, .arr (aInt T.last))] 5 (.tup [])
      [(1, true, .cells [.v (.int .i64 (relax i a b x T).ch)]), (2, true, .arr (aInt (relax i a b x T).sum)), (3, true, .arr (aBool (relax i a b x T).there)), (4, true, .arr (aInt (relax i a b x T).last))] := by
  refine triple_of tB_ok Tryz.func246 rfl Tryz.call246 rfl ?_
  intro ρ w hH
  conv=>whnf
  have h1 : a < T.there.length := by rw [hT.lt]; omega
  have h2 : b < T.there.length := by rw [hT.lt]; omega
  have h3 : a < T.sum.length := by rw [hT.ls]; omega
  have h4 : b < T.sum.length := by rw [hT.ls]; omega
  have h5 : b < T.last.length := by rw [hT.ll]; omega
  have ha1 : a < n + 1 := by omega
  have hb1 : b < n + 1 := by omega
  have e1 : T.there.getD a false = T.there[a] := by rw [List.getD_eq_getElem?_getD, List.getElem?_eq_getElem h1]; rfl
  have e2 : T.there.getD b false = T.there[b] := by rw [List.getD_eq_getElem?_getD, List.getElem?_eq_getElem h2]; rfl
  have e3 : T.sum.getD a 0 = T.sum[a] := by rw [List.getD_eq_getElem?_getD, List.getElem?_eq_getElem h3]; rfl
  have e4 : T.sum.getD b 0 = T.sum[b] := by rw [List.getD_eq_getElem?_getD, List.getElem?_eq_getElem h4]; rfl
  have b3 := hT.bd _ (List.getElem_mem h3)
  have b4 := hT.bd _ (List.getElem_mem h4)
  refine ⟨a, rfl, ha1, h1, ?_⟩
  conv=>whnf
  refine ⟨fun hc => ?_, fun hc => ?_⟩
  · have hca : T.there[a] = true := hc
    conv=>whnf
    refine ⟨b, rfl, hb1, h2, ?_⟩
    conv=>whnf
    refine ⟨fun hc => ?_, fun hc => ?_⟩
    · have hc : (!T.there[b]) = true := hc
      conv=>whnf
      refine ⟨a, rfl, ha1, h3, ?_⟩
      conv=>whnf
      refine ⟨T.sum[a] + x, wrapId (z := T.sum[a] + x) ⟨by omega, by omega⟩, ?_⟩
      conv=>whnf
      refine ⟨b, rfl, hb1, h4, T.sum[a] + x, rfl, ?_⟩
      conv=>whnf
      refine ⟨b, rfl, hb1, h2, true, rfl, ?_⟩
      conv=>whnf
      refine ⟨b, rfl, hb1, h5, i, rfl, ?_⟩
      conv=>whnf
      have er : relax i a b x T = ⟨T.sum.set b (T.sum[a] + x), T.there.set b true, T.last.set b i, b⟩ := by
        have hc' : T.there[b] = false := by cases hq : T.there[b] <;> simp_all
        simp only [relax, e1, e2, e3, hc', hca]; rfl
      rw [er]
      repeat' (first | exact trivial | exact rfl | refine And.intro ?_ ?_ | ((conv=>whnf); first | exact trivial | exact rfl | refine And.intro ?_ ?_ | omega))
    · have hc : (!T.there[b]) = false := hc
      have hc' : T.there[b] = true := by cases hq : T.there[b] <;> simp_all
      conv=>whnf
      refine ⟨a, rfl, ha1, h3, ?_⟩
      conv=>whnf
      refine ⟨T.sum[a] + x, wrapId (z := T.sum[a] + x) ⟨by omega, by omega⟩, ?_⟩
      conv=>whnf
      refine ⟨b, rfl, hb1, h4, ?_⟩
      conv=>whnf
      refine ⟨fun hc => ?_, fun hc => ?_⟩
      · have hc : T.sum[a] + x < T.sum[b] := by simpa using (show decide (T.sum[a] + x < T.sum[b]) = true from hc)
        conv=>whnf
        refine ⟨a, rfl, ha1, h3, ?_⟩
        conv=>whnf
        refine ⟨T.sum[a] + x, wrapId (z := T.sum[a] + x) ⟨by omega, by omega⟩, ?_⟩
        conv=>whnf
        refine ⟨b, rfl, hb1, h4, T.sum[a] + x, rfl, ?_⟩
        conv=>whnf
        refine ⟨b, rfl, hb1, h2, true, rfl, ?_⟩
        conv=>whnf
        refine ⟨b, rfl, hb1, h5, i, rfl, ?_⟩
        conv=>whnf
        have er : relax i a b x T = ⟨T.sum.set b (T.sum[a] + x), T.there.set b true, T.last.set b i, b⟩ := by
          simp only [relax, e1, e2, e3, e4, hc', hca, hc, decide_true]; rfl
        rw [er]
        repeat' (first | exact trivial | exact rfl | refine And.intro ?_ ?_ | ((conv=>whnf); first | exact trivial | exact rfl | refine And.intro ?_ ?_ | omega))
      · have hc : ¬ T.sum[a] + x < T.sum[b] := by simpa using (show decide (T.sum[a] + x < T.sum[b]) = false from hc)
        conv=>whnf
        have er : relax i a b x T = T := by
          simp only [relax, e1, e2, e3, e4, hc', hca, hc, decide_false]; rfl
        rw [er]
        repeat' (first | exact trivial | exact rfl | refine And.intro ?_ ?_ | ((conv=>whnf); first | exact trivial | exact rfl | refine And.intro ?_ ?_ | omega))
  · have hc : T.there[a] = false := hc
    conv=>whnf
    have er : relax i a b x T = T := by simp only [relax, e1, hc]; rfl
    rw [er]
    repeat' (first | exact trivial | exact rfl | refine And.intro ?_ ?_ | ((conv=>whnf); first | exact trivial | exact rfl | refine And.intro ?_ ?_ | omega))

end Go.Proofs

namespace Go.Proofs
open Go.Sx

def noRev : Nat → Bool := fun _ => false
theorem shortplain_t (n : Nat) (arcs : List Lnk) (src : Nat) (hn : n ≤ 1000) (ha : arcs.length ≤ 10000) (hok : ∀ l ∈ arcs, ArcOK n l) (hs : src ≤ n) :
    Triple Tryz.prog 207 [.c (.p 0 0 0 0), iv .i64 src, .c (.f 208 [2]), .c (.f 209 [])] ((2, false, .cells [.p 0 0 0 0]) :: graphH n arcs) 3
      (.tup [.inr (treeSV (n + 1) 3 4 5), .inl (.v (.int .i64 (shortF n noRev arcs src).2))])
      [(3, true, .arr (aInt (shortF n noRev arcs src).1.sum)), (4, true, .arr (aBool (shortF n noRev arcs src).1.there)), (5, true, .arr (aInt (shortF n noRev arcs src).1.last))] := by
  refine triple_of tB_ok Tryz.func207 rfl Tryz.call207 rfl ?_
  intro ρ w hH
  conv=>whnf
  refine ⟨(n : Int) + 1, wrapId (z := (n : Int) + 1) ⟨by omega, by omega⟩, ?_⟩
  conv=>whnf
  refine mks_step tB_ok (aInt (List.replicate (n + 1) 0)) rfl rfl ?_
  conv=>whnf
  refine ⟨n + 1, ⟨List.length_replicate, by simp, by simp, by show (n + 1) * 9 ≤ _; omega, fun x hx => ?_⟩, ?_⟩
  · obtain ⟨_, rfl⟩ := List.mem_replicate.1 hx
    conv=>whnf
    repeat' (first | exact trivial | exact rfl | refine And.intro ?_ ?_ | ((conv=>whnf); first | exact trivial | exact rfl | refine And.intro ?_ ?_ | omega))
  conv=>whnf
  refine mks_step tB_ok (aBool (List.replicate (n + 1) false)) rfl rfl ?_
  conv=>whnf
  refine ⟨n + 1, ⟨List.length_replicate, by simp, by simp, by show (n + 1) * 2 ≤ _; omega, fun x hx => ?_⟩, ?_⟩
  · obtain ⟨_, rfl⟩ := List.mem_replicate.1 hx
    conv=>whnf
    repeat' (first | exact trivial | exact rfl | refine And.intro ?_ ?_ | ((conv=>whnf); first | exact trivial | exact rfl | refine And.intro ?_ ?_ | omega))
  conv=>whnf
  refine bs_step tB_ok (aInt [-1]) rfl rfl ?_
  conv=>whnf
  refine ⟨⟨rfl, ⟨rfl, trivial⟩⟩, ?_⟩
  conv=>whnf
  refine call_step (repeat_t (-1) (n + 1) (by omega)) rfl rfl ?_
  conv=>whnf
  refine ⟨?_, ?_, ?_⟩
  iterate 2 · repeat' (first | exact trivial | exact rfl | refine And.intro ?_ ?_ | ((conv=>whnf); first | exact trivial | exact rfl | refine And.intro ?_ ?_ | omega))
  conv=>whnf
  refine ⟨src, rfl, by omega, by show src < (List.replicate (n + 1) false).length; rw [List.length_replicate]; omega, true, rfl, ?_⟩
  conv=>whnf
  refine loop_step tB_ok (G := Nat × Tr) 0 [] (fun g => [(12, iv .i64 g.1)]) (fun g => [(4, true, .arr (aInt g.2.sum)), (5, true, .arr (aBool g.2.there)), (7, true, .arr (aInt g.2.last))])
    (fun g => g.1 ≤ n + 2 ∧ Tok n (g.1 * (67108864 * arcs.length)) g.2 ∧ shortF n noRev arcs src = roundsF n noRev arcs (n + 2 - g.1) g.2) (fun g => n + 2 - g.1) ?_
  conv=>whnf
  refine ⟨⟨(0, startF n src), ⟨by omega, (Tok.start n src).mono (by simp), rfl⟩, ?_⟩, ?_⟩
  · conv=>whnf
    repeat' (first | exact trivial | exact rfl | refine And.intro ?_ ?_ | ((conv=>whnf); first | exact trivial | exact rfl | refine And.intro ?_ ?_ | omega))
  intro g hg ρ1 t1 hρ1
  obtain ⟨r, T⟩ := g
  obtain ⟨hr, hT, hF⟩ := hg
  conv=>whnf
  have hbd : ((r : Int) * (67108864 * arcs.length)) ≤ 1002 * (67108864 * 10000) := by
    have h1 : (r : Int) ≤ 1002 := by omega
    have h2 : (67108864 * (arcs.length : Int)) ≤ 67108864 * 10000 := by omega
    exact Int.mul_le_mul h1 h2 (by omega) (by omega)
  generalize hB : ((r : Int) * (67108864 * arcs.length)) = B at *
  have hTi : ∀ i, i ≤ arcs.length → Tok n (B + 67108864 * i) (passF n noRev 0 (arcs.take i) { T with ch := -1 }) := fun i hi => by
    have := Tok.pass (rev := noRev) (xs := arcs.take i) (k := 0) (fun l hl => hok l (List.mem_of_mem_take hl)) (hT.ch (-1))
    rw [List.length_take, Nat.min_eq_left hi] at this
    exact this
  refine loop_step tB_ok (G := Nat) 0 [] (fun i => [(44, iv .i64 i)]) (fun i => [(9, true, .cells [.v (.int .i64 (passF n noRev 0 (arcs.take i) { T with ch := -1 }).ch)]),
      (4, true, .arr (aInt (passF n noRev 0 (arcs.take i) { T with ch := -1 }).sum)), (5, true, .arr (aBool (passF n noRev 0 (arcs.take i) { T with ch := -1 }).there)), (7, true, .arr (aInt (passF n noRev 0 (arcs.take i) { T with ch := -1 }).last))])
    (fun i => i ≤ arcs.length) (fun i => arcs.length - i) ?_
  conv=>whnf
  refine ⟨⟨0, Nat.zero_le _, ?_⟩, ?_⟩
  · conv=>whnf
    repeat' (first | exact trivial | exact rfl | refine And.intro ?_ ?_ | ((conv=>whnf); first | exact trivial | exact rfl | refine And.intro ?_ ?_ | omega))
  intro i hi ρ2 t2 hρ2
  conv=>whnf
  refine ⟨fun hc => ?_, fun hc => ?_⟩
  · have hc : i < arcs.length := by simpa using hc
    have hTn := hTi i hi
    have hoki := hok arcs[i] (List.getElem_mem hc)
    obtain ⟨o1, o2, o3⟩ := hoki
    conv=>whnf
    refine ⟨i, rfl, hc, hc, ?_⟩
    conv=>whnf
    refine call_step (worth_t n arcs i hc) rfl rfl ?_
    conv=>whnf
    refine ⟨?_, ?_, ?_⟩
    iterate 2 · repeat' (first | exact trivial | exact rfl | refine And.intro ?_ ?_ | ((conv=>whnf); first | exact trivial | exact rfl | refine And.intro ?_ ?_ | omega))
    conv=>whnf
    refine ⟨2 * (i : Int), wrapId (z := 2 * (i : Int)) ⟨by omega, by omega⟩, ?_⟩
    conv=>whnf
    refine call_step (place_t n arcs arcs[i].f) rfl rfl ?_
    conv=>whnf
    refine ⟨?_, ?_, ?_⟩
    iterate 2 · repeat' (first | exact trivial | exact rfl | refine And.intro ?_ ?_ | ((conv=>whnf); first | exact trivial | exact rfl | refine And.intro ?_ ?_ | omega))
    conv=>whnf
    refine call_step (place_t n arcs arcs[i].t) rfl rfl ?_
    conv=>whnf
    refine ⟨?_, ?_, ?_⟩
    iterate 2 · repeat' (first | exact trivial | exact rfl | refine And.intro ?_ ?_ | ((conv=>whnf); first | exact trivial | exact rfl | refine And.intro ?_ ?_ | omega))
    conv=>whnf
    refine call_step (relax_t n _ (passF n noRev 0 (arcs.take i) { T with ch := -1 }) (2 * i) (plc n arcs[i].f) (plc n arcs[i].t) arcs[i].m hTn (by omega) (plc_le o1.2) (plc_le o2.2) o3) rfl rfl ?_
    conv=>whnf
    refine ⟨?_, ?_, ?_⟩
    iterate 2 · repeat' (first | exact trivial | exact rfl | refine And.intro ?_ ?_ | ((conv=>whnf); first | exact trivial | exact rfl | refine And.intro ?_ ?_ | omega))
    conv=>whnf
    refine call_step (back_t i) rfl rfl ?_
    conv=>whnf
    refine ⟨?_, ?_, ?_⟩
    iterate 2 · repeat' (first | exact trivial | exact rfl | refine And.intro ?_ ?_ | ((conv=>whnf); first | exact trivial | exact rfl | refine And.intro ?_ ?_ | omega))
    conv=>whnf
    refine ⟨_, wrapId ⟨by omega, by omega⟩, ?_⟩
    refine ⟨i + 1, hc, by show arcs.length - (i + 1) < arcs.length - i; omega, ?_⟩
    conv=>whnf
    refine ⟨rfl, ?_⟩
    conv=>whnf
    have e : passF n noRev 0 (arcs.take (i + 1)) { T with ch := -1 } = relax (2 * i) (plc n arcs[i].f) (plc n arcs[i].t) arcs[i].m (passF n noRev 0 (arcs.take i) { T with ch := -1 }) := by
      rw [passF_snoc n noRev arcs 0 i _ hc]
      simp only [arcF, noRev, Nat.zero_add]; rfl
    repeat' (first | exact trivial | exact rfl | refine And.intro ?_ ?_ | ((conv=>whnf); first | exact trivial | exact rfl | refine And.intro ?_ ?_ | omega))
    all_goals (first | exact congrArg Tr.ch e.symm | exact congrArg (fun T : Tr => aInt T.sum) e.symm | exact congrArg (fun T : Tr => aBool T.there) e.symm | exact congrArg (fun T : Tr => aInt T.last) e.symm)
  · have hi : i = arcs.length := by simp at hc; omega
    subst hi
    rw [List.take_length]
    have hTn := hTi arcs.length (Nat.le_refl _)
    rw [List.take_length] at hTn
    generalize hT' : passF n noRev 0 arcs { T with ch := -1 } = T' at *
    conv=>whnf
    refine ⟨fun hc => ?_, fun hc => ?_⟩
    · have hc : T'.ch = -1 := by simpa using hc
      have eF : shortF n noRev arcs src = (T', -1) := by rw [hF, roundsF_done (by rw [hT']; exact hc), hT']
      rw [eF]
      conv=>whnf
      repeat' (first | exact trivial | exact rfl | refine And.intro ?_ ?_ | ((conv=>whnf); first | exact trivial | exact rfl | refine And.intro ?_ ?_ | omega))
    · have hne : T'.ch ≠ -1 := by simpa using hc
      conv=>whnf
      refine ⟨fun hc => ?_, fun hc => ?_⟩
      · have hr2 : r = n + 2 := by simp at hc; omega
        have eF : shortF n noRev arcs src = (T', T'.ch) := by
          rw [hF, hr2, Nat.sub_self]
          simp only [roundsF, hT']
        rw [eF]
        conv=>whnf
        repeat' (first | exact trivial | exact rfl | refine And.intro ?_ ?_ | ((conv=>whnf); first | exact trivial | exact rfl | refine And.intro ?_ ?_ | omega))
      · have hr2 : r < n + 2 := by simp at hc; omega
        conv=>whnf
        refine ⟨_, wrapId ⟨by omega, by omega⟩, ?_⟩
        refine ⟨(r + 1, T'), ⟨hr2, ?_, ?_⟩, by show n + 2 - (r + 1) < n + 2 - r; omega, ?_⟩
        · refine hTn.mono ?_
          rw [← hB]
          show _ ≤ ((r + 1 : Nat) : Int) * (67108864 * arcs.length)
          rw [Int.natCast_succ, Int.add_mul]; omega
        · rw [hF, show n + 2 - r = (n + 2 - (r + 1)) + 1 from by omega, roundsF_next (by rw [hT']; exact hne), hT']
        conv=>whnf
        refine ⟨rfl, ?_⟩
        conv=>whnf
        repeat' (first | exact trivial | exact rfl | refine And.intro ?_ ?_ | ((conv=>whnf); first | exact trivial | exact rfl | refine And.intro ?_ ?_ | omega))
theorem plain_t (n : Nat) (arcs : List Lnk) (src : Nat) (hn : n ≤ 1000) (ha : arcs.length ≤ 10000) (hok : ∀ l ∈ arcs, ArcOK n l) (hs : src ≤ n) :
    Triple Tryz.prog 148 [.c (.p 0 0 0 0), iv .i64 src] (graphH n arcs) 2
      (.tup [.inr (treeSV (n + 1) 2 3 4), .inl (.v (.int .i64 (shortF n noRev arcs src).2))])
      [(2, true, .arr (aInt (shortF n noRev arcs src).1.sum)), (3, true, .arr (aBool (shortF n noRev arcs src).1.there)), (4, true, .arr (aInt (shortF n noRev arcs src).1.last))] := by
  refine triple_of tB_ok Tryz.func148 rfl Tryz.call148 rfl ?_
  intro ρ w hH
  conv=>whnf
  refine call_step (shortplain_t n arcs src hn ha hok hs) rfl rfl ?_
  conv=>whnf
  refine ⟨?_, ?_, ?_⟩
  iterate 2 · repeat' (first | exact trivial | exact rfl | refine And.intro ?_ ?_ | ((conv=>whnf); first | exact trivial | exact rfl | refine And.intro ?_ ?_ | omega))
  conv=>whnf
  repeat' (first | exact trivial | exact rfl | refine And.intro ?_ ?_ | ((conv=>whnf); first | exact trivial | exact rfl | refine And.intro ?_ ?_ | omega))

def mostF (n : Nat) (arcs : List Lnk) (a b : Int) : Int := (shortF n noRev arcs (plc n a)).1.sum.getD (plc n b) 0

theorem shortF_len (n : Nat) (rev : Nat → Bool) (arcs : List Lnk) (src : Nat) (hok : ∀ l ∈ arcs, ArcOK n l) : (shortF n rev arcs src).1.sum.length = n + 1 ∧ (shortF n rev arcs src).1.there.length = n + 1 ∧ (shortF n rev arcs src).1.last.length = n + 1 := by
  have key : ∀ (k : Nat) (B : Int) (T : Tr), Tok n B T → ∃ C, Tok n C (roundsF n rev arcs k T).1 := by
    intro k
    induction k with
    | zero => intro B T h; exact ⟨_, Tok.pass hok (h.ch (-1))⟩
    | succ k ih =>
      intro B T h
      simp only [roundsF]
      split
      · exact ⟨_, Tok.pass hok (h.ch (-1))⟩
      · exact ih _ _ (Tok.pass hok (h.ch (-1)))
  obtain ⟨C, h⟩ := key (n + 2) 0 _ (Tok.start n src)
  exact ⟨h.ls, h.lt, h.ll⟩

theorem most_t (n : Nat) (arcs : List Lnk) (a b : Int) (hn : n ≤ 1000) (hl : arcs.length ≤ 10000) (hok : ∀ l ∈ arcs, ArcOK n l) (ha : a < n) (hb : b < n) :
    Triple Tryz.prog 161 [.c (.p 0 0 0 0), iv .i64 a, iv .i64 b] (graphH n arcs) 2 (iv .i64 (mostF n arcs a b)) [] := by
  refine triple_of tB_ok Tryz.func161 rfl Tryz.call161 rfl ?_
  intro ρ w hH
  conv=>whnf
  refine call_step (place_t n arcs a) rfl rfl ?_
  conv=>whnf
  refine ⟨?_, ?_, ?_⟩
  iterate 2 · repeat' (first | exact trivial | exact rfl | refine And.intro ?_ ?_ | ((conv=>whnf); first | exact trivial | exact rfl | refine And.intro ?_ ?_ | omega))
  conv=>whnf
  refine call_step (plain_t n arcs (plc n a) hn hl hok (plc_le ha)) rfl rfl ?_
  conv=>whnf
  refine ⟨?_, ?_, ?_⟩
  iterate 2 · repeat' (first | exact trivial | exact rfl | refine And.intro ?_ ?_ | ((conv=>whnf); first | exact trivial | exact rfl | refine And.intro ?_ ?_ | omega))
  conv=>whnf
  refine call_step (place_t n arcs b) rfl rfl ?_
  conv=>whnf
  refine ⟨?_, ?_, ?_⟩
  iterate 2 · repeat' (first | exact trivial | exact rfl | refine And.intro ?_ ?_ | ((conv=>whnf); first | exact trivial | exact rfl | refine And.intro ?_ ?_ | omega))
  conv=>whnf
  have hlen : plc n b < (shortF n noRev arcs (plc n a)).1.sum.length := by rw [(shortF_len n noRev arcs (plc n a) hok).1]; have := plc_le hb; omega
  refine ⟨plc n b, rfl, by have := plc_le hb; omega, hlen, ?_⟩
  conv=>whnf
  refine ⟨?_, trivial⟩
  show (shortF n noRev arcs (plc n a)).1.sum[plc n b] = mostF n arcs a b
  unfold mostF
  rw [List.getD_eq_getElem?_getD, List.getElem?_eq_getElem hlen]; rfl

end Go.Proofs

namespace Go.Proofs
open Go.Sx

theorem properF_t (l : Lnk) (n : Nat) (hn : n ≤ 1000000) : Triple Tryz.prog 241 [svL l, iv .i64 n] [] 0 (bv (properF l n)) [] := by
  refine triple_of tB_ok Tryz.func241 rfl Tryz.call241 rfl ?_
  intro ρ w hH
  conv=>whnf
  refine ⟨fun hc => ?_, fun hc => ?_⟩
  · have h1 : (l.f != l.t) = true := hc
    conv=>whnf
    refine ⟨_, wrapId ⟨by omega, by omega⟩, ?_⟩
    conv=>whnf
    refine call_step (within_t l.f (-1) ((n : Int) - 1)) rfl rfl ?_
    conv=>whnf
    refine ⟨?_, ?_, ?_⟩
    iterate 2 · repeat' (first | exact trivial | exact rfl | refine And.intro ?_ ?_ | ((conv=>whnf); first | exact trivial | exact rfl | refine And.intro ?_ ?_ | omega))
    conv=>whnf
    refine ⟨fun hc => ?_, fun hc => ?_⟩
    · have h2 : withinF l.f (-1) ((n : Int) - 1) = true := hc
      conv=>whnf
      refine ⟨_, wrapId ⟨by omega, by omega⟩, ?_⟩
      conv=>whnf
      refine call_step (within_t l.t (-1) ((n : Int) - 1)) rfl rfl ?_
      conv=>whnf
      refine ⟨?_, ?_, ?_⟩
      iterate 2 · repeat' (first | exact trivial | exact rfl | refine And.intro ?_ ?_ | ((conv=>whnf); first | exact trivial | exact rfl | refine And.intro ?_ ?_ | omega))
      conv=>whnf
      refine ⟨fun hc => ?_, fun hc => ?_⟩
      · have h3 : withinF l.t (-1) ((n : Int) - 1) = true := hc
        conv=>whnf
        refine call_step (within_t l.m (-33554432) 33554432) rfl rfl ?_
        conv=>whnf
        refine ⟨?_, ?_, ?_⟩
        iterate 2 · repeat' (first | exact trivial | exact rfl | refine And.intro ?_ ?_ | ((conv=>whnf); first | exact trivial | exact rfl | refine And.intro ?_ ?_ | omega))
        conv=>whnf
        refine ⟨fun hc => ?_, fun hc => ?_⟩
        · have h4 : withinF l.m (-33554432) 33554432 = true := hc
          conv=>whnf
          refine call_step (within_t l.i 0 1099511627776) rfl rfl ?_
          conv=>whnf
          refine ⟨?_, ?_, ?_⟩
          iterate 2 · repeat' (first | exact trivial | exact rfl | refine And.intro ?_ ?_ | ((conv=>whnf); first | exact trivial | exact rfl | refine And.intro ?_ ?_ | omega))
          conv=>whnf
          refine ⟨?_, trivial⟩
          show withinF l.i 0 1099511627776 = properF l n
          simp [properF, h1, h2, h3, h4]
        · have h4 : withinF l.m (-33554432) 33554432 = false := hc
          conv=>whnf
          refine ⟨?_, trivial⟩
          show false = properF l n
          simp [properF, h4]
      · have h3 : withinF l.t (-1) ((n : Int) - 1) = false := hc
        conv=>whnf
        refine ⟨?_, trivial⟩
        show false = properF l n
        simp [properF, h3]
    · have h2 : withinF l.f (-1) ((n : Int) - 1) = false := hc
      conv=>whnf
      refine ⟨?_, trivial⟩
      show false = properF l n
      simp [properF, h2]
  · have h1 : (l.f != l.t) = false := hc
    conv=>whnf
    refine ⟨?_, trivial⟩
    show false = properF l n
    simp [properF, h1]

theorem check_t (bs : List (Int × Int)) (ls : List Lnk) (hb : bs.length ≤ 1000000) (hl : ls.length ≤ 1000000) :
    Triple Tryz.prog 196 [sysA bs.length ls.length] (sysH bs ls) 2 (iv .i64 (checkF bs ls)) [] := by
  refine triple_of tB_ok Tryz.func196 rfl Tryz.call196 rfl ?_
  intro ρ w hH
  conv=>whnf
  have limit : (240 < bs.length ∨ 1200 < ls.length) → checkF bs ls = 2 := fun h => by
    unfold checkF
    rw [if_pos (by rcases h with h | h <;> simp [h])]
  have bad : ¬ (240 < bs.length ∨ 1200 < ls.length) → (bs.all boxOKF = false ∨ ls.all (fun l => properF l bs.length) = false) → checkF bs ls = 1 := fun h h2 => by
    unfold checkF
    rw [if_neg (by simp; omega)]
    cases h3 : bs.all boxOKF
    · rfl
    · rcases h2 with h2 | h2
      · rw [h3] at h2; cases h2
      · simp [h2]
  refine ⟨fun hc => ?_, fun hc => ?_⟩
  · have h1 : 240 < bs.length := by simp at hc; omega
    conv=>whnf
    exact ⟨(limit (.inl h1)).symm, trivial⟩
  have h1 : ¬ 240 < bs.length := by simp at hc; omega
  conv=>whnf
  refine ⟨fun hc => ?_, fun hc => ?_⟩
  · have h2 : 1200 < ls.length := by simp at hc; omega
    conv=>whnf
    exact ⟨(limit (.inr h2)).symm, trivial⟩
  have h2 : ¬ 1200 < ls.length := by simp at hc; omega
  have hlim : ¬ (240 < bs.length ∨ 1200 < ls.length) := by omega
  conv=>whnf
  refine loop_step tB_ok (G := Nat) 0 [] (fun i => [(20, iv .i64 i)]) (fun i => []) (fun i => i ≤ bs.length ∧ (bs.take i).all boxOKF = true) (fun i => bs.length - i) ?_
  conv=>whnf
  refine ⟨⟨0, ⟨Nat.zero_le _, rfl⟩, ?_⟩, ?_⟩
  · conv=>whnf
    repeat' (first | exact trivial | exact rfl | refine And.intro ?_ ?_ | ((conv=>whnf); first | exact trivial | exact rfl | refine And.intro ?_ ?_ | omega))
  intro i hi ρ1 t1 hρ1
  obtain ⟨hi, hall⟩ := hi
  conv=>whnf
  refine ⟨fun hc => ?_, fun hc => ?_⟩
  · have hc : i < bs.length := by simpa using hc
    have out : boxOKF bs[i] = false → checkF bs ls = 1 := fun h => bad hlim (.inl (by
      rw [← Bool.not_eq_true, List.all_eq_true]
      intro hh
      rw [hh _ (List.getElem_mem hc)] at h; cases h))
    conv=>whnf
    refine ⟨i, rfl, hc, hc, ?_⟩
    conv=>whnf
    refine ⟨fun hc => ?_, fun hc => ?_⟩
    · have hb : bs[i].2 < bs[i].1 := by simpa using (show decide (bs[i].2 < bs[i].1) = true from hc)
      conv=>whnf
      exact ⟨(out (by simp [boxOKF, hb])).symm, trivial⟩
    have hb1 : ¬ bs[i].2 < bs[i].1 := by simpa using (show decide (bs[i].2 < bs[i].1) = false from hc)
    conv=>whnf
    refine ⟨fun hc => ?_, fun hc => ?_⟩
    · have hb : bs[i].1 < -16777216 := by simpa using (show decide (bs[i].1 < -16777216) = true from hc)
      conv=>whnf
      exact ⟨(out (by simp [boxOKF, hb])).symm, trivial⟩
    have hb2 : ¬ bs[i].1 < -16777216 := by simpa using (show decide (bs[i].1 < -16777216) = false from hc)
    conv=>whnf
    refine ⟨fun hc => ?_, fun hc => ?_⟩
    · have hb : 16777216 < bs[i].2 := by simpa using (show decide (16777216 < bs[i].2) = true from hc)
      conv=>whnf
      exact ⟨(out (by simp [boxOKF, hb])).symm, trivial⟩
    have hb3 : ¬ 16777216 < bs[i].2 := by simpa using (show decide (16777216 < bs[i].2) = false from hc)
    conv=>whnf
    refine ⟨_, wrapId ⟨by omega, by omega⟩, ?_⟩
    refine ⟨i + 1, ⟨by omega, ?_⟩, by show bs.length - (i + 1) < bs.length - i; omega, ?_⟩
    · rw [take_snoc (by omega), List.all_append, hall]
      simp [boxOKF]; omega
    conv=>whnf
    refine ⟨rfl, ?_⟩
    conv=>whnf
    repeat' (first | exact trivial | exact rfl | refine And.intro ?_ ?_ | ((conv=>whnf); first | exact trivial | exact rfl | refine And.intro ?_ ?_ | omega))
  have hi2 : i = bs.length := by simp at hc; omega
  subst hi2
  rw [List.take_length] at hall
  conv=>whnf
  refine loop_step tB_ok (G := Nat) 0 [] (fun i => [(43, iv .i64 i)]) (fun i => []) (fun i => i ≤ ls.length ∧ (ls.take i).all (fun l => properF l bs.length) = true) (fun i => ls.length - i) ?_
  conv=>whnf
  refine ⟨⟨0, ⟨Nat.zero_le _, rfl⟩, ?_⟩, ?_⟩
  · conv=>whnf
    repeat' (first | exact trivial | exact rfl | refine And.intro ?_ ?_ | ((conv=>whnf); first | exact trivial | exact rfl | refine And.intro ?_ ?_ | omega))
  intro i hi ρ2 t2 hρ2
  obtain ⟨hi, hall2⟩ := hi
  conv=>whnf
  refine ⟨fun hc => ?_, fun hc => ?_⟩
  · have hc : i < ls.length := by simpa using hc
    conv=>whnf
    refine ⟨i, rfl, hc, hc, ?_⟩
    conv=>whnf
    refine call_step (properF_t ls[i] bs.length hb) rfl rfl ?_
    conv=>whnf
    refine ⟨?_, ?_, ?_⟩
    iterate 2 · repeat' (first | exact trivial | exact rfl | refine And.intro ?_ ?_ | ((conv=>whnf); first | exact trivial | exact rfl | refine And.intro ?_ ?_ | omega))
    conv=>whnf
    refine ⟨fun hc => ?_, fun hc => ?_⟩
    · have hp : properF ls[i] bs.length = false := by simpa using hc
      conv=>whnf
      refine ⟨(bad hlim (.inr ?_)).symm, trivial⟩
      rw [← Bool.not_eq_true, List.all_eq_true]
      intro hh
      rw [hh _ (List.getElem_mem (by assumption))] at hp; cases hp
    have hp : properF ls[i] bs.length = true := by simpa using hc
    conv=>whnf
    refine ⟨_, wrapId ⟨by omega, by omega⟩, ?_⟩
    refine ⟨i + 1, ⟨by omega, ?_⟩, by show ls.length - (i + 1) < ls.length - i; omega, ?_⟩
    · rw [take_snoc (by omega), List.all_append, hall2]
      simp [hp]
    conv=>whnf
    refine ⟨rfl, ?_⟩
    conv=>whnf
    repeat' (first | exact trivial | exact rfl | refine And.intro ?_ ?_ | ((conv=>whnf); first | exact trivial | exact rfl | refine And.intro ?_ ?_ | omega))
  have hi2 : i = ls.length := by simp at hc; omega
  subst hi2
  rw [List.take_length] at hall2
  conv=>whnf
  refine ⟨?_, trivial⟩
  show (0 : Int) = checkF bs ls
  unfold checkF
  rw [if_neg (by simp; omega)]
  simp [hall, hall2]

end Go.Proofs

namespace Go.Proofs
open Go.Sx

theorem cloneSpan_t (xs : List (Int × Int)) (hb : xs.length ≤ 1000000) : Triple Tryz.prog 144 [.c (.s 0 0 xs.length 2)] [(0, false, .arr (aSpan xs))] 1 (.c (.s 1 0 xs.length 2)) [(1, true, .arr (aSpan xs))] := by
  refine triple_of tB_ok Tryz.func144 rfl Tryz.call144 rfl ?_
  intro ρ w hH
  conv=>whnf
  have go : aSpan (List.take 0 [] ++ List.take xs.length (List.drop 0 xs)) = aSpan xs := by
    simp
  refine ⟨fun h0 => ?_, fun h0 => ?_⟩
  · conv=>whnf
    refine ⟨?_, ?_⟩
    · conv=>whnf
      repeat' (first | exact trivial | exact rfl | refine And.intro ?_ ?_ | ((conv=>whnf); first | exact trivial | exact rfl | refine And.intro ?_ ?_ | omega))
      all_goals first | exact h0 | exact List.length_eq_zero_iff.1 h0
    · conv=>whnf
      refine bs_step tB_ok (aSpan []) rfl rfl ?_
      conv=>whnf
      refine ⟨⟨rfl, trivial⟩, ?_⟩
      conv=>whnf
      refine app_step tB_ok (aSpan []) xs (fun _ => rfl) rfl rfl rfl rfl ?_
      conv=>whnf
      refine ⟨⟨rfl, rfl, Nat.le_refl _, by rw [Nat.zero_add]; exact Nat.le_refl _, by show (0 + xs.length) * 17 ≤ _; omega⟩, ?_⟩
      conv=>whnf
      repeat' (first | exact trivial | exact rfl | refine And.intro ?_ ?_ | ((conv=>whnf); first | exact trivial | exact rfl | refine And.intro ?_ ?_ | omega))
      all_goals first | exact go | simp
  · conv=>whnf
    refine bs_step tB_ok (aSpan []) rfl rfl ?_
    conv=>whnf
    refine ⟨⟨rfl, trivial⟩, ?_⟩
    conv=>whnf
    refine app_step tB_ok (aSpan []) xs (fun _ => rfl) rfl rfl rfl rfl ?_
    conv=>whnf
    refine ⟨⟨rfl, rfl, Nat.le_refl _, by rw [Nat.zero_add]; exact Nat.le_refl _, by show (0 + xs.length) * 17 ≤ _; omega⟩, ?_⟩
    conv=>whnf
    repeat' (first | exact trivial | exact rfl | refine And.intro ?_ ?_ | ((conv=>whnf); first | exact trivial | exact rfl | refine And.intro ?_ ?_ | omega))
    all_goals first | exact go | simp
theorem cloneLink_t (xs : List Lnk) (hb : xs.length ≤ 1000000) : Triple Tryz.prog 145 [.c (.s 0 0 xs.length 4)] [(0, false, .arr (aLink xs))] 1 (.c (.s 1 0 xs.length 4)) [(1, true, .arr (aLink xs))] := by
  refine triple_of tB_ok Tryz.func145 rfl Tryz.call145 rfl ?_
  intro ρ w hH
  conv=>whnf
  have go : aLink (List.take 0 [] ++ List.take xs.length (List.drop 0 xs)) = aLink xs := by
    simp
  refine ⟨fun h0 => ?_, fun h0 => ?_⟩
  · conv=>whnf
    refine ⟨?_, ?_⟩
    · conv=>whnf
      repeat' (first | exact trivial | exact rfl | refine And.intro ?_ ?_ | ((conv=>whnf); first | exact trivial | exact rfl | refine And.intro ?_ ?_ | omega))
      all_goals first | exact h0 | exact List.length_eq_zero_iff.1 h0
    · conv=>whnf
      refine bs_step tB_ok (aLink []) rfl rfl ?_
      conv=>whnf
      refine ⟨⟨rfl, trivial⟩, ?_⟩
      conv=>whnf
      refine app_step tB_ok (aLink []) xs (fun _ => rfl) rfl rfl rfl rfl ?_
      conv=>whnf
      refine ⟨⟨rfl, rfl, Nat.le_refl _, by rw [Nat.zero_add]; exact Nat.le_refl _, by show (0 + xs.length) * 33 ≤ _; omega⟩, ?_⟩
      conv=>whnf
      repeat' (first | exact trivial | exact rfl | refine And.intro ?_ ?_ | ((conv=>whnf); first | exact trivial | exact rfl | refine And.intro ?_ ?_ | omega))
      all_goals first | exact go | simp
  · conv=>whnf
    refine bs_step tB_ok (aLink []) rfl rfl ?_
    conv=>whnf
    refine ⟨⟨rfl, trivial⟩, ?_⟩
    conv=>whnf
    refine app_step tB_ok (aLink []) xs (fun _ => rfl) rfl rfl rfl rfl ?_
    conv=>whnf
    refine ⟨⟨rfl, rfl, Nat.le_refl _, by rw [Nat.zero_add]; exact Nat.le_refl _, by show (0 + xs.length) * 33 ≤ _; omega⟩, ?_⟩
    conv=>whnf
    repeat' (first | exact trivial | exact rfl | refine And.intro ?_ ?_ | ((conv=>whnf); first | exact trivial | exact rfl | refine And.intro ?_ ?_ | omega))
    all_goals first | exact go | simp
end Go.Proofs

namespace Go.Proofs
open Go.Sx

structure SysOK (bs : List (Int × Int)) (ls : List Lnk) : Prop where
  nb : bs.length ≤ 240
  nl : ls.length ≤ 1200
  box : ∀ b ∈ bs, b.1 ≤ b.2 ∧ -16777216 ≤ b.1 ∧ b.2 ≤ 16777216
  lnk : ∀ l ∈ ls, properF l bs.length = true

theorem checkF_ok {bs : List (Int × Int)} {ls : List Lnk} : checkF bs ls = 0 ↔ SysOK bs ls := by
  unfold checkF
  constructor
  · intro h
    by_cases h1 : (decide (240 < bs.length) || decide (1200 < ls.length)) = true
    · rw [if_pos h1] at h; simp at h
    rw [if_neg h1] at h
    by_cases h2 : (!bs.all boxOKF) = true
    · rw [if_pos h2] at h; simp at h
    rw [if_neg h2] at h
    by_cases h3 : (!ls.all (fun l => properF l bs.length)) = true
    · rw [if_pos h3] at h; simp at h
    simp at h1 h2 h3
    refine ⟨by omega, by omega, fun b hb => ?_, fun l hl => h3 l hl⟩
    have := h2 b.1 b.2 hb
    simp [boxOKF] at this
    omega
  · rintro ⟨h1, h2, h3, h4⟩
    rw [if_neg (by simp; omega), if_neg, if_neg]
    · simp; exact fun l hl => h4 l hl
    · simp
      intro a b hab
      have := h3 (a, b) hab
      simp [boxOKF]
      simp at this
      omega

theorem SysOK.boxB {bs : List (Int × Int)} {ls : List Lnk} (h : SysOK bs ls) : BoxB bs := fun b hb => by have := h.box b hb; omega

theorem properF_iff {l : Lnk} {n : Int} : properF l n = true ↔ l.f ≠ l.t ∧ (-1 ≤ l.f ∧ l.f ≤ n - 1) ∧ (-1 ≤ l.t ∧ l.t ≤ n - 1) ∧ (-33554432 ≤ l.m ∧ l.m ≤ 33554432) ∧ 0 ≤ l.i ∧ l.i ≤ 1099511627776 := by
  simp [properF, withinF]

theorem boxLinks_mem {l : Lnk} : ∀ {bs : List (Int × Int)} {v : Nat}, l ∈ boxLinks v bs → ∃ (i : Nat) (b : Int × Int), bs[i]? = some b ∧ (l = ⟨-1, (v + i : Nat), b.2, 0⟩ ∨ l = ⟨(v + i : Nat), -1, -b.1, 0⟩)
  | [], _, h => by cases h
  | b :: r, v, h => by
    simp only [boxLinks, List.mem_cons] at h
    rcases h with h | h | h
    · exact ⟨0, b, by simp, .inl (by simpa using h)⟩
    · exact ⟨0, b, by simp, .inr (by simpa using h)⟩
    · obtain ⟨i, b', hi, h⟩ := boxLinks_mem h
      exact ⟨i + 1, b', by simpa using hi, by rw [show v + (i + 1) = v + 1 + i from by omega]; exact h⟩

theorem allF_ok {bs : List (Int × Int)} {ls : List Lnk} (h : SysOK bs ls) : ∀ l ∈ allF bs ls, ArcOK bs.length l := by
  intro l hl
  rcases List.mem_append.1 hl with hl | hl
  · obtain ⟨i, b, hi, h1 | h1⟩ := boxLinks_mem hl
    all_goals
      obtain ⟨hlt, rfl⟩ := List.getElem?_eq_some_iff.1 hi
      have := h.box _ (List.getElem_mem hlt)
      subst h1
      refine ⟨?_, ?_, ?_⟩ <;> simp only <;> omega
  · have := properF_iff.1 (h.lnk l hl)
    refine ⟨?_, ?_, ?_⟩ <;> omega

theorem graphF_ok {bs : List (Int × Int)} {ls : List Lnk} (h : SysOK bs ls) (k : Int) : ∀ l ∈ graphF bs ls k, ArcOK bs.length l := fun l hl =>
  allF_ok h l ((List.mem_filter.1 hl).1)

theorem graphF_len {bs : List (Int × Int)} {ls : List Lnk} (h : SysOK bs ls) (k : Int) : (graphF bs ls k).length ≤ 1680 := by
  unfold graphF
  refine Nat.le_trans (List.length_filter_le _ _) ?_
  rw [allF, List.length_append, boxLinks_length]
  have := h.nb
  have := h.nl
  omega

def Calm (bs : List (Int × Int)) (ls : List Lnk) (k : Int) : Prop := (shortF bs.length noRev (graphF bs ls k) bs.length).2 = -1

theorem clashNone_t (n : Nat) (arcs : List Lnk) (hn : n ≤ 1000) (hl : arcs.length ≤ 10000) (hok : ∀ l ∈ arcs, ArcOK n l) (h : (shortF n noRev arcs n).2 = -1) :
    Triple Tryz.prog 205 [.c (.p 0 0 0 0)] (graphH n arcs) 2 (.tup [.inl (.v (.slice none 0 0)), .inl (.b false)]) [] := by
  refine triple_of tB_ok Tryz.func205 rfl Tryz.call205 rfl ?_
  intro ρ w hH
  conv=>whnf
  refine call_step (plain_t n arcs n hn hl hok (Nat.le_refl _)) rfl rfl ?_
  conv=>whnf
  refine ⟨?_, ?_, ?_⟩
  iterate 2 · repeat' (first | exact trivial | exact rfl | refine And.intro ?_ ?_ | ((conv=>whnf); first | exact trivial | exact rfl | refine And.intro ?_ ?_ | omega))
  conv=>whnf
  rw [h]
  refine ⟨fun hc => ?_, fun hc => ?_⟩
  · conv=>whnf
    repeat' (first | exact trivial | exact rfl | refine And.intro ?_ ?_ | ((conv=>whnf); first | exact trivial | exact rfl | refine And.intro ?_ ?_ | omega))
  · simp at hc

theorem conflictNone_t (bs : List (Int × Int)) (ls : List Lnk) (hs : SysOK bs ls) (h : Calm bs ls 0) :
    Triple Tryz.prog 143 [sysA bs.length ls.length] (sysH bs ls) 2 (.tup [.inl (.v (.slice none 0 0)), .inl (.b false), .inl (.v (.int .i64 0))]) [] := by
  refine triple_of tB_ok Tryz.func143 rfl Tryz.call143 rfl ?_
  intro ρ w hH
  conv=>whnf
  have hnb := hs.nb
  have hnl := hs.nl
  have hgl := graphF_len hs 0
  refine call_step (check_t bs ls (by omega) (by omega)) rfl rfl ?_
  conv=>whnf
  refine ⟨?_, ?_, ?_⟩
  iterate 2 · repeat' (first | exact trivial | exact rfl | refine And.intro ?_ ?_ | ((conv=>whnf); first | exact trivial | exact rfl | refine And.intro ?_ ?_ | omega))
  conv=>whnf
  rw [checkF_ok.2 hs]
  refine ⟨fun hc => ?_, fun hc => ?_⟩
  · simp at hc
  conv=>whnf
  refine call_step (graphOf_t bs ls 0 (by omega) hs.boxB (by omega)) rfl rfl ?_
  conv=>whnf
  refine ⟨?_, ?_, ?_⟩
  iterate 2 · repeat' (first | exact trivial | exact rfl | refine And.intro ?_ ?_ | ((conv=>whnf); first | exact trivial | exact rfl | refine And.intro ?_ ?_ | omega))
  conv=>whnf
  refine call_step (clashNone_t bs.length (graphF bs ls 0) (by omega) (by omega) (graphF_ok hs 0) h) rfl rfl ?_
  conv=>whnf
  refine ⟨?_, ?_, ?_⟩
  iterate 2 · repeat' (first | exact trivial | exact rfl | refine And.intro ?_ ?_ | ((conv=>whnf); first | exact trivial | exact rfl | refine And.intro ?_ ?_ | omega))
  conv=>whnf
  repeat' (first | exact trivial | exact rfl | refine And.intro ?_ ?_ | ((conv=>whnf); first | exact trivial | exact rfl | refine And.intro ?_ ?_ | omega))

abbrev netC (k m : Nat) (n l : Nat) : SO := .cells [.s k 0 n 2, .s m 0 l 4]
abbrev netH (bs : List (Int × Int)) (ls : List Lnk) : Heap := [(0, false, netC 1 2 bs.length ls.length), (1, false, .arr (aSpan bs)), (2, false, .arr (aLink ls))]

theorem newNone_t (bs : List (Int × Int)) (ls : List Lnk) (hs : SysOK bs ls) (h : Calm bs ls 0) :
    Triple Tryz.prog 71 [sysA bs.length ls.length] (sysH bs ls) 2 (.tup [.inl (.p 2 0 0 0), .inl (.v (.int .i64 0))])
      [(2, true, netC 3 4 bs.length ls.length), (3, true, .arr (aSpan bs)), (4, true, .arr (aLink ls))] := by
  refine triple_of tB_ok Tryz.func71 rfl Tryz.call71 rfl ?_
  intro ρ w hH
  conv=>whnf
  have hnb := hs.nb
  have hnl := hs.nl
  refine call_step (conflictNone_t bs ls hs h) rfl rfl ?_
  conv=>whnf
  refine ⟨?_, ?_, ?_⟩
  iterate 2 · repeat' (first | exact trivial | exact rfl | refine And.intro ?_ ?_ | ((conv=>whnf); first | exact trivial | exact rfl | refine And.intro ?_ ?_ | omega))
  conv=>whnf
  refine ⟨fun hc => ?_, fun hc => ?_⟩
  · simp at hc
  conv=>whnf
  refine call_step (cloneSpan_t bs (by omega)) rfl rfl ?_
  conv=>whnf
  refine ⟨?_, ?_, ?_⟩
  iterate 2 · repeat' (first | exact trivial | exact rfl | refine And.intro ?_ ?_ | ((conv=>whnf); first | exact trivial | exact rfl | refine And.intro ?_ ?_ | omega))
  conv=>whnf
  refine call_step (cloneLink_t ls (by omega)) rfl rfl ?_
  conv=>whnf
  refine ⟨?_, ?_, ?_⟩
  iterate 2 · repeat' (first | exact trivial | exact rfl | refine And.intro ?_ ?_ | ((conv=>whnf); first | exact trivial | exact rfl | refine And.intro ?_ ?_ | omega))
  conv=>whnf
  repeat' (first | exact trivial | exact rfl | refine And.intro ?_ ?_ | ((conv=>whnf); first | exact trivial | exact rfl | refine And.intro ?_ ?_ | omega))

theorem isPlace_t (bs : List (Int × Int)) (ls : List Lnk) (p : Int) (hb : bs.length ≤ 1000000) : Triple Tryz.prog 146 [.c (.p 0 0 0 0), iv .i64 p] (netH bs ls) 3 (bv (withinF p (-1) (bs.length - 1))) [] := by
  refine triple_of tB_ok Tryz.func146 rfl Tryz.call146 rfl ?_
  intro ρ w hH
  conv=>whnf
  refine ⟨_, wrapId ⟨by omega, by omega⟩, ?_⟩
  conv=>whnf
  refine call_step (within_t p (-1) ((bs.length : Int) - 1)) rfl rfl ?_
  conv=>whnf
  refine ⟨?_, ?_, ?_⟩
  iterate 2 · repeat' (first | exact trivial | exact rfl | refine And.intro ?_ ?_ | ((conv=>whnf); first | exact trivial | exact rfl | refine And.intro ?_ ?_ | omega))
  conv=>whnf
  repeat' (first | exact trivial | exact rfl | refine And.intro ?_ ?_ | ((conv=>whnf); first | exact trivial | exact rfl | refine And.intro ?_ ?_ | omega))

end Go.Proofs

namespace Go
namespace Sx

end Sx
end Go

