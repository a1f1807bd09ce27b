/-
  A part of the proof that a law answers true: lemmas of a symbolic walk, plain functions, or contracts of the functions walked (Wo, Wp, Ca, Rj, Sx47, Sx33, Rk, Ru). Conditions: none.
-/
import Derived.Test.YtagedjfjcnemoaaGreatPart09
import Derived.Test.YtagedjfjcnemoaaGreatPart27
import Derived.Test.YtagedjfjcnemoaaGreatPart28
import Derived.Test.YtagedjfjcnemoaaGreatPart29
import Derived.Test.YtagedjfjcnemoaaGreatPart26
import Derived.Test.YtagedjfjcnemoaaGreatRows
import Derived.Test.YtagedjfjcnemoaaGreatChecked
import Derived.WideKeyArgs
import Derived.Carry
import Derived.Handed
import Derived.RowKit
import Derived.JoinedOf
import Derived.ChangeSame
import Derived.Test.YtagedjfjcnemoaaGreatPart16
import Derived.Test.YtagedjfjcnemoaaGreatPart24
import Derived.Test.YtagedjfjcnemoaaGreatPart11
import Derived.Test.YtagedjfjcnemoaaGreatPart07
set_option maxRecDepth 100000
set_option linter.unusedVariables false
set_option linter.unusedSimpArgs false
namespace Go.Proofs
open Go.Sx Go.ChangeShapes Go.WideShapes Go.RowKit

theorem below_of {W W' : World} (h : Frm W W' []) : Below W.heap.size W { W' with tape := W.tape } :=
  ⟨h.io.1, rfl, h.io.2, h.size, fun k hk => h.same k hk (by simp)⟩

theorem A_own : ownKnob Tryz.prog.godebug = none := by kernel_rfl
theorem A_laidOut : laidOutB Tryz.prog = true := fact_laid
theorem A_undBool : Tryz.prog.underlying 4 = some .bool := by kernel_rfl

end Go.Proofs

namespace Go.Proofs
open Go.Sx Go.ChangeShapes Go.WideShapes Go.RowKit Go.Deep

def Came (w : World) (v : Value) (sv : SV) (H : Heap) (ks : List (Nat × Rg)) : Prop := ∀ ρ : Asg, (∀ p ∈ ks, ρ p.1 = p.2) →
  sv.rel ρ v ∧ ∀ e ∈ H, e.2.1 = false ∧ SatO ρ w e.1 false e.2.2 ∧ (0 < e.2.2.room (ρ e.1) → (ρ e.1).blk < w.heap.size)

def CameAll (w : World) (vs : List Value) (svs : List SV) (H : Heap) (ks : List (Nat × Rg)) : Prop := ∀ ρ : Asg, (∀ p ∈ ks, ρ p.1 = p.2) →
  relVs ρ svs vs ∧ ∀ e ∈ H, e.2.1 = false ∧ SatO ρ w e.1 false e.2.2 ∧ (0 < e.2.2.room (ρ e.1) → (ρ e.1).blk < w.heap.size)

theorem cameAll_nil (w : World) : CameAll w [] [] [] [] := fun _ _ => ⟨trivial, fun e he => by cases he⟩

theorem cameAll_cons {w : World} {v : Value} {vs : List Value} {sv : SV} {svs : List SV} {H H' : Heap} {ks ks' : List (Nat × Rg)} (h : Came w v sv H ks) (h' : CameAll w vs svs H' ks') : CameAll w (v :: vs) (sv :: svs) (H ++ H') (ks ++ ks') := by
  intro ρ hρ
  obtain ⟨h1, h2⟩ := h ρ fun p hp => hρ p (List.mem_append.2 (.inl hp))
  obtain ⟨h3, h4⟩ := h' ρ fun p hp => hρ p (List.mem_append.2 (.inr hp))
  refine ⟨⟨h1, h3⟩, fun e he => ?_⟩
  rcases List.mem_append.1 he with he | he
  · exact h2 e he
  · exact h4 e he

def asgOf : List (Nat × Rg) → Asg
  | [], _ => ⟨0, 0, 0⟩
  | (k, r) :: t, j => if j = k then r else asgOf t j

theorem asgOf_ok : ∀ {ks : List (Nat × Rg)}, (ks.map (·.1)).Nodup → ∀ p ∈ ks, asgOf ks p.1 = p.2
  | [], _, p, hp => by cases hp
  | (k, r) :: t, hn, p, hp => by
    simp only [List.map_cons, List.nodup_cons] at hn
    rcases List.mem_cons.1 hp with rfl | hq
    · simp [asgOf]
    · have hne : p.1 ≠ k := fun he => hn.1 (he ▸ List.mem_map_of_mem hq)
      simp only [asgOf, if_neg hne]
      exact asgOf_ok hn.2 p hq

theorem look_mem : ∀ {H : Heap} {k : Nat} {x : Bool × SO}, Sx.look H k = some x → (k, x) ∈ H
  | [], _, _, h => by cases h
  | (j, o) :: r, k, x, h => by
    rw [look_cons] at h
    by_cases hk : k = j
    · rw [if_pos hk] at h
      rw [← Option.some.inj h, hk]; exact List.mem_cons_self ..
    · rw [if_neg hk] at h
      exact List.mem_cons_of_mem _ (look_mem h)

theorem came_sat {w : World} {vs : List Value} {svs : List SV} {H : Heap} {ks : List (Nat × Rg)} (h : CameAll w vs svs H ks) (hn : (ks.map (·.1)).Nodup) :
    ∃ ρ : Asg, relVs ρ svs vs ∧ SatH w (ownB ρ H) ρ H w := by
  obtain ⟨h1, h2⟩ := h (asgOf ks) (asgOf_ok hn)
  refine ⟨asgOf ks, h1, Frm.refl _ _, ?_, ?_, ?_, ?_⟩
  · intro k own o hk
    obtain ⟨h3, h4, _⟩ := h2 _ (look_mem hk)
    have h3 : own = false := h3
    subst h3; exact h4
  · intro k k' o own' o' _ hk
    have := (h2 _ (look_mem hk)).1; cases this
  · intro k o hk
    have := (h2 _ (look_mem hk)).1; cases this
  · intro k own o hk hp
    exact (h2 _ (look_mem hk)).2.2 hp

theorem came_int {base : Nat} {H : Type} {enc : TypeId × Value → H} {w : World} {v : Value} {d : DataW H} {p : List MemPlace} {t : TypeId} {k : IntKind} (ht : Tryz.prog.underlying t = some (.int k)) (hok : Value.okWide Tryz.prog w .any base t v)
    (h : DataW.Trod enc Tryz.prog w 0 (fun _ => true) true t v d p) : ∃ z : Int, Came w v (iv k z) [] [] ∧ (Lit.int k z).wf = true := by
  obtain ⟨n, rfl⟩ := okWide_int ht hok
  obtain ⟨fuel, hf⟩ := h
  obtain ⟨m, hm, _, hw⟩ := DataW.trod_int ht hf
  have : m = n := by simpa [Value.cells] using hm.symm
  subst this
  exact ⟨m, fun ρ _ => ⟨rfl, fun e he => by cases he⟩, hw⟩

theorem trodAll_keep {H : Type} {enc : TypeId × Value → H} {W W' : World} (hfrm : Frm W W' []) : ∀ {ts : List TypeId} {vs : List Value} {ds : List (DataW H)} {p : List MemPlace}, (∀ t ∈ ts, Tryz.prog.readableRec t = true ∧ t < Tryz.prog.types.size) →
    DataW.TrodAll enc Tryz.prog W 0 (fun _ => true) true ts vs ds p → (∀ x ∈ p, x.block < W.heap.size) → DataW.TrodAll enc Tryz.prog { W' with tape := W.tape } 0 (fun b => decide (b < W.heap.size)) true ts vs ds p
  | [], vs, ds, p, _, h, _ => by
    obtain ⟨rfl, rfl, rfl⟩ := trodAll_nil h
    exact trodAll_mk0
  | t :: ts, vs, ds, p, hr, h, hlt => by
    obtain ⟨v, vs', d, ds', p1, p2, rfl, rfl, rfl, hd, hrest⟩ := trodAll_cons h
    have ht := hr t (List.mem_cons_self ..)
    refine ⟨p1, p2, ?_, ?_, rfl⟩
    · exact Below.trod A_laidOut ht.1 ht.2 hd (below_of hfrm) fun x hx => hlt x (List.mem_append.2 (.inl hx))
    · exact trodAll_keep hfrm (fun t ht => hr t (List.mem_cons_of_mem _ ht)) hrest fun x hx => hlt x (List.mem_append.2 (.inr hx))

end Go.Proofs

namespace Go.Proofs
open Go.Sx Go.ChangeShapes Go.WideShapes Go.RowKit Go.Deep

def chkFs (L : List (Nat × Nat)) : List Field → Nat → Nat → Bool
  | [], j, n => Nat.beq j n
  | f :: r, j, n => Nat.beq f.offset j && (match lookN L f.type with
    | some m => chkFs L r (j + m) n
    | none => false)

theorem chkFs_ok {P : Program} {L : List (Nat × Nat)} (hL : ∀ t n, lookN L t = some n → AllI P t n) : ∀ {fs : List Field} {j n : Nat}, chkFs L fs j n = true → AllFs P fs j n
  | [], _, _, h => Nat.eq_of_beq_eq_true h
  | f :: r, j, n, h => by
    simp only [chkFs, Bool.and_eq_true] at h
    obtain ⟨h1, h2⟩ := h
    split at h2
    · rename_i m hm
      exact ⟨m, Nat.eq_of_beq_eq_true h1, hL _ _ hm, chkFs_ok hL h2⟩
    · cases h2

theorem allN_nil {P : Program} : ∀ t n, lookN [] t = some n → AllI P t n := by intro t n h; simp [lookN] at h
theorem allN_cons {P : Program} {t m : Nat} {L : List (Nat × Nat)} (h : AllI P t m) (hL : ∀ t n, lookN L t = some n → AllI P t n) : ∀ t' n, lookN ((t, m) :: L) t' = some n → AllI P t' n := by
  intro t' n h'
  simp only [lookN] at h'
  cases hb : Nat.beq t' t with
  | true => simp [hb] at h'; subst h'; rw [Nat.eq_of_beq_eq_true hb]; exact h
  | false => simp [hb] at h'; exact hL _ _ h'

theorem I_int : AllI Tryz.prog 3 1 := allI_int (by kernel_rfl) (by kernel_rfl)
theorem I_state : AllI Tryz.prog 28 1 := allI_int (by kernel_rfl) (by kernel_rfl)
theorem L_int : ∀ t n, lookN [(3, 1), (28, 1)] t = some n → AllI Tryz.prog t n := allN_cons I_int (allN_cons I_state allN_nil)
theorem I_span : AllI Tryz.prog 37 2 := allI_struct (fs := Tryz.prog.fieldsOf 37) (by kernel_rfl) (by kernel_rfl) (chkFs_ok L_int (by kernel_rfl))
theorem I_thg : AllI Tryz.prog 30 4 := allI_struct (fs := Tryz.prog.fieldsOf 30) (by kernel_rfl) (by kernel_rfl) (chkFs_ok L_int (by kernel_rfl))
theorem L_all : ∀ t n, lookN [(37, 2), (30, 4), (3, 1), (28, 1)] t = some n → AllI Tryz.prog t n := allN_cons I_span (allN_cons I_thg L_int)
theorem I_bal : AllI Tryz.prog 57 6 := allI_struct (fs := Tryz.prog.fieldsOf 57) (by kernel_rfl) (by kernel_rfl) (chkFs_ok L_all (by kernel_rfl))
theorem I_chk : AllI Tryz.prog 51 5 := allI_struct (fs := Tryz.prog.fieldsOf 51) (by kernel_rfl) (by kernel_rfl) (chkFs_ok L_all (by kernel_rfl))
theorem I_ntc : AllI Tryz.prog 93 6 := allI_struct (fs := Tryz.prog.fieldsOf 93) (by kernel_rfl) (by kernel_rfl) (chkFs_ok L_all (by kernel_rfl))
theorem I_wgh : AllI Tryz.prog 32 8 := allI_struct (fs := Tryz.prog.fieldsOf 32) (by kernel_rfl) (by kernel_rfl) (chkFs_ok L_all (by kernel_rfl))

theorem came_rec {base : Nat} {α H : Type} {enc : TypeId × Value → H} {w : World} {v : Value} {d : DataW H} {p : List MemPlace} {t n : Nat} (f : α → List Int) (mk : (Nat → Int) → α) (hmk : ∀ V, f (mk V) = (List.range n).map V)
    (hA : AllI Tryz.prog t n) (hs : Tryz.prog.underlying t = some (.struct (Tryz.prog.fieldsOf t))) (hok : Value.okWide Tryz.prog w .any base t v)
    (h : DataW.Trod enc Tryz.prog w 0 (fun _ => true) true t v d p) : ∃ x : α, Came w v (.agg (Sx.encI (f x))) [] [] := by
  obtain ⟨cs, rfl, hcs⟩ := okWide_struct hs hok
  obtain ⟨fuel, hf⟩ := h
  obtain ⟨hl, V, hV⟩ := hA.op hf
  have hl : cs.toList.length = n := hl
  have hV : ∀ j, j < n → cs.toList[j]? = some (.int .i64 (V j)) := hV
  refine ⟨mk V, fun ρ _ => ⟨⟨cs, rfl, ?_⟩, fun e he => by cases he⟩⟩
  have e : cs.toList = (f (mk V)).map (Value.int .i64) := by
    rw [hmk, List.map_map]
    apply List.ext_getElem?
    intro j
    by_cases hj : j < n
    · rw [hV j hj, List.getElem?_map, List.getElem?_range hj]; rfl
    · rw [List.getElem?_eq_none (by omega), List.getElem?_eq_none (by simp; omega)]
  rw [e]
  exact relEncI ρ _

theorem came_wgh {base : Nat} {H : Type} {enc : TypeId × Value → H} {w : World} {v : Value} {d : DataW H} {p : List MemPlace} (hok : Value.okWide Tryz.prog w .any base 32 v)
    (h : DataW.Trod enc Tryz.prog w 0 (fun _ => true) true 32 v d p) : ∃ x : Wgh, Came w v (svWgh x) [] [] :=
  came_rec wghL (fun V => ⟨V 0, V 1, V 2, ⟨V 3, V 4, V 5, V 6⟩, V 7⟩) (fun _ => rfl) I_wgh (by kernel_rfl) hok h
theorem A_undRd : Tryz.prog.underlying 27 = some (.struct (Tryz.prog.fieldsOf 27)) := by kernel_rfl
theorem A_fldRd : ∃ f0 f1 f2 f3, Tryz.prog.fieldsOf 27 = #[f0, f1, f2, f3] ∧ (f0.type = 22 ∧ f0.offset = 0) ∧ (f1.type = 23 ∧ f1.offset = 1) ∧ (f2.type = 24 ∧ f2.offset = 2) ∧ f3.type = 25 ∧ f3.offset = 3 :=
  ⟨(Tryz.prog.fieldsOf 27)[0]!, (Tryz.prog.fieldsOf 27)[1]!, (Tryz.prog.fieldsOf 27)[2]!, (Tryz.prog.fieldsOf 27)[3]!, by kernel_rfl, ⟨by kernel_rfl, by kernel_rfl⟩, ⟨by kernel_rfl, by kernel_rfl⟩, ⟨by kernel_rfl, by kernel_rfl⟩, by kernel_rfl, by kernel_rfl⟩

structure Wide (r : Rd) : Prop where
  bs : r.bs.length ≤ 140737488351232
  cs : r.cs.length ≤ 140737488351232
  ns : r.ns.length ≤ 140737488351232
  ws : r.ws.length ≤ 140737488351232

abbrev rdK (k0 k1 k2 k3 : Nat) (r : Rd) : SV := .agg [.s k0 0 r.bs.length 6, .s k2 0 r.cs.length 5, .s k3 0 r.ns.length 6, .s k1 0 r.ws.length 8]
abbrev rdHK (k0 k1 k2 k3 : Nat) (r : Rd) : Heap := [(k0, false, .arr (aBal r.bs)), (k1, false, .arr (aWgh r.ws)), (k2, false, .arr (aChk r.cs)), (k3, false, .arr (aNtc r.ns))]

theorem weights_part {H : Type} {P : Program} {t : Nat} {fs : Array Field} {parts : List (DataW H)} (h : P.underlying t = some (.struct fs)) (hw : ∀ y ∈ (DataW.agg parts).weights P t, y ≤ reachBytes) {i : Nat} {f : Field} {d : DataW H} (hf : fs.toList[i]? = some f) (hd : parts[i]? = some d) :
    ∀ y ∈ d.weights P f.type, y ≤ reachBytes := fun y hy => hw y (by
  simp only [DataW.weights, h]
  exact DataW.weights_mem_each (j := i) (by rw [List.getElem?_map, hf]; rfl) hd y hy)

theorem room_pos {ρ : Asg} {k : Nat} {α : Type} {n : Nat} {f : α → List Int} {hf : ∀ x, (f x).length = n} {xs : List α} {r : Rg} (e : ρ k = r) {w : World} (h : 0 < r.cap → r.blk < w.heap.size) : 0 < (SO.arr (aRec n f hf xs)).room (ρ k) → (ρ k).blk < w.heap.size := by
  intro hp
  rw [e] at hp ⊢
  refine h (Nat.pos_of_ne_zero fun h0 => ?_)
  have hp : 0 < r.cap * n := hp
  rw [h0, Nat.zero_mul] at hp; cases hp

theorem came_rd {base : Nat} {H : Type} {enc : TypeId × Value → H} {w : World} {v : Value} {d : DataW H} {p : List MemPlace} (hok : Value.okWide Tryz.prog w .any base 27 v)
    (h : DataW.Trod enc Tryz.prog w 0 (fun _ => true) true 27 v d p) (hw : ∀ y ∈ d.weights Tryz.prog 27, y ≤ reachBytes) (k0 k1 k2 k3 : Nat) :
    ∃ (r : Rd) (q0 q1 q2 q3 : Rg), Wide r ∧ Came w v (rdK k0 k1 k2 k3 r) (rdHK k0 k1 k2 k3 r) [(k0, q0), (k1, q1), (k2, q2), (k3, q3)] := by
  obtain ⟨cs, rfl, hcs⟩ := okWide_struct A_undRd hok
  obtain ⟨fuel, hf⟩ := h
  have hc4 : Tryz.prog.cellsOf 27 = 4 := by kernel_rfl
  rw [hc4] at hcs
  obtain ⟨l⟩ := cs
  match l, hcs with
  | [a, b, c, e], _ =>
    obtain ⟨xs, m, _, hd, _, hxl, hff⟩ := DataW.trod_struct A_undRd hf
    have hd : d = .agg (xs.map (·.1)) := congrArg Prod.fst hd
    subst hd
    have hwp := fun {i : Nat} {f : Field} {d : DataW H} => weights_part (i := i) (f := f) (d := d) A_undRd hw
    obtain ⟨f0, f1, f2, f3, hfs, ⟨t0, o0⟩, ⟨t1, o1⟩, ⟨t2, o2⟩, t3, o3⟩ := A_fldRd
    rw [hfs] at hff hxl hwp
    have hxl : xs.length = 4 := hxl
    match xs, hxl with
    | [x0, x1, x2, x3], _ =>
    have h0 := hff 0 f0 rfl
    have h1 := hff 1 f1 rfl
    have h2 := hff 2 f2 rfl
    have h3 := hff 3 f3 rfl
    have w0 := hwp (i := 0) (f := f0) (d := x0.1) rfl rfl
    have w1 := hwp (i := 1) (f := f1) (d := x1.1) rfl rfl
    have w2 := hwp (i := 2) (f := f2) (d := x2.1) rfl rfl
    have w3 := hwp (i := 3) (f := f3) (d := x3.1) rfl rfl
    have c0 : Tryz.prog.cellsOf 22 = 1 := by kernel_rfl
    have c1 : Tryz.prog.cellsOf 23 = 1 := by kernel_rfl
    have c2 : Tryz.prog.cellsOf 24 = 1 := by kernel_rfl
    have c3 : Tryz.prog.cellsOf 25 = 1 := by kernel_rfl
    rw [t0, o0, c0] at h0
    rw [t1, o1, c1] at h1
    rw [t2, o2, c2] at h2
    rw [t3, o3, c3] at h3
    rw [t0] at w0
    rw [t1] at w1
    rw [t2] at w2
    rw [t3] at w3
    have h0 : DataW.trod enc Tryz.prog w 0 (fun _ => true) true m 22 [a] = some x0 := h0
    have h1 : DataW.trod enc Tryz.prog w 0 (fun _ => true) true m 23 [b] = some x1 := h1
    have h2 : DataW.trod enc Tryz.prog w 0 (fun _ => true) true m 24 [c] = some x2 := h2
    have h3 : DataW.trod enc Tryz.prog w 0 (fun _ => true) true m 25 [e] = some x3 := h3
    obtain ⟨bs, q0, l0, g0⟩ := key_sl balL (fun _ => rfl) (fun V => (⟨V 0, V 1, V 2, V 3, V 4, V 5⟩ : Bal)) (fun V j z hz => by
      match j, hz with
      | 0, hz | 1, hz | 2, hz | 3, hz | 4, hz | 5, hz => simp [balL] at hz; exact ⟨by decide, hz.symm⟩) (by kernel_rfl : Tryz.prog.underlying 22 = some (.slice 57)) I_bal (by decide) (by decide +kernel) w0 h0 k0
    obtain ⟨cs, q2, l2, g2⟩ := key_sl chkL (fun _ => rfl) (fun V => (⟨V 0, V 1, V 2, V 3, V 4⟩ : Chk)) (fun V j z hz => by
      match j, hz with
      | 0, hz | 1, hz | 2, hz | 3, hz | 4, hz => simp [chkL] at hz; exact ⟨by decide, hz.symm⟩) (by kernel_rfl : Tryz.prog.underlying 23 = some (.slice 51)) I_chk (by decide) (by decide +kernel) w1 h1 k2
    obtain ⟨ns, q3, l3, g3⟩ := key_sl ntcL (fun _ => rfl) (fun V => (⟨V 0, V 1, V 2, V 3, V 4, V 5⟩ : Ntc)) (fun V j z hz => by
      match j, hz with
      | 0, hz | 1, hz | 2, hz | 3, hz | 4, hz | 5, hz => simp [ntcL] at hz; exact ⟨by decide, hz.symm⟩) (by kernel_rfl : Tryz.prog.underlying 24 = some (.slice 93)) I_ntc (by decide) (by decide +kernel) w2 h2 k3
    obtain ⟨ws, q1, l1, g1⟩ := key_sl wghL (fun _ => rfl) (fun V => (⟨V 0, V 1, V 2, ⟨V 3, V 4, V 5, V 6⟩, V 7⟩ : Wgh)) (fun V j z hz => by
      match j, hz with
      | 0, hz | 1, hz | 2, hz | 3, hz | 4, hz | 5, hz | 6, hz | 7, hz => simp [wghL] at hz; exact ⟨by decide, hz.symm⟩) (by kernel_rfl : Tryz.prog.underlying 25 = some (.slice 32)) I_wgh (by decide) (by decide +kernel) w3 h3 k1
    refine ⟨⟨bs, cs, ns, ws⟩, q0, q1, q2, q3, ⟨l0, l2, l3, l1⟩, fun ρ hρ => ?_⟩
    have e0 := hρ (k0, q0) (by simp)
    have e1 := hρ (k1, q1) (by simp)
    have e2 := hρ (k2, q2) (by simp)
    have e3 := hρ (k3, q3) (by simp)
    obtain ⟨u0, v0, r0⟩ := g0 ρ e0
    obtain ⟨u1, v1, r1⟩ := g1 ρ e1
    obtain ⟨u2, v2, r2⟩ := g2 ρ e2
    obtain ⟨u3, v3, r3⟩ := g3 ρ e3
    refine ⟨⟨#[a, b, c, e], rfl, u0, u2, u3, u1, trivial⟩, fun y hy => ?_⟩
    simp only [rdHK, List.mem_cons, List.not_mem_nil, or_false] at hy
    rcases hy with rfl | rfl | rfl | rfl
    · exact ⟨rfl, v0, room_pos e0 r0⟩
    · exact ⟨rfl, v1, room_pos e1 r1⟩
    · exact ⟨rfl, v2, room_pos e2 r2⟩
    · exact ⟨rfl, v3, room_pos e3 r3⟩

abbrev B_reads : List Nat := [27, 3, 57, 51, 32, 30, 53, 37, 5, 33, 43, 100, 108]

theorem B_read : ∀ t ∈ B_reads, Tryz.prog.readableRec t = true ∧ t < Tryz.prog.types.size := by
  have h : (B_reads.all fun t => Tryz.prog.readableRec t && decide (t < Tryz.prog.types.size)) = true := by kernel_rfl
  intro t ht
  have := List.all_eq_true.1 h t ht
  simpa using this

end Go.Proofs

namespace Go.Proofs
open Go.Sx

def cntR (r : Rd) : Nat := r.cs.length + r.ns.length + r.ws.length
end Go.Proofs

namespace Go
namespace Sx

theorem appCN_core {cx : Cx} {B : Tabs} (hB : TabsOK cx.P B) {o : Oper} {c : Call} {x y : Operand} {t t' el el' s0 b0 s1 b1 : Nat} {z0 z1 : List Value} {ti : TI} (A0 : Arr) (zs : List A0.α)
    (hone : ∀ x, allOne (A0.enc x) = true) (ho : o.op = .call c) (hc : c.callee = .builtin .append) (hca : c.args = #[x, y]) (hct : c.argTypes = #[t, t'])
    (ht : lookT B.T t = some ⟨.slice el, s0, b0, z0⟩) (ht' : lookT B.T t' = some ⟨.slice el', s1, b1, z1⟩) (hti : lookT B.T el = some ti) {k k' hh st m sz sz' : Nat} {ow ow1 : Bool}
    (hb1 : ti.size = sz) (hb2 : sz = sz') (hb3 : 1 ≤ sz) (hb4 : sz = A0.sz) (hm0 : 0 < m) {ρ : Asg} {s : St} {a : Act} {w : World} (hs : Sat cx ρ s a w)
    (hl1 : look s.H k = some (ow1, .arr A0)) (hs2 : SatO ρ w k' ow (.arr (A0.setXs zs))) (h1 : hh ≤ A0.xs.length) (h2 : st + m ≤ zs.length) (h3 : (hh + m) * (ti.bytes + 1) ≤ 140737488355328)
    (hx1 : (SC.cut k hh sz).rel ρ (a.eval x)) (hy1 : (SC.s k' st m sz').rel ρ (a.eval y)) {nx : Nat} (hfr : Fresh nx s) (hlt : nx < s.nx) (hn0 : cx.n0 ≤ nx) (hdst : ∀ d, o.dst = some d → d < cx.nt ∧ inMd cx.md d = true)
    {KK : Act → World → Prop} {Q : Exit → Act → World → Prop}
    (hKK : ∀ ρ' a' w', Sat cx ρ' { s with e := putO o.dst (.c (.s nx 0 (hh + m) sz)) s.e, H := [(nx, true, .arr (A0.setXs (A0.xs.take hh ++ (zs.drop st).take m)))] ++ s.H } a' w' → (∀ j, j ∉ [nx] → ρ' j = ρ j) → KK a' w') :
    o.wpIn (fen cx.rd) 0 cx.P a w KK Q := by
  simp only [SC.rel, Nat.sub_zero, Nat.zero_mul, Nat.zero_add] at hx1 hy1
  obtain ⟨ad, hxv, hcap, had⟩ := hx1
  obtain ⟨ad', hyv, hcap', had'⟩ := hy1
  have hs1 := hs.heap.reg k ow1 _ hl1
  have hszA : (A0.setXs zs).sz = A0.sz := rfl
  have hsrc := src_of hB ht' hs2 (c := (ρ k').cap - st) h2 hone (a := ad') (fun hm => by rw [hszA, ← hb4, hb2]; exact had' (by omega))
  rw [hszA] at hsrc
  obtain ⟨i, z, hi, hz, hisz, hiby, hzz⟩ := ti_parts hB hti
  have hisz' : i.size = A0.sz := by omega
  have hrun0 := run_builtin (P := cx.P) ho hc a w
  rw [hca, hct] at hrun0
  have hflat : ∀ j, j < m * A0.sz → ∃ v xx cc, zs[st + j / A0.sz]? = some xx ∧ (A0.enc xx)[j % A0.sz]? = some cc ∧ (flat w ρ k' (st * A0.sz) (m * A0.sz))[j]? = some v ∧ cc.rel ρ v := by
    intro j hj
    have hle : st * A0.sz + m * A0.sz ≤ zs.length * A0.sz := by rw [← Nat.add_mul]; exact Nat.mul_le_mul_right _ h2
    obtain ⟨v, xx, cc, q1, q2, q3, q4⟩ := arr_cell hs2 (n := st * A0.sz + j) (by simp only [Arr.setXs]; omega)
    simp only [Arr.setXs] at q1 q2
    have e1 : (st * A0.sz + j) / A0.sz = st + j / A0.sz := by rw [Nat.mul_comm, Nat.mul_add_div (by omega)]
    have e2 : (st * A0.sz + j) % A0.sz = j % A0.sz := by rw [Nat.mul_comm, Nat.mul_add_mod]
    rw [e1] at q1; rw [e2] at q2
    exact ⟨v, xx, cc, q1, q2, by rw [flat_get hj, q3]; rfl, q4⟩
  have hbelow : (SO.arr (A0.setXs (A0.xs.take hh ++ (zs.drop st).take m))).below s.nx := fun j hj => (hs.bnd.heap k ow1 _ hl1).2 j hj
  have hnmf : ∀ {r : Rg} {j : Nat}, (SO.arr A0).uses [j] = true → upd ρ nx r j = ρ j := fun hj => upd_ne (by rintro rfl; have := (hfr.heap k ow1 _ hl1).2; rw [hj] at this; cases this)
  have hrelf : ∀ {r : Rg} {xx : A0.α} {j : Nat} {cc : SC} {v : Value}, (A0.enc xx)[j]? = some cc → cc.rel ρ v → cc.rel (upd ρ nx r) v := fun hj hcc =>
    SC.rel_agree (fun n hn => hnmf (anyMem_iff.2 ⟨n, A0.hn _ _ (List.mem_of_getElem? hj) n hn, by simp⟩)) hcc
  have hlenM : (A0.xs.take hh ++ (zs.drop st).take m).length = hh + m := by simp; omega
  have hsrc' := hsrc
  rw [← hisz'] at hsrc'
  have hold := src_of hB ht hs1 (st := 0) (m := hh) (c := hh) (by omega) hone (a := ad) (fun hpos => by rw [had (by omega)]; simp)
  have hrunA := run_append_grow_src (P := cx.P) w t t' o.type el i z (und_slice hB ht) hi hz ad hh hh (flat w ρ k (0 * A0.sz) (hh * A0.sz)) (by rw [hisz']; exact hold.cellsD) _ m _ hsrc' (by omega)
    (by
      have : (hh + m) * 1 ≤ (hh + m) * (ti.bytes + 1) := Nat.mul_le_mul_left _ (by omega)
      omega) (growslice_fits (by omega) (by
      have : (hh + m) * i.bytes ≤ (hh + m) * (ti.bytes + 1) := Nat.mul_le_mul_left _ (by omega)
      omega))
  have hge := grownCap_ge w (hh + m) hh el
  generalize hgc : grownCap w (hh + m) hh el = gc at hrunA hge
  have hrun : (execOp a.eval o).run cx.P w = .ok (.value (.slice (some ⟨w.heap.size, 0, none⟩) (hh + m) gc))
      (w.drew.alloc (.cells ((flat w ρ k (0 * A0.sz) (hh * A0.sz) ++ flat w ρ k' (st * A0.sz) (m * A0.sz)).toArray ++ Builtin.zeroCells z.cells (gc - (hh + m))) el)) := by
    rw [hrun0]
    simp only [List.map_toArray, List.map_cons, List.map_nil, builtin, hxv, hyv, Sem.run_bind, hrunA, Result.andThen_ok, Sem.run_pure, hisz']
  refine wpIn_of_value (by simp [ho]) hrun (hKK (upd ρ nx ⟨w.heap.size, 0, gc⟩) _ _ ?_ (fun j hj => upd_ne (by simpa using hj)))
  have hzsz : z.cells.size = A0.sz := by
    have := congrArg List.length hzz
    rw [← hb4, ← hb1]
    have hz2 := hB.zsz el ti hti
    simpa [hz2] using this
  have hsat := hs.newAt (k := nx) (cap := gc) (o := .arr (A0.setXs (A0.xs.take hh ++ (zs.drop st).take m)))
    (ob := .cells ((flat w ρ k (0 * A0.sz) (hh * A0.sz) ++ flat w ρ k' (st * A0.sz) (m * A0.sz)).toArray ++ Builtin.zeroCells z.cells (gc - (hh + m))) el (0, 0)) hfr hlt hn0 hbelow ?_
  · refine (hsat.eqHeap (w' := w.drew.alloc _) rfl).putO hdst ?_ (by rw [SV.below_c]; intro j hj; simp [SC.nms] at hj; subst hj; exact hlt)
    simp only [SV.rel, SC.rel, upd_eq, Nat.sub_zero, Nat.zero_mul, Nat.zero_add]
    exact ⟨_, rfl, hge, fun _ => by simp [adr, upd_eq]⟩
  · refine satO_new_arr ?_ ?_ ?_
    · simp only [Arr.setXs]; rw [hlenM]; exact hge
    · simp only [Arr.setXs, Array.size_append, List.size_toArray, List.length_append, flat_length, size_zeroCells, hzsz]
      rw [← Nat.add_mul, ← Nat.add_mul]; congr 1; omega
    · intro i' xx hxx j cc hcc
      replace hxx : (A0.xs.take hh ++ (zs.drop st).take m)[i']? = some xx := hxx
      replace hcc : (A0.enc xx)[j]? = some cc := hcc
      show ∃ v, _ = some v ∧ _
      have hsz9 : (A0.setXs (A0.xs.take hh ++ (zs.drop st).take m)).sz = A0.sz := rfl
      rw [hsz9]
      have hi' : i' < hh + m := by have := (List.getElem?_eq_some_iff.1 hxx).1; omega
      have hj : j < A0.sz := by
        have h8 : j < (A0.enc xx).length := (List.getElem?_eq_some_iff.1 hcc).1
        have h9 := A0.hl xx
        omega
      rw [app_get h1 h2 hi'] at hxx
      have hle2 : i' * A0.sz + j < (hh + m) * A0.sz := by
        have := Nat.mul_le_mul_right A0.sz (show i' + 1 ≤ hh + m from hi')
        rw [Nat.add_mul] at this; omega
      rw [Nat.add_mul] at hle2
      rw [Array.getElem?_append_left (by simp [flat_length]; omega)]
      simp only [List.getElem?_toArray]
      by_cases hil : i' < hh
      · rw [if_pos hil] at hxx
        have hle3 : i' * A0.sz + j < hh * A0.sz := by
          have := Nat.mul_le_mul_right A0.sz (show i' + 1 ≤ hh from hil)
          rw [Nat.add_mul] at this; omega
        rw [List.getElem?_append_left (by rw [flat_length]; exact hle3), flat_get hle3]
        obtain ⟨v, hv, hvr⟩ := hs1.at_ i' j cc (by simp only [SO.cell?, hxx]; exact hcc)
        refine ⟨v, ?_, hrelf hcc hvr⟩
        simp only [SO.sz] at hv
        simp [hv]
      · rw [if_neg hil] at hxx
        have hge2 : hh * A0.sz ≤ i' * A0.sz := Nat.mul_le_mul_right _ (by omega)
        rw [List.getElem?_append_right (by rw [flat_length]; omega), flat_length]
        have hsub : i' * A0.sz + j - hh * A0.sz = (i' - hh) * A0.sz + j := by
          rw [Nat.sub_mul]; omega
        obtain ⟨v, x2, c2, q1, q2, q3, q4⟩ := hflat ((i' - hh) * A0.sz + j) (by omega)
        have e1 : ((i' - hh) * A0.sz + j) / A0.sz = i' - hh := by rw [Nat.mul_comm, Nat.mul_add_div (by omega), Nat.div_eq_of_lt hj]; simp
        have e2 : ((i' - hh) * A0.sz + j) % A0.sz = j := by rw [Nat.mul_comm, Nat.mul_add_mod, Nat.mod_eq_of_lt hj]
        rw [e1, hxx] at q1; rw [e2] at q2
        have q1 := Option.some.inj q1; subst q1
        rw [hcc] at q2; simp at q2; subst q2
        exact ⟨v, by rw [hsub]; exact q3, hrelf hcc q4⟩


def appCNK (B : Tabs) (A : Arr) (zs : List A.α) (t t' : TypeId) (x y : SV) (H : Heap) (nx : Nat) (K : Eff → Prop) : Prop :=
  match lookT B.T t, lookT B.T t', x, y with
  | some ⟨.slice el, _, _, _⟩, some ⟨.slice _, _, _, _⟩, .c (.cut k hh sz), .c (.s k' st m sz') => (match lookT B.T el with
    | some ti => bif (Nat.beq ti.size sz && Nat.beq sz sz') && (Nat.ble 1 sz && (Nat.beq sz A.sz && Nat.ble 1 m)) then (match look H k, look H k' with
      | some (_, .arr A0), some (_, .arr X) => (A0 = A ∧ X = A.setXs zs ∧ hh ≤ A.xs.length ∧ st + m ≤ zs.length ∧ (hh + m) * (ti.bytes + 1) ≤ 140737488355328) ∧
          K ⟨.c (.s nx 0 (hh + m) sz), [k, k'], [(nx, true, .arr (A.setXs (A.xs.take hh ++ (zs.drop st).take m)))], [nx]⟩
      | _, _ => False) else False
    | none => False)
  | _, _, _, _ => False

theorem appCN_step {cx : Cx} {B : Tabs} (hB : TabsOK cx.P B) {o : Oper} {e : Env} {H : Heap} {nx : Nat} {K : Eff → Prop} {c : Call} {x y : Operand} {t t' : TypeId} (A : Arr) (zs : List A.α)
    (hone : ∀ x, allOne (A.enc x) = true) (ho : o.op = .call c) (hc : c.callee = .builtin .append) (hca : c.args = #[x, y]) (hct : c.argTypes = #[t, t'])
    (h : appCNK B A zs t t' (ev e x) (ev e y) H nx K) : ∃ F, CallOK cx o e H nx F ∧ K F := by
  have hx : x ∈ o.op.operands.toList := by simp [ho, Op.operands, Call.operands, hc, hca]
  have hy : y ∈ o.op.operands.toList := by simp [ho, Op.operands, Call.operands, hc, hca]
  unfold appCNK at h
  split at h
  · rename_i el s0 b0 z0 el' s1 b1 z1 k hh sz k' st m sz' ht ht' hex hey
    split at h
    · rename_i ti hti
      obtain ⟨hb, h⟩ := bif_and h
      simp only [Bool.and_eq_true] at hb
      obtain ⟨⟨hb1, hb2⟩, hb3, hb4, hb5⟩ := hb
      have hb1 := Nat.eq_of_beq_eq_true hb1
      have hb2 := Nat.eq_of_beq_eq_true hb2
      have hb3 := Nat.le_of_ble_eq_true hb3
      have hb4 := Nat.eq_of_beq_eq_true hb4
      have hm0 := Nat.le_of_ble_eq_true hb5
      split at h
      · rename_i ow1 A0 ow X hlk hlk'
        obtain ⟨⟨rfl, rfl, h1, h2, h3⟩, hK⟩ := h
        refine ⟨_, ⟨?_, ?_⟩, hK⟩
        rotate_left
        · intro j hj; simp at hj; subst hj; simp
        intro ρ s a w hs hr hk hnew hdst KK Q hKK
        obtain ⟨hfr, hlt, hn0⟩ := hnew nx (by simp)
        have hl1 : look s.H k = some (ow1, .arr A0) := by rw [hk k (by simp)]; exact hlk
        have hl2 : look s.H k' = some (ow, .arr (A0.setXs zs)) := by rw [hk k' (by simp)]; exact hlk'
        have hfit : ∀ z, z ∈ o.op.operands.toList → (ev e z).rel ρ (a.eval z) := fun z hz => reads_fit hz (fun t ht => by rw [← hr t ht]; exact hs.env t)
        have hx1 := hfit x hx
        have hy1 := hfit y hy
        rw [hex] at hx1; rw [hey] at hy1
        exact appCN_core hB A0 zs hone ho hc hca hct ht ht' hti hb1 hb2 hb3 hb4 hm0 hs hl1 (hs.heap.reg k' ow _ hl2) h1 h2 h3 hx1 hy1 hfr hlt hn0 hdst hKK
      · exact h.elim
    · exact h.elim
  · exact h.elim

def appC1K (B : Tabs) (A : Arr) (z : A.α) (t t' : TypeId) (x y : SV) (H : Heap) (nx : Nat) (K : Eff → Prop) : Prop :=
  match lookT B.T t, lookT B.T t', x, y with
  | some ⟨.slice el, _, _, _⟩, some ⟨.slice _, _, _, _⟩, .c (.cut k hh sz), .c (.s k' 0 1 sz') => (match lookT B.T el with
    | some ti => bif (Nat.beq ti.size sz && Nat.beq sz sz') && (Nat.ble 1 sz && (Nat.beq sz A.sz && Nat.ble 1 1)) then (match look H k, look H k' with
      | some (_, .arr A0), some (_, .arr X) => (A0 = A ∧ X = A.setXs [z] ∧ hh = A.xs.length ∧ (hh + 1) * (ti.bytes + 1) ≤ 140737488355328) ∧
          K ⟨.c (.s nx 0 (hh + 1) sz), [k, k'], [(nx, true, .arr (A.setXs (A.xs ++ [z])))], [nx]⟩
      | _, _ => False) else False
    | none => False)
  | _, _, _, _ => False

theorem appCNK_of_1 {B : Tabs} {A : Arr} {z : A.α} {t t' : TypeId} {x y : SV} {H : Heap} {nx : Nat} {K : Eff → Prop} (h : appC1K B A z t t' x y H nx K) : appCNK B A [z] t t' x y H nx K := by
  unfold appC1K at h
  split at h
  · rename_i el s0 b0 z0 el' s1 b1 z1 k hh sz k' sz' ht ht'
    split at h
    · rename_i ti hti
      obtain ⟨hb, hq⟩ := bif_and h
      clear h
      split at hq
      · rename_i ow1 A0 ow X hlk hlk'
        obtain ⟨⟨h1, h2, rfl, h3⟩, hK⟩ := hq
        unfold appCNK
        simp only [ht, ht', hti, hb, cond_true, hlk, hlk']
        refine ⟨⟨h1, h2, Nat.le_refl _, by simp, h3⟩, ?_⟩
        have e1 : A.xs.take A.xs.length ++ ([z].drop 0).take 1 = A.xs ++ [z] := by simp
        rw [e1]
        exact hK
      · exact hq.elim
    · exact h.elim
  · exact h.elim

theorem appC1_step {cx : Cx} {B : Tabs} (hB : TabsOK cx.P B) {o : Oper} {e : Env} {H : Heap} {nx : Nat} {K : Eff → Prop} {c : Call} {x y : Operand} {t t' : TypeId} (A : Arr) (z : A.α)
    (hone : ∀ x, allOne (A.enc x) = true) (ho : o.op = .call c) (hc : c.callee = .builtin .append) (hca : c.args = #[x, y]) (hct : c.argTypes = #[t, t'])
    (h : appC1K B A z t t' (ev e x) (ev e y) H nx K) : ∃ F, CallOK cx o e H nx F ∧ K F := appCN_step hB A [z] hone ho hc hca hct (appCNK_of_1 h)

end Sx
end Go

namespace Go
namespace Sx

end Sx
end Go

namespace Go.Proofs
open Go.Sx

def fewRd (r : Rd) : Bool := decide (r.bs.length ≤ 10) && decide (cntR r ≤ 24)

theorem few_rd_t (r : Rd) (hw : Wide r) : Triple Tryz.prog 15 [rdA r] (rdH r) 4 (bv (fewRd r)) [] := by
  obtain ⟨w1, w2, w3, w4⟩ := hw
  have e : fewRd r = (decide (r.bs.length ≤ 10) && decide (r.cs.length + r.ns.length + r.ws.length ≤ 24)) := rfl
  generalize fewRd r = R at *
  obtain ⟨bs, cs, ns, ws⟩ := r
  dsimp only at *
  refine triple_of tB_ok Tryz.func15 rfl Tryz.call15 rfl ?_
  intro ρ w hH
  conv=>whnf
  refine ⟨fun hc => ?_, fun hc => ?_⟩
  rotate_left
  · have h1 : ¬ bs.length ≤ 10 := by have := of_decide_eq_false (show decide ((bs.length : Int) ≤ 10) = false from hc); omega
    rw [decide_eq_false h1, Bool.false_and] at e
    subst e
    conv=>whnf
    repeat' (first | exact trivial | exact rfl | refine And.intro ?_ ?_ | ((conv=>whnf); first | exact trivial | exact rfl | refine And.intro ?_ ?_ | omega))
  have h1 : bs.length ≤ 10 := by have := of_decide_eq_true (show decide ((bs.length : Int) ≤ 10) = true from hc); omega
  rw [decide_eq_true h1, Bool.true_and] at e
  conv=>whnf
  refine ⟨((cs.length + ns.length : Nat) : Int), (show IntKind.i64.wrap ((cs.length : Int) + ns.length) = ((cs.length + ns.length : Nat) : Int) by rw [wrapId ⟨by omega, by omega⟩]; omega), ?_⟩
  conv=>whnf
  refine ⟨((cs.length + ns.length + ws.length : Nat) : Int), (show IntKind.i64.wrap (((cs.length + ns.length : Nat) : Int) + ws.length) = ((cs.length + ns.length + ws.length : Nat) : Int) by rw [wrapId ⟨by omega, by omega⟩]; omega), ?_⟩
  conv=>whnf
  generalize cs.length + ns.length + ws.length = n at *
  have h4 : decide ((n : Int) ≤ 24) = R := by rw [e]; exact decide_eq_decide.2 (by omega)
  rw [← h4]
  conv=>whnf
  repeat' (first | exact trivial | exact rfl | refine And.intro ?_ ?_ | ((conv=>whnf); first | exact trivial | exact rfl | refine And.intro ?_ ?_ | omega))

theorem few_sml {r : Rd} (h : fewRd r = true) : Sml r := by
  unfold fewRd cntR at h
  simp at h
  exact ⟨by omega, by omega, by omega, by omega⟩

theorem fewRd_bd {r : Rd} (h : fewRd r = true) : r.bs.length ≤ 10 ∧ r.cs.length + r.ns.length + r.ws.length ≤ 24 := by
  unfold fewRd cntR at h
  simp at h
  exact h

theorem addW_A (r : Rd) (w : Wgh) : rdA (addW r w) = .agg [.s 0 0 r.bs.length 6, .s 2 0 r.cs.length 5, .s 3 0 r.ns.length 6, .s 1 0 (r.ws.length + 1) 8] := by
  show SV.agg [.s 0 0 r.bs.length 6, .s 2 0 r.cs.length 5, .s 3 0 r.ns.length 6, .s 1 0 (r.ws ++ [w]).length 8] = _
  rw [List.length_append]; rfl

theorem addW_sml {r : Rd} {c : Wgh} (h : fewRd r = true) : Sml (addW r c) := by
  have h := fewRd_bd h
  exact ⟨by simp [addW]; omega, by simp [addW]; omega, by simp [addW]; omega, by simp [addW]; omega⟩

end Go.Proofs

namespace Go.Proofs
open Go.Sx

theorem foresee_moment (r : Rd) (w : Wgh) : foreseeF r w = if momentR r (wMom w) = 0 then (if thgF w.o = true then (if w.o ∈ objsF r then (if Calm (boxW r w) (lnkR r [wMom w]) 0 then foreseeV r w else ((0, 0), 9)) else ((0, 0), 5)) else ((0, 0), 1)) else ((0, 0), momentR r (wMom w)) := by
  unfold foreseeF momentR
  by_cases h0 : checkR r = 0
  · rw [if_pos h0, if_pos h0]
    by_cases hm : momOK r (wMom w) = true
    · by_cases ht : thgF w.o = true
      · rw [if_pos ⟨hm, ht⟩, if_pos hm, if_pos rfl, if_pos ht]
      · rw [if_neg (fun h => ht h.2), if_pos hm, if_pos rfl, if_neg ht]
    · rw [if_neg (fun h => hm h.1), if_neg hm, if_neg (by decide)]
  · rw [if_neg h0, if_neg h0, if_neg h0]

set_option maxHeartbeats 4000000 in
theorem rForesee_t (r : Rd) (u : Wgh) (hs : Sml r) (hf : r.cs.length + r.ns.length + r.ws.length ≤ 24) : Triple Tryz.prog 18 [rdA r, svWgh u] (rdH r) 4 (rngT (foreseeF r u)) [] := by
  have e := foresee_moment r u
  have hK := rMoment_t r (wMom u) hs
  have hT := rObject_t u.o
  generalize foreseeF r u = R at *
  by_cases h0 : momentR r (wMom u) = 0
  rotate_left
  · rw [if_neg h0] at e
    subst e
    generalize momentR r (wMom u) = c at *
    generalize thgF u.o = ok at *
    refine triple_of tB_ok Tryz.func18 rfl Tryz.call18 rfl ?_
    intro ρ w hH
    conv=>whnf
    refine call_step hK rfl rfl ?_
    conv=>whnf
    refine ⟨?_, ?_, ?_⟩
    iterate 2 · repeat' (first | exact trivial | exact rfl | refine And.intro ?_ ?_ | ((conv=>whnf); first | exact trivial | exact rfl | refine And.intro ?_ ?_ | omega))
    conv=>whnf
    refine call_step hT rfl rfl ?_
    conv=>whnf
    refine ⟨?_, ?_, ?_⟩
    iterate 2 · repeat' (first | exact trivial | exact rfl | refine And.intro ?_ ?_ | ((conv=>whnf); first | exact trivial | exact rfl | refine And.intro ?_ ?_ | omega))
    conv=>whnf
    refine ⟨fun hcc => ?_, fun hcc => absurd (by simpa using (show (c != 0) = false from hcc)) h0⟩
    conv=>whnf
    repeat' (first | exact trivial | exact rfl | refine And.intro ?_ ?_ | ((conv=>whnf); first | exact trivial | exact rfl | refine And.intro ?_ ?_ | omega))
  rw [if_pos h0] at e
  rw [h0] at hK
  by_cases ht : thgF u.o = true
  rotate_left
  · rw [if_neg ht] at e
    subst e
    have ht : thgF u.o = false := by simpa using ht
    rw [ht] at hT
    refine triple_of tB_ok Tryz.func18 rfl Tryz.call18 rfl ?_
    intro ρ w hH
    conv=>whnf
    refine call_step hK rfl rfl ?_
    conv=>whnf
    refine ⟨?_, ?_, ?_⟩
    iterate 2 · repeat' (first | exact trivial | exact rfl | refine And.intro ?_ ?_ | ((conv=>whnf); first | exact trivial | exact rfl | refine And.intro ?_ ?_ | omega))
    conv=>whnf
    refine call_step hT rfl rfl ?_
    conv=>whnf
    refine ⟨?_, ?_, ?_⟩
    iterate 2 · repeat' (first | exact trivial | exact rfl | refine And.intro ?_ ?_ | ((conv=>whnf); first | exact trivial | exact rfl | refine And.intro ?_ ?_ | omega))
    conv=>whnf
    refine ⟨fun hc => absurd hc (by simp), fun hc => ?_⟩
    conv=>whnf
    refine ⟨fun hc => ?_, fun hc => absurd hc (by simp)⟩
    conv=>whnf
    repeat' (first | exact trivial | exact rfl | refine And.intro ?_ ?_ | ((conv=>whnf); first | exact trivial | exact rfl | refine And.intro ?_ ?_ | omega))
  rw [if_pos ht] at e
  rw [ht] at hT
  have hO := rObjects_t r hs
  have hol := objsF_len r
  have hws := hs.ws
  have hP := rAtThg_t (objsF r) u.o (by omega)
  by_cases ho : u.o ∈ objsF r
  rotate_left
  · rw [if_neg ho] at e
    subst e
    have e1 : plF (objsF r) u.o = -1 := by unfold plF; rw [if_neg ho]
    rw [e1] at hP
    refine triple_of tB_ok Tryz.func18 rfl Tryz.call18 rfl ?_
    intro ρ w hH
    conv=>whnf
    refine call_step hK rfl rfl ?_
    conv=>whnf
    refine ⟨?_, ?_, ?_⟩
    iterate 2 · repeat' (first | exact trivial | exact rfl | refine And.intro ?_ ?_ | ((conv=>whnf); first | exact trivial | exact rfl | refine And.intro ?_ ?_ | omega))
    conv=>whnf
    refine call_step hT rfl rfl ?_
    conv=>whnf
    refine ⟨?_, ?_, ?_⟩
    iterate 2 · repeat' (first | exact trivial | exact rfl | refine And.intro ?_ ?_ | ((conv=>whnf); first | exact trivial | exact rfl | refine And.intro ?_ ?_ | omega))
    conv=>whnf
    refine ⟨fun hc => absurd hc (by simp), fun hc => ?_⟩
    conv=>whnf
    refine ⟨fun hc => absurd hc (by simp), fun hc => ?_⟩
    conv=>whnf
    refine call_step hO rfl rfl ?_
    conv=>whnf
    refine ⟨?_, ?_, ?_⟩
    iterate 2 · repeat' (first | exact trivial | exact rfl | refine And.intro ?_ ?_ | ((conv=>whnf); first | exact trivial | exact rfl | refine And.intro ?_ ?_ | omega))
    conv=>whnf
    refine call_step hP rfl rfl ?_
    conv=>whnf
    refine ⟨?_, ?_, ?_⟩
    iterate 2 · repeat' (first | exact trivial | exact rfl | refine And.intro ?_ ?_ | ((conv=>whnf); first | exact trivial | exact rfl | refine And.intro ?_ ?_ | omega))
    conv=>whnf
    refine ⟨fun hc => ?_, fun hc => absurd (show decide ((-1 : Int) < 0) = false from hc) (by decide)⟩
    conv=>whnf
    repeat' (first | exact trivial | exact rfl | refine And.intro ?_ ?_ | ((conv=>whnf); first | exact trivial | exact rfl | refine And.intro ?_ ?_ | omega))
  rw [if_pos ho] at e
  obtain ⟨h, hmo⟩ := moment_ok h0
  have hml : ∀ k ∈ [wMom u], momOK r k = true := by simpa using hmo
  have hmm : wMom u ∈ momsF r [wMom u] := momsF_mem.2 (.inr (.inr (by simp)))
  have hsy := boxW_sys h ho hmo
  have hfw0 := rd_few (r := r) (more := [wMom u]) (by simp) hf
  have hbw := boxW_len r u
  have hfw : FewS (boxW r u) (lnkR r [wMom u]) := ⟨by rw [hbw]; exact hfw0.nb, by rw [hbw]; exact hfw0.nl⟩
  have hA := agrC_t hsy hfw
  have hW := rWith_t r [wMom u] h (by simp) hml
  have hml2 := momsF_len r [wMom u]
  have hF := rFind_t r u.bal (by have := hs.bs; omega)
  have hwb : hasB r.bs u.bal = true := by unfold momOK at hmo; exact (Bool.and_eq_true _ _ ▸ hmo).1
  obtain ⟨_, hhalf, _, _, _⟩ := valid_bd (h.findD hwb)
  have hcs := hs.cs
  have hQ := rAtMom_t (momsF r [wMom u]) (wMom u) (by simp at hml2; omega)
  obtain ⟨e1, l1⟩ := plF_mem ho
  obtain ⟨e2, l2⟩ := plF_mem hmm
  obtain ⟨hat, hkl⟩ := boxW_at ho
  have hob : -1 ≤ plF (objsF r) u.o ∧ plF (objsF r) u.o < (boxW r u).length := by rw [hbw]; exact obj_bd ho
  have hmb : -1 ≤ (objsF r).length + plF (momsF r [wMom u]) (wMom u) ∧ (objsF r).length + plF (momsF r [wMom u]) (wMom u) < (boxW r u).length := by rw [hbw]; exact mom_bd hmm
  have hG : Calm (boxW r u) (lnkR r [wMom u]) 0 → Triple Tryz.prog 91 [sysA (boxR r [wMom u]).length (lnkR r [wMom u]).length, iv .i64 ((objsF r).length + plF (momsF r [wMom u]) (wMom u)), iv .i64 (plF (objsF r) u.o)] (sysH (boxW r u) (lnkR r [wMom u])) 2 (rngT (rangeW r u, 0)) [] := fun hc => by
    have := rngC_t hsy hfw hc hmb hob
    unfold betweenF at this
    rw [if_pos hc, hbw] at this
    unfold rangeW
    rw [hbw]
    exact this
  rw [hbw] at hA
  have eV : foreseeV r u = if min 10000000 ((rangeW r u).2 + (findD r.bs u.bal).half) < max 0 ((rangeW r u).1 - (findD r.bs u.bal).half) then ((0, 0), 3)
    else ((max 0 ((rangeW r u).1 - (findD r.bs u.bal).half), min 10000000 ((rangeW r u).2 + (findD r.bs u.bal).half)), 0) := rfl
  have hgl := graphF_len hsy 0
  have hnb := hsy.nb
  have hb1 : -700000000000000 ≤ (rangeW r u).1 ∧ (rangeW r u).1 ≤ 700000000000000 := by
    have := mostF_bd (boxW r u).length (graphF (boxW r u) (lnkR r [wMom u]) 0) (plF (objsF r) u.o) ((objsF r).length + plF (momsF r [wMom u]) (wMom u)) (by omega) (by omega) (graphF_ok hsy 0)
    unfold rangeW; dsimp only; omega
  have hb2 : -700000000000000 ≤ (rangeW r u).2 ∧ (rangeW r u).2 ≤ 700000000000000 := by
    have := mostF_bd (boxW r u).length (graphF (boxW r u) (lnkR r [wMom u]) 0) ((objsF r).length + plF (momsF r [wMom u]) (wMom u)) (plF (objsF r) u.o) (by omega) (by omega) (graphF_ok hsy 0)
    unfold rangeW; dsimp only; omega
  have e1b : (plF (objsF r) u.o).toNat = (objsF r).idxOf u.o := by omega
  have hkl2 : (objsF r).idxOf u.o < (boxR r [wMom u]).length := by rw [← e1b]; exact hkl
  have hset2 : (boxR r [wMom u]).set ((objsF r).idxOf u.o) (((boxR r [wMom u])[(objsF r).idxOf u.o]'hkl2).1, min ((boxR r [wMom u])[(objsF r).idxOf u.o]'hkl2).2 (findD r.bs u.bal).cap) = boxW r u := by
    have : (boxR r [wMom u])[(objsF r).idxOf u.o]'hkl2 = (0, capF r u.o) := by
      rw [e1b, List.getElem?_eq_getElem hkl2] at hat
      exact Option.some.inj hat
    rw [this, ← e1b]; rfl
  have hpb : 0 ≤ plF (momsF r [wMom u]) (wMom u) ∧ plF (momsF r [wMom u]) (wMom u) ≤ 100000000 := by simp at hml2; omega
  rw [e1] at hP hG
  clear hat hkl e1b hsy hfw0 hfw hml2 hgl hnb e1 l1 e2 l2 hob hmb hml hmm h0
  generalize (objsF r).idxOf u.o = k at *
  generalize plF (momsF r [wMom u]) (wMom u) = q at *
  generalize rangeW r u = V at *
  generalize foreseeV r u = VV at *
  generalize boxW r u = bw at *
  generalize boxR r [wMom u] = bs at *
  generalize lnkR r [wMom u] = ls at *
  generalize objsF r = os at *
  generalize momsF r [wMom u] = ms at *
  generalize findD r.bs u.bal = d at *
  obtain ⟨lo, hi⟩ := V
  dsimp only at hb1 hb2 hG eV
  by_cases hc : Calm bw ls 0
  · have hG := hG hc
    rw [if_pos hc] at e
    rw [e]
    rw [decide_eq_true hc] at hA
    refine triple_of tB_ok Tryz.func18 rfl Tryz.call18 rfl ?_
    intro ρ w hH
    conv=>whnf
    refine call_step hK rfl rfl ?_
    conv=>whnf
    refine ⟨?_, ?_, ?_⟩
    iterate 2 · repeat' (first | exact trivial | exact rfl | refine And.intro ?_ ?_ | ((conv=>whnf); first | exact trivial | exact rfl | refine And.intro ?_ ?_ | omega))
    conv=>whnf
    refine call_step hT rfl rfl ?_
    conv=>whnf
    refine ⟨?_, ?_, ?_⟩
    iterate 2 · repeat' (first | exact trivial | exact rfl | refine And.intro ?_ ?_ | ((conv=>whnf); first | exact trivial | exact rfl | refine And.intro ?_ ?_ | omega))
    conv=>whnf
    refine ⟨fun hc => absurd hc (by simp), fun hc => ?_⟩
    conv=>whnf
    refine ⟨fun hc => absurd hc (by simp), fun hc => ?_⟩
    conv=>whnf
    refine call_step hO rfl rfl ?_
    conv=>whnf
    refine ⟨?_, ?_, ?_⟩
    iterate 2 · repeat' (first | exact trivial | exact rfl | refine And.intro ?_ ?_ | ((conv=>whnf); first | exact trivial | exact rfl | refine And.intro ?_ ?_ | omega))
    conv=>whnf
    refine call_step hP rfl rfl ?_
    conv=>whnf
    refine ⟨?_, ?_, ?_⟩
    iterate 2 · repeat' (first | exact trivial | exact rfl | refine And.intro ?_ ?_ | ((conv=>whnf); first | exact trivial | exact rfl | refine And.intro ?_ ?_ | omega))
    conv=>whnf
    refine ⟨fun hc => absurd (of_decide_eq_true (show decide ((k : Int) < 0) = true from hc)) (by omega), fun hc => ?_⟩
    conv=>whnf
    refine bs_step tB_ok (aMom [wMom u]) rfl rfl ?_
    conv=>whnf
    refine ⟨⟨rfl, (by repeat' (first | exact trivial | exact rfl | refine And.intro ?_ ?_ | ((conv=>whnf); first | exact trivial | exact rfl | refine And.intro ?_ ?_ | omega)))⟩, ?_⟩
    conv=>whnf
    refine call_step hW rfl rfl ?_
    conv=>whnf
    refine ⟨?_, ?_, ?_⟩
    iterate 2 · repeat' (first | exact trivial | exact rfl | refine And.intro ?_ ?_ | ((conv=>whnf); first | exact trivial | exact rfl | refine And.intro ?_ ?_ | omega))
    conv=>whnf
    refine call_step hF rfl rfl ?_
    conv=>whnf
    refine ⟨?_, ?_, ?_⟩
    iterate 2 · repeat' (first | exact trivial | exact rfl | refine And.intro ?_ ?_ | ((conv=>whnf); first | exact trivial | exact rfl | refine And.intro ?_ ?_ | omega))
    conv=>whnf
    refine ⟨k, rfl, hkl2, hkl2, ?_⟩
    conv=>whnf
    refine ⟨k, rfl, hkl2, hkl2, (bs[k].1, min bs[k].2 d.cap), rfl, ?_⟩
    conv=>whnf
    refine call_step hA rfl rfl ?_
    conv=>whnf
    refine ⟨(by repeat' (first | exact trivial | exact rfl | refine And.intro ?_ ?_ | ((conv=>whnf); first | exact trivial | exact rfl | refine And.intro ?_ ?_ | omega))), ?_, ?_⟩
    · repeat' (first | exact trivial | exact rfl | refine And.intro ?_ ?_ | ((conv=>whnf); first | exact trivial | exact rfl | refine And.intro ?_ ?_ | omega))
      all_goals exact congrArg aSpan hset2
    conv=>whnf
    refine ⟨fun hc => absurd hc (by simp), fun hc => ?_⟩
    conv=>whnf
    refine call_step hO rfl rfl ?_
    conv=>whnf
    refine ⟨?_, ?_, ?_⟩
    iterate 2 · repeat' (first | exact trivial | exact rfl | refine And.intro ?_ ?_ | ((conv=>whnf); first | exact trivial | exact rfl | refine And.intro ?_ ?_ | omega))
    conv=>whnf
    refine call_step hQ rfl rfl ?_
    conv=>whnf
    refine ⟨?_, ?_, ?_⟩
    iterate 2 · repeat' (first | exact trivial | exact rfl | refine And.intro ?_ ?_ | ((conv=>whnf); first | exact trivial | exact rfl | refine And.intro ?_ ?_ | omega))
    conv=>whnf
    refine ⟨(os.length : Int) + q, wrapId (z := (os.length : Int) + q) ⟨by omega, by omega⟩, ?_⟩
    conv=>whnf
    refine call_step hG rfl rfl ?_
    conv=>whnf
    refine ⟨(by repeat' (first | exact trivial | exact rfl | refine And.intro ?_ ?_ | ((conv=>whnf); first | exact trivial | exact rfl | refine And.intro ?_ ?_ | omega))), ?_, ?_⟩
    · repeat' (first | exact trivial | exact rfl | refine And.intro ?_ ?_ | ((conv=>whnf); first | exact trivial | exact rfl | refine And.intro ?_ ?_ | omega))
      all_goals exact congrArg aSpan hset2
    conv=>whnf
    refine ⟨lo - d.half, wrapId (z := lo - d.half) ⟨by omega, by omega⟩, ?_⟩
    conv=>whnf
    refine ⟨hi + d.half, wrapId (z := hi + d.half) ⟨by omega, by omega⟩, ?_⟩
    conv=>whnf
    refine ⟨fun hcc => ?_, fun hcc => ?_⟩
    · rw [if_pos (of_decide_eq_true (show decide (min 10000000 (hi + d.half) < max 0 (lo - d.half)) = true from hcc))] at eV
      subst eV
      conv=>whnf
      repeat' (first | exact trivial | exact rfl | refine And.intro ?_ ?_ | ((conv=>whnf); first | exact trivial | exact rfl | refine And.intro ?_ ?_ | omega))
    · rw [if_neg (of_decide_eq_false (show decide (min 10000000 (hi + d.half) < max 0 (lo - d.half)) = false from hcc))] at eV
      subst eV
      conv=>whnf
      repeat' (first | exact trivial | exact rfl | refine And.intro ?_ ?_ | ((conv=>whnf); first | exact trivial | exact rfl | refine And.intro ?_ ?_ | omega))
  · rw [if_neg hc] at e
    rw [e]
    rw [decide_eq_false hc] at hA
    refine triple_of tB_ok Tryz.func18 rfl Tryz.call18 rfl ?_
    intro ρ w hH
    conv=>whnf
    refine call_step hK rfl rfl ?_
    conv=>whnf
    refine ⟨?_, ?_, ?_⟩
    iterate 2 · repeat' (first | exact trivial | exact rfl | refine And.intro ?_ ?_ | ((conv=>whnf); first | exact trivial | exact rfl | refine And.intro ?_ ?_ | omega))
    conv=>whnf
    refine call_step hT rfl rfl ?_
    conv=>whnf
    refine ⟨?_, ?_, ?_⟩
    iterate 2 · repeat' (first | exact trivial | exact rfl | refine And.intro ?_ ?_ | ((conv=>whnf); first | exact trivial | exact rfl | refine And.intro ?_ ?_ | omega))
    conv=>whnf
    refine ⟨fun hc => absurd hc (by simp), fun hc => ?_⟩
    conv=>whnf
    refine ⟨fun hc => absurd hc (by simp), fun hc => ?_⟩
    conv=>whnf
    refine call_step hO rfl rfl ?_
    conv=>whnf
    refine ⟨?_, ?_, ?_⟩
    iterate 2 · repeat' (first | exact trivial | exact rfl | refine And.intro ?_ ?_ | ((conv=>whnf); first | exact trivial | exact rfl | refine And.intro ?_ ?_ | omega))
    conv=>whnf
    refine call_step hP rfl rfl ?_
    conv=>whnf
    refine ⟨?_, ?_, ?_⟩
    iterate 2 · repeat' (first | exact trivial | exact rfl | refine And.intro ?_ ?_ | ((conv=>whnf); first | exact trivial | exact rfl | refine And.intro ?_ ?_ | omega))
    conv=>whnf
    refine ⟨fun hc => absurd (of_decide_eq_true (show decide ((k : Int) < 0) = true from hc)) (by omega), fun hc => ?_⟩
    conv=>whnf
    refine bs_step tB_ok (aMom [wMom u]) rfl rfl ?_
    conv=>whnf
    refine ⟨⟨rfl, (by repeat' (first | exact trivial | exact rfl | refine And.intro ?_ ?_ | ((conv=>whnf); first | exact trivial | exact rfl | refine And.intro ?_ ?_ | omega)))⟩, ?_⟩
    conv=>whnf
    refine call_step hW rfl rfl ?_
    conv=>whnf
    refine ⟨?_, ?_, ?_⟩
    iterate 2 · repeat' (first | exact trivial | exact rfl | refine And.intro ?_ ?_ | ((conv=>whnf); first | exact trivial | exact rfl | refine And.intro ?_ ?_ | omega))
    conv=>whnf
    refine call_step hF rfl rfl ?_
    conv=>whnf
    refine ⟨?_, ?_, ?_⟩
    iterate 2 · repeat' (first | exact trivial | exact rfl | refine And.intro ?_ ?_ | ((conv=>whnf); first | exact trivial | exact rfl | refine And.intro ?_ ?_ | omega))
    conv=>whnf
    refine ⟨k, rfl, hkl2, hkl2, ?_⟩
    conv=>whnf
    refine ⟨k, rfl, hkl2, hkl2, (bs[k].1, min bs[k].2 d.cap), rfl, ?_⟩
    conv=>whnf
    refine call_step hA rfl rfl ?_
    conv=>whnf
    refine ⟨(by repeat' (first | exact trivial | exact rfl | refine And.intro ?_ ?_ | ((conv=>whnf); first | exact trivial | exact rfl | refine And.intro ?_ ?_ | omega))), ?_, ?_⟩
    · repeat' (first | exact trivial | exact rfl | refine And.intro ?_ ?_ | ((conv=>whnf); first | exact trivial | exact rfl | refine And.intro ?_ ?_ | omega))
      all_goals exact congrArg aSpan hset2
    conv=>whnf
    refine ⟨fun hc => ?_, fun hc => absurd hc (by simp)⟩
    conv=>whnf
    repeat' (first | exact trivial | exact rfl | refine And.intro ?_ ?_ | ((conv=>whnf); first | exact trivial | exact rfl | refine And.intro ?_ ?_ | omega))

end Go.Proofs

