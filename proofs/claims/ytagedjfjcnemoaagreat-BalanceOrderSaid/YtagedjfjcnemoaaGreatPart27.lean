/-
  A part of the proof that a law answers true: lemmas of a symbolic walk, plain functions, or contracts of the functions walked (Wo, Wp, Ca, Rj, Sx47, Sx33, Rk, RB, Sx32, RD, RO). Conditions: none.
-/
import Derived.Test.YtagedjfjcnemoaaGreatPart09
import Derived.Test.YtagedjfjcnemoaaGreatPart24
import Derived.Test.YtagedjfjcnemoaaGreatPart25
import Derived.Test.YtagedjfjcnemoaaGreatPart26
import Derived.Test.YtagedjfjcnemoaaGreatPart23
import Derived.Test.YtagedjfjcnemoaaGreatRows
import Derived.Test.YtagedjfjcnemoaaGreatChecked
import Derived.WideKeyArgs
import Derived.Carry
import Derived.Handed
import Derived.RowKit
import Derived.JoinedOf
import Derived.ChangeSame
import Derived.Test.YtagedjfjcnemoaaGreatPart15
import Derived.Test.YtagedjfjcnemoaaGreatPart11
import Derived.Test.YtagedjfjcnemoaaGreatPart07
import Derived.Test.YtagedjfjcnemoaaGreatPart13
import Derived.Lib.AppendZeros
import Derived.Test.YtagedjfjcnemoaaGreatPart14
import Derived.Test.YtagedjfjcnemoaaGreatPart19
set_option maxRecDepth 100000
set_option linter.unusedVariables false
set_option linter.unusedSimpArgs false
namespace Go.Proofs
open Go.Sx Go.ChangeShapes Go.WideShapes Go.RowKit

theorem below_of {W W' : World} (h : Frm W W' []) : Below W.heap.size W { W' with tape := W.tape } :=
  ⟨h.io.1, rfl, h.io.2, h.size, fun k hk => h.same k hk (by simp)⟩

theorem A_own : ownKnob Tryz.prog.godebug = none := by kernel_rfl
theorem A_laidOut : laidOutB Tryz.prog = true := fact_laid
theorem A_undBool : Tryz.prog.underlying 4 = some .bool := by kernel_rfl

end Go.Proofs

namespace Go.Proofs
open Go.Sx Go.ChangeShapes Go.WideShapes Go.RowKit Go.Deep

def Came (w : World) (v : Value) (sv : SV) (H : Heap) (ks : List (Nat × Rg)) : Prop := ∀ ρ : Asg, (∀ p ∈ ks, ρ p.1 = p.2) →
  sv.rel ρ v ∧ ∀ e ∈ H, e.2.1 = false ∧ SatO ρ w e.1 false e.2.2 ∧ (0 < e.2.2.room (ρ e.1) → (ρ e.1).blk < w.heap.size)

def CameAll (w : World) (vs : List Value) (svs : List SV) (H : Heap) (ks : List (Nat × Rg)) : Prop := ∀ ρ : Asg, (∀ p ∈ ks, ρ p.1 = p.2) →
  relVs ρ svs vs ∧ ∀ e ∈ H, e.2.1 = false ∧ SatO ρ w e.1 false e.2.2 ∧ (0 < e.2.2.room (ρ e.1) → (ρ e.1).blk < w.heap.size)

theorem cameAll_nil (w : World) : CameAll w [] [] [] [] := fun _ _ => ⟨trivial, fun e he => by cases he⟩

theorem cameAll_cons {w : World} {v : Value} {vs : List Value} {sv : SV} {svs : List SV} {H H' : Heap} {ks ks' : List (Nat × Rg)} (h : Came w v sv H ks) (h' : CameAll w vs svs H' ks') : CameAll w (v :: vs) (sv :: svs) (H ++ H') (ks ++ ks') := by
  intro ρ hρ
  obtain ⟨h1, h2⟩ := h ρ fun p hp => hρ p (List.mem_append.2 (.inl hp))
  obtain ⟨h3, h4⟩ := h' ρ fun p hp => hρ p (List.mem_append.2 (.inr hp))
  refine ⟨⟨h1, h3⟩, fun e he => ?_⟩
  rcases List.mem_append.1 he with he | he
  · exact h2 e he
  · exact h4 e he

def asgOf : List (Nat × Rg) → Asg
  | [], _ => ⟨0, 0, 0⟩
  | (k, r) :: t, j => if j = k then r else asgOf t j

theorem asgOf_ok : ∀ {ks : List (Nat × Rg)}, (ks.map (·.1)).Nodup → ∀ p ∈ ks, asgOf ks p.1 = p.2
  | [], _, p, hp => by cases hp
  | (k, r) :: t, hn, p, hp => by
    simp only [List.map_cons, List.nodup_cons] at hn
    rcases List.mem_cons.1 hp with rfl | hq
    · simp [asgOf]
    · have hne : p.1 ≠ k := fun he => hn.1 (he ▸ List.mem_map_of_mem hq)
      simp only [asgOf, if_neg hne]
      exact asgOf_ok hn.2 p hq

theorem look_mem : ∀ {H : Heap} {k : Nat} {x : Bool × SO}, Sx.look H k = some x → (k, x) ∈ H
  | [], _, _, h => by cases h
  | (j, o) :: r, k, x, h => by
    rw [look_cons] at h
    by_cases hk : k = j
    · rw [if_pos hk] at h
      rw [← Option.some.inj h, hk]; exact List.mem_cons_self ..
    · rw [if_neg hk] at h
      exact List.mem_cons_of_mem _ (look_mem h)

theorem came_sat {w : World} {vs : List Value} {svs : List SV} {H : Heap} {ks : List (Nat × Rg)} (h : CameAll w vs svs H ks) (hn : (ks.map (·.1)).Nodup) :
    ∃ ρ : Asg, relVs ρ svs vs ∧ SatH w (ownB ρ H) ρ H w := by
  obtain ⟨h1, h2⟩ := h (asgOf ks) (asgOf_ok hn)
  refine ⟨asgOf ks, h1, Frm.refl _ _, ?_, ?_, ?_, ?_⟩
  · intro k own o hk
    obtain ⟨h3, h4, _⟩ := h2 _ (look_mem hk)
    have h3 : own = false := h3
    subst h3; exact h4
  · intro k k' o own' o' _ hk
    have := (h2 _ (look_mem hk)).1; cases this
  · intro k o hk
    have := (h2 _ (look_mem hk)).1; cases this
  · intro k own o hk hp
    exact (h2 _ (look_mem hk)).2.2 hp

theorem came_int {base : Nat} {H : Type} {enc : TypeId × Value → H} {w : World} {v : Value} {d : DataW H} {p : List MemPlace} {t : TypeId} {k : IntKind} (ht : Tryz.prog.underlying t = some (.int k)) (hok : Value.okWide Tryz.prog w .any base t v)
    (h : DataW.Trod enc Tryz.prog w 0 (fun _ => true) true t v d p) : ∃ z : Int, Came w v (iv k z) [] [] ∧ (Lit.int k z).wf = true := by
  obtain ⟨n, rfl⟩ := okWide_int ht hok
  obtain ⟨fuel, hf⟩ := h
  obtain ⟨m, hm, _, hw⟩ := DataW.trod_int ht hf
  have : m = n := by simpa [Value.cells] using hm.symm
  subst this
  exact ⟨m, fun ρ _ => ⟨rfl, fun e he => by cases he⟩, hw⟩

theorem trodAll_keep {H : Type} {enc : TypeId × Value → H} {W W' : World} (hfrm : Frm W W' []) : ∀ {ts : List TypeId} {vs : List Value} {ds : List (DataW H)} {p : List MemPlace}, (∀ t ∈ ts, Tryz.prog.readableRec t = true ∧ t < Tryz.prog.types.size) →
    DataW.TrodAll enc Tryz.prog W 0 (fun _ => true) true ts vs ds p → (∀ x ∈ p, x.block < W.heap.size) → DataW.TrodAll enc Tryz.prog { W' with tape := W.tape } 0 (fun b => decide (b < W.heap.size)) true ts vs ds p
  | [], vs, ds, p, _, h, _ => by
    obtain ⟨rfl, rfl, rfl⟩ := trodAll_nil h
    exact trodAll_mk0
  | t :: ts, vs, ds, p, hr, h, hlt => by
    obtain ⟨v, vs', d, ds', p1, p2, rfl, rfl, rfl, hd, hrest⟩ := trodAll_cons h
    have ht := hr t (List.mem_cons_self ..)
    refine ⟨p1, p2, ?_, ?_, rfl⟩
    · exact Below.trod A_laidOut ht.1 ht.2 hd (below_of hfrm) fun x hx => hlt x (List.mem_append.2 (.inl hx))
    · exact trodAll_keep hfrm (fun t ht => hr t (List.mem_cons_of_mem _ ht)) hrest fun x hx => hlt x (List.mem_append.2 (.inr hx))

end Go.Proofs

namespace Go.Proofs
open Go.Sx Go.ChangeShapes Go.WideShapes Go.RowKit Go.Deep

def chkFs (L : List (Nat × Nat)) : List Field → Nat → Nat → Bool
  | [], j, n => Nat.beq j n
  | f :: r, j, n => Nat.beq f.offset j && (match lookN L f.type with
    | some m => chkFs L r (j + m) n
    | none => false)

theorem chkFs_ok {P : Program} {L : List (Nat × Nat)} (hL : ∀ t n, lookN L t = some n → AllI P t n) : ∀ {fs : List Field} {j n : Nat}, chkFs L fs j n = true → AllFs P fs j n
  | [], _, _, h => Nat.eq_of_beq_eq_true h
  | f :: r, j, n, h => by
    simp only [chkFs, Bool.and_eq_true] at h
    obtain ⟨h1, h2⟩ := h
    split at h2
    · rename_i m hm
      exact ⟨m, Nat.eq_of_beq_eq_true h1, hL _ _ hm, chkFs_ok hL h2⟩
    · cases h2

theorem allN_nil {P : Program} : ∀ t n, lookN [] t = some n → AllI P t n := by intro t n h; simp [lookN] at h
theorem allN_cons {P : Program} {t m : Nat} {L : List (Nat × Nat)} (h : AllI P t m) (hL : ∀ t n, lookN L t = some n → AllI P t n) : ∀ t' n, lookN ((t, m) :: L) t' = some n → AllI P t' n := by
  intro t' n h'
  simp only [lookN] at h'
  cases hb : Nat.beq t' t with
  | true => simp [hb] at h'; subst h'; rw [Nat.eq_of_beq_eq_true hb]; exact h
  | false => simp [hb] at h'; exact hL _ _ h'

theorem I_int : AllI Tryz.prog 3 1 := allI_int (by kernel_rfl) (by kernel_rfl)
theorem I_state : AllI Tryz.prog 28 1 := allI_int (by kernel_rfl) (by kernel_rfl)
theorem L_int : ∀ t n, lookN [(3, 1), (28, 1)] t = some n → AllI Tryz.prog t n := allN_cons I_int (allN_cons I_state allN_nil)
theorem I_span : AllI Tryz.prog 37 2 := allI_struct (fs := Tryz.prog.fieldsOf 37) (by kernel_rfl) (by kernel_rfl) (chkFs_ok L_int (by kernel_rfl))
theorem I_thg : AllI Tryz.prog 30 4 := allI_struct (fs := Tryz.prog.fieldsOf 30) (by kernel_rfl) (by kernel_rfl) (chkFs_ok L_int (by kernel_rfl))
theorem L_all : ∀ t n, lookN [(37, 2), (30, 4), (3, 1), (28, 1)] t = some n → AllI Tryz.prog t n := allN_cons I_span (allN_cons I_thg L_int)
theorem I_bal : AllI Tryz.prog 57 6 := allI_struct (fs := Tryz.prog.fieldsOf 57) (by kernel_rfl) (by kernel_rfl) (chkFs_ok L_all (by kernel_rfl))
theorem I_chk : AllI Tryz.prog 51 5 := allI_struct (fs := Tryz.prog.fieldsOf 51) (by kernel_rfl) (by kernel_rfl) (chkFs_ok L_all (by kernel_rfl))
theorem I_ntc : AllI Tryz.prog 93 6 := allI_struct (fs := Tryz.prog.fieldsOf 93) (by kernel_rfl) (by kernel_rfl) (chkFs_ok L_all (by kernel_rfl))
theorem I_wgh : AllI Tryz.prog 32 8 := allI_struct (fs := Tryz.prog.fieldsOf 32) (by kernel_rfl) (by kernel_rfl) (chkFs_ok L_all (by kernel_rfl))

theorem came_rec {base : Nat} {α H : Type} {enc : TypeId × Value → H} {w : World} {v : Value} {d : DataW H} {p : List MemPlace} {t n : Nat} (f : α → List Int) (mk : (Nat → Int) → α) (hmk : ∀ V, f (mk V) = (List.range n).map V)
    (hA : AllI Tryz.prog t n) (hs : Tryz.prog.underlying t = some (.struct (Tryz.prog.fieldsOf t))) (hok : Value.okWide Tryz.prog w .any base t v)
    (h : DataW.Trod enc Tryz.prog w 0 (fun _ => true) true t v d p) : ∃ x : α, Came w v (.agg (Sx.encI (f x))) [] [] := by
  obtain ⟨cs, rfl, hcs⟩ := okWide_struct hs hok
  obtain ⟨fuel, hf⟩ := h
  obtain ⟨hl, V, hV⟩ := hA.op hf
  have hl : cs.toList.length = n := hl
  have hV : ∀ j, j < n → cs.toList[j]? = some (.int .i64 (V j)) := hV
  refine ⟨mk V, fun ρ _ => ⟨⟨cs, rfl, ?_⟩, fun e he => by cases he⟩⟩
  have e : cs.toList = (f (mk V)).map (Value.int .i64) := by
    rw [hmk, List.map_map]
    apply List.ext_getElem?
    intro j
    by_cases hj : j < n
    · rw [hV j hj, List.getElem?_map, List.getElem?_range hj]; rfl
    · rw [List.getElem?_eq_none (by omega), List.getElem?_eq_none (by simp; omega)]
  rw [e]
  exact relEncI ρ _

theorem came_thg {base : Nat} {H : Type} {enc : TypeId × Value → H} {w : World} {v : Value} {d : DataW H} {p : List MemPlace} (hok : Value.okWide Tryz.prog w .any base 30 v)
    (h : DataW.Trod enc Tryz.prog w 0 (fun _ => true) true 30 v d p) : ∃ x : Thg, Came w v (svThg x) [] [] :=
  came_rec thgL (fun V => ⟨V 0, V 1, V 2, V 3⟩) (fun _ => rfl) I_thg (by kernel_rfl) hok h
theorem A_undRd : Tryz.prog.underlying 27 = some (.struct (Tryz.prog.fieldsOf 27)) := by kernel_rfl
theorem A_fldRd : ∃ f0 f1 f2 f3, Tryz.prog.fieldsOf 27 = #[f0, f1, f2, f3] ∧ (f0.type = 22 ∧ f0.offset = 0) ∧ (f1.type = 23 ∧ f1.offset = 1) ∧ (f2.type = 24 ∧ f2.offset = 2) ∧ f3.type = 25 ∧ f3.offset = 3 :=
  ⟨(Tryz.prog.fieldsOf 27)[0]!, (Tryz.prog.fieldsOf 27)[1]!, (Tryz.prog.fieldsOf 27)[2]!, (Tryz.prog.fieldsOf 27)[3]!, by kernel_rfl, ⟨by kernel_rfl, by kernel_rfl⟩, ⟨by kernel_rfl, by kernel_rfl⟩, ⟨by kernel_rfl, by kernel_rfl⟩, by kernel_rfl, by kernel_rfl⟩

structure Wide (r : Rd) : Prop where
  bs : r.bs.length ≤ 140737488351232
  cs : r.cs.length ≤ 140737488351232
  ns : r.ns.length ≤ 140737488351232
  ws : r.ws.length ≤ 140737488351232

abbrev rdK (k0 k1 k2 k3 : Nat) (r : Rd) : SV := .agg [.s k0 0 r.bs.length 6, .s k2 0 r.cs.length 5, .s k3 0 r.ns.length 6, .s k1 0 r.ws.length 8]
abbrev rdHK (k0 k1 k2 k3 : Nat) (r : Rd) : Heap := [(k0, false, .arr (aBal r.bs)), (k1, false, .arr (aWgh r.ws)), (k2, false, .arr (aChk r.cs)), (k3, false, .arr (aNtc r.ns))]

theorem weights_part {H : Type} {P : Program} {t : Nat} {fs : Array Field} {parts : List (DataW H)} (h : P.underlying t = some (.struct fs)) (hw : ∀ y ∈ (DataW.agg parts).weights P t, y ≤ reachBytes) {i : Nat} {f : Field} {d : DataW H} (hf : fs.toList[i]? = some f) (hd : parts[i]? = some d) :
    ∀ y ∈ d.weights P f.type, y ≤ reachBytes := fun y hy => hw y (by
  simp only [DataW.weights, h]
  exact DataW.weights_mem_each (j := i) (by rw [List.getElem?_map, hf]; rfl) hd y hy)

theorem room_pos {ρ : Asg} {k : Nat} {α : Type} {n : Nat} {f : α → List Int} {hf : ∀ x, (f x).length = n} {xs : List α} {r : Rg} (e : ρ k = r) {w : World} (h : 0 < r.cap → r.blk < w.heap.size) : 0 < (SO.arr (aRec n f hf xs)).room (ρ k) → (ρ k).blk < w.heap.size := by
  intro hp
  rw [e] at hp ⊢
  refine h (Nat.pos_of_ne_zero fun h0 => ?_)
  have hp : 0 < r.cap * n := hp
  rw [h0, Nat.zero_mul] at hp; cases hp

theorem came_rd {base : Nat} {H : Type} {enc : TypeId × Value → H} {w : World} {v : Value} {d : DataW H} {p : List MemPlace} (hok : Value.okWide Tryz.prog w .any base 27 v)
    (h : DataW.Trod enc Tryz.prog w 0 (fun _ => true) true 27 v d p) (hw : ∀ y ∈ d.weights Tryz.prog 27, y ≤ reachBytes) (k0 k1 k2 k3 : Nat) :
    ∃ (r : Rd) (q0 q1 q2 q3 : Rg), Wide r ∧ Came w v (rdK k0 k1 k2 k3 r) (rdHK k0 k1 k2 k3 r) [(k0, q0), (k1, q1), (k2, q2), (k3, q3)] := by
  obtain ⟨cs, rfl, hcs⟩ := okWide_struct A_undRd hok
  obtain ⟨fuel, hf⟩ := h
  have hc4 : Tryz.prog.cellsOf 27 = 4 := by kernel_rfl
  rw [hc4] at hcs
  obtain ⟨l⟩ := cs
  match l, hcs with
  | [a, b, c, e], _ =>
    obtain ⟨xs, m, _, hd, _, hxl, hff⟩ := DataW.trod_struct A_undRd hf
    have hd : d = .agg (xs.map (·.1)) := congrArg Prod.fst hd
    subst hd
    have hwp := fun {i : Nat} {f : Field} {d : DataW H} => weights_part (i := i) (f := f) (d := d) A_undRd hw
    obtain ⟨f0, f1, f2, f3, hfs, ⟨t0, o0⟩, ⟨t1, o1⟩, ⟨t2, o2⟩, t3, o3⟩ := A_fldRd
    rw [hfs] at hff hxl hwp
    have hxl : xs.length = 4 := hxl
    match xs, hxl with
    | [x0, x1, x2, x3], _ =>
    have h0 := hff 0 f0 rfl
    have h1 := hff 1 f1 rfl
    have h2 := hff 2 f2 rfl
    have h3 := hff 3 f3 rfl
    have w0 := hwp (i := 0) (f := f0) (d := x0.1) rfl rfl
    have w1 := hwp (i := 1) (f := f1) (d := x1.1) rfl rfl
    have w2 := hwp (i := 2) (f := f2) (d := x2.1) rfl rfl
    have w3 := hwp (i := 3) (f := f3) (d := x3.1) rfl rfl
    have c0 : Tryz.prog.cellsOf 22 = 1 := by kernel_rfl
    have c1 : Tryz.prog.cellsOf 23 = 1 := by kernel_rfl
    have c2 : Tryz.prog.cellsOf 24 = 1 := by kernel_rfl
    have c3 : Tryz.prog.cellsOf 25 = 1 := by kernel_rfl
    rw [t0, o0, c0] at h0
    rw [t1, o1, c1] at h1
    rw [t2, o2, c2] at h2
    rw [t3, o3, c3] at h3
    rw [t0] at w0
    rw [t1] at w1
    rw [t2] at w2
    rw [t3] at w3
    have h0 : DataW.trod enc Tryz.prog w 0 (fun _ => true) true m 22 [a] = some x0 := h0
    have h1 : DataW.trod enc Tryz.prog w 0 (fun _ => true) true m 23 [b] = some x1 := h1
    have h2 : DataW.trod enc Tryz.prog w 0 (fun _ => true) true m 24 [c] = some x2 := h2
    have h3 : DataW.trod enc Tryz.prog w 0 (fun _ => true) true m 25 [e] = some x3 := h3
    obtain ⟨bs, q0, l0, g0⟩ := key_sl balL (fun _ => rfl) (fun V => (⟨V 0, V 1, V 2, V 3, V 4, V 5⟩ : Bal)) (fun V j z hz => by
      match j, hz with
      | 0, hz | 1, hz | 2, hz | 3, hz | 4, hz | 5, hz => simp [balL] at hz; exact ⟨by decide, hz.symm⟩) (by kernel_rfl : Tryz.prog.underlying 22 = some (.slice 57)) I_bal (by decide) (by decide +kernel) w0 h0 k0
    obtain ⟨cs, q2, l2, g2⟩ := key_sl chkL (fun _ => rfl) (fun V => (⟨V 0, V 1, V 2, V 3, V 4⟩ : Chk)) (fun V j z hz => by
      match j, hz with
      | 0, hz | 1, hz | 2, hz | 3, hz | 4, hz => simp [chkL] at hz; exact ⟨by decide, hz.symm⟩) (by kernel_rfl : Tryz.prog.underlying 23 = some (.slice 51)) I_chk (by decide) (by decide +kernel) w1 h1 k2
    obtain ⟨ns, q3, l3, g3⟩ := key_sl ntcL (fun _ => rfl) (fun V => (⟨V 0, V 1, V 2, V 3, V 4, V 5⟩ : Ntc)) (fun V j z hz => by
      match j, hz with
      | 0, hz | 1, hz | 2, hz | 3, hz | 4, hz | 5, hz => simp [ntcL] at hz; exact ⟨by decide, hz.symm⟩) (by kernel_rfl : Tryz.prog.underlying 24 = some (.slice 93)) I_ntc (by decide) (by decide +kernel) w2 h2 k3
    obtain ⟨ws, q1, l1, g1⟩ := key_sl wghL (fun _ => rfl) (fun V => (⟨V 0, V 1, V 2, ⟨V 3, V 4, V 5, V 6⟩, V 7⟩ : Wgh)) (fun V j z hz => by
      match j, hz with
      | 0, hz | 1, hz | 2, hz | 3, hz | 4, hz | 5, hz | 6, hz | 7, hz => simp [wghL] at hz; exact ⟨by decide, hz.symm⟩) (by kernel_rfl : Tryz.prog.underlying 25 = some (.slice 32)) I_wgh (by decide) (by decide +kernel) w3 h3 k1
    refine ⟨⟨bs, cs, ns, ws⟩, q0, q1, q2, q3, ⟨l0, l2, l3, l1⟩, fun ρ hρ => ?_⟩
    have e0 := hρ (k0, q0) (by simp)
    have e1 := hρ (k1, q1) (by simp)
    have e2 := hρ (k2, q2) (by simp)
    have e3 := hρ (k3, q3) (by simp)
    obtain ⟨u0, v0, r0⟩ := g0 ρ e0
    obtain ⟨u1, v1, r1⟩ := g1 ρ e1
    obtain ⟨u2, v2, r2⟩ := g2 ρ e2
    obtain ⟨u3, v3, r3⟩ := g3 ρ e3
    refine ⟨⟨#[a, b, c, e], rfl, u0, u2, u3, u1, trivial⟩, fun y hy => ?_⟩
    simp only [rdHK, List.mem_cons, List.not_mem_nil, or_false] at hy
    rcases hy with rfl | rfl | rfl | rfl
    · exact ⟨rfl, v0, room_pos e0 r0⟩
    · exact ⟨rfl, v1, room_pos e1 r1⟩
    · exact ⟨rfl, v2, room_pos e2 r2⟩
    · exact ⟨rfl, v3, room_pos e3 r3⟩

abbrev B_reads : List Nat := [27, 3, 57, 51, 32, 30, 53, 37, 5, 33, 43, 100, 108]

theorem B_read : ∀ t ∈ B_reads, Tryz.prog.readableRec t = true ∧ t < Tryz.prog.types.size := by
  have h : (B_reads.all fun t => Tryz.prog.readableRec t && decide (t < Tryz.prog.types.size)) = true := by kernel_rfl
  intro t ht
  have := List.all_eq_true.1 h t ht
  simpa using this

end Go.Proofs

namespace Go.Proofs
open Go.Sx

def cntR (r : Rd) : Nat := r.cs.length + r.ns.length + r.ws.length
end Go.Proofs

namespace Go
namespace Sx

end Sx
end Go

namespace Go
namespace Sx

def inVs (k : Nat) (e : Env) : List (Nat × Operand) → Bool
  | [] => false
  | p :: r => bif (ev e p.2).uses [k] then true else inVs k e r

def allVs (e : Env) (ps : List (Nat × Operand)) : List Nat → Bool
  | [] => true
  | k :: r => bif inVs k e ps then allVs e ps r else false

theorem inVs_get {k : Nat} {e : Env} : ∀ {ps : List (Nat × Operand)}, inVs k e ps = true → ∃ p ∈ ps, (ev e p.2).uses [k] = true
  | [], h => by cases h
  | p :: r, h => by
    simp only [inVs] at h
    cases hu : (ev e p.2).uses [k] with
    | true => exact ⟨p, List.mem_cons_self .., hu⟩
    | false =>
      rw [hu] at h
      obtain ⟨q, hq, h2⟩ := inVs_get h
      exact ⟨q, List.mem_cons_of_mem _ hq, h2⟩

theorem allVs_get {e : Env} {ps : List (Nat × Operand)} : ∀ {l : List Nat} {k : Nat}, allVs e ps l = true → k ∈ l → ∃ p ∈ ps, (ev e p.2).uses [k] = true
  | [], _, _, h => by cases h
  | j :: r, k, h, hk => by
    simp only [allVs] at h
    cases hu : inVs j e ps with
    | false => rw [hu] at h; cases h
    | true =>
      rw [hu] at h
      rcases List.mem_cons.1 hk with rfl | hk
      · exact inVs_get hu
      · exact allVs_get h hk

def bsNK (B : Tabs) (A : Arr) (e : Env) (t : TypeId) (len : Nat) (ps : List (Nat × Operand)) (nx : Nat) (K : Eff → Prop) : Prop :=
  bif allVs e ps A.nm then bsK B A e t len ps nx K else False

theorem bsN_step {cx : Cx} {B : Tabs} (hB : TabsOK cx.P B) {o : Oper} {e : Env} {H : Heap} {nx : Nat} {K : Eff → Prop} {t : TypeId} {len : Nat} {parts : Array (Nat × Operand)} (A : Arr)
    (ho : o.op = .buildSlice t len parts) (h : bsNK B A e t len parts.toList nx K) : ∃ F, CallOK cx o e H nx F ∧ K F := by
  have hmem : ∀ p ∈ parts.toList, p.2 ∈ o.op.operands.toList := fun p hp => by
    simp [ho, Op.operands]; exact ⟨p.1, by simpa using hp⟩
  obtain ⟨hall, h⟩ := bif_and h
  unfold bsK at h
  split at h
  · rename_i el s0 b0 z0 ht
    split at h
    · rename_i ti hti
      split at h
      · rename_i l hl
        obtain ⟨hb, ⟨hlen, hent⟩, hK⟩ := bif_and h
        simp only [Bool.and_eq_true] at hb
        have hb1 := Nat.eq_of_beq_eq_true hb.1
        have hb2 := Nat.le_of_ble_eq_true hb.2.1
        have hb3 := Nat.le_of_ble_eq_true hb.2.2
        refine ⟨_, ⟨loc_new (by simp [ho]) below_s ?_ ?_, fun j hj => by simp at hj; subst hj; simp⟩, hK⟩
        · intro n' hn' j hj
          obtain ⟨k, hk, hjk⟩ := anyMem_iff.1 (show anyMem [j] A.nm = true from hj)
          simp only [List.mem_singleton] at hjk
          subst hjk
          obtain ⟨p, hp, hu⟩ := allVs_get hall hk
          exact (reads_below (hmem p hp) hn') k hu
        · intro ρ a w hr hfr
          obtain ⟨i, z, hi, hz, hisz, hiby, hzz⟩ := ti_parts hB hti
          have hr' : ∀ p ∈ parts.toList, (ev e p.2).rel (upd ρ nx ⟨w.heap.size, 0, len⟩) (a.eval p.2) := by
            intro p hp
            refine SV.rel_upd' (reads_fit (hmem p hp) hr) ?_
            have hm := hmem p hp
            cases hx : p.2 with
            | tmp t => rw [hx] at hm; exact hfr t hm
            | const v => exact evC_uses v _
            | global g => simp [ev, SV.uses, SC.uses, SC.nms, anyMem]
            | func g => simp [ev, SV.uses, SC.uses, SC.nms, anyMem]
          have hinit : ((Array.range (len * i.size)).map (z.cells[· % z.cells.size]!)).size = len * ti.size := by simp [hisz]
          obtain ⟨out, hout, hrel⟩ := fillR_ok (ρ := upd ρ nx ⟨w.heap.size, 0, len⟩) (a := a) (e := e) (sz := ti.size) parts.toList (junks (len * ti.size)) ((Array.range (len * i.size)).map (z.cells[· % z.cells.size]!)) l
            (by have := @junks_rel (upd ρ nx ⟨w.heap.size, 0, len⟩) ((Array.range (len * i.size)).map (z.cells[· % z.cells.size]!)).toList; rwa [Array.length_toList, hinit] at this) hr' hl
          have hlo := relL_length hrel
          have hrelA := entL_rel0 hent hrel
          have hlA := relL_length hrelA
          have hencl : ∀ xs : List A.α, (encAll A xs).length = xs.length * A.sz := by
            intro xs; induction xs with
            | nil => simp [encAll]
            | cons x r ih => simp only [encAll, List.length_append, ih, A.hl, List.length_cons, Nat.add_mul]; omega
          refine ⟨.slice (some ⟨w.heap.size, 0, none⟩) len len, .cells out el (0, 0), len, ?_, ?_, satO_new_arr (by omega) ?_ ?_⟩
          · have hsz : (sizeOf el).run cx.P w = .ok i.size w := by simp [sizeOf, typeInfo, hi]
            have hle : ¬ (len * i.size > 2 ^ 24) := by rw [hisz]; omega
            have h2 : (Array.map (fun x => (x.fst, a.eval x.snd)) parts).toList = parts.toList.map fun p => (p.1, a.eval p.2) := by simp
            simp only [execOp, ho, Instr.buildSlice, Sem.run_bind, run_underlying (und_slice hB ht), Result.andThen_ok, hsz, if_neg hle, h2]
            by_cases h0 : len * i.size = 0
            · have hl0 : len = 0 := by
                rcases Nat.mul_eq_zero.1 h0 with h | h
                · exact h
                · omega
              subst hl0
              simp only [Nat.zero_mul, if_true, Sem.run_pure, Result.andThen_ok]
              simp only [Nat.zero_mul] at hout
              rw [← hisz] at hout
              have e0 : (Array.map (fun x => (#[] : Array Value)[x % (#[] : Array Value).size]!) (Array.range 0)) = (Array.map (fun x => z.cells[x % z.cells.size]!) (Array.range 0)) := by simp
              simp only [e0, hout, Sem.run_bind, newRow, newObj, Sem.run, Result.andThen_ok, Sem.run_pure]
              rfl
            · have hzr : (zeroValue el).run cx.P w = .ok z w := by simp [zeroValue, typeInfo, hi, hz]
              rw [← hisz] at hout
              simp only [if_neg h0, Sem.run_bind, hzr, Result.andThen_ok, Sem.run_pure, hout, newRow, newObj, Sem.run]
              rfl
          · simp only [SV.rel, SC.rel, upd_eq, Nat.sub_zero, Nat.zero_mul, Nat.zero_add]
            exact ⟨_, rfl, Nat.le_refl _, fun _ => by simp [adr, upd_eq]⟩
          · rw [hencl] at hlA; rw [← hlen]; simpa using hlA.symm
          · intro i' xx hxx j d hd
            obtain ⟨v, hv, hvr⟩ := relL_get hrelA (encAll_get hxx hd)
            exact ⟨v, by simpa using hv, hvr⟩
      · exact h.elim
    · exact h.elim
  · exact h.elim

end Sx
end Go

namespace Go.Proofs
open Go.Sx

def fewRd (r : Rd) : Bool := decide (r.bs.length ≤ 10) && decide (cntR r ≤ 24)

theorem few_rd_t (r : Rd) (hw : Wide r) : Triple Tryz.prog 15 [rdA r] (rdH r) 4 (bv (fewRd r)) [] := by
  obtain ⟨w1, w2, w3, w4⟩ := hw
  have e : fewRd r = (decide (r.bs.length ≤ 10) && decide (r.cs.length + r.ns.length + r.ws.length ≤ 24)) := rfl
  generalize fewRd r = R at *
  obtain ⟨bs, cs, ns, ws⟩ := r
  dsimp only at *
  refine triple_of tB_ok Tryz.func15 rfl Tryz.call15 rfl ?_
  intro ρ w hH
  conv=>whnf
  refine ⟨fun hc => ?_, fun hc => ?_⟩
  rotate_left
  · have h1 : ¬ bs.length ≤ 10 := by have := of_decide_eq_false (show decide ((bs.length : Int) ≤ 10) = false from hc); omega
    rw [decide_eq_false h1, Bool.false_and] at e
    subst e
    conv=>whnf
    repeat' (first | exact trivial | exact rfl | refine And.intro ?_ ?_ | ((conv=>whnf); first | exact trivial | exact rfl | refine And.intro ?_ ?_ | omega))
  have h1 : bs.length ≤ 10 := by have := of_decide_eq_true (show decide ((bs.length : Int) ≤ 10) = true from hc); omega
  rw [decide_eq_true h1, Bool.true_and] at e
  conv=>whnf
  refine ⟨((cs.length + ns.length : Nat) : Int), (show IntKind.i64.wrap ((cs.length : Int) + ns.length) = ((cs.length + ns.length : Nat) : Int) by rw [wrapId ⟨by omega, by omega⟩]; omega), ?_⟩
  conv=>whnf
  refine ⟨((cs.length + ns.length + ws.length : Nat) : Int), (show IntKind.i64.wrap (((cs.length + ns.length : Nat) : Int) + ws.length) = ((cs.length + ns.length + ws.length : Nat) : Int) by rw [wrapId ⟨by omega, by omega⟩]; omega), ?_⟩
  conv=>whnf
  generalize cs.length + ns.length + ws.length = n at *
  have h4 : decide ((n : Int) ≤ 24) = R := by rw [e]; exact decide_eq_decide.2 (by omega)
  rw [← h4]
  conv=>whnf
  repeat' (first | exact trivial | exact rfl | refine And.intro ?_ ?_ | ((conv=>whnf); first | exact trivial | exact rfl | refine And.intro ?_ ?_ | omega))

theorem few_sml {r : Rd} (h : fewRd r = true) : Sml r := by
  unfold fewRd cntR at h
  simp at h
  exact ⟨by omega, by omega, by omega, by omega⟩

end Go.Proofs

namespace Go.Proofs
open Go.Sx

def pSys (r : Rd) : (List (Int × Int) × List Lnk) × Int := if checkR r = 0 then ((boxR r [], lnkR r []), 0) else (([], []), checkR r)
theorem bCompile_t (r : Rd) (hs : Sml r) : Triple Tryz.prog 43 [rdA r] (rdH r) 4 (.tup [.inr [.s 4 0 (pSys r).1.1.length 2, .s 5 0 (pSys r).1.2.length 4], .inl (.v (.int .i64 (pSys r).2))]) [(4, true, .arr (aSpan (pSys r).1.1)), (5, true, .arr (aLink (pSys r).1.2))] := by
  have e : pSys r = if checkR r = 0 then ((boxR r [], lnkR r []), 0) else (([], []), checkR r) := rfl
  have hC := check_rd_t r (Nat.le_trans hs.bs (by decide)) (Nat.le_trans hs.cs (by decide)) (Nat.le_trans hs.ns (by decide)) (Nat.le_trans hs.ws (by decide))
  by_cases h0 : checkR r = 0
  rotate_left
  · rw [if_neg h0] at e
    generalize pSys r = R at *
    subst e
    generalize checkR r = c at *
    refine triple_of tB_ok Tryz.func43 rfl Tryz.call43 rfl ?_
    intro ρ w hH
    conv=>whnf
    refine call_step hC rfl rfl ?_
    conv=>whnf
    refine ⟨?_, ?_, ?_⟩
    iterate 2 · repeat' (first | exact trivial | exact rfl | refine And.intro ?_ ?_ | ((conv=>whnf); first | exact trivial | exact rfl | refine And.intro ?_ ?_ | omega))
    conv=>whnf
    refine ⟨fun hcc => ?_, fun hcc => absurd (by simpa using (show (c != 0) = false from hcc)) h0⟩
    conv=>whnf
    repeat' (first | exact trivial | exact rfl | refine And.intro ?_ ?_ | ((conv=>whnf); first | exact trivial | exact rfl | refine And.intro ?_ ?_ | omega))
  rw [if_pos h0] at e
  rw [h0] at hC
  have h := checkR_ok.1 h0
  rw [e]
  have hsh := sheet_ok h (more := []) (by simp) (by simp)
  have hSp := spreadNil_t r h.sml
  have hS : Triple Tryz.prog 83 [.c (.p 4 0 0 0)] (shH r (objsF r) (momsF r [])) 9
      (.agg [.s 9 0 (boxR r []).length 2, .s 10 0 (lnkR r []).length 4]) [(9, true, .arr (aSpan (boxR r []))), (10, true, .arr (aLink (lnkR r [])))] := sysOf_t r _ _ hsh
  generalize boxR r [] = bs at *
  generalize lnkR r [] = ls at *
  generalize objsF r = os at *
  generalize momsF r [] = ms at *
  refine triple_of tB_ok Tryz.func43 rfl Tryz.call43 rfl ?_
  intro ρ w hH
  conv=>whnf
  refine call_step hC rfl rfl ?_
  conv=>whnf
  refine ⟨?_, ?_, ?_⟩
  iterate 2 · repeat' (first | exact trivial | exact rfl | refine And.intro ?_ ?_ | ((conv=>whnf); first | exact trivial | exact rfl | refine And.intro ?_ ?_ | omega))
  conv=>whnf
  refine ⟨fun hc => absurd hc (by simp), fun hc => ?_⟩
  conv=>whnf
  refine call_step hSp rfl rfl ?_
  conv=>whnf
  refine ⟨?_, ?_, ?_⟩
  iterate 2 · repeat' (first | exact trivial | exact rfl | refine And.intro ?_ ?_ | ((conv=>whnf); first | exact trivial | exact rfl | refine And.intro ?_ ?_ | omega))
  conv=>whnf
  refine call_step hS rfl rfl ?_
  conv=>whnf
  refine ⟨?_, ?_, ?_⟩
  iterate 2 · repeat' (first | exact trivial | exact rfl | refine And.intro ?_ ?_ | ((conv=>whnf); first | exact trivial | exact rfl | refine And.intro ?_ ?_ | omega))
  conv=>whnf
  repeat' (first | exact trivial | exact rfl | refine And.intro ?_ ?_ | ((conv=>whnf); first | exact trivial | exact rfl | refine And.intro ?_ ?_ | omega))

end Go.Proofs

namespace Go
namespace Sx

def capNilK (B : Tabs) (t : TypeId) (x : SV) (K : Eff → Prop) : Prop :=
  match x, lookT B.T t with
  | .c (.v (.slice none 0 0)), some ⟨.slice _, _, _, _⟩ => K ⟨iv .i64 0, [], [], []⟩
  | _, _ => False

theorem capNil_step {cx : Cx} {B : Tabs} (hB : TabsOK cx.P B) {o : Oper} {e : Env} {H : Heap} {nx : Nat} {K : Eff → Prop} {c : Call} {x : Operand} {t : TypeId} (ho : o.op = .call c) (hc : c.callee = .builtin .cap) (hca : c.args = #[x]) (hct : c.argTypes = #[t])
    (h : capNilK B t (ev e x) K) : ∃ F, CallOK cx o e H nx F ∧ K F := by
  have hx : x ∈ o.op.operands.toList := by simp [ho, Op.operands, Call.operands, hc, hca]
  unfold capNilK at h
  split at h
  · rename_i el s0 b0 z0 hex ht
    refine ⟨_, ⟨?_, fun j hj => by cases hj⟩, h⟩
    intro ρ s a w hs hr _ _ hdst KK Q hKK
    have hx1 := reads_fit hx (fun t ht => by rw [← hr t ht]; exact hs.env t)
    rw [hex] at hx1
    simp only [SV.rel, SC.rel] at hx1
    obtain ⟨ds, hds, hks⟩ := run_und_kd hB.T ht w
    have e1 := kd_slice hks; subst e1
    have hrun : (execOp a.eval o).run cx.P w = .ok (.value (.int .i64 0)) w := by
      rw [run_builtin ho hc]
      simp [builtin, hca, hct, Builtin.cap_, hx1, hds, goInt]
    refine wpIn_of_value (by simp [ho]) hrun (hKK ρ _ w ?_ (fun _ _ => rfl))
    exact hs.putO hdst rfl (below_iv _ _ _)
  · exact h.elim

def growK (B : Tabs) (A : Arr) (t tn : TypeId) (x y : SV) (nx : Nat) (K : Eff → Prop) : Prop :=
  match lookT B.T t, lookT B.T tn, x, y with
  | some ⟨.slice el, _, _, _⟩, some ⟨.int .i64, _, _, _⟩, .c (.v (.slice none 0 0)), .c (.v (.int .i64 n)) => (match lookT B.T el with
    | some ti => bif Nat.beq ti.size A.sz && Nat.ble 1 A.sz then
        ∃ N : Nat, (n = (N : Int) ∧ 0 < N ∧ N * (ti.bytes + 1) ≤ 140737488355328 ∧ A.xs = []) ∧
        K ⟨.c (.s nx 0 N A.sz), [], [(nx, true, .arr A)], [nx]⟩ else False
    | none => False)
  | _, _, _, _ => False

theorem grow_step {cx : Cx} {B : Tabs} (hB : TabsOK cx.P B) {o : Oper} {e : Env} {H : Heap} {nx : Nat} {K : Eff → Prop} {c : Call} {x y : Operand} {t tn : TypeId} (A : Arr) (hA : A.nm = []) (ho : o.op = .call c) (hc : c.callee = .builtin .append) (hca : c.args = #[x, y]) (hct : c.argTypes = #[t, tn])
    (h : growK B A t tn (ev e x) (ev e y) nx K) : ∃ F, CallOK cx o e H nx F ∧ K F := by
  have hx : x ∈ o.op.operands.toList := by simp [ho, Op.operands, Call.operands, hc, hca]
  have hy : y ∈ o.op.operands.toList := by simp [ho, Op.operands, Call.operands, hc, hca]
  unfold growK at h
  split at h
  · rename_i el s0 b0 z0 s1 b1 z1 n ht htn hex hey
    split at h
    · rename_i ti hti
      obtain ⟨hb, N, ⟨rfl, hN, h3, hxs⟩, hK⟩ := bif_and h
      simp only [Bool.and_eq_true] at hb
      have hb1 := Nat.eq_of_beq_eq_true hb.1
      have hb2 := Nat.le_of_ble_eq_true hb.2
      refine ⟨_, ⟨?_, fun j hj => by simp at hj; subst hj; simp⟩, hK⟩
      intro ρ s a w hs hr _ hnew hdst KK Q hKK
      obtain ⟨hfr, hlt, hn0⟩ := hnew nx (by simp)
      have hx1 := reads_fit hx (fun t ht => by rw [← hr t ht]; exact hs.env t)
      have hy1 := reads_fit hy (fun t ht => by rw [← hr t ht]; exact hs.env t)
      rw [hex] at hx1; rw [hey] at hy1
      simp only [SV.rel, SC.rel] at hx1 hy1
      obtain ⟨i, z, hi, hz, hisz, hiby, hzz⟩ := ti_parts hB hti
      have hbd : N * i.bytes ≤ 140737488355328 := by rw [hiby]; exact Nat.le_trans (Nat.mul_le_mul_left _ (Nat.le_succ _)) h3
      have hln : N * 1 ≤ 140737488355328 := Nat.le_trans (Nat.mul_le_mul_left _ (by omega)) h3
      have htn' : cx.P.underlying tn = some (.int .i64) := by
        obtain ⟨i, d, z, hi, hd, hz, hk, _⟩ := tiOf_parts (hB.T.get htn)
        cases d <;> simp [kdOf] at hk
        rw [hd, hk]
      have hrunA := Lib.run_append_nil_zeros (P := cx.P) w t tn o.type el i z .i64 .i64 (und_slice hB ht) htn' hi hz N hN (by omega) (by omega) (by omega)
      have hge := grownCap_ge w N 0 el
      generalize hgc : grownCap w N 0 el = gc at hrunA hge
      have hzsz : z.cells.size = A.sz := by
        have := congrArg List.length hzz
        rw [← hb1]
        have hz2 := hB.zsz el ti hti
        simpa [hz2] using this
      have hrun : (execOp a.eval o).run cx.P w = .ok (.value (.slice (some ⟨w.heap.size, 0, none⟩) N gc)) (w.drew.alloc (.cells (Builtin.zeroCells z.cells N ++ Builtin.zeroCells z.cells (gc - N)) el)) := by
        rw [run_builtin ho hc, hca, hct]
        simp only [List.map_toArray, List.map_cons, List.map_nil, builtin, hx1, hy1, Sem.run_bind, hrunA, Result.andThen_ok, Sem.run_pure]
      refine wpIn_of_value (by simp [ho]) hrun (hKK (upd ρ nx ⟨w.heap.size, 0, gc⟩) _ _ ?_ (fun j hj => upd_ne (by simpa using hj)))
      have hbelow : (SO.arr A).below s.nx := fun (j : Nat) (hj : anyMem [j] A.nm = true) => by rw [hA] at hj; cases hj
      have hsat := hs.newAt (k := nx) (cap := gc) (o := .arr A) (ob := .cells (Builtin.zeroCells z.cells N ++ Builtin.zeroCells z.cells (gc - N)) el (0, 0)) hfr hlt hn0 hbelow ?_
      · refine (hsat.eqHeap (w' := w.drew.alloc _) rfl).putO hdst ?_ (by rw [SV.below_c]; intro j hj; simp [SC.nms] at hj; subst hj; exact hlt)
        simp only [SV.rel, SC.rel, upd_eq, Nat.sub_zero, Nat.zero_mul, Nat.zero_add]
        exact ⟨_, rfl, hge, fun _ => by simp [adr, upd_eq]⟩
      · refine satO_new_arr (by rw [hxs]; exact Nat.zero_le _) ?_ ?_
        · simp only [Array.size_append, size_zeroCells, hzsz]
          rw [← Nat.add_mul]; congr 1; omega
        · intro i' xx hxx
          rw [hxs] at hxx; cases hxx
    · exact h.elim
  · exact h.elim

end Sx
end Go

namespace Go.Proofs
open Go.Sx

end Go.Proofs

namespace Go.Proofs
open Go.Sx

def tXT : List (Nat × TI) := (300, ⟨.slice 22, 1, 24, [.slice none 0 0]⟩) :: (302, ⟨.slice 23, 1, 24, [.slice none 0 0]⟩) :: (304, ⟨.slice 24, 1, 24, [.slice none 0 0]⟩) :: (306, ⟨.slice 25, 1, 24, [.slice none 0 0]⟩) :: tT
theorem tXT_ok : TabOK Tryz.prog tXT := tabOK_cons (by kernel_rfl) (tabOK_cons (by kernel_rfl) (tabOK_cons (by kernel_rfl) (tabOK_cons (by kernel_rfl) tT_ok)))
def tX : Tabs := ⟨tXT, tB.2, tB.3⟩
theorem tX_ok : TabsOK Tryz.prog tX := ⟨tXT_ok, by kernel_rfl, by kernel_rfl, eq_ok, eqD_ok, by kernel_rfl⟩

theorem growCBal_t (n : Nat) (hn : n ≤ 1000000) : Triple Tryz.prog 234 [.c (.v (.slice none 0 0)), iv .i64 n] [] 0 (.c (.s 0 0 0 6)) [(0, true, .arr (aBal []))] := by
  refine triple_of tX_ok Tryz.func234 rfl Tryz.call234 rfl ?_
  intro ρ w hH
  conv=>whnf
  refine ⟨fun hc => absurd (of_decide_eq_true (show decide ((n : Int) < 0) = true from hc)) (by omega), fun hc => ?_⟩
  conv=>whnf
  refine capNil_step tX_ok rfl rfl rfl rfl ?_
  conv=>whnf
  refine ⟨0, rfl, ?_⟩
  conv=>whnf
  refine ⟨(n : Int), by show IntKind.i64.wrap ((n : Int) - 0) = n; rw [Int.sub_zero]; exact wrapId ⟨by omega, by omega⟩, ?_⟩
  conv=>whnf
  refine ⟨fun hc => ?_, fun hc => ?_⟩
  · have hp : 0 < n := by have := of_decide_eq_true (show decide ((0 : Int) < n) = true from hc); omega
    conv=>whnf
    refine capNil_step tX_ok rfl rfl rfl rfl ?_
    conv=>whnf
    refine ⟨0, rfl, Nat.le_refl _, ?_⟩
    conv=>whnf
    refine ⟨Nat.le_refl _, ?_⟩
    conv=>whnf
    refine grow_step tX_ok (aBal []) rfl rfl rfl rfl rfl ?_
    conv=>whnf
    refine ⟨n, ⟨rfl, hp, by show n * 49 ≤ _; omega, rfl⟩, ?_⟩
    conv=>whnf
    refine ⟨0, rfl, Nat.zero_le _, ?_⟩
    conv=>whnf
    refine ⟨Nat.le_refl _, ?_⟩
    conv=>whnf
    repeat' (first | exact trivial | exact rfl | refine And.intro ?_ ?_ | ((conv=>whnf); first | exact trivial | exact rfl | refine And.intro ?_ ?_ | omega))
  · conv=>whnf
    repeat' (first | exact trivial | exact rfl | refine And.intro ?_ ?_ | ((conv=>whnf); first | exact trivial | exact rfl | refine And.intro ?_ ?_ | omega))

set_option maxHeartbeats 1000000 in
theorem concatCBal_t (xs ys : List Bal) (h1 : xs.length ≤ 100000) (h2 : ys.length ≤ 100000) : Triple Tryz.prog 185 [.c (.s 0 0 2 1)]
    [(0, false, .arr (aRows 1 [1, 2] [[.s 1 0 xs.length 6], [.s 2 0 ys.length 6]])), (1, false, .arr (aBal xs)), (2, false, .arr (aBal ys))] 3 (.c (.s 3 0 (xs ++ ys).length 6)) [(3, true, .arr (aBal (xs ++ ys)))] := by
  refine triple_of tX_ok Tryz.func185 rfl Tryz.call185 rfl ?_
  intro ρ w hH
  conv=>whnf
  refine loop_step tX_ok (G := Nat × Int) 0 [] (fun g => [(11, iv .i64 g.1), (3, iv .i64 g.2)]) (fun _ => []) (fun g => (g.1 = 0 ∧ g.2 = 0) ∨ (g.1 = 1 ∧ g.2 = xs.length) ∨ (g.1 = 2 ∧ g.2 = (xs.length : Int) + ys.length)) (fun g => 2 - g.1) ?_
  conv=>whnf
  refine ⟨⟨(0, 0), .inl ⟨rfl, rfl⟩, ?_⟩, ?_⟩
  · conv=>whnf
    repeat' (first | exact trivial | exact rfl | refine And.intro ?_ ?_ | ((conv=>whnf); first | exact trivial | exact rfl | refine And.intro ?_ ?_ | omega))
  rintro ⟨i, tot⟩ hi ρ1 t1 hρ1
  have hi : (i = 0 ∧ tot = 0) ∨ (i = 1 ∧ tot = xs.length) ∨ (i = 2 ∧ tot = (xs.length : Int) + ys.length) := hi
  dsimp only
  rcases hi with ⟨rfl, rfl⟩ | ⟨rfl, rfl⟩ | ⟨rfl, rfl⟩
  · conv=>whnf
    refine ⟨fun hc => ?_, fun hc => absurd hc (by decide)⟩
    conv=>whnf
    refine ⟨0, rfl, by decide, by show _ < 2; decide, ?_⟩
    conv=>whnf
    refine ⟨(xs.length : Int), by show IntKind.i64.wrap ((0 : Int) + xs.length) = xs.length; rw [Int.zero_add]; exact wrapId ⟨by omega, by omega⟩, ?_⟩
    conv=>whnf
    refine ⟨fun hc => absurd (of_decide_eq_true hc) (by omega), fun hc => ?_⟩
    conv=>whnf
    refine ⟨1, rfl, ?_⟩
    refine ⟨(1, (xs.length : Int)), .inr (.inl ⟨rfl, rfl⟩), by show 2 - 1 < 2 - 0; decide, ?_⟩
    conv=>whnf
    refine ⟨rfl, ?_⟩
    conv=>whnf
    repeat' (first | exact trivial | exact rfl | refine And.intro ?_ ?_ | ((conv=>whnf); first | exact trivial | exact rfl | refine And.intro ?_ ?_ | omega))
  · conv=>whnf
    refine ⟨fun hc => ?_, fun hc => absurd hc (by decide)⟩
    conv=>whnf
    refine ⟨1, rfl, by decide, by show _ < 2; decide, ?_⟩
    conv=>whnf
    refine ⟨(xs.length : Int) + ys.length, wrapId ⟨by omega, by omega⟩, ?_⟩
    conv=>whnf
    refine ⟨fun hc => absurd (of_decide_eq_true hc) (by omega), fun hc => ?_⟩
    conv=>whnf
    refine ⟨2, rfl, ?_⟩
    refine ⟨(2, (xs.length : Int) + ys.length), .inr (.inr ⟨rfl, rfl⟩), by show 2 - 2 < 2 - 1; decide, ?_⟩
    conv=>whnf
    refine ⟨rfl, ?_⟩
    conv=>whnf
    repeat' (first | exact trivial | exact rfl | refine And.intro ?_ ?_ | ((conv=>whnf); first | exact trivial | exact rfl | refine And.intro ?_ ?_ | omega))
  conv=>whnf
  refine ⟨fun hc => absurd (show decide (((2 : Nat) : Int) < 2) = true from hc) (by decide), fun hc => ?_⟩
  conv=>whnf
  have hg := growCBal_t (xs.length + ys.length) (by omega)
  rw [show ((xs.length + ys.length : Nat) : Int) = (xs.length : Int) + ys.length from by omega] at hg
  refine call_step hg rfl rfl ?_
  conv=>whnf
  refine ⟨?_, ?_, ?_⟩
  iterate 2 · repeat' (first | exact trivial | exact rfl | refine And.intro ?_ ?_ | ((conv=>whnf); first | exact trivial | exact rfl | refine And.intro ?_ ?_ | omega))
  conv=>whnf
  refine loop_step tX_ok (G := Nat × List Bal) 1 [3] (fun g => [(27, iv .i64 g.1), (6, .c (.s 4 0 g.2.length 6))]) (fun g => [(4, true, .arr (aBal g.2))]) (fun g => (g.1 = 0 ∧ [] = g.2) ∨ (g.1 = 1 ∧ xs = g.2) ∨ (g.1 = 2 ∧ xs ++ ys = g.2)) (fun g => 2 - g.1) ?_
  conv=>whnf
  refine ⟨⟨(0, []), .inl ⟨rfl, rfl⟩, ?_⟩, ?_⟩
  · conv=>whnf
    repeat' (first | exact trivial | exact rfl | refine And.intro ?_ ?_ | ((conv=>whnf); first | exact trivial | exact rfl | refine And.intro ?_ ?_ | omega))
  rintro ⟨i, out⟩ hi ρ2 t2 hρ2
  have hi : (i = 0 ∧ [] = out) ∨ (i = 1 ∧ xs = out) ∨ (i = 2 ∧ xs ++ ys = out) := hi
  dsimp only
  rcases hi with ⟨rfl, rfl⟩ | ⟨rfl, rfl⟩ | ⟨rfl, rfl⟩
  · conv=>whnf
    refine ⟨fun hc => ?_, fun hc => absurd hc (by decide)⟩
    conv=>whnf
    refine ⟨0, rfl, by decide, by show _ < 2; decide, ?_⟩
    conv=>whnf
    refine app_step tX_ok (aBal []) xs (fun _ => rfl) rfl rfl rfl rfl ?_
    conv=>whnf
    refine ⟨⟨rfl, rfl, Nat.le_refl _, by rw [Nat.zero_add]; exact Nat.le_refl _, by show (List.length (α := Bal) [] + xs.length) * 49 ≤ _; first | omega | (simp only [List.length_nil]; omega)⟩, ?_⟩
    conv=>whnf
    refine ⟨1, rfl, ?_⟩
    refine ⟨(1, xs), .inr (.inl ⟨rfl, rfl⟩), by show 2 - 1 < 2 - 0; decide, ?_⟩
    conv=>whnf
    refine ⟨rfl, ?_⟩
    conv=>whnf
    repeat' (first | exact trivial | exact rfl | refine And.intro ?_ ?_ | ((conv=>whnf); first | exact trivial | exact rfl | refine And.intro ?_ ?_ | omega))
    all_goals first | exact (congrArg aBal appAll : _) | exact (congrArg aBal (appAll (xs := [])) : _) | simp
  · conv=>whnf
    refine ⟨fun hc => ?_, fun hc => absurd hc (by decide)⟩
    conv=>whnf
    refine ⟨1, rfl, by decide, by show _ < 2; decide, ?_⟩
    conv=>whnf
    refine app_step tX_ok (aBal xs) ys (fun _ => rfl) rfl rfl rfl rfl ?_
    conv=>whnf
    refine ⟨⟨rfl, rfl, Nat.le_refl _, by rw [Nat.zero_add]; exact Nat.le_refl _, by show (List.length (α := Bal) xs + ys.length) * 49 ≤ _; first | omega | (simp only [List.length_nil]; omega)⟩, ?_⟩
    conv=>whnf
    refine ⟨2, rfl, ?_⟩
    refine ⟨(2, xs ++ ys), .inr (.inr ⟨rfl, rfl⟩), by show 2 - 2 < 2 - 1; decide, ?_⟩
    conv=>whnf
    refine ⟨rfl, ?_⟩
    conv=>whnf
    repeat' (first | exact trivial | exact rfl | refine And.intro ?_ ?_ | ((conv=>whnf); first | exact trivial | exact rfl | refine And.intro ?_ ?_ | omega))
    all_goals first | exact (congrArg aBal appAll : _) | exact (congrArg aBal (appAll (xs := [])) : _) | simp
  conv=>whnf
  refine ⟨fun hc => absurd (show decide (((2 : Nat) : Int) < 2) = true from hc) (by decide), fun hc => ?_⟩
  conv=>whnf
  repeat' (first | exact trivial | exact rfl | refine And.intro ?_ ?_ | ((conv=>whnf); first | exact trivial | exact rfl | refine And.intro ?_ ?_ | omega))
theorem growCChk_t (n : Nat) (hn : n ≤ 1000000) : Triple Tryz.prog 236 [.c (.v (.slice none 0 0)), iv .i64 n] [] 0 (.c (.s 0 0 0 5)) [(0, true, .arr (aChk []))] := by
  refine triple_of tX_ok Tryz.func236 rfl Tryz.call236 rfl ?_
  intro ρ w hH
  conv=>whnf
  refine ⟨fun hc => absurd (of_decide_eq_true (show decide ((n : Int) < 0) = true from hc)) (by omega), fun hc => ?_⟩
  conv=>whnf
  refine capNil_step tX_ok rfl rfl rfl rfl ?_
  conv=>whnf
  refine ⟨0, rfl, ?_⟩
  conv=>whnf
  refine ⟨(n : Int), by show IntKind.i64.wrap ((n : Int) - 0) = n; rw [Int.sub_zero]; exact wrapId ⟨by omega, by omega⟩, ?_⟩
  conv=>whnf
  refine ⟨fun hc => ?_, fun hc => ?_⟩
  · have hp : 0 < n := by have := of_decide_eq_true (show decide ((0 : Int) < n) = true from hc); omega
    conv=>whnf
    refine capNil_step tX_ok rfl rfl rfl rfl ?_
    conv=>whnf
    refine ⟨0, rfl, Nat.le_refl _, ?_⟩
    conv=>whnf
    refine ⟨Nat.le_refl _, ?_⟩
    conv=>whnf
    refine grow_step tX_ok (aChk []) rfl rfl rfl rfl rfl ?_
    conv=>whnf
    refine ⟨n, ⟨rfl, hp, by show n * 41 ≤ _; omega, rfl⟩, ?_⟩
    conv=>whnf
    refine ⟨0, rfl, Nat.zero_le _, ?_⟩
    conv=>whnf
    refine ⟨Nat.le_refl _, ?_⟩
    conv=>whnf
    repeat' (first | exact trivial | exact rfl | refine And.intro ?_ ?_ | ((conv=>whnf); first | exact trivial | exact rfl | refine And.intro ?_ ?_ | omega))
  · conv=>whnf
    repeat' (first | exact trivial | exact rfl | refine And.intro ?_ ?_ | ((conv=>whnf); first | exact trivial | exact rfl | refine And.intro ?_ ?_ | omega))

set_option maxHeartbeats 1000000 in
theorem concatCChk_t (xs ys : List Chk) (h1 : xs.length ≤ 100000) (h2 : ys.length ≤ 100000) : Triple Tryz.prog 188 [.c (.s 0 0 2 1)]
    [(0, false, .arr (aRows 1 [1, 2] [[.s 1 0 xs.length 5], [.s 2 0 ys.length 5]])), (1, false, .arr (aChk xs)), (2, false, .arr (aChk ys))] 3 (.c (.s 3 0 (xs ++ ys).length 5)) [(3, true, .arr (aChk (xs ++ ys)))] := by
  refine triple_of tX_ok Tryz.func188 rfl Tryz.call188 rfl ?_
  intro ρ w hH
  conv=>whnf
  refine loop_step tX_ok (G := Nat × Int) 0 [] (fun g => [(11, iv .i64 g.1), (3, iv .i64 g.2)]) (fun _ => []) (fun g => (g.1 = 0 ∧ g.2 = 0) ∨ (g.1 = 1 ∧ g.2 = xs.length) ∨ (g.1 = 2 ∧ g.2 = (xs.length : Int) + ys.length)) (fun g => 2 - g.1) ?_
  conv=>whnf
  refine ⟨⟨(0, 0), .inl ⟨rfl, rfl⟩, ?_⟩, ?_⟩
  · conv=>whnf
    repeat' (first | exact trivial | exact rfl | refine And.intro ?_ ?_ | ((conv=>whnf); first | exact trivial | exact rfl | refine And.intro ?_ ?_ | omega))
  rintro ⟨i, tot⟩ hi ρ1 t1 hρ1
  have hi : (i = 0 ∧ tot = 0) ∨ (i = 1 ∧ tot = xs.length) ∨ (i = 2 ∧ tot = (xs.length : Int) + ys.length) := hi
  dsimp only
  rcases hi with ⟨rfl, rfl⟩ | ⟨rfl, rfl⟩ | ⟨rfl, rfl⟩
  · conv=>whnf
    refine ⟨fun hc => ?_, fun hc => absurd hc (by decide)⟩
    conv=>whnf
    refine ⟨0, rfl, by decide, by show _ < 2; decide, ?_⟩
    conv=>whnf
    refine ⟨(xs.length : Int), by show IntKind.i64.wrap ((0 : Int) + xs.length) = xs.length; rw [Int.zero_add]; exact wrapId ⟨by omega, by omega⟩, ?_⟩
    conv=>whnf
    refine ⟨fun hc => absurd (of_decide_eq_true hc) (by omega), fun hc => ?_⟩
    conv=>whnf
    refine ⟨1, rfl, ?_⟩
    refine ⟨(1, (xs.length : Int)), .inr (.inl ⟨rfl, rfl⟩), by show 2 - 1 < 2 - 0; decide, ?_⟩
    conv=>whnf
    refine ⟨rfl, ?_⟩
    conv=>whnf
    repeat' (first | exact trivial | exact rfl | refine And.intro ?_ ?_ | ((conv=>whnf); first | exact trivial | exact rfl | refine And.intro ?_ ?_ | omega))
  · conv=>whnf
    refine ⟨fun hc => ?_, fun hc => absurd hc (by decide)⟩
    conv=>whnf
    refine ⟨1, rfl, by decide, by show _ < 2; decide, ?_⟩
    conv=>whnf
    refine ⟨(xs.length : Int) + ys.length, wrapId ⟨by omega, by omega⟩, ?_⟩
    conv=>whnf
    refine ⟨fun hc => absurd (of_decide_eq_true hc) (by omega), fun hc => ?_⟩
    conv=>whnf
    refine ⟨2, rfl, ?_⟩
    refine ⟨(2, (xs.length : Int) + ys.length), .inr (.inr ⟨rfl, rfl⟩), by show 2 - 2 < 2 - 1; decide, ?_⟩
    conv=>whnf
    refine ⟨rfl, ?_⟩
    conv=>whnf
    repeat' (first | exact trivial | exact rfl | refine And.intro ?_ ?_ | ((conv=>whnf); first | exact trivial | exact rfl | refine And.intro ?_ ?_ | omega))
  conv=>whnf
  refine ⟨fun hc => absurd (show decide (((2 : Nat) : Int) < 2) = true from hc) (by decide), fun hc => ?_⟩
  conv=>whnf
  have hg := growCChk_t (xs.length + ys.length) (by omega)
  rw [show ((xs.length + ys.length : Nat) : Int) = (xs.length : Int) + ys.length from by omega] at hg
  refine call_step hg rfl rfl ?_
  conv=>whnf
  refine ⟨?_, ?_, ?_⟩
  iterate 2 · repeat' (first | exact trivial | exact rfl | refine And.intro ?_ ?_ | ((conv=>whnf); first | exact trivial | exact rfl | refine And.intro ?_ ?_ | omega))
  conv=>whnf
  refine loop_step tX_ok (G := Nat × List Chk) 1 [3] (fun g => [(27, iv .i64 g.1), (6, .c (.s 4 0 g.2.length 5))]) (fun g => [(4, true, .arr (aChk g.2))]) (fun g => (g.1 = 0 ∧ [] = g.2) ∨ (g.1 = 1 ∧ xs = g.2) ∨ (g.1 = 2 ∧ xs ++ ys = g.2)) (fun g => 2 - g.1) ?_
  conv=>whnf
  refine ⟨⟨(0, []), .inl ⟨rfl, rfl⟩, ?_⟩, ?_⟩
  · conv=>whnf
    repeat' (first | exact trivial | exact rfl | refine And.intro ?_ ?_ | ((conv=>whnf); first | exact trivial | exact rfl | refine And.intro ?_ ?_ | omega))
  rintro ⟨i, out⟩ hi ρ2 t2 hρ2
  have hi : (i = 0 ∧ [] = out) ∨ (i = 1 ∧ xs = out) ∨ (i = 2 ∧ xs ++ ys = out) := hi
  dsimp only
  rcases hi with ⟨rfl, rfl⟩ | ⟨rfl, rfl⟩ | ⟨rfl, rfl⟩
  · conv=>whnf
    refine ⟨fun hc => ?_, fun hc => absurd hc (by decide)⟩
    conv=>whnf
    refine ⟨0, rfl, by decide, by show _ < 2; decide, ?_⟩
    conv=>whnf
    refine app_step tX_ok (aChk []) xs (fun _ => rfl) rfl rfl rfl rfl ?_
    conv=>whnf
    refine ⟨⟨rfl, rfl, Nat.le_refl _, by rw [Nat.zero_add]; exact Nat.le_refl _, by show (List.length (α := Chk) [] + xs.length) * 41 ≤ _; first | omega | (simp only [List.length_nil]; omega)⟩, ?_⟩
    conv=>whnf
    refine ⟨1, rfl, ?_⟩
    refine ⟨(1, xs), .inr (.inl ⟨rfl, rfl⟩), by show 2 - 1 < 2 - 0; decide, ?_⟩
    conv=>whnf
    refine ⟨rfl, ?_⟩
    conv=>whnf
    repeat' (first | exact trivial | exact rfl | refine And.intro ?_ ?_ | ((conv=>whnf); first | exact trivial | exact rfl | refine And.intro ?_ ?_ | omega))
    all_goals first | exact (congrArg aChk appAll : _) | exact (congrArg aChk (appAll (xs := [])) : _) | simp
  · conv=>whnf
    refine ⟨fun hc => ?_, fun hc => absurd hc (by decide)⟩
    conv=>whnf
    refine ⟨1, rfl, by decide, by show _ < 2; decide, ?_⟩
    conv=>whnf
    refine app_step tX_ok (aChk xs) ys (fun _ => rfl) rfl rfl rfl rfl ?_
    conv=>whnf
    refine ⟨⟨rfl, rfl, Nat.le_refl _, by rw [Nat.zero_add]; exact Nat.le_refl _, by show (List.length (α := Chk) xs + ys.length) * 41 ≤ _; first | omega | (simp only [List.length_nil]; omega)⟩, ?_⟩
    conv=>whnf
    refine ⟨2, rfl, ?_⟩
    refine ⟨(2, xs ++ ys), .inr (.inr ⟨rfl, rfl⟩), by show 2 - 2 < 2 - 1; decide, ?_⟩
    conv=>whnf
    refine ⟨rfl, ?_⟩
    conv=>whnf
    repeat' (first | exact trivial | exact rfl | refine And.intro ?_ ?_ | ((conv=>whnf); first | exact trivial | exact rfl | refine And.intro ?_ ?_ | omega))
    all_goals first | exact (congrArg aChk appAll : _) | exact (congrArg aChk (appAll (xs := [])) : _) | simp
  conv=>whnf
  refine ⟨fun hc => absurd (show decide (((2 : Nat) : Int) < 2) = true from hc) (by decide), fun hc => ?_⟩
  conv=>whnf
  repeat' (first | exact trivial | exact rfl | refine And.intro ?_ ?_ | ((conv=>whnf); first | exact trivial | exact rfl | refine And.intro ?_ ?_ | omega))
theorem growCNtc_t (n : Nat) (hn : n ≤ 1000000) : Triple Tryz.prog 238 [.c (.v (.slice none 0 0)), iv .i64 n] [] 0 (.c (.s 0 0 0 6)) [(0, true, .arr (aNtc []))] := by
  refine triple_of tX_ok Tryz.func238 rfl Tryz.call238 rfl ?_
  intro ρ w hH
  conv=>whnf
  refine ⟨fun hc => absurd (of_decide_eq_true (show decide ((n : Int) < 0) = true from hc)) (by omega), fun hc => ?_⟩
  conv=>whnf
  refine capNil_step tX_ok rfl rfl rfl rfl ?_
  conv=>whnf
  refine ⟨0, rfl, ?_⟩
  conv=>whnf
  refine ⟨(n : Int), by show IntKind.i64.wrap ((n : Int) - 0) = n; rw [Int.sub_zero]; exact wrapId ⟨by omega, by omega⟩, ?_⟩
  conv=>whnf
  refine ⟨fun hc => ?_, fun hc => ?_⟩
  · have hp : 0 < n := by have := of_decide_eq_true (show decide ((0 : Int) < n) = true from hc); omega
    conv=>whnf
    refine capNil_step tX_ok rfl rfl rfl rfl ?_
    conv=>whnf
    refine ⟨0, rfl, Nat.le_refl _, ?_⟩
    conv=>whnf
    refine ⟨Nat.le_refl _, ?_⟩
    conv=>whnf
    refine grow_step tX_ok (aNtc []) rfl rfl rfl rfl rfl ?_
    conv=>whnf
    refine ⟨n, ⟨rfl, hp, by show n * 49 ≤ _; omega, rfl⟩, ?_⟩
    conv=>whnf
    refine ⟨0, rfl, Nat.zero_le _, ?_⟩
    conv=>whnf
    refine ⟨Nat.le_refl _, ?_⟩
    conv=>whnf
    repeat' (first | exact trivial | exact rfl | refine And.intro ?_ ?_ | ((conv=>whnf); first | exact trivial | exact rfl | refine And.intro ?_ ?_ | omega))
  · conv=>whnf
    repeat' (first | exact trivial | exact rfl | refine And.intro ?_ ?_ | ((conv=>whnf); first | exact trivial | exact rfl | refine And.intro ?_ ?_ | omega))

set_option maxHeartbeats 1000000 in
theorem concatCNtc_t (xs ys : List Ntc) (h1 : xs.length ≤ 100000) (h2 : ys.length ≤ 100000) : Triple Tryz.prog 191 [.c (.s 0 0 2 1)]
    [(0, false, .arr (aRows 1 [1, 2] [[.s 1 0 xs.length 6], [.s 2 0 ys.length 6]])), (1, false, .arr (aNtc xs)), (2, false, .arr (aNtc ys))] 3 (.c (.s 3 0 (xs ++ ys).length 6)) [(3, true, .arr (aNtc (xs ++ ys)))] := by
  refine triple_of tX_ok Tryz.func191 rfl Tryz.call191 rfl ?_
  intro ρ w hH
  conv=>whnf
  refine loop_step tX_ok (G := Nat × Int) 0 [] (fun g => [(11, iv .i64 g.1), (3, iv .i64 g.2)]) (fun _ => []) (fun g => (g.1 = 0 ∧ g.2 = 0) ∨ (g.1 = 1 ∧ g.2 = xs.length) ∨ (g.1 = 2 ∧ g.2 = (xs.length : Int) + ys.length)) (fun g => 2 - g.1) ?_
  conv=>whnf
  refine ⟨⟨(0, 0), .inl ⟨rfl, rfl⟩, ?_⟩, ?_⟩
  · conv=>whnf
    repeat' (first | exact trivial | exact rfl | refine And.intro ?_ ?_ | ((conv=>whnf); first | exact trivial | exact rfl | refine And.intro ?_ ?_ | omega))
  rintro ⟨i, tot⟩ hi ρ1 t1 hρ1
  have hi : (i = 0 ∧ tot = 0) ∨ (i = 1 ∧ tot = xs.length) ∨ (i = 2 ∧ tot = (xs.length : Int) + ys.length) := hi
  dsimp only
  rcases hi with ⟨rfl, rfl⟩ | ⟨rfl, rfl⟩ | ⟨rfl, rfl⟩
  · conv=>whnf
    refine ⟨fun hc => ?_, fun hc => absurd hc (by decide)⟩
    conv=>whnf
    refine ⟨0, rfl, by decide, by show _ < 2; decide, ?_⟩
    conv=>whnf
    refine ⟨(xs.length : Int), by show IntKind.i64.wrap ((0 : Int) + xs.length) = xs.length; rw [Int.zero_add]; exact wrapId ⟨by omega, by omega⟩, ?_⟩
    conv=>whnf
    refine ⟨fun hc => absurd (of_decide_eq_true hc) (by omega), fun hc => ?_⟩
    conv=>whnf
    refine ⟨1, rfl, ?_⟩
    refine ⟨(1, (xs.length : Int)), .inr (.inl ⟨rfl, rfl⟩), by show 2 - 1 < 2 - 0; decide, ?_⟩
    conv=>whnf
    refine ⟨rfl, ?_⟩
    conv=>whnf
    repeat' (first | exact trivial | exact rfl | refine And.intro ?_ ?_ | ((conv=>whnf); first | exact trivial | exact rfl | refine And.intro ?_ ?_ | omega))
  · conv=>whnf
    refine ⟨fun hc => ?_, fun hc => absurd hc (by decide)⟩
    conv=>whnf
    refine ⟨1, rfl, by decide, by show _ < 2; decide, ?_⟩
    conv=>whnf
    refine ⟨(xs.length : Int) + ys.length, wrapId ⟨by omega, by omega⟩, ?_⟩
    conv=>whnf
    refine ⟨fun hc => absurd (of_decide_eq_true hc) (by omega), fun hc => ?_⟩
    conv=>whnf
    refine ⟨2, rfl, ?_⟩
    refine ⟨(2, (xs.length : Int) + ys.length), .inr (.inr ⟨rfl, rfl⟩), by show 2 - 2 < 2 - 1; decide, ?_⟩
    conv=>whnf
    refine ⟨rfl, ?_⟩
    conv=>whnf
    repeat' (first | exact trivial | exact rfl | refine And.intro ?_ ?_ | ((conv=>whnf); first | exact trivial | exact rfl | refine And.intro ?_ ?_ | omega))
  conv=>whnf
  refine ⟨fun hc => absurd (show decide (((2 : Nat) : Int) < 2) = true from hc) (by decide), fun hc => ?_⟩
  conv=>whnf
  have hg := growCNtc_t (xs.length + ys.length) (by omega)
  rw [show ((xs.length + ys.length : Nat) : Int) = (xs.length : Int) + ys.length from by omega] at hg
  refine call_step hg rfl rfl ?_
  conv=>whnf
  refine ⟨?_, ?_, ?_⟩
  iterate 2 · repeat' (first | exact trivial | exact rfl | refine And.intro ?_ ?_ | ((conv=>whnf); first | exact trivial | exact rfl | refine And.intro ?_ ?_ | omega))
  conv=>whnf
  refine loop_step tX_ok (G := Nat × List Ntc) 1 [3] (fun g => [(27, iv .i64 g.1), (6, .c (.s 4 0 g.2.length 6))]) (fun g => [(4, true, .arr (aNtc g.2))]) (fun g => (g.1 = 0 ∧ [] = g.2) ∨ (g.1 = 1 ∧ xs = g.2) ∨ (g.1 = 2 ∧ xs ++ ys = g.2)) (fun g => 2 - g.1) ?_
  conv=>whnf
  refine ⟨⟨(0, []), .inl ⟨rfl, rfl⟩, ?_⟩, ?_⟩
  · conv=>whnf
    repeat' (first | exact trivial | exact rfl | refine And.intro ?_ ?_ | ((conv=>whnf); first | exact trivial | exact rfl | refine And.intro ?_ ?_ | omega))
  rintro ⟨i, out⟩ hi ρ2 t2 hρ2
  have hi : (i = 0 ∧ [] = out) ∨ (i = 1 ∧ xs = out) ∨ (i = 2 ∧ xs ++ ys = out) := hi
  dsimp only
  rcases hi with ⟨rfl, rfl⟩ | ⟨rfl, rfl⟩ | ⟨rfl, rfl⟩
  · conv=>whnf
    refine ⟨fun hc => ?_, fun hc => absurd hc (by decide)⟩
    conv=>whnf
    refine ⟨0, rfl, by decide, by show _ < 2; decide, ?_⟩
    conv=>whnf
    refine app_step tX_ok (aNtc []) xs (fun _ => rfl) rfl rfl rfl rfl ?_
    conv=>whnf
    refine ⟨⟨rfl, rfl, Nat.le_refl _, by rw [Nat.zero_add]; exact Nat.le_refl _, by show (List.length (α := Ntc) [] + xs.length) * 49 ≤ _; first | omega | (simp only [List.length_nil]; omega)⟩, ?_⟩
    conv=>whnf
    refine ⟨1, rfl, ?_⟩
    refine ⟨(1, xs), .inr (.inl ⟨rfl, rfl⟩), by show 2 - 1 < 2 - 0; decide, ?_⟩
    conv=>whnf
    refine ⟨rfl, ?_⟩
    conv=>whnf
    repeat' (first | exact trivial | exact rfl | refine And.intro ?_ ?_ | ((conv=>whnf); first | exact trivial | exact rfl | refine And.intro ?_ ?_ | omega))
    all_goals first | exact (congrArg aNtc appAll : _) | exact (congrArg aNtc (appAll (xs := [])) : _) | simp
  · conv=>whnf
    refine ⟨fun hc => ?_, fun hc => absurd hc (by decide)⟩
    conv=>whnf
    refine ⟨1, rfl, by decide, by show _ < 2; decide, ?_⟩
    conv=>whnf
    refine app_step tX_ok (aNtc xs) ys (fun _ => rfl) rfl rfl rfl rfl ?_
    conv=>whnf
    refine ⟨⟨rfl, rfl, Nat.le_refl _, by rw [Nat.zero_add]; exact Nat.le_refl _, by show (List.length (α := Ntc) xs + ys.length) * 49 ≤ _; first | omega | (simp only [List.length_nil]; omega)⟩, ?_⟩
    conv=>whnf
    refine ⟨2, rfl, ?_⟩
    refine ⟨(2, xs ++ ys), .inr (.inr ⟨rfl, rfl⟩), by show 2 - 2 < 2 - 1; decide, ?_⟩
    conv=>whnf
    refine ⟨rfl, ?_⟩
    conv=>whnf
    repeat' (first | exact trivial | exact rfl | refine And.intro ?_ ?_ | ((conv=>whnf); first | exact trivial | exact rfl | refine And.intro ?_ ?_ | omega))
    all_goals first | exact (congrArg aNtc appAll : _) | exact (congrArg aNtc (appAll (xs := [])) : _) | simp
  conv=>whnf
  refine ⟨fun hc => absurd (show decide (((2 : Nat) : Int) < 2) = true from hc) (by decide), fun hc => ?_⟩
  conv=>whnf
  repeat' (first | exact trivial | exact rfl | refine And.intro ?_ ?_ | ((conv=>whnf); first | exact trivial | exact rfl | refine And.intro ?_ ?_ | omega))
theorem growCWgh_t (n : Nat) (hn : n ≤ 1000000) : Triple Tryz.prog 240 [.c (.v (.slice none 0 0)), iv .i64 n] [] 0 (.c (.s 0 0 0 8)) [(0, true, .arr (aWgh []))] := by
  refine triple_of tX_ok Tryz.func240 rfl Tryz.call240 rfl ?_
  intro ρ w hH
  conv=>whnf
  refine ⟨fun hc => absurd (of_decide_eq_true (show decide ((n : Int) < 0) = true from hc)) (by omega), fun hc => ?_⟩
  conv=>whnf
  refine capNil_step tX_ok rfl rfl rfl rfl ?_
  conv=>whnf
  refine ⟨0, rfl, ?_⟩
  conv=>whnf
  refine ⟨(n : Int), by show IntKind.i64.wrap ((n : Int) - 0) = n; rw [Int.sub_zero]; exact wrapId ⟨by omega, by omega⟩, ?_⟩
  conv=>whnf
  refine ⟨fun hc => ?_, fun hc => ?_⟩
  · have hp : 0 < n := by have := of_decide_eq_true (show decide ((0 : Int) < n) = true from hc); omega
    conv=>whnf
    refine capNil_step tX_ok rfl rfl rfl rfl ?_
    conv=>whnf
    refine ⟨0, rfl, Nat.le_refl _, ?_⟩
    conv=>whnf
    refine ⟨Nat.le_refl _, ?_⟩
    conv=>whnf
    refine grow_step tX_ok (aWgh []) rfl rfl rfl rfl rfl ?_
    conv=>whnf
    refine ⟨n, ⟨rfl, hp, by show n * 65 ≤ _; omega, rfl⟩, ?_⟩
    conv=>whnf
    refine ⟨0, rfl, Nat.zero_le _, ?_⟩
    conv=>whnf
    refine ⟨Nat.le_refl _, ?_⟩
    conv=>whnf
    repeat' (first | exact trivial | exact rfl | refine And.intro ?_ ?_ | ((conv=>whnf); first | exact trivial | exact rfl | refine And.intro ?_ ?_ | omega))
  · conv=>whnf
    repeat' (first | exact trivial | exact rfl | refine And.intro ?_ ?_ | ((conv=>whnf); first | exact trivial | exact rfl | refine And.intro ?_ ?_ | omega))

set_option maxHeartbeats 1000000 in
theorem concatCWgh_t (xs ys : List Wgh) (h1 : xs.length ≤ 100000) (h2 : ys.length ≤ 100000) : Triple Tryz.prog 194 [.c (.s 0 0 2 1)]
    [(0, false, .arr (aRows 1 [1, 2] [[.s 1 0 xs.length 8], [.s 2 0 ys.length 8]])), (1, false, .arr (aWgh xs)), (2, false, .arr (aWgh ys))] 3 (.c (.s 3 0 (xs ++ ys).length 8)) [(3, true, .arr (aWgh (xs ++ ys)))] := by
  refine triple_of tX_ok Tryz.func194 rfl Tryz.call194 rfl ?_
  intro ρ w hH
  conv=>whnf
  refine loop_step tX_ok (G := Nat × Int) 0 [] (fun g => [(11, iv .i64 g.1), (3, iv .i64 g.2)]) (fun _ => []) (fun g => (g.1 = 0 ∧ g.2 = 0) ∨ (g.1 = 1 ∧ g.2 = xs.length) ∨ (g.1 = 2 ∧ g.2 = (xs.length : Int) + ys.length)) (fun g => 2 - g.1) ?_
  conv=>whnf
  refine ⟨⟨(0, 0), .inl ⟨rfl, rfl⟩, ?_⟩, ?_⟩
  · conv=>whnf
    repeat' (first | exact trivial | exact rfl | refine And.intro ?_ ?_ | ((conv=>whnf); first | exact trivial | exact rfl | refine And.intro ?_ ?_ | omega))
  rintro ⟨i, tot⟩ hi ρ1 t1 hρ1
  have hi : (i = 0 ∧ tot = 0) ∨ (i = 1 ∧ tot = xs.length) ∨ (i = 2 ∧ tot = (xs.length : Int) + ys.length) := hi
  dsimp only
  rcases hi with ⟨rfl, rfl⟩ | ⟨rfl, rfl⟩ | ⟨rfl, rfl⟩
  · conv=>whnf
    refine ⟨fun hc => ?_, fun hc => absurd hc (by decide)⟩
    conv=>whnf
    refine ⟨0, rfl, by decide, by show _ < 2; decide, ?_⟩
    conv=>whnf
    refine ⟨(xs.length : Int), by show IntKind.i64.wrap ((0 : Int) + xs.length) = xs.length; rw [Int.zero_add]; exact wrapId ⟨by omega, by omega⟩, ?_⟩
    conv=>whnf
    refine ⟨fun hc => absurd (of_decide_eq_true hc) (by omega), fun hc => ?_⟩
    conv=>whnf
    refine ⟨1, rfl, ?_⟩
    refine ⟨(1, (xs.length : Int)), .inr (.inl ⟨rfl, rfl⟩), by show 2 - 1 < 2 - 0; decide, ?_⟩
    conv=>whnf
    refine ⟨rfl, ?_⟩
    conv=>whnf
    repeat' (first | exact trivial | exact rfl | refine And.intro ?_ ?_ | ((conv=>whnf); first | exact trivial | exact rfl | refine And.intro ?_ ?_ | omega))
  · conv=>whnf
    refine ⟨fun hc => ?_, fun hc => absurd hc (by decide)⟩
    conv=>whnf
    refine ⟨1, rfl, by decide, by show _ < 2; decide, ?_⟩
    conv=>whnf
    refine ⟨(xs.length : Int) + ys.length, wrapId ⟨by omega, by omega⟩, ?_⟩
    conv=>whnf
    refine ⟨fun hc => absurd (of_decide_eq_true hc) (by omega), fun hc => ?_⟩
    conv=>whnf
    refine ⟨2, rfl, ?_⟩
    refine ⟨(2, (xs.length : Int) + ys.length), .inr (.inr ⟨rfl, rfl⟩), by show 2 - 2 < 2 - 1; decide, ?_⟩
    conv=>whnf
    refine ⟨rfl, ?_⟩
    conv=>whnf
    repeat' (first | exact trivial | exact rfl | refine And.intro ?_ ?_ | ((conv=>whnf); first | exact trivial | exact rfl | refine And.intro ?_ ?_ | omega))
  conv=>whnf
  refine ⟨fun hc => absurd (show decide (((2 : Nat) : Int) < 2) = true from hc) (by decide), fun hc => ?_⟩
  conv=>whnf
  have hg := growCWgh_t (xs.length + ys.length) (by omega)
  rw [show ((xs.length + ys.length : Nat) : Int) = (xs.length : Int) + ys.length from by omega] at hg
  refine call_step hg rfl rfl ?_
  conv=>whnf
  refine ⟨?_, ?_, ?_⟩
  iterate 2 · repeat' (first | exact trivial | exact rfl | refine And.intro ?_ ?_ | ((conv=>whnf); first | exact trivial | exact rfl | refine And.intro ?_ ?_ | omega))
  conv=>whnf
  refine loop_step tX_ok (G := Nat × List Wgh) 1 [3] (fun g => [(27, iv .i64 g.1), (6, .c (.s 4 0 g.2.length 8))]) (fun g => [(4, true, .arr (aWgh g.2))]) (fun g => (g.1 = 0 ∧ [] = g.2) ∨ (g.1 = 1 ∧ xs = g.2) ∨ (g.1 = 2 ∧ xs ++ ys = g.2)) (fun g => 2 - g.1) ?_
  conv=>whnf
  refine ⟨⟨(0, []), .inl ⟨rfl, rfl⟩, ?_⟩, ?_⟩
  · conv=>whnf
    repeat' (first | exact trivial | exact rfl | refine And.intro ?_ ?_ | ((conv=>whnf); first | exact trivial | exact rfl | refine And.intro ?_ ?_ | omega))
  rintro ⟨i, out⟩ hi ρ2 t2 hρ2
  have hi : (i = 0 ∧ [] = out) ∨ (i = 1 ∧ xs = out) ∨ (i = 2 ∧ xs ++ ys = out) := hi
  dsimp only
  rcases hi with ⟨rfl, rfl⟩ | ⟨rfl, rfl⟩ | ⟨rfl, rfl⟩
  · conv=>whnf
    refine ⟨fun hc => ?_, fun hc => absurd hc (by decide)⟩
    conv=>whnf
    refine ⟨0, rfl, by decide, by show _ < 2; decide, ?_⟩
    conv=>whnf
    refine app_step tX_ok (aWgh []) xs (fun _ => rfl) rfl rfl rfl rfl ?_
    conv=>whnf
    refine ⟨⟨rfl, rfl, Nat.le_refl _, by rw [Nat.zero_add]; exact Nat.le_refl _, by show (List.length (α := Wgh) [] + xs.length) * 65 ≤ _; first | omega | (simp only [List.length_nil]; omega)⟩, ?_⟩
    conv=>whnf
    refine ⟨1, rfl, ?_⟩
    refine ⟨(1, xs), .inr (.inl ⟨rfl, rfl⟩), by show 2 - 1 < 2 - 0; decide, ?_⟩
    conv=>whnf
    refine ⟨rfl, ?_⟩
    conv=>whnf
    repeat' (first | exact trivial | exact rfl | refine And.intro ?_ ?_ | ((conv=>whnf); first | exact trivial | exact rfl | refine And.intro ?_ ?_ | omega))
    all_goals first | exact (congrArg aWgh appAll : _) | exact (congrArg aWgh (appAll (xs := [])) : _) | simp
  · conv=>whnf
    refine ⟨fun hc => ?_, fun hc => absurd hc (by decide)⟩
    conv=>whnf
    refine ⟨1, rfl, by decide, by show _ < 2; decide, ?_⟩
    conv=>whnf
    refine app_step tX_ok (aWgh xs) ys (fun _ => rfl) rfl rfl rfl rfl ?_
    conv=>whnf
    refine ⟨⟨rfl, rfl, Nat.le_refl _, by rw [Nat.zero_add]; exact Nat.le_refl _, by show (List.length (α := Wgh) xs + ys.length) * 65 ≤ _; first | omega | (simp only [List.length_nil]; omega)⟩, ?_⟩
    conv=>whnf
    refine ⟨2, rfl, ?_⟩
    refine ⟨(2, xs ++ ys), .inr (.inr ⟨rfl, rfl⟩), by show 2 - 2 < 2 - 1; decide, ?_⟩
    conv=>whnf
    refine ⟨rfl, ?_⟩
    conv=>whnf
    repeat' (first | exact trivial | exact rfl | refine And.intro ?_ ?_ | ((conv=>whnf); first | exact trivial | exact rfl | refine And.intro ?_ ?_ | omega))
    all_goals first | exact (congrArg aWgh appAll : _) | exact (congrArg aWgh (appAll (xs := [])) : _) | simp
  conv=>whnf
  refine ⟨fun hc => absurd (show decide (((2 : Nat) : Int) < 2) = true from hc) (by decide), fun hc => ?_⟩
  conv=>whnf
  repeat' (first | exact trivial | exact rfl | refine And.intro ?_ ?_ | ((conv=>whnf); first | exact trivial | exact rfl | refine And.intro ?_ ?_ | omega))

end Go.Proofs

