/-
  A part of the proof that a law answers true: lemmas of a symbolic walk, plain functions, or contracts of the functions walked (Wo, Wp, Ca, Rj). Conditions: none.
-/
import Derived.Test.YtagedjfjcnemoaaGreatPart09
import Derived.Test.YtagedjfjcnemoaaGreatPart24
import Derived.Test.YtagedjfjcnemoaaGreatPart25
import Derived.Test.YtagedjfjcnemoaaGreatPart26
import Derived.Test.YtagedjfjcnemoaaGreatPart23
import Derived.Test.YtagedjfjcnemoaaGreatRows
import Derived.Test.YtagedjfjcnemoaaGreatChecked
import Derived.WideKeyArgs
import Derived.Carry
import Derived.Handed
import Derived.RowKit
import Derived.JoinedOf
import Derived.ChangeSame
import Derived.Test.YtagedjfjcnemoaaGreatPart15
set_option maxRecDepth 100000
set_option linter.unusedVariables false
set_option linter.unusedSimpArgs false
namespace Go.Proofs
open Go.Sx Go.ChangeShapes Go.WideShapes Go.RowKit

theorem below_of {W W' : World} (h : Frm W W' []) : Below W.heap.size W { W' with tape := W.tape } :=
  ⟨h.io.1, rfl, h.io.2, h.size, fun k hk => h.same k hk (by simp)⟩

theorem A_own : ownKnob Tryz.prog.godebug = none := by kernel_rfl
theorem A_laidOut : laidOutB Tryz.prog = true := fact_laid
theorem A_undBool : Tryz.prog.underlying 4 = some .bool := by kernel_rfl

end Go.Proofs

namespace Go.Proofs
open Go.Sx Go.ChangeShapes Go.WideShapes Go.RowKit Go.Deep

/-! ### Arguments that came in -/

/-- A value that came in, as the walk sees it: a symbolic value over regions that are not the callee's own. -/
def Came (w : World) (v : Value) (sv : SV) (H : Heap) (ks : List (Nat × Rg)) : Prop := ∀ ρ : Asg, (∀ p ∈ ks, ρ p.1 = p.2) →
  sv.rel ρ v ∧ ∀ e ∈ H, e.2.1 = false ∧ SatO ρ w e.1 false e.2.2 ∧ (0 < e.2.2.room (ρ e.1) → (ρ e.1).blk < w.heap.size)

def CameAll (w : World) (vs : List Value) (svs : List SV) (H : Heap) (ks : List (Nat × Rg)) : Prop := ∀ ρ : Asg, (∀ p ∈ ks, ρ p.1 = p.2) →
  relVs ρ svs vs ∧ ∀ e ∈ H, e.2.1 = false ∧ SatO ρ w e.1 false e.2.2 ∧ (0 < e.2.2.room (ρ e.1) → (ρ e.1).blk < w.heap.size)

theorem cameAll_nil (w : World) : CameAll w [] [] [] [] := fun _ _ => ⟨trivial, fun e he => by cases he⟩

theorem cameAll_cons {w : World} {v : Value} {vs : List Value} {sv : SV} {svs : List SV} {H H' : Heap} {ks ks' : List (Nat × Rg)} (h : Came w v sv H ks) (h' : CameAll w vs svs H' ks') : CameAll w (v :: vs) (sv :: svs) (H ++ H') (ks ++ ks') := by
  intro ρ hρ
  obtain ⟨h1, h2⟩ := h ρ fun p hp => hρ p (List.mem_append.2 (.inl hp))
  obtain ⟨h3, h4⟩ := h' ρ fun p hp => hρ p (List.mem_append.2 (.inr hp))
  refine ⟨⟨h1, h3⟩, fun e he => ?_⟩
  rcases List.mem_append.1 he with he | he
  · exact h2 e he
  · exact h4 e he

def asgOf : List (Nat × Rg) → Asg
  | [], _ => ⟨0, 0, 0⟩
  | (k, r) :: t, j => if j = k then r else asgOf t j

theorem asgOf_ok : ∀ {ks : List (Nat × Rg)}, (ks.map (·.1)).Nodup → ∀ p ∈ ks, asgOf ks p.1 = p.2
  | [], _, p, hp => by cases hp
  | (k, r) :: t, hn, p, hp => by
    simp only [List.map_cons, List.nodup_cons] at hn
    rcases List.mem_cons.1 hp with rfl | hq
    · simp [asgOf]
    · have hne : p.1 ≠ k := fun he => hn.1 (he ▸ List.mem_map_of_mem hq)
      simp only [asgOf, if_neg hne]
      exact asgOf_ok hn.2 p hq

theorem look_mem : ∀ {H : Heap} {k : Nat} {x : Bool × SO}, Sx.look H k = some x → (k, x) ∈ H
  | [], _, _, h => by cases h
  | (j, o) :: r, k, x, h => by
    rw [look_cons] at h
    by_cases hk : k = j
    · rw [if_pos hk] at h
      rw [← Option.some.inj h, hk]; exact List.mem_cons_self ..
    · rw [if_neg hk] at h
      exact List.mem_cons_of_mem _ (look_mem h)

theorem came_sat {w : World} {vs : List Value} {svs : List SV} {H : Heap} {ks : List (Nat × Rg)} (h : CameAll w vs svs H ks) (hn : (ks.map (·.1)).Nodup) :
    ∃ ρ : Asg, relVs ρ svs vs ∧ SatH w (ownB ρ H) ρ H w := by
  obtain ⟨h1, h2⟩ := h (asgOf ks) (asgOf_ok hn)
  refine ⟨asgOf ks, h1, Frm.refl _ _, ?_, ?_, ?_, ?_⟩
  · intro k own o hk
    obtain ⟨h3, h4, _⟩ := h2 _ (look_mem hk)
    have h3 : own = false := h3
    subst h3; exact h4
  · intro k k' o own' o' _ hk
    have := (h2 _ (look_mem hk)).1; cases this
  · intro k o hk
    have := (h2 _ (look_mem hk)).1; cases this
  · intro k own o hk hp
    exact (h2 _ (look_mem hk)).2.2 hp

theorem came_int {base : Nat} {H : Type} {enc : TypeId × Value → H} {w : World} {v : Value} {d : DataW H} {p : List MemPlace} {t : TypeId} {k : IntKind} (ht : Tryz.prog.underlying t = some (.int k)) (hok : Value.okWide Tryz.prog w .any base t v)
    (h : DataW.Trod enc Tryz.prog w 0 (fun _ => true) true t v d p) : ∃ z : Int, Came w v (iv k z) [] [] ∧ (Lit.int k z).wf = true := by
  obtain ⟨n, rfl⟩ := okWide_int ht hok
  obtain ⟨fuel, hf⟩ := h
  obtain ⟨m, hm, _, hw⟩ := DataW.trod_int ht hf
  have : m = n := by simpa [Value.cells] using hm.symm
  subst this
  exact ⟨m, fun ρ _ => ⟨rfl, fun e he => by cases he⟩, hw⟩

/-! ### Behind the call -/

theorem trodAll_keep {H : Type} {enc : TypeId × Value → H} {W W' : World} (hfrm : Frm W W' []) : ∀ {ts : List TypeId} {vs : List Value} {ds : List (DataW H)} {p : List MemPlace}, (∀ t ∈ ts, Tryz.prog.readableRec t = true ∧ t < Tryz.prog.types.size) →
    DataW.TrodAll enc Tryz.prog W 0 (fun _ => true) true ts vs ds p → (∀ x ∈ p, x.block < W.heap.size) → DataW.TrodAll enc Tryz.prog { W' with tape := W.tape } 0 (fun b => decide (b < W.heap.size)) true ts vs ds p
  | [], vs, ds, p, _, h, _ => by
    obtain ⟨rfl, rfl, rfl⟩ := trodAll_nil h
    exact trodAll_mk0
  | t :: ts, vs, ds, p, hr, h, hlt => by
    obtain ⟨v, vs', d, ds', p1, p2, rfl, rfl, rfl, hd, hrest⟩ := trodAll_cons h
    have ht := hr t (List.mem_cons_self ..)
    refine ⟨p1, p2, ?_, ?_, rfl⟩
    · exact Below.trod A_laidOut ht.1 ht.2 hd (below_of hfrm) fun x hx => hlt x (List.mem_append.2 (.inl hx))
    · exact trodAll_keep hfrm (fun t ht => hr t (List.mem_cons_of_mem _ ht)) hrest fun x hx => hlt x (List.mem_append.2 (.inr hx))

end Go.Proofs

namespace Go.Proofs
open Go.Sx Go.ChangeShapes Go.WideShapes Go.RowKit Go.Deep

/-! ### Readings and other arguments that came in -/

def chkFs (L : List (Nat × Nat)) : List Field → Nat → Nat → Bool
  | [], j, n => Nat.beq j n
  | f :: r, j, n => Nat.beq f.offset j && (match lookN L f.type with
    | some m => chkFs L r (j + m) n
    | none => false)

theorem chkFs_ok {P : Program} {L : List (Nat × Nat)} (hL : ∀ t n, lookN L t = some n → AllI P t n) : ∀ {fs : List Field} {j n : Nat}, chkFs L fs j n = true → AllFs P fs j n
  | [], _, _, h => Nat.eq_of_beq_eq_true h
  | f :: r, j, n, h => by
    simp only [chkFs, Bool.and_eq_true] at h
    obtain ⟨h1, h2⟩ := h
    split at h2
    · rename_i m hm
      exact ⟨m, Nat.eq_of_beq_eq_true h1, hL _ _ hm, chkFs_ok hL h2⟩
    · cases h2

theorem allN_nil {P : Program} : ∀ t n, lookN [] t = some n → AllI P t n := by intro t n h; simp [lookN] at h
theorem allN_cons {P : Program} {t m : Nat} {L : List (Nat × Nat)} (h : AllI P t m) (hL : ∀ t n, lookN L t = some n → AllI P t n) : ∀ t' n, lookN ((t, m) :: L) t' = some n → AllI P t' n := by
  intro t' n h'
  simp only [lookN] at h'
  cases hb : Nat.beq t' t with
  | true => simp [hb] at h'; subst h'; rw [Nat.eq_of_beq_eq_true hb]; exact h
  | false => simp [hb] at h'; exact hL _ _ h'

theorem I_int : AllI Tryz.prog 3 1 := allI_int (by kernel_rfl) (by kernel_rfl)
theorem I_state : AllI Tryz.prog 28 1 := allI_int (by kernel_rfl) (by kernel_rfl)
theorem L_int : ∀ t n, lookN [(3, 1), (28, 1)] t = some n → AllI Tryz.prog t n := allN_cons I_int (allN_cons I_state allN_nil)
theorem I_span : AllI Tryz.prog 37 2 := allI_struct (fs := Tryz.prog.fieldsOf 37) (by kernel_rfl) (by kernel_rfl) (chkFs_ok L_int (by kernel_rfl))
theorem I_thg : AllI Tryz.prog 30 4 := allI_struct (fs := Tryz.prog.fieldsOf 30) (by kernel_rfl) (by kernel_rfl) (chkFs_ok L_int (by kernel_rfl))
theorem L_all : ∀ t n, lookN [(37, 2), (30, 4), (3, 1), (28, 1)] t = some n → AllI Tryz.prog t n := allN_cons I_span (allN_cons I_thg L_int)
theorem I_bal : AllI Tryz.prog 57 6 := allI_struct (fs := Tryz.prog.fieldsOf 57) (by kernel_rfl) (by kernel_rfl) (chkFs_ok L_all (by kernel_rfl))
theorem I_chk : AllI Tryz.prog 51 5 := allI_struct (fs := Tryz.prog.fieldsOf 51) (by kernel_rfl) (by kernel_rfl) (chkFs_ok L_all (by kernel_rfl))
theorem I_ntc : AllI Tryz.prog 93 6 := allI_struct (fs := Tryz.prog.fieldsOf 93) (by kernel_rfl) (by kernel_rfl) (chkFs_ok L_all (by kernel_rfl))
theorem I_wgh : AllI Tryz.prog 32 8 := allI_struct (fs := Tryz.prog.fieldsOf 32) (by kernel_rfl) (by kernel_rfl) (chkFs_ok L_all (by kernel_rfl))

/-- A record of integers that came in. -/
theorem came_rec {base : Nat} {α H : Type} {enc : TypeId × Value → H} {w : World} {v : Value} {d : DataW H} {p : List MemPlace} {t n : Nat} (f : α → List Int) (mk : (Nat → Int) → α) (hmk : ∀ V, f (mk V) = (List.range n).map V)
    (hA : AllI Tryz.prog t n) (hs : Tryz.prog.underlying t = some (.struct (Tryz.prog.fieldsOf t))) (hok : Value.okWide Tryz.prog w .any base t v)
    (h : DataW.Trod enc Tryz.prog w 0 (fun _ => true) true t v d p) : ∃ x : α, Came w v (.agg (Sx.encI (f x))) [] [] := by
  obtain ⟨cs, rfl, hcs⟩ := okWide_struct hs hok
  obtain ⟨fuel, hf⟩ := h
  obtain ⟨hl, V, hV⟩ := hA.op hf
  have hl : cs.toList.length = n := hl
  have hV : ∀ j, j < n → cs.toList[j]? = some (.int .i64 (V j)) := hV
  refine ⟨mk V, fun ρ _ => ⟨⟨cs, rfl, ?_⟩, fun e he => by cases he⟩⟩
  have e : cs.toList = (f (mk V)).map (Value.int .i64) := by
    rw [hmk, List.map_map]
    apply List.ext_getElem?
    intro j
    by_cases hj : j < n
    · rw [hV j hj, List.getElem?_map, List.getElem?_range hj]; rfl
    · rw [List.getElem?_eq_none (by omega), List.getElem?_eq_none (by simp; omega)]
  rw [e]
  exact relEncI ρ _

theorem came_bal {base : Nat} {H : Type} {enc : TypeId × Value → H} {w : World} {v : Value} {d : DataW H} {p : List MemPlace} (hok : Value.okWide Tryz.prog w .any base 57 v)
    (h : DataW.Trod enc Tryz.prog w 0 (fun _ => true) true 57 v d p) : ∃ x : Bal, Came w v (svBal x) [] [] :=
  came_rec balL (fun V => ⟨V 0, V 1, V 2, V 3, V 4, V 5⟩) (fun _ => rfl) I_bal (by kernel_rfl) hok h
theorem A_undRd : Tryz.prog.underlying 27 = some (.struct (Tryz.prog.fieldsOf 27)) := by kernel_rfl
theorem A_fldRd : ∃ f0 f1 f2 f3, Tryz.prog.fieldsOf 27 = #[f0, f1, f2, f3] ∧ (f0.type = 22 ∧ f0.offset = 0) ∧ (f1.type = 23 ∧ f1.offset = 1) ∧ (f2.type = 24 ∧ f2.offset = 2) ∧ f3.type = 25 ∧ f3.offset = 3 :=
  ⟨(Tryz.prog.fieldsOf 27)[0]!, (Tryz.prog.fieldsOf 27)[1]!, (Tryz.prog.fieldsOf 27)[2]!, (Tryz.prog.fieldsOf 27)[3]!, by kernel_rfl, ⟨by kernel_rfl, by kernel_rfl⟩, ⟨by kernel_rfl, by kernel_rfl⟩, ⟨by kernel_rfl, by kernel_rfl⟩, by kernel_rfl, by kernel_rfl⟩

/-- Lists that lie in memory that there is. -/
structure Wide (r : Rd) : Prop where
  bs : r.bs.length ≤ 140737488351232
  cs : r.cs.length ≤ 140737488351232
  ns : r.ns.length ≤ 140737488351232
  ws : r.ws.length ≤ 140737488351232

abbrev rdK (k0 k1 k2 k3 : Nat) (r : Rd) : SV := .agg [.s k0 0 r.bs.length 6, .s k2 0 r.cs.length 5, .s k3 0 r.ns.length 6, .s k1 0 r.ws.length 8]
abbrev rdHK (k0 k1 k2 k3 : Nat) (r : Rd) : Heap := [(k0, false, .arr (aBal r.bs)), (k1, false, .arr (aWgh r.ws)), (k2, false, .arr (aChk r.cs)), (k3, false, .arr (aNtc r.ns))]

theorem weights_part {H : Type} {P : Program} {t : Nat} {fs : Array Field} {parts : List (DataW H)} (h : P.underlying t = some (.struct fs)) (hw : ∀ y ∈ (DataW.agg parts).weights P t, y ≤ reachBytes) {i : Nat} {f : Field} {d : DataW H} (hf : fs.toList[i]? = some f) (hd : parts[i]? = some d) :
    ∀ y ∈ d.weights P f.type, y ≤ reachBytes := fun y hy => hw y (by
  simp only [DataW.weights, h]
  exact DataW.weights_mem_each (j := i) (by rw [List.getElem?_map, hf]; rfl) hd y hy)

theorem room_pos {ρ : Asg} {k : Nat} {α : Type} {n : Nat} {f : α → List Int} {hf : ∀ x, (f x).length = n} {xs : List α} {r : Rg} (e : ρ k = r) {w : World} (h : 0 < r.cap → r.blk < w.heap.size) : 0 < (SO.arr (aRec n f hf xs)).room (ρ k) → (ρ k).blk < w.heap.size := by
  intro hp
  rw [e] at hp ⊢
  refine h (Nat.pos_of_ne_zero fun h0 => ?_)
  have hp : 0 < r.cap * n := hp
  rw [h0, Nat.zero_mul] at hp; cases hp

theorem came_rd {base : Nat} {H : Type} {enc : TypeId × Value → H} {w : World} {v : Value} {d : DataW H} {p : List MemPlace} (hok : Value.okWide Tryz.prog w .any base 27 v)
    (h : DataW.Trod enc Tryz.prog w 0 (fun _ => true) true 27 v d p) (hw : ∀ y ∈ d.weights Tryz.prog 27, y ≤ reachBytes) (k0 k1 k2 k3 : Nat) :
    ∃ (r : Rd) (q0 q1 q2 q3 : Rg), Wide r ∧ Came w v (rdK k0 k1 k2 k3 r) (rdHK k0 k1 k2 k3 r) [(k0, q0), (k1, q1), (k2, q2), (k3, q3)] := by
  obtain ⟨cs, rfl, hcs⟩ := okWide_struct A_undRd hok
  obtain ⟨fuel, hf⟩ := h
  have hc4 : Tryz.prog.cellsOf 27 = 4 := by kernel_rfl
  rw [hc4] at hcs
  obtain ⟨l⟩ := cs
  match l, hcs with
  | [a, b, c, e], _ =>
    obtain ⟨xs, m, _, hd, _, hxl, hff⟩ := DataW.trod_struct A_undRd hf
    have hd : d = .agg (xs.map (·.1)) := congrArg Prod.fst hd
    subst hd
    have hwp := fun {i : Nat} {f : Field} {d : DataW H} => weights_part (i := i) (f := f) (d := d) A_undRd hw
    obtain ⟨f0, f1, f2, f3, hfs, ⟨t0, o0⟩, ⟨t1, o1⟩, ⟨t2, o2⟩, t3, o3⟩ := A_fldRd
    rw [hfs] at hff hxl hwp
    have hxl : xs.length = 4 := hxl
    match xs, hxl with
    | [x0, x1, x2, x3], _ =>
    have h0 := hff 0 f0 rfl
    have h1 := hff 1 f1 rfl
    have h2 := hff 2 f2 rfl
    have h3 := hff 3 f3 rfl
    have w0 := hwp (i := 0) (f := f0) (d := x0.1) rfl rfl
    have w1 := hwp (i := 1) (f := f1) (d := x1.1) rfl rfl
    have w2 := hwp (i := 2) (f := f2) (d := x2.1) rfl rfl
    have w3 := hwp (i := 3) (f := f3) (d := x3.1) rfl rfl
    have c0 : Tryz.prog.cellsOf 22 = 1 := by kernel_rfl
    have c1 : Tryz.prog.cellsOf 23 = 1 := by kernel_rfl
    have c2 : Tryz.prog.cellsOf 24 = 1 := by kernel_rfl
    have c3 : Tryz.prog.cellsOf 25 = 1 := by kernel_rfl
    rw [t0, o0, c0] at h0
    rw [t1, o1, c1] at h1
    rw [t2, o2, c2] at h2
    rw [t3, o3, c3] at h3
    rw [t0] at w0
    rw [t1] at w1
    rw [t2] at w2
    rw [t3] at w3
    have h0 : DataW.trod enc Tryz.prog w 0 (fun _ => true) true m 22 [a] = some x0 := h0
    have h1 : DataW.trod enc Tryz.prog w 0 (fun _ => true) true m 23 [b] = some x1 := h1
    have h2 : DataW.trod enc Tryz.prog w 0 (fun _ => true) true m 24 [c] = some x2 := h2
    have h3 : DataW.trod enc Tryz.prog w 0 (fun _ => true) true m 25 [e] = some x3 := h3
    obtain ⟨bs, q0, l0, g0⟩ := key_sl balL (fun _ => rfl) (fun V => (⟨V 0, V 1, V 2, V 3, V 4, V 5⟩ : Bal)) (fun V j z hz => by
      match j, hz with
      | 0, hz | 1, hz | 2, hz | 3, hz | 4, hz | 5, hz => simp [balL] at hz; exact ⟨by decide, hz.symm⟩) (by kernel_rfl : Tryz.prog.underlying 22 = some (.slice 57)) I_bal (by decide) (by decide +kernel) w0 h0 k0
    obtain ⟨cs, q2, l2, g2⟩ := key_sl chkL (fun _ => rfl) (fun V => (⟨V 0, V 1, V 2, V 3, V 4⟩ : Chk)) (fun V j z hz => by
      match j, hz with
      | 0, hz | 1, hz | 2, hz | 3, hz | 4, hz => simp [chkL] at hz; exact ⟨by decide, hz.symm⟩) (by kernel_rfl : Tryz.prog.underlying 23 = some (.slice 51)) I_chk (by decide) (by decide +kernel) w1 h1 k2
    obtain ⟨ns, q3, l3, g3⟩ := key_sl ntcL (fun _ => rfl) (fun V => (⟨V 0, V 1, V 2, V 3, V 4, V 5⟩ : Ntc)) (fun V j z hz => by
      match j, hz with
      | 0, hz | 1, hz | 2, hz | 3, hz | 4, hz | 5, hz => simp [ntcL] at hz; exact ⟨by decide, hz.symm⟩) (by kernel_rfl : Tryz.prog.underlying 24 = some (.slice 93)) I_ntc (by decide) (by decide +kernel) w2 h2 k3
    obtain ⟨ws, q1, l1, g1⟩ := key_sl wghL (fun _ => rfl) (fun V => (⟨V 0, V 1, V 2, ⟨V 3, V 4, V 5, V 6⟩, V 7⟩ : Wgh)) (fun V j z hz => by
      match j, hz with
      | 0, hz | 1, hz | 2, hz | 3, hz | 4, hz | 5, hz | 6, hz | 7, hz => simp [wghL] at hz; exact ⟨by decide, hz.symm⟩) (by kernel_rfl : Tryz.prog.underlying 25 = some (.slice 32)) I_wgh (by decide) (by decide +kernel) w3 h3 k1
    refine ⟨⟨bs, cs, ns, ws⟩, q0, q1, q2, q3, ⟨l0, l2, l3, l1⟩, fun ρ hρ => ?_⟩
    have e0 := hρ (k0, q0) (by simp)
    have e1 := hρ (k1, q1) (by simp)
    have e2 := hρ (k2, q2) (by simp)
    have e3 := hρ (k3, q3) (by simp)
    obtain ⟨u0, v0, r0⟩ := g0 ρ e0
    obtain ⟨u1, v1, r1⟩ := g1 ρ e1
    obtain ⟨u2, v2, r2⟩ := g2 ρ e2
    obtain ⟨u3, v3, r3⟩ := g3 ρ e3
    refine ⟨⟨#[a, b, c, e], rfl, u0, u2, u3, u1, trivial⟩, fun y hy => ?_⟩
    simp only [rdHK, List.mem_cons, List.not_mem_nil, or_false] at hy
    rcases hy with rfl | rfl | rfl | rfl
    · exact ⟨rfl, v0, room_pos e0 r0⟩
    · exact ⟨rfl, v1, room_pos e1 r1⟩
    · exact ⟨rfl, v2, room_pos e2 r2⟩
    · exact ⟨rfl, v3, room_pos e3 r3⟩

abbrev B_reads : List Nat := [27, 3, 57, 51, 32, 30, 53, 37, 5, 33, 43, 100, 108]

theorem B_read : ∀ t ∈ B_reads, Tryz.prog.readableRec t = true ∧ t < Tryz.prog.types.size := by
  have h : (B_reads.all fun t => Tryz.prog.readableRec t && decide (t < Tryz.prog.types.size)) = true := by kernel_rfl
  intro t ht
  have := List.all_eq_true.1 h t ht
  simpa using this

end Go.Proofs

namespace Go.Proofs
open Go.Sx

/-! ### BalanceChecks -/

def cntR (r : Rd) : Nat := r.cs.length + r.ns.length + r.ws.length
def manyF (r : Rd) : Bool := decide (r.bs.length ≤ 20) && (decide (cntR r ≤ 24) || (decide (100 < cntR r) && decide (cntR r ≤ 130)))

theorem many_t (r : Rd) (hw : Wide r) : Triple Tryz.prog 27 [rdA r] (rdH r) 4 (bv (manyF r)) [] := by
  obtain ⟨w1, w2, w3, w4⟩ := hw
  have e : manyF r = (decide (r.bs.length ≤ 20) && (decide (r.cs.length + r.ns.length + r.ws.length ≤ 24) || (decide (100 < r.cs.length + r.ns.length + r.ws.length) && decide (r.cs.length + r.ns.length + r.ws.length ≤ 130)))) := rfl
  generalize manyF r = R at *
  obtain ⟨bs, cs, ns, ws⟩ := r
  dsimp only at *
  refine triple_of tB_ok Tryz.func27 rfl Tryz.call27 rfl ?_
  intro ρ w hH
  conv => whnf
  refine ⟨((cs.length + ns.length : Nat) : Int), (show IntKind.i64.wrap ((cs.length : Int) + ns.length) = ((cs.length + ns.length : Nat) : Int) by rw [wrapId ⟨by omega, by omega⟩]; omega), ?_⟩
  conv => whnf
  refine ⟨((cs.length + ns.length + ws.length : Nat) : Int), (show IntKind.i64.wrap (((cs.length + ns.length : Nat) : Int) + ws.length) = ((cs.length + ns.length + ws.length : Nat) : Int) by rw [wrapId ⟨by omega, by omega⟩]; omega), ?_⟩
  conv => whnf
  generalize cs.length + ns.length + ws.length = n at *
  refine ⟨fun hc => ?_, fun hc => ?_⟩
  rotate_left
  · have h1 : ¬ bs.length ≤ 20 := by have := of_decide_eq_false (show decide ((bs.length : Int) ≤ 20) = false from hc); omega
    rw [decide_eq_false h1, Bool.false_and] at e
    subst e
    conv => whnf
    repeat' (first | exact trivial | exact rfl | refine And.intro ?_ ?_ | ((conv => whnf); first | exact trivial | exact rfl | refine And.intro ?_ ?_ | omega))
  have h1 : bs.length ≤ 20 := by have := of_decide_eq_true (show decide ((bs.length : Int) ≤ 20) = true from hc); omega
  rw [decide_eq_true h1, Bool.true_and] at e
  conv => whnf
  refine ⟨fun hc => ?_, fun hc => ?_⟩
  · have h2 : n ≤ 24 := by have := of_decide_eq_true (show decide ((n : Int) ≤ 24) = true from hc); omega
    rw [decide_eq_true h2, Bool.true_or] at e
    subst e
    conv => whnf
    repeat' (first | exact trivial | exact rfl | refine And.intro ?_ ?_ | ((conv => whnf); first | exact trivial | exact rfl | refine And.intro ?_ ?_ | omega))
  have h2 : ¬ n ≤ 24 := by have := of_decide_eq_false (show decide ((n : Int) ≤ 24) = false from hc); omega
  rw [decide_eq_false h2, Bool.false_or] at e
  conv => whnf
  refine ⟨fun hc => ?_, fun hc => ?_⟩
  rotate_left
  · have h3 : ¬ 100 < n := by have := of_decide_eq_false (show decide ((100 : Int) < n) = false from hc); omega
    rw [decide_eq_false h3, Bool.false_and] at e
    subst e
    conv => whnf
    repeat' (first | exact trivial | exact rfl | refine And.intro ?_ ?_ | ((conv => whnf); first | exact trivial | exact rfl | refine And.intro ?_ ?_ | omega))
  have h3 : 100 < n := by have := of_decide_eq_true (show decide ((100 : Int) < n) = true from hc); omega
  rw [decide_eq_true h3, Bool.true_and] at e
  have h4 : decide ((n : Int) ≤ 130) = R := by rw [e]; exact decide_eq_decide.2 (by omega)
  rw [← h4]
  conv => whnf
  repeat' (first | exact trivial | exact rfl | refine And.intro ?_ ?_ | ((conv => whnf); first | exact trivial | exact rfl | refine And.intro ?_ ?_ | omega))

theorem many_sml {r : Rd} (h : manyF r = true) : Sml r := by
  unfold manyF cntR at h
  simp at h
  exact ⟨by omega, by omega, by omega, by omega⟩

theorem balanceChecks_t (r : Rd) (hw : Wide r) (b : Bal) (mass shift shown : Int) : Triple Tryz.prog 6 [rdA r, svBal b, iv .i64 mass, iv .i64 shift, iv .i64 shown] (rdH r) 4 (bv true) [] := by
  have hM := many_t r hw
  cases hm : manyF r with
  | false =>
    rw [hm] at hM
    refine triple_of tB_ok Tryz.func6 rfl Tryz.call6 rfl ?_
    intro ρ w hH
    conv => whnf
    refine call_step hM rfl rfl ?_
    conv => whnf
    refine ⟨(by repeat' (first | exact trivial | exact rfl | refine And.intro ?_ ?_ | ((conv => whnf); first | exact trivial | exact rfl | refine And.intro ?_ ?_ | omega))), (by repeat' (first | exact trivial | exact rfl | refine And.intro ?_ ?_ | ((conv => whnf); first | exact trivial | exact rfl | refine And.intro ?_ ?_ | omega))), ?_⟩
    conv => whnf
    refine ⟨fun hc => ?_, fun hc => absurd hc (by simp)⟩
    conv => whnf
    refine call_step sanity_t rfl rfl ?_
    conv => whnf
    refine ⟨(by repeat' (first | exact trivial | exact rfl | refine And.intro ?_ ?_ | ((conv => whnf); first | exact trivial | exact rfl | refine And.intro ?_ ?_ | omega))), (by repeat' (first | exact trivial | exact rfl | refine And.intro ?_ ?_ | ((conv => whnf); first | exact trivial | exact rfl | refine And.intro ?_ ?_ | omega))), ?_⟩
    conv => whnf
    repeat' (first | exact trivial | exact rfl | refine And.intro ?_ ?_ | ((conv => whnf); first | exact trivial | exact rfl | refine And.intro ?_ ?_ | omega))
  | true =>
    rw [hm] at hM
    have hs := many_sml hm
    have hC := check_rd_t r (Nat.le_trans hs.bs (by decide)) (Nat.le_trans hs.cs (by decide)) (Nat.le_trans hs.ns (by decide)) (Nat.le_trans hs.ws (by decide))
    have hC2 := rCheck_t r hs
    have h1 := showing_t b mass shift
    have h2 := rShowing_t b mass shift
    have h3 := bShows_t b mass shift shown
    have h4 := rShows_t b mass shift shown
    generalize showingF b mass shift = S at *
    generalize showsR b mass shift shown = T at *
    generalize checkR r = c at *
    refine triple_of tB_ok Tryz.func6 rfl Tryz.call6 rfl ?_
    intro ρ w hH
    conv => whnf
    refine call_step hM rfl rfl ?_
    conv => whnf
    refine ⟨(by repeat' (first | exact trivial | exact rfl | refine And.intro ?_ ?_ | ((conv => whnf); first | exact trivial | exact rfl | refine And.intro ?_ ?_ | omega))), (by repeat' (first | exact trivial | exact rfl | refine And.intro ?_ ?_ | ((conv => whnf); first | exact trivial | exact rfl | refine And.intro ?_ ?_ | omega))), ?_⟩
    conv => whnf
    refine ⟨fun hc => absurd hc (by simp), fun hc => ?_⟩
    conv => whnf
    refine call_step h1 rfl rfl ?_
    conv => whnf
    refine ⟨(by repeat' (first | exact trivial | exact rfl | refine And.intro ?_ ?_ | ((conv => whnf); first | exact trivial | exact rfl | refine And.intro ?_ ?_ | omega))), (by repeat' (first | exact trivial | exact rfl | refine And.intro ?_ ?_ | ((conv => whnf); first | exact trivial | exact rfl | refine And.intro ?_ ?_ | omega))), ?_⟩
    conv => whnf
    refine call_step h2 rfl rfl ?_
    conv => whnf
    refine ⟨(by repeat' (first | exact trivial | exact rfl | refine And.intro ?_ ?_ | ((conv => whnf); first | exact trivial | exact rfl | refine And.intro ?_ ?_ | omega))), (by repeat' (first | exact trivial | exact rfl | refine And.intro ?_ ?_ | ((conv => whnf); first | exact trivial | exact rfl | refine And.intro ?_ ?_ | omega))), ?_⟩
    conv => whnf
    refine call_step sanity_t rfl rfl ?_
    conv => whnf
    refine ⟨(by repeat' (first | exact trivial | exact rfl | refine And.intro ?_ ?_ | ((conv => whnf); first | exact trivial | exact rfl | refine And.intro ?_ ?_ | omega))), (by repeat' (first | exact trivial | exact rfl | refine And.intro ?_ ?_ | ((conv => whnf); first | exact trivial | exact rfl | refine And.intro ?_ ?_ | omega))), ?_⟩
    conv => whnf
    refine ⟨fun hc => ?_, fun hc => absurd hc (by simp)⟩
    conv => whnf
    refine call_step hC rfl rfl ?_
    conv => whnf
    refine ⟨(by repeat' (first | exact trivial | exact rfl | refine And.intro ?_ ?_ | ((conv => whnf); first | exact trivial | exact rfl | refine And.intro ?_ ?_ | omega))), (by repeat' (first | exact trivial | exact rfl | refine And.intro ?_ ?_ | ((conv => whnf); first | exact trivial | exact rfl | refine And.intro ?_ ?_ | omega))), ?_⟩
    conv => whnf
    refine call_step hC2 rfl rfl ?_
    conv => whnf
    refine ⟨(by repeat' (first | exact trivial | exact rfl | refine And.intro ?_ ?_ | ((conv => whnf); first | exact trivial | exact rfl | refine And.intro ?_ ?_ | omega))), (by repeat' (first | exact trivial | exact rfl | refine And.intro ?_ ?_ | ((conv => whnf); first | exact trivial | exact rfl | refine And.intro ?_ ?_ | omega))), ?_⟩
    conv => whnf
    refine ⟨fun hc => ?_, fun hc => absurd (show (c == c) = false from hc) (by simp)⟩
    conv => whnf
    refine ⟨fun hc => ?_, fun hc => absurd (show ([S.1.1, S.1.2] == [S.1.1, S.1.2]) = false from hc) (by simp)⟩
    conv => whnf
    refine ⟨fun hc => ?_, fun hc => absurd (show (S.2 == S.2) = false from hc) (by simp)⟩
    conv => whnf
    refine call_step h3 rfl rfl ?_
    conv => whnf
    refine ⟨(by repeat' (first | exact trivial | exact rfl | refine And.intro ?_ ?_ | ((conv => whnf); first | exact trivial | exact rfl | refine And.intro ?_ ?_ | omega))), (by repeat' (first | exact trivial | exact rfl | refine And.intro ?_ ?_ | ((conv => whnf); first | exact trivial | exact rfl | refine And.intro ?_ ?_ | omega))), ?_⟩
    conv => whnf
    refine call_step h4 rfl rfl ?_
    conv => whnf
    refine ⟨(by repeat' (first | exact trivial | exact rfl | refine And.intro ?_ ?_ | ((conv => whnf); first | exact trivial | exact rfl | refine And.intro ?_ ?_ | omega))), (by repeat' (first | exact trivial | exact rfl | refine And.intro ?_ ?_ | ((conv => whnf); first | exact trivial | exact rfl | refine And.intro ?_ ?_ | omega))), ?_⟩
    conv => whnf
    exact ⟨(by simp : (T == T) = true), trivial⟩

end Go.Proofs

