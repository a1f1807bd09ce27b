/-
  A part of the proof that a law answers true: lemmas of a symbolic walk, plain functions, or contracts of the functions walked (Wo, Wp, Ca, Rj, Sx47, Sx33, Rk, RB). Conditions: none.
-/
import Derived.Test.YtagedjfjcnemoaaGreatPart09
import Derived.Test.YtagedjfjcnemoaaGreatPart26
import Derived.Test.YtagedjfjcnemoaaGreatPart27
import Derived.Test.YtagedjfjcnemoaaGreatPart28
import Derived.Test.YtagedjfjcnemoaaGreatPart25
import Derived.Test.YtagedjfjcnemoaaGreatRows
import Derived.Test.YtagedjfjcnemoaaGreatChecked
import Derived.WideKeyArgs
import Derived.Carry
import Derived.Handed
import Derived.RowKit
import Derived.JoinedOf
import Derived.ChangeSame
import Derived.Test.YtagedjfjcnemoaaGreatPart15
import Derived.Test.YtagedjfjcnemoaaGreatPart23
import Derived.Test.YtagedjfjcnemoaaGreatPart11
import Derived.Test.YtagedjfjcnemoaaGreatPart07
set_option maxRecDepth 100000
set_option linter.unusedVariables false
set_option linter.unusedSimpArgs false
namespace Go.Proofs
open Go.Sx Go.ChangeShapes Go.WideShapes Go.RowKit

theorem below_of {W W' : World} (h : Frm W W' []) : Below W.heap.size W { W' with tape := W.tape } :=
  ⟨h.io.1, rfl, h.io.2, h.size, fun k hk => h.same k hk (by simp)⟩

theorem A_own : ownKnob Tryz.prog.godebug = none := by kernel_rfl
theorem A_laidOut : laidOutB Tryz.prog = true := fact_laid
theorem A_undBool : Tryz.prog.underlying 4 = some .bool := by kernel_rfl

end Go.Proofs

namespace Go.Proofs
open Go.Sx Go.ChangeShapes Go.WideShapes Go.RowKit Go.Deep

def Came (w : World) (v : Value) (sv : SV) (H : Heap) (ks : List (Nat × Rg)) : Prop := ∀ ρ : Asg, (∀ p ∈ ks, ρ p.1 = p.2) →
  sv.rel ρ v ∧ ∀ e ∈ H, e.2.1 = false ∧ SatO ρ w e.1 false e.2.2 ∧ (0 < e.2.2.room (ρ e.1) → (ρ e.1).blk < w.heap.size)

def CameAll (w : World) (vs : List Value) (svs : List SV) (H : Heap) (ks : List (Nat × Rg)) : Prop := ∀ ρ : Asg, (∀ p ∈ ks, ρ p.1 = p.2) →
  relVs ρ svs vs ∧ ∀ e ∈ H, e.2.1 = false ∧ SatO ρ w e.1 false e.2.2 ∧ (0 < e.2.2.room (ρ e.1) → (ρ e.1).blk < w.heap.size)

theorem cameAll_nil (w : World) : CameAll w [] [] [] [] := fun _ _ => ⟨trivial, fun e he => by cases he⟩

theorem cameAll_cons {w : World} {v : Value} {vs : List Value} {sv : SV} {svs : List SV} {H H' : Heap} {ks ks' : List (Nat × Rg)} (h : Came w v sv H ks) (h' : CameAll w vs svs H' ks') : CameAll w (v :: vs) (sv :: svs) (H ++ H') (ks ++ ks') := by
  intro ρ hρ
  obtain ⟨h1, h2⟩ := h ρ fun p hp => hρ p (List.mem_append.2 (.inl hp))
  obtain ⟨h3, h4⟩ := h' ρ fun p hp => hρ p (List.mem_append.2 (.inr hp))
  refine ⟨⟨h1, h3⟩, fun e he => ?_⟩
  rcases List.mem_append.1 he with he | he
  · exact h2 e he
  · exact h4 e he

def asgOf : List (Nat × Rg) → Asg
  | [], _ => ⟨0, 0, 0⟩
  | (k, r) :: t, j => if j = k then r else asgOf t j

theorem asgOf_ok : ∀ {ks : List (Nat × Rg)}, (ks.map (·.1)).Nodup → ∀ p ∈ ks, asgOf ks p.1 = p.2
  | [], _, p, hp => by cases hp
  | (k, r) :: t, hn, p, hp => by
    simp only [List.map_cons, List.nodup_cons] at hn
    rcases List.mem_cons.1 hp with rfl | hq
    · simp [asgOf]
    · have hne : p.1 ≠ k := fun he => hn.1 (he ▸ List.mem_map_of_mem hq)
      simp only [asgOf, if_neg hne]
      exact asgOf_ok hn.2 p hq

theorem look_mem : ∀ {H : Heap} {k : Nat} {x : Bool × SO}, Sx.look H k = some x → (k, x) ∈ H
  | [], _, _, h => by cases h
  | (j, o) :: r, k, x, h => by
    rw [look_cons] at h
    by_cases hk : k = j
    · rw [if_pos hk] at h
      rw [← Option.some.inj h, hk]; exact List.mem_cons_self ..
    · rw [if_neg hk] at h
      exact List.mem_cons_of_mem _ (look_mem h)

theorem came_sat {w : World} {vs : List Value} {svs : List SV} {H : Heap} {ks : List (Nat × Rg)} (h : CameAll w vs svs H ks) (hn : (ks.map (·.1)).Nodup) :
    ∃ ρ : Asg, relVs ρ svs vs ∧ SatH w (ownB ρ H) ρ H w := by
  obtain ⟨h1, h2⟩ := h (asgOf ks) (asgOf_ok hn)
  refine ⟨asgOf ks, h1, Frm.refl _ _, ?_, ?_, ?_, ?_⟩
  · intro k own o hk
    obtain ⟨h3, h4, _⟩ := h2 _ (look_mem hk)
    have h3 : own = false := h3
    subst h3; exact h4
  · intro k k' o own' o' _ hk
    have := (h2 _ (look_mem hk)).1; cases this
  · intro k o hk
    have := (h2 _ (look_mem hk)).1; cases this
  · intro k own o hk hp
    exact (h2 _ (look_mem hk)).2.2 hp

theorem trodAll_keep {H : Type} {enc : TypeId × Value → H} {W W' : World} (hfrm : Frm W W' []) : ∀ {ts : List TypeId} {vs : List Value} {ds : List (DataW H)} {p : List MemPlace}, (∀ t ∈ ts, Tryz.prog.readableRec t = true ∧ t < Tryz.prog.types.size) →
    DataW.TrodAll enc Tryz.prog W 0 (fun _ => true) true ts vs ds p → (∀ x ∈ p, x.block < W.heap.size) → DataW.TrodAll enc Tryz.prog { W' with tape := W.tape } 0 (fun b => decide (b < W.heap.size)) true ts vs ds p
  | [], vs, ds, p, _, h, _ => by
    obtain ⟨rfl, rfl, rfl⟩ := trodAll_nil h
    exact trodAll_mk0
  | t :: ts, vs, ds, p, hr, h, hlt => by
    obtain ⟨v, vs', d, ds', p1, p2, rfl, rfl, rfl, hd, hrest⟩ := trodAll_cons h
    have ht := hr t (List.mem_cons_self ..)
    refine ⟨p1, p2, ?_, ?_, rfl⟩
    · exact Below.trod A_laidOut ht.1 ht.2 hd (below_of hfrm) fun x hx => hlt x (List.mem_append.2 (.inl hx))
    · exact trodAll_keep hfrm (fun t ht => hr t (List.mem_cons_of_mem _ ht)) hrest fun x hx => hlt x (List.mem_append.2 (.inr hx))

end Go.Proofs

namespace Go.Proofs
open Go.Sx Go.ChangeShapes Go.WideShapes Go.RowKit Go.Deep

def chkFs (L : List (Nat × Nat)) : List Field → Nat → Nat → Bool
  | [], j, n => Nat.beq j n
  | f :: r, j, n => Nat.beq f.offset j && (match lookN L f.type with
    | some m => chkFs L r (j + m) n
    | none => false)

theorem chkFs_ok {P : Program} {L : List (Nat × Nat)} (hL : ∀ t n, lookN L t = some n → AllI P t n) : ∀ {fs : List Field} {j n : Nat}, chkFs L fs j n = true → AllFs P fs j n
  | [], _, _, h => Nat.eq_of_beq_eq_true h
  | f :: r, j, n, h => by
    simp only [chkFs, Bool.and_eq_true] at h
    obtain ⟨h1, h2⟩ := h
    split at h2
    · rename_i m hm
      exact ⟨m, Nat.eq_of_beq_eq_true h1, hL _ _ hm, chkFs_ok hL h2⟩
    · cases h2

theorem allN_nil {P : Program} : ∀ t n, lookN [] t = some n → AllI P t n := by intro t n h; simp [lookN] at h
theorem allN_cons {P : Program} {t m : Nat} {L : List (Nat × Nat)} (h : AllI P t m) (hL : ∀ t n, lookN L t = some n → AllI P t n) : ∀ t' n, lookN ((t, m) :: L) t' = some n → AllI P t' n := by
  intro t' n h'
  simp only [lookN] at h'
  cases hb : Nat.beq t' t with
  | true => simp [hb] at h'; subst h'; rw [Nat.eq_of_beq_eq_true hb]; exact h
  | false => simp [hb] at h'; exact hL _ _ h'

theorem I_int : AllI Tryz.prog 3 1 := allI_int (by kernel_rfl) (by kernel_rfl)
theorem I_state : AllI Tryz.prog 28 1 := allI_int (by kernel_rfl) (by kernel_rfl)
theorem L_int : ∀ t n, lookN [(3, 1), (28, 1)] t = some n → AllI Tryz.prog t n := allN_cons I_int (allN_cons I_state allN_nil)
theorem I_span : AllI Tryz.prog 37 2 := allI_struct (fs := Tryz.prog.fieldsOf 37) (by kernel_rfl) (by kernel_rfl) (chkFs_ok L_int (by kernel_rfl))
theorem I_thg : AllI Tryz.prog 30 4 := allI_struct (fs := Tryz.prog.fieldsOf 30) (by kernel_rfl) (by kernel_rfl) (chkFs_ok L_int (by kernel_rfl))
theorem L_all : ∀ t n, lookN [(37, 2), (30, 4), (3, 1), (28, 1)] t = some n → AllI Tryz.prog t n := allN_cons I_span (allN_cons I_thg L_int)
theorem I_mom : AllI Tryz.prog 53 2 := allI_struct (fs := Tryz.prog.fieldsOf 53) (by kernel_rfl) (by kernel_rfl) (chkFs_ok L_all (by kernel_rfl))
theorem I_bal : AllI Tryz.prog 57 6 := allI_struct (fs := Tryz.prog.fieldsOf 57) (by kernel_rfl) (by kernel_rfl) (chkFs_ok L_all (by kernel_rfl))
theorem I_chk : AllI Tryz.prog 51 5 := allI_struct (fs := Tryz.prog.fieldsOf 51) (by kernel_rfl) (by kernel_rfl) (chkFs_ok L_all (by kernel_rfl))
theorem I_ntc : AllI Tryz.prog 93 6 := allI_struct (fs := Tryz.prog.fieldsOf 93) (by kernel_rfl) (by kernel_rfl) (chkFs_ok L_all (by kernel_rfl))
theorem I_wgh : AllI Tryz.prog 32 8 := allI_struct (fs := Tryz.prog.fieldsOf 32) (by kernel_rfl) (by kernel_rfl) (chkFs_ok L_all (by kernel_rfl))

theorem came_rec {base : Nat} {α H : Type} {enc : TypeId × Value → H} {w : World} {v : Value} {d : DataW H} {p : List MemPlace} {t n : Nat} (f : α → List Int) (mk : (Nat → Int) → α) (hmk : ∀ V, f (mk V) = (List.range n).map V)
    (hA : AllI Tryz.prog t n) (hs : Tryz.prog.underlying t = some (.struct (Tryz.prog.fieldsOf t))) (hok : Value.okWide Tryz.prog w .any base t v)
    (h : DataW.Trod enc Tryz.prog w 0 (fun _ => true) true t v d p) : ∃ x : α, Came w v (.agg (Sx.encI (f x))) [] [] := by
  obtain ⟨cs, rfl, hcs⟩ := okWide_struct hs hok
  obtain ⟨fuel, hf⟩ := h
  obtain ⟨hl, V, hV⟩ := hA.op hf
  have hl : cs.toList.length = n := hl
  have hV : ∀ j, j < n → cs.toList[j]? = some (.int .i64 (V j)) := hV
  refine ⟨mk V, fun ρ _ => ⟨⟨cs, rfl, ?_⟩, fun e he => by cases he⟩⟩
  have e : cs.toList = (f (mk V)).map (Value.int .i64) := by
    rw [hmk, List.map_map]
    apply List.ext_getElem?
    intro j
    by_cases hj : j < n
    · rw [hV j hj, List.getElem?_map, List.getElem?_range hj]; rfl
    · rw [List.getElem?_eq_none (by omega), List.getElem?_eq_none (by simp; omega)]
  rw [e]
  exact relEncI ρ _

theorem came_thg {base : Nat} {H : Type} {enc : TypeId × Value → H} {w : World} {v : Value} {d : DataW H} {p : List MemPlace} (hok : Value.okWide Tryz.prog w .any base 30 v)
    (h : DataW.Trod enc Tryz.prog w 0 (fun _ => true) true 30 v d p) : ∃ x : Thg, Came w v (svThg x) [] [] :=
  came_rec thgL (fun V => ⟨V 0, V 1, V 2, V 3⟩) (fun _ => rfl) I_thg (by kernel_rfl) hok h
theorem came_mom {base : Nat} {H : Type} {enc : TypeId × Value → H} {w : World} {v : Value} {d : DataW H} {p : List MemPlace} (hok : Value.okWide Tryz.prog w .any base 53 v)
    (h : DataW.Trod enc Tryz.prog w 0 (fun _ => true) true 53 v d p) : ∃ x : Mom, Came w v (svMom x) [] [] :=
  came_rec momL (fun V => ⟨V 0, V 1⟩) (fun _ => rfl) I_mom (by kernel_rfl) hok h
theorem A_undRd : Tryz.prog.underlying 27 = some (.struct (Tryz.prog.fieldsOf 27)) := by kernel_rfl
theorem A_fldRd : ∃ f0 f1 f2 f3, Tryz.prog.fieldsOf 27 = #[f0, f1, f2, f3] ∧ (f0.type = 22 ∧ f0.offset = 0) ∧ (f1.type = 23 ∧ f1.offset = 1) ∧ (f2.type = 24 ∧ f2.offset = 2) ∧ f3.type = 25 ∧ f3.offset = 3 :=
  ⟨(Tryz.prog.fieldsOf 27)[0]!, (Tryz.prog.fieldsOf 27)[1]!, (Tryz.prog.fieldsOf 27)[2]!, (Tryz.prog.fieldsOf 27)[3]!, by kernel_rfl, ⟨by kernel_rfl, by kernel_rfl⟩, ⟨by kernel_rfl, by kernel_rfl⟩, ⟨by kernel_rfl, by kernel_rfl⟩, by kernel_rfl, by kernel_rfl⟩

structure Wide (r : Rd) : Prop where
  bs : r.bs.length ≤ 140737488351232
  cs : r.cs.length ≤ 140737488351232
  ns : r.ns.length ≤ 140737488351232
  ws : r.ws.length ≤ 140737488351232

abbrev rdK (k0 k1 k2 k3 : Nat) (r : Rd) : SV := .agg [.s k0 0 r.bs.length 6, .s k2 0 r.cs.length 5, .s k3 0 r.ns.length 6, .s k1 0 r.ws.length 8]
abbrev rdHK (k0 k1 k2 k3 : Nat) (r : Rd) : Heap := [(k0, false, .arr (aBal r.bs)), (k1, false, .arr (aWgh r.ws)), (k2, false, .arr (aChk r.cs)), (k3, false, .arr (aNtc r.ns))]

theorem weights_part {H : Type} {P : Program} {t : Nat} {fs : Array Field} {parts : List (DataW H)} (h : P.underlying t = some (.struct fs)) (hw : ∀ y ∈ (DataW.agg parts).weights P t, y ≤ reachBytes) {i : Nat} {f : Field} {d : DataW H} (hf : fs.toList[i]? = some f) (hd : parts[i]? = some d) :
    ∀ y ∈ d.weights P f.type, y ≤ reachBytes := fun y hy => hw y (by
  simp only [DataW.weights, h]
  exact DataW.weights_mem_each (j := i) (by rw [List.getElem?_map, hf]; rfl) hd y hy)

theorem room_pos {ρ : Asg} {k : Nat} {α : Type} {n : Nat} {f : α → List Int} {hf : ∀ x, (f x).length = n} {xs : List α} {r : Rg} (e : ρ k = r) {w : World} (h : 0 < r.cap → r.blk < w.heap.size) : 0 < (SO.arr (aRec n f hf xs)).room (ρ k) → (ρ k).blk < w.heap.size := by
  intro hp
  rw [e] at hp ⊢
  refine h (Nat.pos_of_ne_zero fun h0 => ?_)
  have hp : 0 < r.cap * n := hp
  rw [h0, Nat.zero_mul] at hp; cases hp

theorem came_rd {base : Nat} {H : Type} {enc : TypeId × Value → H} {w : World} {v : Value} {d : DataW H} {p : List MemPlace} (hok : Value.okWide Tryz.prog w .any base 27 v)
    (h : DataW.Trod enc Tryz.prog w 0 (fun _ => true) true 27 v d p) (hw : ∀ y ∈ d.weights Tryz.prog 27, y ≤ reachBytes) (k0 k1 k2 k3 : Nat) :
    ∃ (r : Rd) (q0 q1 q2 q3 : Rg), Wide r ∧ Came w v (rdK k0 k1 k2 k3 r) (rdHK k0 k1 k2 k3 r) [(k0, q0), (k1, q1), (k2, q2), (k3, q3)] := by
  obtain ⟨cs, rfl, hcs⟩ := okWide_struct A_undRd hok
  obtain ⟨fuel, hf⟩ := h
  have hc4 : Tryz.prog.cellsOf 27 = 4 := by kernel_rfl
  rw [hc4] at hcs
  obtain ⟨l⟩ := cs
  match l, hcs with
  | [a, b, c, e], _ =>
    obtain ⟨xs, m, _, hd, _, hxl, hff⟩ := DataW.trod_struct A_undRd hf
    have hd : d = .agg (xs.map (·.1)) := congrArg Prod.fst hd
    subst hd
    have hwp := fun {i : Nat} {f : Field} {d : DataW H} => weights_part (i := i) (f := f) (d := d) A_undRd hw
    obtain ⟨f0, f1, f2, f3, hfs, ⟨t0, o0⟩, ⟨t1, o1⟩, ⟨t2, o2⟩, t3, o3⟩ := A_fldRd
    rw [hfs] at hff hxl hwp
    have hxl : xs.length = 4 := hxl
    match xs, hxl with
    | [x0, x1, x2, x3], _ =>
    have h0 := hff 0 f0 rfl
    have h1 := hff 1 f1 rfl
    have h2 := hff 2 f2 rfl
    have h3 := hff 3 f3 rfl
    have w0 := hwp (i := 0) (f := f0) (d := x0.1) rfl rfl
    have w1 := hwp (i := 1) (f := f1) (d := x1.1) rfl rfl
    have w2 := hwp (i := 2) (f := f2) (d := x2.1) rfl rfl
    have w3 := hwp (i := 3) (f := f3) (d := x3.1) rfl rfl
    have c0 : Tryz.prog.cellsOf 22 = 1 := by kernel_rfl
    have c1 : Tryz.prog.cellsOf 23 = 1 := by kernel_rfl
    have c2 : Tryz.prog.cellsOf 24 = 1 := by kernel_rfl
    have c3 : Tryz.prog.cellsOf 25 = 1 := by kernel_rfl
    rw [t0, o0, c0] at h0
    rw [t1, o1, c1] at h1
    rw [t2, o2, c2] at h2
    rw [t3, o3, c3] at h3
    rw [t0] at w0
    rw [t1] at w1
    rw [t2] at w2
    rw [t3] at w3
    have h0 : DataW.trod enc Tryz.prog w 0 (fun _ => true) true m 22 [a] = some x0 := h0
    have h1 : DataW.trod enc Tryz.prog w 0 (fun _ => true) true m 23 [b] = some x1 := h1
    have h2 : DataW.trod enc Tryz.prog w 0 (fun _ => true) true m 24 [c] = some x2 := h2
    have h3 : DataW.trod enc Tryz.prog w 0 (fun _ => true) true m 25 [e] = some x3 := h3
    obtain ⟨bs, q0, l0, g0⟩ := key_sl balL (fun _ => rfl) (fun V => (⟨V 0, V 1, V 2, V 3, V 4, V 5⟩ : Bal)) (fun V j z hz => by
      match j, hz with
      | 0, hz | 1, hz | 2, hz | 3, hz | 4, hz | 5, hz => simp [balL] at hz; exact ⟨by decide, hz.symm⟩) (by kernel_rfl : Tryz.prog.underlying 22 = some (.slice 57)) I_bal (by decide) (by decide +kernel) w0 h0 k0
    obtain ⟨cs, q2, l2, g2⟩ := key_sl chkL (fun _ => rfl) (fun V => (⟨V 0, V 1, V 2, V 3, V 4⟩ : Chk)) (fun V j z hz => by
      match j, hz with
      | 0, hz | 1, hz | 2, hz | 3, hz | 4, hz => simp [chkL] at hz; exact ⟨by decide, hz.symm⟩) (by kernel_rfl : Tryz.prog.underlying 23 = some (.slice 51)) I_chk (by decide) (by decide +kernel) w1 h1 k2
    obtain ⟨ns, q3, l3, g3⟩ := key_sl ntcL (fun _ => rfl) (fun V => (⟨V 0, V 1, V 2, V 3, V 4, V 5⟩ : Ntc)) (fun V j z hz => by
      match j, hz with
      | 0, hz | 1, hz | 2, hz | 3, hz | 4, hz | 5, hz => simp [ntcL] at hz; exact ⟨by decide, hz.symm⟩) (by kernel_rfl : Tryz.prog.underlying 24 = some (.slice 93)) I_ntc (by decide) (by decide +kernel) w2 h2 k3
    obtain ⟨ws, q1, l1, g1⟩ := key_sl wghL (fun _ => rfl) (fun V => (⟨V 0, V 1, V 2, ⟨V 3, V 4, V 5, V 6⟩, V 7⟩ : Wgh)) (fun V j z hz => by
      match j, hz with
      | 0, hz | 1, hz | 2, hz | 3, hz | 4, hz | 5, hz | 6, hz | 7, hz => simp [wghL] at hz; exact ⟨by decide, hz.symm⟩) (by kernel_rfl : Tryz.prog.underlying 25 = some (.slice 32)) I_wgh (by decide) (by decide +kernel) w3 h3 k1
    refine ⟨⟨bs, cs, ns, ws⟩, q0, q1, q2, q3, ⟨l0, l2, l3, l1⟩, fun ρ hρ => ?_⟩
    have e0 := hρ (k0, q0) (by simp)
    have e1 := hρ (k1, q1) (by simp)
    have e2 := hρ (k2, q2) (by simp)
    have e3 := hρ (k3, q3) (by simp)
    obtain ⟨u0, v0, r0⟩ := g0 ρ e0
    obtain ⟨u1, v1, r1⟩ := g1 ρ e1
    obtain ⟨u2, v2, r2⟩ := g2 ρ e2
    obtain ⟨u3, v3, r3⟩ := g3 ρ e3
    refine ⟨⟨#[a, b, c, e], rfl, u0, u2, u3, u1, trivial⟩, fun y hy => ?_⟩
    simp only [rdHK, List.mem_cons, List.not_mem_nil, or_false] at hy
    rcases hy with rfl | rfl | rfl | rfl
    · exact ⟨rfl, v0, room_pos e0 r0⟩
    · exact ⟨rfl, v1, room_pos e1 r1⟩
    · exact ⟨rfl, v2, room_pos e2 r2⟩
    · exact ⟨rfl, v3, room_pos e3 r3⟩

abbrev B_reads : List Nat := [27, 3, 57, 51, 32, 30, 53, 37, 5, 33, 43, 100, 108]

theorem B_read : ∀ t ∈ B_reads, Tryz.prog.readableRec t = true ∧ t < Tryz.prog.types.size := by
  have h : (B_reads.all fun t => Tryz.prog.readableRec t && decide (t < Tryz.prog.types.size)) = true := by kernel_rfl
  intro t ht
  have := List.all_eq_true.1 h t ht
  simpa using this

end Go.Proofs

namespace Go.Proofs
open Go.Sx

def cntR (r : Rd) : Nat := r.cs.length + r.ns.length + r.ws.length
end Go.Proofs

namespace Go
namespace Sx

end Sx
end Go

namespace Go
namespace Sx

end Sx
end Go

namespace Go.Proofs
open Go.Sx

def fewRd (r : Rd) : Bool := decide (r.bs.length ≤ 10) && decide (cntR r ≤ 24)

theorem few_rd_t (r : Rd) (hw : Wide r) : Triple Tryz.prog 15 [rdA r] (rdH r) 4 (bv (fewRd r)) [] := by
  obtain ⟨w1, w2, w3, w4⟩ := hw
  have e : fewRd r = (decide (r.bs.length ≤ 10) && decide (r.cs.length + r.ns.length + r.ws.length ≤ 24)) := rfl
  generalize fewRd r = R at *
  obtain ⟨bs, cs, ns, ws⟩ := r
  dsimp only at *
  refine triple_of tB_ok Tryz.func15 rfl Tryz.call15 rfl ?_
  intro ρ w hH
  conv=>whnf
  refine ⟨fun hc => ?_, fun hc => ?_⟩
  rotate_left
  · have h1 : ¬ bs.length ≤ 10 := by have := of_decide_eq_false (show decide ((bs.length : Int) ≤ 10) = false from hc); omega
    rw [decide_eq_false h1, Bool.false_and] at e
    subst e
    conv=>whnf
    repeat' (first | exact trivial | exact rfl | refine And.intro ?_ ?_ | ((conv=>whnf); first | exact trivial | exact rfl | refine And.intro ?_ ?_ | omega))
  have h1 : bs.length ≤ 10 := by have := of_decide_eq_true (show decide ((bs.length : Int) ≤ 10) = true from hc); omega
  rw [decide_eq_true h1, Bool.true_and] at e
  conv=>whnf
  refine ⟨((cs.length + ns.length : Nat) : Int), (show IntKind.i64.wrap ((cs.length : Int) + ns.length) = ((cs.length + ns.length : Nat) : Int) by rw [wrapId ⟨by omega, by omega⟩]; omega), ?_⟩
  conv=>whnf
  refine ⟨((cs.length + ns.length + ws.length : Nat) : Int), (show IntKind.i64.wrap (((cs.length + ns.length : Nat) : Int) + ws.length) = ((cs.length + ns.length + ws.length : Nat) : Int) by rw [wrapId ⟨by omega, by omega⟩]; omega), ?_⟩
  conv=>whnf
  generalize cs.length + ns.length + ws.length = n at *
  have h4 : decide ((n : Int) ≤ 24) = R := by rw [e]; exact decide_eq_decide.2 (by omega)
  rw [← h4]
  conv=>whnf
  repeat' (first | exact trivial | exact rfl | refine And.intro ?_ ?_ | ((conv=>whnf); first | exact trivial | exact rfl | refine And.intro ?_ ?_ | omega))

theorem few_sml {r : Rd} (h : fewRd r = true) : Sml r := by
  unfold fewRd cntR at h
  simp at h
  exact ⟨by omega, by omega, by omega, by omega⟩

theorem fewRd_bd {r : Rd} (h : fewRd r = true) : r.bs.length ≤ 10 ∧ r.cs.length + r.ns.length + r.ws.length ≤ 24 := by
  unfold fewRd cntR at h
  simp at h
  exact h

end Go.Proofs

namespace Go.Proofs
open Go.Sx

def pObjs (r : Rd) : List Thg × Int := if checkR r = 0 then (objsF r, 0) else ([], checkR r)
def pMoms (r : Rd) : List Mom × Int := if checkR r = 0 then (momsF r [], 0) else ([], checkR r)
def pSys (r : Rd) : (List (Int × Int) × List Lnk) × Int := if checkR r = 0 then ((boxR r [], lnkR r []), 0) else (([], []), checkR r)
def pPlace (r : Rd) (o : Thg) : Int × Int := if checkR r = 0 then (if o ∈ objsF r then (plF (objsF r) o, 0) else (0, 5)) else (0, checkR r)
def pPlaceOf (r : Rd) (m : Mom) : Int × Int := if checkR r = 0 then (if m ∈ momsF r [] then ((objsF r).length + plF (momsF r []) m, 0) else (0, 5)) else (0, checkR r)
def pShift (r : Rd) (m : Mom) : (Int × Int) × Int := if checkR r = 0 then (if momOK r m = true then (if (sideF r m).hi < (sideF r m).lo then ((0, 0), 9) else (((sideF r m).lo, (sideF r m).hi), 0)) else ((0, 0), 1)) else ((0, 0), checkR r)

theorem momentsNil_t (r : Rd) (hs : Sml r) :
    Triple Tryz.prog 119 [rdA r, .c (.v (.slice none 0 0))] (rdH r) 4 (.c (.s 5 0 (momsF r []).length 2)) [(5, true, .arr (aMom (momsF r [])))] :=
  Triple.nilK (k := 4) (o := .arr (aMom [])) (H := rdH r) (moments_t r [] (by simp) hs.ws hs.cs) rfl rfl rfl (by
    intro ρ vals hv
    match hvl : vals, hv with
    | [a, b], hv =>
      refine ⟨?_, ?_, trivial⟩
      · exact SV.rel_agree (fun k hk => upd_ne (by
          have : k < 4 := by
            have h1 : memN k (rdA r).nms = true := memN_iff.2 (SV.uses_nms.1 hk)
            have h2 : k ∈ [0, 2, 3, 1] := SV.uses_nms.1 hk
            simp at h2; omega
          omega)) hv.1
      · have hb : b = .slice none 0 0 := hv.2.1
        subst hb
        exact ⟨none, by rw [upd_eq]; rfl, by rw [upd_eq]; exact Nat.le_refl _, fun h => by rw [upd_eq] at h; cases h⟩)

theorem bObjects_t (r : Rd) (hs : Sml r) : Triple Tryz.prog 41 [rdA r] (rdH r) 4 (.tup [.inl (.s 4 0 (pObjs r).1.length 4), .inl (.v (.int .i64 (pObjs r).2))]) [(4, true, .arr (aThg (pObjs r).1))] := by
  have e : pObjs r = if checkR r = 0 then (objsF r, 0) else ([], checkR r) := rfl
  have hC := check_rd_t r (Nat.le_trans hs.bs (by decide)) (Nat.le_trans hs.cs (by decide)) (Nat.le_trans hs.ns (by decide)) (Nat.le_trans hs.ws (by decide))
  by_cases h0 : checkR r = 0
  rotate_left
  · rw [if_neg h0] at e
    generalize pObjs r = R at *
    subst e
    generalize checkR r = c at *
    refine triple_of tB_ok Tryz.func41 rfl Tryz.call41 rfl ?_
    intro ρ w hH
    conv=>whnf
    refine call_step hC rfl rfl ?_
    conv=>whnf
    refine ⟨?_, ?_, ?_⟩
    iterate 2 · repeat' (first | exact trivial | exact rfl | refine And.intro ?_ ?_ | ((conv=>whnf); first | exact trivial | exact rfl | refine And.intro ?_ ?_ | omega))
    conv=>whnf
    refine ⟨fun hcc => ?_, fun hcc => absurd (by simpa using (show (c != 0) = false from hcc)) h0⟩
    conv=>whnf
    repeat' (first | exact trivial | exact rfl | refine And.intro ?_ ?_ | ((conv=>whnf); first | exact trivial | exact rfl | refine And.intro ?_ ?_ | omega))
  rw [if_pos h0] at e
  rw [h0] at hC
  have h := checkR_ok.1 h0
  rw [e]
  have hO := objects_t r hs.ws
  generalize objsF r = os at *
  refine triple_of tB_ok Tryz.func41 rfl Tryz.call41 rfl ?_
  intro ρ w hH
  conv=>whnf
  refine call_step hC rfl rfl ?_
  conv=>whnf
  refine ⟨?_, ?_, ?_⟩
  iterate 2 · repeat' (first | exact trivial | exact rfl | refine And.intro ?_ ?_ | ((conv=>whnf); first | exact trivial | exact rfl | refine And.intro ?_ ?_ | omega))
  conv=>whnf
  refine ⟨fun hc => absurd hc (by simp), fun hc => ?_⟩
  conv=>whnf
  refine call_step hO rfl rfl ?_
  conv=>whnf
  refine ⟨?_, ?_, ?_⟩
  iterate 2 · repeat' (first | exact trivial | exact rfl | refine And.intro ?_ ?_ | ((conv=>whnf); first | exact trivial | exact rfl | refine And.intro ?_ ?_ | omega))
  conv=>whnf
  repeat' (first | exact trivial | exact rfl | refine And.intro ?_ ?_ | ((conv=>whnf); first | exact trivial | exact rfl | refine And.intro ?_ ?_ | omega))

theorem bMoments_t (r : Rd) (hs : Sml r) : Triple Tryz.prog 42 [rdA r] (rdH r) 4 (.tup [.inl (.s 4 0 (pMoms r).1.length 2), .inl (.v (.int .i64 (pMoms r).2))]) [(4, true, .arr (aMom (pMoms r).1))] := by
  have e : pMoms r = if checkR r = 0 then (momsF r [], 0) else ([], checkR r) := rfl
  have hC := check_rd_t r (Nat.le_trans hs.bs (by decide)) (Nat.le_trans hs.cs (by decide)) (Nat.le_trans hs.ns (by decide)) (Nat.le_trans hs.ws (by decide))
  by_cases h0 : checkR r = 0
  rotate_left
  · rw [if_neg h0] at e
    generalize pMoms r = R at *
    subst e
    generalize checkR r = c at *
    refine triple_of tB_ok Tryz.func42 rfl Tryz.call42 rfl ?_
    intro ρ w hH
    conv=>whnf
    refine call_step hC rfl rfl ?_
    conv=>whnf
    refine ⟨?_, ?_, ?_⟩
    iterate 2 · repeat' (first | exact trivial | exact rfl | refine And.intro ?_ ?_ | ((conv=>whnf); first | exact trivial | exact rfl | refine And.intro ?_ ?_ | omega))
    conv=>whnf
    refine ⟨fun hcc => ?_, fun hcc => absurd (by simpa using (show (c != 0) = false from hcc)) h0⟩
    conv=>whnf
    repeat' (first | exact trivial | exact rfl | refine And.intro ?_ ?_ | ((conv=>whnf); first | exact trivial | exact rfl | refine And.intro ?_ ?_ | omega))
  rw [if_pos h0] at e
  rw [h0] at hC
  have h := checkR_ok.1 h0
  rw [e]
  have hO := momentsNil_t r hs
  generalize momsF r [] = ms at *
  refine triple_of tB_ok Tryz.func42 rfl Tryz.call42 rfl ?_
  intro ρ w hH
  conv=>whnf
  refine call_step hC rfl rfl ?_
  conv=>whnf
  refine ⟨?_, ?_, ?_⟩
  iterate 2 · repeat' (first | exact trivial | exact rfl | refine And.intro ?_ ?_ | ((conv=>whnf); first | exact trivial | exact rfl | refine And.intro ?_ ?_ | omega))
  conv=>whnf
  refine ⟨fun hc => absurd hc (by simp), fun hc => ?_⟩
  conv=>whnf
  refine call_step hO rfl rfl ?_
  conv=>whnf
  refine ⟨?_, ?_, ?_⟩
  iterate 2 · repeat' (first | exact trivial | exact rfl | refine And.intro ?_ ?_ | ((conv=>whnf); first | exact trivial | exact rfl | refine And.intro ?_ ?_ | omega))
  conv=>whnf
  repeat' (first | exact trivial | exact rfl | refine And.intro ?_ ?_ | ((conv=>whnf); first | exact trivial | exact rfl | refine And.intro ?_ ?_ | omega))

theorem bCompile_t (r : Rd) (hs : Sml r) : Triple Tryz.prog 43 [rdA r] (rdH r) 4 (.tup [.inr [.s 4 0 (pSys r).1.1.length 2, .s 5 0 (pSys r).1.2.length 4], .inl (.v (.int .i64 (pSys r).2))]) [(4, true, .arr (aSpan (pSys r).1.1)), (5, true, .arr (aLink (pSys r).1.2))] := by
  have e : pSys r = if checkR r = 0 then ((boxR r [], lnkR r []), 0) else (([], []), checkR r) := rfl
  have hC := check_rd_t r (Nat.le_trans hs.bs (by decide)) (Nat.le_trans hs.cs (by decide)) (Nat.le_trans hs.ns (by decide)) (Nat.le_trans hs.ws (by decide))
  by_cases h0 : checkR r = 0
  rotate_left
  · rw [if_neg h0] at e
    generalize pSys r = R at *
    subst e
    generalize checkR r = c at *
    refine triple_of tB_ok Tryz.func43 rfl Tryz.call43 rfl ?_
    intro ρ w hH
    conv=>whnf
    refine call_step hC rfl rfl ?_
    conv=>whnf
    refine ⟨?_, ?_, ?_⟩
    iterate 2 · repeat' (first | exact trivial | exact rfl | refine And.intro ?_ ?_ | ((conv=>whnf); first | exact trivial | exact rfl | refine And.intro ?_ ?_ | omega))
    conv=>whnf
    refine ⟨fun hcc => ?_, fun hcc => absurd (by simpa using (show (c != 0) = false from hcc)) h0⟩
    conv=>whnf
    repeat' (first | exact trivial | exact rfl | refine And.intro ?_ ?_ | ((conv=>whnf); first | exact trivial | exact rfl | refine And.intro ?_ ?_ | omega))
  rw [if_pos h0] at e
  rw [h0] at hC
  have h := checkR_ok.1 h0
  rw [e]
  have hsh := sheet_ok h (more := []) (by simp) (by simp)
  have hSp := spreadNil_t r h.sml
  have hS : Triple Tryz.prog 83 [.c (.p 4 0 0 0)] (shH r (objsF r) (momsF r [])) 9
      (.agg [.s 9 0 (boxR r []).length 2, .s 10 0 (lnkR r []).length 4]) [(9, true, .arr (aSpan (boxR r []))), (10, true, .arr (aLink (lnkR r [])))] := sysOf_t r _ _ hsh
  generalize boxR r [] = bs at *
  generalize lnkR r [] = ls at *
  generalize objsF r = os at *
  generalize momsF r [] = ms at *
  refine triple_of tB_ok Tryz.func43 rfl Tryz.call43 rfl ?_
  intro ρ w hH
  conv=>whnf
  refine call_step hC rfl rfl ?_
  conv=>whnf
  refine ⟨?_, ?_, ?_⟩
  iterate 2 · repeat' (first | exact trivial | exact rfl | refine And.intro ?_ ?_ | ((conv=>whnf); first | exact trivial | exact rfl | refine And.intro ?_ ?_ | omega))
  conv=>whnf
  refine ⟨fun hc => absurd hc (by simp), fun hc => ?_⟩
  conv=>whnf
  refine call_step hSp rfl rfl ?_
  conv=>whnf
  refine ⟨?_, ?_, ?_⟩
  iterate 2 · repeat' (first | exact trivial | exact rfl | refine And.intro ?_ ?_ | ((conv=>whnf); first | exact trivial | exact rfl | refine And.intro ?_ ?_ | omega))
  conv=>whnf
  refine call_step hS rfl rfl ?_
  conv=>whnf
  refine ⟨?_, ?_, ?_⟩
  iterate 2 · repeat' (first | exact trivial | exact rfl | refine And.intro ?_ ?_ | ((conv=>whnf); first | exact trivial | exact rfl | refine And.intro ?_ ?_ | omega))
  conv=>whnf
  repeat' (first | exact trivial | exact rfl | refine And.intro ?_ ?_ | ((conv=>whnf); first | exact trivial | exact rfl | refine And.intro ?_ ?_ | omega))

theorem bPlace_t (r : Rd) (o : Thg) (hs : Sml r) : Triple Tryz.prog 45 [rdA r, svThg o] (rdH r) 4 (.tup [.inl (.v (.int .i64 (pPlace r o).1)), .inl (.v (.int .i64 (pPlace r o).2))]) [] := by
  have e : pPlace r o = if checkR r = 0 then (if o ∈ objsF r then (plF (objsF r) o, 0) else (0, 5)) else (0, checkR r) := rfl
  have hC := check_rd_t r (Nat.le_trans hs.bs (by decide)) (Nat.le_trans hs.cs (by decide)) (Nat.le_trans hs.ns (by decide)) (Nat.le_trans hs.ws (by decide))
  by_cases h0 : checkR r = 0
  rotate_left
  · rw [if_neg h0] at e
    generalize pPlace r o = R at *
    subst e
    generalize checkR r = c at *
    refine triple_of tB_ok Tryz.func45 rfl Tryz.call45 rfl ?_
    intro ρ w hH
    conv=>whnf
    refine call_step hC rfl rfl ?_
    conv=>whnf
    refine ⟨?_, ?_, ?_⟩
    iterate 2 · repeat' (first | exact trivial | exact rfl | refine And.intro ?_ ?_ | ((conv=>whnf); first | exact trivial | exact rfl | refine And.intro ?_ ?_ | omega))
    conv=>whnf
    refine ⟨fun hcc => ?_, fun hcc => absurd (by simpa using (show (c != 0) = false from hcc)) h0⟩
    conv=>whnf
    repeat' (first | exact trivial | exact rfl | refine And.intro ?_ ?_ | ((conv=>whnf); first | exact trivial | exact rfl | refine And.intro ?_ ?_ | omega))
  rw [if_pos h0] at e
  rw [h0] at hC
  have h := checkR_ok.1 h0
  rw [e]
  have hSp := spreadNil_t r h.sml
  by_cases ho : o ∈ objsF r
  · rw [if_pos ho]
    have hl := look_obj ho
    generalize plF (objsF r) o = p at *
    generalize objsF r = os at *
    generalize momsF r [] = ms at *
    refine triple_of tB_ok Tryz.func45 rfl Tryz.call45 rfl ?_
    intro ρ w hH
    conv=>whnf
    refine call_step hC rfl rfl ?_
    conv=>whnf
    refine ⟨?_, ?_, ?_⟩
    iterate 2 · repeat' (first | exact trivial | exact rfl | refine And.intro ?_ ?_ | ((conv=>whnf); first | exact trivial | exact rfl | refine And.intro ?_ ?_ | omega))
    conv=>whnf
    refine ⟨fun hc => absurd hc (by simp), fun hc => ?_⟩
    conv=>whnf
    refine call_step hSp rfl rfl ?_
    conv=>whnf
    refine ⟨?_, ?_, ?_⟩
    iterate 2 · repeat' (first | exact trivial | exact rfl | refine And.intro ?_ ?_ | ((conv=>whnf); first | exact trivial | exact rfl | refine And.intro ?_ ?_ | omega))
    conv=>whnf
    refine lookKV_step tB_ok 30 3 true false 4 [0] keyThg zeroInt_ok rfl ?_
    conv=>whnf
    refine ⟨_, _, _, rfl, hl, ?_⟩
    conv=>whnf
    refine ⟨fun hc => absurd hc (by simp), fun hc => ?_⟩
    conv=>whnf
    repeat' (first | exact trivial | exact rfl | refine And.intro ?_ ?_ | ((conv=>whnf); first | exact trivial | exact rfl | refine And.intro ?_ ?_ | omega))
  · rw [if_neg ho]
    have hl := look_noobj ho
    generalize objsF r = os at *
    generalize momsF r [] = ms at *
    refine triple_of tB_ok Tryz.func45 rfl Tryz.call45 rfl ?_
    intro ρ w hH
    conv=>whnf
    refine call_step hC rfl rfl ?_
    conv=>whnf
    refine ⟨?_, ?_, ?_⟩
    iterate 2 · repeat' (first | exact trivial | exact rfl | refine And.intro ?_ ?_ | ((conv=>whnf); first | exact trivial | exact rfl | refine And.intro ?_ ?_ | omega))
    conv=>whnf
    refine ⟨fun hc => absurd hc (by simp), fun hc => ?_⟩
    conv=>whnf
    refine call_step hSp rfl rfl ?_
    conv=>whnf
    refine ⟨?_, ?_, ?_⟩
    iterate 2 · repeat' (first | exact trivial | exact rfl | refine And.intro ?_ ?_ | ((conv=>whnf); first | exact trivial | exact rfl | refine And.intro ?_ ?_ | omega))
    conv=>whnf
    refine lookKV_step tB_ok 30 3 true false 4 [0] keyThg zeroInt_ok rfl ?_
    conv=>whnf
    refine ⟨_, _, _, rfl, hl, ?_⟩
    conv=>whnf
    refine ⟨fun hc => ?_, fun hc => absurd hc (by simp)⟩
    conv=>whnf
    repeat' (first | exact trivial | exact rfl | refine And.intro ?_ ?_ | ((conv=>whnf); first | exact trivial | exact rfl | refine And.intro ?_ ?_ | omega))

theorem bPlaceOf_t (r : Rd) (m : Mom) (hs : Sml r) : Triple Tryz.prog 46 [rdA r, svMom m] (rdH r) 4 (.tup [.inl (.v (.int .i64 (pPlaceOf r m).1)), .inl (.v (.int .i64 (pPlaceOf r m).2))]) [] := by
  have e : pPlaceOf r m = if checkR r = 0 then (if m ∈ momsF r [] then ((objsF r).length + plF (momsF r []) m, 0) else (0, 5)) else (0, checkR r) := rfl
  have hC := check_rd_t r (Nat.le_trans hs.bs (by decide)) (Nat.le_trans hs.cs (by decide)) (Nat.le_trans hs.ns (by decide)) (Nat.le_trans hs.ws (by decide))
  by_cases h0 : checkR r = 0
  rotate_left
  · rw [if_neg h0] at e
    generalize pPlaceOf r m = R at *
    subst e
    generalize checkR r = c at *
    refine triple_of tB_ok Tryz.func46 rfl Tryz.call46 rfl ?_
    intro ρ w hH
    conv=>whnf
    refine call_step hC rfl rfl ?_
    conv=>whnf
    refine ⟨?_, ?_, ?_⟩
    iterate 2 · repeat' (first | exact trivial | exact rfl | refine And.intro ?_ ?_ | ((conv=>whnf); first | exact trivial | exact rfl | refine And.intro ?_ ?_ | omega))
    conv=>whnf
    refine ⟨fun hcc => ?_, fun hcc => absurd (by simpa using (show (c != 0) = false from hcc)) h0⟩
    conv=>whnf
    repeat' (first | exact trivial | exact rfl | refine And.intro ?_ ?_ | ((conv=>whnf); first | exact trivial | exact rfl | refine And.intro ?_ ?_ | omega))
  rw [if_pos h0] at e
  rw [h0] at hC
  have h := checkR_ok.1 h0
  rw [e]
  have hSp := spreadNil_t r h.sml
  by_cases ho : m ∈ momsF r []
  · rw [if_pos ho]
    have hl := look_mom (n := (objsF r).length) ho
    generalize plF (momsF r []) m = p at *
    generalize objsF r = os at *
    generalize momsF r [] = ms at *
    refine triple_of tB_ok Tryz.func46 rfl Tryz.call46 rfl ?_
    intro ρ w hH
    conv=>whnf
    refine call_step hC rfl rfl ?_
    conv=>whnf
    refine ⟨?_, ?_, ?_⟩
    iterate 2 · repeat' (first | exact trivial | exact rfl | refine And.intro ?_ ?_ | ((conv=>whnf); first | exact trivial | exact rfl | refine And.intro ?_ ?_ | omega))
    conv=>whnf
    refine ⟨fun hc => absurd hc (by simp), fun hc => ?_⟩
    conv=>whnf
    refine call_step hSp rfl rfl ?_
    conv=>whnf
    refine ⟨?_, ?_, ?_⟩
    iterate 2 · repeat' (first | exact trivial | exact rfl | refine And.intro ?_ ?_ | ((conv=>whnf); first | exact trivial | exact rfl | refine And.intro ?_ ?_ | omega))
    conv=>whnf
    refine lookKV_step tB_ok 53 3 true false 2 [0] keyMom zeroInt_ok rfl ?_
    conv=>whnf
    refine ⟨_, _, _, rfl, hl, ?_⟩
    conv=>whnf
    refine ⟨fun hc => absurd hc (by simp), fun hc => ?_⟩
    conv=>whnf
    repeat' (first | exact trivial | exact rfl | refine And.intro ?_ ?_ | ((conv=>whnf); first | exact trivial | exact rfl | refine And.intro ?_ ?_ | omega))
  · rw [if_neg ho]
    have hl := look_nomom (n := (objsF r).length) ho
    generalize objsF r = os at *
    generalize momsF r [] = ms at *
    refine triple_of tB_ok Tryz.func46 rfl Tryz.call46 rfl ?_
    intro ρ w hH
    conv=>whnf
    refine call_step hC rfl rfl ?_
    conv=>whnf
    refine ⟨?_, ?_, ?_⟩
    iterate 2 · repeat' (first | exact trivial | exact rfl | refine And.intro ?_ ?_ | ((conv=>whnf); first | exact trivial | exact rfl | refine And.intro ?_ ?_ | omega))
    conv=>whnf
    refine ⟨fun hc => absurd hc (by simp), fun hc => ?_⟩
    conv=>whnf
    refine call_step hSp rfl rfl ?_
    conv=>whnf
    refine ⟨?_, ?_, ?_⟩
    iterate 2 · repeat' (first | exact trivial | exact rfl | refine And.intro ?_ ?_ | ((conv=>whnf); first | exact trivial | exact rfl | refine And.intro ?_ ?_ | omega))
    conv=>whnf
    refine lookKV_step tB_ok 53 3 true false 2 [0] keyMom zeroInt_ok rfl ?_
    conv=>whnf
    refine ⟨_, _, _, rfl, hl, ?_⟩
    conv=>whnf
    refine ⟨fun hc => ?_, fun hc => absurd hc (by simp)⟩
    conv=>whnf
    repeat' (first | exact trivial | exact rfl | refine And.intro ?_ ?_ | ((conv=>whnf); first | exact trivial | exact rfl | refine And.intro ?_ ?_ | omega))

theorem bShift_t (r : Rd) (m : Mom) (hs : Sml r) : Triple Tryz.prog 44 [rdA r, svMom m] (rdH r) 4 (rngT (pShift r m)) [] := by
  have e : pShift r m = if checkR r = 0 then (if momOK r m = true then (if (sideF r m).hi < (sideF r m).lo then ((0, 0), 9) else (((sideF r m).lo, (sideF r m).hi), 0)) else ((0, 0), 1)) else ((0, 0), checkR r) := rfl
  have hC := check_rd_t r (Nat.le_trans hs.bs (by decide)) (Nat.le_trans hs.cs (by decide)) (Nat.le_trans hs.ns (by decide)) (Nat.le_trans hs.ws (by decide))
  by_cases h0 : checkR r = 0
  rotate_left
  · rw [if_neg h0] at e
    generalize pShift r m = R at *
    subst e
    generalize checkR r = c at *
    refine triple_of tB_ok Tryz.func44 rfl Tryz.call44 rfl ?_
    intro ρ w hH
    conv=>whnf
    refine call_step hC rfl rfl ?_
    conv=>whnf
    refine ⟨?_, ?_, ?_⟩
    iterate 2 · repeat' (first | exact trivial | exact rfl | refine And.intro ?_ ?_ | ((conv=>whnf); first | exact trivial | exact rfl | refine And.intro ?_ ?_ | omega))
    conv=>whnf
    refine ⟨fun hcc => ?_, fun hcc => absurd (by simpa using (show (c != 0) = false from hcc)) h0⟩
    conv=>whnf
    repeat' (first | exact trivial | exact rfl | refine And.intro ?_ ?_ | ((conv=>whnf); first | exact trivial | exact rfl | refine And.intro ?_ ?_ | omega))
  rw [if_pos h0] at e
  rw [h0] at hC
  have h := checkR_ok.1 h0
  rw [e]
  have hM := bMoment_t r m (Nat.le_trans hs.bs (by decide))
  by_cases hm : momOK r m = true
  · rw [if_pos hm]
    rw [hm] at hM
    have hS := shift_t r m (by have := hs.bs; omega) (by have := h.nr; omega) h.nN
    generalize sideF r m = d at *
    by_cases hlt : d.hi < d.lo
    · rw [if_pos hlt]
      refine triple_of tB_ok Tryz.func44 rfl Tryz.call44 rfl ?_
      intro ρ w hH
      conv=>whnf
      refine call_step hC rfl rfl ?_
      conv=>whnf
      refine ⟨?_, ?_, ?_⟩
      iterate 2 · repeat' (first | exact trivial | exact rfl | refine And.intro ?_ ?_ | ((conv=>whnf); first | exact trivial | exact rfl | refine And.intro ?_ ?_ | omega))
      conv=>whnf
      refine ⟨fun hc => absurd hc (by simp), fun hc => ?_⟩
      conv=>whnf
      refine call_step hM rfl rfl ?_
      conv=>whnf
      refine ⟨?_, ?_, ?_⟩
      iterate 2 · repeat' (first | exact trivial | exact rfl | refine And.intro ?_ ?_ | ((conv=>whnf); first | exact trivial | exact rfl | refine And.intro ?_ ?_ | omega))
      conv=>whnf
      refine ⟨fun hc => absurd hc (by simp), fun hc => ?_⟩
      conv=>whnf
      refine call_step hS rfl rfl ?_
      conv=>whnf
      refine ⟨?_, ?_, ?_⟩
      iterate 2 · repeat' (first | exact trivial | exact rfl | refine And.intro ?_ ?_ | ((conv=>whnf); first | exact trivial | exact rfl | refine And.intro ?_ ?_ | omega))
      conv=>whnf
      refine ⟨fun hc => ?_, fun hc => absurd (of_decide_eq_false (show decide (d.hi < d.lo) = false from hc)) (by omega)⟩
      conv=>whnf
      repeat' (first | exact trivial | exact rfl | refine And.intro ?_ ?_ | ((conv=>whnf); first | exact trivial | exact rfl | refine And.intro ?_ ?_ | omega))
    · rw [if_neg hlt]
      refine triple_of tB_ok Tryz.func44 rfl Tryz.call44 rfl ?_
      intro ρ w hH
      conv=>whnf
      refine call_step hC rfl rfl ?_
      conv=>whnf
      refine ⟨?_, ?_, ?_⟩
      iterate 2 · repeat' (first | exact trivial | exact rfl | refine And.intro ?_ ?_ | ((conv=>whnf); first | exact trivial | exact rfl | refine And.intro ?_ ?_ | omega))
      conv=>whnf
      refine ⟨fun hc => absurd hc (by simp), fun hc => ?_⟩
      conv=>whnf
      refine call_step hM rfl rfl ?_
      conv=>whnf
      refine ⟨?_, ?_, ?_⟩
      iterate 2 · repeat' (first | exact trivial | exact rfl | refine And.intro ?_ ?_ | ((conv=>whnf); first | exact trivial | exact rfl | refine And.intro ?_ ?_ | omega))
      conv=>whnf
      refine ⟨fun hc => absurd hc (by simp), fun hc => ?_⟩
      conv=>whnf
      refine call_step hS rfl rfl ?_
      conv=>whnf
      refine ⟨?_, ?_, ?_⟩
      iterate 2 · repeat' (first | exact trivial | exact rfl | refine And.intro ?_ ?_ | ((conv=>whnf); first | exact trivial | exact rfl | refine And.intro ?_ ?_ | omega))
      conv=>whnf
      refine ⟨fun hc => absurd (of_decide_eq_true (show decide (d.hi < d.lo) = true from hc)) (by omega), fun hc => ?_⟩
      conv=>whnf
      repeat' (first | exact trivial | exact rfl | refine And.intro ?_ ?_ | ((conv=>whnf); first | exact trivial | exact rfl | refine And.intro ?_ ?_ | omega))
  · rw [if_neg hm]
    rw [Bool.not_eq_true] at hm
    rw [hm] at hM
    refine triple_of tB_ok Tryz.func44 rfl Tryz.call44 rfl ?_
    intro ρ w hH
    conv=>whnf
    refine call_step hC rfl rfl ?_
    conv=>whnf
    refine ⟨?_, ?_, ?_⟩
    iterate 2 · repeat' (first | exact trivial | exact rfl | refine And.intro ?_ ?_ | ((conv=>whnf); first | exact trivial | exact rfl | refine And.intro ?_ ?_ | omega))
    conv=>whnf
    refine ⟨fun hc => absurd hc (by simp), fun hc => ?_⟩
    conv=>whnf
    refine call_step hM rfl rfl ?_
    conv=>whnf
    refine ⟨?_, ?_, ?_⟩
    iterate 2 · repeat' (first | exact trivial | exact rfl | refine And.intro ?_ ?_ | ((conv=>whnf); first | exact trivial | exact rfl | refine And.intro ?_ ?_ | omega))
    conv=>whnf
    refine ⟨fun hc => ?_, fun hc => absurd hc (by simp)⟩
    conv=>whnf
    repeat' (first | exact trivial | exact rfl | refine And.intro ?_ ?_ | ((conv=>whnf); first | exact trivial | exact rfl | refine And.intro ?_ ?_ | omega))

theorem rShift_t (r : Rd) (m : Mom) (hs : Sml r) : Triple Tryz.prog 47 [rdA r, svMom m] (rdH r) 4 (rngT (pShift r m)) [] := by
  have e : pShift r m = if checkR r = 0 then (if momOK r m = true then (if (sideF r m).hi < (sideF r m).lo then ((0, 0), 9) else (((sideF r m).lo, (sideF r m).hi), 0)) else ((0, 0), 1)) else ((0, 0), checkR r) := rfl
  have hC := rCheck_t r hs
  by_cases h0 : checkR r = 0
  rotate_left
  · rw [if_neg h0] at e
    generalize pShift r m = R at *
    subst e
    generalize checkR r = c at *
    refine triple_of tB_ok Tryz.func47 rfl Tryz.call47 rfl ?_
    intro ρ w hH
    conv=>whnf
    refine call_step hC rfl rfl ?_
    conv=>whnf
    refine ⟨?_, ?_, ?_⟩
    iterate 2 · repeat' (first | exact trivial | exact rfl | refine And.intro ?_ ?_ | ((conv=>whnf); first | exact trivial | exact rfl | refine And.intro ?_ ?_ | omega))
    conv=>whnf
    refine ⟨fun hcc => ?_, fun hcc => absurd (by simpa using (show (c != 0) = false from hcc)) h0⟩
    conv=>whnf
    repeat' (first | exact trivial | exact rfl | refine And.intro ?_ ?_ | ((conv=>whnf); first | exact trivial | exact rfl | refine And.intro ?_ ?_ | omega))
  rw [if_pos h0] at e
  rw [h0] at hC
  have h := checkR_ok.1 h0
  rw [e]
  have hz := find_zero h.bal m.bal
  have hF := rFind_t r m.bal (by have := hs.bs; omega)
  have eo : momOK r m = (hasB r.bs m.bal && withinF m.tick 0 1000000) := rfl
  have hI := rIn_t m.tick 0 1000000
  have hS := rSide_t r m hs
  rw [eo]
  generalize withinF m.tick 0 1000000 = w1 at *
  generalize hasB r.bs m.bal = ok at *
  generalize findD r.bs m.bal = d0 at *
  cases ok with
  | false =>
    rw [if_neg (by simp)]
    refine triple_of tB_ok Tryz.func47 rfl Tryz.call47 rfl ?_
    intro ρ w hH
    conv=>whnf
    refine call_step hC rfl rfl ?_
    conv=>whnf
    refine ⟨?_, ?_, ?_⟩
    iterate 2 · repeat' (first | exact trivial | exact rfl | refine And.intro ?_ ?_ | ((conv=>whnf); first | exact trivial | exact rfl | refine And.intro ?_ ?_ | omega))
    conv=>whnf
    refine ⟨fun hc => absurd hc (by simp), fun hc => ?_⟩
    conv=>whnf
    refine call_step hF rfl rfl ?_
    conv=>whnf
    refine ⟨?_, ?_, ?_⟩
    iterate 2 · repeat' (first | exact trivial | exact rfl | refine And.intro ?_ ?_ | ((conv=>whnf); first | exact trivial | exact rfl | refine And.intro ?_ ?_ | omega))
    conv=>whnf
    refine ⟨fun hc => ?_, fun hc => absurd (show (d0.id == 0) = false from hc) (by rw [hz]; simp)⟩
    conv=>whnf
    repeat' (first | exact trivial | exact rfl | refine And.intro ?_ ?_ | ((conv=>whnf); first | exact trivial | exact rfl | refine And.intro ?_ ?_ | omega))
  | true =>
    cases w1 with
    | false =>
      rw [if_neg (by simp)]
      refine triple_of tB_ok Tryz.func47 rfl Tryz.call47 rfl ?_
      intro ρ w hH
      conv=>whnf
      refine call_step hC rfl rfl ?_
      conv=>whnf
      refine ⟨?_, ?_, ?_⟩
      iterate 2 · repeat' (first | exact trivial | exact rfl | refine And.intro ?_ ?_ | ((conv=>whnf); first | exact trivial | exact rfl | refine And.intro ?_ ?_ | omega))
      conv=>whnf
      refine ⟨fun hc => absurd hc (by simp), fun hc => ?_⟩
      conv=>whnf
      refine call_step hF rfl rfl ?_
      conv=>whnf
      refine ⟨?_, ?_, ?_⟩
      iterate 2 · repeat' (first | exact trivial | exact rfl | refine And.intro ?_ ?_ | ((conv=>whnf); first | exact trivial | exact rfl | refine And.intro ?_ ?_ | omega))
      conv=>whnf
      refine ⟨fun hc => absurd (show (d0.id == 0) = true from hc) (by rw [hz]; simp), fun hc => ?_⟩
      conv=>whnf
      refine call_step hI rfl rfl ?_
      conv=>whnf
      refine ⟨?_, ?_, ?_⟩
      iterate 2 · repeat' (first | exact trivial | exact rfl | refine And.intro ?_ ?_ | ((conv=>whnf); first | exact trivial | exact rfl | refine And.intro ?_ ?_ | omega))
      conv=>whnf
      refine ⟨fun hc => ?_, fun hc => absurd hc (by simp)⟩
      conv=>whnf
      repeat' (first | exact trivial | exact rfl | refine And.intro ?_ ?_ | ((conv=>whnf); first | exact trivial | exact rfl | refine And.intro ?_ ?_ | omega))
    | true =>
      rw [if_pos (by simp)]
      generalize sideF r m = d at *
      by_cases hlt : d.hi < d.lo
      · rw [if_pos hlt]
        refine triple_of tB_ok Tryz.func47 rfl Tryz.call47 rfl ?_
        intro ρ w hH
        conv=>whnf
        refine call_step hC rfl rfl ?_
        conv=>whnf
        refine ⟨?_, ?_, ?_⟩
        iterate 2 · repeat' (first | exact trivial | exact rfl | refine And.intro ?_ ?_ | ((conv=>whnf); first | exact trivial | exact rfl | refine And.intro ?_ ?_ | omega))
        conv=>whnf
        refine ⟨fun hc => absurd hc (by simp), fun hc => ?_⟩
        conv=>whnf
        refine call_step hF rfl rfl ?_
        conv=>whnf
        refine ⟨?_, ?_, ?_⟩
        iterate 2 · repeat' (first | exact trivial | exact rfl | refine And.intro ?_ ?_ | ((conv=>whnf); first | exact trivial | exact rfl | refine And.intro ?_ ?_ | omega))
        conv=>whnf
        refine ⟨fun hc => absurd (show (d0.id == 0) = true from hc) (by rw [hz]; simp), fun hc => ?_⟩
        conv=>whnf
        refine call_step hI rfl rfl ?_
        conv=>whnf
        refine ⟨?_, ?_, ?_⟩
        iterate 2 · repeat' (first | exact trivial | exact rfl | refine And.intro ?_ ?_ | ((conv=>whnf); first | exact trivial | exact rfl | refine And.intro ?_ ?_ | omega))
        conv=>whnf
        refine ⟨fun hc => absurd hc (by simp), fun hc => ?_⟩
        conv=>whnf
        refine call_step hS rfl rfl ?_
        conv=>whnf
        refine ⟨?_, ?_, ?_⟩
        iterate 2 · repeat' (first | exact trivial | exact rfl | refine And.intro ?_ ?_ | ((conv=>whnf); first | exact trivial | exact rfl | refine And.intro ?_ ?_ | omega))
        conv=>whnf
        refine ⟨fun hc => ?_, fun hc => absurd (of_decide_eq_false (show decide (d.hi < d.lo) = false from hc)) (by omega)⟩
        conv=>whnf
        repeat' (first | exact trivial | exact rfl | refine And.intro ?_ ?_ | ((conv=>whnf); first | exact trivial | exact rfl | refine And.intro ?_ ?_ | omega))
      · rw [if_neg hlt]
        refine triple_of tB_ok Tryz.func47 rfl Tryz.call47 rfl ?_
        intro ρ w hH
        conv=>whnf
        refine call_step hC rfl rfl ?_
        conv=>whnf
        refine ⟨?_, ?_, ?_⟩
        iterate 2 · repeat' (first | exact trivial | exact rfl | refine And.intro ?_ ?_ | ((conv=>whnf); first | exact trivial | exact rfl | refine And.intro ?_ ?_ | omega))
        conv=>whnf
        refine ⟨fun hc => absurd hc (by simp), fun hc => ?_⟩
        conv=>whnf
        refine call_step hF rfl rfl ?_
        conv=>whnf
        refine ⟨?_, ?_, ?_⟩
        iterate 2 · repeat' (first | exact trivial | exact rfl | refine And.intro ?_ ?_ | ((conv=>whnf); first | exact trivial | exact rfl | refine And.intro ?_ ?_ | omega))
        conv=>whnf
        refine ⟨fun hc => absurd (show (d0.id == 0) = true from hc) (by rw [hz]; simp), fun hc => ?_⟩
        conv=>whnf
        refine call_step hI rfl rfl ?_
        conv=>whnf
        refine ⟨?_, ?_, ?_⟩
        iterate 2 · repeat' (first | exact trivial | exact rfl | refine And.intro ?_ ?_ | ((conv=>whnf); first | exact trivial | exact rfl | refine And.intro ?_ ?_ | omega))
        conv=>whnf
        refine ⟨fun hc => absurd hc (by simp), fun hc => ?_⟩
        conv=>whnf
        refine call_step hS rfl rfl ?_
        conv=>whnf
        refine ⟨?_, ?_, ?_⟩
        iterate 2 · repeat' (first | exact trivial | exact rfl | refine And.intro ?_ ?_ | ((conv=>whnf); first | exact trivial | exact rfl | refine And.intro ?_ ?_ | omega))
        conv=>whnf
        refine ⟨fun hc => absurd (of_decide_eq_true (show decide (d.hi < d.lo) = true from hc)) (by omega), fun hc => ?_⟩
        conv=>whnf
        repeat' (first | exact trivial | exact rfl | refine And.intro ?_ ?_ | ((conv=>whnf); first | exact trivial | exact rfl | refine And.intro ?_ ?_ | omega))

theorem bSameThg_t (xs : List Thg) (hb : xs.length ≤ 1000000) : Triple Tryz.prog 48 [.c (.s 0 0 xs.length 4), .c (.s 1 0 xs.length 4)] [(0, false, .arr (aThg xs)), (1, false, .arr (aThg xs))] 2 (bv true) [] := by
  refine triple_of tB_ok Tryz.func48 rfl Tryz.call48 rfl ?_
  intro ρ w hH
  conv=>whnf
  refine ⟨fun h => absurd (show ((xs.length : Int) != xs.length) = true from h) (by simp), fun h => ?_⟩
  conv=>whnf
  refine loop_step tB_ok (G := Nat) 0 [] (fun i => [(13, iv .i64 i)]) (fun _ => []) (fun i => i ≤ xs.length) (fun i => xs.length - i) ?_
  conv=>whnf
  refine ⟨⟨0, Nat.zero_le _, ?_⟩, ?_⟩
  · conv=>whnf
    repeat' (first | exact trivial | exact rfl | refine And.intro ?_ ?_ | ((conv=>whnf); first | exact trivial | exact rfl | refine And.intro ?_ ?_ | omega))
  rintro i hi ρ1 t1 hρ1
  conv=>whnf
  refine ⟨fun h1 => ?_, fun h1 => ?_⟩
  · have h1 : i < xs.length := by simpa using h1
    conv=>whnf
    refine ⟨i, rfl, h1, h1, ?_⟩
    conv=>whnf
    refine ⟨i, rfl, h1, h1, ?_⟩
    conv=>whnf
    refine ⟨fun h3 => ?_, fun h3 => ?_⟩
    · have h4 : (!eqThg xs[i] xs[i]) = true := h3
      rw [eqThg_r] at h4
      cases h4
    · conv=>whnf
      refine ⟨_, wrapId ⟨by omega, by omega⟩, ?_⟩
      refine ⟨i + 1, h1, by show xs.length - (i + 1) < xs.length - i; omega, ?_⟩
      conv=>whnf
      refine ⟨rfl, ?_⟩
      conv=>whnf
      repeat' (first | exact trivial | exact rfl | refine And.intro ?_ ?_ | ((conv=>whnf); first | exact trivial | exact rfl | refine And.intro ?_ ?_ | omega))
  · conv=>whnf
    repeat' (first | exact trivial | exact rfl | refine And.intro ?_ ?_ | ((conv=>whnf); first | exact trivial | exact rfl | refine And.intro ?_ ?_ | omega))
theorem bSameMom_t (xs : List Mom) (hb : xs.length ≤ 1000000) : Triple Tryz.prog 50 [.c (.s 0 0 xs.length 2), .c (.s 1 0 xs.length 2)] [(0, false, .arr (aMom xs)), (1, false, .arr (aMom xs))] 2 (bv true) [] := by
  refine triple_of tB_ok Tryz.func50 rfl Tryz.call50 rfl ?_
  intro ρ w hH
  conv=>whnf
  refine ⟨fun h => absurd (show ((xs.length : Int) != xs.length) = true from h) (by simp), fun h => ?_⟩
  conv=>whnf
  refine loop_step tB_ok (G := Nat) 0 [] (fun i => [(13, iv .i64 i)]) (fun _ => []) (fun i => i ≤ xs.length) (fun i => xs.length - i) ?_
  conv=>whnf
  refine ⟨⟨0, Nat.zero_le _, ?_⟩, ?_⟩
  · conv=>whnf
    repeat' (first | exact trivial | exact rfl | refine And.intro ?_ ?_ | ((conv=>whnf); first | exact trivial | exact rfl | refine And.intro ?_ ?_ | omega))
  rintro i hi ρ1 t1 hρ1
  conv=>whnf
  refine ⟨fun h1 => ?_, fun h1 => ?_⟩
  · have h1 : i < xs.length := by simpa using h1
    conv=>whnf
    refine ⟨i, rfl, h1, h1, ?_⟩
    conv=>whnf
    refine ⟨i, rfl, h1, h1, ?_⟩
    conv=>whnf
    refine ⟨fun h3 => ?_, fun h3 => ?_⟩
    · have h4 : (!eqMom xs[i] xs[i]) = true := h3
      rw [eqMom_r] at h4
      cases h4
    · conv=>whnf
      refine ⟨_, wrapId ⟨by omega, by omega⟩, ?_⟩
      refine ⟨i + 1, h1, by show xs.length - (i + 1) < xs.length - i; omega, ?_⟩
      conv=>whnf
      refine ⟨rfl, ?_⟩
      conv=>whnf
      repeat' (first | exact trivial | exact rfl | refine And.intro ?_ ?_ | ((conv=>whnf); first | exact trivial | exact rfl | refine And.intro ?_ ?_ | omega))
  · conv=>whnf
    repeat' (first | exact trivial | exact rfl | refine And.intro ?_ ?_ | ((conv=>whnf); first | exact trivial | exact rfl | refine And.intro ?_ ?_ | omega))

end Go.Proofs

