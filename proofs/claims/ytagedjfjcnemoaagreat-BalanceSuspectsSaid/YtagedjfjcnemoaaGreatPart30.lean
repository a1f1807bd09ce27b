/-
  A part of the proof that a law answers true: lemmas of a symbolic walk, plain functions, or contracts of the functions walked (Wo, Wp, Ca, Rj, Sx47, Sx33, Rk, Ru, Rw, Rx). Conditions: none.
-/
import Derived.Test.YtagedjfjcnemoaaGreatPart09
import Derived.Test.YtagedjfjcnemoaaGreatPart27
import Derived.Test.YtagedjfjcnemoaaGreatPart28
import Derived.Test.YtagedjfjcnemoaaGreatPart29
import Derived.Test.YtagedjfjcnemoaaGreatPart26
import Derived.Test.YtagedjfjcnemoaaGreatRows
import Derived.Test.YtagedjfjcnemoaaGreatChecked
import Derived.WideKeyArgs
import Derived.Carry
import Derived.Handed
import Derived.RowKit
import Derived.JoinedOf
import Derived.ChangeSame
import Derived.Test.YtagedjfjcnemoaaGreatPart15
import Derived.Test.YtagedjfjcnemoaaGreatPart24
import Derived.Test.YtagedjfjcnemoaaGreatPart11
import Derived.Test.YtagedjfjcnemoaaGreatPart07
set_option maxRecDepth 100000
set_option linter.unusedVariables false
set_option linter.unusedSimpArgs false
namespace Go.Proofs
open Go.Sx Go.ChangeShapes Go.WideShapes Go.RowKit

theorem below_of {W W' : World} (h : Frm W W' []) : Below W.heap.size W { W' with tape := W.tape } :=
  ⟨h.io.1, rfl, h.io.2, h.size, fun k hk => h.same k hk (by simp)⟩

theorem A_own : ownKnob Tryz.prog.godebug = none := by kernel_rfl
theorem A_laidOut : laidOutB Tryz.prog = true := fact_laid
theorem A_undBool : Tryz.prog.underlying 4 = some .bool := by kernel_rfl

end Go.Proofs

namespace Go.Proofs
open Go.Sx Go.ChangeShapes Go.WideShapes Go.RowKit Go.Deep

def Came (w : World) (v : Value) (sv : SV) (H : Heap) (ks : List (Nat × Rg)) : Prop := ∀ ρ : Asg, (∀ p ∈ ks, ρ p.1 = p.2) →
  sv.rel ρ v ∧ ∀ e ∈ H, e.2.1 = false ∧ SatO ρ w e.1 false e.2.2 ∧ (0 < e.2.2.room (ρ e.1) → (ρ e.1).blk < w.heap.size)

def CameAll (w : World) (vs : List Value) (svs : List SV) (H : Heap) (ks : List (Nat × Rg)) : Prop := ∀ ρ : Asg, (∀ p ∈ ks, ρ p.1 = p.2) →
  relVs ρ svs vs ∧ ∀ e ∈ H, e.2.1 = false ∧ SatO ρ w e.1 false e.2.2 ∧ (0 < e.2.2.room (ρ e.1) → (ρ e.1).blk < w.heap.size)

theorem cameAll_nil (w : World) : CameAll w [] [] [] [] := fun _ _ => ⟨trivial, fun e he => by cases he⟩

theorem cameAll_cons {w : World} {v : Value} {vs : List Value} {sv : SV} {svs : List SV} {H H' : Heap} {ks ks' : List (Nat × Rg)} (h : Came w v sv H ks) (h' : CameAll w vs svs H' ks') : CameAll w (v :: vs) (sv :: svs) (H ++ H') (ks ++ ks') := by
  intro ρ hρ
  obtain ⟨h1, h2⟩ := h ρ fun p hp => hρ p (List.mem_append.2 (.inl hp))
  obtain ⟨h3, h4⟩ := h' ρ fun p hp => hρ p (List.mem_append.2 (.inr hp))
  refine ⟨⟨h1, h3⟩, fun e he => ?_⟩
  rcases List.mem_append.1 he with he | he
  · exact h2 e he
  · exact h4 e he

def asgOf : List (Nat × Rg) → Asg
  | [], _ => ⟨0, 0, 0⟩
  | (k, r) :: t, j => if j = k then r else asgOf t j

theorem asgOf_ok : ∀ {ks : List (Nat × Rg)}, (ks.map (·.1)).Nodup → ∀ p ∈ ks, asgOf ks p.1 = p.2
  | [], _, p, hp => by cases hp
  | (k, r) :: t, hn, p, hp => by
    simp only [List.map_cons, List.nodup_cons] at hn
    rcases List.mem_cons.1 hp with rfl | hq
    · simp [asgOf]
    · have hne : p.1 ≠ k := fun he => hn.1 (he ▸ List.mem_map_of_mem hq)
      simp only [asgOf, if_neg hne]
      exact asgOf_ok hn.2 p hq

theorem look_mem : ∀ {H : Heap} {k : Nat} {x : Bool × SO}, Sx.look H k = some x → (k, x) ∈ H
  | [], _, _, h => by cases h
  | (j, o) :: r, k, x, h => by
    rw [look_cons] at h
    by_cases hk : k = j
    · rw [if_pos hk] at h
      rw [← Option.some.inj h, hk]; exact List.mem_cons_self ..
    · rw [if_neg hk] at h
      exact List.mem_cons_of_mem _ (look_mem h)

theorem came_sat {w : World} {vs : List Value} {svs : List SV} {H : Heap} {ks : List (Nat × Rg)} (h : CameAll w vs svs H ks) (hn : (ks.map (·.1)).Nodup) :
    ∃ ρ : Asg, relVs ρ svs vs ∧ SatH w (ownB ρ H) ρ H w := by
  obtain ⟨h1, h2⟩ := h (asgOf ks) (asgOf_ok hn)
  refine ⟨asgOf ks, h1, Frm.refl _ _, ?_, ?_, ?_, ?_⟩
  · intro k own o hk
    obtain ⟨h3, h4, _⟩ := h2 _ (look_mem hk)
    have h3 : own = false := h3
    subst h3; exact h4
  · intro k k' o own' o' _ hk
    have := (h2 _ (look_mem hk)).1; cases this
  · intro k o hk
    have := (h2 _ (look_mem hk)).1; cases this
  · intro k own o hk hp
    exact (h2 _ (look_mem hk)).2.2 hp

theorem trodAll_keep {H : Type} {enc : TypeId × Value → H} {W W' : World} (hfrm : Frm W W' []) : ∀ {ts : List TypeId} {vs : List Value} {ds : List (DataW H)} {p : List MemPlace}, (∀ t ∈ ts, Tryz.prog.readableRec t = true ∧ t < Tryz.prog.types.size) →
    DataW.TrodAll enc Tryz.prog W 0 (fun _ => true) true ts vs ds p → (∀ x ∈ p, x.block < W.heap.size) → DataW.TrodAll enc Tryz.prog { W' with tape := W.tape } 0 (fun b => decide (b < W.heap.size)) true ts vs ds p
  | [], vs, ds, p, _, h, _ => by
    obtain ⟨rfl, rfl, rfl⟩ := trodAll_nil h
    exact trodAll_mk0
  | t :: ts, vs, ds, p, hr, h, hlt => by
    obtain ⟨v, vs', d, ds', p1, p2, rfl, rfl, rfl, hd, hrest⟩ := trodAll_cons h
    have ht := hr t (List.mem_cons_self ..)
    refine ⟨p1, p2, ?_, ?_, rfl⟩
    · exact Below.trod A_laidOut ht.1 ht.2 hd (below_of hfrm) fun x hx => hlt x (List.mem_append.2 (.inl hx))
    · exact trodAll_keep hfrm (fun t ht => hr t (List.mem_cons_of_mem _ ht)) hrest fun x hx => hlt x (List.mem_append.2 (.inr hx))

end Go.Proofs

namespace Go.Proofs
open Go.Sx Go.ChangeShapes Go.WideShapes Go.RowKit Go.Deep

def chkFs (L : List (Nat × Nat)) : List Field → Nat → Nat → Bool
  | [], j, n => Nat.beq j n
  | f :: r, j, n => Nat.beq f.offset j && (match lookN L f.type with
    | some m => chkFs L r (j + m) n
    | none => false)

theorem chkFs_ok {P : Program} {L : List (Nat × Nat)} (hL : ∀ t n, lookN L t = some n → AllI P t n) : ∀ {fs : List Field} {j n : Nat}, chkFs L fs j n = true → AllFs P fs j n
  | [], _, _, h => Nat.eq_of_beq_eq_true h
  | f :: r, j, n, h => by
    simp only [chkFs, Bool.and_eq_true] at h
    obtain ⟨h1, h2⟩ := h
    split at h2
    · rename_i m hm
      exact ⟨m, Nat.eq_of_beq_eq_true h1, hL _ _ hm, chkFs_ok hL h2⟩
    · cases h2

theorem allN_nil {P : Program} : ∀ t n, lookN [] t = some n → AllI P t n := by intro t n h; simp [lookN] at h
theorem allN_cons {P : Program} {t m : Nat} {L : List (Nat × Nat)} (h : AllI P t m) (hL : ∀ t n, lookN L t = some n → AllI P t n) : ∀ t' n, lookN ((t, m) :: L) t' = some n → AllI P t' n := by
  intro t' n h'
  simp only [lookN] at h'
  cases hb : Nat.beq t' t with
  | true => simp [hb] at h'; subst h'; rw [Nat.eq_of_beq_eq_true hb]; exact h
  | false => simp [hb] at h'; exact hL _ _ h'

theorem I_int : AllI Tryz.prog 3 1 := allI_int (by kernel_rfl) (by kernel_rfl)
theorem I_state : AllI Tryz.prog 28 1 := allI_int (by kernel_rfl) (by kernel_rfl)
theorem L_int : ∀ t n, lookN [(3, 1), (28, 1)] t = some n → AllI Tryz.prog t n := allN_cons I_int (allN_cons I_state allN_nil)
theorem I_span : AllI Tryz.prog 37 2 := allI_struct (fs := Tryz.prog.fieldsOf 37) (by kernel_rfl) (by kernel_rfl) (chkFs_ok L_int (by kernel_rfl))
theorem I_thg : AllI Tryz.prog 30 4 := allI_struct (fs := Tryz.prog.fieldsOf 30) (by kernel_rfl) (by kernel_rfl) (chkFs_ok L_int (by kernel_rfl))
theorem L_all : ∀ t n, lookN [(37, 2), (30, 4), (3, 1), (28, 1)] t = some n → AllI Tryz.prog t n := allN_cons I_span (allN_cons I_thg L_int)
theorem I_bal : AllI Tryz.prog 57 6 := allI_struct (fs := Tryz.prog.fieldsOf 57) (by kernel_rfl) (by kernel_rfl) (chkFs_ok L_all (by kernel_rfl))
theorem I_chk : AllI Tryz.prog 51 5 := allI_struct (fs := Tryz.prog.fieldsOf 51) (by kernel_rfl) (by kernel_rfl) (chkFs_ok L_all (by kernel_rfl))
theorem I_ntc : AllI Tryz.prog 93 6 := allI_struct (fs := Tryz.prog.fieldsOf 93) (by kernel_rfl) (by kernel_rfl) (chkFs_ok L_all (by kernel_rfl))
theorem I_wgh : AllI Tryz.prog 32 8 := allI_struct (fs := Tryz.prog.fieldsOf 32) (by kernel_rfl) (by kernel_rfl) (chkFs_ok L_all (by kernel_rfl))

theorem came_rec {base : Nat} {α H : Type} {enc : TypeId × Value → H} {w : World} {v : Value} {d : DataW H} {p : List MemPlace} {t n : Nat} (f : α → List Int) (mk : (Nat → Int) → α) (hmk : ∀ V, f (mk V) = (List.range n).map V)
    (hA : AllI Tryz.prog t n) (hs : Tryz.prog.underlying t = some (.struct (Tryz.prog.fieldsOf t))) (hok : Value.okWide Tryz.prog w .any base t v)
    (h : DataW.Trod enc Tryz.prog w 0 (fun _ => true) true t v d p) : ∃ x : α, Came w v (.agg (Sx.encI (f x))) [] [] := by
  obtain ⟨cs, rfl, hcs⟩ := okWide_struct hs hok
  obtain ⟨fuel, hf⟩ := h
  obtain ⟨hl, V, hV⟩ := hA.op hf
  have hl : cs.toList.length = n := hl
  have hV : ∀ j, j < n → cs.toList[j]? = some (.int .i64 (V j)) := hV
  refine ⟨mk V, fun ρ _ => ⟨⟨cs, rfl, ?_⟩, fun e he => by cases he⟩⟩
  have e : cs.toList = (f (mk V)).map (Value.int .i64) := by
    rw [hmk, List.map_map]
    apply List.ext_getElem?
    intro j
    by_cases hj : j < n
    · rw [hV j hj, List.getElem?_map, List.getElem?_range hj]; rfl
    · rw [List.getElem?_eq_none (by omega), List.getElem?_eq_none (by simp; omega)]
  rw [e]
  exact relEncI ρ _

theorem came_thg {base : Nat} {H : Type} {enc : TypeId × Value → H} {w : World} {v : Value} {d : DataW H} {p : List MemPlace} (hok : Value.okWide Tryz.prog w .any base 30 v)
    (h : DataW.Trod enc Tryz.prog w 0 (fun _ => true) true 30 v d p) : ∃ x : Thg, Came w v (svThg x) [] [] :=
  came_rec thgL (fun V => ⟨V 0, V 1, V 2, V 3⟩) (fun _ => rfl) I_thg (by kernel_rfl) hok h
theorem A_undRd : Tryz.prog.underlying 27 = some (.struct (Tryz.prog.fieldsOf 27)) := by kernel_rfl
theorem A_fldRd : ∃ f0 f1 f2 f3, Tryz.prog.fieldsOf 27 = #[f0, f1, f2, f3] ∧ (f0.type = 22 ∧ f0.offset = 0) ∧ (f1.type = 23 ∧ f1.offset = 1) ∧ (f2.type = 24 ∧ f2.offset = 2) ∧ f3.type = 25 ∧ f3.offset = 3 :=
  ⟨(Tryz.prog.fieldsOf 27)[0]!, (Tryz.prog.fieldsOf 27)[1]!, (Tryz.prog.fieldsOf 27)[2]!, (Tryz.prog.fieldsOf 27)[3]!, by kernel_rfl, ⟨by kernel_rfl, by kernel_rfl⟩, ⟨by kernel_rfl, by kernel_rfl⟩, ⟨by kernel_rfl, by kernel_rfl⟩, by kernel_rfl, by kernel_rfl⟩

structure Wide (r : Rd) : Prop where
  bs : r.bs.length ≤ 140737488351232
  cs : r.cs.length ≤ 140737488351232
  ns : r.ns.length ≤ 140737488351232
  ws : r.ws.length ≤ 140737488351232

abbrev rdK (k0 k1 k2 k3 : Nat) (r : Rd) : SV := .agg [.s k0 0 r.bs.length 6, .s k2 0 r.cs.length 5, .s k3 0 r.ns.length 6, .s k1 0 r.ws.length 8]
abbrev rdHK (k0 k1 k2 k3 : Nat) (r : Rd) : Heap := [(k0, false, .arr (aBal r.bs)), (k1, false, .arr (aWgh r.ws)), (k2, false, .arr (aChk r.cs)), (k3, false, .arr (aNtc r.ns))]

theorem weights_part {H : Type} {P : Program} {t : Nat} {fs : Array Field} {parts : List (DataW H)} (h : P.underlying t = some (.struct fs)) (hw : ∀ y ∈ (DataW.agg parts).weights P t, y ≤ reachBytes) {i : Nat} {f : Field} {d : DataW H} (hf : fs.toList[i]? = some f) (hd : parts[i]? = some d) :
    ∀ y ∈ d.weights P f.type, y ≤ reachBytes := fun y hy => hw y (by
  simp only [DataW.weights, h]
  exact DataW.weights_mem_each (j := i) (by rw [List.getElem?_map, hf]; rfl) hd y hy)

theorem room_pos {ρ : Asg} {k : Nat} {α : Type} {n : Nat} {f : α → List Int} {hf : ∀ x, (f x).length = n} {xs : List α} {r : Rg} (e : ρ k = r) {w : World} (h : 0 < r.cap → r.blk < w.heap.size) : 0 < (SO.arr (aRec n f hf xs)).room (ρ k) → (ρ k).blk < w.heap.size := by
  intro hp
  rw [e] at hp ⊢
  refine h (Nat.pos_of_ne_zero fun h0 => ?_)
  have hp : 0 < r.cap * n := hp
  rw [h0, Nat.zero_mul] at hp; cases hp

theorem came_rd {base : Nat} {H : Type} {enc : TypeId × Value → H} {w : World} {v : Value} {d : DataW H} {p : List MemPlace} (hok : Value.okWide Tryz.prog w .any base 27 v)
    (h : DataW.Trod enc Tryz.prog w 0 (fun _ => true) true 27 v d p) (hw : ∀ y ∈ d.weights Tryz.prog 27, y ≤ reachBytes) (k0 k1 k2 k3 : Nat) :
    ∃ (r : Rd) (q0 q1 q2 q3 : Rg), Wide r ∧ Came w v (rdK k0 k1 k2 k3 r) (rdHK k0 k1 k2 k3 r) [(k0, q0), (k1, q1), (k2, q2), (k3, q3)] := by
  obtain ⟨cs, rfl, hcs⟩ := okWide_struct A_undRd hok
  obtain ⟨fuel, hf⟩ := h
  have hc4 : Tryz.prog.cellsOf 27 = 4 := by kernel_rfl
  rw [hc4] at hcs
  obtain ⟨l⟩ := cs
  match l, hcs with
  | [a, b, c, e], _ =>
    obtain ⟨xs, m, _, hd, _, hxl, hff⟩ := DataW.trod_struct A_undRd hf
    have hd : d = .agg (xs.map (·.1)) := congrArg Prod.fst hd
    subst hd
    have hwp := fun {i : Nat} {f : Field} {d : DataW H} => weights_part (i := i) (f := f) (d := d) A_undRd hw
    obtain ⟨f0, f1, f2, f3, hfs, ⟨t0, o0⟩, ⟨t1, o1⟩, ⟨t2, o2⟩, t3, o3⟩ := A_fldRd
    rw [hfs] at hff hxl hwp
    have hxl : xs.length = 4 := hxl
    match xs, hxl with
    | [x0, x1, x2, x3], _ =>
    have h0 := hff 0 f0 rfl
    have h1 := hff 1 f1 rfl
    have h2 := hff 2 f2 rfl
    have h3 := hff 3 f3 rfl
    have w0 := hwp (i := 0) (f := f0) (d := x0.1) rfl rfl
    have w1 := hwp (i := 1) (f := f1) (d := x1.1) rfl rfl
    have w2 := hwp (i := 2) (f := f2) (d := x2.1) rfl rfl
    have w3 := hwp (i := 3) (f := f3) (d := x3.1) rfl rfl
    have c0 : Tryz.prog.cellsOf 22 = 1 := by kernel_rfl
    have c1 : Tryz.prog.cellsOf 23 = 1 := by kernel_rfl
    have c2 : Tryz.prog.cellsOf 24 = 1 := by kernel_rfl
    have c3 : Tryz.prog.cellsOf 25 = 1 := by kernel_rfl
    rw [t0, o0, c0] at h0
    rw [t1, o1, c1] at h1
    rw [t2, o2, c2] at h2
    rw [t3, o3, c3] at h3
    rw [t0] at w0
    rw [t1] at w1
    rw [t2] at w2
    rw [t3] at w3
    have h0 : DataW.trod enc Tryz.prog w 0 (fun _ => true) true m 22 [a] = some x0 := h0
    have h1 : DataW.trod enc Tryz.prog w 0 (fun _ => true) true m 23 [b] = some x1 := h1
    have h2 : DataW.trod enc Tryz.prog w 0 (fun _ => true) true m 24 [c] = some x2 := h2
    have h3 : DataW.trod enc Tryz.prog w 0 (fun _ => true) true m 25 [e] = some x3 := h3
    obtain ⟨bs, q0, l0, g0⟩ := key_sl balL (fun _ => rfl) (fun V => (⟨V 0, V 1, V 2, V 3, V 4, V 5⟩ : Bal)) (fun V j z hz => by
      match j, hz with
      | 0, hz | 1, hz | 2, hz | 3, hz | 4, hz | 5, hz => simp [balL] at hz; exact ⟨by decide, hz.symm⟩) (by kernel_rfl : Tryz.prog.underlying 22 = some (.slice 57)) I_bal (by decide) (by decide +kernel) w0 h0 k0
    obtain ⟨cs, q2, l2, g2⟩ := key_sl chkL (fun _ => rfl) (fun V => (⟨V 0, V 1, V 2, V 3, V 4⟩ : Chk)) (fun V j z hz => by
      match j, hz with
      | 0, hz | 1, hz | 2, hz | 3, hz | 4, hz => simp [chkL] at hz; exact ⟨by decide, hz.symm⟩) (by kernel_rfl : Tryz.prog.underlying 23 = some (.slice 51)) I_chk (by decide) (by decide +kernel) w1 h1 k2
    obtain ⟨ns, q3, l3, g3⟩ := key_sl ntcL (fun _ => rfl) (fun V => (⟨V 0, V 1, V 2, V 3, V 4, V 5⟩ : Ntc)) (fun V j z hz => by
      match j, hz with
      | 0, hz | 1, hz | 2, hz | 3, hz | 4, hz | 5, hz => simp [ntcL] at hz; exact ⟨by decide, hz.symm⟩) (by kernel_rfl : Tryz.prog.underlying 24 = some (.slice 93)) I_ntc (by decide) (by decide +kernel) w2 h2 k3
    obtain ⟨ws, q1, l1, g1⟩ := key_sl wghL (fun _ => rfl) (fun V => (⟨V 0, V 1, V 2, ⟨V 3, V 4, V 5, V 6⟩, V 7⟩ : Wgh)) (fun V j z hz => by
      match j, hz with
      | 0, hz | 1, hz | 2, hz | 3, hz | 4, hz | 5, hz | 6, hz | 7, hz => simp [wghL] at hz; exact ⟨by decide, hz.symm⟩) (by kernel_rfl : Tryz.prog.underlying 25 = some (.slice 32)) I_wgh (by decide) (by decide +kernel) w3 h3 k1
    refine ⟨⟨bs, cs, ns, ws⟩, q0, q1, q2, q3, ⟨l0, l2, l3, l1⟩, fun ρ hρ => ?_⟩
    have e0 := hρ (k0, q0) (by simp)
    have e1 := hρ (k1, q1) (by simp)
    have e2 := hρ (k2, q2) (by simp)
    have e3 := hρ (k3, q3) (by simp)
    obtain ⟨u0, v0, r0⟩ := g0 ρ e0
    obtain ⟨u1, v1, r1⟩ := g1 ρ e1
    obtain ⟨u2, v2, r2⟩ := g2 ρ e2
    obtain ⟨u3, v3, r3⟩ := g3 ρ e3
    refine ⟨⟨#[a, b, c, e], rfl, u0, u2, u3, u1, trivial⟩, fun y hy => ?_⟩
    simp only [rdHK, List.mem_cons, List.not_mem_nil, or_false] at hy
    rcases hy with rfl | rfl | rfl | rfl
    · exact ⟨rfl, v0, room_pos e0 r0⟩
    · exact ⟨rfl, v1, room_pos e1 r1⟩
    · exact ⟨rfl, v2, room_pos e2 r2⟩
    · exact ⟨rfl, v3, room_pos e3 r3⟩

abbrev B_reads : List Nat := [27, 3, 57, 51, 32, 30, 53, 37, 5, 33, 43, 100, 108]

theorem B_read : ∀ t ∈ B_reads, Tryz.prog.readableRec t = true ∧ t < Tryz.prog.types.size := by
  have h : (B_reads.all fun t => Tryz.prog.readableRec t && decide (t < Tryz.prog.types.size)) = true := by kernel_rfl
  intro t ht
  have := List.all_eq_true.1 h t ht
  simpa using this

end Go.Proofs

namespace Go.Proofs
open Go.Sx

def cntR (r : Rd) : Nat := r.cs.length + r.ns.length + r.ws.length
end Go.Proofs

namespace Go
namespace Sx

end Sx
end Go

namespace Go
namespace Sx

end Sx
end Go

namespace Go.Proofs
open Go.Sx

def fewRd (r : Rd) : Bool := decide (r.bs.length ≤ 10) && decide (cntR r ≤ 24)

theorem few_rd_t (r : Rd) (hw : Wide r) : Triple Tryz.prog 15 [rdA r] (rdH r) 4 (bv (fewRd r)) [] := by
  obtain ⟨w1, w2, w3, w4⟩ := hw
  have e : fewRd r = (decide (r.bs.length ≤ 10) && decide (r.cs.length + r.ns.length + r.ws.length ≤ 24)) := rfl
  generalize fewRd r = R at *
  obtain ⟨bs, cs, ns, ws⟩ := r
  dsimp only at *
  refine triple_of tB_ok Tryz.func15 rfl Tryz.call15 rfl ?_
  intro ρ w hH
  conv=>whnf
  refine ⟨fun hc => ?_, fun hc => ?_⟩
  rotate_left
  · have h1 : ¬ bs.length ≤ 10 := by have := of_decide_eq_false (show decide ((bs.length : Int) ≤ 10) = false from hc); omega
    rw [decide_eq_false h1, Bool.false_and] at e
    subst e
    conv=>whnf
    repeat' (first | exact trivial | exact rfl | refine And.intro ?_ ?_ | ((conv=>whnf); first | exact trivial | exact rfl | refine And.intro ?_ ?_ | omega))
  have h1 : bs.length ≤ 10 := by have := of_decide_eq_true (show decide ((bs.length : Int) ≤ 10) = true from hc); omega
  rw [decide_eq_true h1, Bool.true_and] at e
  conv=>whnf
  refine ⟨((cs.length + ns.length : Nat) : Int), (show IntKind.i64.wrap ((cs.length : Int) + ns.length) = ((cs.length + ns.length : Nat) : Int) by rw [wrapId ⟨by omega, by omega⟩]; omega), ?_⟩
  conv=>whnf
  refine ⟨((cs.length + ns.length + ws.length : Nat) : Int), (show IntKind.i64.wrap (((cs.length + ns.length : Nat) : Int) + ws.length) = ((cs.length + ns.length + ws.length : Nat) : Int) by rw [wrapId ⟨by omega, by omega⟩]; omega), ?_⟩
  conv=>whnf
  generalize cs.length + ns.length + ws.length = n at *
  have h4 : decide ((n : Int) ≤ 24) = R := by rw [e]; exact decide_eq_decide.2 (by omega)
  rw [← h4]
  conv=>whnf
  repeat' (first | exact trivial | exact rfl | refine And.intro ?_ ?_ | ((conv=>whnf); first | exact trivial | exact rfl | refine And.intro ?_ ?_ | omega))

theorem few_sml {r : Rd} (h : fewRd r = true) : Sml r := by
  unfold fewRd cntR at h
  simp at h
  exact ⟨by omega, by omega, by omega, by omega⟩

theorem fewRd_bd {r : Rd} (h : fewRd r = true) : r.bs.length ≤ 10 ∧ r.cs.length + r.ns.length + r.ws.length ≤ 24 := by
  unfold fewRd cntR at h
  simp at h
  exact h

end Go.Proofs

namespace Go.Proofs
open Go.Sx

end Go.Proofs

namespace Go.Proofs
open Go.Sx

def MinI (l : List Int) (last : Int) (i : Nat) (best : Int) : Prop :=
  (best = 1099511627777 ∧ ∀ x ∈ l.take i, ¬ last < x) ∨ (best ∈ l ∧ last < best ∧ ∀ y ∈ l.take i, last < y → best ≤ y)

theorem minI_zero (l : List Int) (last : Int) : MinI l last 0 1099511627777 := .inl ⟨rfl, fun x hx => by simp at hx⟩

theorem minI_take {l : List Int} {last best : Int} {i : Nat} (h : i < l.length) (hm : MinI l last i best) (h1 : last < l[i]) (h2 : l[i] ≤ 1099511627776) : MinI l last (i + 1) (min best l[i]) := by
  have hmem : ∀ x, x ∈ l.take (i + 1) ↔ x ∈ l.take i ∨ x = l[i] := fun x => take_succ_mem h
  rcases hm with ⟨rfl, hn⟩ | ⟨hb, hl, hmin⟩
  · have e : min 1099511627777 l[i] = l[i] := by omega
    rw [e]
    refine .inr ⟨List.getElem_mem h, h1, fun y hy hly => ?_⟩
    rcases (hmem y).1 hy with hy | rfl
    · exact absurd hly (hn y hy)
    · exact Int.le_refl _
  · by_cases hlt : best ≤ l[i]
    · have e : min best l[i] = best := by omega
      rw [e]
      refine .inr ⟨hb, hl, fun y hy hly => ?_⟩
      rcases (hmem y).1 hy with hy | rfl
      · exact hmin y hy hly
      · exact hlt
    · have e : min best l[i] = l[i] := by omega
      rw [e]
      refine .inr ⟨List.getElem_mem h, h1, fun y hy hly => ?_⟩
      rcases (hmem y).1 hy with hy | rfl
      · have := hmin y hy hly; omega
      · exact Int.le_refl _

theorem minI_keep {l : List Int} {last best : Int} {i : Nat} (h : i < l.length) (hm : MinI l last i best) (h1 : ¬ last < l[i]) : MinI l last (i + 1) best := by
  have hmem : ∀ x, x ∈ l.take (i + 1) ↔ x ∈ l.take i ∨ x = l[i] := fun x => take_succ_mem h
  rcases hm with ⟨rfl, hn⟩ | ⟨hb, hl, hmin⟩
  · refine .inl ⟨rfl, fun y hy => ?_⟩
    rcases (hmem y).1 hy with hy | rfl
    · exact hn y hy
    · exact h1
  · refine .inr ⟨hb, hl, fun y hy hly => ?_⟩
    rcases (hmem y).1 hy with hy | rfl
    · exact hmin y hy hly
    · exact absurd hly h1

def idK (x : Int) : Int := x

theorem minI_all {l : List Int} (hd : l.Nodup) (hp : ∀ x ∈ l, 0 < x) {k : Nat} (hk : k < l.length) {best : Int} (hm : MinI l (lastK idK l k) l.length best) : (sortK idK l)[k]? = some best := by
  have hd' : (l.map idK).Nodup := by rw [show l.map idK = l from List.map_id l]; exact hd
  rcases hm with ⟨_, hn⟩ | ⟨hb, hl, hmin⟩
  · obtain ⟨x, hx, hlx⟩ := pick_some (key := idK) hd' hp hk
    exact absurd hlx (hn x (by rw [List.take_length]; exact hx))
  · exact pick_next (key := idK) hd' hp hk hb hl fun y hy hly => hmin y (by rw [List.take_length]; exact hy) hly

theorem sort_dist {l : List Int} (hd : l.Nodup) : sortK idK l = distS (fun a b : Int => decide (a < b)) l := by
  have hd' : (l.map idK).Nodup := by rw [show l.map idK = l from List.map_id l]; exact hd
  have h1 := sortK_inc (key := idK) hd'
  refine inc_extG (lt := fun a b : Int => decide (a < b)) (fun x => by simp) (fun x y z h1 h2 => by simp at *; omega) (List.Pairwise.imp (fun {a b} h => (show decide (idK a < idK b) = true from h)) h1) (distS_inc intLt_ok l) (fun x => ?_)
  rw [distS_mem intLt_ok]
  exact (sortK_perm idK l).mem_iff

set_option maxHeartbeats 1000000 in
theorem rIDs_t (r : Rd) (h : RdOK r) : Triple Tryz.prog 109 [rdA r] (rdH r) 4 (.c (.s 4 0 (idsR r).length 1)) [(4, true, .arr (aInt (idsR r)))] := by
  have hs := h.sml
  have e : idsR r = sortK idK ((r.cs.map Chk.id ++ r.ns.map Ntc.id) ++ r.ws.map Wgh.id) := by
    unfold idsR allIds
    rw [← List.append_assoc]
    exact (sort_dist (by rw [List.append_assoc]; exact h.ids)).symm
  have hd : ((r.cs.map Chk.id ++ r.ns.map Ntc.id) ++ r.ws.map Wgh.id).Nodup := by rw [List.append_assoc]; exact h.ids
  have hp : ∀ x ∈ (r.cs.map Chk.id ++ r.ns.map Ntc.id) ++ r.ws.map Wgh.id, 0 < x ∧ x ≤ 1099511627776 := fun x hx => by
    rcases List.mem_append.1 hx with hx | hx
    · rcases List.mem_append.1 hx with hx | hx
      · obtain ⟨c, hc, rfl⟩ := List.mem_map.1 hx
        have := (h.c hc).2.1; omega
      · obtain ⟨c, hc, rfl⟩ := List.mem_map.1 hx
        have := (h.n hc).2.1; omega
    · obtain ⟨c, hc, rfl⟩ := List.mem_map.1 hx
      have := (h.w hc).2.1; omega
  rw [e]
  clear e
  obtain ⟨h1, h2, h3, h4⟩ := hs
  clear h
  obtain ⟨bs, cs, ns, ws⟩ := r
  dsimp only at *
  refine triple_of tB_ok Tryz.func109 rfl Tryz.call109 rfl ?_
  intro ρ w hH
  conv=>whnf
  refine loop_step tB_ok (G := Nat) 1 [] (fun i => [(4, iv .i64 i), (3, .c (.s 5 0 ((cs.take i).map Chk.id).length 1))]) (fun i => [(5, true, .arr (aInt ((cs.take i).map Chk.id)))]) (fun i => i ≤ cs.length) (fun i => cs.length - i) ?_
  conv=>whnf
  refine ⟨⟨0, Nat.zero_le _, ?_⟩, ?_⟩
  · conv=>whnf
    repeat' (first | exact trivial | exact rfl | refine And.intro ?_ ?_ | ((conv=>whnf); first | exact trivial | exact rfl | refine And.intro ?_ ?_ | omega))
  rintro i hi ρ1 t1 hρ1
  conv=>whnf
  refine ⟨fun hc => ?_, fun hc => ?_⟩
  · have hlt : i < cs.length := by simpa using hc
    have hL : ( (cs.take i).map Chk.id).length ≤ 100000 := by simp only [List.length_append, List.length_map, List.length_take]; omega
    have hnx :  (cs.take (i + 1)).map Chk.id = ( (cs.take i).map Chk.id) ++ [Chk.id cs[i]] := by rw [take_snoc hlt, List.map_append]; simp
    generalize  (cs.take i).map Chk.id = M at *
    conv=>whnf
    refine ⟨i, rfl, hlt, hlt, ?_⟩
    conv=>whnf
    refine bs_step tB_ok (aInt [Chk.id cs[i]]) rfl rfl ?_
    conv=>whnf
    refine ⟨⟨rfl, (by repeat' (first | exact trivial | exact rfl | refine And.intro ?_ ?_ | ((conv=>whnf); first | exact trivial | exact rfl | refine And.intro ?_ ?_ | omega)))⟩, ?_⟩
    conv=>whnf
    refine app_step tB_ok (aInt M) [Chk.id cs[i]] (fun _ => rfl) rfl rfl rfl rfl ?_
    conv=>whnf
    refine ⟨⟨rfl, rfl, Nat.le_refl _, Nat.le_refl _, by show (M.length + 1) * 9 ≤ _; omega⟩, ?_⟩
    conv=>whnf
    refine ⟨_, wrapId ⟨by omega, by omega⟩, ?_⟩
    refine ⟨i + 1, hlt, by show cs.length - (i + 1) < cs.length - i; omega, ?_⟩
    dsimp only
    rw [hnx]
    conv=>whnf
    refine ⟨rfl, ?_⟩
    conv=>whnf
    repeat' (first | exact trivial | exact rfl | refine And.intro ?_ ?_ | ((conv=>whnf); first | exact trivial | exact rfl | refine And.intro ?_ ?_ | omega))
    all_goals first | exact (congrArg aInt app1.symm : _) | exact (congrArg aInt app1 : _) | simp
  have hie : i = cs.length := by simp at hc; omega
  subst hie
  rw [List.take_length]
  have hL : (cs.map Chk.id).length ≤ 100000 := by rw [List.length_map]; omega
  generalize cs.map Chk.id = L1 at *
  conv=>whnf
  refine loop_step tB_ok (G := Nat) 1 [5] (fun i => [(5, iv .i64 i), (3, .c (.s 6 0 (L1 ++ (ns.take i).map Ntc.id).length 1))]) (fun i => [(6, true, .arr (aInt (L1 ++ (ns.take i).map Ntc.id)))]) (fun i => i ≤ ns.length) (fun i => ns.length - i) ?_
  conv=>whnf
  refine ⟨⟨0, Nat.zero_le _, ?_⟩, ?_⟩
  · conv=>whnf
    repeat' (first | exact trivial | exact rfl | refine And.intro ?_ ?_ | ((conv=>whnf); first | exact trivial | exact rfl | refine And.intro ?_ ?_ | omega))
    all_goals first | (show aInt L1 = aInt (L1 ++ []); rw [List.append_nil]) | simp
  rintro i hi ρ1 t1 hρ1
  conv=>whnf
  refine ⟨fun hc => ?_, fun hc => ?_⟩
  · have hlt : i < ns.length := by simpa using hc
    have hL : (L1 ++ (ns.take i).map Ntc.id).length ≤ 200000 := by simp only [List.length_append, List.length_map, List.length_take]; omega
    have hnx : L1 ++ (ns.take (i + 1)).map Ntc.id = (L1 ++ (ns.take i).map Ntc.id) ++ [Ntc.id ns[i]] := by rw [take_snoc hlt, List.map_append]; simp
    generalize L1 ++ (ns.take i).map Ntc.id = M at *
    conv=>whnf
    refine ⟨i, rfl, hlt, hlt, ?_⟩
    conv=>whnf
    refine bs_step tB_ok (aInt [Ntc.id ns[i]]) rfl rfl ?_
    conv=>whnf
    refine ⟨⟨rfl, (by repeat' (first | exact trivial | exact rfl | refine And.intro ?_ ?_ | ((conv=>whnf); first | exact trivial | exact rfl | refine And.intro ?_ ?_ | omega)))⟩, ?_⟩
    conv=>whnf
    refine app_step tB_ok (aInt M) [Ntc.id ns[i]] (fun _ => rfl) rfl rfl rfl rfl ?_
    conv=>whnf
    refine ⟨⟨rfl, rfl, Nat.le_refl _, Nat.le_refl _, by show (M.length + 1) * 9 ≤ _; omega⟩, ?_⟩
    conv=>whnf
    refine ⟨_, wrapId ⟨by omega, by omega⟩, ?_⟩
    refine ⟨i + 1, hlt, by show ns.length - (i + 1) < ns.length - i; omega, ?_⟩
    dsimp only
    rw [hnx]
    conv=>whnf
    refine ⟨rfl, ?_⟩
    conv=>whnf
    repeat' (first | exact trivial | exact rfl | refine And.intro ?_ ?_ | ((conv=>whnf); first | exact trivial | exact rfl | refine And.intro ?_ ?_ | omega))
    all_goals first | exact (congrArg aInt app1.symm : _) | exact (congrArg aInt app1 : _) | simp
  have hie : i = ns.length := by simp at hc; omega
  subst hie
  rw [List.take_length]
  have hL2 : (L1 ++ ns.map Ntc.id).length ≤ 200000 := by rw [List.length_append, List.length_map]; omega
  generalize L1 ++ ns.map Ntc.id = L2 at *
  conv=>whnf
  refine loop_step tB_ok (G := Nat) 1 [6] (fun i => [(6, iv .i64 i), (3, .c (.s 7 0 (L2 ++ (ws.take i).map Wgh.id).length 1))]) (fun i => [(7, true, .arr (aInt (L2 ++ (ws.take i).map Wgh.id)))]) (fun i => i ≤ ws.length) (fun i => ws.length - i) ?_
  conv=>whnf
  refine ⟨⟨0, Nat.zero_le _, ?_⟩, ?_⟩
  · conv=>whnf
    repeat' (first | exact trivial | exact rfl | refine And.intro ?_ ?_ | ((conv=>whnf); first | exact trivial | exact rfl | refine And.intro ?_ ?_ | omega))
    all_goals first | (show aInt L2 = aInt (L2 ++ []); rw [List.append_nil]) | simp
  rintro i hi ρ1 t1 hρ1
  conv=>whnf
  refine ⟨fun hc => ?_, fun hc => ?_⟩
  · have hlt : i < ws.length := by simpa using hc
    have hL : (L2 ++ (ws.take i).map Wgh.id).length ≤ 300000 := by simp only [List.length_append, List.length_map, List.length_take]; omega
    have hnx : L2 ++ (ws.take (i + 1)).map Wgh.id = (L2 ++ (ws.take i).map Wgh.id) ++ [Wgh.id ws[i]] := by rw [take_snoc hlt, List.map_append]; simp
    generalize L2 ++ (ws.take i).map Wgh.id = M at *
    conv=>whnf
    refine ⟨i, rfl, hlt, hlt, ?_⟩
    conv=>whnf
    refine bs_step tB_ok (aInt [Wgh.id ws[i]]) rfl rfl ?_
    conv=>whnf
    refine ⟨⟨rfl, (by repeat' (first | exact trivial | exact rfl | refine And.intro ?_ ?_ | ((conv=>whnf); first | exact trivial | exact rfl | refine And.intro ?_ ?_ | omega)))⟩, ?_⟩
    conv=>whnf
    refine app_step tB_ok (aInt M) [Wgh.id ws[i]] (fun _ => rfl) rfl rfl rfl rfl ?_
    conv=>whnf
    refine ⟨⟨rfl, rfl, Nat.le_refl _, Nat.le_refl _, by show (M.length + 1) * 9 ≤ _; omega⟩, ?_⟩
    conv=>whnf
    refine ⟨_, wrapId ⟨by omega, by omega⟩, ?_⟩
    refine ⟨i + 1, hlt, by show ws.length - (i + 1) < ws.length - i; omega, ?_⟩
    dsimp only
    rw [hnx]
    conv=>whnf
    refine ⟨rfl, ?_⟩
    conv=>whnf
    repeat' (first | exact trivial | exact rfl | refine And.intro ?_ ?_ | ((conv=>whnf); first | exact trivial | exact rfl | refine And.intro ?_ ?_ | omega))
    all_goals first | exact (congrArg aInt app1.symm : _) | exact (congrArg aInt app1 : _) | simp
  have hie : i = ws.length := by simp at hc; omega
  subst hie
  rw [List.take_length]
  have hL3 : (L2 ++ ws.map Wgh.id).length ≤ 300000 := by rw [List.length_append, List.length_map]; omega
  generalize L2 ++ ws.map Wgh.id = L3 at *
  have hsl := sortK_len idK L3
  conv=>whnf
  refine loop_step tB_ok (G := Nat) 1 [] (fun k => [(9, iv .i64 k), (8, iv .i64 (lastK idK L3 k)), (7, .c (.s 8 0 ((sortK idK L3).take k).length 1))]) (fun k => [(8, true, .arr (aInt ((sortK idK L3).take k)))])
    (fun k => k ≤ L3.length) (fun k => L3.length - k) ?_
  conv=>whnf
  refine ⟨⟨0, Nat.zero_le _, ?_⟩, ?_⟩
  · conv=>whnf
    repeat' (first | exact trivial | exact rfl | refine And.intro ?_ ?_ | ((conv=>whnf); first | exact trivial | exact rfl | refine And.intro ?_ ?_ | omega))
  rintro k hk ρ1 t1 hρ1
  conv=>whnf
  refine ⟨fun hc => ?_, fun hc => ?_⟩
  · have hkl : k < L3.length := by simpa using hc
    have hfa : ∀ best, MinI L3 (lastK idK L3 k) L3.length best → (sortK idK L3)[k]? = some best := fun best hf => minI_all hd (fun x hx => (hp x hx).1) hkl hf
    have hT := fun x => sortK_take (key := idK) (l := L3) (k := k) (x := x)
    have hLs := fun x => lastK_succ (key := idK) (l := L3) (k := k) (x := x)
    have hkO : ((sortK idK L3).take k).length ≤ 1000000 := by rw [List.length_take]; omega
    generalize (sortK idK L3).take k = O at *
    generalize lastK idK L3 k = last at *
    conv=>whnf
    refine loop_step tB_ok (G := Nat × Int) 0 [] (fun g => [(11, iv .i64 g.1), (10, iv .i64 g.2)]) (fun _ => []) (fun g => g.1 ≤ L3.length ∧ MinI L3 last g.1 g.2) (fun g => L3.length - g.1) ?_
    conv=>whnf
    refine ⟨⟨(0, 1099511627777), ⟨Nat.zero_le _, minI_zero _ _⟩, ?_⟩, ?_⟩
    · conv=>whnf
      repeat' (first | exact trivial | exact rfl | refine And.intro ?_ ?_ | ((conv=>whnf); first | exact trivial | exact rfl | refine And.intro ?_ ?_ | omega))
    rintro ⟨i, best⟩ ⟨hi, hf⟩ ρ2 t2 hρ2
    dsimp only at hi hf ⊢
    conv=>whnf
    refine ⟨fun hc2 => ?_, fun hc2 => ?_⟩
    · have hlt : i < L3.length := by simpa using hc2
      conv=>whnf
      refine ⟨i, rfl, hlt, hlt, ?_⟩
      conv=>whnf
      refine ⟨fun hc3 => ?_, fun hc3 => ?_⟩
      · have h1 : last < L3[i] := of_decide_eq_true (show decide (last < L3[i]) = true from hc3)
        conv=>whnf
        refine ⟨i, rfl, hlt, hlt, ?_⟩
        conv=>whnf
        refine ⟨_, wrapId ⟨by omega, by omega⟩, ?_⟩
        refine ⟨(i + 1, min best L3[i]), ⟨hlt, minI_take hlt hf h1 (hp _ (List.getElem_mem hlt)).2⟩, by show L3.length - (i + 1) < L3.length - i; omega, ?_⟩
        try dsimp only
        conv=>whnf
        refine ⟨rfl, ?_⟩
        conv=>whnf
        repeat' (first | exact trivial | exact rfl | refine And.intro ?_ ?_ | ((conv=>whnf); first | exact trivial | exact rfl | refine And.intro ?_ ?_ | omega))
      · have h1 : ¬ last < L3[i] := of_decide_eq_false (show decide (last < L3[i]) = false from hc3)
        conv=>whnf
        refine ⟨_, wrapId ⟨by omega, by omega⟩, ?_⟩
        refine ⟨(i + 1, best), ⟨hlt, minI_keep hlt hf h1⟩, by show L3.length - (i + 1) < L3.length - i; omega, ?_⟩
        try dsimp only
        conv=>whnf
        refine ⟨rfl, ?_⟩
        conv=>whnf
        repeat' (first | exact trivial | exact rfl | refine And.intro ?_ ?_ | ((conv=>whnf); first | exact trivial | exact rfl | refine And.intro ?_ ?_ | omega))
    · have hie : i = L3.length := by simp at hc2; omega
      subst hie
      have hsx := hfa best hf
      have hT := hT _ hsx
      have hLs := hLs _ hsx
      rw [show idK best = best from rfl] at hLs
      conv=>whnf
      refine bs_step tB_ok (aInt [best]) rfl rfl ?_
      conv=>whnf
      refine ⟨⟨rfl, (by repeat' (first | exact trivial | exact rfl | refine And.intro ?_ ?_ | ((conv=>whnf); first | exact trivial | exact rfl | refine And.intro ?_ ?_ | omega)))⟩, ?_⟩
      conv=>whnf
      refine app_step tB_ok (aInt O) [best] (fun _ => rfl) rfl rfl rfl rfl ?_
      conv=>whnf
      refine ⟨⟨rfl, rfl, Nat.le_refl _, Nat.le_refl _, by show (O.length + 1) * 9 ≤ _; omega⟩, ?_⟩
      conv=>whnf
      refine ⟨_, wrapId ⟨by omega, by omega⟩, ?_⟩
      refine ⟨k + 1, hkl, by show L3.length - (k + 1) < L3.length - k; omega, ?_⟩
      try dsimp only
      rw [hT, hLs]
      conv=>whnf
      refine ⟨rfl, ?_⟩
      conv=>whnf
      repeat' (first | exact trivial | exact rfl | refine And.intro ?_ ?_ | ((conv=>whnf); first | exact trivial | exact rfl | refine And.intro ?_ ?_ | omega))
      all_goals first | exact (congrArg aInt app1.symm : _) | exact (congrArg aInt app1 : _) | simp
  · have hke : k = L3.length := by simp at hc; omega
    subst hke
    rw [List.take_of_length_le (by omega)]
    conv=>whnf
    repeat' (first | exact trivial | exact rfl | refine And.intro ?_ ?_ | ((conv=>whnf); first | exact trivial | exact rfl | refine And.intro ?_ ?_ | omega))

set_option maxHeartbeats 1000000 in
theorem rLess_t (r : Rd) (ids : List Int) (hs : Sml r) (hil : ids.length ≤ 1000000) :
    Triple Tryz.prog 110 [rdA r, .c (.s 4 0 ids.length 1)] (rdH r ++ [(4, false, .arr (aInt ids))]) 5
      (.agg [.s 0 0 (lessR r ids).bs.length 6, .s 5 0 (lessR r ids).cs.length 5, .s 6 0 (lessR r ids).ns.length 6, .s 7 0 (lessR r ids).ws.length 8])
      [(5, true, .arr (aChk (lessR r ids).cs)), (6, true, .arr (aNtc (lessR r ids).ns)), (7, true, .arr (aWgh (lessR r ids).ws))] := by
  have e : lessR r ids = ⟨r.bs, r.cs.filter (fun c => !ids.contains c.id), r.ns.filter (fun n => !ids.contains n.id), r.ws.filter (fun w => !ids.contains w.id)⟩ := rfl
  rw [e]
  clear e
  obtain ⟨h1, h2, h3, h4⟩ := hs
  obtain ⟨bs, cs, ns, ws⟩ := r
  dsimp only at *
  refine triple_of tB_ok Tryz.func110 rfl Tryz.call110 rfl ?_
  intro ρ w hH
  conv=>whnf
  refine loop_step tB_ok (G := Nat) 3 [] (fun i => [(6, iv .i64 i)]) (fun i => [(7, true, .cells [.s 0 0 bs.length 6, .s 8 0 ((cs.take i).filter (fun c : Chk => !ids.contains c.id)).length 5, .s 9 0 0 6, .s 10 0 0 8]), (8, true, .arr (aChk ((cs.take i).filter (fun c : Chk => !ids.contains c.id)))), (9, true, .arr (aNtc [])), (10, true, .arr (aWgh []))]) (fun i => i ≤ cs.length) (fun i => cs.length - i) ?_
  conv=>whnf
  refine ⟨⟨0, Nat.zero_le _, ?_⟩, ?_⟩
  · conv=>whnf
    repeat' (first | exact trivial | exact rfl | refine And.intro ?_ ?_ | ((conv=>whnf); first | exact trivial | exact rfl | refine And.intro ?_ ?_ | omega))
  rintro i hi ρ1 t1 hρ1
  conv=>whnf
  refine ⟨fun hc => ?_, fun hc => ?_⟩
  · have hlt : i < cs.length := by simpa using hc
    have hM : ((cs.take i).filter (fun c : Chk => !ids.contains c.id)).length ≤ 100000 := by
      have := List.length_filter_le (fun c : Chk => !ids.contains c.id) (cs.take i)
      rw [List.length_take] at this; omega
    have hnx := filter_take_succ (p := (fun c : Chk => !ids.contains c.id)) hlt
    generalize (cs.take i).filter (fun c : Chk => !ids.contains c.id) = M at *
    conv=>whnf
    refine ⟨i, rfl, hlt, hlt, ?_⟩
    conv=>whnf
    refine call_step (rHas_t ids cs[i].id hil) rfl rfl ?_
    conv=>whnf
    refine ⟨?_, ?_, ?_⟩
    iterate 2 · repeat' (first | exact trivial | exact rfl | refine And.intro ?_ ?_ | ((conv=>whnf); first | exact trivial | exact rfl | refine And.intro ?_ ?_ | omega))
    conv=>whnf
    cases hb : ids.contains cs[i].id with
    | true =>
      rw [hb] at hnx
      have hnx : (cs.take (i + 1)).filter (fun c : Chk => !ids.contains c.id) = M := by rw [hnx]; simp
      refine ⟨fun hc => absurd hc (by simp), fun hc => ?_⟩
      conv=>whnf
      refine ⟨_, wrapId ⟨by omega, by omega⟩, ?_⟩
      refine ⟨i + 1, hlt, by show cs.length - (i + 1) < cs.length - i; omega, ?_⟩
      try dsimp only
      rw [hnx]
      conv=>whnf
      refine ⟨rfl, ?_⟩
      conv=>whnf
      repeat' (first | exact trivial | exact rfl | refine And.intro ?_ ?_ | ((conv=>whnf); first | exact trivial | exact rfl | refine And.intro ?_ ?_ | omega))
    | false =>
      rw [hb] at hnx
      have hnx : (cs.take (i + 1)).filter (fun c : Chk => !ids.contains c.id) = M ++ [cs[i]] := by rw [hnx]; simp
      refine ⟨fun hc => ?_, fun hc => absurd hc (by simp)⟩
      conv=>whnf
      refine ⟨i, rfl, hlt, hlt, ?_⟩
      conv=>whnf
      refine bs_step tB_ok (aChk [cs[i]]) rfl rfl ?_
      conv=>whnf
      refine ⟨⟨rfl, (by repeat' (first | exact trivial | exact rfl | refine And.intro ?_ ?_ | ((conv=>whnf); first | exact trivial | exact rfl | refine And.intro ?_ ?_ | omega)))⟩, ?_⟩
      conv=>whnf
      refine app_step tB_ok (aChk M) [cs[i]] (fun _ => rfl) rfl rfl rfl rfl ?_
      conv=>whnf
      refine ⟨⟨rfl, rfl, Nat.le_refl _, Nat.le_refl _, by show (M.length + 1) * 41 ≤ _; omega⟩, ?_⟩
      conv=>whnf
      refine ⟨_, wrapId ⟨by omega, by omega⟩, ?_⟩
      refine ⟨i + 1, hlt, by show cs.length - (i + 1) < cs.length - i; omega, ?_⟩
      try dsimp only
      rw [hnx]
      conv=>whnf
      refine ⟨rfl, ?_⟩
      conv=>whnf
      repeat' (first | exact trivial | exact rfl | refine And.intro ?_ ?_ | ((conv=>whnf); first | exact trivial | exact rfl | refine And.intro ?_ ?_ | omega))
      all_goals first | exact (congrArg aChk app1.symm : _) | exact (congrArg aChk app1 : _) | simp
  have hie : i = cs.length := by simp at hc; omega
  subst hie
  rw [List.take_length]
  generalize cs.filter (fun c : Chk => !ids.contains c.id) = cs' at *
  conv=>whnf
  refine loop_step tB_ok (G := Nat) 1 [9] (fun i => [(7, iv .i64 i)]) (fun i => [(7, true, .cells [.s 0 0 bs.length 6, .s 8 0 cs'.length 5, .s 11 0 ((ns.take i).filter (fun c : Ntc => !ids.contains c.id)).length 6, .s 10 0 0 8]), (11, true, .arr (aNtc ((ns.take i).filter (fun c : Ntc => !ids.contains c.id))))]) (fun i => i ≤ ns.length) (fun i => ns.length - i) ?_
  conv=>whnf
  refine ⟨⟨0, Nat.zero_le _, ?_⟩, ?_⟩
  · conv=>whnf
    repeat' (first | exact trivial | exact rfl | refine And.intro ?_ ?_ | ((conv=>whnf); first | exact trivial | exact rfl | refine And.intro ?_ ?_ | omega))
  rintro i hi ρ1 t1 hρ1
  conv=>whnf
  refine ⟨fun hc => ?_, fun hc => ?_⟩
  · have hlt : i < ns.length := by simpa using hc
    have hM : ((ns.take i).filter (fun c : Ntc => !ids.contains c.id)).length ≤ 100000 := by
      have := List.length_filter_le (fun c : Ntc => !ids.contains c.id) (ns.take i)
      rw [List.length_take] at this; omega
    have hnx := filter_take_succ (p := (fun c : Ntc => !ids.contains c.id)) hlt
    generalize (ns.take i).filter (fun c : Ntc => !ids.contains c.id) = M at *
    conv=>whnf
    refine ⟨i, rfl, hlt, hlt, ?_⟩
    conv=>whnf
    refine call_step (rHas_t ids ns[i].id hil) rfl rfl ?_
    conv=>whnf
    refine ⟨?_, ?_, ?_⟩
    iterate 2 · repeat' (first | exact trivial | exact rfl | refine And.intro ?_ ?_ | ((conv=>whnf); first | exact trivial | exact rfl | refine And.intro ?_ ?_ | omega))
    conv=>whnf
    cases hb : ids.contains ns[i].id with
    | true =>
      rw [hb] at hnx
      have hnx : (ns.take (i + 1)).filter (fun c : Ntc => !ids.contains c.id) = M := by rw [hnx]; simp
      refine ⟨fun hc => absurd hc (by simp), fun hc => ?_⟩
      conv=>whnf
      refine ⟨_, wrapId ⟨by omega, by omega⟩, ?_⟩
      refine ⟨i + 1, hlt, by show ns.length - (i + 1) < ns.length - i; omega, ?_⟩
      try dsimp only
      rw [hnx]
      conv=>whnf
      refine ⟨rfl, ?_⟩
      conv=>whnf
      repeat' (first | exact trivial | exact rfl | refine And.intro ?_ ?_ | ((conv=>whnf); first | exact trivial | exact rfl | refine And.intro ?_ ?_ | omega))
    | false =>
      rw [hb] at hnx
      have hnx : (ns.take (i + 1)).filter (fun c : Ntc => !ids.contains c.id) = M ++ [ns[i]] := by rw [hnx]; simp
      refine ⟨fun hc => ?_, fun hc => absurd hc (by simp)⟩
      conv=>whnf
      refine ⟨i, rfl, hlt, hlt, ?_⟩
      conv=>whnf
      refine bs_step tB_ok (aNtc [ns[i]]) rfl rfl ?_
      conv=>whnf
      refine ⟨⟨rfl, (by repeat' (first | exact trivial | exact rfl | refine And.intro ?_ ?_ | ((conv=>whnf); first | exact trivial | exact rfl | refine And.intro ?_ ?_ | omega)))⟩, ?_⟩
      conv=>whnf
      refine app_step tB_ok (aNtc M) [ns[i]] (fun _ => rfl) rfl rfl rfl rfl ?_
      conv=>whnf
      refine ⟨⟨rfl, rfl, Nat.le_refl _, Nat.le_refl _, by show (M.length + 1) * 49 ≤ _; omega⟩, ?_⟩
      conv=>whnf
      refine ⟨_, wrapId ⟨by omega, by omega⟩, ?_⟩
      refine ⟨i + 1, hlt, by show ns.length - (i + 1) < ns.length - i; omega, ?_⟩
      try dsimp only
      rw [hnx]
      conv=>whnf
      refine ⟨rfl, ?_⟩
      conv=>whnf
      repeat' (first | exact trivial | exact rfl | refine And.intro ?_ ?_ | ((conv=>whnf); first | exact trivial | exact rfl | refine And.intro ?_ ?_ | omega))
      all_goals first | exact (congrArg aNtc app1.symm : _) | exact (congrArg aNtc app1 : _) | simp
  have hie : i = ns.length := by simp at hc; omega
  subst hie
  rw [List.take_length]
  generalize ns.filter (fun c : Ntc => !ids.contains c.id) = ns' at *
  conv=>whnf
  refine loop_step tB_ok (G := Nat) 1 [10] (fun i => [(8, iv .i64 i)]) (fun i => [(7, true, .cells [.s 0 0 bs.length 6, .s 8 0 cs'.length 5, .s 11 0 ns'.length 6, .s 12 0 ((ws.take i).filter (fun c : Wgh => !ids.contains c.id)).length 8]), (12, true, .arr (aWgh ((ws.take i).filter (fun c : Wgh => !ids.contains c.id))))]) (fun i => i ≤ ws.length) (fun i => ws.length - i) ?_
  conv=>whnf
  refine ⟨⟨0, Nat.zero_le _, ?_⟩, ?_⟩
  · conv=>whnf
    repeat' (first | exact trivial | exact rfl | refine And.intro ?_ ?_ | ((conv=>whnf); first | exact trivial | exact rfl | refine And.intro ?_ ?_ | omega))
  rintro i hi ρ1 t1 hρ1
  conv=>whnf
  refine ⟨fun hc => ?_, fun hc => ?_⟩
  · have hlt : i < ws.length := by simpa using hc
    have hM : ((ws.take i).filter (fun c : Wgh => !ids.contains c.id)).length ≤ 100000 := by
      have := List.length_filter_le (fun c : Wgh => !ids.contains c.id) (ws.take i)
      rw [List.length_take] at this; omega
    have hnx := filter_take_succ (p := (fun c : Wgh => !ids.contains c.id)) hlt
    generalize (ws.take i).filter (fun c : Wgh => !ids.contains c.id) = M at *
    conv=>whnf
    refine ⟨i, rfl, hlt, hlt, ?_⟩
    conv=>whnf
    refine call_step (rHas_t ids ws[i].id hil) rfl rfl ?_
    conv=>whnf
    refine ⟨?_, ?_, ?_⟩
    iterate 2 · repeat' (first | exact trivial | exact rfl | refine And.intro ?_ ?_ | ((conv=>whnf); first | exact trivial | exact rfl | refine And.intro ?_ ?_ | omega))
    conv=>whnf
    cases hb : ids.contains ws[i].id with
    | true =>
      rw [hb] at hnx
      have hnx : (ws.take (i + 1)).filter (fun c : Wgh => !ids.contains c.id) = M := by rw [hnx]; simp
      refine ⟨fun hc => absurd hc (by simp), fun hc => ?_⟩
      conv=>whnf
      refine ⟨_, wrapId ⟨by omega, by omega⟩, ?_⟩
      refine ⟨i + 1, hlt, by show ws.length - (i + 1) < ws.length - i; omega, ?_⟩
      try dsimp only
      rw [hnx]
      conv=>whnf
      refine ⟨rfl, ?_⟩
      conv=>whnf
      repeat' (first | exact trivial | exact rfl | refine And.intro ?_ ?_ | ((conv=>whnf); first | exact trivial | exact rfl | refine And.intro ?_ ?_ | omega))
    | false =>
      rw [hb] at hnx
      have hnx : (ws.take (i + 1)).filter (fun c : Wgh => !ids.contains c.id) = M ++ [ws[i]] := by rw [hnx]; simp
      refine ⟨fun hc => ?_, fun hc => absurd hc (by simp)⟩
      conv=>whnf
      refine ⟨i, rfl, hlt, hlt, ?_⟩
      conv=>whnf
      refine bs_step tB_ok (aWgh [ws[i]]) rfl rfl ?_
      conv=>whnf
      refine ⟨⟨rfl, (by repeat' (first | exact trivial | exact rfl | refine And.intro ?_ ?_ | ((conv=>whnf); first | exact trivial | exact rfl | refine And.intro ?_ ?_ | omega)))⟩, ?_⟩
      conv=>whnf
      refine app_step tB_ok (aWgh M) [ws[i]] (fun _ => rfl) rfl rfl rfl rfl ?_
      conv=>whnf
      refine ⟨⟨rfl, rfl, Nat.le_refl _, Nat.le_refl _, by show (M.length + 1) * 65 ≤ _; omega⟩, ?_⟩
      conv=>whnf
      refine ⟨_, wrapId ⟨by omega, by omega⟩, ?_⟩
      refine ⟨i + 1, hlt, by show ws.length - (i + 1) < ws.length - i; omega, ?_⟩
      try dsimp only
      rw [hnx]
      conv=>whnf
      refine ⟨rfl, ?_⟩
      conv=>whnf
      repeat' (first | exact trivial | exact rfl | refine And.intro ?_ ?_ | ((conv=>whnf); first | exact trivial | exact rfl | refine And.intro ?_ ?_ | omega))
      all_goals first | exact (congrArg aWgh app1.symm : _) | exact (congrArg aWgh app1 : _) | simp
  have hie : i = ws.length := by simp at hc; omega
  subst hie
  rw [List.take_length]
  generalize ws.filter (fun c : Wgh => !ids.contains c.id) = ws' at *
  conv=>whnf
  repeat' (first | exact trivial | exact rfl | refine And.intro ?_ ?_ | ((conv=>whnf); first | exact trivial | exact rfl | refine And.intro ?_ ?_ | omega))

end Go.Proofs

namespace Go.Proofs
open Go.Sx

theorem less_few {r : Rd} (ids : List Int) (hf : r.cs.length + r.ns.length + r.ws.length ≤ 24) : (lessR r ids).cs.length + (lessR r ids).ns.length + (lessR r ids).ws.length ≤ 24 := by
  have h1 := List.length_filter_le (fun c : Chk => !ids.contains c.id) r.cs
  have h2 := List.length_filter_le (fun n : Ntc => !ids.contains n.id) r.ns
  have h3 := List.length_filter_le (fun w : Wgh => !ids.contains w.id) r.ws
  simp only [lessR]
  omega

set_option maxHeartbeats 1000000 in
theorem rSuspects_t (r : Rd) (hs : Sml r) (hf : r.cs.length + r.ns.length + r.ws.length ≤ 24) : Triple Tryz.prog 22 [rdA r] (rdH r) 4 (listT 4 (suspectsF r)) [(4, true, .arr (aInt (suspectsF r).1))] := by
  have hC := rCheck_t r hs
  have e : suspectsF r = if checkR r = 0 then (if Calm (boxR r []) (lnkR r []) 0 then ([], 0) else ((idsR r).filter (fun i => decide (Calm (boxR (lessR r [i]) []) (lnkR (lessR r [i]) []) 0)), 0)) else ([], checkR r) := rfl
  by_cases h0 : checkR r = 0
  · rw [if_pos h0] at e
    rw [h0] at hC
    have h := checkR_ok.1 h0
    have hA := rAgrees_t r h hf
    have hI := rIDs_t r h
    have hil := idsR_len r h
    by_cases hc : Calm (boxR r []) (lnkR r []) 0
    · rw [if_pos hc] at e
      rw [decide_eq_true hc] at hA
      rw [e]
      generalize idsR r = L at *
      refine triple_of tB_ok Tryz.func22 rfl Tryz.call22 rfl ?_
      intro ρ w hH
      conv=>whnf
      refine call_step hC rfl rfl ?_
      conv=>whnf
      refine ⟨?_, ?_, ?_⟩
      iterate 2 · repeat' (first | exact trivial | exact rfl | refine And.intro ?_ ?_ | ((conv=>whnf); first | exact trivial | exact rfl | refine And.intro ?_ ?_ | omega))
      conv=>whnf
      refine ⟨fun hc => absurd hc (by simp), fun hc => ?_⟩
      conv=>whnf
      refine call_step hA rfl rfl ?_
      conv=>whnf
      refine ⟨?_, ?_, ?_⟩
      iterate 2 · repeat' (first | exact trivial | exact rfl | refine And.intro ?_ ?_ | ((conv=>whnf); first | exact trivial | exact rfl | refine And.intro ?_ ?_ | omega))
      conv=>whnf
      refine call_step hI rfl rfl ?_
      conv=>whnf
      refine ⟨?_, ?_, ?_⟩
      iterate 2 · repeat' (first | exact trivial | exact rfl | refine And.intro ?_ ?_ | ((conv=>whnf); first | exact trivial | exact rfl | refine And.intro ?_ ?_ | omega))
      conv=>whnf
      refine loop_step tB_ok (G := Nat) 1 [] (fun i => [(8, iv .i64 i), (6, .c (.s 6 0 0 1))]) (fun i => [(6, true, .arr (aInt []))]) (fun i => i = 0) (fun i => L.length - i) ?_
      conv=>whnf
      refine ⟨⟨0, rfl, ?_⟩, ?_⟩
      · conv=>whnf
        repeat' (first | exact trivial | exact rfl | refine And.intro ?_ ?_ | ((conv=>whnf); first | exact trivial | exact rfl | refine And.intro ?_ ?_ | omega))
      intro i hi ρ1 t1 hρ1
      subst hi
      conv=>whnf
      refine ⟨fun hc => ?_, fun hc => ?_⟩
      · conv=>whnf
        refine ⟨fun hc => absurd hc (by simp), fun hc => ?_⟩
        conv=>whnf
        repeat' (first | exact trivial | exact rfl | refine And.intro ?_ ?_ | ((conv=>whnf); first | exact trivial | exact rfl | refine And.intro ?_ ?_ | omega))
      · conv=>whnf
        repeat' (first | exact trivial | exact rfl | refine And.intro ?_ ?_ | ((conv=>whnf); first | exact trivial | exact rfl | refine And.intro ?_ ?_ | omega))
    · rw [if_neg hc] at e
      rw [decide_eq_false hc] at hA
      rw [e]
      have hW := fun i : Int => rLess_t r [i] hs (by simp)
      have hAg := fun i : Int => rAgrees_t (lessR r [i]) (less_ok h [i]) (less_few [i] hf)
      have hpe : ∀ i : Int, decide (Calm (boxR (lessR r [i]) []) (lnkR (lessR r [i]) []) 0) = (fun i : Int => decide (Calm (boxR (lessR r [i]) []) (lnkR (lessR r [i]) []) 0)) i := fun i => rfl
      have hbs : ∀ i : Int, (lessR r [i]).bs = r.bs := fun i => rfl
      generalize (fun i : Int => decide (Calm (boxR (lessR r [i]) []) (lnkR (lessR r [i]) []) 0)) = p at *
      generalize idsR r = L at *
      refine triple_of tB_ok Tryz.func22 rfl Tryz.call22 rfl ?_
      intro ρ w hH
      conv=>whnf
      refine call_step hC rfl rfl ?_
      conv=>whnf
      refine ⟨?_, ?_, ?_⟩
      iterate 2 · repeat' (first | exact trivial | exact rfl | refine And.intro ?_ ?_ | ((conv=>whnf); first | exact trivial | exact rfl | refine And.intro ?_ ?_ | omega))
      conv=>whnf
      refine ⟨fun hc => absurd hc (by simp), fun hc => ?_⟩
      conv=>whnf
      refine call_step hA rfl rfl ?_
      conv=>whnf
      refine ⟨?_, ?_, ?_⟩
      iterate 2 · repeat' (first | exact trivial | exact rfl | refine And.intro ?_ ?_ | ((conv=>whnf); first | exact trivial | exact rfl | refine And.intro ?_ ?_ | omega))
      conv=>whnf
      refine call_step hI rfl rfl ?_
      conv=>whnf
      refine ⟨?_, ?_, ?_⟩
      iterate 2 · repeat' (first | exact trivial | exact rfl | refine And.intro ?_ ?_ | ((conv=>whnf); first | exact trivial | exact rfl | refine And.intro ?_ ?_ | omega))
      conv=>whnf
      refine loop_step tB_ok (G := Nat) 1 [] (fun i => [(8, iv .i64 i), (6, .c (.s 6 0 ((L.take i).filter p).length 1))]) (fun i => [(6, true, .arr (aInt ((L.take i).filter p)))]) (fun i => i ≤ L.length) (fun i => L.length - i) ?_
      conv=>whnf
      refine ⟨⟨0, Nat.zero_le _, ?_⟩, ?_⟩
      · conv=>whnf
        repeat' (first | exact trivial | exact rfl | refine And.intro ?_ ?_ | ((conv=>whnf); first | exact trivial | exact rfl | refine And.intro ?_ ?_ | omega))
      intro i hi ρ1 t1 hρ1
      conv=>whnf
      refine ⟨fun hc => ?_, fun hc => ?_⟩
      · have hlt : i < L.length := by simpa using hc
        have hM : ((L.take i).filter p).length ≤ 100 := by
          have := List.length_filter_le p (L.take i)
          rw [List.length_take] at this; omega
        have hnx := filter_take_succ (p := p) hlt
        generalize (L.take i).filter p = M at *
        conv=>whnf
        refine ⟨fun hc => ?_, fun hc => absurd hc (by simp)⟩
        conv=>whnf
        refine ⟨i, rfl, hlt, hlt, ?_⟩
        conv=>whnf
        refine bs_step tB_ok (aInt [L[i]]) rfl rfl ?_
        conv=>whnf
        refine ⟨⟨rfl, (by repeat' (first | exact trivial | exact rfl | refine And.intro ?_ ?_ | ((conv=>whnf); first | exact trivial | exact rfl | refine And.intro ?_ ?_ | omega)))⟩, ?_⟩
        conv=>whnf
        refine call_step (hW L[i]) rfl rfl ?_
        conv=>whnf
        refine ⟨?_, ?_, ?_⟩
        iterate 2 · repeat' (first | exact trivial | exact rfl | refine And.intro ?_ ?_ | ((conv=>whnf); first | exact trivial | exact rfl | refine And.intro ?_ ?_ | omega))
        conv=>whnf
        refine call_step (hAg L[i]) rfl rfl ?_
        conv=>whnf
        refine ⟨?_, ?_, ?_⟩
        iterate 2 · repeat' (first | exact trivial | exact rfl | refine And.intro ?_ ?_ | ((conv=>whnf); first | exact trivial | exact rfl | refine And.intro ?_ ?_ | omega))
        conv=>whnf
        refine ⟨fun hc => ?_, fun hc => ?_⟩
        · skip
          have h1 : p L[i] = true := (hpe _).symm.trans hc
          rw [h1] at hnx
          have hnx : (L.take (i + 1)).filter p = M ++ [L[i]] := hnx
          conv=>whnf
          refine ⟨i, rfl, hlt, hlt, ?_⟩
          conv=>whnf
          refine bs_step tB_ok (aInt [L[i]]) rfl rfl ?_
          conv=>whnf
          refine ⟨⟨rfl, (by repeat' (first | exact trivial | exact rfl | refine And.intro ?_ ?_ | ((conv=>whnf); first | exact trivial | exact rfl | refine And.intro ?_ ?_ | omega)))⟩, ?_⟩
          conv=>whnf
          refine app_step tB_ok (aInt M) [L[i]] (fun _ => rfl) rfl rfl rfl rfl ?_
          conv=>whnf
          refine ⟨⟨rfl, rfl, Nat.le_refl _, Nat.le_refl _, by show (M.length + 1) * 9 ≤ _; omega⟩, ?_⟩
          conv=>whnf
          refine ⟨_, wrapId ⟨by omega, by omega⟩, ?_⟩
          refine ⟨i + 1, hlt, by show L.length - (i + 1) < L.length - i; omega, ?_⟩
          dsimp only
          rw [hnx]
          conv=>whnf
          refine ⟨rfl, ?_⟩
          conv=>whnf
          repeat' (first | exact trivial | exact rfl | refine And.intro ?_ ?_ | ((conv=>whnf); first | exact trivial | exact rfl | refine And.intro ?_ ?_ | omega))
          all_goals first | exact (congrArg aInt app1.symm : _) | exact (congrArg aInt app1 : _) | simp
        · skip
          have h1 : p L[i] = false := (hpe _).symm.trans hc
          rw [h1] at hnx
          have hnx : (L.take (i + 1)).filter p = M := by rw [hnx]; simp
          conv=>whnf
          refine ⟨_, wrapId ⟨by omega, by omega⟩, ?_⟩
          refine ⟨i + 1, hlt, by show L.length - (i + 1) < L.length - i; omega, ?_⟩
          dsimp only
          rw [hnx]
          conv=>whnf
          refine ⟨rfl, ?_⟩
          conv=>whnf
          repeat' (first | exact trivial | exact rfl | refine And.intro ?_ ?_ | ((conv=>whnf); first | exact trivial | exact rfl | refine And.intro ?_ ?_ | omega))
      have hie : i = L.length := by simp at hc; omega
      subst hie
      rw [List.take_length]
      conv=>whnf
      repeat' (first | exact trivial | exact rfl | refine And.intro ?_ ?_ | ((conv=>whnf); first | exact trivial | exact rfl | refine And.intro ?_ ?_ | omega))
  · rw [if_neg h0] at e
    rw [e]
    generalize checkR r = c at *
    refine triple_of tB_ok Tryz.func22 rfl Tryz.call22 rfl ?_
    intro ρ w hH
    conv=>whnf
    refine call_step hC rfl rfl ?_
    conv=>whnf
    refine ⟨?_, ?_, ?_⟩
    iterate 2 · repeat' (first | exact trivial | exact rfl | refine And.intro ?_ ?_ | ((conv=>whnf); first | exact trivial | exact rfl | refine And.intro ?_ ?_ | omega))
    conv=>whnf
    refine ⟨fun hcc => ?_, fun hcc => absurd (by simpa using (show (c != 0) = false from hcc)) h0⟩
    conv=>whnf
    repeat' (first | exact trivial | exact rfl | refine And.intro ?_ ?_ | ((conv=>whnf); first | exact trivial | exact rfl | refine And.intro ?_ ?_ | omega))

theorem massV_F {r : Rd} (h : RdOK r) (o : Thg) : massF r o = massV r o := by unfold massF; rw [if_pos (checkR_ok.2 h)]

set_option maxHeartbeats 1000000 in
theorem rNeeded_t (r : Rd) (o : Thg) (hs : Sml r) (hf : r.cs.length + r.ns.length + r.ws.length ≤ 24) : Triple Tryz.prog 24 [rdA r, svThg o] (rdH r) 4 (listT 4 (neededF r o)) [(4, true, .arr (aInt (neededF r o).1))] := by
  have hM := rMass_t r o hs hf
  have e : neededF r o = if (massF r o).2 = 0 then ((idsR r).filter (fun i => !(decide (massV (lessR r [i]) o = massF r o))), 0) else ([], (massF r o).2) := rfl
  have hck : (massF r o).2 = 0 → checkR r = 0 := by
    unfold massF
    intro hh
    by_cases h0 : checkR r = 0
    · exact h0
    · rw [if_neg h0] at hh; exact hh
  by_cases h0 : (massF r o).2 = 0
  · rw [if_pos h0] at e
    have h := checkR_ok.1 (hck h0)
    have hI := rIDs_t r h
    have hil := idsR_len r h
    have hW := fun i : Int => rLess_t r [i] hs (by simp)
    have hAg := fun i : Int => rMass_t (lessR r [i]) o (less_ok h [i]).sml (less_few [i] hf)
    simp only [fun i : Int => massV_F (less_ok h [i]) o] at hAg
    rw [e]
    clear e hck
    generalize massF r o = w at *
    obtain ⟨⟨wl, wh⟩, we⟩ := w
    have h0 : we = 0 := h0
    subst h0
    have hpe : ∀ i : Int, (fun i : Int => !(decide (massV (lessR r [i]) o = ((wl, wh), 0)))) i = !(decide (massV (lessR r [i]) o = ((wl, wh), 0))) := fun i => rfl
    generalize (fun i : Int => !(decide (massV (lessR r [i]) o = ((wl, wh), 0)))) = p at *
    generalize idsR r = L at *
    generalize hmm : (fun i : Int => massV (lessR r [i]) o) = mv at *
    have hmv : ∀ i, massV (lessR r [i]) o = mv i := fun i => by rw [← hmm]
    simp only [hmv] at hAg hpe
    clear hmm hmv
    refine triple_of tB_ok Tryz.func24 rfl Tryz.call24 rfl ?_
    intro ρ w hH
    conv=>whnf
    refine call_step hM rfl rfl ?_
    conv=>whnf
    refine ⟨?_, ?_, ?_⟩
    iterate 2 · repeat' (first | exact trivial | exact rfl | refine And.intro ?_ ?_ | ((conv=>whnf); first | exact trivial | exact rfl | refine And.intro ?_ ?_ | omega))
    conv=>whnf
    refine ⟨fun hc => absurd hc (by simp), fun hc => ?_⟩
    conv=>whnf
    refine call_step hI rfl rfl ?_
    conv=>whnf
    refine ⟨?_, ?_, ?_⟩
    iterate 2 · repeat' (first | exact trivial | exact rfl | refine And.intro ?_ ?_ | ((conv=>whnf); first | exact trivial | exact rfl | refine And.intro ?_ ?_ | omega))
    conv=>whnf
    refine loop_step tB_ok (G := Nat) 1 [] (fun i => [(10, iv .i64 i), (8, .c (.s 8 0 ((L.take i).filter p).length 1))]) (fun i => [(8, true, .arr (aInt ((L.take i).filter p)))]) (fun i => i ≤ L.length) (fun i => L.length - i) ?_
    conv=>whnf
    refine ⟨⟨0, Nat.zero_le _, ?_⟩, ?_⟩
    · conv=>whnf
      repeat' (first | exact trivial | exact rfl | refine And.intro ?_ ?_ | ((conv=>whnf); first | exact trivial | exact rfl | refine And.intro ?_ ?_ | omega))
    intro i hi ρ1 t1 hρ1
    conv=>whnf
    refine ⟨fun hc => ?_, fun hc => ?_⟩
    · have hlt : i < L.length := by simpa using hc
      have hM : ((L.take i).filter p).length ≤ 100 := by
        have := List.length_filter_le p (L.take i)
        rw [List.length_take] at this; omega
      have hnx := filter_take_succ (p := p) hlt
      generalize (L.take i).filter p = M at *
      have hA1 := hAg L[i]
      have hp1 := hpe L[i]
      generalize mv L[i] = v at *
      obtain ⟨⟨vl, vh⟩, ve⟩ := v
      conv=>whnf
      refine ⟨i, rfl, hlt, hlt, ?_⟩
      conv=>whnf
      refine bs_step tB_ok (aInt [L[i]]) rfl rfl ?_
      conv=>whnf
      refine ⟨⟨rfl, (by repeat' (first | exact trivial | exact rfl | refine And.intro ?_ ?_ | ((conv=>whnf); first | exact trivial | exact rfl | refine And.intro ?_ ?_ | omega)))⟩, ?_⟩
      conv=>whnf
      refine call_step (hW L[i]) rfl rfl ?_
      conv=>whnf
      refine ⟨?_, ?_, ?_⟩
      iterate 2 · repeat' (first | exact trivial | exact rfl | refine And.intro ?_ ?_ | ((conv=>whnf); first | exact trivial | exact rfl | refine And.intro ?_ ?_ | omega))
      conv=>whnf
      refine call_step hA1 rfl rfl ?_
      conv=>whnf
      refine ⟨?_, ?_, ?_⟩
      iterate 2 · repeat' (first | exact trivial | exact rfl | refine And.intro ?_ ?_ | ((conv=>whnf); first | exact trivial | exact rfl | refine And.intro ?_ ?_ | omega))
      conv=>whnf
      refine ⟨fun hc => ?_, fun hc => ?_⟩
      · have hve : ¬ ve = 0 := by simpa using (show (ve != 0) = true from hc)
        have hpt : p L[i] = true := by rw [hp1]; simp [hve]
        have h1 : p L[i] = true := hpt
        rw [h1] at hnx
        have hnx : (L.take (i + 1)).filter p = M ++ [L[i]] := hnx
        conv=>whnf
        refine ⟨i, rfl, hlt, hlt, ?_⟩
        conv=>whnf
        refine bs_step tB_ok (aInt [L[i]]) rfl rfl ?_
        conv=>whnf
        refine ⟨⟨rfl, (by repeat' (first | exact trivial | exact rfl | refine And.intro ?_ ?_ | ((conv=>whnf); first | exact trivial | exact rfl | refine And.intro ?_ ?_ | omega)))⟩, ?_⟩
        conv=>whnf
        refine app_step tB_ok (aInt M) [L[i]] (fun _ => rfl) rfl rfl rfl rfl ?_
        conv=>whnf
        refine ⟨⟨rfl, rfl, Nat.le_refl _, Nat.le_refl _, by show (M.length + 1) * 9 ≤ _; omega⟩, ?_⟩
        conv=>whnf
        refine ⟨_, wrapId ⟨by omega, by omega⟩, ?_⟩
        refine ⟨i + 1, hlt, by show L.length - (i + 1) < L.length - i; omega, ?_⟩
        dsimp only
        rw [hnx]
        conv=>whnf
        refine ⟨rfl, ?_⟩
        conv=>whnf
        repeat' (first | exact trivial | exact rfl | refine And.intro ?_ ?_ | ((conv=>whnf); first | exact trivial | exact rfl | refine And.intro ?_ ?_ | omega))
        all_goals first | exact (congrArg aInt app1.symm : _) | exact (congrArg aInt app1 : _) | simp
      have hve : ve = 0 := by simpa using (show (ve != 0) = false from hc)
      subst hve
      conv=>whnf
      refine ⟨fun hc => ?_, fun hc => ?_⟩
      · have hne : (!(decide ((vl, vh) = (wl, wh)))) = true := by rw [← ne_pair]; exact hc
        have hpt : p L[i] = true := by rw [hp1]; simpa using hne
        have h1 : p L[i] = true := hpt
        rw [h1] at hnx
        have hnx : (L.take (i + 1)).filter p = M ++ [L[i]] := hnx
        conv=>whnf
        refine ⟨i, rfl, hlt, hlt, ?_⟩
        conv=>whnf
        refine bs_step tB_ok (aInt [L[i]]) rfl rfl ?_
        conv=>whnf
        refine ⟨⟨rfl, (by repeat' (first | exact trivial | exact rfl | refine And.intro ?_ ?_ | ((conv=>whnf); first | exact trivial | exact rfl | refine And.intro ?_ ?_ | omega)))⟩, ?_⟩
        conv=>whnf
        refine app_step tB_ok (aInt M) [L[i]] (fun _ => rfl) rfl rfl rfl rfl ?_
        conv=>whnf
        refine ⟨⟨rfl, rfl, Nat.le_refl _, Nat.le_refl _, by show (M.length + 1) * 9 ≤ _; omega⟩, ?_⟩
        conv=>whnf
        refine ⟨_, wrapId ⟨by omega, by omega⟩, ?_⟩
        refine ⟨i + 1, hlt, by show L.length - (i + 1) < L.length - i; omega, ?_⟩
        dsimp only
        rw [hnx]
        conv=>whnf
        refine ⟨rfl, ?_⟩
        conv=>whnf
        repeat' (first | exact trivial | exact rfl | refine And.intro ?_ ?_ | ((conv=>whnf); first | exact trivial | exact rfl | refine And.intro ?_ ?_ | omega))
        all_goals first | exact (congrArg aInt app1.symm : _) | exact (congrArg aInt app1 : _) | simp
      · have hne : (!(decide ((vl, vh) = (wl, wh)))) = false := by rw [← ne_pair]; exact hc
        have hpt : p L[i] = false := by rw [hp1]; simpa using hne
        have h1 : p L[i] = false := hpt
        rw [h1] at hnx
        have hnx : (L.take (i + 1)).filter p = M := by rw [hnx]; simp
        conv=>whnf
        refine ⟨_, wrapId ⟨by omega, by omega⟩, ?_⟩
        refine ⟨i + 1, hlt, by show L.length - (i + 1) < L.length - i; omega, ?_⟩
        dsimp only
        rw [hnx]
        conv=>whnf
        refine ⟨rfl, ?_⟩
        conv=>whnf
        repeat' (first | exact trivial | exact rfl | refine And.intro ?_ ?_ | ((conv=>whnf); first | exact trivial | exact rfl | refine And.intro ?_ ?_ | omega))
    have hie : i = L.length := by simp at hc; omega
    subst hie
    rw [List.take_length]
    conv=>whnf
    repeat' (first | exact trivial | exact rfl | refine And.intro ?_ ?_ | ((conv=>whnf); first | exact trivial | exact rfl | refine And.intro ?_ ?_ | omega))
  · rw [if_neg h0] at e
    rw [e]
    generalize massF r o = w at *
    obtain ⟨⟨wl, wh⟩, we⟩ := w
    have h0 : ¬ we = 0 := h0
    refine triple_of tB_ok Tryz.func24 rfl Tryz.call24 rfl ?_
    intro ρ w hH
    conv=>whnf
    refine call_step hM rfl rfl ?_
    conv=>whnf
    refine ⟨?_, ?_, ?_⟩
    iterate 2 · repeat' (first | exact trivial | exact rfl | refine And.intro ?_ ?_ | ((conv=>whnf); first | exact trivial | exact rfl | refine And.intro ?_ ?_ | omega))
    conv=>whnf
    refine ⟨fun hcc => ?_, fun hcc => absurd (by simpa using (show (we != 0) = false from hcc)) h0⟩
    conv=>whnf
    repeat' (first | exact trivial | exact rfl | refine And.intro ?_ ?_ | ((conv=>whnf); first | exact trivial | exact rfl | refine And.intro ?_ ?_ | omega))

end Go.Proofs

