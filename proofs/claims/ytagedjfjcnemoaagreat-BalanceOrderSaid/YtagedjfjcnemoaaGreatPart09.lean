/-
  A part of the proof that a law answers true: lemmas of a symbolic walk, plain functions, or contracts of the functions walked (Pm1, Pm2, Sx21, Sx22, W1, W3). Conditions: none.
-/
import Derived.Test.YtagedjfjcnemoaaGreatPart07
import Derived.Test.YtagedjfjcnemoaaGreatPart08
set_option maxRecDepth 100000
set_option linter.unusedVariables false
set_option linter.unusedSimpArgs false
/-
  The plain functions that the program's functions of chapter 3 compute, part 1: links, places, relaxing arcs. Conditions: none; definitions and plain lemmas.
-/
namespace Go
namespace Proofs

structure Lnk where
  f : Int
  t : Int
  m : Int
  i : Int
  deriving DecidableEq

def plc (n : Nat) (p : Int) : Nat := if p < 0 then n else p.toNat

structure Tr where
  sum : List Int
  there : List Bool
  last : List Int
  ch : Int

def relax (i : Int) (a b : Nat) (w : Int) (T : Tr) : Tr :=
  if T.there.getD a false && (!T.there.getD b false || decide (T.sum.getD a 0 + w < T.sum.getD b 0)) then
    ⟨T.sum.set b (T.sum.getD a 0 + w), T.there.set b true, T.last.set b i, b⟩ else T

def arcF (n : Nat) (rev : Nat → Bool) (i : Nat) (l : Lnk) (T : Tr) : Tr :=
  let T1 := relax (2 * i) (plc n l.f) (plc n l.t) l.m T
  if rev i then relax (2 * i + 1) (plc n l.t) (plc n l.f) (-l.m) T1 else T1

def passF (n : Nat) (rev : Nat → Bool) : Nat → List Lnk → Tr → Tr
  | _, [], T => T
  | i, l :: r, T => passF n rev (i + 1) r (arcF n rev i l T)

def roundsF (n : Nat) (rev : Nat → Bool) (arcs : List Lnk) : Nat → Tr → Tr × Int
  | 0, T => let T' := passF n rev 0 arcs { T with ch := -1 }; (T', T'.ch)
  | k + 1, T => let T' := passF n rev 0 arcs { T with ch := -1 }; if T'.ch = -1 then (T', -1) else roundsF n rev arcs k T'

def startF (n : Nat) (src : Nat) : Tr := ⟨List.replicate (n + 1) 0, (List.replicate (n + 1) false).set src true, List.replicate (n + 1) (-1), -1⟩

def shortF (n : Nat) (rev : Nat → Bool) (arcs : List Lnk) (src : Nat) : Tr × Int := roundsF n rev arcs (n + 2) (startF n src)

def ArcOK (n : Nat) (l : Lnk) : Prop := (-1 ≤ l.f ∧ l.f < n) ∧ (-1 ≤ l.t ∧ l.t < n) ∧ (-33554432 ≤ l.m ∧ l.m ≤ 33554432)

structure Tok (n : Nat) (B : Int) (T : Tr) : Prop where
  ls : T.sum.length = n + 1
  lt : T.there.length = n + 1
  ll : T.last.length = n + 1
  bd : ∀ x ∈ T.sum, -B ≤ x ∧ x ≤ B

theorem plc_le {n : Nat} {p : Int} (h : p < n) : plc n p ≤ n := by unfold plc; split <;> omega

theorem getD_mem {xs : List Int} {a : Nat} (h : a < xs.length) : xs.getD a 0 ∈ xs := by
  rw [List.getD_eq_getElem?_getD, List.getElem?_eq_getElem h]
  exact List.getElem_mem h

theorem Tok.mono {n : Nat} {B C : Int} {T : Tr} (h : Tok n B T) (hc : B ≤ C) : Tok n C T :=
  ⟨h.ls, h.lt, h.ll, fun x hx => by have := h.bd x hx; omega⟩

theorem Tok.relax {n : Nat} {B W : Int} {T : Tr} {i : Int} {a b : Nat} {w : Int} (h : Tok n B T) (hw : -W ≤ w ∧ w ≤ W) (ha : a ≤ n) : Tok n (B + W) (relax i a b w T) := by
  have hW : 0 ≤ W := by omega
  unfold Proofs.relax
  split
  · refine ⟨by simp [h.ls], by simp [h.lt], by simp [h.ll], fun x hx => ?_⟩
    have hm := h.bd _ (getD_mem (xs := T.sum) (a := a) (by rw [h.ls]; omega))
    rcases List.mem_or_eq_of_mem_set hx with hx | hx
    · have := h.bd x hx; omega
    · rw [hx]; omega
  · exact h.mono (by omega)

theorem Tok.arc {n : Nat} {B : Int} {T : Tr} {rev : Nat → Bool} {i : Nat} {l : Lnk} (h : Tok n B T) (hl : ArcOK n l) : Tok n (B + 67108864) (arcF n rev i l T) := by
  obtain ⟨h1, h2, h3⟩ := hl
  have e1 := h.relax (i := 2 * i) (a := plc n l.f) (b := plc n l.t) (W := 33554432) (w := l.m) (by omega) (plc_le h1.2)
  unfold arcF
  simp only
  split
  · exact (e1.relax (W := 33554432) (w := -l.m) (by omega) (plc_le h2.2)).mono (by omega)
  · exact e1.mono (by omega)

theorem passF_snoc (n : Nat) (rev : Nat → Bool) : ∀ (xs : List Lnk) (k i : Nat) (T : Tr) (h : i < xs.length), passF n rev k (xs.take (i + 1)) T = arcF n rev (k + i) xs[i] (passF n rev k (xs.take i) T)
  | [], _, _, _, h => by simp at h
  | x :: xs, k, 0, T, _ => by simp [passF]
  | x :: xs, k, i + 1, T, h => by
    simp only [List.take_succ_cons, passF, List.getElem_cons_succ]
    rw [passF_snoc n rev xs (k + 1) i _ (by simpa using h)]
    congr 1; omega

theorem Tok.pass {n : Nat} {rev : Nat → Bool} : ∀ {xs : List Lnk} {k : Nat} {B : Int} {T : Tr}, (∀ l ∈ xs, ArcOK n l) → Tok n B T → Tok n (B + 67108864 * xs.length) (passF n rev k xs T)
  | [], k, B, T, _, h => by simp [passF]; exact h
  | x :: xs, k, B, T, hl, h => by
    simp only [passF]
    have := Tok.pass (rev := rev) (xs := xs) (k := k + 1) (fun l hm => hl l (by simp [hm])) (h.arc (rev := rev) (i := k) (hl x (by simp)))
    exact this.mono (by simp; omega)

theorem Tok.ch {n : Nat} {B : Int} {T : Tr} (h : Tok n B T) (c : Int) : Tok n B { T with ch := c } := ⟨h.ls, h.lt, h.ll, h.bd⟩

theorem Tok.start (n src : Nat) : Tok n 0 (startF n src) := by
  refine ⟨by simp [startF], by simp [startF], by simp [startF], fun x hx => ?_⟩
  have := List.eq_of_mem_replicate hx
  omega

theorem roundsF_done {n : Nat} {rev : Nat → Bool} {arcs : List Lnk} {k : Nat} {T : Tr} (h : (passF n rev 0 arcs { T with ch := -1 }).ch = -1) :
    roundsF n rev arcs k T = (passF n rev 0 arcs { T with ch := -1 }, -1) := by
  cases k with
  | zero => simp only [roundsF, h]
  | succ k => simp only [roundsF, h, if_true]

theorem roundsF_next {n : Nat} {rev : Nat → Bool} {arcs : List Lnk} {k : Nat} {T : Tr} (h : (passF n rev 0 arcs { T with ch := -1 }).ch ≠ -1) :
    roundsF n rev arcs (k + 1) T = roundsF n rev arcs k (passF n rev 0 arcs { T with ch := -1 }) := by
  simp only [roundsF, if_neg h]

def withinF (n lo hi : Int) : Bool := decide (lo ≤ n) && decide (n ≤ hi)

def properF (l : Lnk) (n : Int) : Bool := (l.f != l.t) && (withinF l.f (-1) (n - 1) && (withinF l.t (-1) (n - 1) && (withinF l.m (-33554432) 33554432 && withinF l.i 0 1099511627776)))

def boxOKF (b : Int × Int) : Bool := !(decide (b.2 < b.1) || decide (b.1 < -16777216) || decide (16777216 < b.2))

def checkF (bs : List (Int × Int)) (ls : List Lnk) : Int :=
  if decide (240 < bs.length) || decide (1200 < ls.length) then 2 else if !bs.all boxOKF then 1 else if !ls.all (fun l => properF l bs.length) then 1 else 0

end Proofs
end Go

/-
  Plain lemmas, part 2: what slices.IndexFunc and slices.DeleteFunc compute. Conditions: none.
-/
namespace Go
namespace Proofs

theorem take_snoc {α : Type} {xs : List α} {i : Nat} (h : i < xs.length) : xs.take (i + 1) = xs.take i ++ [xs[i]] := by
  rw [List.take_succ_eq_append_getElem h]

theorem filter_snoc {α : Type} (p : α → Bool) (xs : List α) (x : α) : (xs ++ [x]).filter p = xs.filter p ++ (if p x then [x] else []) := by
  rw [List.filter_append]; congr 1; cases h : p x <;> simp [h]

theorem filter_take_succ {α : Type} {ls : List α} {p : α → Bool} {i : Nat} (h : i < ls.length) : (ls.take (i + 1)).filter p = (ls.take i).filter p ++ (if p ls[i] then [ls[i]] else []) := by
  rw [take_snoc h, filter_snoc]

theorem app1 {α : Type} {xs : List α} {x : α} : List.take xs.length xs ++ List.take 1 (List.drop 0 [x]) = xs ++ [x] := by rw [List.take_length]; rfl
theorem appAll {α : Type} {xs ys : List α} : List.take xs.length xs ++ List.take ys.length (List.drop 0 ys) = xs ++ ys := by rw [List.take_length, List.drop_zero, List.take_length]

end Proofs
end Go

namespace Go
namespace Sx

def recO (fn : FuncId) (T0 : Array Value) (ps : Array Tmp) (asg body : Code) (d : Nat) : SO :=
  .raw (fun x => x = .loop { state := .ready, pending := none, fn := fn, tmps := T0, params := ps, assign := asg, body := body, defers := d })
def busyO (fn : FuncId) (T0 : Array Value) (ps : Array Tmp) (asg body : Code) (d : Nat) : SO :=
  .raw (fun x => x = .loop { state := .busy, pending := none, fn := fn, tmps := T0, params := ps, assign := asg, body := body, defers := d })
def dfrO : SO := .raw (fun x => x = .deferred (some []))

theorem Sat.setObj {cx : Cx} {ρ : Asg} {s : St} {a : Act} {w : World} (h : Sat cx ρ s a w) {k : Nat} {Φ Φ' : Obj → Prop} (hl : look s.H k = some (true, .raw Φ)) (o : Obj) (ho : Φ' o) :
    Sat cx ρ { s with H := (k, true, .raw Φ') :: s.H } a (w.putObj (ρ k).blk o) := by
  have hr : 0 < (SO.raw Φ).room (ρ k) := by simp [SO.room]
  have hv := h.heap.valid k true _ hl hr
  have hne : ∀ b, b ≠ (ρ k).blk → (w.putObj (ρ k).blk o).heap[b]? = w.heap[b]? := fun b hb => World.putObj_heap_other hb
  have hd : ∀ j own' p, look s.H j = some (own', p) → j ≠ k → 0 < p.room (ρ j) → (ρ j).blk ≠ (ρ k).blk := fun j own' p hj hjk hpr =>
    Ne.symm (h.heap.apart k j _ own' p (Ne.symm hjk) hl hj hr hpr)
  have hk := (h.bnd.heap k true _ hl).1
  exact { size := h.size, defers := h.defers, env := h.env
          heap := h.heap.cons (fun j own q _ _ => ⟨rfl, fun _ _ => rfl⟩) (by rw [World.putObj_size]; exact Nat.le_refl _)
            ⟨by rw [World.putObj_size]; exact h.heap.frm.size, fun b hb hM => by
              rw [hne b (by
                rintro rfl
                rcases h.heap.fresh k _ hl hr with h1 | h1
                · omega
                · exact hM h1)]
              exact h.heap.frm.same b hb hM, h.heap.frm.io, h.heap.frm.quiet⟩
            (fun b _ hb => hne b hb) (fun j own' q hj hjk hq _ => hd j own' q hj hjk hq) (fun j own' q hj hjk hq => hne _ (hd j own' q hj hjk hq))
            ⟨trivial, (fun i j c hc => by simp [SO.cell?] at hc), (fun _ hx => absurd rfl (hx Φ')), (fun _ => (h.heap.reg k true _ hl).off0 rfl), (fun Ψ hΨ => by
              cases hΨ
              exact ⟨o, World.putObj_heap_same hv, ho⟩)⟩
            (fun _ _ => h.heap.fresh k _ hl hr) (fun _ => by rw [World.putObj_size]; exact hv)
          bnd := h.bnd.cons hk (by intro j hj; simp [SO.uses] at hj), base := h.base, keep := h.keep, n0 := h.n0 }

theorem Sat.newObj {cx : Cx} {ρ : Asg} {s : St} {a : Act} {w : World} (h : Sat cx ρ s a w) {Φ : Obj → Prop} (o : Obj) (ho : Φ o) :
    Sat cx (upd ρ s.nx ⟨w.heap.size, 0, 0⟩) { s with H := (s.nx, true, .raw Φ) :: s.H, nx := s.nx + 1 } a (push w o) :=
  h.new (cap := 0) (o := .raw Φ) (ob := o) (by intro j hj; simp [SO.uses] at hj)
    ⟨trivial, (fun i j c hc => by simp [SO.cell?] at hc), (fun _ hx => absurd rfl (hx Φ)), (fun _ => by rw [upd_eq]), (fun Ψ hΨ => by
      cases hΨ
      rw [upd_eq]
      exact ⟨o, push_new w o, ho⟩)⟩

structure RoundT (P : Program) (nt : Nat) (stO : List (Nat × SV)) (ps : Array Tmp) (asg body : Code) (args : List SV) (pre : Heap) (np : Nat) (post : Heap) : Prop where
  h : ∀ (fn : FuncId) (T0 : Array Value) (d : Nat) (ρ : Asg) (w : World) (vals : Array Value), T0.size = nt → (∀ i sv, (i, sv) ∈ stO → sv.rel ρ (T0.getD i undef)) → relVs ρ args vals.toList → vals.size = ps.size →
    SatH w (ownB ρ ((0, true, recO fn T0 ps asg body d) :: pre)) ρ ((0, true, recO fn T0 ps asg body d) :: pre) w →
    RoundIn Fence.wide 0 P (ρ 0).blk fn ((ps.zip vals).foldl (fun tmps (t, a) => tmps.setIfInBounds t a) T0) asg body w
      fun e w' => ∃ ρ', (∀ k, k < np → ρ' k = ρ k) ∧ e = .returned (.bool true) ∧ SatH w (ownB ρ ((0, true, recO fn T0 ps asg body d) :: pre)) ρ' ((0, true, recO fn T0 ps asg body d) :: post) w'

def putPs : List Nat → List SV → Env → Env
  | p :: ps, a :: avs, e => putPs ps avs (.put p a e)
  | _, _, e => e

def envS : List (Nat × SV) → Env
  | [] => .nil
  | (i, v) :: r => .put i v (envS r)

def allLtP (n : Nat) : List Nat → Bool
  | [] => true
  | x :: r => bif Nat.blt x n then allLtP n r else false

def roundK (cx : Cx) (B : Tabs) (asg body : Code) (np : Nat) (R R' : SO) (post : Heap) (s : St) : Prop :=
  vc cx B asg (fun ex s1 => match ex with
    | .normal => (match s1, look s1.H 0 with
      | ⟨e, H, nx⟩, some (true, o) => o = R ∧ vc cx B body (fun ex s2 => match ex with
          | .normal => (match s2, look s2.H 0 with
            | ⟨_, H, nx⟩, some (true, o) => o = R' ∧ RetE (.c (.b true)) ((0, true, R) :: H) nx np (.c (.b true)) ((0, true, R) :: post)
            | _, _ => False)
          | _ => False) ⟨e, (0, true, R') :: H, nx⟩
      | _, _ => False)
    | _ => False) s

theorem putPs_marks : ∀ {ps : List Nat} {avs : List SV} {e : Env}, (putPs ps avs e).marks = e.marks
  | [], _, _ => by simp [putPs]
  | _ :: _, [], _ => by simp [putPs]
  | p :: ps, a :: avs, e => by simp only [putPs]; rw [putPs_marks]; rfl
theorem envS_marks : ∀ {l : List (Nat × SV)}, (envS l).marks = []
  | [] => rfl
  | _ :: l => envS_marks (l := l)

theorem envS_get : ∀ {l : List (Nat × SV)} {i : Nat}, (∃ v, (i, v) ∈ l ∧ (envS l).get i = v) ∨ (envS l).get i = .c .junk
  | [], _ => .inr rfl
  | (j, v) :: r, i => by
    simp only [envS]
    rw [get_put]
    by_cases h : i = j
    · rw [if_pos h]; exact .inl ⟨v, by simp [h], rfl⟩
    · rw [if_neg h]
      rcases envS_get (l := r) (i := i) with ⟨u, hu, he⟩ | he
      · exact .inl ⟨u, List.mem_cons_of_mem _ hu, he⟩
      · exact .inr he

theorem putPs_rel {ρ : Asg} {nt : Nat} : ∀ {ps : List Nat} {avs : List SV} {vs : List Value} {e : Env} {T : Array Value}, T.size = nt → (∀ p ∈ ps, p < nt) → ps.length = vs.length → relVs ρ avs vs → (∀ i, (e.get i).rel ρ (T.getD i undef)) →
    ((ps.zip vs).foldl (fun tmps (t, a) => tmps.setIfInBounds t a) T).size = nt ∧
      ∀ i, ((putPs ps avs e).get i).rel ρ (((ps.zip vs).foldl (fun tmps (t, a) => tmps.setIfInBounds t a) T).getD i undef)
  | [], avs, vs, e, T, hs, _, _, _, h => by
    simp only [putPs, List.zip_nil_left, List.foldl_nil]
    exact ⟨hs, h⟩
  | p :: ps, [], [], _, _, _, _, hl, _, _ => by simp at hl
  | p :: ps, [], _ :: _, _, _, _, _, _, hr, _ => hr.elim
  | p :: ps, _ :: _, [], _, _, _, _, _, hr, _ => hr.elim
  | p :: ps, a :: avs, v :: vs, e, T, hs, hp, hl, hr, h => by
    simp only [putPs, List.zip_cons_cons, List.foldl_cons]
    have hp0 := hp p (by simp)
    refine putPs_rel (by simp [hs]) (fun q hq => hp q (by simp [hq])) (by simpa using hl) hr.2 ?_
    intro i
    rw [get_put]
    by_cases hi : i = p
    · subst hi
      rw [if_pos rfl]
      have : (T.setIfInBounds i v).getD i undef = v := by simp [Array.getD_eq_getD_getElem?, hs, hp0]
      rw [this]; exact hr.1
    · rw [if_neg hi]
      have : (T.setIfInBounds p v).getD i undef = T.getD i undef := by
        have : ¬ p = i := fun hh => hi hh.symm
        simp [Array.getD_eq_getD_getElem?, Array.getElem?_setIfInBounds, this]
      rw [this]; exact h i

theorem putPs_uses : ∀ {ps : List Nat} {avs : List SV} {e : Env} {i k : Nat}, ((putPs ps avs e).get i).uses [k] = true → (∃ a ∈ avs, a.uses [k] = true) ∨ (e.get i).uses [k] = true
  | [], _, _, _, _, h => .inr (by simpa [putPs] using h)
  | _ :: _, [], _, _, _, h => .inr (by simpa [putPs] using h)
  | p :: ps, a :: avs, e, i, k, h => by
    simp only [putPs] at h
    rcases putPs_uses h with ⟨b, hb, hu⟩ | hu
    · exact .inl ⟨b, List.mem_cons_of_mem _ hb, hu⟩
    · rw [get_put] at hu
      by_cases hi : i = p
      · rw [if_pos hi] at hu; exact .inl ⟨a, by simp, hu⟩
      · rw [if_neg hi] at hu; exact .inr hu

theorem round_of {P : Program} {B : Tabs} (hB : TabsOK P B) {nt : Nat} {stO : List (Nat × SV)} {ps : Array Tmp} {asg body : Code} {args : List SV} {pre : Heap} {np : Nat} {post : Heap}
    (hn : (allLt np (nmsV args) && (allLt np (nmsH pre) && (allLt np (nmsSt stO) && (allLtP nt ps.toList && Nat.ble 1 np)))) = true)
    (h : ∀ (Φ Φ' : Obj → Prop) (ρ : Asg) (w : World), roundK ⟨P, w, ownB ρ ((0, true, .raw Φ) :: pre), nt, some (ρ 0).blk, ρ, np, none, #[]⟩ B asg body np (.raw Φ) (.raw Φ') post
      ⟨putPs ps.toList args (envS stO), (0, true, .raw Φ) :: pre, np⟩) :
    RoundT P nt stO ps asg body args pre np post where
  h fn T0 d ρ w vals hT hO hv hsz hH := by
    simp only [Bool.and_eq_true] at hn
    obtain ⟨n1, n2, n3, n4, n5⟩ := hn
    have n1 := allLt_iff.1 n1
    have n2 := allLt_iff.1 n2
    have n3 := allLt_iff.1 n3
    have n5 := Nat.le_of_ble_eq_true n5
    have n4 : ∀ p ∈ ps.toList, p < nt := by
      clear h hsz
      revert n4
      generalize ps.toList = l
      intro n4
      induction l with
      | nil => simp
      | cons x r ih =>
        simp only [allLtP] at n4
        cases hb : Nat.blt x nt with
        | false => simp [hb] at n4
        | true =>
          simp [hb] at n4
          intro p hp
          rcases List.mem_cons.1 hp with rfl | hp
          · exact Eq.mp Nat.blt_eq hb
          · exact ih n4 p hp
    have hK := h (fun x => x = .loop { state := .ready, pending := none, fn := fn, tmps := T0, params := ps, assign := asg, body := body, defers := d }) (fun x => x = .loop { state := .busy, pending := none, fn := fn, tmps := T0, params := ps, assign := asg, body := body, defers := d }) ρ w
    have hK : roundK ⟨P, w, ownB ρ ((0, true, recO fn T0 ps asg body d) :: pre), nt, some (ρ 0).blk, ρ, np, none, #[]⟩ B asg body np (recO fn T0 ps asg body d) (busyO fn T0 ps asg body d) post ⟨putPs ps.toList args (envS stO), (0, true, recO fn T0 ps asg body d) :: pre, np⟩ := hK
    generalize hcx : (⟨P, w, ownB ρ ((0, true, recO fn T0 ps asg body d) :: pre), nt, some (ρ 0).blk, ρ, np, none, #[]⟩ : Cx) = cx at hK
    have e1 : cx.P = P := by rw [← hcx]
    have e2 : cx.rd = some (ρ 0).blk := by rw [← hcx]
    have hB' : TabsOK cx.P B := by rw [e1]; exact hB
    have hput := putPs_rel (ρ := ρ) (nt := nt) (ps := ps.toList) (avs := args) (vs := vals.toList) (e := envS stO) (T := T0) hT n4 (by simp [hsz]) hv (fun i => by
      rcases envS_get (l := stO) (i := i) with ⟨v, hm, he⟩ | he
      · rw [he]; exact hO i v hm
      · rw [he]; trivial)
    have hfold : (ps.zip vals).foldl (fun tmps (t, a) => tmps.setIfInBounds t a) T0 = (ps.toList.zip vals.toList).foldl (fun tmps (t, a) => tmps.setIfInBounds t a) T0 := by
      rw [← Array.foldl_toList, Array.toList_zip]
    rw [hfold]
    have hs : Sat cx ρ ⟨putPs ps.toList args (envS stO), (0, true, recO fn T0 ps asg body d) :: pre, np⟩ { tmps := (ps.toList.zip vals.toList).foldl (fun tmps (t, a) => tmps.setIfInBounds t a) T0, defers := [] } w := by
      rw [← hcx]
      refine ⟨hput.1, by simp only [putPs_marks, envS_marks, List.map_nil], hput.2, hH, ⟨?_, by simp only [putPs_marks, envS_marks]; simp, ?_⟩, fun _ _ => rfl, (fun _ h => by cases h), Nat.le_refl _⟩
      · intro i k hk
        rcases putPs_uses hk with ⟨a, ha, hu⟩ | hu
        · exact n1 k (mem_nmsV ha (SV.uses_nms.1 hu))
        · rcases envS_get (l := stO) (i := i) with ⟨v, hm, he⟩ | he
          · rw [he] at hu; exact n3 k (mem_nmsSt hm (SV.uses_nms.1 hu))
          · rw [he] at hu; simp [SV.uses, SC.uses, SC.nms, anyMem] at hu
      · intro k own o hl
        rw [look_cons] at hl
        by_cases hk : k = 0
        · rw [if_pos hk] at hl; simp at hl; obtain ⟨_, rfl⟩ := hl
          subst hk
          exact ⟨n5, fun j hj => by simp [recO, SO.uses] at hj⟩
        · rw [if_neg hk] at hl
          have := look_nms hl
          exact ⟨n2 k this.1, fun j hj => n2 j (this.2 j (SO.uses_nms.1 hj))⟩
    refine roundIn_of_wpIn trivial ?_
    have hfr : Fence.wide.inRound (ρ 0).blk = fen cx.rd := by rw [e2]; rfl
    rw [hfr, ← e1]
    unfold roundK at hK
    refine (vc_sound hB' asg _ _ hK).h ρ _ w hs _ ?_
    intro ex s1 ρ1 a1 w1 hq hs1
    cases ex with
    | normal =>
      obtain ⟨es, Hs, nxs⟩ := s1
      simp only at hq
      split at hq
      · rename_i e0 H0 nx0 o heq hl
        simp only [St.mk.injEq] at heq
        obtain ⟨rfl, rfl, rfl⟩ := heq
        obtain ⟨rfl, hbody⟩ := hq
        have hb0 : ρ1 0 = ρ 0 := by have := hs1.base 0 (by rw [← hcx]; exact n5); rw [this, ← hcx]
        obtain ⟨x, hx, hxx⟩ := (hs1.heap.reg 0 true _ hl).keys _ rfl
        have hx : w1.heap[(ρ 0).blk]? = some (.loop { state := .ready, pending := none, fn := fn, tmps := T0, params := ps, assign := asg, body := body, defers := d }) := by
          rw [← hb0, hx]; exact congrArg some hxx
        refine ⟨_, run_beginRound hx rfl, ?_⟩
        have hs2 := hs1.setObj (Φ' := fun x => x = .loop { state := .busy, pending := none, fn := fn, tmps := T0, params := ps, assign := asg, body := body, defers := d }) hl _ rfl
        rw [hb0] at hs2
        refine (vc_sound hB' body _ _ hbody).h ρ1 _ _ hs2 _ ?_
        intro ex s2 ρ2 a2 w2 hq hs3
        cases ex with
        | normal =>
          obtain ⟨es2, Hs2, nxs2⟩ := s2
          simp only at hq
          split at hq
          · rename_i e0 H0 nx0 o heq hl2
            simp only [St.mk.injEq] at heq
            obtain ⟨rfl, rfl, rfl⟩ := heq
            obtain ⟨rfl, hret⟩ := hq
            have hb2 : ρ2 0 = ρ 0 := by have := hs3.base 0 (by rw [← hcx]; exact n5); rw [this, ← hcx]
            obtain ⟨y, hy, hyy⟩ := (hs3.heap.reg 0 true _ hl2).keys _ rfl
            have hy : w2.heap[(ρ 0).blk]? = some (.loop { state := .busy, pending := none, fn := fn, tmps := T0, params := ps, assign := asg, body := body, defers := d }) := by
              rw [← hb2, hy]; exact congrArg some hyy
            have hs4 := hs3.setObj (Φ' := fun x => x = .loop { state := .ready, pending := none, fn := fn, tmps := T0, params := ps, assign := asg, body := body, defers := d }) hl2 _ rfl
            rw [hb2] at hs4
            obtain ⟨ρ3, h1, h2, h3⟩ := ret_sat (rv := .c (.b true)) (v := .bool true) hs4 (by rw [← hcx]) (show SV.rel ρ2 (.c (.b true)) (.bool true) from rfl) (below_b _ _) hret
            refine ⟨_, _, run_endRound none hy, ρ3, fun k hk => by have := h1 k hk; rw [this, ← hcx], rfl, ?_⟩
            rw [← hcx] at h3
            exact h3
          · exact hq.elim
        | _ => exact hq.elim
      · exact hq.elim
    | _ => exact hq.elim

end Sx
end Go

namespace Go
namespace Sx

def svsOf : List (Nat × SV) → List SV
  | [] => []
  | (_, v) :: r => v :: svsOf r

def slotsOf : List (Nat × SV) → List Nat
  | [] => []
  | (i, _) :: r => i :: slotsOf r

theorem svsOf_rel {ρ : Asg} {T : Array Value} : ∀ {st : List (Nat × SV)}, (∀ i sv, (i, sv) ∈ st → sv.rel ρ (T.getD i undef)) ↔ relVs ρ (svsOf st) ((slotsOf st).map fun i => T.getD i undef)
  | [] => by simp [svsOf, slotsOf, relVs]
  | (j, v) :: r => by
    simp only [svsOf, slotsOf, List.map_cons, relVs, ← svsOf_rel (st := r), List.mem_cons, Prod.mk.injEq]
    constructor
    · exact fun h => ⟨h j v (.inl ⟨rfl, rfl⟩), fun i sv hm => h i sv (.inr hm)⟩
    · rintro ⟨h1, h2⟩ i sv (⟨rfl, rfl⟩ | hm)
      · exact h1
      · exact h2 i sv hm

theorem relSt_agree {ρ ρ' : Asg} {T : Array Value} {st : List (Nat × SV)} {n : Nat} (h : ∀ i sv, (i, sv) ∈ st → sv.rel ρ (T.getD i undef)) (hn : allLt n (nmsSt st) = true) (hρ : ∀ k, k < n → ρ' k = ρ k) :
    ∀ i sv, (i, sv) ∈ st → sv.rel ρ' (T.getD i undef) := fun i sv hm =>
  SV.rel_agree (fun k hk => hρ k (allLt_iff.1 hn k (mem_nmsSt hm (SV.uses_nms.1 hk)))) (h i sv hm)

theorem relVs_take {ρ : Asg} : ∀ {l l' : List SV} {vs vs' : List Value}, l.length = vs.length → relVs ρ (l ++ l') (vs ++ vs') → relVs ρ l vs ∧ relVs ρ l' vs'
  | [], _, [], _, _, h => ⟨trivial, h⟩
  | [], _, _ :: _, _, h, _ => by simp at h
  | _ :: _, _, [], _, h, _ => by simp at h
  | _ :: _, _, _ :: _, _, hl, h => by
    have := relVs_take (by simpa using hl) h.2
    exact ⟨⟨h.1, this.1⟩, this.2⟩

def yieldK (args : List SV) (stO stA : List (Nat × SV)) (pre : Heap) (np : Nat) (post : Heap) (R : SO) (n0 kl : Nat) (nps : Nat) (acts : List SV) (H : Heap) (nx : Nat) (K : Eff → Prop) : Prop :=
  forceVs (acts ++ svsOf stA) fun avs => findVsK 0 nx (args ++ svsOf stO) avs [(0, kl)] fun τ => findHK 0 nx H pre τ fun τ =>
  bif allIn (0 :: keys pre) (nmsV (args ++ svsOf stO)) && (allIn (0 :: keys pre) (nmsH pre) && (nodupB (mapN (rnf τ) (0 :: keys pre)) && (allLt nx (mapN (rnf τ) (0 :: keys pre)) &&
      (allNp np (0 :: keys pre) (nmsH post) && (okPost np pre post && (allLt np (0 :: keys pre) && (eqNs (slotsOf stO) (slotsOf stA) && (Nat.beq args.length acts.length && (Nat.beq acts.length nps &&
      (Nat.beq (rnf τ 0) kl && (Nat.blt kl n0 && (allLt n0 (nmsSt stA) && (bif memN 0 (keys pre) then false else bif memN 0 (keys post) then false else true))))))))))))) then
    entVs [] avs (renVs (rnf τ) (args ++ svsOf stO)) ∧ entH [] H (rnf τ) ((0, true, R) :: pre) ∧
    K ⟨.c (.b true), mapN (rnf τ) (0 :: keys pre), (fshift np nx τ 0, true, R) :: (renH (fshift np nx τ) post ++ deadOf τ (0 :: keys post) pre), rangeN nx (maxN (nmsH post) np - np)⟩
  else False

theorem okPost_cons {np : Nat} {pre : Heap} {k : Nat} {x : Bool × SO} : ∀ {post : Heap}, okPost np pre post = true → memN k (keys post) = false → okPost np ((k, x) :: pre) post = true
  | [], _, _ => rfl
  | (j, true, o) :: r, h, hm => by
    simp only [okPost] at h ⊢
    refine okPost_cons h ?_
    simp only [keys, memN] at hm
    cases hb : Nat.beq k j <;> simp_all
  | (j, false, o) :: r, h, hm => by
    simp only [keys, memN] at hm
    obtain ⟨hb, hm'⟩ : Nat.beq k j = false ∧ memN k (keys r) = false := by cases hb : Nat.beq k j <;> simp_all
    simp only [okPost] at h ⊢
    cases hlt : Nat.blt j np with
    | false => simp [hlt] at h
    | true =>
      simp only [hlt, cond_true] at h ⊢
      have hl : look ((k, x) :: pre) j = look pre j := by
        rw [look_cons, if_neg]
        rintro rfl
        exact Nat.ne_of_beq_eq_false hb rfl
      rw [hl]
      split at h
      · rename_i own' o' hlk
        cases hs : sameRoomB o' o with
        | false => simp [hs] at h
        | true => simp only [hs, cond_true] at h ⊢; exact okPost_cons h hm'
      · cases h

theorem deadOf_cons0 {τ : List (Nat × Nat)} {ks : List Nat} {pre : Heap} {R : SO} : deadOf τ (0 :: ks) ((0, true, R) :: pre) = deadOf τ (0 :: ks) pre := by
  simp [deadOf, memN]

theorem yield_step {cx : Cx} {o : Oper} {e : Env} {H : Heap} {nx : Nat} {K : Eff → Prop} {c : Call} {x : Operand} {l : Nat} {fn : FuncId} {d nt : Nat} {T0 : Array Value} {ps : Array Tmp} {asg body : Code}
    {args : List SV} {stO : List (Nat × SV)} {pre : Heap} {np : Nat} {post : Heap} (stA : List (Nat × SV)) (kl : Nat) (T : RoundT cx.P nt stO ps asg body args pre np post) (hT : T0.size = nt)
    (hA : ∀ i sv, (i, sv) ∈ stA → sv.rel cx.ρ0 (T0.getD i undef)) (hl : (cx.ρ0 kl).blk = l) (hrd : cx.rd = none) (ho : o.op = .call c) (hc : c.callee = .value x) (hx : ev e x = .c (.v (.func (.yield l) #[] #[])))
    (h : yieldK args stO stA pre np post (recO fn T0 ps asg body d) cx.n0 kl ps.toList.length (evs e c.args.toList) H nx K) :
    ∃ F, CallOK cx o e H nx F ∧ K F := by
  simp only [yieldK, forceVs_eq, findVsK_eq, findHK_eq] at h
  generalize hτ : findH 0 nx H pre (findVs 0 nx (args ++ svsOf stO) (evs e c.args.toList ++ svsOf stA) [(0, kl)]) = τ at h
  obtain ⟨hall, hargs, hpre, hK⟩ := bif_and h
  simp only [Bool.and_eq_true] at hall
  obtain ⟨c1, c2, c3, c4, c5, c6, c7, c8, c9, c10, c11, c12, c13, c14⟩ := hall
  have c8 := eqNs_eq c8
  have c9 := Nat.eq_of_beq_eq_true c9
  have c10 := Nat.eq_of_beq_eq_true c10
  have c11 := Nat.eq_of_beq_eq_true c11
  have c12 : kl < cx.n0 := Eq.mp Nat.blt_eq c12
  have c13 := allLt_iff.1 c13
  obtain ⟨m1, m2⟩ : memN 0 (keys pre) = false ∧ memN 0 (keys post) = false := by
    cases h1 : memN 0 (keys pre) <;> cases h2 : memN 0 (keys post) <;> simp_all
  have hR0 : ∀ H' : Heap, nmsH ((0, true, recO fn T0 ps asg body d) :: H') = 0 :: nmsH H' := fun _ => rfl
  refine call_core (args := args ++ svsOf stO) (pre := (0, true, recO fn T0 ps asg body d) :: pre) (np := np) (r := .c (.b true)) (post := (0, true, recO fn T0 ps asg body d) :: post) (τ := τ)
    ⟨c1, ?_, c3, c4, ?_, ?_, c7⟩ hpre ?_ ?_
  · rw [hR0, allIn_iff]
    intro k hk
    rcases List.mem_cons.1 hk with rfl | hk
    · simp [keys]
    · exact allIn_iff.1 c2 k hk
  · rw [hR0, allNp_iff]
    intro k hk hkn
    simp only [SV.nms, SC.nms, List.nil_append] at hk
    rcases List.mem_cons.1 hk with rfl | hk
    · simp [keys]
    · exact allNp_iff.1 c5 k hk hkn
  · simp only [okPost]
    exact okPost_cons c6 m2
  · intro ρ a w hr hbase hH KK Q hKK
    have hops : ∀ y ∈ c.args.toList, y ∈ o.op.operands.toList := fun y hy => by simp [ho, Op.operands, Call.operands, hc]; exact .inr (by simpa using hy)
    have hopx : x ∈ o.op.operands.toList := by simp [ho, Op.operands, Call.operands, hc]
    have hfit : ∀ y, y ∈ o.op.operands.toList → (ev e y).rel ρ (a.eval y) := fun y hy => reads_fit hy hr
    have hx' := hfit x hopx
    rw [hx] at hx'; simp only [SV.rel, SC.rel] at hx'
    have hAρ : relVs ρ (svsOf stA) ((slotsOf stA).map fun i => T0.getD i undef) := svsOf_rel.1 fun i sv hm =>
      SV.rel_agree (fun k hk => hbase k (c13 k (mem_nmsSt hm (SV.uses_nms.1 hk)))) (hA i sv hm)
    have hvals := renVs_rel.1 (entVs_rel (nl := []) (by intro k hk; cases hk) hargs (relVs_append (evs_rel fun y hy => hfit y (hops y hy)) hAρ))
    have hlen : args.length = (c.args.toList.map a.eval).length := by
      have := relVs_length (evs_rel (ρ := ρ) (e := e) (a := a) fun y hy => hfit y (hops y hy))
      omega
    obtain ⟨hv1, hv2⟩ := relVs_take hlen hvals
    rw [← c8] at hv2
    have hblk : (ρ (rnf τ 0)).blk = l := by rw [c11, hbase kl c12, hl]
    have hvsz : (c.args.map a.eval).size = ps.size := by
      have := relVs_length (evs_rel (ρ := ρ) (e := e) (a := a) fun y hy => hfit y (hops y hy))
      simp at this c10 ⊢
      omega
    have hround := T.h fn T0 d (fun k => ρ (rnf τ k)) w (c.args.map a.eval) hT (svsOf_rel.2 hv2) (by simpa using hv1) hvsz hH
    obtain ⟨y, hy, hyy⟩ := (hH.reg 0 true (recO fn T0 ps asg body d) (by rw [look_cons, if_pos rfl])).keys _ rfl
    simp only [hblk] at hy hround
    have hy : w.heap[l]? = some (.loop { state := .ready, pending := none, fn := fn, tmps := T0, params := ps, assign := asg, body := body, defers := d }) := by
      rw [hy]; exact congrArg some hyy
    have hrun : (execOp a.eval o).run cx.P w = .ok (.round l fn ((ps.zip (c.args.map a.eval)).foldl (fun tmps (t, a) => tmps.setIfInBounds t a) T0) asg body) w := by
      simp only [execOp, ho, resolve, hc, hx', Deferred.ofValue, Sem.run_bind, Sem.run_pure, Result.andThen_ok, invoke, Array.empty_append]
      rw [run_yield hy hvsz]
    refine ⟨fun _ _ => trivial, ?_⟩
    rw [Oper.semAt_eq _ _ _ (by simp [ho]), hrun, Oper.uponIn_round]
    refine ⟨fun h => by simp [fen, Fence.wide] at h, ?_⟩
    have hw : fen cx.rd = Fence.wide := by rw [hrd]; rfl
    rw [hw]
    refine hround.mono ?_
    rintro en w' ⟨ρc, hag, rfl, hpost⟩
    exact hKK ρc (.bool true) w' hag rfl hpost
  · have e1 : maxN ((SV.c (.b true)).nms ++ nmsH ((0, true, recO fn T0 ps asg body d) :: post)) np = maxN (nmsH post) np := by
      rw [hR0]
      simp only [SV.nms, SC.nms, List.nil_append, maxN]
      have h0 : 0 < np := allLt_iff.1 c7 0 (by simp [keys])
      cases hb : Nat.blt np (0 + 1) with
      | false => rfl
      | true => have := Eq.mp Nat.blt_eq hb; omega
    have e2 : renH (fshift np nx τ) ((0, true, recO fn T0 ps asg body d) :: post) = (fshift np nx τ 0, true, recO fn T0 ps asg body d) :: renH (fshift np nx τ) post := rfl
    rw [e1, e2]
    simp only [keys]
    rw [deadOf_cons0]
    exact hK

def itK (cx : Cx) (B : Tabs) (fn : Func) (c : Code) (Q : Exit → St → Prop) (s : St) (caps : List Nat) (R : SO) (l : Nat) (ρ : Asg) : Prop := match s with
  | ⟨e, H, nx⟩ => vc ⟨cx.P, cx.w0, cx.M, fn.ntmps, none, ρ, nx + 2, none, #[]⟩ B c
    (fun ex s' => match ex, s' with
      | .normal, ⟨e', H', nx'⟩ => itEnd e H' nx' e' nx R Q
      | .ret, ⟨e', H', nx'⟩ => itEnd e H' nx' e' nx R Q
      | _, _ => False)
    ⟨envOf 0 (.c (.v (.func (.yield l) #[] #[])) :: capPs caps), (nx + 1, true, R) :: (nx, true, dfrO) :: H, nx + 2⟩
where
  itEnd (e : Env) (H' : Heap) (nx' : Nat) (e' : Env) (nx : Nat) (R : SO) (Q : Exit → St → Prop) : Prop :=
    bif eqNs e'.marks [] then (match look H' (nx + 1) with
      | some (true, o) => o = R ∧ Q .normal ⟨.mark nx e, (nx + 1, false, .cells []) :: H', nx'⟩
      | _ => False) else False

def rangeK (cx : Cx) (B : Tabs) (g : FuncId) (fn : Func) (c : Code) (ps : Array Tmp) (asg body : Code) (Q : Exit → St → Prop) (s : St) (f : SV) : Prop :=
  match f with
  | .c (.f g' caps) => bif Nat.beq g' g && Nat.ble (1 + caps.length) fn.ntmps then
      match s with
      | ⟨e, H, nx⟩ => ∀ (fo d l : Nat) (T0 : Array Value) (ρ : Asg), T0.size = cx.nt → (∀ i, (e.get i).rel ρ (T0.getD i undef)) → (ρ (nx + 1)).blk = l → itK cx B fn c Q ⟨e, H, nx⟩ caps (recO fo T0 ps asg body d) l ρ
    else False
  | _ => False

theorem range_step {cx : Cx} {B : Tabs} (hB : TabsOK cx.P B) {f : Operand} {ps : Array Tmp} {asg body : Code} {Q : Exit → St → Prop} {s : St} {g : FuncId} {fn : Func} {c : Code}
    (hrd : cx.rd = none) (hf : cx.P.funcs[g]? = some fn) (hb : fn.body = some c) (henter : ∀ args w, (callFunc g args).run cx.P w = .ok (.enter g args) w) (hres : fn.results = #[])
    (h : rangeK cx B g fn c ps asg body Q s (ev s.e f)) : Sound cx (.rangeFunc f ps asg body) Q s := by
  refine ⟨fun ρ a w hs QQ hQ => ?_⟩
  unfold rangeK at h
  split at h
  · rename_i g' caps he
    obtain ⟨hck, hgo⟩ := bif_and h
    clear h
    simp only [Bool.and_eq_true] at hck
    have hg := Nat.eq_of_beq_eq_true hck.1
    have hle := Nat.le_of_ble_eq_true hck.2
    subst hg
    have hfv : (ev s.e f).rel ρ (a.eval f) := ev_rel fun t _ => hs.env t
    rw [he] at hfv
    simp only [SV.rel, SC.rel] at hfv
    have hcb : ∀ k ∈ caps, k < s.nx := by
      have := ev_below (e := s.e) (x := f) (n := s.nx) (fun t _ => hs.bnd.env t)
      rw [he, SV.below_c] at this
      exact this
    have hw : fen cx.rd = Fence.wide := by rw [hrd]; rfl
    rw [hw]
    refine wpIn_rangeFunc fun fo _ => ?_
    -- the two blocks
    have h1 := hs.newObj (Φ := fun x => x = .deferred (some [])) (.deferred (some [])) rfl
    have h2 := h1.newObj (Φ := fun x => x = .loop { state := .ready, pending := none, fn := fo, tmps := a.tmps, params := ps, assign := asg, body := body, defers := w.heap.size }) (.loop { state := .ready, pending := none, fn := fo, tmps := a.tmps, params := ps, assign := asg, body := body, defers := w.heap.size }) rfl
    simp only at h2
    obtain ⟨ρ2, hρ2⟩ : ∃ ρ2, ρ2 = upd (upd ρ s.nx ⟨w.heap.size, 0, 0⟩) (s.nx + 1) ⟨(push w (.deferred (some []))).heap.size, 0, 0⟩ := ⟨_, rfl⟩
    rw [← hρ2] at h2
    have hold : ∀ k, k < s.nx → ρ2 k = ρ k := fun k hk => by rw [hρ2, upd_ne (by omega), upd_ne (by omega)]
    have hkd : ρ2 s.nx = ⟨w.heap.size, 0, 0⟩ := by rw [hρ2, upd_ne (by omega), upd_eq]
    have hkl : (ρ2 (s.nx + 1)).blk = w.heap.size + 1 := by rw [hρ2, upd_eq, push_size]
    obtain ⟨W2, hW2⟩ : ∃ W2, W2 = (w.alloc (.deferred (some []))).alloc (.loop { state := .ready, pending := none, fn := fo, tmps := a.tmps, params := ps, assign := asg, body := body, defers := w.heap.size }) := ⟨_, rfl⟩
    refine ⟨w.heap.size + 1, [{ target := .collected w.heap.size, args := #[] }], W2, { target := .fn (.func g') (caps.map fun k => Value.pointer (some (adr ρ k 0))).toArray, args := #[.func (.yield (w.heap.size + 1)) #[] #[]] }, W2, g',
      #[.func (.yield (w.heap.size + 1)) #[] #[]] ++ (caps.map fun k => Value.pointer (some (adr ρ k 0))).toArray, W2, by rw [hW2]; exact run_enterLoop_outer fo a.tmps ps asg body, ?_, fun _ _ => trivial, ?_, fun h => by simp [Fence.wide] at h, ?_⟩
    · simp only [resolve, rangeCall, hfv, Deferred.ofValue, Sem.run_bind, Sem.run_pure, Result.andThen_ok]
      simp [Act.eval]
    · simp only [invoke]
      rw [henter]
    · have hW3 : W2 = push (push w (.deferred (some []))) (.loop { state := .ready, pending := none, fn := fo, tmps := a.tmps, params := ps, assign := asg, body := body, defers := w.heap.size }) := hW2
      rw [hW3]
      obtain ⟨e0, H0, nx0⟩ := s
      simp only at h2 hold hkd hkl hcb hgo
      have hit := hgo fo w.heap.size (w.heap.size + 1) a.tmps ρ2 hs.size (fun i => SV.rel_agree (fun k hk => hold k (hs.bnd.env i k hk)) (hs.env i)) hkl
      simp only [itK] at hit
      generalize hcI : (⟨cx.P, cx.w0, cx.M, fn.ntmps, none, ρ2, nx0 + 2, none, #[]⟩ : Cx) = cI at hit
      have eP : cI.P = cx.P := by rw [← hcI]
      have hsI : Sat cI ρ2 ⟨envOf 0 (.c (.v (.func (.yield (w.heap.size + 1)) #[] #[])) :: capPs caps), (nx0 + 1, true, recO fo a.tmps ps asg body w.heap.size) :: (nx0, true, dfrO) :: H0, nx0 + 2⟩
          { tmps := (#[Value.func (.yield (w.heap.size + 1)) #[] #[]] ++ (caps.map fun k => Value.pointer (some (adr ρ k 0))).toArray) ++ Array.replicate (fn.ntmps - (#[Value.func (.yield (w.heap.size + 1)) #[] #[]] ++ (caps.map fun k => Value.pointer (some (adr ρ k 0))).toArray).size) undef, defers := [] }
          (push (push w (.deferred (some []))) (.loop { state := .ready, pending := none, fn := fo, tmps := a.tmps, params := ps, assign := asg, body := body, defers := w.heap.size })) := by
        rw [← hcI]
        have hrel : relVs ρ2 (.c (.v (.func (.yield (w.heap.size + 1)) #[] #[])) :: capPs caps) (#[Value.func (.yield (w.heap.size + 1)) #[] #[]] ++ (caps.map fun k => Value.pointer (some (adr ρ k 0))).toArray).toList := by
          have hc2 : (caps.map fun k => Value.pointer (some (adr ρ k 0))) = caps.map fun k => Value.pointer (some (adr ρ2 k 0)) := by
            apply List.map_congr_left
            intro k hk
            simp only [adr, hold k (hcb k hk)]
          rw [hc2]
          simp only [Array.toList_append, List.singleton_append]
          exact ⟨rfl, capPs_rel⟩
        refine ⟨?_, by simp only [envOf_marks, List.map_nil], ?_, h2.heap, ⟨?_, by simp only [envOf_marks]; simp, ?_⟩, fun _ _ => rfl, (fun _ h => by cases h), Nat.le_refl _⟩
        · simp only [Array.size_append, Array.size_replicate, List.size_toArray, List.length_cons, List.length_nil, List.length_map]; omega
        · intro i
          simp only [envOf_get, Nat.zero_le, if_true, Nat.sub_zero]
          cases hai : (SV.c (.v (.func (.yield (w.heap.size + 1)) #[] #[])) :: capPs caps)[i]? with
          | none => trivial
          | some sv =>
            obtain ⟨v, hv', hr⟩ := relVs_get hrel hai
            have hlt : i < (#[Value.func (.yield (w.heap.size + 1)) #[] #[]] ++ (caps.map fun k => Value.pointer (some (adr ρ k 0))).toArray).size := by
              have := (List.getElem?_eq_some_iff.1 hv').1; simpa using this
            have : ((#[Value.func (.yield (w.heap.size + 1)) #[] #[]] ++ (caps.map fun k => Value.pointer (some (adr ρ k 0))).toArray) ++ Array.replicate (fn.ntmps - (#[Value.func (.yield (w.heap.size + 1)) #[] #[]] ++ (caps.map fun k => Value.pointer (some (adr ρ k 0))).toArray).size) undef).getD i undef = v := by
              rw [Array.getD_eq_getD_getElem?, Array.getElem?_append_left hlt]
              have h2 : (#[Value.func (.yield (w.heap.size + 1)) #[] #[]] ++ (caps.map fun k => Value.pointer (some (adr ρ k 0))).toArray)[i]? = some v := by rw [← Array.getElem?_toList]; exact hv'
              rw [h2]; rfl
            simp only [Option.getD_some]
            rw [this]; exact hr
        · intro i k hk
          simp only [envOf_get, Nat.zero_le, if_true, Nat.sub_zero] at hk
          cases hai : (SV.c (.v (.func (.yield (w.heap.size + 1)) #[] #[])) :: capPs caps)[i]? with
          | none => rw [hai] at hk; simp [SV.uses, SC.uses, SC.nms, anyMem] at hk
          | some sv =>
            rw [hai] at hk
            simp only [Option.getD_some] at hk
            have hm := List.mem_of_getElem? hai
            rcases List.mem_cons.1 hm with rfl | hm
            · simp [SV.uses, SC.uses, SC.nms, anyMem] at hk
            · have : ∀ l : List Nat, sv ∈ capPs l → ∃ j ∈ l, sv = .c (.p j 0 0 0) := by
                intro l; induction l with
                | nil => intro h; cases h
                | cons j l ih =>
                  intro h
                  rcases List.mem_cons.1 h with rfl | h
                  · exact ⟨j, by simp, rfl⟩
                  · obtain ⟨j', h1, h2⟩ := ih h; exact ⟨j', by simp [h1], h2⟩
              obtain ⟨j, hj, rfl⟩ := this caps hm
              have hkj := SV.uses_nms.1 hk
              simp [SV.nms, SC.nms] at hkj
              have := hcb j hj
              show k < nx0 + 2
              omega
        · exact h2.bnd.heap
      rw [← eP]
      rw [← eP] at hf
      refine callsIn_of_wp (F := Fence.wide) hf hb trivial ?_ rfl
      have hwI : fen cI.rd = Fence.wide := by rw [← hcI]; rfl
      rw [← hwI]
      have hBI : TabsOK cI.P B := by rw [eP]; exact hB
      refine (vc_sound hBI c _ _ hit).h ρ2 _ _ hsI _ ?_
      intro ex s' ρ' a' w' hq hs'
      obtain ⟨e1, H1, nx1⟩ := s'
      have fin : itK.itEnd e0 H1 nx1 e1 nx0 (recO fo a.tmps ps asg body w.heap.size) Q → a'.defers = [] ∧ ∃ v, (results fn a'.tmps).run cI.P w' = .ok v w' ∧
          rangePost (fen cI.rd) 0 cI.P (w.heap.size + 1) QQ { a with defers := [{ target := .collected w.heap.size, args := #[] }] ++ a.defers } (.returned v) w' := by
        intro hq
        simp only [itK.itEnd] at hq
        obtain ⟨hmk, hq⟩ := bif_and hq
        have hmk := eqNs_eq hmk
        split at hq
        · rename_i o hlk
          obtain ⟨rfl, hq⟩ := hq
          have hb1 : ∀ k, k < nx0 + 2 → ρ' k = ρ2 k := fun k hk => by have := hs'.base k (by rw [← hcI]; exact hk); rw [this, ← hcI]
          obtain ⟨y, hy, hyy⟩ := (hs'.heap.reg (nx0 + 1) true _ hlk).keys _ rfl
          have hy : w'.heap[w.heap.size + 1]? = some (.loop { state := .ready, pending := none, fn := fo, tmps := a.tmps, params := ps, assign := asg, body := body, defers := w.heap.size }) := by
            rw [← hkl, ← hb1 (nx0 + 1) (by omega), hy]; exact congrArg some hyy
          have hlt1 := (hs'.bnd.heap _ _ _ hlk).1
          have hdrop := hs'.dropObj hlk hlt1 (.loop { state := .exhausted, pending := none, fn := fo, tmps := a.tmps, params := ps, assign := asg, body := body, defers := w.heap.size })
          rw [hb1 (nx0 + 1) (by omega), hkl] at hdrop
          have hnx : nx0 + 2 ≤ nx1 := by have := hs'.n0; rw [← hcI] at this; exact this
          have hold' : ∀ k, k < nx0 → ρ' k = ρ k := fun k hk => (hb1 k (by omega)).trans (hold k hk)
          refine ⟨by have := hs'.defers; rw [this]; simp only [hmk, List.map_nil], ?_⟩
          refine ⟨.tuple #[], ?_, none, _, run_endLoop hy (by simp), ?_⟩
          · simp [results, hres]
          · refine hQ _ _ ρ' _ _ hq ?_
            exact { size := hs.size
                    defers := by
                      simp only [Env.marks, List.map_cons, List.singleton_append]
                      have e2 : mkD ρ' nx0 = { target := .collected w.heap.size, args := #[] } := by simp only [mkD, hb1 nx0 (by omega), hkd]
                      rw [e2, hs.defers]
                      congr 1
                      exact (marks_agree fun k hk => hold' k (hs.bnd.mks k hk)).symm
                    env := fun i => SV.rel_agree (fun k hk => hold' k (hs.bnd.env i k hk)) (hs.env i)
                    heap := by have := hdrop.heap; rw [← hcI] at this; exact this
                    bnd := ⟨fun i k hk => by have := hs.bnd.env i k hk; simp only at this ⊢; omega, fun k hk => by
                      simp only [Env.marks] at hk
                      rcases List.mem_cons.1 hk with rfl | hk
                      · show k < nx1; omega
                      · have := hs.bnd.mks k hk; simp only at this ⊢; omega, hdrop.bnd.heap⟩
                    base := fun k hk => by rw [hold' k (by have := hs.n0; simp only at this; omega)]; exact hs.base k hk
                    keep := hs.keep
                    n0 := by have := hs.n0; simp only at this ⊢; omega }
        · exact hq.elim
      cases ex with
      | normal => exact fin hq
      | ret => exact fin hq
      | _ => exact hq.elim
  · exact h.elim

end Sx
end Go

namespace Go.Proofs
open Go.Sx

def aLink (xs : List Lnk) : Arr := ⟨Lnk, 4, fun x => [.v (.int .i64 x.f), .v (.int .i64 x.t), .v (.int .i64 x.m), .v (.int .i64 x.i)], [], fun _ => rfl, (by intro x c hc k hk; simp at hc; rcases hc with rfl | rfl | rfl | rfl <;> cases hk), xs⟩
def aSpan (xs : List (Int × Int)) : Arr := ⟨Int × Int, 2, fun x => [.v (.int .i64 x.1), .v (.int .i64 x.2)], [], fun _ => rfl, (by intro x c hc k hk; simp at hc; rcases hc with rfl | rfl <;> cases hk), xs⟩
abbrev svL (l : Lnk) : SV := .agg [.v (.int .i64 l.f), .v (.int .i64 l.t), .v (.int .i64 l.m), .v (.int .i64 l.i)]

abbrev sysA (n m : Nat) : SV := .agg [.s 0 0 n 2, .s 1 0 m 4]
abbrev sysH (bs : List (Int × Int)) (ls : List Lnk) : Heap := [(0, false, .arr (aSpan bs)), (1, false, .arr (aLink ls))]

theorem wrapId {z : Int} (h : -9223372036854775808 ≤ z ∧ z ≤ 9223372036854775807) : IntKind.i64.wrap z = z := by
  rw [IntKind.wrap_i64]; omega


theorem within_t (n lo hi : Int) : Triple Tryz.prog 206 [iv .i64 n, iv .i64 lo, iv .i64 hi] [] 0 (bv (withinF n lo hi)) [] := by
  refine triple_of tB_ok Tryz.func206 rfl Tryz.call206 rfl ?_
  intro ρ w hH
  conv=>whnf
  refine ⟨fun h => ?_, fun h => ?_⟩
  · conv=>whnf
    exact ⟨(by simp [withinF, h] : decide (n ≤ hi) = withinF n lo hi), trivial⟩
  · conv=>whnf
    exact ⟨(by simp [withinF, h] : false = withinF n lo hi), trivial⟩

theorem all_t (bs : List (Int × Int)) (ls : List Lnk) : Triple Tryz.prog 198 [sysA bs.length ls.length] (sysH bs ls) 2 (.c (.f 243 [2]))
    ((2, true, .cells [.s 0 0 bs.length 2, .s 1 0 ls.length 4]) :: sysH bs ls) := by
  refine triple_of tB_ok Tryz.func198 rfl Tryz.call198 rfl ?_
  intro ρ w hH
  conv=>whnf
  refine ⟨trivial, ⟨⟨rfl, rfl⟩, ⟨rfl, rfl⟩, trivial⟩, rfl, rfl, trivial⟩

def rfOf : Code → Option (Code × Code)
  | .seq a b => match rfOf a with
    | some x => some x
    | none => rfOf b
  | .block _ b => rfOf b
  | .rangeFunc _ _ a b => some (a, b)
  | _ => none
def rfA (f : Func) : Code := match f.body with
  | some c => (match rfOf c with
    | some p => p.1
    | none => .skip)
  | none => .skip
def rfB (f : Func) : Code := match f.body with
  | some c => (match rfOf c with
    | some p => p.2
    | none => .skip)
  | none => .skip


def boxLinks : Nat → List (Int × Int) → List Lnk
  | _, [] => []
  | v, b :: r => ⟨-1, v, b.2, 0⟩ :: ⟨v, -1, -b.1, 0⟩ :: boxLinks (v + 1) r

def BoxB (bs : List (Int × Int)) : Prop := ∀ b ∈ bs, (-16777216 ≤ b.1 ∧ b.1 ≤ 16777216) ∧ -16777216 ≤ b.2 ∧ b.2 ≤ 16777216

def keeps (k : Int) (l : Lnk) : Bool := k == 0 || l.i != k

theorem graphRound (n k : Int) (xs : List Lnk) (l : Lnk) (hlen : xs.length ≤ 1000000) : RoundT Tryz.prog Tryz.f147.ntmps [(5, .c (.p 1 0 0 0)), (3, .c (.p 3 0 0 0))] #[14]
    (rfA Tryz.f147) (rfB Tryz.f147) [svL l]
    [(1, false, .cells [.p 2 0 0 0]), (2, true, .cells [.v (.int .i64 n), .s 4 0 xs.length 4]), (3, false, .cells [.v (.int .i64 k)]), (4, true, .arr (aLink xs))] 5
    [(2, true, .cells [.v (.int .i64 n), .s 5 0 (xs ++ (if keeps k l then [l] else [])).length 4]), (5, true, .arr (aLink (xs ++ (if keeps k l then [l] else []))))] := by
  refine round_of tB_ok rfl ?_
  intro Φ Φ' ρ w
  conv=>whnf
  refine ⟨rfl, ?_⟩
  conv=>whnf
  refine ⟨fun h => ?_, fun h => ?_⟩
  · conv=>whnf
    refine bs_step tB_ok (aLink [l]) rfl rfl ?_
    conv=>whnf
    refine ⟨⟨rfl, ⟨rfl, rfl, rfl, rfl, trivial⟩⟩, ?_⟩
    conv=>whnf
    refine app_step tB_ok (aLink xs) [l] (fun _ => rfl) rfl rfl rfl rfl ?_
    conv=>whnf
    refine ⟨⟨rfl, rfl, Nat.le_refl _, Nat.le_refl _, by simp; omega⟩, ?_⟩
    conv=>whnf
    refine ⟨rfl, ?_⟩
    conv=>whnf
    have e1 : (xs ++ if keeps k l then [l] else []) = xs.take xs.length ++ ([l].drop 0).take 1 := by simp [keeps, h]
    have e2 : (xs ++ if keeps k l then [l] else []).length = xs.length + 1 := by simp [keeps, h]
    exact ⟨rfl, rfl, ⟨rfl, ⟨rfl, e2.symm⟩, trivial⟩, (congrArg aLink e1.symm : _), trivial⟩
  · conv=>whnf
    refine ⟨fun h => ?_, fun h => ?_⟩
    · conv=>whnf
      refine bs_step tB_ok (aLink [l]) rfl rfl ?_
      conv=>whnf
      refine ⟨⟨rfl, ⟨rfl, rfl, rfl, rfl, trivial⟩⟩, ?_⟩
      conv=>whnf
      refine app_step tB_ok (aLink xs) [l] (fun _ => rfl) rfl rfl rfl rfl ?_
      conv=>whnf
      refine ⟨⟨rfl, rfl, Nat.le_refl _, Nat.le_refl _, by simp; omega⟩, ?_⟩
      conv=>whnf
      refine ⟨rfl, ?_⟩
      conv=>whnf
      have e1 : (xs ++ if keeps k l then [l] else []) = xs.take xs.length ++ ([l].drop 0).take 1 := by simp [keeps, *]
      have e2 : (xs ++ if keeps k l then [l] else []).length = xs.length + 1 := by simp [keeps, *]
      exact ⟨rfl, rfl, ⟨rfl, ⟨rfl, e2.symm⟩, trivial⟩, (congrArg aLink e1.symm : _), trivial⟩
    · conv=>whnf
      refine ⟨rfl, ?_⟩
      conv=>whnf
      have e1 : (xs ++ if keeps k l then [l] else []) = xs := by simp [keeps, *]
      exact ⟨rfl, rfl, ⟨rfl, ⟨rfl, by rw [e1]⟩, trivial⟩, (congrArg aLink e1.symm : _), trivial⟩

end Go.Proofs

namespace Go.Proofs
open Go.Sx

def allF (bs : List (Int × Int)) (ls : List Lnk) : List Lnk := boxLinks 0 bs ++ ls
def graphF (bs : List (Int × Int)) (ls : List Lnk) (k : Int) : List Lnk := (allF bs ls).filter (keeps k)

theorem boxLinks_append : ∀ (a b : List (Int × Int)) (v : Nat), boxLinks v (a ++ b) = boxLinks v a ++ boxLinks (v + a.length) b
  | [], b, v => by simp [boxLinks]
  | x :: a, b, v => by simp only [List.cons_append, boxLinks, boxLinks_append a b (v + 1), List.length_cons]; rw [show v + 1 + a.length = v + (a.length + 1) from by omega]

theorem boxLinks_length : ∀ (a : List (Int × Int)) (v : Nat), (boxLinks v a).length = 2 * a.length
  | [], v => rfl
  | x :: a, v => by simp only [boxLinks, List.length_cons, boxLinks_length a (v + 1)]; omega

def graphN (bs : List (Int × Int)) (k : Int) (i : Nat) : List Lnk := (boxLinks 0 (bs.take i)).filter (keeps k)

theorem graphN_succ {bs : List (Int × Int)} {k : Int} {i : Nat} (h : i < bs.length) :
    graphN bs k (i + 1) = (graphN bs k i ++ (if keeps k ⟨-1, i, bs[i].2, 0⟩ then [⟨-1, i, bs[i].2, 0⟩] else [])) ++ (if keeps k ⟨i, -1, -bs[i].1, 0⟩ then [⟨i, -1, -bs[i].1, 0⟩] else []) := by
  unfold graphN
  rw [take_snoc h, boxLinks_append]
  have : 0 + (bs.take i).length = i := by simp; omega
  rw [this]
  simp only [boxLinks, List.filter_append, List.append_assoc]
  congr 1
  cases h1 : keeps k ⟨-1, i, bs[i].2, 0⟩ <;> cases h2 : keeps k ⟨i, -1, -bs[i].1, 0⟩ <;> simp [h1, h2]

theorem graphN_len (bs : List (Int × Int)) (k : Int) (i : Nat) : (graphN bs k i).length ≤ 2 * bs.length := by
  unfold graphN
  have h1 := List.length_filter_le (keeps k) (boxLinks 0 (bs.take i))
  rw [boxLinks_length] at h1
  have h2 : (bs.take i).length ≤ bs.length := by simp; omega
  omega

theorem graphF_n (bs : List (Int × Int)) (ls : List Lnk) (k : Int) : graphF bs ls k = graphN bs k bs.length ++ ls.filter (keeps k) := by
  unfold graphF graphN allF
  rw [List.take_length, List.filter_append]

theorem graphOf_t (bs : List (Int × Int)) (ls : List Lnk) (k : Int) (hb : bs.length ≤ 1000) (hB : BoxB bs) (hl : ls.length ≤ 100000) : Triple Tryz.prog 147 [sysA bs.length ls.length, iv .i64 k] (sysH bs ls) 2 (.c (.p 2 0 0 0))
    ((2, true, .cells [.v (.int .i64 bs.length), .s 3 0 (graphF bs ls k).length 4]) :: (3, true, .arr (aLink (graphF bs ls k))) :: sysH bs ls) := by
  refine triple_of tB_ok Tryz.func147 rfl Tryz.call147 rfl ?_
  intro ρ w hH
  conv=>whnf
  refine call_step (all_t bs ls) rfl rfl ?_
  conv=>whnf
  refine ⟨?_, ?_, ?_⟩
  iterate 2 · repeat' (first | exact trivial | exact rfl | refine And.intro ?_ ?_ | ((conv=>whnf); first | exact trivial | exact rfl | refine And.intro ?_ ?_ | omega))
  conv=>whnf
  refine range_step (asg := rfA Tryz.f147) (body := rfB Tryz.f147) tB_ok rfl Tryz.func243 rfl Tryz.call243 rfl ?_
  conv=>whnf
  intro fo d l T0 ρ1 hT hE hl1
  have hA : ∀ i sv, (i, sv) ∈ [(5, SV.c (.p 5 0 0 0)), (3, SV.c (.p 3 0 0 0))] → sv.rel ρ1 (T0.getD i undef) := by
    intro i sv hm
    rcases List.mem_cons.1 hm with he | hm
    · cases he; exact hE 5
    · rcases List.mem_cons.1 hm with he | hm
      · cases he; exact hE 3
      · cases hm
  clear hE
  conv=>whnf
  have hgl := graphN_len bs k
  have hfl : ∀ xs : List Lnk, (xs.filter (keeps k)).length ≤ xs.length := fun xs => List.length_filter_le _ _
  refine loop_step tB_ok (G := Nat) 1 [] (fun i => [(10, iv .i64 i)]) (fun i => [(4, true, .cells [.v (.int .i64 bs.length), .s 9 0 (graphN bs k i).length 4]), (9, true, .arr (aLink (graphN bs k i))), (8, true, recO fo T0 #[14] (rfA Tryz.f147) (rfB Tryz.f147) d)])
    (fun i => i ≤ bs.length) (fun i => bs.length - i) ?_
  conv=>whnf
  refine ⟨⟨0, Nat.zero_le _, ?_⟩, ?_⟩
  · conv=>whnf
    repeat' (first | exact trivial | exact rfl | refine And.intro ?_ ?_ | ((conv=>whnf); first | exact trivial | exact rfl | refine And.intro ?_ ?_ | omega))
  · intro i hi ρ2 t2 hρ2
    have hρ2 : ∀ k, k < 9 → ρ2 k = ρ1 k := hρ2
    conv=>whnf
    refine ⟨fun h => ?_, fun h => ?_⟩
    · conv=>whnf
      have h : i < bs.length := by simpa using h
      refine ⟨i, rfl, h, h, ?_⟩
      conv=>whnf
      refine yield_step (fn := fo) (d := d) [(5, .c (.p 5 0 0 0)), (3, .c (.p 3 0 0 0))] 8 (graphRound bs.length k (graphN bs k i) ⟨-1, i, bs[i].2, 0⟩ (by have := hgl i; omega)) hT (relSt_agree hA rfl hρ2) ((congrArg Rg.blk (hρ2 8 (by omega))).trans hl1) rfl rfl rfl rfl ?_
      conv=>whnf
      refine ⟨?_, ?_, ?_⟩
      iterate 2 · repeat' (first | exact trivial | exact rfl | refine And.intro ?_ ?_ | ((conv=>whnf); first | exact trivial | exact rfl | refine And.intro ?_ ?_ | omega))
      conv=>whnf
      refine ⟨-bs[i].1, ?_, ?_⟩
      · have := (hB bs[i] (List.getElem_mem h)).1
        show IntKind.i64.wrap (0 - bs[i].1) = -bs[i].1
        rw [wrapId ⟨by omega, by omega⟩]; omega
      conv=>whnf
      refine yield_step (fn := fo) (d := d) [(5, .c (.p 5 0 0 0)), (3, .c (.p 3 0 0 0))] 8 (graphRound bs.length k (graphN bs k i ++ (if keeps k ⟨-1, i, bs[i].2, 0⟩ then [⟨-1, i, bs[i].2, 0⟩] else [])) ⟨i, -1, -bs[i].1, 0⟩ (by have := hgl i; simp; split <;> simp <;> omega)) hT (relSt_agree hA rfl hρ2) ((congrArg Rg.blk (hρ2 8 (by omega))).trans hl1) rfl rfl rfl rfl ?_
      conv=>whnf
      refine ⟨?_, ?_, ?_⟩
      iterate 2 · repeat' (first | exact trivial | exact rfl | refine And.intro ?_ ?_ | ((conv=>whnf); first | exact trivial | exact rfl | refine And.intro ?_ ?_ | omega))
      conv=>whnf
      refine ⟨_, wrapId ⟨by omega, by omega⟩, ?_⟩
      refine ⟨i + 1, h, by show bs.length - (i + 1) < bs.length - i; omega, ?_⟩
      conv=>whnf
      refine ⟨rfl, ?_⟩
      conv=>whnf
      repeat' (first | exact trivial | exact rfl | refine And.intro ?_ ?_ | ((conv=>whnf); first | exact trivial | exact rfl | refine And.intro ?_ ?_ | omega))
      · rw [graphN_succ h]
      · exact congrArg aLink (graphN_succ h).symm
    · have hi : i = bs.length := by simp at h; omega
      subst hi
      conv=>whnf
      refine loop_step tB_ok (G := Nat) 1 [9] (fun i => [(36, iv .i64 i)]) (fun i => [(4, true, .cells [.v (.int .i64 bs.length), .s 10 0 (graphN bs k bs.length ++ (ls.take i).filter (keeps k)).length 4]), (10, true, .arr (aLink (graphN bs k bs.length ++ (ls.take i).filter (keeps k)))), (8, true, recO fo T0 #[14] (rfA Tryz.f147) (rfB Tryz.f147) d)])
        (fun i => i ≤ ls.length) (fun i => ls.length - i) ?_
      conv=>whnf
      refine ⟨⟨0, Nat.zero_le _, ?_⟩, ?_⟩
      · conv=>whnf
        repeat' (first | exact trivial | exact rfl | refine And.intro ?_ ?_ | ((conv=>whnf); first | exact trivial | exact rfl | refine And.intro ?_ ?_ | omega))
        · simp
        · exact congrArg aLink (by simp)
      · intro i hi ρ3 t3 hρ3
        have hρ3 : ∀ k, k < 9 → ρ3 k = ρ1 k := hρ3
        conv=>whnf
        refine ⟨fun h => ?_, fun h => ?_⟩
        · conv=>whnf
          have h : i < ls.length := by simpa using h
          refine ⟨i, rfl, h, h, ?_⟩
          conv=>whnf
          refine yield_step (fn := fo) (d := d) [(5, .c (.p 5 0 0 0)), (3, .c (.p 3 0 0 0))] 8 (graphRound bs.length k (graphN bs k bs.length ++ (ls.take i).filter (keeps k)) ls[i] (by have := hgl bs.length; have := hfl (ls.take i); simp at *; omega)) hT (relSt_agree hA rfl hρ3) ((congrArg Rg.blk (hρ3 8 (by omega))).trans hl1) rfl rfl rfl rfl ?_
          conv=>whnf
          refine ⟨?_, ?_, ?_⟩
          iterate 2 · repeat' (first | exact trivial | exact rfl | refine And.intro ?_ ?_ | ((conv=>whnf); first | exact trivial | exact rfl | refine And.intro ?_ ?_ | omega))
          conv=>whnf
          refine ⟨_, wrapId ⟨by omega, by omega⟩, ?_⟩
          refine ⟨i + 1, h, by show ls.length - (i + 1) < ls.length - i; omega, ?_⟩
          conv=>whnf
          refine ⟨rfl, ?_⟩
          conv=>whnf
          have e : graphN bs k bs.length ++ (ls.take (i + 1)).filter (keeps k) = (graphN bs k bs.length ++ (ls.take i).filter (keeps k)) ++ (if keeps k ls[i] then [ls[i]] else []) := by
            rw [filter_take_succ h, List.append_assoc]
          repeat' (first | exact trivial | exact rfl | refine And.intro ?_ ?_ | ((conv=>whnf); first | exact trivial | exact rfl | refine And.intro ?_ ?_ | omega))
          · exact (congrArg List.length e).symm
          · exact congrArg aLink e.symm
        · have hi : i = ls.length := by simp at h; omega
          subst hi
          conv=>whnf
          refine ⟨rfl, ?_⟩
          conv=>whnf
          refine ⟨fun _ h => h, ?_⟩
          conv=>whnf
          have eF : graphN bs k bs.length ++ (ls.take ls.length).filter (keeps k) = graphF bs ls k := by rw [graphF_n, List.take_length]
          repeat' (first | exact trivial | exact rfl | refine And.intro ?_ ?_ | ((conv=>whnf); first | exact trivial | exact rfl | refine And.intro ?_ ?_ | omega))
          · exact congrArg List.length eF
          · exact congrArg aLink eF

end Go.Proofs

