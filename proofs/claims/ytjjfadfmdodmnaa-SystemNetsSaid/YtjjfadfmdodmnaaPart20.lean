/-
  A part of the proof that a law of dryweightlaw03 answers true: lemmas of a symbolic walk, plain functions, or contracts of the functions walked (Zr, Zs). Conditions: none.
-/
import Derived.Test.YtjjfadfmdodmnaaPart19
set_option maxRecDepth 100000
set_option linter.unusedVariables false
set_option linter.unusedSimpArgs false
namespace Go.Proofs
open Go.Sx

theorem agrees_calm {bs : List (Int × Int)} {ls : List Lnk} (hs : SysOK bs ls) (hf : bs.length ≤ 14 ∧ ls.length ≤ 160) : (fromF bs.length (allF bs ls) (-1)).isSome = true ↔ Calm bs ls 0 := by
  have hal := allF_len bs ls
  have hl : (allF bs ls).length ≤ 200 := by omega
  have hhub := hub_graph bs ls 0
  rw [graphF_zero] at hhub
  unfold Calm
  rw [graphF_zero]
  constructor
  · intro h
    obtain ⟨o, ho⟩ := Option.isSome_iff_exists.1 h
    exact from_calm hf.1 hl (allF_ok hs) ⟨by omega, by omega⟩ ho
  · intro h
    exact calm_from hf.1 hl (allF_ok hs) hhub (a := -1) ⟨by omega, by omega⟩ h

theorem loadL_row {ti : TI} {A : Arr} {x y : A.α} {off : Nat} {rd : List Nat} {K : PK} (h : x = y) (hg : loadL ti (A.enc y) off rd K) : loadL ti (A.enc x) off rd K := by rw [h]; exact hg

/-! ### Steps -/

structure Stp where
  tk : Bool
  id : Int
  a : Option Addr
  n : Nat
  c : Nat
  L : List Lnk

abbrev RowN (nm : List Nat) : Type := { x : Bool × Int × SC // ∀ k ∈ x.2.2.nms, k ∈ nm }

def aStepN (nm : List Nat) (xs : List (RowN nm)) : Arr := ⟨RowN nm, 3, fun x => [.v (.bool x.1.1), .v (.int .i64 x.1.2.1), x.1.2.2], nm, fun _ => rfl, (by
  intro x c hc k hk
  simp at hc
  rcases hc with rfl | rfl | rfl
  · cases hk
  · cases hk
  · exact x.2 k hk), xs⟩

def baseRow (x : Stp) : RowN [] := ⟨(x.tk, x.id, .v (.slice x.a x.n x.c)), by simp [SC.nms]⟩
def focRow (k : Nat) (x : Stp) : RowN [k] := ⟨(x.tk, x.id, .s k 0 x.L.length 4), by simp [SC.nms]⟩
def noRow (k : Nat) : RowN [k] := ⟨(false, 0, .junk), by simp [SC.nms]⟩
def baseRows (xs : List Stp) : List (RowN []) := xs.map baseRow
def noInt (k : Nat) (x : Stp) : RowN [k] := ⟨(x.tk, x.id, .junk), by simp [SC.nms]⟩
def focRows (k i : Nat) (xs : List Stp) : List (RowN [k]) := (List.range xs.length).map fun j => match xs[j]? with
  | some x => if j = i then focRow k x else noInt k x
  | none => noRow k

theorem focRows_len (k i : Nat) (xs : List Stp) : (focRows k i xs).length = xs.length := by simp [focRows]
theorem focRows_get {k i : Nat} {xs : List Stp} (h : i < xs.length) (h' : i < (focRows k i xs).length) : (focRows k i xs)[i] = focRow k xs[i] := by
  simp [focRows, List.getElem?_eq_getElem h]

/-- A step's links lie in a world. -/
def StepIn (w : World) (x : Stp) : Prop := ∃ r : Rg, (0 < r.cap → r.blk < w.heap.size) ∧ x.L.length ≤ r.cap ∧ (Value.slice x.a x.n x.c = .slice (if r.cap = 0 then x.a else some ⟨r.blk, r.off, none⟩) x.L.length r.cap) ∧
  ∀ i j c, (SO.arr (aLink x.L)).cell? i j = some c → ∃ v, w.cell? ⟨r.blk, r.off + (i * 4 + j), none⟩ = some v ∧ ∀ ρ, c.rel ρ v

def linksAt (xs : List Stp) (i : Nat) : List Lnk := (xs[i]?.map (·.L)).getD []

theorem linksAt_lt {xs : List Stp} {i : Nat} (h : i < xs.length) : linksAt xs i = xs[i].L := by simp [linksAt, List.getElem?_eq_getElem h]

theorem step_focus {w0 : World} {xs : List Stp} (hG : ∀ x ∈ xs, StepIn w0 x) (i : Nat) : ∃ r : Rg, (0 < r.cap → r.blk < w0.heap.size) ∧ ∀ (ρ : Asg) (w : World) (nx : Nat), ρ nx = r → ρ (nx + 1) = ρ 2 → (∀ b, b < w0.heap.size → w.heap[b]? = w0.heap[b]?) →
    SatO ρ w 2 false (.arr (aStepN [] (baseRows xs))) → SatO ρ w nx false (.arr (aLink (linksAt xs i))) ∧ SatO ρ w (nx + 1) false (.arr (aStepN [nx] (focRows nx i xs))) := by
  obtain ⟨r, h1, h2, h3, h4⟩ : ∃ r : Rg, (0 < r.cap → r.blk < w0.heap.size) ∧ (linksAt xs i).length ≤ r.cap ∧ (∀ h : i < xs.length, Value.slice xs[i].a xs[i].n xs[i].c = .slice (if r.cap = 0 then xs[i].a else some ⟨r.blk, r.off, none⟩) (linksAt xs i).length r.cap) ∧
      ∀ i' j c, (SO.arr (aLink (linksAt xs i))).cell? i' j = some c → ∃ v, w0.cell? ⟨r.blk, r.off + (i' * 4 + j), none⟩ = some v ∧ ∀ ρ, c.rel ρ v := by
    by_cases hi : i < xs.length
    · obtain ⟨r, h1, h2, h3, h4⟩ := hG _ (List.getElem_mem hi)
      rw [linksAt_lt hi]
      exact ⟨r, h1, h2, fun _ => h3, h4⟩
    · have e : linksAt xs i = [] := by simp [linksAt, List.getElem?_eq_none (show xs.length ≤ i by omega)]
      rw [e]
      exact ⟨⟨0, 0, 0⟩, ⟨(fun h => by cases h), Nat.le_refl _, (fun h => absurd h hi), (fun i' j c hc => by cases hc)⟩⟩
  refine ⟨r, h1, fun ρ w nx e1 e2 hw hs => ⟨⟨by show (linksAt xs i).length ≤ (ρ nx).cap; rw [e1]; exact h2, fun i' j c hc => ?_, (fun h => by cases h), (fun h => by cases h), fun Φ h => by cases h⟩, ⟨?_, ?_, (fun h => by cases h), (fun h => by cases h), fun Φ h => by cases h⟩⟩⟩
  · obtain ⟨v, hv, hr⟩ := h4 i' j c hc
    have hcap : 0 < r.cap := by
      have := cell_room (r := r) (o := SO.arr (aLink (linksAt xs i))) h2 hc
      simp only [SO.room] at this
      rcases Nat.eq_zero_or_pos r.cap with h0 | h0
      · rw [h0] at this; omega
      · exact h0
    refine ⟨v, ?_, hr ρ⟩
    rw [← hv]
    have : adr ρ nx (i' * (SO.arr (aLink (linksAt xs i))).sz + j) = ⟨r.blk, r.off + (i' * 4 + j), none⟩ := by simp [adr, e1, SO.sz, aLink]
    rw [this]
    exact cell?_congr (hw _ (h1 hcap))
  · show (focRows nx i xs).length ≤ (ρ (nx + 1)).cap
    rw [focRows_len, e2]
    have := hs.wf
    simp only [SO.wf, aStepN, baseRows, List.length_map] at this
    exact this
  · intro i' j c hc
    have hc' : ((focRows nx i xs)[i']?).bind (fun x => ([SC.v (.bool x.1.1), .v (.int .i64 x.1.2.1), x.1.2.2] : List SC)[j]?) = some c := by
      rw [← hc, Sx.arr_cell?]; rfl
    cases hx : (focRows nx i xs)[i']? with
    | none => rw [hx] at hc'; cases hc'
    | some y =>
      rw [hx] at hc'
      simp only [Option.bind_some] at hc'
      have hlt : i' < xs.length := by have := (List.getElem?_eq_some_iff.1 hx).1; rw [focRows_len] at this; exact this
      have hy : y = if i' = i then focRow nx xs[i'] else noInt nx xs[i'] := by
        have := (List.getElem?_eq_some_iff.1 hx).2
        rw [← this]
        simp [focRows, List.getElem?_eq_getElem hlt]
      have hbase : ∀ (j : Nat) c', ([SC.v (.bool xs[i'].tk), .v (.int .i64 xs[i'].id), .v (.slice xs[i'].a xs[i'].n xs[i'].c)] : List SC)[j]? = some c' → ∃ v, w.cell? (adr ρ 2 (i' * 3 + j)) = some v ∧ c'.rel ρ v := fun j c' hc2 => by
        refine hs.at_ i' j c' ?_
        rw [Sx.arr_cell?]
        show ((baseRows xs)[i']?).bind _ = _
        rw [baseRows, List.getElem?_map, List.getElem?_eq_getElem hlt]
        exact hc2
      have ha : adr ρ (nx + 1) (i' * (SO.arr (aStepN [nx] (focRows nx i xs))).sz + j) = adr ρ 2 (i' * 3 + j) := by simp [adr, e2, SO.sz, aStepN]
      rw [ha]
      match j, hc' with
      | 0, hc' =>
        obtain ⟨v, hv, hr⟩ := hbase 0 _ rfl
        refine ⟨v, hv, ?_⟩
        have hc' : SC.v (.bool y.1.1) = c := by simpa using hc'
        have e : y.1.1 = xs[i'].tk := by rw [hy]; split <;> rfl
        rw [← hc', e]; exact hr
      | 1, hc' =>
        obtain ⟨v, hv, hr⟩ := hbase 1 _ rfl
        refine ⟨v, hv, ?_⟩
        have hc' : SC.v (.int .i64 y.1.2.1) = c := by simpa using hc'
        have e : y.1.2.1 = xs[i'].id := by rw [hy]; split <;> rfl
        rw [← hc', e]; exact hr
      | 2, hc' =>
        obtain ⟨v, hv, hr⟩ := hbase 2 _ rfl
        refine ⟨v, hv, ?_⟩
        have hc' : y.1.2.2 = c := by simpa using hc'
        rw [← hc', hy]
        split
        · rename_i hii
          subst hii
          have hv : v = .slice xs[i'].a xs[i'].n xs[i'].c := hr
          have hll := linksAt_lt hlt
          rw [hv, h3 hlt, hll]
          rw [hll] at h2
          refine ⟨_, by rw [e1]; rfl, by rw [e1]; show 0 + xs[i'].L.length ≤ r.cap; omega, fun h => ?_⟩
          rw [e1] at h
          rw [if_neg (by omega)]
          simp [adr, e1]
        · trivial
      | j + 3, hc' => simp at hc'

end Go.Proofs

namespace Go.Proofs
open Go.Sx

theorem net_add {bs : List (Int × Int)} {ls L : List Lnk} (h : NetW bs ls) (hl : ls.length + L.length ≤ 150) (hp : ∀ l ∈ L, properF l bs.length = true) : SysOK bs (ls ++ L) :=
  ⟨h.sys.nb, by rw [List.length_append]; omega, h.sys.box, fun l hm => by
    rcases List.mem_append.1 hm with hm | hm
    · exact h.sys.lnk l hm
    · exact hp l hm⟩

/-- What a Put, and the reference's addition, answer. -/
theorem added_cases {bs : List (Int × Int)} {ls L : List Lnk} (h : NetW bs ls) (hl : ls.length + L.length ≤ 150) :
    (addedF bs ls L = 1 ∧ (L.all fun x => properF x bs.length) = false) ∨
    (addedF bs ls L = 9 ∧ SysOK bs (ls ++ L) ∧ ¬ Calm bs (ls ++ L) 0) ∨
    (addedF bs ls L = 0 ∧ NetW bs (ls ++ L)) := by
  have hF : addedF bs ls L = if 1200 < ls.length + L.length then 2 else if (L.all fun x => properF x bs.length) = false then 1 else if (fromF bs.length (allF bs (ls ++ L)) (-1)).isSome = false then 9 else 0 := rfl
  rw [if_neg (by omega)] at hF
  cases hp : L.all fun x => properF x bs.length with
  | false => exact .inl ⟨by rw [hF, hp]; rfl, rfl⟩
  | true =>
    have hs := net_add h hl (fun l hm => List.all_eq_true.1 hp l hm)
    have hc := agrees_calm hs ⟨h.few.1, by rw [List.length_append]; omega⟩
    cases ha : (fromF bs.length (allF bs (ls ++ L)) (-1)).isSome with
    | true => exact .inr (.inr ⟨by rw [hF, hp, ha]; rfl, ⟨⟨h.few.1, by rw [List.length_append]; omega⟩, hs, hc.1 ha⟩⟩)
    | false => exact .inr (.inl ⟨by rw [hF, hp, ha]; rfl, hs, fun hh => by rw [hc.2 hh] at ha; cases ha⟩)

theorem systemNets_t (bs : List (Int × Int)) (ls : List Lnk) (xs : List Stp) :
    TripleG Try.prog 14 [sysA bs.length ls.length, .c (.s 2 0 xs.length 3)] (sysH bs ls ++ [(2, false, .arr (aStepN [] (baseRows xs)))]) 3 (bv true) [] (fun _ w => ∀ x ∈ xs, StepIn w x) := by
  cases hfe : fewF bs ls with
  | false =>
    refine triple_ofG tB_ok Try.func14 rfl Try.call14 rfl _ ?_
    intro ρ w hH hG
    conv => whnf
    refine call_step head_t rfl rfl ?_
    conv => whnf
    refine ⟨(by repeat' (first | exact trivial | exact rfl | refine And.intro ?_ ?_ | ((conv => whnf); first | exact trivial | exact rfl | refine And.intro ?_ ?_ | omega))), (by repeat' (first | exact trivial | exact rfl | refine And.intro ?_ ?_ | ((conv => whnf); first | exact trivial | exact rfl | refine And.intro ?_ ?_ | omega))), ?_⟩
    conv => whnf
    refine call_step (few_t bs ls) rfl rfl ?_
    conv => whnf
    refine ⟨(by repeat' (first | exact trivial | exact rfl | refine And.intro ?_ ?_ | ((conv => whnf); first | exact trivial | exact rfl | refine And.intro ?_ ?_ | omega))), (by repeat' (first | exact trivial | exact rfl | refine And.intro ?_ ?_ | ((conv => whnf); first | exact trivial | exact rfl | refine And.intro ?_ ?_ | omega))), ?_⟩
    conv => whnf
    rw [hfe]
    refine ⟨fun hc => ?_, fun hc => absurd hc (by simp)⟩
    conv => whnf
    repeat' (first | exact trivial | exact rfl | refine And.intro ?_ ?_ | ((conv => whnf); first | exact trivial | exact rfl | refine And.intro ?_ ?_ | omega))
  | true =>
    have hf : bs.length ≤ 14 ∧ ls.length ≤ 40 := by simpa [fewF] using hfe
    by_cases hx : xs.length ≤ 12
    · have hrc := refCheck_t bs ls (by omega) (by omega)
      by_cases hck : checkF bs ls = 0
      · have hs := checkF_ok.1 hck
        rw [hck] at hrc
        have hag := agrees_t bs ls (by omega) hs.boxB (by omega) (allF_ok hs)
        have hac := agrees_calm hs ⟨hf.1, by omega⟩
        by_cases hcalm : Calm bs ls 0
        · rw [hac.2 hcalm] at hag
          have hw0 : NetW bs ls := ⟨⟨hf.1, by omega⟩, hs, hcalm⟩
          have hnew := newNone_t bs ls hs hcalm
          refine triple_ofG tB_ok Try.func14 rfl Try.call14 rfl _ ?_
          intro ρ w hH hG
          conv => whnf
          refine call_step head_t rfl rfl ?_
          conv => whnf
          refine ⟨(by repeat' (first | exact trivial | exact rfl | refine And.intro ?_ ?_ | ((conv => whnf); first | exact trivial | exact rfl | refine And.intro ?_ ?_ | omega))), (by repeat' (first | exact trivial | exact rfl | refine And.intro ?_ ?_ | ((conv => whnf); first | exact trivial | exact rfl | refine And.intro ?_ ?_ | omega))), ?_⟩
          conv => whnf
          refine call_step (few_t bs ls) rfl rfl ?_
          conv => whnf
          refine ⟨(by repeat' (first | exact trivial | exact rfl | refine And.intro ?_ ?_ | ((conv => whnf); first | exact trivial | exact rfl | refine And.intro ?_ ?_ | omega))), (by repeat' (first | exact trivial | exact rfl | refine And.intro ?_ ?_ | ((conv => whnf); first | exact trivial | exact rfl | refine And.intro ?_ ?_ | omega))), ?_⟩
          conv => whnf
          rw [hfe]
          refine ⟨fun hc => absurd hc (by simp), fun hc => ?_⟩
          conv => whnf
          refine ⟨fun hc => absurd (of_decide_eq_true (show decide ((12 : Int) < xs.length) = true from hc)) (by omega), fun hc => ?_⟩
          conv => whnf
          refine call_step hnew rfl rfl ?_
          conv => whnf
          refine ⟨(by repeat' (first | exact trivial | exact rfl | refine And.intro ?_ ?_ | ((conv => whnf); first | exact trivial | exact rfl | refine And.intro ?_ ?_ | omega))), (by repeat' (first | exact trivial | exact rfl | refine And.intro ?_ ?_ | ((conv => whnf); first | exact trivial | exact rfl | refine And.intro ?_ ?_ | omega))), ?_⟩
          conv => whnf
          refine call_step hrc rfl rfl ?_
          conv => whnf
          refine ⟨(by repeat' (first | exact trivial | exact rfl | refine And.intro ?_ ?_ | ((conv => whnf); first | exact trivial | exact rfl | refine And.intro ?_ ?_ | omega))), (by repeat' (first | exact trivial | exact rfl | refine And.intro ?_ ?_ | ((conv => whnf); first | exact trivial | exact rfl | refine And.intro ?_ ?_ | omega))), ?_⟩
          conv => whnf
          refine ⟨fun hc => ?_, fun hc => absurd hc (by simp)⟩
          conv => whnf
          refine call_step hag rfl rfl ?_
          conv => whnf
          refine ⟨(by repeat' (first | exact trivial | exact rfl | refine And.intro ?_ ?_ | ((conv => whnf); first | exact trivial | exact rfl | refine And.intro ?_ ?_ | omega))), (by repeat' (first | exact trivial | exact rfl | refine And.intro ?_ ?_ | ((conv => whnf); first | exact trivial | exact rfl | refine And.intro ?_ ?_ | omega))), ?_⟩
          conv => whnf
          refine ⟨fun hc => absurd hc (by simp), fun hc => ?_⟩
          conv => whnf
          refine ⟨fun hc => absurd hc (by simp), fun hc => ?_⟩
          conv => whnf
          refine ⟨fun hc => absurd hc (by simp), fun hc => ?_⟩
          conv => whnf
          refine loopF_step tB_ok (G := Nat × List Lnk) 2 [1, 6] (fun g => [(9, iv .i64 g.1)]) (fun g => [(3, true, .cells [.s 0 0 bs.length 2, .s 7 0 g.2.length 4]), (7, false, .arr (aLink g.2)), (4, true, .cells [.s 5 0 bs.length 2, .s 8 0 g.2.length 4]), (8, true, .arr (aLink g.2))])
            (fun g => g.1 ≤ xs.length ∧ g.2.length ≤ 40 + 8 * g.1 ∧ NetW bs g.2) (fun g => xs.length - g.1)
            1 2 xs.length 3 (.arr (aStepN [] (baseRows xs))) (fun g nx => .arr (aStepN [nx] (focRows nx g.1 xs))) (fun g => .arr (aLink (linksAt xs g.1)))
            rfl (fun _ _ _ => rfl) (fun g nx k hk => by simp [SO.uses, aStepN, anyMem, memN_iff] at hk; omega) (fun g k hk => by simp [SO.uses, aLink, anyMem] at hk) (fun g r h => Nat.pos_of_ne_zero fun h0 => by simp [SO.room, h0] at h)
            (fun h => hH.valid 2 false _ rfl h) (show 2 < 3 by decide) (fun g _ => step_focus hG g.1) ?_
          conv => whnf
          refine ⟨⟨(0, ls), ⟨Nat.zero_le _, by show ls.length ≤ 40 + 8 * 0; omega, hw0⟩, ?_⟩, ?_⟩
          · conv => whnf
            repeat' (first | exact trivial | exact rfl | refine And.intro ?_ ?_ | ((conv => whnf); first | exact trivial | exact rfl | refine And.intro ?_ ?_ | omega))
          rintro ⟨i, ms⟩ ⟨hi, hml, hwm⟩ ρ2 t2 hρ2
          have hi : i ≤ xs.length := hi
          have hml : ms.length ≤ 40 + 8 * i := hml
          have hwm : NetW bs ms := hwm
          dsimp only
          conv => whnf
          refine ⟨(by exact ⟨rfl, rfl⟩), ?_⟩
          conv => whnf
          refine ⟨fun hc => ?_, fun hc => ?_⟩
          · have hlt : i < xs.length := by have := of_decide_eq_true (show decide ((i : Int) < xs.length) = true from hc); omega
            conv => whnf
            refine ⟨fun hc => ?_, fun hc => absurd hc (by simp)⟩
            conv => whnf
            obtain ⟨x, hxe⟩ : ∃ x, x = xs[i] := ⟨_, rfl⟩
            have hrow : ∀ h, (aStepN [8 + 1] (focRows (8 + 1) i xs)).xs[addN 0 i]'h = focRow (8 + 1) x := fun h => by rw [hxe]; exact focRows_get hlt h
            have hfl : i < (focRows 9 i xs).length := by rw [focRows_len]; exact hlt
            refine ⟨i, rfl, hlt, hfl, ?_⟩
            rw [linksAt_lt hlt, ← hxe]
            refine loadL_row (hrow hfl) ?_
            obtain ⟨tk, id, va, vn, vc0, L⟩ := x
            conv => whnf
            refine ⟨fun hc => ?_, fun hc => ?_⟩
            · conv => whnf
              repeat' (first | exact trivial | exact rfl | refine And.intro ?_ ?_ | ((conv => whnf); first | exact trivial | exact rfl | refine And.intro ?_ ?_ | omega))
            have hL8 : L.length ≤ 8 := by have := of_decide_eq_false (show decide ((8 : Int) < L.length) = false from hc); omega
            clear hc
            conv => whnf
            refine ⟨i, rfl, hlt, hfl, ?_⟩
            refine loadL_row (hrow hfl) ?_
            conv => whnf
            refine ⟨fun hc => ?_, fun hc => ?_⟩
            · conv => whnf
              refine ⟨i, rfl, hlt, hfl, ?_⟩
              refine loadL_row (hrow hfl) ?_
              conv => whnf
              by_cases ht : takeF ms id = 0
              · have hwl : (withoutF ms id).length ≤ ms.length := List.length_filter_le _ _
                have hw2 : NetW bs (withoutF ms id) := hwm.sub (by omega) (fun l hl => (List.mem_filter.1 hl).1)
                have hta := refTakenOk_t bs ms id (by omega) ht
                have htk := takeOk_t bs ms id (by omega) ht
                have hl2 : (withoutF ms id).length ≤ 40 + 8 * (i + 1) := by omega
                generalize withoutF ms id = M at *
                refine call_step hta rfl rfl ?_
                conv => whnf
                refine ⟨(by repeat' (first | exact trivial | exact rfl | refine And.intro ?_ ?_ | ((conv => whnf); first | exact trivial | exact rfl | refine And.intro ?_ ?_ | omega))), (by repeat' (first | exact trivial | exact rfl | refine And.intro ?_ ?_ | ((conv => whnf); first | exact trivial | exact rfl | refine And.intro ?_ ?_ | omega))), ?_⟩
                conv => whnf
                refine ⟨i, rfl, hlt, hfl, ?_⟩
                refine loadL_row (hrow hfl) ?_
                conv => whnf
                refine call_step htk rfl rfl ?_
                conv => whnf
                refine ⟨(by repeat' (first | exact trivial | exact rfl | refine And.intro ?_ ?_ | ((conv => whnf); first | exact trivial | exact rfl | refine And.intro ?_ ?_ | omega))), (by repeat' (first | exact trivial | exact rfl | refine And.intro ?_ ?_ | ((conv => whnf); first | exact trivial | exact rfl | refine And.intro ?_ ?_ | omega))), ?_⟩
                conv => whnf
                refine ⟨fun hc => absurd hc (by simp), fun hc => ?_⟩
                conv => whnf
                have hb1 := boxes_t bs M hw2.sys
                have hb2 := refBoxes_t bs M hw2.sys
                rw [← boxes_eq hw2] at hb2
                have hbl := boxesF_len bs.length (graphF bs M 0)
                generalize boxesF bs.length (graphF bs M 0) = bx at *
                refine call_step (netLinks_t bs M (by omega)) rfl rfl ?_
                conv => whnf
                refine ⟨(by repeat' (first | exact trivial | exact rfl | refine And.intro ?_ ?_ | ((conv => whnf); first | exact trivial | exact rfl | refine And.intro ?_ ?_ | omega))), (by repeat' (first | exact trivial | exact rfl | refine And.intro ?_ ?_ | ((conv => whnf); first | exact trivial | exact rfl | refine And.intro ?_ ?_ | omega))), ?_⟩
                conv => whnf
                refine call_step (linksSame_t M (by omega)) rfl rfl ?_
                conv => whnf
                refine ⟨(by repeat' (first | exact trivial | exact rfl | refine And.intro ?_ ?_ | ((conv => whnf); first | exact trivial | exact rfl | refine And.intro ?_ ?_ | omega))), (by repeat' (first | exact trivial | exact rfl | refine And.intro ?_ ?_ | ((conv => whnf); first | exact trivial | exact rfl | refine And.intro ?_ ?_ | omega))), ?_⟩
                conv => whnf
                refine call_step hb1 rfl rfl ?_
                conv => whnf
                refine ⟨(by repeat' (first | exact trivial | exact rfl | refine And.intro ?_ ?_ | ((conv => whnf); first | exact trivial | exact rfl | refine And.intro ?_ ?_ | omega))), (by repeat' (first | exact trivial | exact rfl | refine And.intro ?_ ?_ | ((conv => whnf); first | exact trivial | exact rfl | refine And.intro ?_ ?_ | omega))), ?_⟩
                conv => whnf
                refine call_step hb2 rfl rfl ?_
                conv => whnf
                refine ⟨(by repeat' (first | exact trivial | exact rfl | refine And.intro ?_ ?_ | ((conv => whnf); first | exact trivial | exact rfl | refine And.intro ?_ ?_ | omega))), (by repeat' (first | exact trivial | exact rfl | refine And.intro ?_ ?_ | ((conv => whnf); first | exact trivial | exact rfl | refine And.intro ?_ ?_ | omega))), ?_⟩
                conv => whnf
                refine call_step (spansSame_t bx (by omega)) rfl rfl ?_
                conv => whnf
                refine ⟨(by repeat' (first | exact trivial | exact rfl | refine And.intro ?_ ?_ | ((conv => whnf); first | exact trivial | exact rfl | refine And.intro ?_ ?_ | omega))), (by repeat' (first | exact trivial | exact rfl | refine And.intro ?_ ?_ | ((conv => whnf); first | exact trivial | exact rfl | refine And.intro ?_ ?_ | omega))), ?_⟩
                conv => whnf
                refine ⟨fun hc => absurd hc (by simp), fun hc => ?_⟩
                conv => whnf
                refine ⟨fun hc => absurd hc (by simp), fun hc => ?_⟩
                conv => whnf
                refine ⟨(i : Int) + 1, wrapId (z := (i : Int) + 1) ⟨by omega, by omega⟩, ?_⟩
                refine ⟨(i + 1, M), ⟨hlt, hl2, hw2⟩, by show xs.length - (i + 1) < xs.length - i; omega, ?_⟩
                conv => whnf
                refine ⟨rfl, ?_⟩
                conv => whnf
                repeat' (first | exact trivial | exact rfl | refine And.intro ?_ ?_ | ((conv => whnf); first | exact trivial | exact rfl | refine And.intro ?_ ?_ | omega))
              · have hta := refTakenErr_t bs ms id (by omega) ht
                have htk := takeErr_t bs ms id (by omega) ht
                have hl2 : ms.length ≤ 40 + 8 * (i + 1) := by omega
                generalize takeF ms id = tc at *
                refine call_step hta rfl rfl ?_
                conv => whnf
                refine ⟨(by repeat' (first | exact trivial | exact rfl | refine And.intro ?_ ?_ | ((conv => whnf); first | exact trivial | exact rfl | refine And.intro ?_ ?_ | omega))), (by repeat' (first | exact trivial | exact rfl | refine And.intro ?_ ?_ | ((conv => whnf); first | exact trivial | exact rfl | refine And.intro ?_ ?_ | omega))), ?_⟩
                conv => whnf
                refine ⟨i, rfl, hlt, hfl, ?_⟩
                refine loadL_row (hrow hfl) ?_
                conv => whnf
                refine call_step htk rfl rfl ?_
                conv => whnf
                refine ⟨(by repeat' (first | exact trivial | exact rfl | refine And.intro ?_ ?_ | ((conv => whnf); first | exact trivial | exact rfl | refine And.intro ?_ ?_ | omega))), (by repeat' (first | exact trivial | exact rfl | refine And.intro ?_ ?_ | ((conv => whnf); first | exact trivial | exact rfl | refine And.intro ?_ ?_ | omega))), ?_⟩
                conv => whnf
                refine ⟨fun hc => absurd hc (by simp), fun hc => ?_⟩
                conv => whnf
                have hb1 := boxes_t bs ms hwm.sys
                have hb2 := refBoxes_t bs ms hwm.sys
                rw [← boxes_eq hwm] at hb2
                have hbl := boxesF_len bs.length (graphF bs ms 0)
                generalize boxesF bs.length (graphF bs ms 0) = bx at *
                refine call_step (netLinks_t bs ms (by omega)) rfl rfl ?_
                conv => whnf
                refine ⟨(by repeat' (first | exact trivial | exact rfl | refine And.intro ?_ ?_ | ((conv => whnf); first | exact trivial | exact rfl | refine And.intro ?_ ?_ | omega))), (by repeat' (first | exact trivial | exact rfl | refine And.intro ?_ ?_ | ((conv => whnf); first | exact trivial | exact rfl | refine And.intro ?_ ?_ | omega))), ?_⟩
                conv => whnf
                refine call_step (linksSame_t ms (by omega)) rfl rfl ?_
                conv => whnf
                refine ⟨(by repeat' (first | exact trivial | exact rfl | refine And.intro ?_ ?_ | ((conv => whnf); first | exact trivial | exact rfl | refine And.intro ?_ ?_ | omega))), (by repeat' (first | exact trivial | exact rfl | refine And.intro ?_ ?_ | ((conv => whnf); first | exact trivial | exact rfl | refine And.intro ?_ ?_ | omega))), ?_⟩
                conv => whnf
                refine call_step hb1 rfl rfl ?_
                conv => whnf
                refine ⟨(by repeat' (first | exact trivial | exact rfl | refine And.intro ?_ ?_ | ((conv => whnf); first | exact trivial | exact rfl | refine And.intro ?_ ?_ | omega))), (by repeat' (first | exact trivial | exact rfl | refine And.intro ?_ ?_ | ((conv => whnf); first | exact trivial | exact rfl | refine And.intro ?_ ?_ | omega))), ?_⟩
                conv => whnf
                refine call_step hb2 rfl rfl ?_
                conv => whnf
                refine ⟨(by repeat' (first | exact trivial | exact rfl | refine And.intro ?_ ?_ | ((conv => whnf); first | exact trivial | exact rfl | refine And.intro ?_ ?_ | omega))), (by repeat' (first | exact trivial | exact rfl | refine And.intro ?_ ?_ | ((conv => whnf); first | exact trivial | exact rfl | refine And.intro ?_ ?_ | omega))), ?_⟩
                conv => whnf
                refine call_step (spansSame_t bx (by omega)) rfl rfl ?_
                conv => whnf
                refine ⟨(by repeat' (first | exact trivial | exact rfl | refine And.intro ?_ ?_ | ((conv => whnf); first | exact trivial | exact rfl | refine And.intro ?_ ?_ | omega))), (by repeat' (first | exact trivial | exact rfl | refine And.intro ?_ ?_ | ((conv => whnf); first | exact trivial | exact rfl | refine And.intro ?_ ?_ | omega))), ?_⟩
                conv => whnf
                refine ⟨fun hc => absurd hc (by simp), fun hc => ?_⟩
                conv => whnf
                refine ⟨fun hc => absurd hc (by simp), fun hc => ?_⟩
                conv => whnf
                refine ⟨(i : Int) + 1, wrapId (z := (i : Int) + 1) ⟨by omega, by omega⟩, ?_⟩
                refine ⟨(i + 1, ms), ⟨hlt, hl2, hwm⟩, by show xs.length - (i + 1) < xs.length - i; omega, ?_⟩
                conv => whnf
                refine ⟨rfl, ?_⟩
                conv => whnf
                repeat' (first | exact trivial | exact rfl | refine And.intro ?_ ?_ | ((conv => whnf); first | exact trivial | exact rfl | refine And.intro ?_ ?_ | omega))
            · conv => whnf
              refine ⟨i, rfl, hlt, hfl, ?_⟩
              refine loadL_row (hrow hfl) ?_
              conv => whnf
              have hl2 : ms.length ≤ 40 + 8 * (i + 1) := by omega
              rcases added_cases hwm (L := L) (by omega) with ⟨ha, hp⟩ | ⟨ha, hs2, hnc⟩ | ⟨ha, hw2⟩
              · have hadd := refAddedErr_t bs ms L hwm.sys (by omega) (by rw [ha]; decide)
                rw [ha] at hadd
                have hput := putArg_t bs ms L (by omega) (by omega) hp
                refine call_step hadd rfl rfl ?_
                conv => whnf
                refine ⟨(by repeat' (first | exact trivial | exact rfl | refine And.intro ?_ ?_ | ((conv => whnf); first | exact trivial | exact rfl | refine And.intro ?_ ?_ | omega))), (by repeat' (first | exact trivial | exact rfl | refine And.intro ?_ ?_ | ((conv => whnf); first | exact trivial | exact rfl | refine And.intro ?_ ?_ | omega))), ?_⟩
                conv => whnf
                refine ⟨i, rfl, hlt, hfl, ?_⟩
                refine loadL_row (hrow hfl) ?_
                conv => whnf
                refine call_step hput rfl rfl ?_
                conv => whnf
                refine ⟨(by repeat' (first | exact trivial | exact rfl | refine And.intro ?_ ?_ | ((conv => whnf); first | exact trivial | exact rfl | refine And.intro ?_ ?_ | omega))), (by repeat' (first | exact trivial | exact rfl | refine And.intro ?_ ?_ | ((conv => whnf); first | exact trivial | exact rfl | refine And.intro ?_ ?_ | omega))), ?_⟩
                conv => whnf
                refine ⟨fun hc => absurd hc (by simp), fun hc => ?_⟩
                conv => whnf
                refine ⟨fun hc => ?_, fun hc => absurd hc (by simp)⟩
                conv => whnf
                refine ⟨fun hc => absurd hc (by simp), fun hc => ?_⟩
                conv => whnf
                refine ⟨fun hc => absurd hc (by simp), fun hc => ?_⟩
                conv => whnf
                have hb1 := boxes_t bs ms hwm.sys
                have hb2 := refBoxes_t bs ms hwm.sys
                rw [← boxes_eq hwm] at hb2
                have hbl := boxesF_len bs.length (graphF bs ms 0)
                generalize boxesF bs.length (graphF bs ms 0) = bx at *
                refine call_step (netLinks_t bs ms (by omega)) rfl rfl ?_
                conv => whnf
                refine ⟨(by repeat' (first | exact trivial | exact rfl | refine And.intro ?_ ?_ | ((conv => whnf); first | exact trivial | exact rfl | refine And.intro ?_ ?_ | omega))), (by repeat' (first | exact trivial | exact rfl | refine And.intro ?_ ?_ | ((conv => whnf); first | exact trivial | exact rfl | refine And.intro ?_ ?_ | omega))), ?_⟩
                conv => whnf
                refine call_step (linksSame_t ms (by omega)) rfl rfl ?_
                conv => whnf
                refine ⟨(by repeat' (first | exact trivial | exact rfl | refine And.intro ?_ ?_ | ((conv => whnf); first | exact trivial | exact rfl | refine And.intro ?_ ?_ | omega))), (by repeat' (first | exact trivial | exact rfl | refine And.intro ?_ ?_ | ((conv => whnf); first | exact trivial | exact rfl | refine And.intro ?_ ?_ | omega))), ?_⟩
                conv => whnf
                refine call_step hb1 rfl rfl ?_
                conv => whnf
                refine ⟨(by repeat' (first | exact trivial | exact rfl | refine And.intro ?_ ?_ | ((conv => whnf); first | exact trivial | exact rfl | refine And.intro ?_ ?_ | omega))), (by repeat' (first | exact trivial | exact rfl | refine And.intro ?_ ?_ | ((conv => whnf); first | exact trivial | exact rfl | refine And.intro ?_ ?_ | omega))), ?_⟩
                conv => whnf
                refine call_step hb2 rfl rfl ?_
                conv => whnf
                refine ⟨(by repeat' (first | exact trivial | exact rfl | refine And.intro ?_ ?_ | ((conv => whnf); first | exact trivial | exact rfl | refine And.intro ?_ ?_ | omega))), (by repeat' (first | exact trivial | exact rfl | refine And.intro ?_ ?_ | ((conv => whnf); first | exact trivial | exact rfl | refine And.intro ?_ ?_ | omega))), ?_⟩
                conv => whnf
                refine call_step (spansSame_t bx (by omega)) rfl rfl ?_
                conv => whnf
                refine ⟨(by repeat' (first | exact trivial | exact rfl | refine And.intro ?_ ?_ | ((conv => whnf); first | exact trivial | exact rfl | refine And.intro ?_ ?_ | omega))), (by repeat' (first | exact trivial | exact rfl | refine And.intro ?_ ?_ | ((conv => whnf); first | exact trivial | exact rfl | refine And.intro ?_ ?_ | omega))), ?_⟩
                conv => whnf
                refine ⟨fun hc => absurd hc (by simp), fun hc => ?_⟩
                conv => whnf
                refine ⟨fun hc => absurd hc (by simp), fun hc => ?_⟩
                conv => whnf
                refine ⟨(i : Int) + 1, wrapId (z := (i : Int) + 1) ⟨by omega, by omega⟩, ?_⟩
                refine ⟨(i + 1, ms), ⟨hlt, hl2, hwm⟩, by show xs.length - (i + 1) < xs.length - i; omega, ?_⟩
                conv => whnf
                refine ⟨rfl, ?_⟩
                conv => whnf
                repeat' (first | exact trivial | exact rfl | refine And.intro ?_ ?_ | ((conv => whnf); first | exact trivial | exact rfl | refine And.intro ?_ ?_ | omega))
              · have hadd := refAddedErr_t bs ms L hwm.sys (by omega) (by rw [ha]; decide)
                rw [ha] at hadd
                obtain ⟨v, P, kk, Mx, hch, hv, hcy⟩ := cyc_of (graphF_ok hs2 0) (Nat.le_refl _) hnc
                have hput := putClash_t bs ms L v P kk Mx hs2 hch hcy
                have hML := hcy.len
                have hll : (cycL bs.length (graphF bs (ms ++ L) 0) kk Mx).reverse.length = Mx := by simp [cycL]
                have hck2 := refCheckCycle_t bs (ms ++ L) (cycL bs.length (graphF bs (ms ++ L) 0) kk Mx).reverse (by omega) (by rw [List.length_append]; omega) (by omega)
                rw [cyc_check hs2 hcy] at hck2
                have hpr := lawProper_t (cycL bs.length (graphF bs (ms ++ L) 0) kk Mx).reverse hcy.tos (by omega)
                generalize (cycL bs.length (graphF bs (ms ++ L) 0) kk Mx).reverse = cy at *
                refine call_step hadd rfl rfl ?_
                conv => whnf
                refine ⟨(by repeat' (first | exact trivial | exact rfl | refine And.intro ?_ ?_ | ((conv => whnf); first | exact trivial | exact rfl | refine And.intro ?_ ?_ | omega))), (by repeat' (first | exact trivial | exact rfl | refine And.intro ?_ ?_ | ((conv => whnf); first | exact trivial | exact rfl | refine And.intro ?_ ?_ | omega))), ?_⟩
                conv => whnf
                refine ⟨i, rfl, hlt, hfl, ?_⟩
                refine loadL_row (hrow hfl) ?_
                conv => whnf
                refine call_step hput rfl rfl ?_
                conv => whnf
                refine ⟨(by repeat' (first | exact trivial | exact rfl | refine And.intro ?_ ?_ | ((conv => whnf); first | exact trivial | exact rfl | refine And.intro ?_ ?_ | omega))), (by repeat' (first | exact trivial | exact rfl | refine And.intro ?_ ?_ | ((conv => whnf); first | exact trivial | exact rfl | refine And.intro ?_ ?_ | omega))), ?_⟩
                conv => whnf
                refine ⟨fun hc => absurd hc (by simp), fun hc => ?_⟩
                conv => whnf
                refine ⟨fun hc => absurd hc (by simp), fun hc => ?_⟩
                conv => whnf
                refine ⟨fun hc => ?_, fun hc => absurd hc (by simp)⟩
                conv => whnf
                refine call_step hpr rfl rfl ?_
                conv => whnf
                refine ⟨(by repeat' (first | exact trivial | exact rfl | refine And.intro ?_ ?_ | ((conv => whnf); first | exact trivial | exact rfl | refine And.intro ?_ ?_ | omega))), (by repeat' (first | exact trivial | exact rfl | refine And.intro ?_ ?_ | ((conv => whnf); first | exact trivial | exact rfl | refine And.intro ?_ ?_ | omega))), ?_⟩
                conv => whnf
                refine ⟨fun hc => absurd hc (by simp), fun hc => ?_⟩
                conv => whnf
                refine bs_step tB_ok (aLink []) rfl rfl ?_
                conv => whnf
                refine ⟨(by repeat' (first | exact trivial | exact rfl | refine And.intro ?_ ?_ | ((conv => whnf); first | exact trivial | exact rfl | refine And.intro ?_ ?_ | omega))), ?_⟩
                conv => whnf
                refine app_step tB_ok (aLink []) ms (fun _ => rfl) rfl rfl rfl rfl ?_
                conv => whnf
                refine ⟨⟨rfl, rfl, Nat.le_refl _, by show 0 + ms.length ≤ ms.length; omega, by show (0 + ms.length) * 33 ≤ _; omega⟩, ?_⟩
                conv => whnf
                refine ⟨i, rfl, hlt, hfl, ?_⟩
                refine loadL_row (hrow hfl) ?_
                conv => whnf
                refine app_step tB_ok (aLink (List.take 0 [] ++ List.take ms.length (List.drop 0 ms))) L (fun _ => rfl) rfl rfl rfl rfl ?_
                conv => whnf
                refine ⟨⟨rfl, rfl, by show 0 + ms.length ≤ (List.take 0 ([] : List Lnk) ++ List.take ms.length (List.drop 0 ms)).length; rw [appZ]; omega, by show 0 + L.length ≤ L.length; omega, by show (0 + ms.length + L.length) * 33 ≤ _; omega⟩, ?_⟩
                have happ : (List.take 0 ([] : List Lnk) ++ List.take ms.length (List.drop 0 ms)).take (0 + ms.length) ++ (L.drop 0).take L.length = ms ++ L := by rw [appZ]; simp
                conv => whnf
                refine call_step hck2 rfl rfl ?_
                conv => whnf
                refine ⟨(by
                  repeat' (first | exact trivial | exact rfl | refine And.intro ?_ ?_ | ((conv => whnf); first | exact trivial | exact rfl | refine And.intro ?_ ?_ | omega))
                  all_goals exact (show 0 + ms.length + L.length = (ms ++ L).length by rw [List.length_append, Nat.zero_add])), (by
                  repeat' (first | exact trivial | exact rfl | refine And.intro ?_ ?_ | ((conv => whnf); first | exact trivial | exact rfl | refine And.intro ?_ ?_ | omega))
                  all_goals exact (congrArg aLink happ : _)), ?_⟩
                conv => whnf
                refine ⟨fun hc => absurd hc (by simp), fun hc => ?_⟩
                conv => whnf
                have hb1 := boxes_t bs ms hwm.sys
                have hb2 := refBoxes_t bs ms hwm.sys
                rw [← boxes_eq hwm] at hb2
                have hbl := boxesF_len bs.length (graphF bs ms 0)
                generalize boxesF bs.length (graphF bs ms 0) = bx at *
                refine call_step (netLinks_t bs ms (by omega)) rfl rfl ?_
                conv => whnf
                refine ⟨(by repeat' (first | exact trivial | exact rfl | refine And.intro ?_ ?_ | ((conv => whnf); first | exact trivial | exact rfl | refine And.intro ?_ ?_ | omega))), (by repeat' (first | exact trivial | exact rfl | refine And.intro ?_ ?_ | ((conv => whnf); first | exact trivial | exact rfl | refine And.intro ?_ ?_ | omega))), ?_⟩
                conv => whnf
                refine call_step (linksSame_t ms (by omega)) rfl rfl ?_
                conv => whnf
                refine ⟨(by repeat' (first | exact trivial | exact rfl | refine And.intro ?_ ?_ | ((conv => whnf); first | exact trivial | exact rfl | refine And.intro ?_ ?_ | omega))), (by repeat' (first | exact trivial | exact rfl | refine And.intro ?_ ?_ | ((conv => whnf); first | exact trivial | exact rfl | refine And.intro ?_ ?_ | omega))), ?_⟩
                conv => whnf
                refine call_step hb1 rfl rfl ?_
                conv => whnf
                refine ⟨(by repeat' (first | exact trivial | exact rfl | refine And.intro ?_ ?_ | ((conv => whnf); first | exact trivial | exact rfl | refine And.intro ?_ ?_ | omega))), (by repeat' (first | exact trivial | exact rfl | refine And.intro ?_ ?_ | ((conv => whnf); first | exact trivial | exact rfl | refine And.intro ?_ ?_ | omega))), ?_⟩
                conv => whnf
                refine call_step hb2 rfl rfl ?_
                conv => whnf
                refine ⟨(by repeat' (first | exact trivial | exact rfl | refine And.intro ?_ ?_ | ((conv => whnf); first | exact trivial | exact rfl | refine And.intro ?_ ?_ | omega))), (by repeat' (first | exact trivial | exact rfl | refine And.intro ?_ ?_ | ((conv => whnf); first | exact trivial | exact rfl | refine And.intro ?_ ?_ | omega))), ?_⟩
                conv => whnf
                refine call_step (spansSame_t bx (by omega)) rfl rfl ?_
                conv => whnf
                refine ⟨(by repeat' (first | exact trivial | exact rfl | refine And.intro ?_ ?_ | ((conv => whnf); first | exact trivial | exact rfl | refine And.intro ?_ ?_ | omega))), (by repeat' (first | exact trivial | exact rfl | refine And.intro ?_ ?_ | ((conv => whnf); first | exact trivial | exact rfl | refine And.intro ?_ ?_ | omega))), ?_⟩
                conv => whnf
                refine ⟨fun hc => absurd hc (by simp), fun hc => ?_⟩
                conv => whnf
                refine ⟨fun hc => absurd hc (by simp), fun hc => ?_⟩
                conv => whnf
                refine ⟨(i : Int) + 1, wrapId (z := (i : Int) + 1) ⟨by omega, by omega⟩, ?_⟩
                refine ⟨(i + 1, ms), ⟨hlt, hl2, hwm⟩, by show xs.length - (i + 1) < xs.length - i; omega, ?_⟩
                conv => whnf
                refine ⟨rfl, ?_⟩
                conv => whnf
                repeat' (first | exact trivial | exact rfl | refine And.intro ?_ ?_ | ((conv => whnf); first | exact trivial | exact rfl | refine And.intro ?_ ?_ | omega))
              · have hadd := refAddedOk_t bs ms L hwm.sys (by omega) ha
                have hput := putOk_t bs ms L hw2.sys hw2.calm
                have hl3 : (ms ++ L).length ≤ 40 + 8 * (i + 1) := by rw [List.length_append]; omega
                generalize ms ++ L = M at *
                refine call_step hadd rfl rfl ?_
                conv => whnf
                refine ⟨(by repeat' (first | exact trivial | exact rfl | refine And.intro ?_ ?_ | ((conv => whnf); first | exact trivial | exact rfl | refine And.intro ?_ ?_ | omega))), (by repeat' (first | exact trivial | exact rfl | refine And.intro ?_ ?_ | ((conv => whnf); first | exact trivial | exact rfl | refine And.intro ?_ ?_ | omega))), ?_⟩
                conv => whnf
                refine ⟨i, rfl, hlt, hfl, ?_⟩
                refine loadL_row (hrow hfl) ?_
                conv => whnf
                refine call_step hput rfl rfl ?_
                conv => whnf
                refine ⟨(by repeat' (first | exact trivial | exact rfl | refine And.intro ?_ ?_ | ((conv => whnf); first | exact trivial | exact rfl | refine And.intro ?_ ?_ | omega))), (by repeat' (first | exact trivial | exact rfl | refine And.intro ?_ ?_ | ((conv => whnf); first | exact trivial | exact rfl | refine And.intro ?_ ?_ | omega))), ?_⟩
                conv => whnf
                refine ⟨fun hc => absurd hc (by simp), fun hc => ?_⟩
                conv => whnf
                refine ⟨fun hc => ?_, fun hc => absurd hc (by simp)⟩
                conv => whnf
                refine ⟨fun hc => absurd hc (by simp), fun hc => ?_⟩
                conv => whnf
                refine ⟨fun hc => absurd hc (by simp), fun hc => ?_⟩
                conv => whnf
                have hb1 := boxes_t bs M hw2.sys
                have hb2 := refBoxes_t bs M hw2.sys
                rw [← boxes_eq hw2] at hb2
                have hbl := boxesF_len bs.length (graphF bs M 0)
                generalize boxesF bs.length (graphF bs M 0) = bx at *
                refine call_step (netLinks_t bs M (by omega)) rfl rfl ?_
                conv => whnf
                refine ⟨(by repeat' (first | exact trivial | exact rfl | refine And.intro ?_ ?_ | ((conv => whnf); first | exact trivial | exact rfl | refine And.intro ?_ ?_ | omega))), (by repeat' (first | exact trivial | exact rfl | refine And.intro ?_ ?_ | ((conv => whnf); first | exact trivial | exact rfl | refine And.intro ?_ ?_ | omega))), ?_⟩
                conv => whnf
                refine call_step (linksSame_t M (by omega)) rfl rfl ?_
                conv => whnf
                refine ⟨(by repeat' (first | exact trivial | exact rfl | refine And.intro ?_ ?_ | ((conv => whnf); first | exact trivial | exact rfl | refine And.intro ?_ ?_ | omega))), (by repeat' (first | exact trivial | exact rfl | refine And.intro ?_ ?_ | ((conv => whnf); first | exact trivial | exact rfl | refine And.intro ?_ ?_ | omega))), ?_⟩
                conv => whnf
                refine call_step hb1 rfl rfl ?_
                conv => whnf
                refine ⟨(by repeat' (first | exact trivial | exact rfl | refine And.intro ?_ ?_ | ((conv => whnf); first | exact trivial | exact rfl | refine And.intro ?_ ?_ | omega))), (by repeat' (first | exact trivial | exact rfl | refine And.intro ?_ ?_ | ((conv => whnf); first | exact trivial | exact rfl | refine And.intro ?_ ?_ | omega))), ?_⟩
                conv => whnf
                refine call_step hb2 rfl rfl ?_
                conv => whnf
                refine ⟨(by repeat' (first | exact trivial | exact rfl | refine And.intro ?_ ?_ | ((conv => whnf); first | exact trivial | exact rfl | refine And.intro ?_ ?_ | omega))), (by repeat' (first | exact trivial | exact rfl | refine And.intro ?_ ?_ | ((conv => whnf); first | exact trivial | exact rfl | refine And.intro ?_ ?_ | omega))), ?_⟩
                conv => whnf
                refine call_step (spansSame_t bx (by omega)) rfl rfl ?_
                conv => whnf
                refine ⟨(by repeat' (first | exact trivial | exact rfl | refine And.intro ?_ ?_ | ((conv => whnf); first | exact trivial | exact rfl | refine And.intro ?_ ?_ | omega))), (by repeat' (first | exact trivial | exact rfl | refine And.intro ?_ ?_ | ((conv => whnf); first | exact trivial | exact rfl | refine And.intro ?_ ?_ | omega))), ?_⟩
                conv => whnf
                refine ⟨fun hc => absurd hc (by simp), fun hc => ?_⟩
                conv => whnf
                refine ⟨fun hc => absurd hc (by simp), fun hc => ?_⟩
                conv => whnf
                refine ⟨(i : Int) + 1, wrapId (z := (i : Int) + 1) ⟨by omega, by omega⟩, ?_⟩
                refine ⟨(i + 1, M), ⟨hlt, hl3, hw2⟩, by show xs.length - (i + 1) < xs.length - i; omega, ?_⟩
                conv => whnf
                refine ⟨rfl, ?_⟩
                conv => whnf
                repeat' (first | exact trivial | exact rfl | refine And.intro ?_ ?_ | ((conv => whnf); first | exact trivial | exact rfl | refine And.intro ?_ ?_ | omega))
          · conv => whnf
            repeat' (first | exact trivial | exact rfl | refine And.intro ?_ ?_ | ((conv => whnf); first | exact trivial | exact rfl | refine And.intro ?_ ?_ | omega))
        · have hag0 : (fromF bs.length (allF bs ls) (-1)).isSome = false := by
            rw [← Bool.not_eq_true, hac]; exact hcalm
          rw [hag0] at hag
          have hnew := newClash_t bs ls hs hcalm
          refine triple_ofG tB_ok Try.func14 rfl Try.call14 rfl _ ?_
          intro ρ w hH hG
          conv => whnf
          refine call_step head_t rfl rfl ?_
          conv => whnf
          refine ⟨(by repeat' (first | exact trivial | exact rfl | refine And.intro ?_ ?_ | ((conv => whnf); first | exact trivial | exact rfl | refine And.intro ?_ ?_ | omega))), (by repeat' (first | exact trivial | exact rfl | refine And.intro ?_ ?_ | ((conv => whnf); first | exact trivial | exact rfl | refine And.intro ?_ ?_ | omega))), ?_⟩
          conv => whnf
          refine call_step (few_t bs ls) rfl rfl ?_
          conv => whnf
          refine ⟨(by repeat' (first | exact trivial | exact rfl | refine And.intro ?_ ?_ | ((conv => whnf); first | exact trivial | exact rfl | refine And.intro ?_ ?_ | omega))), (by repeat' (first | exact trivial | exact rfl | refine And.intro ?_ ?_ | ((conv => whnf); first | exact trivial | exact rfl | refine And.intro ?_ ?_ | omega))), ?_⟩
          conv => whnf
          rw [hfe]
          refine ⟨fun hc => absurd hc (by simp), fun hc => ?_⟩
          conv => whnf
          refine ⟨fun hc => absurd (of_decide_eq_true (show decide ((12 : Int) < xs.length) = true from hc)) (by omega), fun hc => ?_⟩
          conv => whnf
          refine call_step hnew rfl rfl ?_
          conv => whnf
          refine ⟨(by repeat' (first | exact trivial | exact rfl | refine And.intro ?_ ?_ | ((conv => whnf); first | exact trivial | exact rfl | refine And.intro ?_ ?_ | omega))), (by repeat' (first | exact trivial | exact rfl | refine And.intro ?_ ?_ | ((conv => whnf); first | exact trivial | exact rfl | refine And.intro ?_ ?_ | omega))), ?_⟩
          conv => whnf
          refine call_step hrc rfl rfl ?_
          conv => whnf
          refine ⟨(by repeat' (first | exact trivial | exact rfl | refine And.intro ?_ ?_ | ((conv => whnf); first | exact trivial | exact rfl | refine And.intro ?_ ?_ | omega))), (by repeat' (first | exact trivial | exact rfl | refine And.intro ?_ ?_ | ((conv => whnf); first | exact trivial | exact rfl | refine And.intro ?_ ?_ | omega))), ?_⟩
          conv => whnf
          refine ⟨fun hc => ?_, fun hc => absurd hc (by simp)⟩
          conv => whnf
          refine call_step hag rfl rfl ?_
          conv => whnf
          refine ⟨(by repeat' (first | exact trivial | exact rfl | refine And.intro ?_ ?_ | ((conv => whnf); first | exact trivial | exact rfl | refine And.intro ?_ ?_ | omega))), (by repeat' (first | exact trivial | exact rfl | refine And.intro ?_ ?_ | ((conv => whnf); first | exact trivial | exact rfl | refine And.intro ?_ ?_ | omega))), ?_⟩
          conv => whnf
          refine ⟨fun hc => ?_, fun hc => absurd hc (by simp)⟩
          conv => whnf
          refine ⟨fun hc => absurd hc (by simp), fun hc => ?_⟩
          conv => whnf
          refine ⟨fun hc => absurd hc (by simp), fun hc => ?_⟩
          conv => whnf
          refine loop_step tB_ok (G := Unit) 0 [] (fun _ => [(9, iv .i64 0)]) (fun _ => []) (fun _ => True) (fun _ => 0) ?_
          conv => whnf
          refine ⟨⟨(), trivial, ?_⟩, ?_⟩
          · conv => whnf
            repeat' (first | exact trivial | exact rfl | refine And.intro ?_ ?_ | ((conv => whnf); first | exact trivial | exact rfl | refine And.intro ?_ ?_ | omega))
          intro _ _ ρ2 t2 hρ2
          conv => whnf
          refine ⟨fun hc => ?_, fun hc => ?_⟩
          · conv => whnf
            refine ⟨fun hc => absurd hc (by simp), fun hc => ?_⟩
            conv => whnf
            repeat' (first | exact trivial | exact rfl | refine And.intro ?_ ?_ | ((conv => whnf); first | exact trivial | exact rfl | refine And.intro ?_ ?_ | omega))
          · conv => whnf
            repeat' (first | exact trivial | exact rfl | refine And.intro ?_ ?_ | ((conv => whnf); first | exact trivial | exact rfl | refine And.intro ?_ ?_ | omega))
      · have hnew := newErr_t bs ls (by omega) (by omega) hck
        generalize checkF bs ls = c at *
        refine triple_ofG tB_ok Try.func14 rfl Try.call14 rfl _ ?_
        intro ρ w hH hG
        conv => whnf
        refine call_step head_t rfl rfl ?_
        conv => whnf
        refine ⟨(by repeat' (first | exact trivial | exact rfl | refine And.intro ?_ ?_ | ((conv => whnf); first | exact trivial | exact rfl | refine And.intro ?_ ?_ | omega))), (by repeat' (first | exact trivial | exact rfl | refine And.intro ?_ ?_ | ((conv => whnf); first | exact trivial | exact rfl | refine And.intro ?_ ?_ | omega))), ?_⟩
        conv => whnf
        refine call_step (few_t bs ls) rfl rfl ?_
        conv => whnf
        refine ⟨(by repeat' (first | exact trivial | exact rfl | refine And.intro ?_ ?_ | ((conv => whnf); first | exact trivial | exact rfl | refine And.intro ?_ ?_ | omega))), (by repeat' (first | exact trivial | exact rfl | refine And.intro ?_ ?_ | ((conv => whnf); first | exact trivial | exact rfl | refine And.intro ?_ ?_ | omega))), ?_⟩
        conv => whnf
        rw [hfe]
        refine ⟨fun hc => absurd hc (by simp), fun hc => ?_⟩
        conv => whnf
        refine ⟨fun hc => absurd (of_decide_eq_true (show decide ((12 : Int) < xs.length) = true from hc)) (by omega), fun hc => ?_⟩
        conv => whnf
        refine call_step hnew rfl rfl ?_
        conv => whnf
        refine ⟨(by repeat' (first | exact trivial | exact rfl | refine And.intro ?_ ?_ | ((conv => whnf); first | exact trivial | exact rfl | refine And.intro ?_ ?_ | omega))), (by repeat' (first | exact trivial | exact rfl | refine And.intro ?_ ?_ | ((conv => whnf); first | exact trivial | exact rfl | refine And.intro ?_ ?_ | omega))), ?_⟩
        conv => whnf
        refine call_step hrc rfl rfl ?_
        conv => whnf
        refine ⟨(by repeat' (first | exact trivial | exact rfl | refine And.intro ?_ ?_ | ((conv => whnf); first | exact trivial | exact rfl | refine And.intro ?_ ?_ | omega))), (by repeat' (first | exact trivial | exact rfl | refine And.intro ?_ ?_ | ((conv => whnf); first | exact trivial | exact rfl | refine And.intro ?_ ?_ | omega))), ?_⟩
        conv => whnf
        refine ⟨fun hc => absurd (by simpa using (show (c == 0) = true from hc)) hck, fun hc => ?_⟩
        conv => whnf
        refine ⟨fun hc => absurd hc (by simp), fun hc => ?_⟩
        conv => whnf
        have hcb : (c != 0) = true := by simpa using hck
        refine ⟨fun hc => absurd (show (true != (c != 0)) = true from hc) (by rw [hcb]; simp), fun hc => ?_⟩
        conv => whnf
        refine loop_step tB_ok (G := Unit) 0 [] (fun _ => [(9, iv .i64 0)]) (fun _ => []) (fun _ => True) (fun _ => 0) ?_
        conv => whnf
        refine ⟨⟨(), trivial, ?_⟩, ?_⟩
        · conv => whnf
          repeat' (first | exact trivial | exact rfl | refine And.intro ?_ ?_ | ((conv => whnf); first | exact trivial | exact rfl | refine And.intro ?_ ?_ | omega))
        intro _ _ ρ2 t2 hρ2
        conv => whnf
        refine ⟨fun hc => ?_, fun hc => ?_⟩
        · conv => whnf
          refine ⟨fun hc => absurd (by simpa using (show (c == 0) = true from hc)) hck, fun hc => ?_⟩
          conv => whnf
          repeat' (first | exact trivial | exact rfl | refine And.intro ?_ ?_ | ((conv => whnf); first | exact trivial | exact rfl | refine And.intro ?_ ?_ | omega))
        · conv => whnf
          repeat' (first | exact trivial | exact rfl | refine And.intro ?_ ?_ | ((conv => whnf); first | exact trivial | exact rfl | refine And.intro ?_ ?_ | omega))
    · skip
      refine triple_ofG tB_ok Try.func14 rfl Try.call14 rfl _ ?_
      intro ρ w hH hG
      conv => whnf
      refine call_step head_t rfl rfl ?_
      conv => whnf
      refine ⟨(by repeat' (first | exact trivial | exact rfl | refine And.intro ?_ ?_ | ((conv => whnf); first | exact trivial | exact rfl | refine And.intro ?_ ?_ | omega))), (by repeat' (first | exact trivial | exact rfl | refine And.intro ?_ ?_ | ((conv => whnf); first | exact trivial | exact rfl | refine And.intro ?_ ?_ | omega))), ?_⟩
      conv => whnf
      refine call_step (few_t bs ls) rfl rfl ?_
      conv => whnf
      refine ⟨(by repeat' (first | exact trivial | exact rfl | refine And.intro ?_ ?_ | ((conv => whnf); first | exact trivial | exact rfl | refine And.intro ?_ ?_ | omega))), (by repeat' (first | exact trivial | exact rfl | refine And.intro ?_ ?_ | ((conv => whnf); first | exact trivial | exact rfl | refine And.intro ?_ ?_ | omega))), ?_⟩
      conv => whnf
      rw [hfe]
      refine ⟨fun hc => absurd hc (by simp), fun hc => ?_⟩
      conv => whnf
      refine ⟨fun hc => ?_, fun hc => absurd (of_decide_eq_false (show decide ((12 : Int) < xs.length) = false from hc)) (by omega)⟩
      conv => whnf
      repeat' (first | exact trivial | exact rfl | refine And.intro ?_ ?_ | ((conv => whnf); first | exact trivial | exact rfl | refine And.intro ?_ ?_ | omega))

end Go.Proofs

