/-
  A part of the proof that a law answers true: lemmas of a symbolic walk, plain functions, or contracts of the functions walked (Pm21, Pm22, Pm23, Pm24, Pm25, B2, B3, Pm26, Pm27, Pm28, B4, B5, B6, B7, B8, B9). Conditions: none.
-/
import Derived.Test.YtagedjfjcnemoaaGreatPart13
import Derived.Test.YtagedjfjcnemoaaGreatPart09
set_option maxRecDepth 100000
set_option linter.unusedVariables false
set_option linter.unusedSimpArgs false
/-
  Plain lemmas, part 21: readings of balances: what is checked, what they show, objects, moments, corrections, the system. Conditions: none; definitions and plain lemmas.
-/
namespace Go
namespace Proofs

structure Bal where
  id : Int
  half : Int
  lo : Int
  hi : Int
  dr : Int
  cap : Int
  deriving DecidableEq, Inhabited

structure Chk where
  id : Int
  bal : Int
  tick : Int
  mass : Int
  shown : Int
  deriving DecidableEq, Inhabited

structure Ntc where
  id : Int
  bal : Int
  wlo : Int
  whi : Int
  slo : Int
  shi : Int
  deriving DecidableEq, Inhabited

/-- An object. -/
structure Thg where
  lot : Int
  bale : Int
  smp : Int
  st : Int
  deriving DecidableEq, Inhabited

structure Wgh where
  id : Int
  bal : Int
  tick : Int
  o : Thg
  shown : Int
  deriving DecidableEq, Inhabited

structure Mom where
  bal : Int
  tick : Int
  deriving DecidableEq, Inhabited

structure Rd where
  bs : List Bal
  cs : List Chk
  ns : List Ntc
  ws : List Wgh

def balL (x : Bal) : List Int := [x.id, x.half, x.lo, x.hi, x.dr, x.cap]
def chkL (x : Chk) : List Int := [x.id, x.bal, x.tick, x.mass, x.shown]
def ntcL (x : Ntc) : List Int := [x.id, x.bal, x.wlo, x.whi, x.slo, x.shi]
def thgL (x : Thg) : List Int := [x.lot, x.bale, x.smp, x.st]
def wghL (x : Wgh) : List Int := [x.id, x.bal, x.tick, x.o.lot, x.o.bale, x.o.smp, x.o.st, x.shown]
def momL (x : Mom) : List Int := [x.bal, x.tick]

def wMom (w : Wgh) : Mom := ⟨w.bal, w.tick⟩
def cMom (c : Chk) : Mom := ⟨c.bal, c.tick⟩

/-! ### What is valid -/

def insideF (lo hi a b : Int) : Bool := decide (a ≤ lo) && decide (lo ≤ hi) && decide (hi ≤ b)

def validF (b : Bal) : Bool := withinF b.id 1 1099511627776 && (withinF b.half 0 1000 && (insideF b.lo b.hi (-1000000) 1000000 && (withinF b.dr 0 1000 && withinF b.cap 1 10000000)))

def thgF (o : Thg) : Bool := withinF o.lot 1 1099511627776 && (withinF o.bale 1 1099511627776 && (bif (o.st == 1 || o.st == 2) then o.smp == 0 else bif (o.st == 3 || o.st == 4) then withinF o.smp 1 1099511627776 else false))

def zBal : Bal := ⟨0, 0, 0, 0, 0, 0⟩
def findB (bs : List Bal) (id : Int) : Option Bal := bs.find? fun b => b.id == id
def findD (bs : List Bal) (id : Int) : Bal := (findB bs id).getD zBal
def hasB (bs : List Bal) (id : Int) : Bool := (findB bs id).isSome

def chkF (bs : List Bal) (c : Chk) : Bool := hasB bs c.bal && (withinF c.tick 0 1000000 && (withinF c.mass 0 (findD bs c.bal).cap && withinF c.shown 0 10000000))
def ntcF (bs : List Bal) (n : Ntc) : Bool := hasB bs n.bal && (insideF n.wlo n.whi 0 1000000 && insideF n.slo n.shi (-1000000) 1000000)
def wghF (bs : List Bal) (w : Wgh) : Bool := hasB bs w.bal && (withinF w.tick 0 1000000 && (thgF w.o && withinF w.shown 0 10000000))

/-- The first error of a list of numbered things, behind some numbers that were seen. -/
def errF : List Int → List (Int × Bool) → Int
  | _, [] => 0
  | seen, (i, ok) :: r => bif !ok then 1 else bif seen.contains i then 6 else errF (seen ++ [i]) r

def idOK (i : Int) : Bool := withinF i 1 1099511627776

def balP (b : Bal) : Int × Bool := (b.id, validF b)
def chkP (bs : List Bal) (c : Chk) : Int × Bool := (c.id, idOK c.id && chkF bs c)
def ntcP (bs : List Bal) (n : Ntc) : Int × Bool := (n.id, idOK n.id && ntcF bs n)
def wghP (bs : List Bal) (w : Wgh) : Int × Bool := (w.id, idOK w.id && wghF bs w)

def rdErrs (r : Rd) : List (Int × Bool) := r.cs.map (chkP r.bs) ++ (r.ns.map (ntcP r.bs) ++ r.ws.map (wghP r.bs))

def checkR (r : Rd) : Int :=
  bif decide (8 < r.bs.length) || decide (100 < r.cs.length + r.ns.length + r.ws.length) then 2
  else bif errF [] (r.bs.map balP) == 0 then errF [] (rdErrs r) else errF [] (r.bs.map balP)

theorem errF_zero : ∀ {l : List (Int × Bool)} {seen : List Int}, errF seen l = 0 ↔ (∀ p ∈ l, p.2 = true ∧ p.1 ∉ seen) ∧ (l.map Prod.fst).Nodup
  | [], _ => by simp [errF]
  | (i, ok) :: r, seen => by
    unfold errF
    cases ok with
    | false =>
      simp only [Bool.not_false, cond_true, List.mem_cons, List.map_cons]
      constructor
      · intro h; cases h
      · rintro ⟨h, _⟩; have := (h _ (.inl rfl)).1; cases this
    | true =>
      simp only [Bool.not_true, cond_false]
      cases hc : seen.contains i with
      | true =>
        have hm : i ∈ seen := by simpa using hc
        simp only [cond_true]
        constructor
        · intro h; cases h
        · rintro ⟨h, _⟩; exact absurd hm (h (i, true) (List.mem_cons_self ..)).2
      | false =>
        have hm : i ∉ seen := by simpa using hc
        simp only [cond_false]
        rw [errF_zero (l := r)]
        simp only [List.map_cons, List.nodup_cons, List.mem_cons, List.mem_append, List.mem_singleton, List.mem_map]
        constructor
        · rintro ⟨h1, h2⟩
          refine ⟨?_, ?_, h2⟩
          · rintro p (rfl | hp)
            · exact ⟨rfl, hm⟩
            · exact ⟨(h1 p hp).1, fun hs => (h1 p hp).2 (.inl hs)⟩
          · rintro ⟨p, hp, rfl⟩
            exact (h1 p hp).2 (.inr (.inl rfl))
        · rintro ⟨h1, h2, h3⟩
          refine ⟨fun p hp => ⟨(h1 p (.inr hp)).1, ?_⟩, h3⟩
          rintro (hs | hs | hs)
          · exact (h1 p (.inr hp)).2 hs
          · exact h2 ⟨p, hp, hs⟩
          · cases hs

/-- Valid readings. -/
structure RdOK (r : Rd) : Prop where
  nb : r.bs.length ≤ 8
  nr : r.cs.length + r.ns.length + r.ws.length ≤ 100
  bal : ∀ b ∈ r.bs, validF b = true
  balN : (r.bs.map Bal.id).Nodup
  chk : ∀ c ∈ r.cs, idOK c.id = true ∧ chkF r.bs c = true
  ntc : ∀ n ∈ r.ns, idOK n.id = true ∧ ntcF r.bs n = true
  wgh : ∀ w ∈ r.ws, idOK w.id = true ∧ wghF r.bs w = true
  ids : (r.cs.map Chk.id ++ (r.ns.map Ntc.id ++ r.ws.map Wgh.id)).Nodup

theorem rdErrs_fst (r : Rd) : (rdErrs r).map Prod.fst = r.cs.map Chk.id ++ (r.ns.map Ntc.id ++ r.ws.map Wgh.id) := by
  unfold rdErrs
  rw [List.map_append, List.map_append, List.map_map, List.map_map, List.map_map]
  rfl

theorem checkR_ok {r : Rd} : checkR r = 0 ↔ RdOK r := by
  unfold checkR
  cases hl : (decide (8 < r.bs.length) || decide (100 < r.cs.length + r.ns.length + r.ws.length)) with
  | true =>
    simp only [cond_true]
    refine ⟨fun h => (by cases h), fun h => ?_⟩
    have := h.nb; have := h.nr
    simp at hl; omega
  | false =>
    simp at hl
    simp only [cond_false]
    have hb := errF_zero (l := r.bs.map balP) (seen := [])
    have hr := errF_zero (l := rdErrs r) (seen := [])
    rw [rdErrs_fst] at hr
    have hbi : (r.bs.map balP).map Prod.fst = r.bs.map Bal.id := by rw [List.map_map]; rfl
    rw [hbi] at hb
    by_cases h0 : errF [] (r.bs.map balP) = 0
    · have h0b : (errF [] (r.bs.map balP) == 0) = true := by simpa using h0
      rw [h0b, cond_true, hr]
      obtain ⟨b1, b2⟩ := hb.1 h0
      constructor
      · rintro ⟨h1, h2⟩
        refine ⟨by omega, by omega, fun b hbm => (b1 _ (List.mem_map.2 ⟨b, hbm, rfl⟩)).1, b2, fun c hc => ?_, fun c hc => ?_, fun c hc => ?_, h2⟩
        · have := (h1 (chkP r.bs c) (List.mem_append.2 (.inl (List.mem_map.2 ⟨c, hc, rfl⟩)))).1
          simpa [chkP] using this
        · have := (h1 (ntcP r.bs c) (List.mem_append.2 (.inr (List.mem_append.2 (.inl (List.mem_map.2 ⟨c, hc, rfl⟩)))))).1
          simpa [ntcP] using this
        · have := (h1 (wghP r.bs c) (List.mem_append.2 (.inr (List.mem_append.2 (.inr (List.mem_map.2 ⟨c, hc, rfl⟩)))))).1
          simpa [wghP] using this
      · intro h
        refine ⟨fun p hp => ⟨?_, by simp⟩, h.ids⟩
        rcases List.mem_append.1 hp with hp | hp
        · obtain ⟨c, hc, rfl⟩ := List.mem_map.1 hp
          have := h.chk c hc; simp [chkP, this.1, this.2]
        · rcases List.mem_append.1 hp with hp | hp
          · obtain ⟨c, hc, rfl⟩ := List.mem_map.1 hp
            have := h.ntc c hc; simp [ntcP, this.1, this.2]
          · obtain ⟨c, hc, rfl⟩ := List.mem_map.1 hp
            have := h.wgh c hc; simp [wghP, this.1, this.2]
    · have h0b : (errF [] (r.bs.map balP) == 0) = false := by simpa using h0
      rw [h0b, cond_false]
      refine ⟨fun h => absurd h h0, fun h => absurd ?_ h0⟩
      refine hb.2 ⟨fun p hp => ⟨?_, by simp⟩, h.balN⟩
      obtain ⟨b, hb', rfl⟩ := List.mem_map.1 hp
      exact h.bal b hb'

/-! ### Showing -/

def canF (b : Bal) (mass shift : Int) : Bool := validF b && (withinF mass 0 b.cap && withinF shift (-1000000) 1000000)
def showingF (b : Bal) (mass shift : Int) : (Int × Int) × Int :=
  bif canF b mass shift then (bif decide (min 10000000 (mass - shift + b.half) < max 0 (mass - shift - b.half)) then ((0, 0), 3) else ((max 0 (mass - shift - b.half), min 10000000 (mass - shift + b.half)), 0)) else ((0, 0), 1)

/-! ### Objects and moments in order -/

def thgLt (a b : Thg) : Bool := decide (a.lot < b.lot) || (a.lot == b.lot && (decide (a.bale < b.bale) || (a.bale == b.bale && (decide (a.smp < b.smp) || (a.smp == b.smp && decide (a.st < b.st))))))
def momLt (a b : Mom) : Bool := decide (a.bal < b.bal) || (a.bal == b.bal && decide (a.tick < b.tick))

theorem thgLt_ok : LtOK thgLt where
  irr x := by simp [thgLt]
  tr x y z h1 h2 := by simp [thgLt] at *; omega
  tot x y h := by
    by_cases h1 : thgLt x y = true
    · exact .inl h1
    · refine .inr ?_
      have h1 : thgLt x y = false := by simpa using h1
      have h2 : ¬ (x.lot = y.lot ∧ x.bale = y.bale ∧ x.smp = y.smp ∧ x.st = y.st) := fun ⟨a, b, c, d⟩ => h (by cases x; cases y; simp_all)
      simp [thgLt] at *; omega

theorem momLt_ok : LtOK momLt where
  irr x := by simp [momLt]
  tr x y z h1 h2 := by simp [momLt] at *; omega
  tot x y h := by
    by_cases h1 : momLt x y = true
    · exact .inl h1
    · refine .inr ?_
      have h1 : momLt x y = false := by simpa using h1
      have h2 : ¬ (x.bal = y.bal ∧ x.tick = y.tick) := fun ⟨a, b⟩ => h (by cases x; cases y; simp_all)
      simp [momLt] at *; omega

def objsF (r : Rd) : List Thg := distS thgLt (r.ws.map Wgh.o)
def momsF (r : Rd) (more : List Mom) : List Mom := distS momLt (r.ws.map wMom ++ (r.cs.map cMom ++ more))

theorem objsF_mem {r : Rd} {o : Thg} : o ∈ objsF r ↔ ∃ w ∈ r.ws, w.o = o := by unfold objsF; rw [distS_mem thgLt_ok, List.mem_map]
theorem momsF_mem {r : Rd} {more : List Mom} {m : Mom} : m ∈ momsF r more ↔ (∃ w ∈ r.ws, wMom w = m) ∨ (∃ c ∈ r.cs, cMom c = m) ∨ m ∈ more := by
  unfold momsF; rw [distS_mem momLt_ok, List.mem_append, List.mem_append, List.mem_map, List.mem_map]
theorem objsF_len (r : Rd) : (objsF r).length ≤ r.ws.length := by have := distS_len thgLt_ok (r.ws.map Wgh.o); simpa [objsF] using this
theorem momsF_len (r : Rd) (more : List Mom) : (momsF r more).length ≤ r.ws.length + r.cs.length + more.length := by
  have := distS_len momLt_ok (r.ws.map wMom ++ (r.cs.map cMom ++ more)); simp [momsF] at *; omega

/-! ### Corrections -/

structure Sid where
  lo : Int
  hi : Int
  loI : Int
  hiI : Int
  some : Bool
  deriving DecidableEq

def sideStep (m : Mom) (s : Sid) (n : Ntc) : Sid :=
  bif (n.bal == m.bal) && withinF m.tick n.wlo n.whi then
    { lo := bif !s.some || decide (s.lo < n.slo) then n.slo else s.lo
      loI := bif !s.some || decide (s.lo < n.slo) then n.id else s.loI
      hi := bif !s.some || decide (n.shi < s.hi) then n.shi else s.hi
      hiI := bif !s.some || decide (n.shi < s.hi) then n.id else s.hiI
      some := true }
  else s

def sideF (r : Rd) (m : Mom) : Sid := (sortK Ntc.id r.ns).foldl (sideStep m) ⟨(findD r.bs m.bal).lo, (findD r.bs m.bal).hi, 0, 0, false⟩

/-! ### The system -/

def capStep (bs : List Bal) (o : Thg) (n : Int) (w : Wgh) : Int := bif w.o == o then min n (findD bs w.bal).cap else n
def capF (r : Rd) (o : Thg) : Int := r.ws.foldl (capStep r.bs o) 10000000

/-- An element's place in a list, or -1. -/
def plF {α : Type} [DecidableEq α] (l : List α) (x : α) : Int := if x ∈ l then ((l.idxOf x : Nat) : Int) else -1

def boxesR (r : Rd) (os : List Thg) (ms : List Mom) : List (Int × Int) := os.map (fun o => (0, capF r o)) ++ ms.map (fun _ => (-1000000, 1000000))

def wghLs (bs : List Bal) (os : List Thg) (ms : List Mom) (w : Wgh) : List Lnk :=
  [⟨os.length + plF ms (wMom w), plF os w.o, w.shown + (findD bs w.bal).half, w.id⟩, ⟨plF os w.o, os.length + plF ms (wMom w), (findD bs w.bal).half - w.shown, w.id⟩]
def chkLs (bs : List Bal) (os : List Thg) (ms : List Mom) (c : Chk) : List Lnk :=
  [⟨-1, os.length + plF ms (cMom c), c.mass - c.shown + (findD bs c.bal).half, c.id⟩, ⟨os.length + plF ms (cMom c), -1, c.shown + (findD bs c.bal).half - c.mass, c.id⟩]
def momLs (r : Rd) (os : List Thg) (ms : List Mom) (m : Mom) : List Lnk :=
  [⟨-1, os.length + plF ms m, (sideF r m).hi, (sideF r m).hiI⟩, ⟨os.length + plF ms m, -1, -(sideF r m).lo, (sideF r m).loI⟩]
def drfLs (bs : List Bal) (k : Nat) (i : Nat) : List Mom → List Lnk
  | a :: b :: r => (bif a.bal == b.bal then
      [⟨k + i, k + i + 1, min ((findD bs a.bal).dr * (b.tick - a.tick)) 2000000, 0⟩, ⟨k + i + 1, k + i, min ((findD bs a.bal).dr * (b.tick - a.tick)) 2000000, 0⟩] else []) ++ drfLs bs k (i + 1) (b :: r)
  | _ => []
def cvrLs (os : List Thg) (heavy light : Int) (o : Thg) : List Lnk :=
  bif o.st == light && os.contains { o with st := heavy } then [⟨plF os { o with st := heavy }, plF os o, 0, 0⟩] else []

def linksR (r : Rd) (os : List Thg) (ms : List Mom) : List Lnk :=
  (sortK Wgh.id r.ws).flatMap (wghLs r.bs os ms) ++ ((sortK Chk.id r.cs).flatMap (chkLs r.bs os ms) ++ (ms.flatMap (momLs r os ms) ++ (drfLs r.bs os.length 0 ms ++ (os.flatMap (cvrLs os 1 2) ++ os.flatMap (cvrLs os 3 4)))))

def boxR (r : Rd) (more : List Mom) : List (Int × Int) := boxesR r (objsF r) (momsF r more)
def lnkR (r : Rd) (more : List Mom) : List Lnk := linksR r (objsF r) (momsF r more)

end Proofs
end Go

/-
  Plain lemmas, part 22: the system of valid readings is a checked system. Conditions: none; plain lemmas.
-/
namespace Go
namespace Proofs

theorem plF_mem {α : Type} [DecidableEq α] {l : List α} {x : α} (h : x ∈ l) : plF l x = (l.idxOf x : Nat) ∧ l.idxOf x < l.length := by
  unfold plF
  rw [if_pos h]
  exact ⟨rfl, List.idxOf_lt_length_iff.2 h⟩

theorem plF_get {α : Type} [DecidableEq α] {l : List α} {x : α} {i : Nat} (h : plF l x = i) : l[i]? = some x := by
  by_cases hm : x ∈ l
  · obtain ⟨h1, h2⟩ := plF_mem hm
    have : i = l.idxOf x := by omega
    subst this
    rw [List.getElem?_eq_getElem h2, List.getElem_idxOf]
  · unfold plF at h; rw [if_neg hm] at h; omega

theorem plF_at {α : Type} [DecidableEq α] {l : List α} (hd : l.Nodup) {i : Nat} {x : α} (h : l[i]? = some x) : plF l x = i := by
  obtain ⟨hi, rfl⟩ := List.getElem?_eq_some_iff.1 h
  have hm : l[i] ∈ l := List.getElem_mem hi
  obtain ⟨h1, h2⟩ := plF_mem hm
  have := plF_get h1
  obtain ⟨h3, h4⟩ := List.getElem?_eq_some_iff.1 this
  have hp := List.pairwise_iff_getElem.1 (show l.Pairwise (· ≠ ·) from hd)
  rcases Nat.lt_trichotomy (l.idxOf l[i]) i with hlt | he | hlt
  · exact absurd h4 (hp _ _ h3 hi hlt)
  · omega
  · exact absurd h4.symm (hp _ _ hi h3 hlt)

theorem plF_inj {α : Type} [DecidableEq α] {l : List α} {x y : α} (hx : x ∈ l) (h : plF l x = plF l y) : x = y := by
  obtain ⟨h1, _⟩ := plF_mem hx
  have e1 := plF_get h1
  rw [h1] at h
  have e2 := plF_get h.symm
  rw [e1] at e2
  exact Option.some.inj e2

theorem findB_some {bs : List Bal} {id : Int} (h : hasB bs id = true) : ∃ b ∈ bs, b.id = id ∧ findB bs id = some b ∧ findD bs id = b := by
  unfold hasB at h
  obtain ⟨b, hb⟩ := Option.isSome_iff_exists.1 h
  refine ⟨b, List.mem_of_find?_eq_some hb, ?_, hb, by unfold findD; rw [hb]; rfl⟩
  have := List.find?_some hb
  simpa using this

theorem valid_bd {b : Bal} (h : validF b = true) : (1 ≤ b.id ∧ b.id ≤ 1099511627776) ∧ (0 ≤ b.half ∧ b.half ≤ 1000) ∧ (-1000000 ≤ b.lo ∧ b.lo ≤ b.hi ∧ b.hi ≤ 1000000) ∧ (0 ≤ b.dr ∧ b.dr ≤ 1000) ∧ (1 ≤ b.cap ∧ b.cap ≤ 10000000) := by
  simp [validF, withinF, insideF] at h; omega

theorem RdOK.findD {r : Rd} (h : RdOK r) {id : Int} (hh : hasB r.bs id = true) : validF (findD r.bs id) = true := by
  obtain ⟨b, hb, _, _, e⟩ := findB_some hh
  rw [e]; exact h.bal b hb

/-- What a valid weighing's numbers are. -/
theorem RdOK.w {r : Rd} (h : RdOK r) {w : Wgh} (hw : w ∈ r.ws) : hasB r.bs w.bal = true ∧ (1 ≤ w.id ∧ w.id ≤ 1099511627776) ∧ (0 ≤ w.tick ∧ w.tick ≤ 1000000) ∧ thgF w.o = true ∧ (0 ≤ w.shown ∧ w.shown ≤ 10000000) := by
  obtain ⟨h1, h2⟩ := h.wgh w hw
  simp [idOK, wghF, withinF] at h1 h2
  exact ⟨h2.1, h1, h2.2.1, h2.2.2.1, h2.2.2.2⟩

theorem RdOK.c {r : Rd} (h : RdOK r) {c : Chk} (hc : c ∈ r.cs) : hasB r.bs c.bal = true ∧ (1 ≤ c.id ∧ c.id ≤ 1099511627776) ∧ (0 ≤ c.tick ∧ c.tick ≤ 1000000) ∧ (0 ≤ c.mass ∧ c.mass ≤ (Proofs.findD r.bs c.bal).cap) ∧ (0 ≤ c.shown ∧ c.shown ≤ 10000000) := by
  obtain ⟨h1, h2⟩ := h.chk c hc
  simp [idOK, chkF, withinF] at h1 h2
  exact ⟨h2.1, h1, h2.2.1, h2.2.2.1, h2.2.2.2⟩

theorem RdOK.n {r : Rd} (h : RdOK r) {n : Ntc} (hn : n ∈ r.ns) : hasB r.bs n.bal = true ∧ (1 ≤ n.id ∧ n.id ≤ 1099511627776) ∧ (0 ≤ n.wlo ∧ n.wlo ≤ n.whi ∧ n.whi ≤ 1000000) ∧ (-1000000 ≤ n.slo ∧ n.slo ≤ n.shi ∧ n.shi ≤ 1000000) := by
  obtain ⟨h1, h2⟩ := h.ntc n hn
  simp [idOK, ntcF, withinF, insideF] at h1 h2
  obtain ⟨h2, h3, h4⟩ := h2
  exact ⟨h2, h1, by omega, by omega⟩

/-- A moment of a balance. -/
def momOK (r : Rd) (m : Mom) : Bool := hasB r.bs m.bal && withinF m.tick 0 1000000

theorem RdOK.mom {r : Rd} (h : RdOK r) {more : List Mom} (hm : ∀ m ∈ more, momOK r m = true) {m : Mom} (hmm : m ∈ momsF r more) : momOK r m = true := by
  rcases momsF_mem.1 hmm with ⟨w, hw, rfl⟩ | ⟨c, hc, rfl⟩ | hmm
  · obtain ⟨h1, _, h2, _⟩ := h.w hw
    simp [momOK, wMom, withinF, h1]
    exact ⟨decide_eq_true h2.1, decide_eq_true h2.2⟩
  · obtain ⟨h1, _, h2, _⟩ := h.c hc
    simp [momOK, cMom, withinF, h1]
    exact ⟨decide_eq_true h2.1, decide_eq_true h2.2⟩
  · exact hm m hmm

theorem cap_bd {bs : List Bal} {o : Thg} : ∀ (ws : List Wgh) {n : Int}, (∀ w ∈ ws, 1 ≤ (findD bs w.bal).cap) → 1 ≤ n ∧ n ≤ 10000000 → 1 ≤ ws.foldl (capStep bs o) n ∧ ws.foldl (capStep bs o) n ≤ 10000000
  | [], n, _, h => h
  | w :: r, n, hw, h => by
    refine cap_bd r (fun w' h' => hw w' (by simp [h'])) ?_
    have := hw w (by simp)
    unfold capStep
    cases w.o == o with
    | true => simp only [cond_true]; omega
    | false => exact h

theorem side_bd {r : Rd} (h : RdOK r) (m : Mom) (hm : hasB r.bs m.bal = true) : (-1000000 ≤ (sideF r m).lo ∧ (sideF r m).lo ≤ 1000000) ∧ (-1000000 ≤ (sideF r m).hi ∧ (sideF r m).hi ≤ 1000000) ∧ (0 ≤ (sideF r m).loI ∧ (sideF r m).loI ≤ 1099511627776) ∧ (0 ≤ (sideF r m).hiI ∧ (sideF r m).hiI ≤ 1099511627776) := by
  unfold sideF
  have hb := valid_bd (h.findD hm)
  have hns : ∀ n ∈ sortK Ntc.id r.ns, n ∈ r.ns := fun n hn => (sortK_perm Ntc.id r.ns).mem_iff.1 hn
  generalize sortK Ntc.id r.ns = ns at hns
  have h0 : (-1000000 ≤ (findD r.bs m.bal).lo ∧ (findD r.bs m.bal).lo ≤ 1000000) ∧ (-1000000 ≤ (findD r.bs m.bal).hi ∧ (findD r.bs m.bal).hi ≤ 1000000) ∧ (0 ≤ (0 : Int) ∧ (0 : Int) ≤ 1099511627776) ∧ (0 ≤ (0 : Int) ∧ (0 : Int) ≤ 1099511627776) := by omega
  have gen : ∀ (ns : List Ntc) (s : Sid), (∀ n ∈ ns, n ∈ r.ns) → ((-1000000 ≤ s.lo ∧ s.lo ≤ 1000000) ∧ (-1000000 ≤ s.hi ∧ s.hi ≤ 1000000) ∧ (0 ≤ s.loI ∧ s.loI ≤ 1099511627776) ∧ (0 ≤ s.hiI ∧ s.hiI ≤ 1099511627776)) →
      ((-1000000 ≤ (ns.foldl (sideStep m) s).lo ∧ (ns.foldl (sideStep m) s).lo ≤ 1000000) ∧ (-1000000 ≤ (ns.foldl (sideStep m) s).hi ∧ (ns.foldl (sideStep m) s).hi ≤ 1000000) ∧ (0 ≤ (ns.foldl (sideStep m) s).loI ∧ (ns.foldl (sideStep m) s).loI ≤ 1099511627776) ∧ (0 ≤ (ns.foldl (sideStep m) s).hiI ∧ (ns.foldl (sideStep m) s).hiI ≤ 1099511627776)) := by
    intro ns
    induction ns with
    | nil => intro s _ hs; exact hs
    | cons n q ih =>
      intro s hq hs
      refine ih _ (fun x hx => hq x (by simp [hx])) ?_
      have hn := h.n (hq n (by simp))
      unfold sideStep
      cases (n.bal == m.bal) && withinF m.tick n.wlo n.whi with
      | false => exact hs
      | true =>
        simp only [cond_true]
        cases !s.some || decide (s.lo < n.slo) <;> cases !s.some || decide (n.shi < s.hi) <;> simp only [cond_true, cond_false] <;> omega
  exact gen ns _ hns h0

theorem drfLs_mem {bs : List Bal} {k : Nat} {l : Lnk} : ∀ {ms : List Mom} {i : Nat}, l ∈ drfLs bs k i ms → ∃ j a b, ms[j]? = some a ∧ ms[j + 1]? = some b ∧ a.bal = b.bal ∧
    (l = ⟨k + ((i + j : Nat) : Int), k + ((i + j : Nat) : Int) + 1, min ((findD bs a.bal).dr * (b.tick - a.tick)) 2000000, 0⟩ ∨ l = ⟨k + ((i + j : Nat) : Int) + 1, k + ((i + j : Nat) : Int), min ((findD bs a.bal).dr * (b.tick - a.tick)) 2000000, 0⟩)
  | [], _, h => by simp [drfLs] at h
  | [_], _, h => by simp [drfLs] at h
  | a :: b :: r, i, h => by
    unfold drfLs at h
    rcases List.mem_append.1 h with h | h
    · cases hc : a.bal == b.bal with
      | false => rw [hc] at h; cases h
      | true =>
        rw [hc] at h
        simp only [cond_true, List.mem_cons, List.not_mem_nil, or_false] at h
        exact ⟨0, a, b, rfl, rfl, by simpa using hc, by simpa using h⟩
    · obtain ⟨j, x, y, h1, h2, h3, h4⟩ := drfLs_mem h
      refine ⟨j + 1, x, y, by simpa using h1, by simpa using h2, h3, ?_⟩
      rw [show i + (j + 1) = i + 1 + j by omega]
      exact h4

theorem drfLs_len (bs : List Bal) (k : Nat) : ∀ (ms : List Mom) (i : Nat), (drfLs bs k i ms).length ≤ 2 * ms.length
  | [], _ => by simp [drfLs]
  | [_], _ => by simp [drfLs]
  | a :: b :: r, i => by
    have := drfLs_len bs k (b :: r) (i + 1)
    unfold drfLs
    rw [List.length_append]
    cases a.bal == b.bal <;> simp at * <;> omega

theorem flat2_len {α : Type} {f : α → List Lnk} (h : ∀ x, (f x).length = 2) : ∀ l : List α, (l.flatMap f).length = 2 * l.length
  | [] => rfl
  | x :: r => by rw [List.flatMap_cons, List.length_append, h, flat2_len h r, List.length_cons]; omega

theorem flat1_len {α : Type} {f : α → List Lnk} (h : ∀ x, (f x).length ≤ 1) : ∀ l : List α, (l.flatMap f).length ≤ l.length
  | [] => Nat.le_refl _
  | x :: r => by have := flat1_len h r; have := h x; rw [List.flatMap_cons, List.length_append, List.length_cons]; omega

theorem cvr_len (os : List Thg) (a b : Int) (o : Thg) : (cvrLs os a b o).length ≤ 1 := by
  unfold cvrLs; cases o.st == b && os.contains { o with st := a } <;> simp

theorem boxR_len (r : Rd) (more : List Mom) : (boxR r more).length = (objsF r).length + (momsF r more).length := by simp [boxR, boxesR]

theorem sortK_len {α : Type} (key : α → Int) (l : List α) : (sortK key l).length = l.length := (sortK_perm key l).length_eq

theorem lnkR_len (r : Rd) (more : List Mom) : (lnkR r more).length ≤ 2 * r.ws.length + 2 * r.cs.length + 4 * (momsF r more).length + 2 * (objsF r).length := by
  unfold lnkR linksR
  simp only [List.length_append]
  have h1 := flat2_len (f := wghLs r.bs (objsF r) (momsF r more)) (fun _ => rfl) (sortK Wgh.id r.ws)
  have h2 := flat2_len (f := chkLs r.bs (objsF r) (momsF r more)) (fun _ => rfl) (sortK Chk.id r.cs)
  have h3 := flat2_len (f := momLs r (objsF r) (momsF r more)) (fun _ => rfl) (momsF r more)
  have h4 := drfLs_len r.bs (objsF r).length (momsF r more) 0
  have h5 := flat1_len (cvr_len (objsF r) 1 2) (objsF r)
  have h6 := flat1_len (cvr_len (objsF r) 3 4) (objsF r)
  rw [sortK_len] at h1 h2
  omega

end Proofs
end Go

/-
  Plain lemmas, part 23: the system of valid readings is a proper one. Conditions: none; plain lemmas.
-/
namespace Go
namespace Proofs

theorem inc_get {α : Type} {lt : α → α → Bool} {l : List α} (h : Inc lt l) {i j : Nat} {a b : α} (hij : i < j) (ha : l[i]? = some a) (hb : l[j]? = some b) : lt a b = true := by
  obtain ⟨h1, rfl⟩ := List.getElem?_eq_some_iff.1 ha
  obtain ⟨h2, rfl⟩ := List.getElem?_eq_some_iff.1 hb
  exact List.pairwise_iff_getElem.1 h i j h1 h2 hij

/-- Moments that follow each other on one balance. -/
theorem mom_next {r : Rd} {more : List Mom} {j : Nat} {a b : Mom} (ha : (momsF r more)[j]? = some a) (hb : (momsF r more)[j + 1]? = some b) (h : a.bal = b.bal) : a.tick < b.tick := by
  have := inc_get (distS_inc momLt_ok _) (Nat.lt_succ_self j) ha hb
  simp [momLt] at this; omega

structure DrfOK (bs : List Bal) (a b : Mom) : Prop where
  nn : 0 ≤ (findD bs a.bal).dr * (b.tick - a.tick)
  le : (findD bs a.bal).dr * (b.tick - a.tick) ≤ 1000000000

theorem drf_ok {r : Rd} (h : RdOK r) {more : List Mom} (hm : ∀ m ∈ more, momOK r m = true) {j : Nat} {a b : Mom} (ha : (momsF r more)[j]? = some a) (hb : (momsF r more)[j + 1]? = some b) (hab : a.bal = b.bal) : DrfOK r.bs a b := by
  have h1 := h.mom hm (List.mem_of_getElem? ha)
  have h2 := h.mom hm (List.mem_of_getElem? hb)
  have h3 := mom_next ha hb hab
  simp [momOK, withinF] at h1 h2
  have hv := valid_bd (h.findD h1.1)
  obtain ⟨_, _, _, hd, _⟩ := hv
  obtain ⟨_, h1⟩ := h1
  obtain ⟨_, h2⟩ := h2
  refine ⟨Int.mul_nonneg hd.1 (by omega), ?_⟩
  have := Int.mul_le_mul hd.2 (show b.tick - a.tick ≤ 1000000 by omega) (by omega) (by omega : (0:Int) ≤ 1000)
  omega

theorem proper_of {f t m i : Int} {n : Nat} (h1 : f ≠ t) (h2 : -1 ≤ f ∧ f < n) (h3 : -1 ≤ t ∧ t < n) (h4 : -33554432 ≤ m ∧ m ≤ 33554432) (h5 : 0 ≤ i ∧ i ≤ 1099511627776) : properF ⟨f, t, m, i⟩ n = true := by
  simp only [properF, withinF, Bool.and_eq_true, bne_iff_ne, ne_eq, decide_eq_true_eq]
  refine ⟨h1, ⟨h2.1, by omega⟩, ⟨h3.1, by omega⟩, h4, h5⟩

theorem lnkR_proper {r : Rd} (h : RdOK r) {more : List Mom} (hm : ∀ m ∈ more, momOK r m = true) : ∀ l ∈ lnkR r more, properF l (boxR r more).length = true := by
  intro l hl
  rw [boxR_len]
  have hwO : ∀ w ∈ r.ws, w.o ∈ objsF r := fun w hw => objsF_mem.2 ⟨w, hw, rfl⟩
  have hwM : ∀ w ∈ r.ws, wMom w ∈ momsF r more := fun w hw => momsF_mem.2 (.inl ⟨w, hw, rfl⟩)
  have hcM : ∀ c ∈ r.cs, cMom c ∈ momsF r more := fun c hc => momsF_mem.2 (.inr (.inl ⟨c, hc, rfl⟩))
  have hmo := fun m (hmm : m ∈ momsF r more) => h.mom hm hmm
  have hdr := fun (j : Nat) (a b : Mom) (ha : (momsF r more)[j]? = some a) (hb : (momsF r more)[j + 1]? = some b) hab => drf_ok h hm ha hb hab
  unfold lnkR linksR at hl
  generalize objsF r = os at *
  generalize momsF r more = ms at *
  simp only [List.mem_append, List.mem_flatMap] at hl
  rcases hl with ⟨w, hw, hl⟩ | ⟨c, hc, hl⟩ | ⟨m, hmm, hl⟩ | hl | ⟨o, ho, hl⟩ | ⟨o, ho, hl⟩
  · have hw := (sortK_perm Wgh.id r.ws).mem_iff.1 hw
    obtain ⟨hb, hid, _, _, hsh⟩ := h.w hw
    obtain ⟨_, hv, _⟩ := valid_bd (h.findD hb)
    obtain ⟨e1, l1⟩ := plF_mem (hwO w hw)
    obtain ⟨e2, l2⟩ := plF_mem (hwM w hw)
    simp only [wghLs, List.mem_cons, List.not_mem_nil, or_false] at hl
    rcases hl with rfl | rfl
    · exact proper_of (by omega) (by omega) (by omega) (by omega) (by omega)
    · exact proper_of (by omega) (by omega) (by omega) (by omega) (by omega)
  · have hc := (sortK_perm Chk.id r.cs).mem_iff.1 hc
    obtain ⟨hb, hid, _, hms, hsh⟩ := h.c hc
    obtain ⟨_, hv, _, _, hcap⟩ := valid_bd (h.findD hb)
    obtain ⟨e2, l2⟩ := plF_mem (hcM c hc)
    simp only [chkLs, List.mem_cons, List.not_mem_nil, or_false] at hl
    rcases hl with rfl | rfl
    · exact proper_of (by omega) (by omega) (by omega) (by omega) (by omega)
    · exact proper_of (by omega) (by omega) (by omega) (by omega) (by omega)
  · have hb := hmo m hmm
    simp [momOK] at hb
    obtain ⟨s1, s2, s3, s4⟩ := side_bd h m hb.1
    obtain ⟨e2, l2⟩ := plF_mem hmm
    simp only [momLs, List.mem_cons, List.not_mem_nil, or_false] at hl
    rcases hl with rfl | rfl
    · exact proper_of (by omega) (by omega) (by omega) (by omega) (by omega)
    · exact proper_of (by omega) (by omega) (by omega) (by omega) (by omega)
  · obtain ⟨j, a, b, ha, hb, hab, hl⟩ := drfLs_mem hl
    have hd := hdr j a b ha hb hab
    obtain ⟨d1, d2⟩ := hd
    have hj : j + 1 < ms.length := (List.getElem?_eq_some_iff.1 hb).1
    generalize (findD r.bs a.bal).dr * (b.tick - a.tick) = d at *
    rcases hl with rfl | rfl
    · exact proper_of (by omega) (by omega) (by omega) (by omega) (by omega)
    · exact proper_of (by omega) (by omega) (by omega) (by omega) (by omega)
  all_goals
    unfold cvrLs at hl
    cases hc : (o.st == _ && os.contains _) with
    | false => rw [hc] at hl; cases hl
    | true =>
      rw [hc] at hl
      simp only [cond_true, List.mem_cons, List.not_mem_nil, or_false] at hl
      subst hl
      simp only [Bool.and_eq_true, beq_iff_eq, List.contains_iff_mem] at hc
      obtain ⟨e1, l1⟩ := plF_mem ho
      obtain ⟨e2, l2⟩ := plF_mem hc.2
      refine proper_of (fun he => ?_) (by omega) (by omega) (by omega) (by omega)
      have := congrArg Thg.st (plF_inj hc.2 he)
      have h1 := hc.1
      simp only at this
      omega

theorem boxR_ok {r : Rd} (h : RdOK r) (more : List Mom) : ∀ b ∈ boxR r more, b.1 ≤ b.2 ∧ -16777216 ≤ b.1 ∧ b.2 ≤ 16777216 := by
  intro b hb
  unfold boxR boxesR at hb
  rcases List.mem_append.1 hb with hb | hb
  · obtain ⟨o, ho, rfl⟩ := List.mem_map.1 hb
    have := cap_bd (bs := r.bs) (o := o) r.ws (n := 10000000) (fun w hw => by have := valid_bd (h.findD (h.w hw).1); omega) (by omega)
    unfold capF
    simp only
    omega
  · obtain ⟨o, ho, rfl⟩ := List.mem_map.1 hb
    simp only
    omega

theorem rdR_len {r : Rd} (h : RdOK r) {more : List Mom} (hm : more.length ≤ 2) : (boxR r more).length ≤ 240 ∧ (lnkR r more).length ≤ 1200 := by
  have h1 := objsF_len r
  have h2 := momsF_len r more
  have h3 := lnkR_len r more
  have := h.nr
  rw [boxR_len]
  omega

end Proofs
end Go

/-
  Plain lemmas, part 24: a moment's correction, as the notices say it in whatever order. Conditions: none; definitions and plain lemmas.
-/
namespace Go
namespace Proofs

end Proofs
end Go

/-
  Plain lemmas, part 25: picking the next greater number again and again sorts. Conditions: none; definitions and plain lemmas.
-/
namespace Go
namespace Proofs

end Proofs
end Go

namespace Go.Proofs
open Go.Sx

/-! ### What the system of readings says -/

structure Sem (r : Rd) (os : List Thg) (ms : List Mom) (x : Thg → Int) (c : Mom → Int) : Prop where
  obj : ∀ o ∈ os, 0 ≤ x o ∧ x o ≤ capF r o
  mom : ∀ m ∈ ms, -1000000 ≤ c m ∧ c m ≤ 1000000
  sid : ∀ m ∈ ms, (sideF r m).lo ≤ c m ∧ c m ≤ (sideF r m).hi
  wgh : ∀ w ∈ r.ws, x w.o - c (wMom w) ≤ w.shown + (findD r.bs w.bal).half ∧ c (wMom w) - x w.o ≤ (findD r.bs w.bal).half - w.shown
  chk : ∀ k ∈ r.cs, c (cMom k) ≤ k.mass - k.shown + (findD r.bs k.bal).half ∧ -c (cMom k) ≤ k.shown + (findD r.bs k.bal).half - k.mass
  drf : ∀ a ∈ ms, ∀ b ∈ ms, a.bal = b.bal → a.tick < b.tick → c b - c a ≤ (findD r.bs a.bal).dr * (b.tick - a.tick) ∧ c a - c b ≤ (findD r.bs a.bal).dr * (b.tick - a.tick)
  cvr : ∀ o ∈ os, ∀ q ∈ os, (o.st = 2 ∧ q = { o with st := 1 } ∨ o.st = 4 ∧ q = { o with st := 3 }) → x o ≤ x q

theorem rd_sys {r : Rd} (h : RdOK r) {more : List Mom} (hl : more.length ≤ 2) (hm : ∀ m ∈ more, momOK r m = true) : SysOK (boxR r more) (lnkR r more) := by
  obtain ⟨h1, h2⟩ := rdR_len h hl
  exact ⟨h1, h2, boxR_ok h more, lnkR_proper h hm⟩

/-- Drifts from one moment to the next one bound all drifts. -/
theorem drf_all {bs : List Bal} {ms : List Mom} {c : Mom → Int} (hi : Inc momLt ms)
    (h : ∀ (j : Nat) (a b : Mom), ms[j]? = some a → ms[j + 1]? = some b → a.bal = b.bal → c b - c a ≤ (findD bs a.bal).dr * (b.tick - a.tick) ∧ c a - c b ≤ (findD bs a.bal).dr * (b.tick - a.tick)) :
    ∀ (d i : Nat) (a b : Mom), ms[i]? = some a → ms[i + 1 + d]? = some b → a.bal = b.bal → c b - c a ≤ (findD bs a.bal).dr * (b.tick - a.tick) ∧ c a - c b ≤ (findD bs a.bal).dr * (b.tick - a.tick)
  | 0, i, a, b, ha, hb, hab => h i a b ha hb hab
  | d + 1, i, a, b, ha, hb, hab => by
    have hlt : i + 1 + d < ms.length := by have := (List.getElem?_eq_some_iff.1 hb).1; omega
    obtain ⟨k, hk⟩ : ∃ k, ms[i + 1 + d]? = some k := ⟨_, List.getElem?_eq_getElem hlt⟩
    have h1 := inc_get hi (show i < i + 1 + d by omega) ha hk
    have h2 := inc_get hi (show i + 1 + d < i + 1 + (d + 1) by omega) hk hb
    simp [momLt] at h1 h2
    have hak : a.bal = k.bal := by omega
    have hkb : k.bal = b.bal := by omega
    obtain ⟨p1, p2⟩ := drf_all hi h d i a k ha hk hak
    obtain ⟨q1, q2⟩ := h (i + 1 + d) k b hk hb hkb
    rw [← hak] at q1 q2
    have e : (findD bs a.bal).dr * (b.tick - a.tick) = (findD bs a.bal).dr * (k.tick - a.tick) + (findD bs a.bal).dr * (b.tick - k.tick) := by
      rw [← Int.mul_add]; congr 1; omega
    omega

theorem drfLs_of {bs : List Bal} {k : Nat} {a b : Mom} : ∀ {ms : List Mom} {i j : Nat}, ms[j]? = some a → ms[j + 1]? = some b → a.bal = b.bal →
    (⟨k + ((i + j : Nat) : Int), k + ((i + j : Nat) : Int) + 1, min ((findD bs a.bal).dr * (b.tick - a.tick)) 2000000, 0⟩ : Lnk) ∈ drfLs bs k i ms ∧ (⟨k + ((i + j : Nat) : Int) + 1, k + ((i + j : Nat) : Int), min ((findD bs a.bal).dr * (b.tick - a.tick)) 2000000, 0⟩ : Lnk) ∈ drfLs bs k i ms
  | [], _, _, h, _, _ => by simp at h
  | [_], _, j, _, h, _ => by simp at h
  | x :: y :: r, i, 0, h1, h2, hab => by
    simp at h1 h2
    subst h1 h2
    unfold drfLs
    have hb : (x.bal == y.bal) = true := by simpa using hab
    rw [hb]
    simp
  | x :: y :: r, i, j + 1, h1, h2, hab => by
    unfold drfLs
    have := drfLs_of (bs := bs) (k := k) (ms := y :: r) (i := i + 1) (j := j) (by simpa using h1) (by simpa using h2) hab
    rw [show i + (j + 1) = i + 1 + j by omega]
    exact ⟨List.mem_append.2 (.inr this.1), List.mem_append.2 (.inr this.2)⟩

theorem pnt_sem {r : Rd} (h : RdOK r) {more : List Mom} (hm : ∀ m ∈ more, momOK r m = true) {p : List Int} :
    Pnt (boxR r more) (lnkR r more) p ↔ p.length = (objsF r).length + (momsF r more).length ∧
      Sem r (objsF r) (momsF r more) (fun o => atF p (plF (objsF r) o)) (fun m => atF p ((objsF r).length + plF (momsF r more) m)) := by
  have hwO : ∀ w ∈ r.ws, w.o ∈ objsF r := fun w hw => objsF_mem.2 ⟨w, hw, rfl⟩
  have hwM : ∀ w ∈ r.ws, wMom w ∈ momsF r more := fun w hw => momsF_mem.2 (.inl ⟨w, hw, rfl⟩)
  have hcM : ∀ c ∈ r.cs, cMom c ∈ momsF r more := fun c hc => momsF_mem.2 (.inr (.inl ⟨c, hc, rfl⟩))
  have hoN : (objsF r).Nodup := (distS_inc thgLt_ok _).nodup thgLt_ok.irr
  have hmI : Inc momLt (momsF r more) := distS_inc momLt_ok _
  have hmN : (momsF r more).Nodup := hmI.nodup momLt_ok.irr
  have hbl := boxR_len r more
  have hlk : lnkR r more = linksR r (objsF r) (momsF r more) := rfl
  have hbx : boxR r more = boxesR r (objsF r) (momsF r more) := rfl
  generalize objsF r = os at *
  generalize momsF r more = ms at *
  have neg1 : atF p (-1) = 0 := rfl
  have hobj : ∀ o ∈ os, ∃ i : Nat, os[i]? = some o ∧ plF os o = i ∧ i < os.length ∧ atF p (plF os o) = p.getD i 0 := by
    intro o ho
    obtain ⟨e, l⟩ := plF_mem ho
    refine ⟨_, plF_get e, e, l, ?_⟩
    rw [e]; unfold atF; rw [if_neg (by omega), Int.toNat_natCast]
  have hmom : ∀ m ∈ ms, ∃ i : Nat, ms[i]? = some m ∧ plF ms m = i ∧ i < ms.length ∧ atF p (os.length + plF ms m) = p.getD (os.length + i) 0 := by
    intro m hm
    obtain ⟨e, l⟩ := plF_mem hm
    refine ⟨_, plF_get e, e, l, ?_⟩
    rw [e]; unfold atF; rw [if_neg (by omega)]; congr 1
  constructor
  · rintro ⟨h1, h2, h3⟩
    rw [hbl] at h1
    rw [hlk] at h3
    unfold linksR at h3
    refine ⟨h1, ?_⟩
    have hD : ∀ (j : Nat) (a b : Mom), ms[j]? = some a → ms[j + 1]? = some b → a.bal = b.bal → atF p (os.length + plF ms b) - atF p (os.length + plF ms a) ≤ (findD r.bs a.bal).dr * (b.tick - a.tick) ∧ atF p (os.length + plF ms a) - atF p (os.length + plF ms b) ≤ (findD r.bs a.bal).dr * (b.tick - a.tick) := by
      intro j a b ha hb hab
      obtain ⟨d1, d2⟩ := drfLs_of (bs := r.bs) (k := os.length) (i := 0) ha hb hab
      have k1 := h3 _ (List.mem_append.2 (.inr (List.mem_append.2 (.inr (List.mem_append.2 (.inr (List.mem_append.2 (.inl d1))))))))
      have k2 := h3 _ (List.mem_append.2 (.inr (List.mem_append.2 (.inr (List.mem_append.2 (.inr (List.mem_append.2 (.inl d2))))))))
      rw [Nat.zero_add] at k1 k2
      rw [plF_at hmN ha, plF_at hmN hb]
      try dsimp only at k1 k2
      rw [show (os.length : Int) + ((j + 1 : Nat) : Int) = os.length + (j : Int) + 1 by omega]
      omega
    refine ⟨?_, ?_, ?_, ?_, ?_, ?_, ?_⟩
    · intro o ho
      obtain ⟨i, a1, a2, a3, a4⟩ := hobj o ho
      have := h2 i (0, capF r o) (by
        rw [hbx]; unfold boxesR
        rw [List.getElem?_append_left (by rw [List.length_map]; exact a3), List.getElem?_map, a1]; rfl)
      try dsimp only at this ⊢
      rw [a4]; exact this
    · intro m hm'
      obtain ⟨i, a1, a2, a3, a4⟩ := hmom m hm'
      have := h2 (os.length + i) (-1000000, 1000000) (by
        rw [hbx]; unfold boxesR
        rw [List.getElem?_append_right (by rw [List.length_map]; omega), List.length_map, Nat.add_sub_cancel_left, List.getElem?_map, a1]; rfl)
      try dsimp only at this ⊢
      rw [a4]; exact this
    · intro m hm'
      have k1 := h3 ⟨-1, os.length + plF ms m, (sideF r m).hi, (sideF r m).hiI⟩ (List.mem_append.2 (.inr (List.mem_append.2 (.inr (List.mem_append.2 (.inl (List.mem_flatMap.2 ⟨m, hm', by simp [momLs]⟩)))))))
      have k2 := h3 ⟨os.length + plF ms m, -1, -(sideF r m).lo, (sideF r m).loI⟩ (List.mem_append.2 (.inr (List.mem_append.2 (.inr (List.mem_append.2 (.inl (List.mem_flatMap.2 ⟨m, hm', by simp [momLs]⟩)))))))
      simp only [neg1] at k1 k2
      try dsimp only
      omega
    · intro w hw
      have hw' := (sortK_perm Wgh.id r.ws).mem_iff.2 hw
      have k1 := h3 ⟨os.length + plF ms (wMom w), plF os w.o, w.shown + (findD r.bs w.bal).half, w.id⟩ (List.mem_append.2 (.inl (List.mem_flatMap.2 ⟨w, hw', by simp [wghLs]⟩)))
      have k2 := h3 ⟨plF os w.o, os.length + plF ms (wMom w), (findD r.bs w.bal).half - w.shown, w.id⟩ (List.mem_append.2 (.inl (List.mem_flatMap.2 ⟨w, hw', by simp [wghLs]⟩)))
      exact ⟨k1, k2⟩
    · intro k hk
      have hk' := (sortK_perm Chk.id r.cs).mem_iff.2 hk
      have k1 := h3 ⟨-1, os.length + plF ms (cMom k), k.mass - k.shown + (findD r.bs k.bal).half, k.id⟩ (List.mem_append.2 (.inr (List.mem_append.2 (.inl (List.mem_flatMap.2 ⟨k, hk', by simp [chkLs]⟩)))))
      have k2 := h3 ⟨os.length + plF ms (cMom k), -1, k.shown + (findD r.bs k.bal).half - k.mass, k.id⟩ (List.mem_append.2 (.inr (List.mem_append.2 (.inl (List.mem_flatMap.2 ⟨k, hk', by simp [chkLs]⟩)))))
      simp only [neg1] at k1 k2
      try dsimp only
      omega
    · intro a ha b hb hab ht
      obtain ⟨i, a1, _, _, _⟩ := hmom a ha
      obtain ⟨j, b1, _, _, _⟩ := hmom b hb
      have hij : i < j := by
        rcases Nat.lt_trichotomy i j with hlt | rfl | hlt
        · exact hlt
        · rw [a1] at b1; cases b1; omega
        · have := inc_get hmI hlt b1 a1
          simp [momLt] at this; omega
      have := drf_all (bs := r.bs) (c := fun m => atF p (os.length + plF ms m)) hmI hD (j - (i + 1)) i a b a1 (by rw [show i + 1 + (j - (i + 1)) = j by omega]; exact b1) hab
      exact this
    · intro o ho q hq hoq
      rcases hoq with ⟨hs, rfl⟩ | ⟨hs, rfl⟩
      · have k1 := h3 ⟨plF os { o with st := 1 }, plF os o, 0, 0⟩ (List.mem_append.2 (.inr (List.mem_append.2 (.inr (List.mem_append.2 (.inr (List.mem_append.2 (.inr (List.mem_append.2 (.inl (List.mem_flatMap.2 ⟨o, ho, by
          have : (o.st == 2 && os.contains { o with st := 1 }) = true := by simp [hs, hq]
          unfold cvrLs; rw [this]; simp⟩)))))))))))
        try dsimp only at k1 ⊢
        omega
      · have k1 := h3 ⟨plF os { o with st := 3 }, plF os o, 0, 0⟩ (List.mem_append.2 (.inr (List.mem_append.2 (.inr (List.mem_append.2 (.inr (List.mem_append.2 (.inr (List.mem_append.2 (.inr (List.mem_flatMap.2 ⟨o, ho, by
          have : (o.st == 4 && os.contains { o with st := 3 }) = true := by simp [hs, hq]
          unfold cvrLs; rw [this]; simp⟩)))))))))))
        try dsimp only at k1 ⊢
        omega
  · rintro ⟨h1, hS⟩
    refine ⟨by rw [hbl]; exact h1, ?_, ?_⟩
    · intro v b hb
      rw [hbx] at hb
      unfold boxesR at hb
      by_cases hv : v < os.length
      · rw [List.getElem?_append_left (by rw [List.length_map]; exact hv), List.getElem?_map, List.getElem?_eq_getElem hv] at hb
        cases hb
        have := hS.obj os[v] (List.getElem_mem hv)
        have e := plF_at hoN (List.getElem?_eq_getElem hv)
        simp only [e] at this
        unfold atF at this
        rw [if_neg (by omega), Int.toNat_natCast] at this
        exact this
      · rw [List.getElem?_append_right (by rw [List.length_map]; omega), List.length_map, List.getElem?_map] at hb
        obtain ⟨m, hm1, hm2⟩ := Option.map_eq_some_iff.1 hb
        subst hm2
        obtain ⟨hlt, rfl⟩ := List.getElem?_eq_some_iff.1 hm1
        have := hS.mom _ (List.getElem_mem hlt)
        have e := plF_at hmN hm1
        simp only [e] at this
        unfold atF at this
        rw [if_neg (by omega), show ((os.length : Int) + ((v - os.length : Nat) : Int)).toNat = v by omega] at this
        exact this
    · intro l hl
      rw [hlk] at hl
      unfold linksR at hl
      simp only [List.mem_append, List.mem_flatMap] at hl
      rcases hl with ⟨w, hw, hl⟩ | ⟨c, hc, hl⟩ | ⟨m, hmm, hl⟩ | hl | ⟨o, ho, hl⟩ | ⟨o, ho, hl⟩
      · have hw := (sortK_perm Wgh.id r.ws).mem_iff.1 hw
        have := hS.wgh w hw
        simp only [wghLs, List.mem_cons, List.not_mem_nil, or_false] at hl
        rcases hl with rfl | rfl
        · exact this.1
        · exact this.2
      · have hc := (sortK_perm Chk.id r.cs).mem_iff.1 hc
        have := hS.chk c hc
        simp only [chkLs, List.mem_cons, List.not_mem_nil, or_false] at hl
        rcases hl with rfl | rfl
        · simp only [neg1]
          try dsimp only at this
          omega
        · simp only [neg1]
          try dsimp only at this
          omega
      · have := hS.sid m hmm
        simp only [momLs, List.mem_cons, List.not_mem_nil, or_false] at hl
        rcases hl with rfl | rfl
        · simp only [neg1]
          try dsimp only at this
          omega
        · simp only [neg1]
          try dsimp only at this
          omega
      · obtain ⟨j, a, b, ha, hb, hab, hl⟩ := drfLs_mem hl
        have hlt := inc_get hmI (Nat.lt_succ_self j) ha hb
        simp [momLt] at hlt
        have am := List.mem_of_getElem? ha
        have bm := List.mem_of_getElem? hb
        have d := hS.drf a am b bm hab (by omega)
        have m1 := hS.mom a am
        have m2 := hS.mom b bm
        have ea := plF_at hmN ha
        have eb := plF_at hmN hb
        simp only [ea, eb] at d m1 m2
        rw [show (os.length : Int) + ((j + 1 : Nat) : Int) = os.length + (j : Int) + 1 by omega] at d m2
        rw [Nat.zero_add] at hl
        generalize (findD r.bs a.bal).dr * (b.tick - a.tick) = z at *
        rcases hl with rfl | rfl
        · dsimp only
          omega
        · dsimp only
          omega
      · unfold cvrLs at hl
        cases hc : (o.st == 2 && os.contains { o with st := 1 }) with
        | false => rw [hc] at hl; cases hl
        | true =>
          rw [hc] at hl
          simp only [cond_true, List.mem_cons, List.not_mem_nil, or_false] at hl
          subst hl
          simp only [Bool.and_eq_true, beq_iff_eq, List.contains_iff_mem] at hc
          have := hS.cvr o ho _ hc.2 (.inl ⟨hc.1, rfl⟩)
          try dsimp only at this ⊢
          omega
      · unfold cvrLs at hl
        cases hc : (o.st == 4 && os.contains { o with st := 3 }) with
        | false => rw [hc] at hl; cases hl
        | true =>
          rw [hc] at hl
          simp only [cond_true, List.mem_cons, List.not_mem_nil, or_false] at hl
          subst hl
          simp only [Bool.and_eq_true, beq_iff_eq, List.contains_iff_mem] at hc
          have := hS.cvr o ho _ hc.2 (.inr ⟨hc.1, rfl⟩)
          try dsimp only at this ⊢
          omega

end Go.Proofs

namespace Go.Proofs
open Go.Sx

/-! ### Ranges and what readings allow -/

abbrev SemR (r : Rd) (more : List Mom) (x : Thg → Int) (c : Mom → Int) : Prop := Sem r (objsF r) (momsF r more) x c

theorem Sem.congr {r : Rd} {more : List Mom} {x x' : Thg → Int} {c c' : Mom → Int} (h : SemR r more x c) (hx : ∀ o ∈ objsF r, x' o = x o) (hc : ∀ m ∈ momsF r more, c' m = c m) : SemR r more x' c' where
  obj o ho := by rw [hx o ho]; exact h.obj o ho
  mom m hm := by rw [hc m hm]; exact h.mom m hm
  sid m hm := by rw [hc m hm]; exact h.sid m hm
  wgh w hw := by
    rw [hx _ (objsF_mem.2 ⟨w, hw, rfl⟩), hc _ (momsF_mem.2 (.inl ⟨w, hw, rfl⟩))]; exact h.wgh w hw
  chk k hk := by rw [hc _ (momsF_mem.2 (.inr (.inl ⟨k, hk, rfl⟩)))]; exact h.chk k hk
  drf a ha b hb hab ht := by rw [hc a ha, hc b hb]; exact h.drf a ha b hb hab ht
  cvr o ho q hq hoq := by rw [hx o ho, hx q hq]; exact h.cvr o ho q hq hoq

theorem objsF_nodup (r : Rd) : (objsF r).Nodup := (distS_inc thgLt_ok _).nodup thgLt_ok.irr
theorem momsF_nodup (r : Rd) (more : List Mom) : (momsF r more).Nodup := (distS_inc momLt_ok _).nodup momLt_ok.irr

/-- The point that masses and corrections are. -/
def pntF (r : Rd) (more : List Mom) (x : Thg → Int) (c : Mom → Int) : List Int := (objsF r).map x ++ (momsF r more).map c

theorem pntF_len (r : Rd) (more : List Mom) (x : Thg → Int) (c : Mom → Int) : (pntF r more x c).length = (objsF r).length + (momsF r more).length := by simp [pntF]

theorem pntF_obj {r : Rd} {more : List Mom} {x : Thg → Int} {c : Mom → Int} {o : Thg} (ho : o ∈ objsF r) : atF (pntF r more x c) (plF (objsF r) o) = x o := by
  obtain ⟨e, l⟩ := plF_mem ho
  have g := plF_get e
  rw [e]; unfold atF pntF
  rw [if_neg (by omega), Int.toNat_natCast, List.getD_eq_getElem?_getD, List.getElem?_append_left (by rw [List.length_map]; exact l), List.getElem?_map, g]; rfl

theorem pntF_mom {r : Rd} {more : List Mom} {x : Thg → Int} {c : Mom → Int} {m : Mom} (hm : m ∈ momsF r more) : atF (pntF r more x c) ((objsF r).length + plF (momsF r more) m) = c m := by
  obtain ⟨e, l⟩ := plF_mem hm
  have g := plF_get e
  rw [e]; unfold atF pntF
  rw [if_neg (by omega), show (((objsF r).length : Int) + ((momsF r more).idxOf m : Nat)).toNat = (objsF r).length + (momsF r more).idxOf m by omega, List.getD_eq_getElem?_getD, List.getElem?_append_right (by rw [List.length_map]; omega), List.length_map,
    Nat.add_sub_cancel_left, List.getElem?_map, g]; rfl

theorem sem_pnt {r : Rd} (h : RdOK r) {more : List Mom} (hm : ∀ m ∈ more, momOK r m = true) {x : Thg → Int} {c : Mom → Int} : SemR r more x c ↔ Pnt (boxR r more) (lnkR r more) (pntF r more x c) := by
  constructor
  · intro hS
    exact (pnt_sem h hm).2 ⟨pntF_len .., hS.congr (fun o ho => pntF_obj ho) (fun m hm => pntF_mom hm)⟩
  · intro hP
    exact Sem.congr ((pnt_sem h hm).1 hP).2 (fun o ho => (pntF_obj ho).symm) (fun m hm => (pntF_mom hm).symm)

/-- A variable: none, an object, a moment. -/
inductive Var where
  | zero
  | obj (o : Thg)
  | mom (m : Mom)

def Var.val (x : Thg → Int) (c : Mom → Int) : Var → Int
  | .zero => 0
  | .obj o => x o
  | .mom m => c m

def Var.pl (r : Rd) (more : List Mom) : Var → Int
  | .zero => -1
  | .obj o => plF (objsF r) o
  | .mom m => (objsF r).length + plF (momsF r more) m

def Var.isIn (r : Rd) (more : List Mom) : Var → Prop
  | .zero => True
  | .obj o => o ∈ objsF r
  | .mom m => m ∈ momsF r more

theorem Var.bd {r : Rd} {more : List Mom} : ∀ {v : Var}, v.isIn r more → -1 ≤ v.pl r more ∧ v.pl r more < (boxR r more).length
  | .zero, _ => by simp only [Var.pl]; omega
  | .obj o, h => by
    obtain ⟨e, l⟩ := plF_mem (show o ∈ objsF r from h)
    rw [boxR_len]; simp only [Var.pl]; omega
  | .mom m, h => by
    obtain ⟨e, l⟩ := plF_mem (show m ∈ momsF r more from h)
    rw [boxR_len]; simp only [Var.pl]; omega

theorem Var.at_pnt {r : Rd} {more : List Mom} {x : Thg → Int} {c : Mom → Int} : ∀ {v : Var}, v.isIn r more → atF (pntF r more x c) (v.pl r more) = v.val x c
  | .zero, _ => rfl
  | .obj _, h => pntF_obj h
  | .mom _, h => pntF_mom h

theorem Var.val_at {r : Rd} {more : List Mom} {p : List Int} : ∀ {v : Var}, atF p (v.pl r more) = v.val (fun o => atF p (plF (objsF r) o)) (fun m => atF p ((objsF r).length + plF (momsF r more) m))
  | .zero => rfl
  | .obj _ => rfl
  | .mom _ => rfl

abbrev mostR (r : Rd) (more : List Mom) (a b : Int) : Int := mostF (boxR r more).length (graphF (boxR r more) (lnkR r more) 0) a b

theorem range_up {r : Rd} (h : RdOK r) {more : List Mom} (hl : more.length ≤ 2) (hm : ∀ m ∈ more, momOK r m = true) {a b : Var} (ha : a.isIn r more) (hb : b.isIn r more) {x : Thg → Int} {c : Mom → Int} (hS : SemR r more x c) :
    b.val x c - a.val x c ≤ mostR r more (a.pl r more) (b.pl r more) := by
  have := most_up (rd_sys h hl hm) ((sem_pnt h hm).1 hS) (Var.bd ha) (Var.bd hb)
  rw [Var.at_pnt ha, Var.at_pnt hb] at this
  exact this

theorem range_att {r : Rd} (h : RdOK r) {more : List Mom} (hl : more.length ≤ 2) (hm : ∀ m ∈ more, momOK r m = true) (hc : Calm (boxR r more) (lnkR r more) 0) {a b : Var} (ha : a.isIn r more) (hb : b.isIn r more) :
    ∃ x c, SemR r more x c ∧ b.val x c - a.val x c = mostR r more (a.pl r more) (b.pl r more) := by
  obtain ⟨p, hp, he⟩ := most_att2 (rd_sys h hl hm) hc (Var.bd ha) (Var.bd hb)
  exact ⟨_, _, ((pnt_sem h hm).1 hp).2, by rw [← Var.val_at, ← Var.val_at]; exact he⟩

/-- The range of a difference holds just what is possible: its ends are. -/
theorem range_sem {r : Rd} (h : RdOK r) {more : List Mom} (hl : more.length ≤ 2) (hm : ∀ m ∈ more, momOK r m = true) (hc : Calm (boxR r more) (lnkR r more) 0) {a b : Var} (ha : a.isIn r more) (hb : b.isIn r more) :
    (∀ x c, SemR r more x c → -mostR r more (b.pl r more) (a.pl r more) ≤ b.val x c - a.val x c ∧ b.val x c - a.val x c ≤ mostR r more (a.pl r more) (b.pl r more)) ∧
    (∃ x c, SemR r more x c ∧ b.val x c - a.val x c = mostR r more (a.pl r more) (b.pl r more)) ∧ (∃ x c, SemR r more x c ∧ b.val x c - a.val x c = -mostR r more (b.pl r more) (a.pl r more)) := by
  refine ⟨fun x c hS => ?_, range_att h hl hm hc ha hb, ?_⟩
  · have h1 := range_up h hl hm ha hb hS
    have h2 := range_up h hl hm hb ha hS
    omega
  · obtain ⟨x, c, hS, he⟩ := range_att h hl hm hc hb ha
    exact ⟨x, c, hS, by omega⟩

/-! ### What the functions return -/

instance (bs : List (Int × Int)) (ls : List Lnk) : Decidable (Calm bs ls 0) := inferInstanceAs (Decidable (_ = _))

def betweenF (bs : List (Int × Int)) (ls : List Lnk) (a b : Int) : (Int × Int) × Int :=
  if Calm bs ls 0 then ((-mostF bs.length (graphF bs ls 0) b a, mostF bs.length (graphF bs ls 0) a b), 0) else ((0, 0), 9)

def massV (r : Rd) (o : Thg) : (Int × Int) × Int := if o ∈ objsF r then betweenF (boxR r []) (lnkR r []) (-1) (plF (objsF r) o) else ((0, 0), 5)
def massF (r : Rd) (o : Thg) : (Int × Int) × Int := if checkR r = 0 then massV r o else ((0, 0), checkR r)
def lossF (r : Rd) (a b : Thg) : (Int × Int) × Int := if checkR r = 0 then (if a ∈ objsF r ∧ b ∈ objsF r then betweenF (boxR r []) (lnkR r []) (plF (objsF r) b) (plF (objsF r) a) else ((0, 0), 5)) else ((0, 0), checkR r)
def driftedF (r : Rd) (m : Mom) : (Int × Int) × Int :=
  if checkR r = 0 then (if momOK r m = true then betweenF (boxR r [m]) (lnkR r [m]) (-1) ((objsF r).length + plF (momsF r [m]) m) else ((0, 0), 1)) else ((0, 0), checkR r)
end Go.Proofs

/-
  Plain lemmas, part 26: readings in another order; capacities; which numbers there are. Conditions: none; definitions and plain lemmas.
-/
namespace Go
namespace Proofs

theorem cap_iff {bs : List Bal} {o : Thg} {v : Int} : ∀ {ws : List Wgh} {n : Int}, v ≤ ws.foldl (capStep bs o) n ↔ v ≤ n ∧ ∀ w ∈ ws, w.o = o → v ≤ (findD bs w.bal).cap
  | [], n => by simp
  | w :: r, n => by
    simp only [List.foldl_cons, List.mem_cons, forall_eq_or_imp]
    rw [cap_iff (ws := r)]
    unfold capStep
    cases hb : w.o == o with
    | true =>
      have hb : w.o = o := by simpa using hb
      simp only [cond_true]
      constructor
      · rintro ⟨h1, h2⟩; exact ⟨by omega, fun _ => by omega, h2⟩
      · rintro ⟨h1, h2, h3⟩; have := h2 hb; exact ⟨by omega, h3⟩
    | false =>
      have hb : w.o ≠ o := by simpa using hb
      simp only [cond_false]
      constructor
      · rintro ⟨h1, h2⟩; exact ⟨h1, fun h => absurd h hb, h2⟩
      · rintro ⟨h1, _, h3⟩; exact ⟨h1, h3⟩

theorem capF_iff {r : Rd} {o : Thg} {v : Int} : v ≤ capF r o ↔ v ≤ 10000000 ∧ ∀ w ∈ r.ws, w.o = o → v ≤ (findD r.bs w.bal).cap := cap_iff

/-- The balance with a number: there is one at most. -/
theorem findB_iff {bs : List Bal} (hd : (bs.map Bal.id).Nodup) {b : Bal} {id : Int} : findB bs id = some b ↔ b ∈ bs ∧ b.id = id := by
  constructor
  · intro h
    refine ⟨List.mem_of_find?_eq_some h, ?_⟩
    have := List.find?_some h
    simpa using this
  · rintro ⟨hb, rfl⟩
    cases hf : findB bs b.id with
    | none =>
      have := List.find?_eq_none.1 hf b hb
      simp at this
    | some b' =>
      have h1 := List.mem_of_find?_eq_some hf
      have h2 : b'.id = b.id := by have := List.find?_some hf; simpa using this
      obtain ⟨i, hi, rfl⟩ := List.mem_iff_getElem.1 hb
      obtain ⟨j, hj, rfl⟩ := List.mem_iff_getElem.1 h1
      have hp := List.pairwise_iff_getElem.1 (List.pairwise_map.1 hd)
      rcases Nat.lt_trichotomy i j with hlt | rfl | hlt
      · exact absurd h2.symm (hp i j hi hj hlt)
      · rfl
      · exact absurd h2 (hp j i hj hi hlt)

theorem RdOK.cN {r : Rd} (h : RdOK r) : (r.cs.map Chk.id).Nodup := (List.nodup_append.1 h.ids).1
theorem RdOK.nN {r : Rd} (h : RdOK r) : (r.ns.map Ntc.id).Nodup := (List.nodup_append.1 (List.nodup_append.1 h.ids).2.1).1
theorem RdOK.wN {r : Rd} (h : RdOK r) : (r.ws.map Wgh.id).Nodup := (List.nodup_append.1 (List.nodup_append.1 h.ids).2.1).2.1

/-! ### The numbers of readings -/

def allIds (r : Rd) : List Int := r.cs.map Chk.id ++ (r.ns.map Ntc.id ++ r.ws.map Wgh.id)
def idsR (r : Rd) : List Int := distS (fun a b : Int => decide (a < b)) (allIds r)

theorem intLt_ok : LtOK (fun a b : Int => decide (a < b)) where
  irr x := by simp
  tr x y z h1 h2 := by simp at *; omega
  tot x y h := by simp; omega

def lessR (r : Rd) (ids : List Int) : Rd := ⟨r.bs, r.cs.filter (fun c => !ids.contains c.id), r.ns.filter (fun n => !ids.contains n.id), r.ws.filter (fun w => !ids.contains w.id)⟩

theorem less_ok {r : Rd} (h : RdOK r) (ids : List Int) : RdOK (lessR r ids) where
  nb := h.nb
  nr := by
    have h1 := List.length_filter_le (fun c : Chk => !ids.contains c.id) r.cs
    have h2 := List.length_filter_le (fun n : Ntc => !ids.contains n.id) r.ns
    have h3 := List.length_filter_le (fun w : Wgh => !ids.contains w.id) r.ws
    have := h.nr
    show (r.cs.filter _).length + (r.ns.filter _).length + (r.ws.filter _).length ≤ 100
    omega
  bal := h.bal
  balN := h.balN
  chk c hc := h.chk c (List.mem_filter.1 hc).1
  ntc c hc := h.ntc c (List.mem_filter.1 hc).1
  wgh c hc := h.wgh c (List.mem_filter.1 hc).1
  ids := by
    refine List.Nodup.sublist ?_ h.ids
    exact (List.filter_sublist.map _).append ((List.filter_sublist.map _).append (List.filter_sublist.map _))

end Proofs
end Go

/-
  Plain lemmas, part 27: the elements of two lists by their numbers, each once; merging readings. Conditions: none; definitions and plain lemmas.
-/
namespace Go
namespace Proofs

def JoinOK {α : Type} (key : α → Int) (a b : List α) : Prop := ∀ x ∈ a ++ b, ∀ y ∈ a ++ b, key x = key y → x = y

instance {α : Type} [DecidableEq α] (key : α → Int) (a b : List α) : Decidable (JoinOK key a b) := inferInstanceAs (Decidable (∀ x ∈ a ++ b, ∀ y ∈ a ++ b, key x = key y → x = y))

end Proofs
end Go

/-
  Plain lemmas, part 28: what merging gives: valid, in either order, again. Conditions: none; definitions and plain lemmas.
-/
namespace Go
namespace Proofs

end Proofs
end Go

namespace Go.Proofs
open Go.Sx

/-! ### More readings allow less; all differences between the least and the greatest one are possible -/

theorem sem_mono {r r' : Rd} {more more' : List Mom} {x : Thg → Int} {c : Mom → Int} (hbs : r'.bs = r.bs) (hns : r'.ns = r.ns) (hc : ∀ k ∈ r.cs, k ∈ r'.cs) (hw : ∀ w ∈ r.ws, w ∈ r'.ws) (hm : ∀ m ∈ momsF r more, m ∈ momsF r' more')
    (h : SemR r' more' x c) : SemR r more x c := by
  have ho : ∀ o ∈ objsF r, o ∈ objsF r' := fun o ho => by
    obtain ⟨w, h1, h2⟩ := objsF_mem.1 ho
    exact objsF_mem.2 ⟨w, hw w h1, h2⟩
  have hs : ∀ m, sideF r' m = sideF r m := fun m => by unfold sideF; rw [hbs, hns]
  refine ⟨fun o h1 => ?_, fun m h1 => h.mom m (hm m h1), fun m h1 => ?_, fun w h1 => ?_, fun k h1 => ?_, fun a ha b hb hab ht => ?_, fun o h1 q h2 hoq => h.cvr o (ho o h1) q (ho q h2) hoq⟩
  · obtain ⟨g1, g2⟩ := h.obj o (ho o h1)
    refine ⟨g1, capF_iff.2 ?_⟩
    obtain ⟨g3, g4⟩ := capF_iff.1 g2
    exact ⟨g3, fun w hw' hwo => by rw [← hbs]; exact g4 w (hw w hw') hwo⟩
  · have := h.sid m (hm m h1); rw [hs] at this; exact this
  · have := h.wgh w (hw w h1); rw [hbs] at this; exact this
  · have := h.chk k (hc k h1); rw [hbs] at this; exact this
  · have := h.drf a (hm a ha) b (hm b hb) hab ht; rw [hbs] at this; exact this

/-! ### A further weighing of a known object -/

def addW (r : Rd) (w : Wgh) : Rd := { r with ws := r.ws ++ [w] }
def addC (r : Rd) (c : Chk) : Rd := { r with cs := r.cs ++ [c] }

/-- The system with a lower greatest mass of one object. -/
def boxW (r : Rd) (w : Wgh) : List (Int × Int) := (boxR r [wMom w]).set (plF (objsF r) w.o).toNat (0, min (capF r w.o) (findD r.bs w.bal).cap)

theorem boxW_len (r : Rd) (w : Wgh) : (boxW r w).length = (boxR r [wMom w]).length := by simp [boxW]

theorem boxW_at {r : Rd} {w : Wgh} (ho : w.o ∈ objsF r) : (boxR r [wMom w])[(plF (objsF r) w.o).toNat]? = some (0, capF r w.o) ∧ (plF (objsF r) w.o).toNat < (boxR r [wMom w]).length := by
  obtain ⟨e, l⟩ := plF_mem ho
  have g := plF_get e
  rw [e, Int.toNat_natCast]
  refine ⟨?_, by rw [boxR_len]; omega⟩
  unfold boxR boxesR
  rw [List.getElem?_append_left (by rw [List.length_map]; exact l), List.getElem?_map, g]; rfl

theorem boxW_sys {r : Rd} (h : RdOK r) {w : Wgh} (ho : w.o ∈ objsF r) (hm : momOK r (wMom w) = true) : SysOK (boxW r w) (lnkR r [wMom w]) := by
  have hs := rd_sys h (more := [wMom w]) (by simp) (by simpa using hm)
  refine ⟨by rw [boxW_len]; exact hs.nb, hs.nl, fun b hb => ?_, fun l hl => by rw [boxW_len]; exact hs.lnk l hl⟩
  have hcap : 1 ≤ (findD r.bs w.bal).cap := by
    simp [momOK, wMom] at hm
    have := valid_bd (h.findD hm.1); omega
  have hc1 : 0 ≤ capF r w.o ∧ capF r w.o ≤ 10000000 := by
    have := hs.box _ (List.mem_of_getElem? (boxW_at ho).1)
    refine ⟨this.1, (capF_iff.1 (Int.le_refl _)).1⟩
  rcases List.mem_or_eq_of_mem_set hb with hb | rfl
  · exact hs.box b hb
  · dsimp only; omega

end Go.Proofs

namespace Go.Proofs
open Go.Sx

/-! ### What a further weighing can show -/

def rangeW (r : Rd) (w : Wgh) : Int × Int :=
  (-mostF (boxW r w).length (graphF (boxW r w) (lnkR r [wMom w]) 0) (plF (objsF r) w.o) ((objsF r).length + plF (momsF r [wMom w]) (wMom w)),
   mostF (boxW r w).length (graphF (boxW r w) (lnkR r [wMom w]) 0) ((objsF r).length + plF (momsF r [wMom w]) (wMom w)) (plF (objsF r) w.o))

def foreseeV (r : Rd) (w : Wgh) : (Int × Int) × Int :=
  if min 10000000 ((rangeW r w).2 + (findD r.bs w.bal).half) < max 0 ((rangeW r w).1 - (findD r.bs w.bal).half) then ((0, 0), 3)
  else ((max 0 ((rangeW r w).1 - (findD r.bs w.bal).half), min 10000000 ((rangeW r w).2 + (findD r.bs w.bal).half)), 0)

def foreseeF (r : Rd) (w : Wgh) : (Int × Int) × Int :=
  if checkR r = 0 then (if momOK r (wMom w) = true ∧ thgF w.o = true then (if w.o ∈ objsF r then (if Calm (boxW r w) (lnkR r [wMom w]) 0 then foreseeV r w else ((0, 0), 9)) else ((0, 0), 5)) else ((0, 0), 1)) else ((0, 0), checkR r)

theorem addW_ok {r : Rd} {w : Wgh} (h : RdOK (addW r w)) : RdOK r where
  nb := h.nb
  nr := by have := h.nr; simp [addW] at *; omega
  bal := h.bal
  balN := h.balN
  chk := h.chk
  ntc := h.ntc
  wgh u hu := h.wgh u (List.mem_append.2 (.inl hu))
  ids := by
    have := h.ids
    simp only [addW, List.map_append, List.map_cons, List.map_nil] at this
    refine this.sublist ?_
    exact (List.Sublist.refl _).append ((List.Sublist.refl _).append (List.sublist_append_left _ _))

theorem addC_ok {r : Rd} {c : Chk} (h : RdOK (addC r c)) : RdOK r where
  nb := h.nb
  nr := by have := h.nr; simp [addC] at *; omega
  bal := h.bal
  balN := h.balN
  chk u hu := h.chk u (List.mem_append.2 (.inl hu))
  ntc := h.ntc
  wgh := h.wgh
  ids := by
    have := h.ids
    simp only [addC, List.map_append, List.map_cons, List.map_nil] at this
    refine this.sublist ?_
    exact (List.sublist_append_left _ _).append ((List.Sublist.refl _))

/-! ### More readings -/

theorem narrow_mass {r r' : Rd} (h : RdOK r) (h' : RdOK r') (hbs : r'.bs = r.bs) (hns : r'.ns = r.ns) (hc : ∀ k ∈ r.cs, k ∈ r'.cs) (hw : ∀ w ∈ r.ws, w ∈ r'.ws) {o : Thg} {a s : Int × Int} (ha : massF r o = (a, 0)) :
    (massF r' o).2 = 9 ∨ ((massF r' o).2 = 0 ∧ a.1 ≤ (massF r' o).1.1 ∧ (massF r' o).1.2 ≤ a.2 ∧ (massF r' o).1.1 ≤ (massF r' o).1.2) := by
  have c0 : checkR r = 0 := checkR_ok.2 h
  have c1 : checkR r' = 0 := checkR_ok.2 h'
  unfold massF at *
  rw [if_pos c0] at ha
  rw [if_pos c1]
  unfold massV at *
  by_cases ho : o ∈ objsF r
  case neg => rw [if_neg ho] at ha; exact absurd (congrArg Prod.snd ha) (by simp)
  rw [if_pos ho] at ha
  have ho' : o ∈ objsF r' := by
    obtain ⟨w, h1, h2⟩ := objsF_mem.1 ho
    exact objsF_mem.2 ⟨w, hw w h1, h2⟩
  rw [if_pos ho']
  unfold betweenF at *
  by_cases hcm : Calm (boxR r []) (lnkR r []) 0
  case neg => rw [if_neg hcm] at ha; exact absurd (congrArg Prod.snd ha) (by simp)
  rw [if_pos hcm] at ha
  by_cases hcm' : Calm (boxR r' []) (lnkR r' []) 0
  case neg => rw [if_neg hcm']; exact .inl rfl
  rw [if_pos hcm']
  refine .inr ⟨rfl, ?_⟩
  have hm : ∀ m ∈ momsF r [], m ∈ momsF r' [] := fun m hm => by
    rcases momsF_mem.1 hm with ⟨w, h1, h2⟩ | ⟨k, h1, h2⟩ | h1
    · exact momsF_mem.2 (.inl ⟨w, hw w h1, h2⟩)
    · exact momsF_mem.2 (.inr (.inl ⟨k, hc k h1, h2⟩))
    · simp at h1
  obtain ⟨b1, _, _⟩ := range_sem h (more := []) (by simp) (by simp) hcm (a := .zero) (b := .obj o) trivial ho
  obtain ⟨d1, ⟨x1, e1, s1, v1⟩, ⟨x2, e2, s2, v2⟩⟩ := range_sem h' (more := []) (by simp) (by simp) hcm' (a := .zero) (b := .obj o) trivial ho'
  have t1 := b1 x1 e1 (sem_mono hbs hns hc hw hm s1)
  have t2 := b1 x2 e2 (sem_mono hbs hns hc hw hm s2)
  have t3 := d1 x1 e1 s1
  have a1 := congrArg (fun z => z.1.1) ha
  have a2 := congrArg (fun z => z.1.2) ha
  simp only [Var.pl, Var.val, mostR] at *
  omega

theorem narrow_drift {r r' : Rd} (h : RdOK r) (h' : RdOK r') (hbs : r'.bs = r.bs) (hns : r'.ns = r.ns) (hc : ∀ k ∈ r.cs, k ∈ r'.cs) (hw : ∀ w ∈ r.ws, w ∈ r'.ws) {m : Mom} {a : Int × Int} (ha : driftedF r m = (a, 0)) :
    (driftedF r' m).2 = 9 ∨ ((driftedF r' m).2 = 0 ∧ a.1 ≤ (driftedF r' m).1.1 ∧ (driftedF r' m).1.2 ≤ a.2 ∧ (driftedF r' m).1.1 ≤ (driftedF r' m).1.2) := by
  have c0 : checkR r = 0 := checkR_ok.2 h
  have c1 : checkR r' = 0 := checkR_ok.2 h'
  unfold driftedF at *
  rw [if_pos c0] at ha
  rw [if_pos c1]
  by_cases hmo : momOK r m = true
  case neg => rw [if_neg hmo] at ha; exact absurd (congrArg Prod.snd ha) (by simp)
  rw [if_pos hmo] at ha
  have hmo' : momOK r' m = true := by unfold momOK at *; rw [hbs]; exact hmo
  rw [if_pos hmo']
  unfold betweenF at *
  by_cases hcm : Calm (boxR r [m]) (lnkR r [m]) 0
  case neg => rw [if_neg hcm] at ha; exact absurd (congrArg Prod.snd ha) (by simp)
  rw [if_pos hcm] at ha
  by_cases hcm' : Calm (boxR r' [m]) (lnkR r' [m]) 0
  case neg => rw [if_neg hcm']; exact .inl rfl
  rw [if_pos hcm']
  refine .inr ⟨rfl, ?_⟩
  have hm : ∀ k ∈ momsF r [m], k ∈ momsF r' [m] := fun k hm => by
    rcases momsF_mem.1 hm with ⟨w, h1, h2⟩ | ⟨k, h1, h2⟩ | h1
    · exact momsF_mem.2 (.inl ⟨w, hw w h1, h2⟩)
    · exact momsF_mem.2 (.inr (.inl ⟨k, hc k h1, h2⟩))
    · exact momsF_mem.2 (.inr (.inr h1))
  have i1 : (Var.mom m).isIn r [m] := momsF_mem.2 (.inr (.inr (by simp)))
  have i2 : (Var.mom m).isIn r' [m] := momsF_mem.2 (.inr (.inr (by simp)))
  obtain ⟨b1, _, _⟩ := range_sem h (more := [m]) (by simp) (by simpa using hmo) hcm (a := .zero) (b := .mom m) trivial i1
  obtain ⟨d1, ⟨x1, e1, s1, v1⟩, ⟨x2, e2, s2, v2⟩⟩ := range_sem h' (more := [m]) (by simp) (by simpa using hmo') hcm' (a := .zero) (b := .mom m) trivial i2
  have t1 := b1 x1 e1 (sem_mono hbs hns hc hw hm s1)
  have t2 := b1 x2 e2 (sem_mono hbs hns hc hw hm s2)
  have t3 := d1 x1 e1 s1
  have a1 := congrArg (fun z => z.1.1) ha
  have a2 := congrArg (fun z => z.1.2) ha
  simp only [Var.pl, Var.val, mostR] at *
  omega

/-- A check bounds the correction of its moment. -/
theorem drift_check {r : Rd} (h : RdOK r) {k : Chk} (hk : k ∈ r.cs) {d : Int × Int} (hd : driftedF r (cMom k) = (d, 0)) : k.mass - k.shown - (findD r.bs k.bal).half ≤ d.1 ∧ d.2 ≤ k.mass - k.shown + (findD r.bs k.bal).half := by
  have c0 : checkR r = 0 := checkR_ok.2 h
  unfold driftedF at hd
  rw [if_pos c0] at hd
  by_cases hmo : momOK r (cMom k) = true
  case neg => rw [if_neg hmo] at hd; exact absurd (congrArg Prod.snd hd) (by simp)
  rw [if_pos hmo] at hd
  unfold betweenF at hd
  by_cases hcm : Calm (boxR r [cMom k]) (lnkR r [cMom k]) 0
  case neg => rw [if_neg hcm] at hd; exact absurd (congrArg Prod.snd hd) (by simp)
  rw [if_pos hcm] at hd
  have i1 : (Var.mom (cMom k)).isIn r [cMom k] := momsF_mem.2 (.inr (.inr (by simp)))
  obtain ⟨_, ⟨x1, e1, s1, v1⟩, ⟨x2, e2, s2, v2⟩⟩ := range_sem h (more := [cMom k]) (by simp) (by simpa using hmo) hcm (a := .zero) (b := .mom (cMom k)) trivial i1
  have t1 := s1.chk k hk
  have t2 := s2.chk k hk
  have a1 := congrArg (fun z => z.1.1) hd
  have a2 := congrArg (fun z => z.1.2) hd
  simp only [Var.pl, Var.val, mostR] at *
  omega

end Go.Proofs

namespace Go.Proofs
open Go.Sx

/-! ### The examples of the chapter -/

def exSc : Bal := ⟨1, 2, -10, 10, 1, 1000⟩
def exGr : Thg := ⟨1, 1, 0, 1⟩
def exTa : Thg := ⟨1, 1, 0, 2⟩
def exR1 : Rd := ⟨[exSc], [], [], [⟨11, 1, 5, exGr, 500⟩]⟩
def exR2 : Rd := ⟨[exSc], [], [], [⟨11, 1, 5, exGr, 500⟩, ⟨13, 1, 5, exTa, 40⟩]⟩
def exR3 : Rd := ⟨[exSc], [⟨12, 1, 3, 100, 97⟩], [], [⟨11, 1, 5, exGr, 500⟩]⟩
def exR4 : Rd := ⟨[exSc], [⟨12, 1, 5, 100, 97⟩], [], [⟨11, 1, 5, exGr, 500⟩]⟩
def exR5 : Rd := ⟨[exSc], [⟨12, 1, 5, 100, 97⟩], [⟨14, 1, 0, 9, 4, 30⟩], [⟨11, 1, 5, exGr, 500⟩]⟩
def exR6 : Rd := ⟨[exSc], [⟨12, 1, 5, 100, 97⟩], [⟨14, 1, 0, 9, 6, 30⟩], [⟨11, 1, 5, exGr, 500⟩]⟩
theorem exT1 : massF exR1 exGr = ((488, 512), 0) := by decide +kernel
theorem exT2 : driftedF exR1 ⟨1, 5⟩ = ((-10, 10), 0) := by decide +kernel
theorem exT3 : foreseeF exR1 ⟨0, 1, 6, exGr, 0⟩ = ((495, 505), 0) := by decide +kernel
theorem exT4 : lossF exR2 exGr exTa = ((456, 464), 0) := by decide +kernel
theorem exT5 : driftedF exR3 ⟨1, 5⟩ = ((-1, 7), 0) := by decide +kernel
theorem exT6 : driftedF exR4 ⟨1, 5⟩ = ((1, 5), 0) := by decide +kernel
theorem exT7 : massF exR5 exGr = ((502, 507), 0) := by decide +kernel
theorem exT8 : massF exR6 exGr = ((0, 0), 9) := by decide +kernel
theorem exT10 : ((idsR exR5).filter fun i => !(decide (massV (lessR exR5 [i]) exGr = massF exR5 exGr))) = [11, 12, 14] := by decide +kernel
theorem exT11 : ((idsR exR6).filter fun i => decide (Calm (boxR (lessR exR6 [i]) []) (lnkR (lessR exR6 [i]) []) 0)) = [12, 14] := by decide +kernel

/-! ### Which link masses and corrections contradict -/

end Go.Proofs

namespace Go.Proofs
open Go.Sx

/-! ### Fits, Example, and true masses and corrections -/

end Go.Proofs

namespace Go.Proofs
open Go.Sx

/-! ### What is possible by the words of the chapter (one balance, two objects and two moments at most) -/

structure Tiny (r : Rd) (b : Bal) : Prop where
  ok : RdOK r
  bs : r.bs = [b]
  lo : (objsF r).length ≤ 2
  lm : (momsF r []).length ≤ 2

end Go.Proofs

namespace Go.Proofs
open Go.Sx

/-! ### Gone through one by one -/

structure Small (r : Rd) (b : Bal) : Prop where
  tiny : Tiny r b
  cap : b.cap ≤ 6
  lo : -2 ≤ b.lo
  hi : b.hi ≤ 2
  ns : ∀ n ∈ r.ns, -2 ≤ n.slo ∧ n.shi ≤ 2

end Go.Proofs

