/-
  A part of the proof that a law of dryweightlaw03 answers true: lemmas of a symbolic walk, plain functions, or contracts of the functions walked (Sx34, Zh, Xw). Conditions: none.
-/
import Derived.Test.YtjjfadfmdodmnaaPart09
import Derived.Test.YtjjfadfmdodmnaaPart19
import Derived.Test.YtjjfadfmdodmnaaPart16
set_option maxRecDepth 100000
set_option linter.unusedVariables false
set_option linter.unusedSimpArgs false
namespace Go
namespace Sx

/-! ### A range over a function whose body returns -/

def doneO (fn : FuncId) (T0 : Array Value) (ps : Array Tmp) (asg body : Code) (d : Nat) : SO :=
  .raw (fun x => x = .loop { state := .done, pending := some .ret, fn := fn, tmps := T0, params := ps, assign := asg, body := body, defers := d })

/-- The contract of a round that ends the function: the loop's body, in the world of its function's frame. The names: 0 is the loop's record. -/
structure RoundE (P : Program) (nt : Nat) (stO : List (Nat × SV)) (ps : Array Tmp) (asg body : Code) (args : List SV) (pre : Heap) (np : Nat) (post : Heap) : Prop where
  h : ∀ (fn : FuncId) (T0 : Array Value) (d : Nat) (ρ : Asg) (w : World) (vals : Array Value), T0.size = nt → (∀ i sv, (i, sv) ∈ stO → sv.rel ρ (T0.getD i undef)) → relVs ρ args vals.toList → vals.size = ps.size →
    SatH w (ownB ρ ((0, true, recO fn T0 ps asg body d) :: pre)) ρ ((0, true, recO fn T0 ps asg body d) :: pre) w →
    RoundIn Fence.wide 0 P (ρ 0).blk fn ((ps.zip vals).foldl (fun tmps (t, a) => tmps.setIfInBounds t a) T0) asg body w
      fun e w' => ∃ ρ', (∀ k, k < np → ρ' k = ρ k) ∧ e = .returned (.bool false) ∧ SatH w (ownB ρ ((0, true, recO fn T0 ps asg body d) :: pre)) ρ' ((0, true, doneO fn T0 ps asg body d) :: post) w'

/-- The walk of one round that ends by a return. -/
def roundEK (cx : Cx) (B : Tabs) (asg body : Code) (np : Nat) (R R' Rd : SO) (post : Heap) (s : St) : Prop :=
  vc cx B asg (fun ex s1 => match ex with
    | .normal => (match s1, look s1.H 0 with
      | ⟨e, H, nx⟩, some (true, o) => o = R ∧ vc cx B body (fun ex s2 => match ex with
          | .ret => (match s2, look s2.H 0 with
            | ⟨_, H, nx⟩, some (true, o) => o = R' ∧ RetE (.c (.b false)) ((0, true, Rd) :: H) nx np (.c (.b false)) ((0, true, Rd) :: post)
            | _, _ => False)
          | _ => False) ⟨e, (0, true, R') :: H, nx⟩
      | _, _ => False)
    | _ => False) s

theorem roundE_of {P : Program} {B : Tabs} (hB : TabsOK P B) {nt : Nat} {stO : List (Nat × SV)} {ps : Array Tmp} {asg body : Code} {args : List SV} {pre : Heap} {np : Nat} {post : Heap}
    (hn : (allLt np (nmsV args) && (allLt np (nmsH pre) && (allLt np (nmsSt stO) && (allLtP nt ps.toList && Nat.ble 1 np)))) = true)
    (h : ∀ (Φ Φ' Φd : Obj → Prop) (ρ : Asg) (w : World), roundEK ⟨P, w, ownB ρ ((0, true, .raw Φ) :: pre), nt, some (ρ 0).blk, ρ, np, none, #[]⟩ B asg body np (.raw Φ) (.raw Φ') (.raw Φd) post
      ⟨putPs ps.toList args (envS stO), (0, true, .raw Φ) :: pre, np⟩) :
    RoundE P nt stO ps asg body args pre np post where
  h fn T0 d ρ w vals hT hO hv hsz hH := by
    simp only [Bool.and_eq_true] at hn
    obtain ⟨n1, n2, n3, n4, n5⟩ := hn
    have n1 := allLt_iff.1 n1
    have n2 := allLt_iff.1 n2
    have n3 := allLt_iff.1 n3
    have n5 := Nat.le_of_ble_eq_true n5
    have n4 : ∀ p ∈ ps.toList, p < nt := by
      clear h hsz
      revert n4
      generalize ps.toList = l
      intro n4
      induction l with
      | nil => simp
      | cons x r ih =>
        simp only [allLtP] at n4
        cases hb : Nat.blt x nt with
        | false => simp [hb] at n4
        | true =>
          simp [hb] at n4
          intro p hp
          rcases List.mem_cons.1 hp with rfl | hp
          · exact Eq.mp Nat.blt_eq hb
          · exact ih n4 p hp
    have hK := h (fun x => x = .loop { state := .ready, pending := none, fn := fn, tmps := T0, params := ps, assign := asg, body := body, defers := d }) (fun x => x = .loop { state := .busy, pending := none, fn := fn, tmps := T0, params := ps, assign := asg, body := body, defers := d }) (fun x => x = .loop { state := .done, pending := some .ret, fn := fn, tmps := T0, params := ps, assign := asg, body := body, defers := d }) ρ w
    have hK : roundEK ⟨P, w, ownB ρ ((0, true, recO fn T0 ps asg body d) :: pre), nt, some (ρ 0).blk, ρ, np, none, #[]⟩ B asg body np (recO fn T0 ps asg body d) (busyO fn T0 ps asg body d) (doneO fn T0 ps asg body d) post ⟨putPs ps.toList args (envS stO), (0, true, recO fn T0 ps asg body d) :: pre, np⟩ := hK
    generalize hcx : (⟨P, w, ownB ρ ((0, true, recO fn T0 ps asg body d) :: pre), nt, some (ρ 0).blk, ρ, np, none, #[]⟩ : Cx) = cx at hK
    have e1 : cx.P = P := by rw [← hcx]
    have e2 : cx.rd = some (ρ 0).blk := by rw [← hcx]
    have hB' : TabsOK cx.P B := by rw [e1]; exact hB
    have hput := putPs_rel (ρ := ρ) (nt := nt) (ps := ps.toList) (avs := args) (vs := vals.toList) (e := envS stO) (T := T0) hT n4 (by simp [hsz]) hv (fun i => by
      rcases envS_get (l := stO) (i := i) with ⟨v, hm, he⟩ | he
      · rw [he]; exact hO i v hm
      · rw [he]; trivial)
    have hfold : (ps.zip vals).foldl (fun tmps (t, a) => tmps.setIfInBounds t a) T0 = (ps.toList.zip vals.toList).foldl (fun tmps (t, a) => tmps.setIfInBounds t a) T0 := by
      rw [← Array.foldl_toList, Array.toList_zip]
    rw [hfold]
    have hs : Sat cx ρ ⟨putPs ps.toList args (envS stO), (0, true, recO fn T0 ps asg body d) :: pre, np⟩ { tmps := (ps.toList.zip vals.toList).foldl (fun tmps (t, a) => tmps.setIfInBounds t a) T0, defers := [] } w := by
      rw [← hcx]
      refine ⟨hput.1, by simp only [putPs_marks, envS_marks, List.map_nil], hput.2, hH, ⟨?_, by simp only [putPs_marks, envS_marks]; simp, ?_⟩, fun _ _ => rfl, (fun _ h => by cases h), Nat.le_refl _⟩
      · intro i k hk
        rcases putPs_uses hk with ⟨a, ha, hu⟩ | hu
        · exact n1 k (mem_nmsV ha (SV.uses_nms.1 hu))
        · rcases envS_get (l := stO) (i := i) with ⟨v, hm, he⟩ | he
          · rw [he] at hu; exact n3 k (mem_nmsSt hm (SV.uses_nms.1 hu))
          · rw [he] at hu; simp [SV.uses, SC.uses, SC.nms, anyMem] at hu
      · intro k own o hl
        rw [look_cons] at hl
        by_cases hk : k = 0
        · rw [if_pos hk] at hl; simp at hl; obtain ⟨_, rfl⟩ := hl
          subst hk
          exact ⟨n5, fun j hj => by simp [recO, SO.uses] at hj⟩
        · rw [if_neg hk] at hl
          have := look_nms hl
          exact ⟨n2 k this.1, fun j hj => n2 j (this.2 j (SO.uses_nms.1 hj))⟩
    refine roundIn_of_wpIn trivial ?_
    have hfr : Fence.wide.inRound (ρ 0).blk = fen cx.rd := by rw [e2]; rfl
    rw [hfr, ← e1]
    unfold roundEK at hK
    refine (vc_sound hB' asg _ _ hK).h ρ _ w hs _ ?_
    intro ex s1 ρ1 a1 w1 hq hs1
    cases ex with
    | normal =>
      obtain ⟨es, Hs, nxs⟩ := s1
      simp only at hq
      split at hq
      · rename_i e0 H0 nx0 o heq hl
        simp only [St.mk.injEq] at heq
        obtain ⟨rfl, rfl, rfl⟩ := heq
        obtain ⟨rfl, hbody⟩ := hq
        have hb0 : ρ1 0 = ρ 0 := by have := hs1.base 0 (by rw [← hcx]; exact n5); rw [this, ← hcx]
        obtain ⟨x, hx, hxx⟩ := (hs1.heap.reg 0 true _ hl).keys _ rfl
        have hx : w1.heap[(ρ 0).blk]? = some (.loop { state := .ready, pending := none, fn := fn, tmps := T0, params := ps, assign := asg, body := body, defers := d }) := by
          rw [← hb0, hx]; exact congrArg some hxx
        refine ⟨_, run_beginRound hx rfl, ?_⟩
        have hs2 := hs1.setObj (Φ' := fun x => x = .loop { state := .busy, pending := none, fn := fn, tmps := T0, params := ps, assign := asg, body := body, defers := d }) hl _ rfl
        rw [hb0] at hs2
        refine (vc_sound hB' body _ _ hbody).h ρ1 _ _ hs2 _ ?_
        intro ex s2 ρ2 a2 w2 hq hs3
        cases ex with
        | ret =>
          obtain ⟨es2, Hs2, nxs2⟩ := s2
          simp only at hq
          split at hq
          · rename_i e0 H0 nx0 o heq hl2
            simp only [St.mk.injEq] at heq
            obtain ⟨rfl, rfl, rfl⟩ := heq
            obtain ⟨rfl, hret⟩ := hq
            have hb2 : ρ2 0 = ρ 0 := by have := hs3.base 0 (by rw [← hcx]; exact n5); rw [this, ← hcx]
            obtain ⟨y, hy, hyy⟩ := (hs3.heap.reg 0 true _ hl2).keys _ rfl
            have hy : w2.heap[(ρ 0).blk]? = some (.loop { state := .busy, pending := none, fn := fn, tmps := T0, params := ps, assign := asg, body := body, defers := d }) := by
              rw [← hb2, hy]; exact congrArg some hyy
            have hs4 := hs3.setObj (Φ' := fun x => x = .loop { state := .done, pending := some .ret, fn := fn, tmps := T0, params := ps, assign := asg, body := body, defers := d }) hl2 _ rfl
            rw [hb2] at hs4
            obtain ⟨ρ3, h1, h2, h3⟩ := ret_sat (rv := .c (.b false)) (v := .bool false) hs4 (by rw [← hcx]) (show SV.rel ρ2 (.c (.b false)) (.bool false) from rfl) (below_b _ _) hret
            refine ⟨_, _, run_endRound (some .ret) hy, ρ3, fun k hk => by have := h1 k hk; rw [this, ← hcx], rfl, ?_⟩
            rw [← hcx] at h3
            exact h3
          · exact hq.elim
        | _ => exact hq.elim
      · exact hq.elim
    | _ => exact hq.elim

def yieldEK (args : List SV) (stO stA : List (Nat × SV)) (pre : Heap) (np : Nat) (post : Heap) (R Rd : SO) (n0 kl : Nat) (nps : Nat) (acts : List SV) (H : Heap) (nx : Nat) (K : Eff → Prop) : Prop :=
  forceVs (acts ++ svsOf stA) fun avs => findVsK 0 nx (args ++ svsOf stO) avs [(0, kl)] fun τ => findHK 0 nx H pre τ fun τ =>
  bif allIn (0 :: keys pre) (nmsV (args ++ svsOf stO)) && (allIn (0 :: keys pre) (nmsH pre) && (nodupB (mapN (rnf τ) (0 :: keys pre)) && (allLt nx (mapN (rnf τ) (0 :: keys pre)) &&
      (allNp np (0 :: keys pre) (nmsH post) && (okPost np pre post && (allLt np (0 :: keys pre) && (eqNs (slotsOf stO) (slotsOf stA) && (Nat.beq args.length acts.length && (Nat.beq acts.length nps &&
      (Nat.beq (rnf τ 0) kl && (Nat.blt kl n0 && (allLt n0 (nmsSt stA) && (bif memN 0 (keys pre) then false else bif memN 0 (keys post) then false else true))))))))))))) then
    entVs [] avs (renVs (rnf τ) (args ++ svsOf stO)) ∧ entH [] H (rnf τ) ((0, true, R) :: pre) ∧
    K ⟨.c (.b false), mapN (rnf τ) (0 :: keys pre), (fshift np nx τ 0, true, Rd) :: (renH (fshift np nx τ) post ++ deadOf τ (0 :: keys post) pre), rangeN nx (maxN (nmsH post) np - np)⟩
  else False

theorem yieldE_step {cx : Cx} {o : Oper} {e : Env} {H : Heap} {nx : Nat} {K : Eff → Prop} {c : Call} {x : Operand} {l : Nat} {fn : FuncId} {d nt : Nat} {T0 : Array Value} {ps : Array Tmp} {asg body : Code}
    {args : List SV} {stO : List (Nat × SV)} {pre : Heap} {np : Nat} {post : Heap} (stA : List (Nat × SV)) (kl : Nat) (T : RoundE cx.P nt stO ps asg body args pre np post) (hT : T0.size = nt)
    (hA : ∀ i sv, (i, sv) ∈ stA → sv.rel cx.ρ0 (T0.getD i undef)) (hl : (cx.ρ0 kl).blk = l) (hrd : cx.rd = none) (ho : o.op = .call c) (hc : c.callee = .value x) (hx : ev e x = .c (.v (.func (.yield l) #[] #[])))
    (h : yieldEK args stO stA pre np post (recO fn T0 ps asg body d) (doneO fn T0 ps asg body d) cx.n0 kl ps.toList.length (evs e c.args.toList) H nx K) :
    ∃ F, CallOK cx o e H nx F ∧ K F := by
  simp only [yieldEK, forceVs_eq, findVsK_eq, findHK_eq] at h
  generalize hτ : findH 0 nx H pre (findVs 0 nx (args ++ svsOf stO) (evs e c.args.toList ++ svsOf stA) [(0, kl)]) = τ at h
  obtain ⟨hall, hargs, hpre, hK⟩ := bif_and h
  simp only [Bool.and_eq_true] at hall
  obtain ⟨c1, c2, c3, c4, c5, c6, c7, c8, c9, c10, c11, c12, c13, c14⟩ := hall
  have c8 := eqNs_eq c8
  have c9 := Nat.eq_of_beq_eq_true c9
  have c10 := Nat.eq_of_beq_eq_true c10
  have c11 := Nat.eq_of_beq_eq_true c11
  have c12 : kl < cx.n0 := Eq.mp Nat.blt_eq c12
  have c13 := allLt_iff.1 c13
  obtain ⟨m1, m2⟩ : memN 0 (keys pre) = false ∧ memN 0 (keys post) = false := by
    cases h1 : memN 0 (keys pre) <;> cases h2 : memN 0 (keys post) <;> simp_all
  have hR0 : ∀ H' : Heap, nmsH ((0, true, recO fn T0 ps asg body d) :: H') = 0 :: nmsH H' := fun _ => rfl
  have hR1 : ∀ H' : Heap, nmsH ((0, true, doneO fn T0 ps asg body d) :: H') = 0 :: nmsH H' := fun _ => rfl
  refine call_core (args := args ++ svsOf stO) (pre := (0, true, recO fn T0 ps asg body d) :: pre) (np := np) (r := .c (.b false)) (post := (0, true, doneO fn T0 ps asg body d) :: post) (τ := τ)
    ⟨c1, ?_, c3, c4, ?_, ?_, c7⟩ hpre ?_ ?_
  · rw [hR0, allIn_iff]
    intro k hk
    rcases List.mem_cons.1 hk with rfl | hk
    · simp [keys]
    · exact allIn_iff.1 c2 k hk
  · rw [hR1, allNp_iff]
    intro k hk hkn
    simp only [SV.nms, SC.nms, List.nil_append] at hk
    rcases List.mem_cons.1 hk with rfl | hk
    · simp [keys]
    · exact allNp_iff.1 c5 k hk hkn
  · simp only [okPost]
    exact okPost_cons c6 m2
  · intro ρ a w hr hbase hH KK Q hKK
    have hops : ∀ y ∈ c.args.toList, y ∈ o.op.operands.toList := fun y hy => by simp [ho, Op.operands, Call.operands, hc]; exact .inr (by simpa using hy)
    have hopx : x ∈ o.op.operands.toList := by simp [ho, Op.operands, Call.operands, hc]
    have hfit : ∀ y, y ∈ o.op.operands.toList → (ev e y).rel ρ (a.eval y) := fun y hy => reads_fit hy hr
    have hx' := hfit x hopx
    rw [hx] at hx'; simp only [SV.rel, SC.rel] at hx'
    have hAρ : relVs ρ (svsOf stA) ((slotsOf stA).map fun i => T0.getD i undef) := svsOf_rel.1 fun i sv hm =>
      SV.rel_agree (fun k hk => hbase k (c13 k (mem_nmsSt hm (SV.uses_nms.1 hk)))) (hA i sv hm)
    have hvals := renVs_rel.1 (entVs_rel (nl := []) (by intro k hk; cases hk) hargs (relVs_append (evs_rel fun y hy => hfit y (hops y hy)) hAρ))
    have hlen : args.length = (c.args.toList.map a.eval).length := by
      have := relVs_length (evs_rel (ρ := ρ) (e := e) (a := a) fun y hy => hfit y (hops y hy))
      omega
    obtain ⟨hv1, hv2⟩ := relVs_take hlen hvals
    rw [← c8] at hv2
    have hblk : (ρ (rnf τ 0)).blk = l := by rw [c11, hbase kl c12, hl]
    have hvsz : (c.args.map a.eval).size = ps.size := by
      have := relVs_length (evs_rel (ρ := ρ) (e := e) (a := a) fun y hy => hfit y (hops y hy))
      simp at this c10 ⊢
      omega
    have hround := T.h fn T0 d (fun k => ρ (rnf τ k)) w (c.args.map a.eval) hT (svsOf_rel.2 hv2) (by simpa using hv1) hvsz hH
    obtain ⟨y, hy, hyy⟩ := (hH.reg 0 true (recO fn T0 ps asg body d) (by rw [look_cons, if_pos rfl])).keys _ rfl
    simp only [hblk] at hy hround
    have hy : w.heap[l]? = some (.loop { state := .ready, pending := none, fn := fn, tmps := T0, params := ps, assign := asg, body := body, defers := d }) := by
      rw [hy]; exact congrArg some hyy
    have hrun : (execOp a.eval o).run cx.P w = .ok (.round l fn ((ps.zip (c.args.map a.eval)).foldl (fun tmps (t, a) => tmps.setIfInBounds t a) T0) asg body) w := by
      simp only [execOp, ho, resolve, hc, hx', Deferred.ofValue, Sem.run_bind, Sem.run_pure, Result.andThen_ok, invoke, Array.empty_append]
      rw [run_yield hy hvsz]
    refine ⟨fun _ _ => trivial, ?_⟩
    rw [Oper.semAt_eq _ _ _ (by simp [ho]), hrun, Oper.uponIn_round]
    refine ⟨fun h => by simp [fen, Fence.wide] at h, ?_⟩
    have hw : fen cx.rd = Fence.wide := by rw [hrd]; rfl
    rw [hw]
    refine hround.mono ?_
    rintro en w' ⟨ρc, hag, rfl, hpost⟩
    exact hKK ρc (.bool false) w' hag rfl hpost
  · have e1 : maxN ((SV.c (.b false)).nms ++ nmsH ((0, true, doneO fn T0 ps asg body d) :: post)) np = maxN (nmsH post) np := by
      rw [hR1]
      simp only [SV.nms, SC.nms, List.nil_append, maxN]
      have h0 : 0 < np := allLt_iff.1 c7 0 (by simp [keys])
      cases hb : Nat.blt np (0 + 1) with
      | false => rfl
      | true => have := Eq.mp Nat.blt_eq hb; omega
    have e2 : renH (fshift np nx τ) ((0, true, doneO fn T0 ps asg body d) :: post) = (fshift np nx τ 0, true, doneO fn T0 ps asg body d) :: renH (fshift np nx τ) post := rfl
    rw [e1, e2]
    simp only [keys]
    rw [deadOf_cons0]
    exact hK

/-- The walk of the function that is ranged over, in the place of the loop. -/
def itEK (cx : Cx) (B : Tabs) (fn : Func) (c : Code) (Q : Exit → St → Prop) (s : St) (caps : List Nat) (R Rd : SO) (l : Nat) (ρ : Asg) : Prop := match s with
  | ⟨e, H, nx⟩ => vc ⟨cx.P, cx.w0, cx.M, fn.ntmps, none, ρ, nx + 2, none, #[]⟩ B c
    (fun ex s' => match ex, s' with
      | .normal, ⟨e', H', nx'⟩ => itEndE e H' nx' e' nx R Rd Q
      | .ret, ⟨e', H', nx'⟩ => itEndE e H' nx' e' nx R Rd Q
      | _, _ => False)
    ⟨envOf 0 (.c (.v (.func (.yield l) #[] #[])) :: capPs caps), (nx + 1, true, R) :: (nx, true, dfrO) :: H, nx + 2⟩
where
  itEndE (e : Env) (H' : Heap) (nx' : Nat) (e' : Env) (nx : Nat) (R Rd : SO) (Q : Exit → St → Prop) : Prop :=
    bif eqNs e'.marks [] then (match look H' (nx + 1) with
      | some (true, o) => (o = R ∧ Q .normal ⟨.mark nx e, (nx + 1, false, .cells []) :: H', nx'⟩) ∨ (o = Rd ∧ Q .ret ⟨.mark nx e, (nx + 1, false, .cells []) :: H', nx'⟩)
      | _ => False) else False

def rangeEK (cx : Cx) (B : Tabs) (g : FuncId) (fn : Func) (c : Code) (ps : Array Tmp) (asg body : Code) (Q : Exit → St → Prop) (s : St) (f : SV) : Prop :=
  match f with
  | .c (.f g' caps) => bif Nat.beq g' g && Nat.ble (1 + caps.length) fn.ntmps then
      match s with
      | ⟨e, H, nx⟩ => ∀ (fo d l : Nat) (T0 : Array Value) (ρ : Asg), T0.size = cx.nt → (∀ i, (e.get i).rel ρ (T0.getD i undef)) → (ρ (nx + 1)).blk = l → itEK cx B fn c Q ⟨e, H, nx⟩ caps (recO fo T0 ps asg body d) (doneO fo T0 ps asg body d) l ρ
    else False
  | _ => False

theorem rangeE_step {cx : Cx} {B : Tabs} (hB : TabsOK cx.P B) {f : Operand} {ps : Array Tmp} {asg body : Code} {Q : Exit → St → Prop} {s : St} {g : FuncId} {fn : Func} {c : Code}
    (hrd : cx.rd = none) (hf : cx.P.funcs[g]? = some fn) (hb : fn.body = some c) (henter : ∀ args w, (callFunc g args).run cx.P w = .ok (.enter g args) w) (hres : fn.results = #[])
    (h : rangeEK cx B g fn c ps asg body Q s (ev s.e f)) : Sound cx (.rangeFunc f ps asg body) Q s := by
  refine ⟨fun ρ a w hs QQ hQ => ?_⟩
  unfold rangeEK at h
  split at h
  · rename_i g' caps he
    obtain ⟨hck, hgo⟩ := bif_and h
    clear h
    simp only [Bool.and_eq_true] at hck
    have hg := Nat.eq_of_beq_eq_true hck.1
    have hle := Nat.le_of_ble_eq_true hck.2
    subst hg
    have hfv : (ev s.e f).rel ρ (a.eval f) := ev_rel fun t _ => hs.env t
    rw [he] at hfv
    simp only [SV.rel, SC.rel] at hfv
    have hcb : ∀ k ∈ caps, k < s.nx := by
      have := ev_below (e := s.e) (x := f) (n := s.nx) (fun t _ => hs.bnd.env t)
      rw [he, SV.below_c] at this
      exact this
    have hw : fen cx.rd = Fence.wide := by rw [hrd]; rfl
    rw [hw]
    refine wpIn_rangeFunc fun fo _ => ?_
    -- the two blocks
    have h1 := hs.newObj (Φ := fun x => x = .deferred (some [])) (.deferred (some [])) rfl
    have h2 := h1.newObj (Φ := fun x => x = .loop { state := .ready, pending := none, fn := fo, tmps := a.tmps, params := ps, assign := asg, body := body, defers := w.heap.size }) (.loop { state := .ready, pending := none, fn := fo, tmps := a.tmps, params := ps, assign := asg, body := body, defers := w.heap.size }) rfl
    simp only at h2
    obtain ⟨ρ2, hρ2⟩ : ∃ ρ2, ρ2 = upd (upd ρ s.nx ⟨w.heap.size, 0, 0⟩) (s.nx + 1) ⟨(push w (.deferred (some []))).heap.size, 0, 0⟩ := ⟨_, rfl⟩
    rw [← hρ2] at h2
    have hold : ∀ k, k < s.nx → ρ2 k = ρ k := fun k hk => by rw [hρ2, upd_ne (by omega), upd_ne (by omega)]
    have hkd : ρ2 s.nx = ⟨w.heap.size, 0, 0⟩ := by rw [hρ2, upd_ne (by omega), upd_eq]
    have hkl : (ρ2 (s.nx + 1)).blk = w.heap.size + 1 := by rw [hρ2, upd_eq, push_size]
    obtain ⟨W2, hW2⟩ : ∃ W2, W2 = (w.alloc (.deferred (some []))).alloc (.loop { state := .ready, pending := none, fn := fo, tmps := a.tmps, params := ps, assign := asg, body := body, defers := w.heap.size }) := ⟨_, rfl⟩
    refine ⟨w.heap.size + 1, [{ target := .collected w.heap.size, args := #[] }], W2, { target := .fn (.func g') (caps.map fun k => Value.pointer (some (adr ρ k 0))).toArray, args := #[.func (.yield (w.heap.size + 1)) #[] #[]] }, W2, g',
      #[.func (.yield (w.heap.size + 1)) #[] #[]] ++ (caps.map fun k => Value.pointer (some (adr ρ k 0))).toArray, W2, by rw [hW2]; exact run_enterLoop_outer fo a.tmps ps asg body, ?_, fun _ _ => trivial, ?_, fun h => by simp [Fence.wide] at h, ?_⟩
    · simp only [resolve, rangeCall, hfv, Deferred.ofValue, Sem.run_bind, Sem.run_pure, Result.andThen_ok]
      simp [Act.eval]
    · simp only [invoke]
      rw [henter]
    · have hW3 : W2 = push (push w (.deferred (some []))) (.loop { state := .ready, pending := none, fn := fo, tmps := a.tmps, params := ps, assign := asg, body := body, defers := w.heap.size }) := hW2
      rw [hW3]
      obtain ⟨e0, H0, nx0⟩ := s
      simp only at h2 hold hkd hkl hcb hgo
      have hit := hgo fo w.heap.size (w.heap.size + 1) a.tmps ρ2 hs.size (fun i => SV.rel_agree (fun k hk => hold k (hs.bnd.env i k hk)) (hs.env i)) hkl
      simp only [itEK] at hit
      generalize hcI : (⟨cx.P, cx.w0, cx.M, fn.ntmps, none, ρ2, nx0 + 2, none, #[]⟩ : Cx) = cI at hit
      have eP : cI.P = cx.P := by rw [← hcI]
      have hsI : Sat cI ρ2 ⟨envOf 0 (.c (.v (.func (.yield (w.heap.size + 1)) #[] #[])) :: capPs caps), (nx0 + 1, true, recO fo a.tmps ps asg body w.heap.size) :: (nx0, true, dfrO) :: H0, nx0 + 2⟩
          { tmps := (#[Value.func (.yield (w.heap.size + 1)) #[] #[]] ++ (caps.map fun k => Value.pointer (some (adr ρ k 0))).toArray) ++ Array.replicate (fn.ntmps - (#[Value.func (.yield (w.heap.size + 1)) #[] #[]] ++ (caps.map fun k => Value.pointer (some (adr ρ k 0))).toArray).size) undef, defers := [] }
          (push (push w (.deferred (some []))) (.loop { state := .ready, pending := none, fn := fo, tmps := a.tmps, params := ps, assign := asg, body := body, defers := w.heap.size })) := by
        rw [← hcI]
        have hrel : relVs ρ2 (.c (.v (.func (.yield (w.heap.size + 1)) #[] #[])) :: capPs caps) (#[Value.func (.yield (w.heap.size + 1)) #[] #[]] ++ (caps.map fun k => Value.pointer (some (adr ρ k 0))).toArray).toList := by
          have hc2 : (caps.map fun k => Value.pointer (some (adr ρ k 0))) = caps.map fun k => Value.pointer (some (adr ρ2 k 0)) := by
            apply List.map_congr_left
            intro k hk
            simp only [adr, hold k (hcb k hk)]
          rw [hc2]
          simp only [Array.toList_append, List.singleton_append]
          exact ⟨rfl, capPs_rel⟩
        refine ⟨?_, by simp only [envOf_marks, List.map_nil], ?_, h2.heap, ⟨?_, by simp only [envOf_marks]; simp, ?_⟩, fun _ _ => rfl, (fun _ h => by cases h), Nat.le_refl _⟩
        · simp only [Array.size_append, Array.size_replicate, List.size_toArray, List.length_cons, List.length_nil, List.length_map]; omega
        · intro i
          simp only [envOf_get, Nat.zero_le, if_true, Nat.sub_zero]
          cases hai : (SV.c (.v (.func (.yield (w.heap.size + 1)) #[] #[])) :: capPs caps)[i]? with
          | none => trivial
          | some sv =>
            obtain ⟨v, hv', hr⟩ := relVs_get hrel hai
            have hlt : i < (#[Value.func (.yield (w.heap.size + 1)) #[] #[]] ++ (caps.map fun k => Value.pointer (some (adr ρ k 0))).toArray).size := by
              have := (List.getElem?_eq_some_iff.1 hv').1; simpa using this
            have : ((#[Value.func (.yield (w.heap.size + 1)) #[] #[]] ++ (caps.map fun k => Value.pointer (some (adr ρ k 0))).toArray) ++ Array.replicate (fn.ntmps - (#[Value.func (.yield (w.heap.size + 1)) #[] #[]] ++ (caps.map fun k => Value.pointer (some (adr ρ k 0))).toArray).size) undef).getD i undef = v := by
              rw [Array.getD_eq_getD_getElem?, Array.getElem?_append_left hlt]
              have h2 : (#[Value.func (.yield (w.heap.size + 1)) #[] #[]] ++ (caps.map fun k => Value.pointer (some (adr ρ k 0))).toArray)[i]? = some v := by rw [← Array.getElem?_toList]; exact hv'
              rw [h2]; rfl
            simp only [Option.getD_some]
            rw [this]; exact hr
        · intro i k hk
          simp only [envOf_get, Nat.zero_le, if_true, Nat.sub_zero] at hk
          cases hai : (SV.c (.v (.func (.yield (w.heap.size + 1)) #[] #[])) :: capPs caps)[i]? with
          | none => rw [hai] at hk; simp [SV.uses, SC.uses, SC.nms, anyMem] at hk
          | some sv =>
            rw [hai] at hk
            simp only [Option.getD_some] at hk
            have hm := List.mem_of_getElem? hai
            rcases List.mem_cons.1 hm with rfl | hm
            · simp [SV.uses, SC.uses, SC.nms, anyMem] at hk
            · have : ∀ l : List Nat, sv ∈ capPs l → ∃ j ∈ l, sv = .c (.p j 0 0 0) := by
                intro l; induction l with
                | nil => intro h; cases h
                | cons j l ih =>
                  intro h
                  rcases List.mem_cons.1 h with rfl | h
                  · exact ⟨j, by simp, rfl⟩
                  · obtain ⟨j', h1, h2⟩ := ih h; exact ⟨j', by simp [h1], h2⟩
              obtain ⟨j, hj, rfl⟩ := this caps hm
              have hkj := SV.uses_nms.1 hk
              simp [SV.nms, SC.nms] at hkj
              have := hcb j hj
              show k < nx0 + 2
              omega
        · exact h2.bnd.heap
      rw [← eP]
      rw [← eP] at hf
      refine callsIn_of_wp (F := Fence.wide) hf hb trivial ?_ rfl
      have hwI : fen cI.rd = Fence.wide := by rw [← hcI]; rfl
      rw [← hwI]
      have hBI : TabsOK cI.P B := by rw [eP]; exact hB
      refine (vc_sound hBI c _ _ hit).h ρ2 _ _ hsI _ ?_
      intro ex s' ρ' a' w' hq hs'
      obtain ⟨e1, H1, nx1⟩ := s'
      have fin : itEK.itEndE e0 H1 nx1 e1 nx0 (recO fo a.tmps ps asg body w.heap.size) (doneO fo a.tmps ps asg body w.heap.size) Q → a'.defers = [] ∧ ∃ v, (results fn a'.tmps).run cI.P w' = .ok v w' ∧
          rangePost (fen cI.rd) 0 cI.P (w.heap.size + 1) QQ { a with defers := [{ target := .collected w.heap.size, args := #[] }] ++ a.defers } (.returned v) w' := by
        intro hq
        simp only [itEK.itEndE] at hq
        obtain ⟨hmk, hq⟩ := bif_and hq
        have hmk := eqNs_eq hmk
        split at hq
        · rename_i o hlk
          rcases hq with ⟨rfl, hq⟩ | ⟨rfl, hq⟩
          · have hb1 : ∀ k, k < nx0 + 2 → ρ' k = ρ2 k := fun k hk => by have := hs'.base k (by rw [← hcI]; exact hk); rw [this, ← hcI]
            obtain ⟨y, hy, hyy⟩ := (hs'.heap.reg (nx0 + 1) true _ hlk).keys _ rfl
            have hy : w'.heap[w.heap.size + 1]? = some (.loop { state := .ready, pending := none, fn := fo, tmps := a.tmps, params := ps, assign := asg, body := body, defers := w.heap.size }) := by
              rw [← hkl, ← hb1 (nx0 + 1) (by omega), hy]; exact congrArg some hyy
            have hlt1 := (hs'.bnd.heap _ _ _ hlk).1
            have hdrop := hs'.dropObj hlk hlt1 (.loop { state := .exhausted, pending := none, fn := fo, tmps := a.tmps, params := ps, assign := asg, body := body, defers := w.heap.size })
            rw [hb1 (nx0 + 1) (by omega), hkl] at hdrop
            have hnx : nx0 + 2 ≤ nx1 := by have := hs'.n0; rw [← hcI] at this; exact this
            have hold' : ∀ k, k < nx0 → ρ' k = ρ k := fun k hk => (hb1 k (by omega)).trans (hold k hk)
            refine ⟨by have := hs'.defers; rw [this]; simp only [hmk, List.map_nil], ?_⟩
            refine ⟨.tuple #[], ?_, none, _, run_endLoop hy (by simp), ?_⟩
            · simp [results, hres]
            · refine hQ _ _ ρ' _ _ hq ?_
              exact { size := hs.size
                      defers := by
                        simp only [Env.marks, List.map_cons, List.singleton_append]
                        have e2 : mkD ρ' nx0 = { target := .collected w.heap.size, args := #[] } := by simp only [mkD, hb1 nx0 (by omega), hkd]
                        rw [e2, hs.defers]
                        congr 1
                        exact (marks_agree fun k hk => hold' k (hs.bnd.mks k hk)).symm
                      env := fun i => SV.rel_agree (fun k hk => hold' k (hs.bnd.env i k hk)) (hs.env i)
                      heap := by have := hdrop.heap; rw [← hcI] at this; exact this
                      bnd := ⟨fun i k hk => by have := hs.bnd.env i k hk; simp only at this ⊢; omega, fun k hk => by
                        simp only [Env.marks] at hk
                        rcases List.mem_cons.1 hk with rfl | hk
                        · show k < nx1; omega
                        · have := hs.bnd.mks k hk; simp only at this ⊢; omega, hdrop.bnd.heap⟩
                      base := fun k hk => by rw [hold' k (by have := hs.n0; simp only at this; omega)]; exact hs.base k hk
                      keep := hs.keep
                      n0 := by have := hs.n0; simp only at this ⊢; omega }
          · have hb1 : ∀ k, k < nx0 + 2 → ρ' k = ρ2 k := fun k hk => by have := hs'.base k (by rw [← hcI]; exact hk); rw [this, ← hcI]
            obtain ⟨y, hy, hyy⟩ := (hs'.heap.reg (nx0 + 1) true _ hlk).keys _ rfl
            have hy : w'.heap[w.heap.size + 1]? = some (.loop { state := .done, pending := some .ret, fn := fo, tmps := a.tmps, params := ps, assign := asg, body := body, defers := w.heap.size }) := by
              rw [← hkl, ← hb1 (nx0 + 1) (by omega), hy]; exact congrArg some hyy
            have hlt1 := (hs'.bnd.heap _ _ _ hlk).1
            have hdrop := hs'.dropObj hlk hlt1 (.loop { state := .exhausted, pending := some .ret, fn := fo, tmps := a.tmps, params := ps, assign := asg, body := body, defers := w.heap.size })
            rw [hb1 (nx0 + 1) (by omega), hkl] at hdrop
            have hnx : nx0 + 2 ≤ nx1 := by have := hs'.n0; rw [← hcI] at this; exact this
            have hold' : ∀ k, k < nx0 → ρ' k = ρ k := fun k hk => (hb1 k (by omega)).trans (hold k hk)
            refine ⟨by have := hs'.defers; rw [this]; simp only [hmk, List.map_nil], ?_⟩
            refine ⟨.tuple #[], ?_, some .ret, _, run_endLoop hy (by simp), ?_⟩
            · simp [results, hres]
            · refine wpIn_ret (hQ _ _ ρ' _ _ hq ?_)
              exact { size := hs.size
                      defers := by
                        simp only [Env.marks, List.map_cons, List.singleton_append]
                        have e2 : mkD ρ' nx0 = { target := .collected w.heap.size, args := #[] } := by simp only [mkD, hb1 nx0 (by omega), hkd]
                        rw [e2, hs.defers]
                        congr 1
                        exact (marks_agree fun k hk => hold' k (hs.bnd.mks k hk)).symm
                      env := fun i => SV.rel_agree (fun k hk => hold' k (hs.bnd.env i k hk)) (hs.env i)
                      heap := by have := hdrop.heap; rw [← hcI] at this; exact this
                      bnd := ⟨fun i k hk => by have := hs.bnd.env i k hk; simp only at this ⊢; omega, fun k hk => by
                        simp only [Env.marks] at hk
                        rcases List.mem_cons.1 hk with rfl | hk
                        · show k < nx1; omega
                        · have := hs.bnd.mks k hk; simp only at this ⊢; omega, hdrop.bnd.heap⟩
                      base := fun k hk => by rw [hold' k (by have := hs.n0; simp only at this; omega)]; exact hs.base k hk
                      keep := hs.keep
                      n0 := by have := hs.n0; simp only at this ⊢; omega }
        · exact hq.elim
      cases ex with
      | normal => exact fin hq
      | ret => exact fin hq
      | _ => exact hq.elim
  · exact h.elim

end Sx
end Go

namespace Go.Proofs
open Go.Sx

/-! ### The first link that does not hold -/

def brokenF (bs : List (Int × Int)) (ls : List Lnk) (pt : List Int) : Lnk × Bool :=
  if pt.length = bs.length then (match (allF bs ls).find? (fun l => !holdsF pt l) with
    | some l => (l, true)
    | none => (⟨0, 0, 0, 0⟩, false)) else (⟨0, 0, 0, 0⟩, true)

theorem find_fst {α : Type} {p : α → Bool} {A B : List α} {y : α} (hA : ∀ x ∈ A, p x = false) (hy : p y = true) : (A ++ y :: B).find? p = some y := by
  rw [List.find?_append, List.find?_eq_none.2 (fun x hx => by rw [hA x hx]; simp), List.find?_cons_of_pos hy]
  rfl

theorem broken_at {bs : List (Int × Int)} {ls : List Lnk} {pt : List Int} {A B : List Lnk} {y : Lnk} (hl : pt.length = bs.length) (he : allF bs ls = A ++ y :: B) (hA : ∀ x ∈ A, holdsF pt x = true) (hy : holdsF pt y = false) : brokenF bs ls pt = (y, true) := by
  have h := find_fst (p := fun l => !holdsF pt l) (A := A) (B := B) (y := y) (fun x hx => by rw [hA x hx]; rfl) (by rw [hy]; rfl)
  rw [brokenF, if_pos hl, he, h]

theorem broken_none {bs : List (Int × Int)} {ls : List Lnk} {pt : List Int} (hl : pt.length = bs.length) (hA : ∀ x ∈ allF bs ls, holdsF pt x = true) : brokenF bs ls pt = (⟨0, 0, 0, 0⟩, false) := by
  have h : (allF bs ls).find? (fun l => !holdsF pt l) = none := List.find?_eq_none.2 (fun x hx => by rw [hA x hx]; simp)
  rw [brokenF, if_pos hl, h]

theorem allF_split {bs : List (Int × Int)} (ls : List Lnk) {i : Nat} (h : i < bs.length) : ∃ R, allF bs ls = boxLinks 0 (bs.take i) ++ ⟨-1, i, bs[i].2, 0⟩ :: ⟨i, -1, -bs[i].1, 0⟩ :: R := by
  refine ⟨boxLinks (i + 1) (bs.drop (i + 1)) ++ ls, ?_⟩
  have e : bs = bs.take (i + 1) ++ bs.drop (i + 1) := (List.take_append_drop _ _).symm
  have e2 : boxLinks 0 bs = boxLinks 0 (bs.take (i + 1)) ++ boxLinks (i + 1) (bs.drop (i + 1)) := by
    conv => lhs; rw [e, boxLinks_append]
    congr 2
    simp; omega
  rw [allF, e2, boxLinks_take h]
  simp

theorem brokenGo (l : Lnk) (pt : List Int) (hl : ArcOK pt.length l) (hp : ∀ x ∈ pt, -9223372036854775808 ≤ x ∧ x ≤ 9223372036854775807) (hh : holdsF pt l = true) : RoundT Try.prog Try.f126.ntmps [(3, .c (.p 1 0 0 0))] #[16]
    (rfA Try.f126) (rfB Try.f126) [svL l]
    [(1, false, .cells [.s 2 0 pt.length 1]), (2, false, .arr (aInt pt))] 3 [] := by
  have ht := holds_t l pt hl hp
  rw [hh] at ht
  refine round_of tB_ok rfl ?_
  intro Φ Φ' ρ w
  conv => whnf
  refine ⟨rfl, ?_⟩
  conv => whnf
  refine call_step ht rfl rfl ?_
  conv => whnf
  refine ⟨(by repeat' (first | exact trivial | exact rfl | refine And.intro ?_ ?_ | ((conv => whnf); first | exact trivial | exact rfl | refine And.intro ?_ ?_ | omega))), (by repeat' (first | exact trivial | exact rfl | refine And.intro ?_ ?_ | ((conv => whnf); first | exact trivial | exact rfl | refine And.intro ?_ ?_ | omega))), ?_⟩
  conv => whnf
  refine ⟨fun hc => absurd hc (by simp), fun hc => ?_⟩
  conv => whnf
  refine ⟨rfl, ?_⟩
  conv => whnf
  repeat' (first | exact trivial | exact rfl | refine And.intro ?_ ?_ | ((conv => whnf); first | exact trivial | exact rfl | refine And.intro ?_ ?_ | omega))

theorem brokenEnd (l : Lnk) (pt : List Int) (hl : ArcOK pt.length l) (hp : ∀ x ∈ pt, -9223372036854775808 ≤ x ∧ x ≤ 9223372036854775807) (hh : holdsF pt l = false) : RoundE Try.prog Try.f126.ntmps [(3, .c (.p 1 0 0 0)), (4, .c (.p 3 0 0 0)), (5, .c (.p 4 0 0 0))] #[16]
    (rfA Try.f126) (rfB Try.f126) [svL l]
    [(1, false, .cells [.s 2 0 pt.length 1]), (2, false, .arr (aInt pt)), (3, true, .cells [.junk, .junk, .junk, .junk]), (4, true, .cells [.junk])] 5
    [(3, true, .cells [.v (.int .i64 l.f), .v (.int .i64 l.t), .v (.int .i64 l.m), .v (.int .i64 l.i)]), (4, true, .cells [.b true])] := by
  have ht := holds_t l pt hl hp
  rw [hh] at ht
  refine roundE_of tB_ok rfl ?_
  intro Φ Φ' Φd ρ w
  conv => whnf
  refine ⟨rfl, ?_⟩
  conv => whnf
  refine call_step ht rfl rfl ?_
  conv => whnf
  refine ⟨(by repeat' (first | exact trivial | exact rfl | refine And.intro ?_ ?_ | ((conv => whnf); first | exact trivial | exact rfl | refine And.intro ?_ ?_ | omega))), (by repeat' (first | exact trivial | exact rfl | refine And.intro ?_ ?_ | ((conv => whnf); first | exact trivial | exact rfl | refine And.intro ?_ ?_ | omega))), ?_⟩
  conv => whnf
  refine ⟨fun hc => ?_, fun hc => absurd hc (by simp)⟩
  conv => whnf
  refine ⟨rfl, ?_⟩
  conv => whnf
  repeat' (first | exact trivial | exact rfl | refine And.intro ?_ ?_ | ((conv => whnf); first | exact trivial | exact rfl | refine And.intro ?_ ?_ | omega))

theorem broken_t (bs : List (Int × Int)) (ls : List Lnk) (pt : List Int) (hs : SysOK bs ls) (hp : ∀ x ∈ pt, -9223372036854775808 ≤ x ∧ x ≤ 9223372036854775807) (r : Lnk) (t : Bool) (hR : brokenF bs ls pt = (r, t)) :
    Triple Try.prog 126 [sysA bs.length ls.length, .c (.s 2 0 pt.length 1)] ((2, false, .arr (aInt pt)) :: sysH bs ls) 3
      (.tup [.inr [.v (.int .i64 r.f), .v (.int .i64 r.t), .v (.int .i64 r.m), .v (.int .i64 r.i)], .inl (.v (.bool t))]) [] := by
  have hnb := hs.nb
  have hnl := hs.nl
  refine triple_of tB_ok Try.func126 rfl Try.call126 rfl ?_
  intro ρ w hH
  conv => whnf
  refine ⟨fun hc => ?_, fun hc => ?_⟩
  · have hne : pt.length ≠ bs.length := fun he => by
      have : ((pt.length : Int) != bs.length) = true := hc
      rw [he] at this; simp at this
    rw [brokenF, if_neg hne] at hR
    obtain ⟨rfl, rfl⟩ := Prod.mk.inj hR
    conv => whnf
    repeat' (first | exact trivial | exact rfl | refine And.intro ?_ ?_ | ((conv => whnf); first | exact trivial | exact rfl | refine And.intro ?_ ?_ | omega))
  have hl : pt.length = bs.length := by
    have : ((pt.length : Int) != bs.length) = false := hc
    simp at this; omega
  have hok : ∀ l ∈ allF bs ls, ArcOK pt.length l := by rw [hl]; exact allF_ok hs
  have hB : BoxB bs := hs.boxB
  conv => whnf
  refine call_step (all_t bs ls) rfl rfl ?_
  conv => whnf
  refine ⟨(by repeat' (first | exact trivial | exact rfl | refine And.intro ?_ ?_ | ((conv => whnf); first | exact trivial | exact rfl | refine And.intro ?_ ?_ | omega))), (by repeat' (first | exact trivial | exact rfl | refine And.intro ?_ ?_ | ((conv => whnf); first | exact trivial | exact rfl | refine And.intro ?_ ?_ | omega))), ?_⟩
  conv => whnf
  refine rangeE_step (asg := rfA Try.f126) (body := rfB Try.f126) tB_ok rfl Try.func138 rfl Try.call138 rfl ?_
  conv => whnf
  intro fo d l T0 ρ1 hT hE hl1
  have hA : ∀ i sv, (i, sv) ∈ [(3, SV.c (.p 4 0 0 0)), (4, SV.c (.p 5 0 0 0)), (5, SV.c (.p 6 0 0 0))] → sv.rel ρ1 (T0.getD i undef) := by
    intro i sv hm
    rcases List.mem_cons.1 hm with he | hm
    · cases he; exact hE 3
    rcases List.mem_cons.1 hm with he | hm
    · cases he; exact hE 4
    rcases List.mem_cons.1 hm with he | hm
    · cases he; exact hE 5
    · cases hm
  have hA3 : ∀ i sv, (i, sv) ∈ [(3, SV.c (.p 4 0 0 0))] → sv.rel ρ1 (T0.getD i undef) := by
    intro i sv hm
    rcases List.mem_cons.1 hm with he | hm
    · cases he; exact hE 3
    · cases hm
  clear hE
  conv => whnf
  refine loop_step tB_ok (G := Nat) 0 [] (fun i => [(10, iv .i64 i)]) (fun i => [(9, true, recO fo T0 #[16] (rfA Try.f126) (rfB Try.f126) d)])
    (fun i => i ≤ bs.length ∧ ∀ x ∈ boxLinks 0 (bs.take i), holdsF pt x = true) (fun i => bs.length - i) ?_
  conv => whnf
  refine ⟨⟨0, ⟨Nat.zero_le _, fun x hx => by cases hx⟩, ?_⟩, ?_⟩
  · conv => whnf
    repeat' (first | exact trivial | exact rfl | refine And.intro ?_ ?_ | ((conv => whnf); first | exact trivial | exact rfl | refine And.intro ?_ ?_ | omega))
  intro i hi ρ2 t2 hρ2
  obtain ⟨hi, hI⟩ := hi
  have hρ2 : ∀ k, k < 10 → ρ2 k = ρ1 k := hρ2
  conv => whnf
  refine ⟨fun hc => ?_, fun hc => ?_⟩
  · conv => whnf
    have h : i < bs.length := by simpa using hc
    obtain ⟨R, hR1⟩ := allF_split ls h
    have hok1 := hok ⟨-1, i, bs[i].2, 0⟩ (by rw [hR1]; simp)
    have hok2 := hok ⟨i, -1, -bs[i].1, 0⟩ (by rw [hR1]; simp)
    refine ⟨i, rfl, h, h, ?_⟩
    conv => whnf
    cases hh1 : holdsF pt ⟨-1, i, bs[i].2, 0⟩ with
    | false =>
      rw [broken_at hl hR1 hI hh1] at hR
      obtain ⟨rfl, rfl⟩ := Prod.mk.inj hR
      refine yieldE_step (fn := fo) (d := d) [(3, .c (.p 4 0 0 0)), (4, .c (.p 5 0 0 0)), (5, .c (.p 6 0 0 0))] 9 (brokenEnd ⟨-1, i, bs[i].2, 0⟩ pt hok1 hp hh1) hT (relSt_agree hA rfl hρ2) ((congrArg Rg.blk (hρ2 9 (by omega))).trans hl1) rfl rfl rfl rfl ?_
      conv => whnf
      refine ⟨(by repeat' (first | exact trivial | exact rfl | refine And.intro ?_ ?_ | ((conv => whnf); first | exact trivial | exact rfl | refine And.intro ?_ ?_ | omega))), (by repeat' (first | exact trivial | exact rfl | refine And.intro ?_ ?_ | ((conv => whnf); first | exact trivial | exact rfl | refine And.intro ?_ ?_ | omega))), ?_⟩
      conv => whnf
      refine Or.inr ⟨rfl, ?_⟩
      conv => whnf
      refine ⟨fun _ h => h, ?_⟩
      conv => whnf
      repeat' (first | exact trivial | exact rfl | refine And.intro ?_ ?_ | ((conv => whnf); first | exact trivial | exact rfl | refine And.intro ?_ ?_ | omega))
    | true =>
      refine yield_step (fn := fo) (d := d) [(3, .c (.p 4 0 0 0))] 9 (brokenGo ⟨-1, i, bs[i].2, 0⟩ pt hok1 hp hh1) hT (relSt_agree hA3 rfl hρ2) ((congrArg Rg.blk (hρ2 9 (by omega))).trans hl1) rfl rfl rfl rfl ?_
      conv => whnf
      refine ⟨(by repeat' (first | exact trivial | exact rfl | refine And.intro ?_ ?_ | ((conv => whnf); first | exact trivial | exact rfl | refine And.intro ?_ ?_ | omega))), (by repeat' (first | exact trivial | exact rfl | refine And.intro ?_ ?_ | ((conv => whnf); first | exact trivial | exact rfl | refine And.intro ?_ ?_ | omega))), ?_⟩
      conv => whnf
      refine ⟨-bs[i].1, ?_, ?_⟩
      · have := (hB bs[i] (List.getElem_mem h)).1
        show IntKind.i64.wrap (0 - bs[i].1) = -bs[i].1
        rw [wrapId ⟨by omega, by omega⟩]; omega
      conv => whnf
      have hI2 : ∀ x ∈ boxLinks 0 (bs.take i) ++ [⟨-1, i, bs[i].2, 0⟩], holdsF pt x = true := fun x hx => by
        rcases List.mem_append.1 hx with hx | hx
        · exact hI x hx
        · simp at hx; rw [hx]; exact hh1
      cases hh2 : holdsF pt ⟨i, -1, -bs[i].1, 0⟩ with
      | false =>
        rw [broken_at (A := boxLinks 0 (bs.take i) ++ [⟨-1, i, bs[i].2, 0⟩]) (B := R) hl (by rw [hR1]; simp) hI2 hh2] at hR
        obtain ⟨rfl, rfl⟩ := Prod.mk.inj hR
        refine yieldE_step (fn := fo) (d := d) [(3, .c (.p 4 0 0 0)), (4, .c (.p 5 0 0 0)), (5, .c (.p 6 0 0 0))] 9 (brokenEnd ⟨i, -1, -bs[i].1, 0⟩ pt hok2 hp hh2) hT (relSt_agree hA rfl hρ2) ((congrArg Rg.blk (hρ2 9 (by omega))).trans hl1) rfl rfl rfl rfl ?_
        conv => whnf
        refine ⟨(by repeat' (first | exact trivial | exact rfl | refine And.intro ?_ ?_ | ((conv => whnf); first | exact trivial | exact rfl | refine And.intro ?_ ?_ | omega))), (by repeat' (first | exact trivial | exact rfl | refine And.intro ?_ ?_ | ((conv => whnf); first | exact trivial | exact rfl | refine And.intro ?_ ?_ | omega))), ?_⟩
        conv => whnf
        refine Or.inr ⟨rfl, ?_⟩
        conv => whnf
        refine ⟨fun _ h => h, ?_⟩
        conv => whnf
        repeat' (first | exact trivial | exact rfl | refine And.intro ?_ ?_ | ((conv => whnf); first | exact trivial | exact rfl | refine And.intro ?_ ?_ | omega))
      | true =>
        refine yield_step (fn := fo) (d := d) [(3, .c (.p 4 0 0 0))] 9 (brokenGo ⟨i, -1, -bs[i].1, 0⟩ pt hok2 hp hh2) hT (relSt_agree hA3 rfl hρ2) ((congrArg Rg.blk (hρ2 9 (by omega))).trans hl1) rfl rfl rfl rfl ?_
        conv => whnf
        refine ⟨(by repeat' (first | exact trivial | exact rfl | refine And.intro ?_ ?_ | ((conv => whnf); first | exact trivial | exact rfl | refine And.intro ?_ ?_ | omega))), (by repeat' (first | exact trivial | exact rfl | refine And.intro ?_ ?_ | ((conv => whnf); first | exact trivial | exact rfl | refine And.intro ?_ ?_ | omega))), ?_⟩
        conv => whnf
        refine ⟨_, wrapId ⟨by omega, by omega⟩, ?_⟩
        refine ⟨i + 1, ⟨h, fun x hx => ?_⟩, by show bs.length - (i + 1) < bs.length - i; omega, ?_⟩
        · rw [boxLinks_take h] at hx
          rcases List.mem_append.1 hx with hx | hx
          · exact hI2 x hx
          · simp at hx; rw [hx]; exact hh2
        conv => whnf
        refine ⟨rfl, ?_⟩
        conv => whnf
        repeat' (first | exact trivial | exact rfl | refine And.intro ?_ ?_ | ((conv => whnf); first | exact trivial | exact rfl | refine And.intro ?_ ?_ | omega))
  have hie : i = bs.length := by simp at hc; omega
  rw [hie, List.take_length] at hI
  conv => whnf
  refine loop_step tB_ok (G := Nat) 0 [] (fun i => [(36, iv .i64 i)]) (fun i => [(9, true, recO fo T0 #[16] (rfA Try.f126) (rfB Try.f126) d)])
    (fun i => i ≤ ls.length ∧ ∀ x ∈ boxLinks 0 bs ++ ls.take i, holdsF pt x = true) (fun i => ls.length - i) ?_
  conv => whnf
  refine ⟨⟨0, ⟨Nat.zero_le _, by simpa using hI⟩, ?_⟩, ?_⟩
  · conv => whnf
    repeat' (first | exact trivial | exact rfl | refine And.intro ?_ ?_ | ((conv => whnf); first | exact trivial | exact rfl | refine And.intro ?_ ?_ | omega))
  intro j hj ρ3 t3 hρ3
  obtain ⟨hj, hJ⟩ := hj
  have hρ3 : ∀ k, k < 10 → ρ3 k = ρ1 k := hρ3
  conv => whnf
  refine ⟨fun hc => ?_, fun hc => ?_⟩
  · conv => whnf
    have h : j < ls.length := by simpa using hc
    have hR1 : allF bs ls = (boxLinks 0 bs ++ ls.take j) ++ ls[j] :: ls.drop (j + 1) := by
      rw [List.append_assoc, ← List.drop_eq_getElem_cons h, List.take_append_drop]; rfl
    have hok1 := hok ls[j] (by rw [hR1]; simp)
    refine ⟨j, rfl, h, h, ?_⟩
    conv => whnf
    cases hh1 : holdsF pt ls[j] with
    | false =>
      rw [broken_at hl hR1 hJ hh1] at hR
      obtain ⟨rfl, rfl⟩ := Prod.mk.inj hR
      refine yieldE_step (fn := fo) (d := d) [(3, .c (.p 4 0 0 0)), (4, .c (.p 5 0 0 0)), (5, .c (.p 6 0 0 0))] 9 (brokenEnd ls[j] pt hok1 hp hh1) hT (relSt_agree hA rfl hρ3) ((congrArg Rg.blk (hρ3 9 (by omega))).trans hl1) rfl rfl rfl rfl ?_
      conv => whnf
      refine ⟨(by repeat' (first | exact trivial | exact rfl | refine And.intro ?_ ?_ | ((conv => whnf); first | exact trivial | exact rfl | refine And.intro ?_ ?_ | omega))), (by repeat' (first | exact trivial | exact rfl | refine And.intro ?_ ?_ | ((conv => whnf); first | exact trivial | exact rfl | refine And.intro ?_ ?_ | omega))), ?_⟩
      conv => whnf
      refine Or.inr ⟨rfl, ?_⟩
      conv => whnf
      refine ⟨fun _ h => h, ?_⟩
      conv => whnf
      repeat' (first | exact trivial | exact rfl | refine And.intro ?_ ?_ | ((conv => whnf); first | exact trivial | exact rfl | refine And.intro ?_ ?_ | omega))
    | true =>
      refine yield_step (fn := fo) (d := d) [(3, .c (.p 4 0 0 0))] 9 (brokenGo ls[j] pt hok1 hp hh1) hT (relSt_agree hA3 rfl hρ3) ((congrArg Rg.blk (hρ3 9 (by omega))).trans hl1) rfl rfl rfl rfl ?_
      conv => whnf
      refine ⟨(by repeat' (first | exact trivial | exact rfl | refine And.intro ?_ ?_ | ((conv => whnf); first | exact trivial | exact rfl | refine And.intro ?_ ?_ | omega))), (by repeat' (first | exact trivial | exact rfl | refine And.intro ?_ ?_ | ((conv => whnf); first | exact trivial | exact rfl | refine And.intro ?_ ?_ | omega))), ?_⟩
      conv => whnf
      refine ⟨_, wrapId ⟨by omega, by omega⟩, ?_⟩
      refine ⟨j + 1, ⟨h, fun x hx => ?_⟩, by show ls.length - (j + 1) < ls.length - j; omega, ?_⟩
      · rw [take_snoc h, ← List.append_assoc] at hx
        rcases List.mem_append.1 hx with hx | hx
        · exact hJ x hx
        · simp at hx; rw [hx]; exact hh1
      conv => whnf
      refine ⟨rfl, ?_⟩
      conv => whnf
      repeat' (first | exact trivial | exact rfl | refine And.intro ?_ ?_ | ((conv => whnf); first | exact trivial | exact rfl | refine And.intro ?_ ?_ | omega))
  have hje : j = ls.length := by simp at hc; omega
  rw [hje, List.take_length] at hJ
  rw [broken_none hl hJ] at hR
  obtain ⟨rfl, rfl⟩ := Prod.mk.inj hR
  conv => whnf
  refine Or.inl ⟨rfl, ?_⟩
  conv => whnf
  refine ⟨fun _ h => h, ?_⟩
  conv => whnf
  repeat' (first | exact trivial | exact rfl | refine And.intro ?_ ?_ | ((conv => whnf); first | exact trivial | exact rfl | refine And.intro ?_ ?_ | omega))

end Go.Proofs

namespace Go.Proofs
open Go.Sx

theorem gcd_tmod (a b : Int) : Int.gcd b (Int.tmod a b) = Int.gcd a b := by
  unfold Int.gcd
  rw [Int.natAbs_tmod, Nat.gcd_comm, ← Nat.gcd_rec, Nat.gcd_comm]

theorem common_t (a b : Int) (ha : -4611686018427387904 ≤ a ∧ a ≤ 4611686018427387904) (hb : -4611686018427387904 ≤ b ∧ b ≤ 4611686018427387904) : Triple Try.prog 117 [iv .i64 a, iv .i64 b] [] 0 (iv .i64 (Int.gcd a b)) [] := by
  refine triple_of tB_ok Try.func117 rfl Try.call117 rfl ?_
  intro ρ w hH
  conv => whnf
  refine loop_step tB_ok (G := Int × Int) 0 [] (fun g => [(0, iv .i64 g.1), (1, iv .i64 g.2)]) (fun _ => []) (fun g => (-4611686018427387904 ≤ g.1 ∧ g.1 ≤ 4611686018427387904) ∧ (-4611686018427387904 ≤ g.2 ∧ g.2 ≤ 4611686018427387904) ∧ Int.gcd g.1 g.2 = Int.gcd a b) (fun g => g.2.natAbs) ?_
  conv => whnf
  refine ⟨⟨(a, b), ⟨ha, hb, rfl⟩, ?_⟩, ?_⟩
  · conv => whnf
    repeat' (first | exact trivial | exact rfl | refine And.intro ?_ ?_ | ((conv => whnf); first | exact trivial | exact rfl | refine And.intro ?_ ?_ | omega))
  rintro ⟨x, y⟩ ⟨hx, hy, hg⟩ ρ1 t1 hρ1
  have hx : -4611686018427387904 ≤ x ∧ x ≤ 4611686018427387904 := hx
  have hy : -4611686018427387904 ≤ y ∧ y ≤ 4611686018427387904 := hy
  have hg : Int.gcd x y = Int.gcd a b := hg
  dsimp only
  conv => whnf
  refine ⟨fun hc => ?_, fun hc => ?_⟩
  · have hy0 : y ≠ 0 := by simpa using (show (y != 0) = true from hc)
    have hna : (Int.tmod x y).natAbs = x.natAbs % y.natAbs := Int.natAbs_tmod x y
    have hlt : (Int.tmod x y).natAbs < y.natAbs := by rw [hna]; exact Nat.mod_lt _ (by omega)
    have hnn : 0 ≤ x → 0 ≤ Int.tmod x y := fun h => Int.tmod_nonneg y h
    have hgg := gcd_tmod x y
    obtain ⟨r, hr⟩ : ∃ r, Int.tmod x y = r := ⟨_, rfl⟩
    rw [hr] at hlt hnn hgg
    conv => whnf
    refine ⟨hy0, r, hr, ?_⟩
    conv => whnf
    refine ⟨(y, r), ⟨hy, ⟨by omega, by omega⟩, by show Int.gcd y r = Int.gcd a b; rw [hgg, hg]⟩, hlt, ?_⟩
    conv => whnf
    refine ⟨rfl, ?_⟩
    conv => whnf
    repeat' (first | exact trivial | exact rfl | refine And.intro ?_ ?_ | ((conv => whnf); first | exact trivial | exact rfl | refine And.intro ?_ ?_ | omega))
  · have hy0 : y = 0 := by simpa using (show (y != 0) = false from hc)
    have hres : ((Int.gcd a b : Nat) : Int) = x.natAbs := by rw [← hg, hy0, Int.gcd_zero_right]
    rw [hres]
    conv => whnf
    refine ⟨-x, (congrArg IntKind.i64.wrap (show (0 : Int) - x = -x by omega)).trans (wrapId ⟨by omega, by omega⟩), ?_⟩
    conv => whnf
    refine ⟨?_, trivial⟩
    show max x (-x) = (x.natAbs : Int)
    omega

theorem refGcd_t (a b : Int) (ha : 0 ≤ a ∧ a ≤ 4611686018427387904) (hb : 0 ≤ b ∧ b ≤ 4611686018427387904) : Triple Try.prog 120 [iv .i64 a, iv .i64 b] [] 0 (iv .i64 (Int.gcd a b)) [] := by
  refine triple_of tB_ok Try.func120 rfl Try.call120 rfl ?_
  intro ρ w hH
  conv => whnf
  refine loop_step tB_ok (G := Int × Int) 0 [] (fun g => [(0, iv .i64 g.1), (1, iv .i64 g.2)]) (fun _ => []) (fun g => (0 ≤ g.1 ∧ g.1 ≤ 4611686018427387904) ∧ (0 ≤ g.2 ∧ g.2 ≤ 4611686018427387904) ∧ Int.gcd g.1 g.2 = Int.gcd a b) (fun g => g.2.natAbs) ?_
  conv => whnf
  refine ⟨⟨(a, b), ⟨ha, hb, rfl⟩, ?_⟩, ?_⟩
  · conv => whnf
    repeat' (first | exact trivial | exact rfl | refine And.intro ?_ ?_ | ((conv => whnf); first | exact trivial | exact rfl | refine And.intro ?_ ?_ | omega))
  rintro ⟨x, y⟩ ⟨hx, hy, hg⟩ ρ1 t1 hρ1
  have hx : 0 ≤ x ∧ x ≤ 4611686018427387904 := hx
  have hy : 0 ≤ y ∧ y ≤ 4611686018427387904 := hy
  have hg : Int.gcd x y = Int.gcd a b := hg
  dsimp only
  conv => whnf
  refine ⟨fun hc => ?_, fun hc => ?_⟩
  · have hy0 : y ≠ 0 := by simpa using (show (y != 0) = true from hc)
    have hna : (Int.tmod x y).natAbs = x.natAbs % y.natAbs := Int.natAbs_tmod x y
    have hlt : (Int.tmod x y).natAbs < y.natAbs := by rw [hna]; exact Nat.mod_lt _ (by omega)
    have hnn : 0 ≤ x → 0 ≤ Int.tmod x y := fun h => Int.tmod_nonneg y h
    have hgg := gcd_tmod x y
    obtain ⟨r, hr⟩ : ∃ r, Int.tmod x y = r := ⟨_, rfl⟩
    rw [hr] at hlt hnn hgg
    conv => whnf
    refine ⟨hy0, r, hr, ?_⟩
    conv => whnf
    refine ⟨(y, r), ⟨hy, ⟨by omega, by omega⟩, by show Int.gcd y r = Int.gcd a b; rw [hgg, hg]⟩, hlt, ?_⟩
    conv => whnf
    refine ⟨rfl, ?_⟩
    conv => whnf
    repeat' (first | exact trivial | exact rfl | refine And.intro ?_ ?_ | ((conv => whnf); first | exact trivial | exact rfl | refine And.intro ?_ ?_ | omega))
  · have hy0 : y = 0 := by simpa using (show (y != 0) = false from hc)
    have hres : ((Int.gcd a b : Nat) : Int) = x.natAbs := by rw [← hg, hy0, Int.gcd_zero_right]
    rw [hres]
    conv => whnf
    refine ⟨?_, trivial⟩
    show x = (x.natAbs : Int)
    omega

end Go.Proofs

