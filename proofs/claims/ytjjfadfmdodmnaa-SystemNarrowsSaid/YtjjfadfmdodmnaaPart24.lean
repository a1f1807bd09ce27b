/-
  A part of the proof that a law of dryweightlaw03 answers true: lemmas of a symbolic walk, plain functions, or contracts of the functions walked (Xp, Xr, Pm17, Xs, Sx32, Sx33, Xe). Conditions: none.
-/
import Derived.Test.YtjjfadfmdodmnaaPart23
import Derived.Test.YtjjfadfmdodmnaaPart21
import Derived.Test.YtjjfadfmdodmnaaPart22
import Derived.Test.YtjjfadfmdodmnaaPart20
import Derived.Test.YtjjfadfmdodmnaaPart07
import Derived.Test.YtjjfadfmdodmnaaPart19
import Derived.Lib.AppendZeros
import Derived.Test.YtjjfadfmdodmnaaPart18
set_option maxRecDepth 100000
set_option linter.unusedVariables false
set_option linter.unusedSimpArgs false
namespace Go.Proofs
open Go.Sx

def negL (form : List (Int × Int)) : List (Int × Int) := form.map fun t => (t.1, -t.2)

theorem negL_len (form : List (Int × Int)) : (negL form).length = form.length := by simp [negL]

theorem formF_neg {form : List (Int × Int)} {n : Int} (h : formF form n = 0) : formF (negL form) n = 0 := by
  obtain ⟨h1, h2, h3⟩ := formF_ok h
  refine formF_of (by rw [negL_len]; exact h1) (fun t ht => ?_) ?_
  · obtain ⟨x, hx, rfl⟩ := List.mem_map.1 ht
    have := h2 x hx
    exact ⟨this.1, by show -1024 ≤ -x.2; omega, by show -x.2 ≤ 1024; omega⟩
  · rw [negL, List.map_map]; exact h3

theorem valM_neg (pt : List Int) : ∀ form : List (Int × Int), valM (negL form) pt = -valM form pt
  | [] => rfl
  | t :: r => by
    show -t.2 * pt.getD t.1.toNat 0 + valM (negL r) pt = -(t.2 * pt.getD t.1.toNat 0 + valM r pt)
    rw [valM_neg pt r, Int.neg_mul]; omega

theorem coefF_neg : ∀ (form : List (Int × Int)) (out : List Int), coefF 1 (negL form) out = coefF (-1) form out
  | [], out => rfl
  | t :: r, out => by
    show coefF 1 (negL r) (out.set t.1.toNat (out.getD t.1.toNat 0 + 1 * -t.2)) = coefF (-1) r (out.set t.1.toNat (out.getD t.1.toNat 0 + -1 * t.2))
    rw [coefF_neg r, Int.one_mul, Int.neg_mul, Int.one_mul]

theorem negated_t (form : List (Int × Int)) (hfl : form.length ≤ 100000) (hf : ∀ t ∈ form, -1024 ≤ t.2 ∧ t.2 ≤ 1024) :
    Triple Try.prog 32 [.c (.s 0 0 form.length 2)] [(0, false, .arr (aSpan form))] 1 (.c (.s 1 0 (negL form).length 2)) [(1, true, .arr (aSpan (negL form)))] := by
  refine triple_of tB_ok Try.func32 rfl Try.call32 rfl ?_
  intro ρ w hH
  conv => whnf
  refine loop_step tB_ok (G := Nat × List (Int × Int)) 1 [] (fun g => [(4, iv .i64 g.1), (3, .c (.s 1 0 g.2.length 2))]) (fun g => [(1, true, .arr (aSpan g.2))]) (fun g => g.1 ≤ form.length ∧ g.2 = negL (form.take g.1)) (fun g => form.length - g.1) ?_
  conv => whnf
  refine ⟨⟨(0, []), ⟨Nat.zero_le _, rfl⟩, ?_⟩, ?_⟩
  · conv => whnf
    repeat' (first | exact trivial | exact rfl | refine And.intro ?_ ?_ | ((conv => whnf); first | exact trivial | exact rfl | refine And.intro ?_ ?_ | omega))
  rintro ⟨i, ys⟩ ⟨hi, hys⟩ ρ2 t2 hρ2
  have hi : i ≤ form.length := hi
  have hys : ys = negL (form.take i) := hys
  have hyl : ys.length = i := by rw [hys, negL_len]; simp; omega
  dsimp only
  conv => whnf
  refine ⟨fun hc => ?_, fun hc => ?_⟩
  · have hlt : i < form.length := by simpa using hc
    have hb := hf _ (List.getElem_mem hlt)
    have hst : ys ++ [(form[i].1, -form[i].2)] = negL (form.take (i + 1)) := by
      rw [hys, take_snoc hlt, negL, negL, List.map_append]; rfl
    conv => whnf
    refine ⟨i, rfl, hlt, hlt, ?_⟩
    conv => whnf
    refine ⟨i, rfl, hlt, hlt, ?_⟩
    conv => whnf
    refine ⟨-form[i].2, (congrArg IntKind.i64.wrap (show (0 : Int) - form[i].2 = -form[i].2 by omega)).trans (wrapId ⟨by omega, by omega⟩), ?_⟩
    conv => whnf
    refine bs_step tB_ok (aSpan [(form[i].1, -form[i].2)]) rfl rfl ?_
    conv => whnf
    refine ⟨(by repeat' (first | exact trivial | exact rfl | refine And.intro ?_ ?_ | ((conv => whnf); first | exact trivial | exact rfl | refine And.intro ?_ ?_ | omega))), ?_⟩
    conv => whnf
    refine app_step tB_ok (aSpan ys) [(form[i].1, -form[i].2)] (fun _ => rfl) rfl rfl rfl rfl ?_
    conv => whnf
    refine ⟨⟨rfl, rfl, Nat.le_refl _, Nat.le_refl _, by show (ys.length + 1) * 17 ≤ _; omega⟩, ?_⟩
    conv => whnf
    refine ⟨(i : Int) + 1, wrapId (z := (i : Int) + 1) ⟨by omega, by omega⟩, ?_⟩
    refine ⟨(i + 1, ys ++ [(form[i].1, -form[i].2)]), ⟨hlt, hst⟩, by show form.length - (i + 1) < form.length - i; omega, ?_⟩
    conv => whnf
    refine ⟨rfl, ?_⟩
    conv => whnf
    repeat' (first | exact trivial | exact rfl | refine And.intro ?_ ?_ | ((conv => whnf); first | exact trivial | exact rfl | refine And.intro ?_ ?_ | omega))
    all_goals first | exact (congrArg aSpan app1 : _) | simp
  have hie : i = form.length := by simp at hc; omega
  rw [hie, List.take_length] at hys
  subst hys
  conv => whnf
  repeat' (first | exact trivial | exact rfl | refine And.intro ?_ ?_ | ((conv => whnf); first | exact trivial | exact rfl | refine And.intro ?_ ?_ | omega))

/-- A system that does not contradict itself and is not too large. -/
structure NetW (bs : List (Int × Int)) (ls : List Lnk) : Prop where
  few : bs.length ≤ 14 ∧ ls.length ≤ 60
  sys : SysOK bs ls
  calm : Calm bs ls 0

theorem NetOK.w {bs : List (Int × Int)} {ls : List Lnk} (h : NetOK bs ls) : NetW bs ls := ⟨⟨h.few.1, by have := h.few; omega⟩, h.sys, h.calm⟩

theorem best_net {bs : List (Int × Int)} {ls : List Lnk} (h : NetW bs ls) {by' : List Int} {C : Int} (hbl : by'.length = bs.length) (hC : 0 ≤ C ∧ C ≤ 4294967296) (hbb : ∀ x ∈ by', -C ≤ x ∧ x ≤ C) :
    ∃ flow pt v, bestF bs.length (graphF bs ls 0) 68719476737 by' = some (v, usesF (allF bs ls) flow, pt) ∧ BestOK bs.length (allF bs ls) by' flow pt v (bs.length * C) ∧ bs.length * C ≤ 68719476736 := by
  have hf := h.few
  have hn : (bs.length : Int) * C ≤ 14 * 4294967296 := Int.mul_le_mul (by omega) hC.2 hC.1 (by omega)
  obtain ⟨q, hq⟩ := calm_pot h.sys h.calm
  have hok := allF_ok h.sys
  have hub := hub_graph bs ls 0
  have hq := hq 0
  rw [graphF_zero] at hub hq ⊢
  obtain ⟨flow, pt, v, h1, h2⟩ := best_gen (C := C) hok hub hq (fun v hv => box_arcs h.sys hv) hbl (by omega) hbb (by omega) (by omega)
  exact ⟨flow, pt, v, h1, h2, by omega⟩

theorem BestOK.bd {bs : List (Int × Int)} {ls : List Lnk} (h : NetW bs ls) {by' flow pt : List Int} {v S C : Int} (hb : BestOK bs.length (allF bs ls) by' flow pt v S) (hbl : by'.length = bs.length) (hC : 0 ≤ C ∧ C ≤ 4294967296) (hbb : ∀ x ∈ by', -C ≤ x ∧ x ≤ C) : -1152921504606846976 ≤ v ∧ v ≤ 1152921504606846976 := by
  have hpb := pot_bd h.sys hb.pl hb.pot
  have hf := h.few
  rw [← hb.val]
  have key : ∀ {x y : List Int}, (∀ z ∈ x, -C ≤ z ∧ z ≤ C) → (∀ z ∈ y, -16777216 ≤ z ∧ z ≤ 16777216) → -(x.length * (C * 16777216)) ≤ dotI x y ∧ dotI x y ≤ x.length * (C * 16777216) := by
    intro x
    induction x with
    | nil => intro y _ _; simp [dotI]
    | cons a x ih =>
      intro y hx hy
      have h0 : 0 ≤ C * 16777216 := by omega
      have hl : ((x.length + 1 : Nat) : Int) * (C * 16777216) = x.length * (C * 16777216) + C * 16777216 := by rw [Int.natCast_add, Int.add_mul]; simp
      have hl0 : 0 ≤ (x.length : Int) * (C * 16777216) := Int.mul_nonneg (by omega) h0
      rw [List.length_cons, hl]
      cases y with
      | nil => show -(_ + _) ≤ (0 : Int) ∧ (0 : Int) ≤ _; omega
      | cons b y =>
        have := ih (fun z hz => hx z (List.mem_cons_of_mem _ hz)) (fun z hz => hy z (List.mem_cons_of_mem _ hz))
        have hm := mul_bd (hx a (List.mem_cons_self ..)) (hy b (List.mem_cons_self ..))
        show _ ≤ a * b + dotI x y ∧ a * b + dotI x y ≤ _
        omega
  have := key hbb hpb
  have h2 : (by'.length : Int) * (C * 16777216) ≤ 14 * (4294967296 * 16777216) := Int.mul_le_mul (by omega) (by omega) (by omega) (by omega)
  omega

/-- The greatest and the least value of a form of a system that does not contradict itself. -/
theorem form_net {bs : List (Int × Int)} {ls : List Lnk} (h : NetW bs ls) {form : List (Int × Int)} (hf : formF form bs.length = 0) {p : Int} (hp : p = 1 ∨ p = -1) :
    (coefF p form (List.replicate bs.length 0)).length = bs.length ∧ (∀ x ∈ coefF p form (List.replicate bs.length 0), -1024 ≤ x ∧ x ≤ 1024) ∧
    ∃ flow pt v, bestF bs.length (graphF bs ls 0) 68719476737 (coefF p form (List.replicate bs.length 0)) = some (v, usesF (allF bs ls) flow, pt) ∧
      BestOK bs.length (allF bs ls) (coefF p form (List.replicate bs.length 0)) flow pt v (bs.length * 1024) ∧ (-1152921504606846976 ≤ v ∧ v ≤ 1152921504606846976) ∧
      showsF (allF bs ls) bs.length (coefF p form (List.replicate bs.length 0)) (usesF (allF bs ls) flow) v = true ∧ (allowsF bs ls pt).2 = true ∧ p * valM form pt = v ∧ (usesF (allF bs ls) flow).length ≤ 2000 ∧
      ∀ pt', (allowsF bs ls pt').2 = true → p * valM form pt' ≤ v := by
  obtain ⟨f1, f2, f3⟩ := formF_ok hf
  have hfew := h.few
  have hl : (coefF p form (List.replicate bs.length 0)).length = bs.length := by rw [coefF_len, List.length_replicate]
  have hb : ∀ x ∈ coefF p form (List.replicate bs.length 0), -1024 ≤ x ∧ x ≤ 1024 := by
    refine coefF_bd f3 (fun t ht => ⟨by rw [List.length_replicate]; exact (f2 t ht).1, ?_⟩) (fun t _ => replicate_getD _ _) (fun y hy => ?_)
    · have := (f2 t ht).2
      rcases hp with rfl | rfl <;> omega
    · obtain ⟨_, rfl⟩ := List.mem_replicate.1 hy; omega
  refine ⟨hl, hb, ?_⟩
  have hd : ∀ pt', dotI (coefF p form (List.replicate bs.length 0)) pt' = p * valM form pt' := fun pt' => by
    rw [coefF_dot p pt' (fun t ht => by rw [List.length_replicate]; exact (f2 t ht).1), dotI_zero]; omega
  generalize coefF p form (List.replicate bs.length 0) = cf at *
  obtain ⟨flow, pt, v, h1, h2, h3⟩ := best_net h (C := 1024) hl (by omega) hb
  have hal := allF_len bs ls
  have hus := usesF_len (allF bs ls) flow
  refine ⟨flow, pt, v, h1, h2, h2.bd h hl (by omega) hb, h2.shows (allF_ok h.sys) hl h3 (by omega), (allows_iff h.sys).2 ⟨h2.pl, h2.pot⟩, by rw [← hd, h2.val], by omega, fun pt' hpt' => ?_⟩
  obtain ⟨a1, a2⟩ := (allows_iff h.sys).1 hpt'
  rw [← hd]
  exact h2.most (allF_ok h.sys) hl a1 a2

theorem best_call {bs : List (Int × Int)} {ls : List Lnk} (h : NetW bs ls) {form : List (Int × Int)} (hf : formF form bs.length = 0) :
    ∃ v us pt, Triple Try.prog 28 [.c (.p 0 0 0 0), .c (.s 3 0 form.length 2)] ((3, false, .arr (aSpan form)) :: netH bs ls) 4
      (.tup [.inr [.v (.int .i64 v), .s 4 0 us.length 5, .s 5 0 pt.length 1], .inl (.v (.int .i64 0))]) [(4, true, .arr (aUse us)), (5, true, .arr (aInt pt))] ∧
      (-1152921504606846976 ≤ v ∧ v ≤ 1152921504606846976) ∧ us.length ≤ 2000 ∧ (allowsF bs ls pt).2 = true ∧ 1 * valM form pt = v ∧ ∀ pt', (allowsF bs ls pt').2 = true → 1 * valM form pt' ≤ v := by
  obtain ⟨f1, _, _⟩ := formF_ok hf
  obtain ⟨l1, b1, flow1, pt1, v1, hB1, hO1, hv1, hsh1, hal1, hval1, hul1, hm1⟩ := form_net h hf (p := 1) (.inl rfl)
  exact ⟨v1, _, pt1, Best_t bs ls form 68719476737 v1 (usesF (allF bs ls) flow1) pt1 _ h.sys (by omega) hf (formB_of hf (by omega)) rfl l1 (fun x hx => by have := b1 x hx; omega) hB1, hv1, hul1, hal1, hval1, hm1⟩

theorem least_call {bs : List (Int × Int)} {ls : List Lnk} (h : NetW bs ls) {form : List (Int × Int)} (hf : formF form bs.length = 0) :
    ∃ v us pt, Triple Try.prog 29 [.c (.p 0 0 0 0), .c (.s 3 0 form.length 2)] ((3, false, .arr (aSpan form)) :: netH bs ls) 4
      (.tup [.inr [.v (.int .i64 (-v)), .s 4 0 us.length 5, .s 5 0 pt.length 1], .inl (.v (.int .i64 0))]) [(4, true, .arr (aUse us)), (5, true, .arr (aInt pt))] ∧
      (-1152921504606846976 ≤ v ∧ v ≤ 1152921504606846976) ∧ us.length ≤ 2000 ∧ (allowsF bs ls pt).2 = true ∧ -1 * valM form pt = v ∧ ∀ pt', (allowsF bs ls pt').2 = true → -1 * valM form pt' ≤ v := by
  obtain ⟨f1, _, _⟩ := formF_ok hf
  obtain ⟨l1, b1, flow1, pt1, v1, hB1, hO1, hv1, hsh1, hal1, hval1, hul1, hm1⟩ := form_net h hf (p := -1) (.inr rfl)
  exact ⟨v1, _, pt1, Least_t bs ls form 68719476737 v1 (usesF (allF bs ls) flow1) pt1 _ h.sys (by omega) hf (formB_of hf (by omega)) rfl l1 (fun x hx => by have := b1 x hx; omega) hB1 (by omega), hv1, hul1, hal1, hval1, hm1⟩


end Go.Proofs

namespace Go.Proofs
open Go.Sx

theorem newErr_t (bs : List (Int × Int)) (ls : List Lnk) (hb : bs.length ≤ 1000000) (hl : ls.length ≤ 1000000) (hc : checkF bs ls ≠ 0) :
    Triple Try.prog 64 [sysA bs.length ls.length] (sysH bs ls) 2 (.tup [.inl (.v (.pointer none)), .inl (.v (.int .i64 (checkF bs ls)))]) [] := by
  have hce := conflictErr_t bs ls hb hl hc
  generalize checkF bs ls = c at *
  refine triple_of tB_ok Try.func64 rfl Try.call64 rfl ?_
  intro ρ w hH
  conv => whnf
  refine call_step hce rfl rfl ?_
  conv => whnf
  refine ⟨(by repeat' (first | exact trivial | exact rfl | refine And.intro ?_ ?_ | ((conv => whnf); first | exact trivial | exact rfl | refine And.intro ?_ ?_ | omega))), (by repeat' (first | exact trivial | exact rfl | refine And.intro ?_ ?_ | ((conv => whnf); first | exact trivial | exact rfl | refine And.intro ?_ ?_ | omega))), ?_⟩
  conv => whnf
  refine ⟨fun h2 => ?_, fun h2 => absurd (by simpa using (show (c != 0) = false from h2)) hc⟩
  conv => whnf
  repeat' (first | exact trivial | exact rfl | refine And.intro ?_ ?_ | ((conv => whnf); first | exact trivial | exact rfl | refine And.intro ?_ ?_ | omega))

theorem newClash_t (bs : List (Int × Int)) (ls : List Lnk) (hs : SysOK bs ls) (h : ¬ Calm bs ls 0) :
    Triple Try.prog 64 [sysA bs.length ls.length] (sysH bs ls) 2 (.tup [.inl (.v (.pointer none)), .inl (.v (.int .i64 9))]) [] := by
  obtain ⟨v, P, kk, M, hch, hv, hcy⟩ := cyc_of (graphF_ok hs 0) (Nat.le_refl _) h
  have hce := conflictYes_t bs ls v P kk M hs hch hcy
  refine triple_of tB_ok Try.func64 rfl Try.call64 rfl ?_
  intro ρ w hH
  conv => whnf
  refine call_step hce rfl rfl ?_
  conv => whnf
  refine ⟨(by repeat' (first | exact trivial | exact rfl | refine And.intro ?_ ?_ | ((conv => whnf); first | exact trivial | exact rfl | refine And.intro ?_ ?_ | omega))), (by repeat' (first | exact trivial | exact rfl | refine And.intro ?_ ?_ | ((conv => whnf); first | exact trivial | exact rfl | refine And.intro ?_ ?_ | omega))), ?_⟩
  conv => whnf
  refine ⟨fun hc => absurd hc (by simp), fun hc => ?_⟩
  conv => whnf
  repeat' (first | exact trivial | exact rfl | refine And.intro ?_ ?_ | ((conv => whnf); first | exact trivial | exact rfl | refine And.intro ?_ ?_ | omega))

theorem startYes_t (bs : List (Int × Int)) (ls : List Lnk) (h : NetOK bs ls) : Triple Try.prog 33 [sysA bs.length ls.length] (sysH bs ls) 2 (.tup [.inl (.p 2 0 0 0), .inl (.b true)])
      [(2, true, netC 3 4 bs.length ls.length), (3, true, .arr (aSpan bs)), (4, true, .arr (aLink ls))] := by
  refine triple_of tB_ok Try.func33 rfl Try.call33 rfl ?_
  intro ρ w hH
  conv => whnf
  have hf := h.few
  have hs := h.sys
  have hfe : fewF bs ls = true := by simp [fewF]; omega
  refine call_step (few_t bs ls) rfl rfl ?_
  conv => whnf
  refine ⟨(by repeat' (first | exact trivial | exact rfl | refine And.intro ?_ ?_ | ((conv => whnf); first | exact trivial | exact rfl | refine And.intro ?_ ?_ | omega))), (by repeat' (first | exact trivial | exact rfl | refine And.intro ?_ ?_ | ((conv => whnf); first | exact trivial | exact rfl | refine And.intro ?_ ?_ | omega))), ?_⟩
  conv => whnf
  rw [hfe]
  refine ⟨fun hc => absurd hc (by simp), fun hc => ?_⟩
  conv => whnf
  refine call_step (newNone_t bs ls hs h.calm) rfl rfl ?_
  conv => whnf
  refine ⟨(by repeat' (first | exact trivial | exact rfl | refine And.intro ?_ ?_ | ((conv => whnf); first | exact trivial | exact rfl | refine And.intro ?_ ?_ | omega))), (by repeat' (first | exact trivial | exact rfl | refine And.intro ?_ ?_ | ((conv => whnf); first | exact trivial | exact rfl | refine And.intro ?_ ?_ | omega))), ?_⟩
  conv => whnf
  refine ⟨fun hc => ?_, fun hc => absurd hc (by simp)⟩
  conv => whnf
  repeat' (first | exact trivial | exact rfl | refine And.intro ?_ ?_ | ((conv => whnf); first | exact trivial | exact rfl | refine And.intro ?_ ?_ | omega))

theorem startNo_t (bs : List (Int × Int)) (ls : List Lnk) (h : ¬ NetOK bs ls) : Triple Try.prog 33 [sysA bs.length ls.length] (sysH bs ls) 2 (.tup [.inl (.v (.pointer none)), .inl (.b false)]) [] := by
  refine triple_of tB_ok Try.func33 rfl Try.call33 rfl ?_
  intro ρ w hH
  conv => whnf
  refine call_step (few_t bs ls) rfl rfl ?_
  conv => whnf
  refine ⟨(by repeat' (first | exact trivial | exact rfl | refine And.intro ?_ ?_ | ((conv => whnf); first | exact trivial | exact rfl | refine And.intro ?_ ?_ | omega))), (by repeat' (first | exact trivial | exact rfl | refine And.intro ?_ ?_ | ((conv => whnf); first | exact trivial | exact rfl | refine And.intro ?_ ?_ | omega))), ?_⟩
  conv => whnf
  refine ⟨fun hc => ?_, fun hc => ?_⟩
  · conv => whnf
    repeat' (first | exact trivial | exact rfl | refine And.intro ?_ ?_ | ((conv => whnf); first | exact trivial | exact rfl | refine And.intro ?_ ?_ | omega))
  have hfe : fewF bs ls = true := by simpa using (show (!fewF bs ls) = false from hc)
  have hf : bs.length ≤ 14 ∧ ls.length ≤ 40 := by simpa [fewF] using hfe
  by_cases hck : checkF bs ls = 0
  · have hs := checkF_ok.1 hck
    have hcalm : ¬ Calm bs ls 0 := fun hcm => by
      refine h ⟨hf, hs, ?_⟩
      have h00 := few_calm hs hf 0
      rw [graphF_zero] at h00
      rw [h00]
      have hcb : clashB bs ls 0 = false := decide_eq_false (fun hn => hn hcm)
      rw [hcb]; rfl
    have hn := newClash_t bs ls hs hcalm
    conv => whnf
    refine call_step hn rfl rfl ?_
    conv => whnf
    refine ⟨(by repeat' (first | exact trivial | exact rfl | refine And.intro ?_ ?_ | ((conv => whnf); first | exact trivial | exact rfl | refine And.intro ?_ ?_ | omega))), (by repeat' (first | exact trivial | exact rfl | refine And.intro ?_ ?_ | ((conv => whnf); first | exact trivial | exact rfl | refine And.intro ?_ ?_ | omega))), ?_⟩
    conv => whnf
    refine ⟨fun hc => absurd hc (by simp), fun hc => ?_⟩
    conv => whnf
    repeat' (first | exact trivial | exact rfl | refine And.intro ?_ ?_ | ((conv => whnf); first | exact trivial | exact rfl | refine And.intro ?_ ?_ | omega))
  · have hn := newErr_t bs ls (by omega) (by omega) hck
    generalize checkF bs ls = c at *
    conv => whnf
    refine call_step hn rfl rfl ?_
    conv => whnf
    refine ⟨(by repeat' (first | exact trivial | exact rfl | refine And.intro ?_ ?_ | ((conv => whnf); first | exact trivial | exact rfl | refine And.intro ?_ ?_ | omega))), (by repeat' (first | exact trivial | exact rfl | refine And.intro ?_ ?_ | ((conv => whnf); first | exact trivial | exact rfl | refine And.intro ?_ ?_ | omega))), ?_⟩
    conv => whnf
    refine ⟨fun h2 => absurd (by simpa using (show (c == 0) = true from h2)) hck, fun h2 => ?_⟩
    conv => whnf
    repeat' (first | exact trivial | exact rfl | refine And.intro ?_ ?_ | ((conv => whnf); first | exact trivial | exact rfl | refine And.intro ?_ ?_ | omega))

def formedB (n : Nat) (form : List (Int × Int)) (M : Int) : Bool := decide (form.length ≤ n) && (form.all (fun t => decide ((0 ≤ t.1 ∧ t.1 < n) ∧ (-M ≤ t.2 ∧ t.2 ≤ M))) && decide (form.map (·.1)).Nodup)

theorem formedB_iff {n : Nat} {form : List (Int × Int)} {M : Int} : formedB n form M = true ↔ form.length ≤ n ∧ (∀ t ∈ form, (0 ≤ t.1 ∧ t.1 < n) ∧ (-M ≤ t.2 ∧ t.2 ≤ M)) ∧ (form.map (·.1)).Nodup := by
  simp [formedB]

theorem lawFormed_t (bs : List (Int × Int)) (ls : List Lnk) (form : List (Int × Int)) (M : Int) (hb : bs.length ≤ 1000000) (hM : 0 ≤ M ∧ M ≤ 1000000) :
    Triple Try.prog 34 [sysA bs.length ls.length, .c (.s 2 0 form.length 2), iv .i64 M] ((2, false, .arr (aSpan form)) :: sysH bs ls) 3 (bv (formedB bs.length form M)) [] := by
  have hR := @formedB_iff bs.length form M
  generalize formedB bs.length form M = R at *
  refine triple_of tB_ok Try.func34 rfl Try.call34 rfl ?_
  intro ρ w hH
  conv => whnf
  refine ⟨fun hc => ?_, fun hc => ?_⟩
  · have hc : bs.length < form.length := by have hc := of_decide_eq_true (show decide ((bs.length : Int) < form.length) = true from hc); omega
    have e : R = false := by rw [← Bool.not_eq_true, hR]; omega
    rw [e]
    conv => whnf
    repeat' (first | exact trivial | exact rfl | refine And.intro ?_ ?_ | ((conv => whnf); first | exact trivial | exact rfl | refine And.intro ?_ ?_ | omega))
  have hfl : ¬ bs.length < form.length := by have hc := of_decide_eq_false (show decide ((bs.length : Int) < form.length) = false from hc); omega
  conv => whnf
  refine loop_step tB_ok (G := Nat) 0 [] (fun i => [(7, iv .i64 i)]) (fun _ => []) (fun i => i ≤ form.length ∧ (∀ t ∈ form.take i, (0 ≤ t.1 ∧ t.1 < bs.length) ∧ (-M ≤ t.2 ∧ t.2 ≤ M)) ∧ ((form.take i).map (·.1)).Nodup) (fun i => form.length - i) ?_
  conv => whnf
  refine ⟨⟨0, ⟨Nat.zero_le _, by simp, by simp⟩, ?_⟩, ?_⟩
  · conv => whnf
    repeat' (first | exact trivial | exact rfl | refine And.intro ?_ ?_ | ((conv => whnf); first | exact trivial | exact rfl | refine And.intro ?_ ?_ | omega))
  intro i hi ρ1 t1 hρ1
  obtain ⟨hi, hg, hn⟩ := hi
  conv => whnf
  refine ⟨fun hc => ?_, fun hc => ?_⟩
  · have hlt : i < form.length := by simpa using hc
    have hbad : ¬ ((0 ≤ form[i].1 ∧ form[i].1 < bs.length) ∧ (-M ≤ form[i].2 ∧ form[i].2 ≤ M)) → R = false := fun h => by
      rw [← Bool.not_eq_true, hR]
      exact fun h2 => h (h2.2.1 _ (List.getElem_mem hlt))
    conv => whnf
    refine ⟨i, rfl, hlt, hlt, ?_⟩
    conv => whnf
    refine ⟨fun hc => ?_, fun hc => ?_⟩
    · have hc : form[i].1 < 0 := of_decide_eq_true (show decide (form[i].1 < 0) = true from hc)
      rw [hbad (by omega)]
      conv => whnf
      repeat' (first | exact trivial | exact rfl | refine And.intro ?_ ?_ | ((conv => whnf); first | exact trivial | exact rfl | refine And.intro ?_ ?_ | omega))
    have c1 : ¬ form[i].1 < 0 := of_decide_eq_false (show decide (form[i].1 < 0) = false from hc)
    conv => whnf
    refine ⟨i, rfl, hlt, hlt, ?_⟩
    conv => whnf
    refine ⟨fun hc => ?_, fun hc => ?_⟩
    · have hc : (bs.length : Int) ≤ form[i].1 := of_decide_eq_true (show decide ((bs.length : Int) ≤ form[i].1) = true from hc)
      rw [hbad (by omega)]
      conv => whnf
      repeat' (first | exact trivial | exact rfl | refine And.intro ?_ ?_ | ((conv => whnf); first | exact trivial | exact rfl | refine And.intro ?_ ?_ | omega))
    have c2 : ¬ (bs.length : Int) ≤ form[i].1 := of_decide_eq_false (show decide ((bs.length : Int) ≤ form[i].1) = false from hc)
    conv => whnf
    refine ⟨i, rfl, hlt, hlt, ?_⟩
    conv => whnf
    refine ⟨-M, (congrArg IntKind.i64.wrap (show (0 : Int) - M = -M by omega)).trans (wrapId ⟨by omega, by omega⟩), ?_⟩
    conv => whnf
    refine ⟨fun hc => ?_, fun hc => ?_⟩
    · have hc : form[i].2 < -M := of_decide_eq_true (show decide (form[i].2 < -M) = true from hc)
      rw [hbad (by omega)]
      conv => whnf
      repeat' (first | exact trivial | exact rfl | refine And.intro ?_ ?_ | ((conv => whnf); first | exact trivial | exact rfl | refine And.intro ?_ ?_ | omega))
    have c3 : ¬ form[i].2 < -M := of_decide_eq_false (show decide (form[i].2 < -M) = false from hc)
    conv => whnf
    refine ⟨i, rfl, hlt, hlt, ?_⟩
    conv => whnf
    refine ⟨fun hc => ?_, fun hc => ?_⟩
    · have hc : M < form[i].2 := of_decide_eq_true (show decide (M < form[i].2) = true from hc)
      rw [hbad (by omega)]
      conv => whnf
      repeat' (first | exact trivial | exact rfl | refine And.intro ?_ ?_ | ((conv => whnf); first | exact trivial | exact rfl | refine And.intro ?_ ?_ | omega))
    have c4 : ¬ M < form[i].2 := of_decide_eq_false (show decide (M < form[i].2) = false from hc)
    conv => whnf
    refine loop_step tB_ok (G := Nat) 2 [] (fun k => [(8, iv .i64 k)]) (fun _ => []) (fun k => k ≤ i ∧ ∀ t ∈ form.take k, t.1 ≠ form[i].1) (fun k => i - k) ?_
    conv => whnf
    refine ⟨⟨0, ⟨Nat.zero_le _, by simp⟩, ?_⟩, ?_⟩
    · conv => whnf
      repeat' (first | exact trivial | exact rfl | refine And.intro ?_ ?_ | ((conv => whnf); first | exact trivial | exact rfl | refine And.intro ?_ ?_ | omega))
    intro k hk ρ3 t3 hρ3
    obtain ⟨hk, hq⟩ := hk
    conv => whnf
    refine ⟨fun hc => ?_, fun hc => ?_⟩
    · have hkl : k < i := by simpa using hc
      have hkf : k < form.length := by omega
      conv => whnf
      refine ⟨k, rfl, hkf, hkf, ?_⟩
      conv => whnf
      refine ⟨i, rfl, hlt, hlt, ?_⟩
      conv => whnf
      refine ⟨fun hc => ?_, fun hc => ?_⟩
      · have he : form[k].1 = form[i].1 := by simpa using (show (form[k].1 == form[i].1) = true from hc)
        have e : R = false := by
          rw [← Bool.not_eq_true, hR]
          intro hnd
          have := (List.nodup_iff_pairwise_ne.1 hnd.2.2)
          rw [List.pairwise_iff_getElem] at this
          exact this k i (by simpa using hkf) (by simpa using hlt) hkl (by simpa using he)
        rw [e]
        conv => whnf
        repeat' (first | exact trivial | exact rfl | refine And.intro ?_ ?_ | ((conv => whnf); first | exact trivial | exact rfl | refine And.intro ?_ ?_ | omega))
      · have he : form[k].1 ≠ form[i].1 := by simpa using (show (form[k].1 == form[i].1) = false from hc)
        conv => whnf
        refine ⟨(k : Int) + 1, wrapId (z := (k : Int) + 1) ⟨by omega, by omega⟩, ?_⟩
        refine ⟨k + 1, ⟨hkl, fun t ht => ?_⟩, by show i - (k + 1) < i - k; omega, ?_⟩
        · rw [take_snoc hkf] at ht
          rcases List.mem_append.1 ht with ht | ht
          · exact hq t ht
          · simp at ht; rw [ht]; exact he
        conv => whnf
        refine ⟨rfl, ?_⟩
        conv => whnf
        repeat' (first | exact trivial | exact rfl | refine And.intro ?_ ?_ | ((conv => whnf); first | exact trivial | exact rfl | refine And.intro ?_ ?_ | omega))
    have hke : k = i := by simp at hc; omega
    subst hke
    conv => whnf
    refine ⟨(k : Int) + 1, wrapId (z := (k : Int) + 1) ⟨by omega, by omega⟩, ?_⟩
    refine ⟨k + 1, ⟨hlt, fun t ht => ?_, ?_⟩, by show form.length - (k + 1) < form.length - k; omega, ?_⟩
    · rw [take_snoc hlt] at ht
      rcases List.mem_append.1 ht with ht | ht
      · exact hg t ht
      · simp at ht; rw [ht]; omega
    · rw [take_snoc hlt, List.map_append, List.nodup_append]
      refine ⟨hn, by simp, fun x hx y hy => ?_⟩
      obtain ⟨t, ht, rfl⟩ := List.mem_map.1 hx
      simp at hy
      rw [hy]; exact hq t ht
    conv => whnf
    refine ⟨rfl, ?_⟩
    conv => whnf
    repeat' (first | exact trivial | exact rfl | refine And.intro ?_ ?_ | ((conv => whnf); first | exact trivial | exact rfl | refine And.intro ?_ ?_ | omega))
  have hie : i = form.length := by simp at hc; omega
  subst hie
  rw [List.take_length] at hn hg
  have e : R = true := hR.2 ⟨by omega, hg, hn⟩
  rw [e]
  conv => whnf
  repeat' (first | exact trivial | exact rfl | refine And.intro ?_ ?_ | ((conv => whnf); first | exact trivial | exact rfl | refine And.intro ?_ ?_ | omega))

end Go.Proofs

/-
  Plain lemmas, part 17: sums of forms. Conditions: none; definitions and plain lemmas.
-/
namespace Go
namespace Proofs

/-- A form with these coefficients, variable by variable. -/
def bothL : Nat → List Int → List (Int × Int)
  | _, [] => []
  | j, x :: r => ((j : Int), x) :: bothL (j + 1) r

theorem bothL_len : ∀ (l : List Int) (j : Nat), (bothL j l).length = l.length
  | [], _ => rfl
  | x :: r, j => by simp [bothL, bothL_len r]

theorem bothL_snoc : ∀ (l : List Int) (x : Int) (j : Nat), bothL j (l ++ [x]) = bothL j l ++ [(((j + l.length : Nat) : Int), x)]
  | [], x, j => by simp [bothL]
  | y :: r, x, j => by
    simp only [List.cons_append, bothL, bothL_snoc r x (j + 1), List.length_cons]
    rw [show j + 1 + r.length = j + (r.length + 1) by omega]

theorem bothL_mem : ∀ {l : List Int} {j : Nat} {t : Int × Int}, t ∈ bothL j l → ((j : Int) ≤ t.1 ∧ t.1 < j + l.length) ∧ t.2 ∈ l
  | [], _, t, h => by cases h
  | x :: r, j, t, h => by
    rcases List.mem_cons.1 h with rfl | h
    · exact ⟨⟨Int.le_refl _, by simp; omega⟩, List.mem_cons_self ..⟩
    · obtain ⟨h1, h2⟩ := bothL_mem h
      exact ⟨⟨by omega, by simp only [List.length_cons]; omega⟩, List.mem_cons_of_mem _ h2⟩

theorem bothL_nodup : ∀ (l : List Int) (j : Nat), ((bothL j l).map (·.1)).Nodup
  | [], _ => List.nodup_nil
  | x :: r, j => by
    rw [bothL, List.map_cons, List.nodup_cons]
    refine ⟨fun h => ?_, bothL_nodup r (j + 1)⟩
    obtain ⟨t, ht, he⟩ := List.mem_map.1 h
    have := (bothL_mem ht).1
    have he : t.1 = (j : Int) := he
    omega

theorem bothL_val : ∀ (l : List Int) (j : Nat) (pt : List Int), valM (bothL j l) pt = dotI l (pt.drop j)
  | [], _, _ => rfl
  | x :: r, j, pt => by
    rw [bothL, valM, bothL_val r (j + 1) pt, Int.toNat_natCast]
    by_cases h : j < pt.length
    · rw [List.drop_eq_getElem_cons h, dotI, List.getD_eq_getElem?_getD, List.getElem?_eq_getElem h]; rfl
    · rw [List.drop_eq_nil_of_le (by omega), List.drop_eq_nil_of_le (by omega), List.getD_eq_getElem?_getD, List.getElem?_eq_none (by omega)]
      cases r <;> simp [dotI]

end Proofs
end Go

namespace Go.Proofs
open Go.Sx

theorem diff_law {bs : List (Int × Int)} {ls : List Lnk} (h : NetOK bs ls) {i k : Nat} (hi : i < bs.length) (hk : k < bs.length) (hik : i ≠ k) {v : Int} {pt : List Int} (ha : (allowsF bs ls pt).2 = true)
    (hv : 1 * valM [((k : Int), 1), ((i : Int), -1)] pt = v) (hm : ∀ pt', (allowsF bs ls pt').2 = true → 1 * valM [((k : Int), 1), ((i : Int), -1)] pt' ≤ v) : v = mostF bs.length (graphF bs ls 0) i k := by
  obtain ⟨ks, _, _, _, _, _, _, hal, hat, _⟩ := proves_law h (a := i) (b := k) ⟨by omega, by omega⟩ ⟨by omega, by omega⟩
  have hval : ∀ pt, 1 * valM [((k : Int), 1), ((i : Int), -1)] pt = pt.getD k 0 - pt.getD i 0 := fun pt => by
    simp only [valM, Int.toNat_natCast]; omega
  have h1 := hm _ (by rw [hal])
  rw [hval] at h1
  have e1 : ∀ (pt : List Int) (j : Nat), atF pt ((j : Nat) : Int) = pt.getD j 0 := fun pt j => by unfold atF; rw [if_neg (by omega), Int.toNat_natCast]
  rw [e1, e1] at hat
  obtain ⟨_, hp⟩ := (allows_iff h.sys).1 ha
  obtain ⟨_, ts, hT⟩ := calm_tree h.sys h.calm 0 (src := i) (by omega)
  have hpot : PotL bs.length (fun v => pt.getD v 0) (graphF bs ls 0) := by rw [graphF_zero]; exact hp
  have h2 := hT.low (potL_iff.1 hpot) (v := k) (by omega)
  have e2 : mostF bs.length (graphF bs ls 0) i k = (shortF bs.length noRev (graphF bs ls 0) i).1.sum.getD k 0 := by
    unfold mostF plc
    rw [if_neg (by omega), if_neg (by omega), Int.toNat_natCast, Int.toNat_natCast]
  rw [← e2] at h2
  have h2 : pt.getD k 0 ≤ pt.getD i 0 + mostF bs.length (graphF bs ls 0) i k := h2
  rw [hval] at hv
  omega

theorem diff_form {n i k : Nat} (hi : i < n) (hk : k < n) (hik : i ≠ k) (hn : n ≤ 240) : formF [((k : Int), 1), ((i : Int), -1)] n = 0 := by
  refine formF_of (by simp) (fun t ht => ?_) ?_
  · simp only [List.mem_cons, List.mem_nil_iff, or_false] at ht
    rcases ht with rfl | rfl
    · exact ⟨⟨by show (0 : Int) ≤ k; omega, by show (k : Int) < n; omega⟩, by show (-1024 : Int) ≤ 1; omega, by show (1 : Int) ≤ 1024; omega⟩
    · exact ⟨⟨by show (0 : Int) ≤ i; omega, by show (i : Int) < n; omega⟩, by show (-1024 : Int) ≤ -1; omega, by show (-1 : Int) ≤ 1024; omega⟩
  · simp; omega

theorem coefF_bd2 {p B C : Int} : ∀ {form : List (Int × Int)} {out : List Int}, (form.map (·.1)).Nodup → (∀ t ∈ form, (0 ≤ t.1 ∧ t.1 < out.length) ∧ (-C ≤ p * t.2 ∧ p * t.2 ≤ C)) →
    (∀ t ∈ form, -B ≤ out.getD t.1.toNat 0 ∧ out.getD t.1.toNat 0 ≤ B) → (∀ y ∈ out, -(B + C) ≤ y ∧ y ≤ B + C) → ∀ y ∈ coefF p form out, -(B + C) ≤ y ∧ y ≤ B + C
  | [], out, _, _, _, h => h
  | t :: r, out, hn, hb, hz, h => by
    rw [List.map_cons, List.nodup_cons] at hn
    obtain ⟨⟨h0, h1⟩, h2, h3⟩ := hb t (List.mem_cons_self ..)
    refine coefF_bd2 (form := r) hn.2 (fun x hx => ?_) (fun x hx => ?_) (fun y hy => ?_)
    · rw [List.length_set]; exact hb x (List.mem_cons_of_mem _ hx)
    · have hb2 := (hb x (List.mem_cons_of_mem _ hx)).1
      rw [getD_set (by omega), if_neg]
      · exact hz x (List.mem_cons_of_mem _ hx)
      intro he
      exact hn.1 (List.mem_map.2 ⟨x, hx, by omega⟩)
    · rcases List.mem_or_eq_of_mem_set hy with hy | rfl
      · exact h y hy
      · have := hz t (List.mem_cons_self ..); omega

/-- The coefficients of the sum of two forms. -/
def sumL (n : Nat) (f g : List (Int × Int)) : List Int := coefF 1 g (coefF 1 f (List.replicate n 0))

theorem sumL_len (n : Nat) (f g : List (Int × Int)) : (sumL n f g).length = n := by rw [sumL, coefF_len, coefF_len, List.length_replicate]

theorem sum_law {bs : List (Int × Int)} {f g : List (Int × Int)} (hn : bs.length ≤ 240) (hf : formedB bs.length f 512 = true) (hg : formedB bs.length g 512 = true) :
    formF (bothL 0 (sumL bs.length f g)) bs.length = 0 ∧ ∀ pt, valM (bothL 0 (sumL bs.length f g)) pt = valM f pt + valM g pt := by
  obtain ⟨f1, f2, f3⟩ := formedB_iff.1 hf
  obtain ⟨g1, g2, g3⟩ := formedB_iff.1 hg
  have hl := sumL_len bs.length f g
  have hb0 : ∀ y ∈ coefF 1 f (List.replicate bs.length 0), -512 ≤ y ∧ y ≤ 512 := by
    refine coefF_bd f3 (fun t ht => ⟨by rw [List.length_replicate]; exact (f2 t ht).1, by have := (f2 t ht).2; omega⟩) (fun t _ => replicate_getD _ _) (fun y hy => ?_)
    obtain ⟨_, rfl⟩ := List.mem_replicate.1 hy; omega
  have hb1 : ∀ y ∈ sumL bs.length f g, -(512 + 512) ≤ y ∧ y ≤ 512 + 512 := by
    refine coefF_bd2 g3 (fun t ht => ⟨by rw [coefF_len, List.length_replicate]; exact (g2 t ht).1, by have := (g2 t ht).2; omega⟩) (fun t ht => ?_) (fun y hy => ?_)
    · have := (g2 t ht).1
      exact hb0 _ (getD_mem (by rw [coefF_len, List.length_replicate]; omega))
    · have := hb0 y hy; omega
  refine ⟨formF_of (by rw [bothL_len, hl]; exact hn) (fun t ht => ?_) (bothL_nodup _ _), fun pt => ?_⟩
  · obtain ⟨h1, h2⟩ := bothL_mem ht
    rw [hl] at h1
    have := hb1 _ h2
    omega
  · rw [bothL_val, List.drop_zero, sumL, coefF_dot 1 pt (fun t ht => by rw [coefF_len, List.length_replicate]; exact (g2 t ht).1), coefF_dot 1 pt (fun t ht => by rw [List.length_replicate]; exact (f2 t ht).1), dotI_zero]
    omega

theorem formedB_formF {n : Nat} {form : List (Int × Int)} {M : Int} (h : formedB n form M = true) (hM : M ≤ 1024) (hn : n ≤ 240) : formF form n = 0 := by
  obtain ⟨f1, f2, f3⟩ := formedB_iff.1 h
  exact formF_of (by omega) (fun t ht => by have := f2 t ht; omega) f3

end Go.Proofs

namespace Go
namespace Sx

/-! ### Making room where there is no slice yet: cap(nil), append(nil, make(..)...) -/

def capNilK (B : Tabs) (t : TypeId) (x : SV) (K : Eff → Prop) : Prop :=
  match x, lookT B.T t with
  | .c (.v (.slice none 0 0)), some ⟨.slice _, _, _, _⟩ => K ⟨iv .i64 0, [], [], []⟩
  | _, _ => False

theorem capNil_step {cx : Cx} {B : Tabs} (hB : TabsOK cx.P B) {o : Oper} {e : Env} {H : Heap} {nx : Nat} {K : Eff → Prop} {c : Call} {x : Operand} {t : TypeId} (ho : o.op = .call c) (hc : c.callee = .builtin .cap) (hca : c.args = #[x]) (hct : c.argTypes = #[t])
    (h : capNilK B t (ev e x) K) : ∃ F, CallOK cx o e H nx F ∧ K F := by
  have hx : x ∈ o.op.operands.toList := by simp [ho, Op.operands, Call.operands, hc, hca]
  unfold capNilK at h
  split at h
  · rename_i el s0 b0 z0 hex ht
    refine ⟨_, ⟨?_, fun j hj => by cases hj⟩, h⟩
    intro ρ s a w hs hr _ _ hdst KK Q hKK
    have hx1 := reads_fit hx (fun t ht => by rw [← hr t ht]; exact hs.env t)
    rw [hex] at hx1
    simp only [SV.rel, SC.rel] at hx1
    obtain ⟨ds, hds, hks⟩ := run_und_kd hB.T ht w
    have e1 := kd_slice hks; subst e1
    have hrun : (execOp a.eval o).run cx.P w = .ok (.value (.int .i64 0)) w := by
      rw [run_builtin ho hc]
      simp [builtin, hca, hct, Builtin.cap_, hx1, hds, goInt]
    refine wpIn_of_value (by simp [ho]) hrun (hKK ρ _ w ?_ (fun _ _ => rfl))
    exact hs.putO hdst rfl (below_iv _ _ _)
  · exact h.elim

def growK (B : Tabs) (A : Arr) (t tn : TypeId) (x y : SV) (nx : Nat) (K : Eff → Prop) : Prop :=
  match lookT B.T t, lookT B.T tn, x, y with
  | some ⟨.slice el, _, _, _⟩, some ⟨.int .i64, _, _, _⟩, .c (.v (.slice none 0 0)), .c (.v (.int .i64 n)) => (match lookT B.T el with
    | some ti => bif Nat.beq ti.size A.sz && Nat.ble 1 A.sz then
        ∃ N : Nat, (n = (N : Int) ∧ 0 < N ∧ N * (ti.bytes + 1) ≤ 140737488355328 ∧ A.xs = []) ∧
        K ⟨.c (.s nx 0 N A.sz), [], [(nx, true, .arr A)], [nx]⟩ else False
    | none => False)
  | _, _, _, _ => False

theorem grow_step {cx : Cx} {B : Tabs} (hB : TabsOK cx.P B) {o : Oper} {e : Env} {H : Heap} {nx : Nat} {K : Eff → Prop} {c : Call} {x y : Operand} {t tn : TypeId} (A : Arr) (hA : A.nm = []) (ho : o.op = .call c) (hc : c.callee = .builtin .append) (hca : c.args = #[x, y]) (hct : c.argTypes = #[t, tn])
    (h : growK B A t tn (ev e x) (ev e y) nx K) : ∃ F, CallOK cx o e H nx F ∧ K F := by
  have hx : x ∈ o.op.operands.toList := by simp [ho, Op.operands, Call.operands, hc, hca]
  have hy : y ∈ o.op.operands.toList := by simp [ho, Op.operands, Call.operands, hc, hca]
  unfold growK at h
  split at h
  · rename_i el s0 b0 z0 s1 b1 z1 n ht htn hex hey
    split at h
    · rename_i ti hti
      obtain ⟨hb, N, ⟨rfl, hN, h3, hxs⟩, hK⟩ := bif_and h
      simp only [Bool.and_eq_true] at hb
      have hb1 := Nat.eq_of_beq_eq_true hb.1
      have hb2 := Nat.le_of_ble_eq_true hb.2
      refine ⟨_, ⟨?_, fun j hj => by simp at hj; subst hj; simp⟩, hK⟩
      intro ρ s a w hs hr _ hnew hdst KK Q hKK
      obtain ⟨hfr, hlt, hn0⟩ := hnew nx (by simp)
      have hx1 := reads_fit hx (fun t ht => by rw [← hr t ht]; exact hs.env t)
      have hy1 := reads_fit hy (fun t ht => by rw [← hr t ht]; exact hs.env t)
      rw [hex] at hx1; rw [hey] at hy1
      simp only [SV.rel, SC.rel] at hx1 hy1
      obtain ⟨i, z, hi, hz, hisz, hiby, hzz⟩ := ti_parts hB hti
      have hbd : N * i.bytes ≤ 140737488355328 := by rw [hiby]; exact Nat.le_trans (Nat.mul_le_mul_left _ (Nat.le_succ _)) h3
      have hln : N * 1 ≤ 140737488355328 := Nat.le_trans (Nat.mul_le_mul_left _ (by omega)) h3
      have htn' : cx.P.underlying tn = some (.int .i64) := by
        obtain ⟨i, d, z, hi, hd, hz, hk, _⟩ := tiOf_parts (hB.T.get htn)
        cases d <;> simp [kdOf] at hk
        rw [hd, hk]
      have hrunA := Lib.run_append_nil_zeros (P := cx.P) w t tn o.type el i z .i64 .i64 (und_slice hB ht) htn' hi hz N hN (by omega) (by omega) (by omega)
      have hge := grownCap_ge w N 0 el
      generalize hgc : grownCap w N 0 el = gc at hrunA hge
      have hzsz : z.cells.size = A.sz := by
        have := congrArg List.length hzz
        rw [← hb1]
        have hz2 := hB.zsz el ti hti
        simpa [hz2] using this
      have hrun : (execOp a.eval o).run cx.P w = .ok (.value (.slice (some ⟨w.heap.size, 0, none⟩) N gc)) (w.drew.alloc (.cells (Builtin.zeroCells z.cells N ++ Builtin.zeroCells z.cells (gc - N)) el)) := by
        rw [run_builtin ho hc, hca, hct]
        simp only [List.map_toArray, List.map_cons, List.map_nil, builtin, hx1, hy1, Sem.run_bind, hrunA, Result.andThen_ok, Sem.run_pure]
      refine wpIn_of_value (by simp [ho]) hrun (hKK (upd ρ nx ⟨w.heap.size, 0, gc⟩) _ _ ?_ (fun j hj => upd_ne (by simpa using hj)))
      have hbelow : (SO.arr A).below s.nx := fun (j : Nat) (hj : anyMem [j] A.nm = true) => by rw [hA] at hj; cases hj
      have hsat := hs.newAt (k := nx) (cap := gc) (o := .arr A) (ob := .cells (Builtin.zeroCells z.cells N ++ Builtin.zeroCells z.cells (gc - N)) el (0, 0)) hfr hlt hn0 hbelow ?_
      · refine (hsat.eqHeap (w' := w.drew.alloc _) rfl).putO hdst ?_ (by rw [SV.below_c]; intro j hj; simp [SC.nms] at hj; subst hj; exact hlt)
        simp only [SV.rel, SC.rel, upd_eq, Nat.sub_zero, Nat.zero_mul, Nat.zero_add]
        exact ⟨_, rfl, hge, fun _ => by simp [adr, upd_eq]⟩
      · refine satO_new_arr (by rw [hxs]; exact Nat.zero_le _) ?_ ?_
        · simp only [Array.size_append, size_zeroCells, hzsz]
          rw [← Nat.add_mul]; congr 1; omega
        · intro i' xx hxx
          rw [hxs] at hxx; cases hxx
    · exact h.elim
  · exact h.elim

end Sx
end Go

namespace Go
namespace Sx

/-! ### A list of slices, written out -/

def inVs (k : Nat) (e : Env) : List (Nat × Operand) → Bool
  | [] => false
  | p :: r => bif (ev e p.2).uses [k] then true else inVs k e r

def allVs (e : Env) (ps : List (Nat × Operand)) : List Nat → Bool
  | [] => true
  | k :: r => bif inVs k e ps then allVs e ps r else false

theorem inVs_get {k : Nat} {e : Env} : ∀ {ps : List (Nat × Operand)}, inVs k e ps = true → ∃ p ∈ ps, (ev e p.2).uses [k] = true
  | [], h => by cases h
  | p :: r, h => by
    simp only [inVs] at h
    cases hu : (ev e p.2).uses [k] with
    | true => exact ⟨p, List.mem_cons_self .., hu⟩
    | false =>
      rw [hu] at h
      obtain ⟨q, hq, h2⟩ := inVs_get h
      exact ⟨q, List.mem_cons_of_mem _ hq, h2⟩

theorem allVs_get {e : Env} {ps : List (Nat × Operand)} : ∀ {l : List Nat} {k : Nat}, allVs e ps l = true → k ∈ l → ∃ p ∈ ps, (ev e p.2).uses [k] = true
  | [], _, _, h => by cases h
  | j :: r, k, h, hk => by
    simp only [allVs] at h
    cases hu : inVs j e ps with
    | false => rw [hu] at h; cases h
    | true =>
      rw [hu] at h
      rcases List.mem_cons.1 hk with rfl | hk
      · exact inVs_get hu
      · exact allVs_get h hk

def bsNK (B : Tabs) (A : Arr) (e : Env) (t : TypeId) (len : Nat) (ps : List (Nat × Operand)) (nx : Nat) (K : Eff → Prop) : Prop :=
  bif allVs e ps A.nm then bsK B A e t len ps nx K else False

theorem bsN_step {cx : Cx} {B : Tabs} (hB : TabsOK cx.P B) {o : Oper} {e : Env} {H : Heap} {nx : Nat} {K : Eff → Prop} {t : TypeId} {len : Nat} {parts : Array (Nat × Operand)} (A : Arr)
    (ho : o.op = .buildSlice t len parts) (h : bsNK B A e t len parts.toList nx K) : ∃ F, CallOK cx o e H nx F ∧ K F := by
  have hmem : ∀ p ∈ parts.toList, p.2 ∈ o.op.operands.toList := fun p hp => by
    simp [ho, Op.operands]; exact ⟨p.1, by simpa using hp⟩
  obtain ⟨hall, h⟩ := bif_and h
  unfold bsK at h
  split at h
  · rename_i el s0 b0 z0 ht
    split at h
    · rename_i ti hti
      split at h
      · rename_i l hl
        obtain ⟨hb, ⟨hlen, hent⟩, hK⟩ := bif_and h
        simp only [Bool.and_eq_true] at hb
        have hb1 := Nat.eq_of_beq_eq_true hb.1
        have hb2 := Nat.le_of_ble_eq_true hb.2.1
        have hb3 := Nat.le_of_ble_eq_true hb.2.2
        refine ⟨_, ⟨loc_new (by simp [ho]) below_s ?_ ?_, fun j hj => by simp at hj; subst hj; simp⟩, hK⟩
        · intro n' hn' j hj
          obtain ⟨k, hk, hjk⟩ := anyMem_iff.1 (show anyMem [j] A.nm = true from hj)
          simp only [List.mem_singleton] at hjk
          subst hjk
          obtain ⟨p, hp, hu⟩ := allVs_get hall hk
          exact (reads_below (hmem p hp) hn') k hu
        · intro ρ a w hr hfr
          obtain ⟨i, z, hi, hz, hisz, hiby, hzz⟩ := ti_parts hB hti
          have hr' : ∀ p ∈ parts.toList, (ev e p.2).rel (upd ρ nx ⟨w.heap.size, 0, len⟩) (a.eval p.2) := by
            intro p hp
            refine SV.rel_upd' (reads_fit (hmem p hp) hr) ?_
            have hm := hmem p hp
            cases hx : p.2 with
            | tmp t => rw [hx] at hm; exact hfr t hm
            | const v => exact evC_uses v _
            | global g => simp [ev, SV.uses, SC.uses, SC.nms, anyMem]
            | func g => simp [ev, SV.uses, SC.uses, SC.nms, anyMem]
          have hinit : ((Array.range (len * i.size)).map (z.cells[· % z.cells.size]!)).size = len * ti.size := by simp [hisz]
          obtain ⟨out, hout, hrel⟩ := fillR_ok (ρ := upd ρ nx ⟨w.heap.size, 0, len⟩) (a := a) (e := e) (sz := ti.size) parts.toList (junks (len * ti.size)) ((Array.range (len * i.size)).map (z.cells[· % z.cells.size]!)) l
            (by have := @junks_rel (upd ρ nx ⟨w.heap.size, 0, len⟩) ((Array.range (len * i.size)).map (z.cells[· % z.cells.size]!)).toList; rwa [Array.length_toList, hinit] at this) hr' hl
          have hlo := relL_length hrel
          have hrelA := entL_rel0 hent hrel
          have hlA := relL_length hrelA
          have hencl : ∀ xs : List A.α, (encAll A xs).length = xs.length * A.sz := by
            intro xs; induction xs with
            | nil => simp [encAll]
            | cons x r ih => simp only [encAll, List.length_append, ih, A.hl, List.length_cons, Nat.add_mul]; omega
          refine ⟨.slice (some ⟨w.heap.size, 0, none⟩) len len, .cells out el (0, 0), len, ?_, ?_, satO_new_arr (by omega) ?_ ?_⟩
          · have hsz : (sizeOf el).run cx.P w = .ok i.size w := by simp [sizeOf, typeInfo, hi]
            have hle : ¬ (len * i.size > 2 ^ 24) := by rw [hisz]; omega
            have h2 : (Array.map (fun x => (x.fst, a.eval x.snd)) parts).toList = parts.toList.map fun p => (p.1, a.eval p.2) := by simp
            simp only [execOp, ho, Instr.buildSlice, Sem.run_bind, run_underlying (und_slice hB ht), Result.andThen_ok, hsz, if_neg hle, h2]
            by_cases h0 : len * i.size = 0
            · have hl0 : len = 0 := by
                rcases Nat.mul_eq_zero.1 h0 with h | h
                · exact h
                · omega
              subst hl0
              simp only [Nat.zero_mul, if_true, Sem.run_pure, Result.andThen_ok]
              simp only [Nat.zero_mul] at hout
              rw [← hisz] at hout
              have e0 : (Array.map (fun x => (#[] : Array Value)[x % (#[] : Array Value).size]!) (Array.range 0)) = (Array.map (fun x => z.cells[x % z.cells.size]!) (Array.range 0)) := by simp
              simp only [e0, hout, Sem.run_bind, newRow, newObj, Sem.run, Result.andThen_ok, Sem.run_pure]
              rfl
            · have hzr : (zeroValue el).run cx.P w = .ok z w := by simp [zeroValue, typeInfo, hi, hz]
              rw [← hisz] at hout
              simp only [if_neg h0, Sem.run_bind, hzr, Result.andThen_ok, Sem.run_pure, hout, newRow, newObj, Sem.run]
              rfl
          · simp only [SV.rel, SC.rel, upd_eq, Nat.sub_zero, Nat.zero_mul, Nat.zero_add]
            exact ⟨_, rfl, Nat.le_refl _, fun _ => by simp [adr, upd_eq]⟩
          · rw [hencl] at hlA; rw [← hlen]; simpa using hlA.symm
          · intro i' xx hxx j d hd
            obtain ⟨v, hv, hvr⟩ := relL_get hrelA (encAll_get hxx hd)
            exact ⟨v, by simpa using hv, hvr⟩
      · exact h.elim
    · exact h.elim
  · exact h.elim

end Sx
end Go

namespace Go.Proofs
open Go.Sx

theorem growSpan_t (n : Nat) (hn : n ≤ 1000000) : Triple Try.prog 144 [.c (.v (.slice none 0 0)), iv .i64 n] [] 0 (.c (.s 0 0 0 2)) [(0, true, .arr (aSpan []))] := by
  refine triple_of tB_ok Try.func144 rfl Try.call144 rfl ?_
  intro ρ w hH
  conv => whnf
  refine ⟨fun hc => absurd (of_decide_eq_true (show decide ((n : Int) < 0) = true from hc)) (by omega), fun hc => ?_⟩
  conv => whnf
  refine capNil_step tB_ok rfl rfl rfl rfl ?_
  conv => whnf
  refine ⟨0, rfl, ?_⟩
  conv => whnf
  refine ⟨(n : Int), by show IntKind.i64.wrap ((n : Int) - 0) = n; rw [Int.sub_zero]; exact wrapId ⟨by omega, by omega⟩, ?_⟩
  conv => whnf
  refine ⟨fun hc => ?_, fun hc => ?_⟩
  · have hp : 0 < n := by have := of_decide_eq_true (show decide ((0 : Int) < n) = true from hc); omega
    conv => whnf
    refine capNil_step tB_ok rfl rfl rfl rfl ?_
    conv => whnf
    refine ⟨0, rfl, Nat.le_refl _, ?_⟩
    conv => whnf
    refine ⟨Nat.le_refl _, ?_⟩
    conv => whnf
    refine grow_step tB_ok (aSpan []) rfl rfl rfl rfl rfl ?_
    conv => whnf
    refine ⟨n, ⟨rfl, hp, by show n * 17 ≤ _; omega, rfl⟩, ?_⟩
    conv => whnf
    refine ⟨0, rfl, Nat.zero_le _, ?_⟩
    conv => whnf
    refine ⟨Nat.le_refl _, ?_⟩
    conv => whnf
    repeat' (first | exact trivial | exact rfl | refine And.intro ?_ ?_ | ((conv => whnf); first | exact trivial | exact rfl | refine And.intro ?_ ?_ | omega))
  · conv => whnf
    repeat' (first | exact trivial | exact rfl | refine And.intro ?_ ?_ | ((conv => whnf); first | exact trivial | exact rfl | refine And.intro ?_ ?_ | omega))

theorem concatSpan_t (xs ys : List (Int × Int)) (h1 : xs.length ≤ 100000) (h2 : ys.length ≤ 100000) : Triple Try.prog 114 [.c (.s 0 0 2 1)]
    [(0, false, .arr (aRows 1 [1, 2] [[.s 1 0 xs.length 2], [.s 2 0 ys.length 2]])), (1, false, .arr (aSpan xs)), (2, false, .arr (aSpan ys))] 3 (.c (.s 3 0 (xs ++ ys).length 2)) [(3, true, .arr (aSpan (xs ++ ys)))] := by
  refine triple_of tB_ok Try.func114 rfl Try.call114 rfl ?_
  intro ρ w hH
  conv => whnf
  refine loop_step tB_ok (G := Nat × Int) 0 [] (fun g => [(11, iv .i64 g.1), (3, iv .i64 g.2)]) (fun _ => []) (fun g => (g.1 = 0 ∧ g.2 = 0) ∨ (g.1 = 1 ∧ g.2 = xs.length) ∨ (g.1 = 2 ∧ g.2 = (xs.length : Int) + ys.length)) (fun g => 2 - g.1) ?_
  conv => whnf
  refine ⟨⟨(0, 0), .inl ⟨rfl, rfl⟩, ?_⟩, ?_⟩
  · conv => whnf
    repeat' (first | exact trivial | exact rfl | refine And.intro ?_ ?_ | ((conv => whnf); first | exact trivial | exact rfl | refine And.intro ?_ ?_ | omega))
  rintro ⟨i, tot⟩ hi ρ1 t1 hρ1
  have hi : (i = 0 ∧ tot = 0) ∨ (i = 1 ∧ tot = xs.length) ∨ (i = 2 ∧ tot = (xs.length : Int) + ys.length) := hi
  dsimp only
  rcases hi with ⟨rfl, rfl⟩ | ⟨rfl, rfl⟩ | ⟨rfl, rfl⟩
  · conv => whnf
    refine ⟨fun hc => ?_, fun hc => absurd hc (by decide)⟩
    conv => whnf
    refine ⟨0, rfl, by decide, by show _ < 2; decide, ?_⟩
    conv => whnf
    refine ⟨(xs.length : Int), by show IntKind.i64.wrap ((0 : Int) + xs.length) = xs.length; rw [Int.zero_add]; exact wrapId ⟨by omega, by omega⟩, ?_⟩
    conv => whnf
    refine ⟨fun hc => absurd (of_decide_eq_true hc) (by omega), fun hc => ?_⟩
    conv => whnf
    refine ⟨1, rfl, ?_⟩
    refine ⟨(1, (xs.length : Int)), .inr (.inl ⟨rfl, rfl⟩), by show 2 - 1 < 2 - 0; decide, ?_⟩
    conv => whnf
    refine ⟨rfl, ?_⟩
    conv => whnf
    repeat' (first | exact trivial | exact rfl | refine And.intro ?_ ?_ | ((conv => whnf); first | exact trivial | exact rfl | refine And.intro ?_ ?_ | omega))
  · conv => whnf
    refine ⟨fun hc => ?_, fun hc => absurd hc (by decide)⟩
    conv => whnf
    refine ⟨1, rfl, by decide, by show _ < 2; decide, ?_⟩
    conv => whnf
    refine ⟨(xs.length : Int) + ys.length, wrapId ⟨by omega, by omega⟩, ?_⟩
    conv => whnf
    refine ⟨fun hc => absurd (of_decide_eq_true hc) (by omega), fun hc => ?_⟩
    conv => whnf
    refine ⟨2, rfl, ?_⟩
    refine ⟨(2, (xs.length : Int) + ys.length), .inr (.inr ⟨rfl, rfl⟩), by show 2 - 2 < 2 - 1; decide, ?_⟩
    conv => whnf
    refine ⟨rfl, ?_⟩
    conv => whnf
    repeat' (first | exact trivial | exact rfl | refine And.intro ?_ ?_ | ((conv => whnf); first | exact trivial | exact rfl | refine And.intro ?_ ?_ | omega))
  conv => whnf
  refine ⟨fun hc => absurd (show decide (((2 : Nat) : Int) < 2) = true from hc) (by decide), fun hc => ?_⟩
  conv => whnf
  have hg := growSpan_t (xs.length + ys.length) (by omega)
  rw [show ((xs.length + ys.length : Nat) : Int) = (xs.length : Int) + ys.length from by omega] at hg
  refine call_step hg rfl rfl ?_
  conv => whnf
  refine ⟨(by repeat' (first | exact trivial | exact rfl | refine And.intro ?_ ?_ | ((conv => whnf); first | exact trivial | exact rfl | refine And.intro ?_ ?_ | omega))), (by repeat' (first | exact trivial | exact rfl | refine And.intro ?_ ?_ | ((conv => whnf); first | exact trivial | exact rfl | refine And.intro ?_ ?_ | omega))), ?_⟩
  conv => whnf
  refine loop_step tB_ok (G := Nat × List (Int × Int)) 1 [3] (fun g => [(27, iv .i64 g.1), (6, .c (.s 4 0 g.2.length 2))]) (fun g => [(4, true, .arr (aSpan g.2))]) (fun g => (g.1 = 0 ∧ [] = g.2) ∨ (g.1 = 1 ∧ xs = g.2) ∨ (g.1 = 2 ∧ xs ++ ys = g.2)) (fun g => 2 - g.1) ?_
  conv => whnf
  refine ⟨⟨(0, []), .inl ⟨rfl, rfl⟩, ?_⟩, ?_⟩
  · conv => whnf
    repeat' (first | exact trivial | exact rfl | refine And.intro ?_ ?_ | ((conv => whnf); first | exact trivial | exact rfl | refine And.intro ?_ ?_ | omega))
  rintro ⟨i, out⟩ hi ρ2 t2 hρ2
  have hi : (i = 0 ∧ [] = out) ∨ (i = 1 ∧ xs = out) ∨ (i = 2 ∧ xs ++ ys = out) := hi
  dsimp only
  rcases hi with ⟨rfl, rfl⟩ | ⟨rfl, rfl⟩ | ⟨rfl, rfl⟩
  · conv => whnf
    refine ⟨fun hc => ?_, fun hc => absurd hc (by decide)⟩
    conv => whnf
    refine ⟨0, rfl, by decide, by show _ < 2; decide, ?_⟩
    conv => whnf
    refine app_step tB_ok (aSpan []) xs (fun _ => rfl) rfl rfl rfl rfl ?_
    conv => whnf
    refine ⟨⟨rfl, rfl, Nat.le_refl _, by rw [Nat.zero_add]; exact Nat.le_refl _, by show (List.length (α := (Int × Int)) [] + xs.length) * 17 ≤ _; first | omega | (simp only [List.length_nil]; omega)⟩, ?_⟩
    conv => whnf
    refine ⟨1, rfl, ?_⟩
    refine ⟨(1, xs), .inr (.inl ⟨rfl, rfl⟩), by show 2 - 1 < 2 - 0; decide, ?_⟩
    conv => whnf
    refine ⟨rfl, ?_⟩
    conv => whnf
    repeat' (first | exact trivial | exact rfl | refine And.intro ?_ ?_ | ((conv => whnf); first | exact trivial | exact rfl | refine And.intro ?_ ?_ | omega))
    all_goals first | exact (congrArg aSpan appAll : _) | exact (congrArg aSpan (appAll (xs := [])) : _) | simp
  · conv => whnf
    refine ⟨fun hc => ?_, fun hc => absurd hc (by decide)⟩
    conv => whnf
    refine ⟨1, rfl, by decide, by show _ < 2; decide, ?_⟩
    conv => whnf
    refine app_step tB_ok (aSpan xs) ys (fun _ => rfl) rfl rfl rfl rfl ?_
    conv => whnf
    refine ⟨⟨rfl, rfl, Nat.le_refl _, by rw [Nat.zero_add]; exact Nat.le_refl _, by show (List.length (α := (Int × Int)) xs + ys.length) * 17 ≤ _; first | omega | (simp only [List.length_nil]; omega)⟩, ?_⟩
    conv => whnf
    refine ⟨2, rfl, ?_⟩
    refine ⟨(2, xs ++ ys), .inr (.inr ⟨rfl, rfl⟩), by show 2 - 2 < 2 - 1; decide, ?_⟩
    conv => whnf
    refine ⟨rfl, ?_⟩
    conv => whnf
    repeat' (first | exact trivial | exact rfl | refine And.intro ?_ ?_ | ((conv => whnf); first | exact trivial | exact rfl | refine And.intro ?_ ?_ | omega))
    all_goals first | exact (congrArg aSpan appAll : _) | exact (congrArg aSpan (appAll (xs := [])) : _) | simp
  conv => whnf
  refine ⟨fun hc => absurd (show decide (((2 : Nat) : Int) < 2) = true from hc) (by decide), fun hc => ?_⟩
  conv => whnf
  repeat' (first | exact trivial | exact rfl | refine And.intro ?_ ?_ | ((conv => whnf); first | exact trivial | exact rfl | refine And.intro ?_ ?_ | omega))
theorem growLink_t (n : Nat) (hn : n ≤ 1000000) : Triple Try.prog 142 [.c (.v (.slice none 0 0)), iv .i64 n] [] 0 (.c (.s 0 0 0 4)) [(0, true, .arr (aLink []))] := by
  refine triple_of tB_ok Try.func142 rfl Try.call142 rfl ?_
  intro ρ w hH
  conv => whnf
  refine ⟨fun hc => absurd (of_decide_eq_true (show decide ((n : Int) < 0) = true from hc)) (by omega), fun hc => ?_⟩
  conv => whnf
  refine capNil_step tB_ok rfl rfl rfl rfl ?_
  conv => whnf
  refine ⟨0, rfl, ?_⟩
  conv => whnf
  refine ⟨(n : Int), by show IntKind.i64.wrap ((n : Int) - 0) = n; rw [Int.sub_zero]; exact wrapId ⟨by omega, by omega⟩, ?_⟩
  conv => whnf
  refine ⟨fun hc => ?_, fun hc => ?_⟩
  · have hp : 0 < n := by have := of_decide_eq_true (show decide ((0 : Int) < n) = true from hc); omega
    conv => whnf
    refine capNil_step tB_ok rfl rfl rfl rfl ?_
    conv => whnf
    refine ⟨0, rfl, Nat.le_refl _, ?_⟩
    conv => whnf
    refine ⟨Nat.le_refl _, ?_⟩
    conv => whnf
    refine grow_step tB_ok (aLink []) rfl rfl rfl rfl rfl ?_
    conv => whnf
    refine ⟨n, ⟨rfl, hp, by show n * 33 ≤ _; omega, rfl⟩, ?_⟩
    conv => whnf
    refine ⟨0, rfl, Nat.zero_le _, ?_⟩
    conv => whnf
    refine ⟨Nat.le_refl _, ?_⟩
    conv => whnf
    repeat' (first | exact trivial | exact rfl | refine And.intro ?_ ?_ | ((conv => whnf); first | exact trivial | exact rfl | refine And.intro ?_ ?_ | omega))
  · conv => whnf
    repeat' (first | exact trivial | exact rfl | refine And.intro ?_ ?_ | ((conv => whnf); first | exact trivial | exact rfl | refine And.intro ?_ ?_ | omega))

theorem concatLink_t (xs ys : List Lnk) (h1 : xs.length ≤ 100000) (h2 : ys.length ≤ 100000) : Triple Try.prog 111 [.c (.s 0 0 2 1)]
    [(0, false, .arr (aRows 1 [1, 2] [[.s 1 0 xs.length 4], [.s 2 0 ys.length 4]])), (1, false, .arr (aLink xs)), (2, false, .arr (aLink ys))] 3 (.c (.s 3 0 (xs ++ ys).length 4)) [(3, true, .arr (aLink (xs ++ ys)))] := by
  refine triple_of tB_ok Try.func111 rfl Try.call111 rfl ?_
  intro ρ w hH
  conv => whnf
  refine loop_step tB_ok (G := Nat × Int) 0 [] (fun g => [(11, iv .i64 g.1), (3, iv .i64 g.2)]) (fun _ => []) (fun g => (g.1 = 0 ∧ g.2 = 0) ∨ (g.1 = 1 ∧ g.2 = xs.length) ∨ (g.1 = 2 ∧ g.2 = (xs.length : Int) + ys.length)) (fun g => 2 - g.1) ?_
  conv => whnf
  refine ⟨⟨(0, 0), .inl ⟨rfl, rfl⟩, ?_⟩, ?_⟩
  · conv => whnf
    repeat' (first | exact trivial | exact rfl | refine And.intro ?_ ?_ | ((conv => whnf); first | exact trivial | exact rfl | refine And.intro ?_ ?_ | omega))
  rintro ⟨i, tot⟩ hi ρ1 t1 hρ1
  have hi : (i = 0 ∧ tot = 0) ∨ (i = 1 ∧ tot = xs.length) ∨ (i = 2 ∧ tot = (xs.length : Int) + ys.length) := hi
  dsimp only
  rcases hi with ⟨rfl, rfl⟩ | ⟨rfl, rfl⟩ | ⟨rfl, rfl⟩
  · conv => whnf
    refine ⟨fun hc => ?_, fun hc => absurd hc (by decide)⟩
    conv => whnf
    refine ⟨0, rfl, by decide, by show _ < 2; decide, ?_⟩
    conv => whnf
    refine ⟨(xs.length : Int), by show IntKind.i64.wrap ((0 : Int) + xs.length) = xs.length; rw [Int.zero_add]; exact wrapId ⟨by omega, by omega⟩, ?_⟩
    conv => whnf
    refine ⟨fun hc => absurd (of_decide_eq_true hc) (by omega), fun hc => ?_⟩
    conv => whnf
    refine ⟨1, rfl, ?_⟩
    refine ⟨(1, (xs.length : Int)), .inr (.inl ⟨rfl, rfl⟩), by show 2 - 1 < 2 - 0; decide, ?_⟩
    conv => whnf
    refine ⟨rfl, ?_⟩
    conv => whnf
    repeat' (first | exact trivial | exact rfl | refine And.intro ?_ ?_ | ((conv => whnf); first | exact trivial | exact rfl | refine And.intro ?_ ?_ | omega))
  · conv => whnf
    refine ⟨fun hc => ?_, fun hc => absurd hc (by decide)⟩
    conv => whnf
    refine ⟨1, rfl, by decide, by show _ < 2; decide, ?_⟩
    conv => whnf
    refine ⟨(xs.length : Int) + ys.length, wrapId ⟨by omega, by omega⟩, ?_⟩
    conv => whnf
    refine ⟨fun hc => absurd (of_decide_eq_true hc) (by omega), fun hc => ?_⟩
    conv => whnf
    refine ⟨2, rfl, ?_⟩
    refine ⟨(2, (xs.length : Int) + ys.length), .inr (.inr ⟨rfl, rfl⟩), by show 2 - 2 < 2 - 1; decide, ?_⟩
    conv => whnf
    refine ⟨rfl, ?_⟩
    conv => whnf
    repeat' (first | exact trivial | exact rfl | refine And.intro ?_ ?_ | ((conv => whnf); first | exact trivial | exact rfl | refine And.intro ?_ ?_ | omega))
  conv => whnf
  refine ⟨fun hc => absurd (show decide (((2 : Nat) : Int) < 2) = true from hc) (by decide), fun hc => ?_⟩
  conv => whnf
  have hg := growLink_t (xs.length + ys.length) (by omega)
  rw [show ((xs.length + ys.length : Nat) : Int) = (xs.length : Int) + ys.length from by omega] at hg
  refine call_step hg rfl rfl ?_
  conv => whnf
  refine ⟨(by repeat' (first | exact trivial | exact rfl | refine And.intro ?_ ?_ | ((conv => whnf); first | exact trivial | exact rfl | refine And.intro ?_ ?_ | omega))), (by repeat' (first | exact trivial | exact rfl | refine And.intro ?_ ?_ | ((conv => whnf); first | exact trivial | exact rfl | refine And.intro ?_ ?_ | omega))), ?_⟩
  conv => whnf
  refine loop_step tB_ok (G := Nat × List Lnk) 1 [3] (fun g => [(27, iv .i64 g.1), (6, .c (.s 4 0 g.2.length 4))]) (fun g => [(4, true, .arr (aLink g.2))]) (fun g => (g.1 = 0 ∧ [] = g.2) ∨ (g.1 = 1 ∧ xs = g.2) ∨ (g.1 = 2 ∧ xs ++ ys = g.2)) (fun g => 2 - g.1) ?_
  conv => whnf
  refine ⟨⟨(0, []), .inl ⟨rfl, rfl⟩, ?_⟩, ?_⟩
  · conv => whnf
    repeat' (first | exact trivial | exact rfl | refine And.intro ?_ ?_ | ((conv => whnf); first | exact trivial | exact rfl | refine And.intro ?_ ?_ | omega))
  rintro ⟨i, out⟩ hi ρ2 t2 hρ2
  have hi : (i = 0 ∧ [] = out) ∨ (i = 1 ∧ xs = out) ∨ (i = 2 ∧ xs ++ ys = out) := hi
  dsimp only
  rcases hi with ⟨rfl, rfl⟩ | ⟨rfl, rfl⟩ | ⟨rfl, rfl⟩
  · conv => whnf
    refine ⟨fun hc => ?_, fun hc => absurd hc (by decide)⟩
    conv => whnf
    refine ⟨0, rfl, by decide, by show _ < 2; decide, ?_⟩
    conv => whnf
    refine app_step tB_ok (aLink []) xs (fun _ => rfl) rfl rfl rfl rfl ?_
    conv => whnf
    refine ⟨⟨rfl, rfl, Nat.le_refl _, by rw [Nat.zero_add]; exact Nat.le_refl _, by show (List.length (α := Lnk) [] + xs.length) * 33 ≤ _; first | omega | (simp only [List.length_nil]; omega)⟩, ?_⟩
    conv => whnf
    refine ⟨1, rfl, ?_⟩
    refine ⟨(1, xs), .inr (.inl ⟨rfl, rfl⟩), by show 2 - 1 < 2 - 0; decide, ?_⟩
    conv => whnf
    refine ⟨rfl, ?_⟩
    conv => whnf
    repeat' (first | exact trivial | exact rfl | refine And.intro ?_ ?_ | ((conv => whnf); first | exact trivial | exact rfl | refine And.intro ?_ ?_ | omega))
    all_goals first | exact (congrArg aLink appAll : _) | exact (congrArg aLink (appAll (xs := [])) : _) | simp
  · conv => whnf
    refine ⟨fun hc => ?_, fun hc => absurd hc (by decide)⟩
    conv => whnf
    refine ⟨1, rfl, by decide, by show _ < 2; decide, ?_⟩
    conv => whnf
    refine app_step tB_ok (aLink xs) ys (fun _ => rfl) rfl rfl rfl rfl ?_
    conv => whnf
    refine ⟨⟨rfl, rfl, Nat.le_refl _, by rw [Nat.zero_add]; exact Nat.le_refl _, by show (List.length (α := Lnk) xs + ys.length) * 33 ≤ _; first | omega | (simp only [List.length_nil]; omega)⟩, ?_⟩
    conv => whnf
    refine ⟨2, rfl, ?_⟩
    refine ⟨(2, xs ++ ys), .inr (.inr ⟨rfl, rfl⟩), by show 2 - 2 < 2 - 1; decide, ?_⟩
    conv => whnf
    refine ⟨rfl, ?_⟩
    conv => whnf
    repeat' (first | exact trivial | exact rfl | refine And.intro ?_ ?_ | ((conv => whnf); first | exact trivial | exact rfl | refine And.intro ?_ ?_ | omega))
    all_goals first | exact (congrArg aLink appAll : _) | exact (congrArg aLink (appAll (xs := [])) : _) | simp
  conv => whnf
  refine ⟨fun hc => absurd (show decide (((2 : Nat) : Int) < 2) = true from hc) (by decide), fun hc => ?_⟩
  conv => whnf
  repeat' (first | exact trivial | exact rfl | refine And.intro ?_ ?_ | ((conv => whnf); first | exact trivial | exact rfl | refine And.intro ?_ ?_ | omega))

end Go.Proofs

