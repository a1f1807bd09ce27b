/-
  A part of the proof that a law of dryweightlaw03 answers true: lemmas of a symbolic walk, plain functions, or contracts of the functions walked (Xt). Conditions: none.
-/
import Derived.Test.YtjjfadfmdodmnaaPart24
set_option maxRecDepth 100000
set_option linter.unusedVariables false
namespace Go.Proofs
open Go.Sx

theorem systemSums_t (bs : List (Int × Int)) (ls : List Lnk) (a : Int) (ha : 0 ≤ a ∧ a < 256) (b : Int) (hb : 0 ≤ b ∧ b < 256) (f g : List (Int × Int)) :
    Triple Try.prog 5 [sysA bs.length ls.length, iv .u8 a, iv .u8 b, .c (.s 2 0 f.length 2), .c (.s 3 0 g.length 2)] (sysH bs ls ++ [(2, false, .arr (aSpan f)), (3, false, .arr (aSpan g))]) 4 (bv true) [] := by
  by_cases h : NetOK bs ls
  · have hfew := h.few
    have hnb := h.sys.nb
    have hnl := h.sys.nl
    by_cases hn2 : 2 ≤ bs.length
    · by_cases hF : formedB bs.length f 512 = true
      · by_cases hG : formedB bs.length g 512 = true
        · obtain ⟨f1, f2, f3⟩ := formedB_iff.1 hF
          obtain ⟨g1, g2, g3⟩ := formedB_iff.1 hG
          have hzb : ∀ y ∈ List.replicate bs.length (0 : Int), -512 ≤ y ∧ y ≤ 512 := fun y hy => by obtain ⟨_, rfl⟩ := List.mem_replicate.1 hy; omega
          have hfb : ∀ y ∈ coefF 1 f (List.replicate bs.length 0), -512 ≤ y ∧ y ≤ 512 :=
            coefF_bd f3 (fun t ht => ⟨by rw [List.length_replicate]; exact (f2 t ht).1, by have := (f2 t ht).2; omega⟩) (fun t _ => replicate_getD _ _) hzb
          obtain ⟨hbo, hsumv⟩ := sum_law (bs := bs) hnb hF hG
          obtain ⟨vx, ux, px, hbf, vxb, _, pxa, vxe, vxm⟩ := best_call h.w (formedB_formF hF (by omega) hnb)
          obtain ⟨vy, uy, py, hbg, vyb, _, pya, vye, vym⟩ := best_call h.w (formedB_formF hG (by omega) hnb)
          obtain ⟨vz, uz, pz, hbz, vzb, _, pza, vze, vzm⟩ := best_call h.w hbo
          obtain ⟨vl, ul, pl, hbl, vlb, _, pla, vle, vlm⟩ := least_call h.w hbo
          have hzxy : vz ≤ vx + vy := by
            have h1 := vxm pz pza
            have h2 := vym pz pza
            have h3 := hsumv pz
            omega
          have hlz : -vl ≤ vz := by
            have h1 := vzm pl pla
            omega
          obtain ⟨i, hie⟩ : ∃ i : Nat, Int.tmod a (bs.length : Int) = (i : Int) ∧ i < bs.length := by
            have h1 := Int.tmod_nonneg (bs.length : Int) ha.1
            have h2 := Int.tmod_lt_of_pos a (show (0 : Int) < bs.length by omega)
            exact ⟨(Int.tmod a (bs.length : Int)).toNat, by omega, by omega⟩
          obtain ⟨k, hke⟩ : ∃ k : Nat, Int.tmod b (bs.length : Int) = (k : Int) ∧ k < bs.length := by
            have h1 := Int.tmod_nonneg (bs.length : Int) hb.1
            have h2 := Int.tmod_lt_of_pos b (show (0 : Int) < bs.length by omega)
            exact ⟨(Int.tmod b (bs.length : Int)).toNat, by omega, by omega⟩
          refine triple_of tB_ok Try.func5 rfl Try.call5 rfl ?_
          intro ρ w hH
          conv => whnf
          refine call_step head_t rfl rfl ?_
          conv => whnf
          refine ⟨(by repeat' (first | exact trivial | exact rfl | refine And.intro ?_ ?_ | ((conv => whnf); first | exact trivial | exact rfl | refine And.intro ?_ ?_ | omega))), (by repeat' (first | exact trivial | exact rfl | refine And.intro ?_ ?_ | ((conv => whnf); first | exact trivial | exact rfl | refine And.intro ?_ ?_ | omega))), ?_⟩
          conv => whnf
          refine call_step (startYes_t bs ls h) rfl rfl ?_
          conv => whnf
          refine ⟨(by repeat' (first | exact trivial | exact rfl | refine And.intro ?_ ?_ | ((conv => whnf); first | exact trivial | exact rfl | refine And.intro ?_ ?_ | omega))), (by repeat' (first | exact trivial | exact rfl | refine And.intro ?_ ?_ | ((conv => whnf); first | exact trivial | exact rfl | refine And.intro ?_ ?_ | omega))), ?_⟩
          conv => whnf
          refine ⟨fun hc => absurd (of_decide_eq_true (show decide ((bs.length : Int) < 2) = true from hc)) (by omega), fun hc => ?_⟩
          conv => whnf
          refine call_step (lawFormed_t bs ls f 512 (by omega) (by omega)) rfl rfl ?_
          conv => whnf
          refine ⟨(by repeat' (first | exact trivial | exact rfl | refine And.intro ?_ ?_ | ((conv => whnf); first | exact trivial | exact rfl | refine And.intro ?_ ?_ | omega))), (by repeat' (first | exact trivial | exact rfl | refine And.intro ?_ ?_ | ((conv => whnf); first | exact trivial | exact rfl | refine And.intro ?_ ?_ | omega))), ?_⟩
          conv => whnf
          rw [hF]
          refine ⟨fun hc => absurd hc (by simp), fun hc => ?_⟩
          conv => whnf
          refine call_step (lawFormed_t bs ls g 512 (by omega) (by omega)) rfl rfl ?_
          conv => whnf
          refine ⟨(by repeat' (first | exact trivial | exact rfl | refine And.intro ?_ ?_ | ((conv => whnf); first | exact trivial | exact rfl | refine And.intro ?_ ?_ | omega))), (by repeat' (first | exact trivial | exact rfl | refine And.intro ?_ ?_ | ((conv => whnf); first | exact trivial | exact rfl | refine And.intro ?_ ?_ | omega))), ?_⟩
          conv => whnf
          rw [hG]
          refine ⟨fun hc => absurd hc (by simp), fun hc => ?_⟩
          conv => whnf
          refine ⟨a, wrapId ⟨by omega, by omega⟩, ?_⟩
          conv => whnf
          refine ⟨(show (bs.length : Int) ≠ 0 by omega), (i : Int), hie.1, ?_⟩
          conv => whnf
          refine ⟨b, wrapId ⟨by omega, by omega⟩, ?_⟩
          conv => whnf
          refine ⟨(show (bs.length : Int) ≠ 0 by omega), (k : Int), hke.1, ?_⟩
          conv => whnf
          refine ⟨fun hc => ?_, fun hc => ?_⟩
          · have hik : i ≠ k := by
              have : ((i : Nat) : Int) ≠ ((k : Nat) : Int) := by simpa using hc
              omega
            obtain ⟨vd, ud, pd, hbd, vdb, _, pda, vde, vdm⟩ := best_call h.w (diff_form hie.2 hke.2 hik hnb)
            have hvd := diff_law h hie.2 hke.2 hik pda vde vdm
            have hw : withinF (i : Int) (-1) ((bs.length : Int) - 1) = true ∧ withinF (k : Int) (-1) ((bs.length : Int) - 1) = true := by simp [withinF]; omega
            have hra := range_t bs ls (i : Int) (k : Int) h.sys (by omega) (by omega) hw.1 hw.2 _ vd rfl hvd
            generalize -mostF bs.length (graphF bs ls 0) (k : Int) (i : Int) = lo at *
            conv => whnf
            refine call_step hra rfl rfl ?_
            conv => whnf
            refine ⟨(by repeat' (first | exact trivial | exact rfl | refine And.intro ?_ ?_ | ((conv => whnf); first | exact trivial | exact rfl | refine And.intro ?_ ?_ | omega))), (by repeat' (first | exact trivial | exact rfl | refine And.intro ?_ ?_ | ((conv => whnf); first | exact trivial | exact rfl | refine And.intro ?_ ?_ | omega))), ?_⟩
            conv => whnf
            refine bs_step tB_ok (aSpan [((k : Int), 1), ((i : Int), -1)]) rfl rfl ?_
            conv => whnf
            refine ⟨(by repeat' (first | exact trivial | exact rfl | refine And.intro ?_ ?_ | ((conv => whnf); first | exact trivial | exact rfl | refine And.intro ?_ ?_ | omega))), ?_⟩
            conv => whnf
            refine call_step hbd rfl rfl ?_
            conv => whnf
            refine ⟨(by repeat' (first | exact trivial | exact rfl | refine And.intro ?_ ?_ | ((conv => whnf); first | exact trivial | exact rfl | refine And.intro ?_ ?_ | omega))), (by repeat' (first | exact trivial | exact rfl | refine And.intro ?_ ?_ | ((conv => whnf); first | exact trivial | exact rfl | refine And.intro ?_ ?_ | omega))), ?_⟩
            conv => whnf
            refine ⟨fun hc => absurd hc (by simp), fun hc => ?_⟩
            conv => whnf
            refine ⟨fun hc => absurd hc (by simp), fun hc => ?_⟩
            conv => whnf
            refine ⟨fun hc => absurd hc (by simp), fun hc => ?_⟩
            conv => whnf
            refine mks_step tB_ok (aInt (List.replicate bs.length 0)) rfl rfl ?_
            conv => whnf
            refine ⟨bs.length, ⟨List.length_replicate, rfl, rfl, by show bs.length * 9 ≤ _; omega, fun x hx => ?_⟩, ?_⟩
            · obtain ⟨_, rfl⟩ := List.mem_replicate.1 hx
              repeat' (first | exact trivial | exact rfl | refine And.intro ?_ ?_ | ((conv => whnf); first | exact trivial | exact rfl | refine And.intro ?_ ?_ | omega))
            conv => whnf
            refine loop_step tB_ok (G := Nat × List Int) 0 [] (fun e => [(21, iv .i64 e.1)]) (fun e => [(13, true, .arr (aInt e.2))]) (fun e => e.1 ≤ f.length ∧ e.2.length = bs.length ∧ (∀ y ∈ e.2, -(((e.1 : Nat) : Int) * 4096 + 4096) ≤ y ∧ y ≤ ((e.1 : Nat) : Int) * 4096 + 4096) ∧ coefF 1 f (List.replicate bs.length 0) = coefF 1 (f.drop e.1) e.2) (fun e => f.length - e.1) ?_
            conv => whnf
            refine ⟨⟨(0, (List.replicate bs.length 0)), ⟨Nat.zero_le _, List.length_replicate, fun y hy => by have := hzb y hy; show -(((0 : Nat) : Int) * 4096 + 4096) ≤ y ∧ y ≤ ((0 : Nat) : Int) * 4096 + 4096; omega, rfl⟩, ?_⟩, ?_⟩
            · conv => whnf
              repeat' (first | exact trivial | exact rfl | refine And.intro ?_ ?_ | ((conv => whnf); first | exact trivial | exact rfl | refine And.intro ?_ ?_ | omega))
            rintro ⟨j, out⟩ ⟨hj, outl, outb, outg⟩ ρ21 t21 hρ21
            have hj : j ≤ f.length := hj
            have outl : out.length = bs.length := outl
            have outb : ∀ y ∈ out, -((j : Int) * 4096 + 4096) ≤ y ∧ y ≤ (j : Int) * 4096 + 4096 := outb
            have outg : coefF 1 f (List.replicate bs.length 0) = coefF 1 (f.drop j) out := outg
            dsimp only
            conv => whnf
            refine ⟨fun hc => ?_, fun hc => ?_⟩
            · have hlt : j < f.length := by simpa using hc
              obtain ⟨⟨hv0, hv1⟩, hb0, hb1⟩ := f2 f[j] (List.getElem_mem hlt)
              obtain ⟨v, hve⟩ : ∃ v : Nat, f[j].1 = (v : Int) := ⟨f[j].1.toNat, by omega⟩
              have hvl : v < out.length := by omega
              have hov := outb _ (List.getElem_mem hvl)
              obtain ⟨u, hu⟩ : ∃ u, u = out[v] + f[j].2 := ⟨_, rfl⟩
              rw [List.drop_eq_getElem_cons hlt] at outg
              have hst : coefF 1 (f[j] :: f.drop (j + 1)) out = coefF 1 (f.drop (j + 1)) (out.set v u) := by
                simp only [coefF]
                rw [show f[j].1.toNat = v from by omega, getD_of hvl, Int.one_mul, ← hu]
              conv => whnf
              refine ⟨j, rfl, hlt, hlt, ?_⟩
              conv => whnf
              refine ⟨j, rfl, hlt, hlt, ?_⟩
              conv => whnf
              refine ⟨v, hve, by show v < bs.length; omega, hvl, ?_⟩
              conv => whnf
              refine ⟨j, rfl, hlt, hlt, ?_⟩
              conv => whnf
              refine ⟨u, (congrArg IntKind.i64.wrap (show out[v] + f[j].2 = u from hu.symm)).trans (wrapId ⟨by omega, by omega⟩), ?_⟩
              conv => whnf
              refine ⟨v, hve, by show v < bs.length; omega, hvl, u, rfl, ?_⟩
              conv => whnf
              refine ⟨(j : Int) + 1, wrapId (z := (j : Int) + 1) ⟨by omega, by omega⟩, ?_⟩
              refine ⟨(j + 1, out.set v u), ⟨hlt, by show (out.set v u).length = bs.length; rw [List.length_set]; exact outl, ?_, by show coefF 1 f (List.replicate bs.length 0) = coefF 1 (f.drop (j + 1)) (out.set v u); rw [outg, hst]⟩, by show f.length - (j + 1) < f.length - j; omega, ?_⟩
              · intro y hy
                show -(((j + 1 : Nat) : Int) * 4096 + 4096) ≤ y ∧ y ≤ ((j + 1 : Nat) : Int) * 4096 + 4096
                rcases List.mem_or_eq_of_mem_set hy with hy | rfl
                · have := outb y hy; omega
                · omega
              conv => whnf
              refine ⟨rfl, ?_⟩
              conv => whnf
              repeat' (first | exact trivial | exact rfl | refine And.intro ?_ ?_ | ((conv => whnf); first | exact trivial | exact rfl | refine And.intro ?_ ?_ | omega))
            have hje : j = f.length := by simp at hc; omega
            rw [hje, List.drop_length] at outg
            have outg : coefF 1 f (List.replicate bs.length 0) = out := outg
            rw [hje]
            clear hje hc hj
            conv => whnf
            have hob : ∀ y ∈ out, -512 ≤ y ∧ y ≤ 512 := fun y hy => hfb y (by rw [outg]; exact hy)
            refine loop_step tB_ok (G := Nat × List Int) 0 [] (fun e => [(22, iv .i64 e.1)]) (fun e => [(13, true, .arr (aInt e.2))]) (fun e => e.1 ≤ g.length ∧ e.2.length = bs.length ∧ (∀ y ∈ e.2, -(((e.1 : Nat) : Int) * 4096 + 4096) ≤ y ∧ y ≤ ((e.1 : Nat) : Int) * 4096 + 4096) ∧ coefF 1 g out = coefF 1 (g.drop e.1) e.2) (fun e => g.length - e.1) ?_
            conv => whnf
            refine ⟨⟨(0, out), ⟨Nat.zero_le _, outl, fun y hy => by have := hob y hy; show -(((0 : Nat) : Int) * 4096 + 4096) ≤ y ∧ y ≤ ((0 : Nat) : Int) * 4096 + 4096; omega, rfl⟩, ?_⟩, ?_⟩
            · conv => whnf
              repeat' (first | exact trivial | exact rfl | refine And.intro ?_ ?_ | ((conv => whnf); first | exact trivial | exact rfl | refine And.intro ?_ ?_ | omega))
            rintro ⟨j, sum⟩ ⟨hj, suml, sumb, sumg⟩ ρ22 t22 hρ22
            have hj : j ≤ g.length := hj
            have suml : sum.length = bs.length := suml
            have sumb : ∀ y ∈ sum, -((j : Int) * 4096 + 4096) ≤ y ∧ y ≤ (j : Int) * 4096 + 4096 := sumb
            have sumg : coefF 1 g out = coefF 1 (g.drop j) sum := sumg
            dsimp only
            conv => whnf
            refine ⟨fun hc => ?_, fun hc => ?_⟩
            · have hlt : j < g.length := by simpa using hc
              obtain ⟨⟨hv0, hv1⟩, hb0, hb1⟩ := g2 g[j] (List.getElem_mem hlt)
              obtain ⟨v, hve⟩ : ∃ v : Nat, g[j].1 = (v : Int) := ⟨g[j].1.toNat, by omega⟩
              have hvl : v < sum.length := by omega
              have hov := sumb _ (List.getElem_mem hvl)
              obtain ⟨u, hu⟩ : ∃ u, u = sum[v] + g[j].2 := ⟨_, rfl⟩
              rw [List.drop_eq_getElem_cons hlt] at sumg
              have hst : coefF 1 (g[j] :: g.drop (j + 1)) sum = coefF 1 (g.drop (j + 1)) (sum.set v u) := by
                simp only [coefF]
                rw [show g[j].1.toNat = v from by omega, getD_of hvl, Int.one_mul, ← hu]
              conv => whnf
              refine ⟨j, rfl, hlt, hlt, ?_⟩
              conv => whnf
              refine ⟨j, rfl, hlt, hlt, ?_⟩
              conv => whnf
              refine ⟨v, hve, by show v < bs.length; omega, hvl, ?_⟩
              conv => whnf
              refine ⟨j, rfl, hlt, hlt, ?_⟩
              conv => whnf
              refine ⟨u, (congrArg IntKind.i64.wrap (show sum[v] + g[j].2 = u from hu.symm)).trans (wrapId ⟨by omega, by omega⟩), ?_⟩
              conv => whnf
              refine ⟨v, hve, by show v < bs.length; omega, hvl, u, rfl, ?_⟩
              conv => whnf
              refine ⟨(j : Int) + 1, wrapId (z := (j : Int) + 1) ⟨by omega, by omega⟩, ?_⟩
              refine ⟨(j + 1, sum.set v u), ⟨hlt, by show (sum.set v u).length = bs.length; rw [List.length_set]; exact suml, ?_, by show coefF 1 g out = coefF 1 (g.drop (j + 1)) (sum.set v u); rw [sumg, hst]⟩, by show g.length - (j + 1) < g.length - j; omega, ?_⟩
              · intro y hy
                show -(((j + 1 : Nat) : Int) * 4096 + 4096) ≤ y ∧ y ≤ ((j + 1 : Nat) : Int) * 4096 + 4096
                rcases List.mem_or_eq_of_mem_set hy with hy | rfl
                · have := sumb y hy; omega
                · omega
              conv => whnf
              refine ⟨rfl, ?_⟩
              conv => whnf
              repeat' (first | exact trivial | exact rfl | refine And.intro ?_ ?_ | ((conv => whnf); first | exact trivial | exact rfl | refine And.intro ?_ ?_ | omega))
            have hje : j = g.length := by simp at hc; omega
            rw [hje, List.drop_length] at sumg
            have sumg : coefF 1 g out = sum := sumg
            rw [hje]
            clear hje hc hj
            conv => whnf
            have hsum : sumL bs.length f g = sum := by rw [sumL, outg, sumg]
            rw [hsum] at hbz hbl
            refine loop_step tB_ok (G := Nat × List (Int × Int)) 1 [] (fun e => [(24, iv .i64 e.1), (23, .c (.s 14 0 e.2.length 2))]) (fun e => [(14, true, .arr (aSpan e.2))]) (fun e => e.1 ≤ bs.length ∧ e.2 = bothL 0 (sum.take e.1)) (fun e => bs.length - e.1) ?_
            conv => whnf
            refine ⟨⟨(0, []), ⟨Nat.zero_le _, rfl⟩, ?_⟩, ?_⟩
            · conv => whnf
              repeat' (first | exact trivial | exact rfl | refine And.intro ?_ ?_ | ((conv => whnf); first | exact trivial | exact rfl | refine And.intro ?_ ?_ | omega))
            rintro ⟨j, ys⟩ ⟨hj, hys⟩ ρ2 t2 hρ2
            have hj : j ≤ bs.length := hj
            have hys : ys = bothL 0 (sum.take j) := hys
            have hyl : ys.length = j := by rw [hys, bothL_len]; simp; omega
            dsimp only
            conv => whnf
            refine ⟨fun hc => ?_, fun hc => ?_⟩
            · have hlt : j < bs.length := by simpa using hc
              have hls : j < sum.length := by omega
              have hst : ys ++ [((j : Int), sum[j])] = bothL 0 (sum.take (j + 1)) := by
                rw [hys, take_snoc hls, bothL_snoc]
                simp; omega
              conv => whnf
              refine ⟨j, rfl, by show j < bs.length; omega, hls, ?_⟩
              conv => whnf
              refine bs_step tB_ok (aSpan [((j : Int), sum[j])]) rfl rfl ?_
              conv => whnf
              refine ⟨(by repeat' (first | exact trivial | exact rfl | refine And.intro ?_ ?_ | ((conv => whnf); first | exact trivial | exact rfl | refine And.intro ?_ ?_ | omega))), ?_⟩
              conv => whnf
              refine app_step tB_ok (aSpan ys) [((j : Int), sum[j])] (fun _ => rfl) rfl rfl rfl rfl ?_
              conv => whnf
              refine ⟨⟨rfl, rfl, Nat.le_refl _, Nat.le_refl _, by show (ys.length + 1) * 17 ≤ _; omega⟩, ?_⟩
              conv => whnf
              refine ⟨(j : Int) + 1, wrapId (z := (j : Int) + 1) ⟨by omega, by omega⟩, ?_⟩
              refine ⟨(j + 1, ys ++ [((j : Int), sum[j])]), ⟨hlt, hst⟩, by show bs.length - (j + 1) < bs.length - j; omega, ?_⟩
              conv => whnf
              refine ⟨rfl, ?_⟩
              conv => whnf
              repeat' (first | exact trivial | exact rfl | refine And.intro ?_ ?_ | ((conv => whnf); first | exact trivial | exact rfl | refine And.intro ?_ ?_ | omega))
              all_goals first | exact (congrArg aSpan app1 : _) | simp
            have hje : j = bs.length := by simp at hc; omega
            rw [hje, List.take_of_length_le (by omega)] at hys
            subst hys
            conv => whnf
            refine call_step hbf rfl rfl ?_
            conv => whnf
            refine ⟨(by repeat' (first | exact trivial | exact rfl | refine And.intro ?_ ?_ | ((conv => whnf); first | exact trivial | exact rfl | refine And.intro ?_ ?_ | omega))), (by repeat' (first | exact trivial | exact rfl | refine And.intro ?_ ?_ | ((conv => whnf); first | exact trivial | exact rfl | refine And.intro ?_ ?_ | omega))), ?_⟩
            conv => whnf
            refine call_step hbg rfl rfl ?_
            conv => whnf
            refine ⟨(by repeat' (first | exact trivial | exact rfl | refine And.intro ?_ ?_ | ((conv => whnf); first | exact trivial | exact rfl | refine And.intro ?_ ?_ | omega))), (by repeat' (first | exact trivial | exact rfl | refine And.intro ?_ ?_ | ((conv => whnf); first | exact trivial | exact rfl | refine And.intro ?_ ?_ | omega))), ?_⟩
            conv => whnf
            refine call_step hbz rfl rfl ?_
            conv => whnf
            refine ⟨(by repeat' (first | exact trivial | exact rfl | refine And.intro ?_ ?_ | ((conv => whnf); first | exact trivial | exact rfl | refine And.intro ?_ ?_ | omega))), (by repeat' (first | exact trivial | exact rfl | refine And.intro ?_ ?_ | ((conv => whnf); first | exact trivial | exact rfl | refine And.intro ?_ ?_ | omega))), ?_⟩
            conv => whnf
            refine call_step hbl rfl rfl ?_
            conv => whnf
            refine ⟨(by repeat' (first | exact trivial | exact rfl | refine And.intro ?_ ?_ | ((conv => whnf); first | exact trivial | exact rfl | refine And.intro ?_ ?_ | omega))), (by repeat' (first | exact trivial | exact rfl | refine And.intro ?_ ?_ | ((conv => whnf); first | exact trivial | exact rfl | refine And.intro ?_ ?_ | omega))), ?_⟩
            conv => whnf
            refine ⟨fun hc => ?_, fun hc => absurd hc (by simp)⟩
            conv => whnf
            refine ⟨fun hc => ?_, fun hc => absurd hc (by simp)⟩
            conv => whnf
            refine ⟨fun hc => ?_, fun hc => absurd hc (by simp)⟩
            conv => whnf
            refine ⟨fun hc => ?_, fun hc => absurd hc (by simp)⟩
            conv => whnf
            refine ⟨fun hc => ?_, fun hc => absurd hc (by simp)⟩
            conv => whnf
            refine ⟨vx + vy, wrapId (z := vx + vy) ⟨by omega, by omega⟩, ?_⟩
            conv => whnf
            refine ⟨fun hc => ?_, fun hc => absurd (of_decide_eq_false (show decide (vz ≤ vx + vy) = false from hc)) (by omega)⟩
            conv => whnf
            refine ⟨?_, trivial⟩
            exact decide_eq_true (show -vl ≤ vz by omega)
          · conv => whnf
            refine mks_step tB_ok (aInt (List.replicate bs.length 0)) rfl rfl ?_
            conv => whnf
            refine ⟨bs.length, ⟨List.length_replicate, rfl, rfl, by show bs.length * 9 ≤ _; omega, fun x hx => ?_⟩, ?_⟩
            · obtain ⟨_, rfl⟩ := List.mem_replicate.1 hx
              repeat' (first | exact trivial | exact rfl | refine And.intro ?_ ?_ | ((conv => whnf); first | exact trivial | exact rfl | refine And.intro ?_ ?_ | omega))
            conv => whnf
            refine loop_step tB_ok (G := Nat × List Int) 0 [] (fun e => [(21, iv .i64 e.1)]) (fun e => [(8, true, .arr (aInt e.2))]) (fun e => e.1 ≤ f.length ∧ e.2.length = bs.length ∧ (∀ y ∈ e.2, -(((e.1 : Nat) : Int) * 4096 + 4096) ≤ y ∧ y ≤ ((e.1 : Nat) : Int) * 4096 + 4096) ∧ coefF 1 f (List.replicate bs.length 0) = coefF 1 (f.drop e.1) e.2) (fun e => f.length - e.1) ?_
            conv => whnf
            refine ⟨⟨(0, (List.replicate bs.length 0)), ⟨Nat.zero_le _, List.length_replicate, fun y hy => by have := hzb y hy; show -(((0 : Nat) : Int) * 4096 + 4096) ≤ y ∧ y ≤ ((0 : Nat) : Int) * 4096 + 4096; omega, rfl⟩, ?_⟩, ?_⟩
            · conv => whnf
              repeat' (first | exact trivial | exact rfl | refine And.intro ?_ ?_ | ((conv => whnf); first | exact trivial | exact rfl | refine And.intro ?_ ?_ | omega))
            rintro ⟨j, out⟩ ⟨hj, outl, outb, outg⟩ ρ21 t21 hρ21
            have hj : j ≤ f.length := hj
            have outl : out.length = bs.length := outl
            have outb : ∀ y ∈ out, -((j : Int) * 4096 + 4096) ≤ y ∧ y ≤ (j : Int) * 4096 + 4096 := outb
            have outg : coefF 1 f (List.replicate bs.length 0) = coefF 1 (f.drop j) out := outg
            dsimp only
            conv => whnf
            refine ⟨fun hc => ?_, fun hc => ?_⟩
            · have hlt : j < f.length := by simpa using hc
              obtain ⟨⟨hv0, hv1⟩, hb0, hb1⟩ := f2 f[j] (List.getElem_mem hlt)
              obtain ⟨v, hve⟩ : ∃ v : Nat, f[j].1 = (v : Int) := ⟨f[j].1.toNat, by omega⟩
              have hvl : v < out.length := by omega
              have hov := outb _ (List.getElem_mem hvl)
              obtain ⟨u, hu⟩ : ∃ u, u = out[v] + f[j].2 := ⟨_, rfl⟩
              rw [List.drop_eq_getElem_cons hlt] at outg
              have hst : coefF 1 (f[j] :: f.drop (j + 1)) out = coefF 1 (f.drop (j + 1)) (out.set v u) := by
                simp only [coefF]
                rw [show f[j].1.toNat = v from by omega, getD_of hvl, Int.one_mul, ← hu]
              conv => whnf
              refine ⟨j, rfl, hlt, hlt, ?_⟩
              conv => whnf
              refine ⟨j, rfl, hlt, hlt, ?_⟩
              conv => whnf
              refine ⟨v, hve, by show v < bs.length; omega, hvl, ?_⟩
              conv => whnf
              refine ⟨j, rfl, hlt, hlt, ?_⟩
              conv => whnf
              refine ⟨u, (congrArg IntKind.i64.wrap (show out[v] + f[j].2 = u from hu.symm)).trans (wrapId ⟨by omega, by omega⟩), ?_⟩
              conv => whnf
              refine ⟨v, hve, by show v < bs.length; omega, hvl, u, rfl, ?_⟩
              conv => whnf
              refine ⟨(j : Int) + 1, wrapId (z := (j : Int) + 1) ⟨by omega, by omega⟩, ?_⟩
              refine ⟨(j + 1, out.set v u), ⟨hlt, by show (out.set v u).length = bs.length; rw [List.length_set]; exact outl, ?_, by show coefF 1 f (List.replicate bs.length 0) = coefF 1 (f.drop (j + 1)) (out.set v u); rw [outg, hst]⟩, by show f.length - (j + 1) < f.length - j; omega, ?_⟩
              · intro y hy
                show -(((j + 1 : Nat) : Int) * 4096 + 4096) ≤ y ∧ y ≤ ((j + 1 : Nat) : Int) * 4096 + 4096
                rcases List.mem_or_eq_of_mem_set hy with hy | rfl
                · have := outb y hy; omega
                · omega
              conv => whnf
              refine ⟨rfl, ?_⟩
              conv => whnf
              repeat' (first | exact trivial | exact rfl | refine And.intro ?_ ?_ | ((conv => whnf); first | exact trivial | exact rfl | refine And.intro ?_ ?_ | omega))
            have hje : j = f.length := by simp at hc; omega
            rw [hje, List.drop_length] at outg
            have outg : coefF 1 f (List.replicate bs.length 0) = out := outg
            rw [hje]
            clear hje hc hj
            conv => whnf
            have hob : ∀ y ∈ out, -512 ≤ y ∧ y ≤ 512 := fun y hy => hfb y (by rw [outg]; exact hy)
            refine loop_step tB_ok (G := Nat × List Int) 0 [] (fun e => [(22, iv .i64 e.1)]) (fun e => [(8, true, .arr (aInt e.2))]) (fun e => e.1 ≤ g.length ∧ e.2.length = bs.length ∧ (∀ y ∈ e.2, -(((e.1 : Nat) : Int) * 4096 + 4096) ≤ y ∧ y ≤ ((e.1 : Nat) : Int) * 4096 + 4096) ∧ coefF 1 g out = coefF 1 (g.drop e.1) e.2) (fun e => g.length - e.1) ?_
            conv => whnf
            refine ⟨⟨(0, out), ⟨Nat.zero_le _, outl, fun y hy => by have := hob y hy; show -(((0 : Nat) : Int) * 4096 + 4096) ≤ y ∧ y ≤ ((0 : Nat) : Int) * 4096 + 4096; omega, rfl⟩, ?_⟩, ?_⟩
            · conv => whnf
              repeat' (first | exact trivial | exact rfl | refine And.intro ?_ ?_ | ((conv => whnf); first | exact trivial | exact rfl | refine And.intro ?_ ?_ | omega))
            rintro ⟨j, sum⟩ ⟨hj, suml, sumb, sumg⟩ ρ22 t22 hρ22
            have hj : j ≤ g.length := hj
            have suml : sum.length = bs.length := suml
            have sumb : ∀ y ∈ sum, -((j : Int) * 4096 + 4096) ≤ y ∧ y ≤ (j : Int) * 4096 + 4096 := sumb
            have sumg : coefF 1 g out = coefF 1 (g.drop j) sum := sumg
            dsimp only
            conv => whnf
            refine ⟨fun hc => ?_, fun hc => ?_⟩
            · have hlt : j < g.length := by simpa using hc
              obtain ⟨⟨hv0, hv1⟩, hb0, hb1⟩ := g2 g[j] (List.getElem_mem hlt)
              obtain ⟨v, hve⟩ : ∃ v : Nat, g[j].1 = (v : Int) := ⟨g[j].1.toNat, by omega⟩
              have hvl : v < sum.length := by omega
              have hov := sumb _ (List.getElem_mem hvl)
              obtain ⟨u, hu⟩ : ∃ u, u = sum[v] + g[j].2 := ⟨_, rfl⟩
              rw [List.drop_eq_getElem_cons hlt] at sumg
              have hst : coefF 1 (g[j] :: g.drop (j + 1)) sum = coefF 1 (g.drop (j + 1)) (sum.set v u) := by
                simp only [coefF]
                rw [show g[j].1.toNat = v from by omega, getD_of hvl, Int.one_mul, ← hu]
              conv => whnf
              refine ⟨j, rfl, hlt, hlt, ?_⟩
              conv => whnf
              refine ⟨j, rfl, hlt, hlt, ?_⟩
              conv => whnf
              refine ⟨v, hve, by show v < bs.length; omega, hvl, ?_⟩
              conv => whnf
              refine ⟨j, rfl, hlt, hlt, ?_⟩
              conv => whnf
              refine ⟨u, (congrArg IntKind.i64.wrap (show sum[v] + g[j].2 = u from hu.symm)).trans (wrapId ⟨by omega, by omega⟩), ?_⟩
              conv => whnf
              refine ⟨v, hve, by show v < bs.length; omega, hvl, u, rfl, ?_⟩
              conv => whnf
              refine ⟨(j : Int) + 1, wrapId (z := (j : Int) + 1) ⟨by omega, by omega⟩, ?_⟩
              refine ⟨(j + 1, sum.set v u), ⟨hlt, by show (sum.set v u).length = bs.length; rw [List.length_set]; exact suml, ?_, by show coefF 1 g out = coefF 1 (g.drop (j + 1)) (sum.set v u); rw [sumg, hst]⟩, by show g.length - (j + 1) < g.length - j; omega, ?_⟩
              · intro y hy
                show -(((j + 1 : Nat) : Int) * 4096 + 4096) ≤ y ∧ y ≤ ((j + 1 : Nat) : Int) * 4096 + 4096
                rcases List.mem_or_eq_of_mem_set hy with hy | rfl
                · have := sumb y hy; omega
                · omega
              conv => whnf
              refine ⟨rfl, ?_⟩
              conv => whnf
              repeat' (first | exact trivial | exact rfl | refine And.intro ?_ ?_ | ((conv => whnf); first | exact trivial | exact rfl | refine And.intro ?_ ?_ | omega))
            have hje : j = g.length := by simp at hc; omega
            rw [hje, List.drop_length] at sumg
            have sumg : coefF 1 g out = sum := sumg
            rw [hje]
            clear hje hc hj
            conv => whnf
            have hsum : sumL bs.length f g = sum := by rw [sumL, outg, sumg]
            rw [hsum] at hbz hbl
            refine loop_step tB_ok (G := Nat × List (Int × Int)) 1 [] (fun e => [(24, iv .i64 e.1), (23, .c (.s 9 0 e.2.length 2))]) (fun e => [(9, true, .arr (aSpan e.2))]) (fun e => e.1 ≤ bs.length ∧ e.2 = bothL 0 (sum.take e.1)) (fun e => bs.length - e.1) ?_
            conv => whnf
            refine ⟨⟨(0, []), ⟨Nat.zero_le _, rfl⟩, ?_⟩, ?_⟩
            · conv => whnf
              repeat' (first | exact trivial | exact rfl | refine And.intro ?_ ?_ | ((conv => whnf); first | exact trivial | exact rfl | refine And.intro ?_ ?_ | omega))
            rintro ⟨j, ys⟩ ⟨hj, hys⟩ ρ2 t2 hρ2
            have hj : j ≤ bs.length := hj
            have hys : ys = bothL 0 (sum.take j) := hys
            have hyl : ys.length = j := by rw [hys, bothL_len]; simp; omega
            dsimp only
            conv => whnf
            refine ⟨fun hc => ?_, fun hc => ?_⟩
            · have hlt : j < bs.length := by simpa using hc
              have hls : j < sum.length := by omega
              have hst : ys ++ [((j : Int), sum[j])] = bothL 0 (sum.take (j + 1)) := by
                rw [hys, take_snoc hls, bothL_snoc]
                simp; omega
              conv => whnf
              refine ⟨j, rfl, by show j < bs.length; omega, hls, ?_⟩
              conv => whnf
              refine bs_step tB_ok (aSpan [((j : Int), sum[j])]) rfl rfl ?_
              conv => whnf
              refine ⟨(by repeat' (first | exact trivial | exact rfl | refine And.intro ?_ ?_ | ((conv => whnf); first | exact trivial | exact rfl | refine And.intro ?_ ?_ | omega))), ?_⟩
              conv => whnf
              refine app_step tB_ok (aSpan ys) [((j : Int), sum[j])] (fun _ => rfl) rfl rfl rfl rfl ?_
              conv => whnf
              refine ⟨⟨rfl, rfl, Nat.le_refl _, Nat.le_refl _, by show (ys.length + 1) * 17 ≤ _; omega⟩, ?_⟩
              conv => whnf
              refine ⟨(j : Int) + 1, wrapId (z := (j : Int) + 1) ⟨by omega, by omega⟩, ?_⟩
              refine ⟨(j + 1, ys ++ [((j : Int), sum[j])]), ⟨hlt, hst⟩, by show bs.length - (j + 1) < bs.length - j; omega, ?_⟩
              conv => whnf
              refine ⟨rfl, ?_⟩
              conv => whnf
              repeat' (first | exact trivial | exact rfl | refine And.intro ?_ ?_ | ((conv => whnf); first | exact trivial | exact rfl | refine And.intro ?_ ?_ | omega))
              all_goals first | exact (congrArg aSpan app1 : _) | simp
            have hje : j = bs.length := by simp at hc; omega
            rw [hje, List.take_of_length_le (by omega)] at hys
            subst hys
            conv => whnf
            refine call_step hbf rfl rfl ?_
            conv => whnf
            refine ⟨(by repeat' (first | exact trivial | exact rfl | refine And.intro ?_ ?_ | ((conv => whnf); first | exact trivial | exact rfl | refine And.intro ?_ ?_ | omega))), (by repeat' (first | exact trivial | exact rfl | refine And.intro ?_ ?_ | ((conv => whnf); first | exact trivial | exact rfl | refine And.intro ?_ ?_ | omega))), ?_⟩
            conv => whnf
            refine call_step hbg rfl rfl ?_
            conv => whnf
            refine ⟨(by repeat' (first | exact trivial | exact rfl | refine And.intro ?_ ?_ | ((conv => whnf); first | exact trivial | exact rfl | refine And.intro ?_ ?_ | omega))), (by repeat' (first | exact trivial | exact rfl | refine And.intro ?_ ?_ | ((conv => whnf); first | exact trivial | exact rfl | refine And.intro ?_ ?_ | omega))), ?_⟩
            conv => whnf
            refine call_step hbz rfl rfl ?_
            conv => whnf
            refine ⟨(by repeat' (first | exact trivial | exact rfl | refine And.intro ?_ ?_ | ((conv => whnf); first | exact trivial | exact rfl | refine And.intro ?_ ?_ | omega))), (by repeat' (first | exact trivial | exact rfl | refine And.intro ?_ ?_ | ((conv => whnf); first | exact trivial | exact rfl | refine And.intro ?_ ?_ | omega))), ?_⟩
            conv => whnf
            refine call_step hbl rfl rfl ?_
            conv => whnf
            refine ⟨(by repeat' (first | exact trivial | exact rfl | refine And.intro ?_ ?_ | ((conv => whnf); first | exact trivial | exact rfl | refine And.intro ?_ ?_ | omega))), (by repeat' (first | exact trivial | exact rfl | refine And.intro ?_ ?_ | ((conv => whnf); first | exact trivial | exact rfl | refine And.intro ?_ ?_ | omega))), ?_⟩
            conv => whnf
            refine ⟨fun hc => ?_, fun hc => absurd hc (by simp)⟩
            conv => whnf
            refine ⟨fun hc => ?_, fun hc => absurd hc (by simp)⟩
            conv => whnf
            refine ⟨fun hc => ?_, fun hc => absurd hc (by simp)⟩
            conv => whnf
            refine ⟨fun hc => ?_, fun hc => absurd hc (by simp)⟩
            conv => whnf
            refine ⟨fun hc => ?_, fun hc => absurd hc (by simp)⟩
            conv => whnf
            refine ⟨vx + vy, wrapId (z := vx + vy) ⟨by omega, by omega⟩, ?_⟩
            conv => whnf
            refine ⟨fun hc => ?_, fun hc => absurd (of_decide_eq_false (show decide (vz ≤ vx + vy) = false from hc)) (by omega)⟩
            conv => whnf
            refine ⟨?_, trivial⟩
            exact decide_eq_true (show -vl ≤ vz by omega)
        · have hG : formedB bs.length g 512 = false := by simpa using hG
          refine triple_of tB_ok Try.func5 rfl Try.call5 rfl ?_
          intro ρ w hH
          conv => whnf
          refine call_step head_t rfl rfl ?_
          conv => whnf
          refine ⟨(by repeat' (first | exact trivial | exact rfl | refine And.intro ?_ ?_ | ((conv => whnf); first | exact trivial | exact rfl | refine And.intro ?_ ?_ | omega))), (by repeat' (first | exact trivial | exact rfl | refine And.intro ?_ ?_ | ((conv => whnf); first | exact trivial | exact rfl | refine And.intro ?_ ?_ | omega))), ?_⟩
          conv => whnf
          refine call_step (startYes_t bs ls h) rfl rfl ?_
          conv => whnf
          refine ⟨(by repeat' (first | exact trivial | exact rfl | refine And.intro ?_ ?_ | ((conv => whnf); first | exact trivial | exact rfl | refine And.intro ?_ ?_ | omega))), (by repeat' (first | exact trivial | exact rfl | refine And.intro ?_ ?_ | ((conv => whnf); first | exact trivial | exact rfl | refine And.intro ?_ ?_ | omega))), ?_⟩
          conv => whnf
          refine ⟨fun hc => absurd (of_decide_eq_true (show decide ((bs.length : Int) < 2) = true from hc)) (by omega), fun hc => ?_⟩
          conv => whnf
          refine call_step (lawFormed_t bs ls f 512 (by omega) (by omega)) rfl rfl ?_
          conv => whnf
          refine ⟨(by repeat' (first | exact trivial | exact rfl | refine And.intro ?_ ?_ | ((conv => whnf); first | exact trivial | exact rfl | refine And.intro ?_ ?_ | omega))), (by repeat' (first | exact trivial | exact rfl | refine And.intro ?_ ?_ | ((conv => whnf); first | exact trivial | exact rfl | refine And.intro ?_ ?_ | omega))), ?_⟩
          conv => whnf
          rw [hF]
          refine ⟨fun hc => absurd hc (by simp), fun hc => ?_⟩
          conv => whnf
          refine call_step (lawFormed_t bs ls g 512 (by omega) (by omega)) rfl rfl ?_
          conv => whnf
          refine ⟨(by repeat' (first | exact trivial | exact rfl | refine And.intro ?_ ?_ | ((conv => whnf); first | exact trivial | exact rfl | refine And.intro ?_ ?_ | omega))), (by repeat' (first | exact trivial | exact rfl | refine And.intro ?_ ?_ | ((conv => whnf); first | exact trivial | exact rfl | refine And.intro ?_ ?_ | omega))), ?_⟩
          conv => whnf
          rw [hG]
          refine ⟨fun hc => ?_, fun hc => absurd hc (by simp)⟩
          conv => whnf
          repeat' (first | exact trivial | exact rfl | refine And.intro ?_ ?_ | ((conv => whnf); first | exact trivial | exact rfl | refine And.intro ?_ ?_ | omega))
      · have hF : formedB bs.length f 512 = false := by simpa using hF
        refine triple_of tB_ok Try.func5 rfl Try.call5 rfl ?_
        intro ρ w hH
        conv => whnf
        refine call_step head_t rfl rfl ?_
        conv => whnf
        refine ⟨(by repeat' (first | exact trivial | exact rfl | refine And.intro ?_ ?_ | ((conv => whnf); first | exact trivial | exact rfl | refine And.intro ?_ ?_ | omega))), (by repeat' (first | exact trivial | exact rfl | refine And.intro ?_ ?_ | ((conv => whnf); first | exact trivial | exact rfl | refine And.intro ?_ ?_ | omega))), ?_⟩
        conv => whnf
        refine call_step (startYes_t bs ls h) rfl rfl ?_
        conv => whnf
        refine ⟨(by repeat' (first | exact trivial | exact rfl | refine And.intro ?_ ?_ | ((conv => whnf); first | exact trivial | exact rfl | refine And.intro ?_ ?_ | omega))), (by repeat' (first | exact trivial | exact rfl | refine And.intro ?_ ?_ | ((conv => whnf); first | exact trivial | exact rfl | refine And.intro ?_ ?_ | omega))), ?_⟩
        conv => whnf
        refine ⟨fun hc => absurd (of_decide_eq_true (show decide ((bs.length : Int) < 2) = true from hc)) (by omega), fun hc => ?_⟩
        conv => whnf
        refine call_step (lawFormed_t bs ls f 512 (by omega) (by omega)) rfl rfl ?_
        conv => whnf
        refine ⟨(by repeat' (first | exact trivial | exact rfl | refine And.intro ?_ ?_ | ((conv => whnf); first | exact trivial | exact rfl | refine And.intro ?_ ?_ | omega))), (by repeat' (first | exact trivial | exact rfl | refine And.intro ?_ ?_ | ((conv => whnf); first | exact trivial | exact rfl | refine And.intro ?_ ?_ | omega))), ?_⟩
        conv => whnf
        rw [hF]
        refine ⟨fun hc => ?_, fun hc => absurd hc (by simp)⟩
        conv => whnf
        repeat' (first | exact trivial | exact rfl | refine And.intro ?_ ?_ | ((conv => whnf); first | exact trivial | exact rfl | refine And.intro ?_ ?_ | omega))
    · skip
      refine triple_of tB_ok Try.func5 rfl Try.call5 rfl ?_
      intro ρ w hH
      conv => whnf
      refine call_step head_t rfl rfl ?_
      conv => whnf
      refine ⟨(by repeat' (first | exact trivial | exact rfl | refine And.intro ?_ ?_ | ((conv => whnf); first | exact trivial | exact rfl | refine And.intro ?_ ?_ | omega))), (by repeat' (first | exact trivial | exact rfl | refine And.intro ?_ ?_ | ((conv => whnf); first | exact trivial | exact rfl | refine And.intro ?_ ?_ | omega))), ?_⟩
      conv => whnf
      refine call_step (startYes_t bs ls h) rfl rfl ?_
      conv => whnf
      refine ⟨(by repeat' (first | exact trivial | exact rfl | refine And.intro ?_ ?_ | ((conv => whnf); first | exact trivial | exact rfl | refine And.intro ?_ ?_ | omega))), (by repeat' (first | exact trivial | exact rfl | refine And.intro ?_ ?_ | ((conv => whnf); first | exact trivial | exact rfl | refine And.intro ?_ ?_ | omega))), ?_⟩
      conv => whnf
      refine ⟨fun hc => ?_, fun hc => absurd (of_decide_eq_false (show decide ((bs.length : Int) < 2) = false from hc)) (by omega)⟩
      conv => whnf
      repeat' (first | exact trivial | exact rfl | refine And.intro ?_ ?_ | ((conv => whnf); first | exact trivial | exact rfl | refine And.intro ?_ ?_ | omega))
  · skip
    refine triple_of tB_ok Try.func5 rfl Try.call5 rfl ?_
    intro ρ w hH
    conv => whnf
    refine call_step head_t rfl rfl ?_
    conv => whnf
    refine ⟨(by repeat' (first | exact trivial | exact rfl | refine And.intro ?_ ?_ | ((conv => whnf); first | exact trivial | exact rfl | refine And.intro ?_ ?_ | omega))), (by repeat' (first | exact trivial | exact rfl | refine And.intro ?_ ?_ | ((conv => whnf); first | exact trivial | exact rfl | refine And.intro ?_ ?_ | omega))), ?_⟩
    conv => whnf
    refine call_step (startNo_t bs ls h) rfl rfl ?_
    conv => whnf
    refine ⟨(by repeat' (first | exact trivial | exact rfl | refine And.intro ?_ ?_ | ((conv => whnf); first | exact trivial | exact rfl | refine And.intro ?_ ?_ | omega))), (by repeat' (first | exact trivial | exact rfl | refine And.intro ?_ ?_ | ((conv => whnf); first | exact trivial | exact rfl | refine And.intro ?_ ?_ | omega))), ?_⟩
    conv => whnf
    repeat' (first | exact trivial | exact rfl | refine And.intro ?_ ?_ | ((conv => whnf); first | exact trivial | exact rfl | refine And.intro ?_ ?_ | omega))

end Go.Proofs

