/-
  A part of the proof that a law answers true: lemmas of a symbolic walk, plain functions, or contracts of the functions walked (RJ, RK, RL). Conditions: none.
-/
import Derived.Test.YtagedjfjcnemoaaGreatPart29
set_option maxRecDepth 100000
set_option linter.unusedVariables false
set_option linter.unusedSimpArgs false
namespace Go.Proofs
open Go.Sx

theorem all_snoc {α : Type} {l : List α} {P : α → Prop} {i : Nat} (h : i < l.length) (hn : ∀ x ∈ l.take i, P x) (hp : P l[i]) : ∀ x ∈ l.take (i + 1), P x := by
  intro x hx
  rw [take_snoc h] at hx
  rcases List.mem_append.1 hx with hx | hx
  · exact hn x hx
  · simp only [List.mem_singleton] at hx; rw [hx]; exact hp

theorem lawAtThg_t (l : List Thg) (ma sh : List Int) (x : Thg) (hl : ma.length = l.length) (hll : l.length ≤ 1000) : Triple Tryz.prog 68 [.c (.s 0 0 l.length 4), .agg [.s 1 0 ma.length 1, .s 2 0 sh.length 1], svThg x] [(0, false, .arr (aThg l)), (1, false, .arr (aInt ma)), (2, false, .arr (aInt sh))] 3 (iv .i64 (atF ma (plF l x))) [] := by
  have hf : ∀ (i : Nat) (h : i < l.length) (h2 : i < ma.length), (∀ y ∈ l.take i, y ≠ x) → l[i] = x → atF ma (plF l x) = ma[i] := fun i h h2 hn he => by
    rw [plF_take h hn he]
    unfold atF
    rw [if_neg (show ¬ ((i : Int) < 0) by omega), Int.toNat_natCast, List.getD_eq_getElem?_getD, List.getElem?_eq_getElem h2]; rfl
  have hz : (∀ y ∈ l, y ≠ x) → atF ma (plF l x) = 0 := fun hn => by rw [plF_none hn]; rfl
  generalize atF ma (plF l x) = R at *
  refine triple_of tB_ok Tryz.func68 rfl Tryz.call68 rfl ?_
  intro ρ w hH
  conv=>whnf
  refine loop_step tB_ok (G := Nat) 0 [] (fun i => [(10, iv .i64 i)]) (fun _ => []) (fun i => i ≤ l.length ∧ ∀ y ∈ l.take i, y ≠ x) (fun i => l.length - i) ?_
  conv=>whnf
  refine ⟨⟨0, ⟨Nat.zero_le _, by simp⟩, ?_⟩, ?_⟩
  · conv=>whnf
    repeat' (first | exact trivial | exact rfl | refine And.intro ?_ ?_ | ((conv=>whnf); first | exact trivial | exact rfl | refine And.intro ?_ ?_ | omega))
  rintro i ⟨hi, hn⟩ ρ1 t1 hρ1
  conv=>whnf
  refine ⟨fun hc => ?_, fun hc => ?_⟩
  · have hlt : i < l.length := by simpa using hc
    have hlv : i < ma.length := by omega
    conv=>whnf
    refine ⟨i, rfl, hlt, hlt, ?_⟩
    conv=>whnf
    refine ⟨fun hc => ?_, fun hc => ?_⟩
    · have h1 : l[i] = x := eqThg_t (show eqThg l[i] x = true from hc)
      rw [hf i hlt hlv hn h1]
      conv=>whnf
      refine ⟨i, rfl, hlv, hlv, ?_⟩
      conv=>whnf
      repeat' (first | exact trivial | exact rfl | refine And.intro ?_ ?_ | ((conv=>whnf); first | exact trivial | exact rfl | refine And.intro ?_ ?_ | omega))
    · have h1 : ¬ l[i] = x := fun he => by
        have h2 : eqThg l[i] x = false := hc
        rw [he, eqThg_r] at h2; cases h2
      conv=>whnf
      refine ⟨_, wrapId ⟨by omega, by omega⟩, ?_⟩
      refine ⟨i + 1, ⟨hlt, all_snoc hlt hn h1⟩, by show l.length - (i + 1) < l.length - i; omega, ?_⟩
      try dsimp only
      conv=>whnf
      refine ⟨rfl, ?_⟩
      conv=>whnf
      repeat' (first | exact trivial | exact rfl | refine And.intro ?_ ?_ | ((conv=>whnf); first | exact trivial | exact rfl | refine And.intro ?_ ?_ | omega))
  · have hie : i = l.length := by simp at hc; omega
    subst hie
    rw [List.take_length] at hn
    rw [hz hn]
    conv=>whnf
    repeat' (first | exact trivial | exact rfl | refine And.intro ?_ ?_ | ((conv=>whnf); first | exact trivial | exact rfl | refine And.intro ?_ ?_ | omega))
theorem lawAtMom_t (l : List Mom) (ma sh : List Int) (x : Mom) (hl : sh.length = l.length) (hll : l.length ≤ 1000) : Triple Tryz.prog 69 [.c (.s 0 0 l.length 2), .agg [.s 1 0 ma.length 1, .s 2 0 sh.length 1], svMom x] [(0, false, .arr (aMom l)), (1, false, .arr (aInt ma)), (2, false, .arr (aInt sh))] 3 (iv .i64 (atF sh (plF l x))) [] := by
  have hf : ∀ (i : Nat) (h : i < l.length) (h2 : i < sh.length), (∀ y ∈ l.take i, y ≠ x) → l[i] = x → atF sh (plF l x) = sh[i] := fun i h h2 hn he => by
    rw [plF_take h hn he]
    unfold atF
    rw [if_neg (show ¬ ((i : Int) < 0) by omega), Int.toNat_natCast, List.getD_eq_getElem?_getD, List.getElem?_eq_getElem h2]; rfl
  have hz : (∀ y ∈ l, y ≠ x) → atF sh (plF l x) = 0 := fun hn => by rw [plF_none hn]; rfl
  generalize atF sh (plF l x) = R at *
  refine triple_of tB_ok Tryz.func69 rfl Tryz.call69 rfl ?_
  intro ρ w hH
  conv=>whnf
  refine loop_step tB_ok (G := Nat) 0 [] (fun i => [(10, iv .i64 i)]) (fun _ => []) (fun i => i ≤ l.length ∧ ∀ y ∈ l.take i, y ≠ x) (fun i => l.length - i) ?_
  conv=>whnf
  refine ⟨⟨0, ⟨Nat.zero_le _, by simp⟩, ?_⟩, ?_⟩
  · conv=>whnf
    repeat' (first | exact trivial | exact rfl | refine And.intro ?_ ?_ | ((conv=>whnf); first | exact trivial | exact rfl | refine And.intro ?_ ?_ | omega))
  rintro i ⟨hi, hn⟩ ρ1 t1 hρ1
  conv=>whnf
  refine ⟨fun hc => ?_, fun hc => ?_⟩
  · have hlt : i < l.length := by simpa using hc
    have hlv : i < sh.length := by omega
    conv=>whnf
    refine ⟨i, rfl, hlt, hlt, ?_⟩
    conv=>whnf
    refine ⟨fun hc => ?_, fun hc => ?_⟩
    · have h1 : l[i] = x := eqMom_t (show eqMom l[i] x = true from hc)
      rw [hf i hlt hlv hn h1]
      conv=>whnf
      refine ⟨i, rfl, hlv, hlv, ?_⟩
      conv=>whnf
      repeat' (first | exact trivial | exact rfl | refine And.intro ?_ ?_ | ((conv=>whnf); first | exact trivial | exact rfl | refine And.intro ?_ ?_ | omega))
    · have h1 : ¬ l[i] = x := fun he => by
        have h2 : eqMom l[i] x = false := hc
        rw [he, eqMom_r] at h2; cases h2
      conv=>whnf
      refine ⟨_, wrapId ⟨by omega, by omega⟩, ?_⟩
      refine ⟨i + 1, ⟨hlt, all_snoc hlt hn h1⟩, by show l.length - (i + 1) < l.length - i; omega, ?_⟩
      try dsimp only
      conv=>whnf
      refine ⟨rfl, ?_⟩
      conv=>whnf
      repeat' (first | exact trivial | exact rfl | refine And.intro ?_ ?_ | ((conv=>whnf); first | exact trivial | exact rfl | refine And.intro ?_ ?_ | omega))
  · have hie : i = l.length := by simp at hc; omega
    subst hie
    rw [List.take_length] at hn
    rw [hz hn]
    conv=>whnf
    repeat' (first | exact trivial | exact rfl | refine And.intro ?_ ?_ | ((conv=>whnf); first | exact trivial | exact rfl | refine And.intro ?_ ?_ | omega))

abbrev poA (r : Rd) (l : List Thg) (k : List Mom) (ma sh : List Int) : List SV := [rdA r, .c (.s 4 0 l.length 4), .c (.s 5 0 k.length 2), .agg [.s 6 0 ma.length 1, .s 7 0 sh.length 1]]
abbrev poH (r : Rd) (l : List Thg) (k : List Mom) (ma sh : List Int) : Heap := rdH r ++ [(4, false, .arr (aThg l)), (5, false, .arr (aMom k)), (6, false, .arr (aInt ma)), (7, false, .arr (aInt sh))]

set_option maxHeartbeats 4000000 in
theorem possible_t (r : Rd) (b : Bal) (ma sh : List Int) (ht : Tiny r b) (hI : InR r ma sh) (hcs : r.cs.length ≤ 2) (hws : r.ws.length ≤ 4) (hns : r.ns.length ≤ 2) :
    Triple Tryz.prog 62 (poA r (objsF r) (momsF r []) ma sh) (poH r (objsF r) (momsF r []) ma sh) 8 (bv (fitsF r ma sh).2) [] := by
  have hP := poss_fits ht hI.lm hI.ls
  have hT : Poss r b ma sh → (fitsF r ma sh).2 = true := hP.2
  have hF : ¬ Poss r b ma sh → (fitsF r ma sh).2 = false := fun h => by rw [← Bool.not_eq_true]; exact fun hh => h (hP.1 hh)
  generalize (fitsF r ma sh).2 = B at *
  have hlm := hI.lm
  have hls := hI.ls
  have hv := ht.ok.bal b (by rw [ht.bs]; simp)
  obtain ⟨_, _, _, hdr, _⟩ := valid_bd hv
  have hmo : ∀ m ∈ momsF r [], 0 ≤ m.tick ∧ m.tick ≤ 1000000 := fun m hm => by
    have := ht.ok.mom (more := []) (by simp) hm
    simp [momOK, withinF] at this
    exact this.2
  have hth : ∀ o ∈ objsF r, 1 ≤ o.st ∧ o.st ≤ 4 := fun o ho => by
    obtain ⟨w, hw, rfl⟩ := objsF_mem.1 ho
    exact (thg_st (ht.ok.w hw).2.2.2.1).1
  have wg1 := fun h : Poss r b ma sh => h.wgh
  have ck1 := fun h : Poss r b ma sh => h.chk
  have sd1 := fun h : Poss r b ma sh => h.sid
  have df1 := fun h : Poss r b ma sh => h.drf
  have cv1 := fun h : Poss r b ma sh => h.cvr
  have mk : (∀ w ∈ r.ws, showsR b (atF ma (plF (objsF r) w.o)) (atF sh (plF (momsF r []) (wMom w))) w.shown = true) → (∀ c ∈ r.cs, showsR b c.mass (atF sh (plF (momsF r []) (cMom c))) c.shown = true) →
      (∀ (i : Nat) (m : Mom), (momsF r [])[i]? = some m → (possSide b r.ns m).1 ≤ sh.getD i 0 ∧ sh.getD i 0 ≤ (possSide b r.ns m).2.1) →
      (∀ (j : Nat) (a c : Mom), (momsF r [])[j]? = some a → (momsF r [])[j + 1]? = some c → max (sh.getD (j + 1) 0 - sh.getD j 0) (sh.getD j 0 - sh.getD (j + 1) 0) ≤ b.dr * (c.tick - a.tick)) →
      (∀ (o q : Thg), (objsF r)[0]? = some o → (objsF r)[1]? = some q → o.lot = q.lot → o.bale = q.bale → o.smp = q.smp → o.st + 1 = q.st → ma.getD 1 0 ≤ ma.getD 0 0) → Poss r b ma sh := fun a1 a2 a3 a4 a5 => ⟨a1, a2, a3, a4, a5⟩
  have hshb := hI.sh
  have hlo := ht.lo
  have hlmm := ht.lm
  have hbs := ht.bs
  clear hP ht hI hv
  generalize objsF r = l at *
  generalize momsF r [] = k at *
  generalize hPo : Poss r b ma sh = PP at *
  clear hPo
  obtain ⟨bs, cs, ns, ws⟩ := r
  dsimp only at *
  subst hbs
  refine triple_of tB_ok Tryz.func62 rfl Tryz.call62 rfl ?_
  intro ρ w hH
  conv=>whnf
  refine ⟨0, rfl, Nat.zero_lt_one, Nat.zero_lt_one, ?_⟩
  conv=>whnf
  refine loop_step tB_ok (G := Nat) 0 [] (fun i => [(28, iv .i64 i)]) (fun _ => []) (fun i => i ≤ ws.length ∧ ∀ w ∈ ws.take i, showsR b (atF ma (plF l w.o)) (atF sh (plF k (wMom w))) w.shown = true) (fun i => ws.length - i) ?_
  conv=>whnf
  refine ⟨⟨0, ⟨Nat.zero_le _, by simp⟩, ?_⟩, ?_⟩
  · conv=>whnf
    repeat' (first | exact trivial | exact rfl | refine And.intro ?_ ?_ | ((conv=>whnf); first | exact trivial | exact rfl | refine And.intro ?_ ?_ | omega))
  rintro i ⟨hi, hn1⟩ ρ1 t1 hρ1
  conv=>whnf
  refine ⟨fun hc => ?_, fun hc => ?_⟩
  · have hlt : i < ws.length := by simpa using hc
    conv=>whnf
    refine ⟨i, rfl, hlt, hlt, ?_⟩
    conv=>whnf
    refine call_step (lawAtThg_t l ma sh ws[i].o hlm (by omega)) rfl rfl ?_
    conv=>whnf
    refine ⟨?_, ?_, ?_⟩
    iterate 2 · repeat' (first | exact trivial | exact rfl | refine And.intro ?_ ?_ | ((conv=>whnf); first | exact trivial | exact rfl | refine And.intro ?_ ?_ | omega))
    conv=>whnf
    refine call_step (lawAtMom_t k ma sh (wMom ws[i]) hls (by omega)) rfl rfl ?_
    conv=>whnf
    refine ⟨?_, ?_, ?_⟩
    iterate 2 · repeat' (first | exact trivial | exact rfl | refine And.intro ?_ ?_ | ((conv=>whnf); first | exact trivial | exact rfl | refine And.intro ?_ ?_ | omega))
    conv=>whnf
    refine call_step (bShows_t b (atF ma (plF l ws[i].o)) (atF sh (plF k (wMom ws[i]))) ws[i].shown) rfl rfl ?_
    conv=>whnf
    refine ⟨?_, ?_, ?_⟩
    iterate 2 · repeat' (first | exact trivial | exact rfl | refine And.intro ?_ ?_ | ((conv=>whnf); first | exact trivial | exact rfl | refine And.intro ?_ ?_ | omega))
    conv=>whnf
    refine ⟨fun hc => ?_, fun hc => ?_⟩
    · have h1 : showsR b (atF ma (plF l ws[i].o)) (atF sh (plF k (wMom ws[i]))) ws[i].shown = false := by simpa using (show (!showsR b (atF ma (plF l ws[i].o)) (atF sh (plF k (wMom ws[i]))) ws[i].shown) = true from hc)
      rw [hF (fun h => by have := wg1 h _ (List.getElem_mem hlt); rw [h1] at this; cases this)]
      conv=>whnf
      repeat' (first | exact trivial | exact rfl | refine And.intro ?_ ?_ | ((conv=>whnf); first | exact trivial | exact rfl | refine And.intro ?_ ?_ | omega))
    · have h1 : showsR b (atF ma (plF l ws[i].o)) (atF sh (plF k (wMom ws[i]))) ws[i].shown = true := by simpa using (show (!showsR b (atF ma (plF l ws[i].o)) (atF sh (plF k (wMom ws[i]))) ws[i].shown) = false from hc)
      conv=>whnf
      refine ⟨_, wrapId ⟨by omega, by omega⟩, ?_⟩
      refine ⟨i + 1, ⟨hlt, all_snoc (P := fun w => showsR b (atF ma (plF l w.o)) (atF sh (plF k (wMom w))) w.shown = true) hlt hn1 h1⟩, by show ws.length - (i + 1) < ws.length - i; omega, ?_⟩
      try dsimp only
      conv=>whnf
      refine ⟨rfl, ?_⟩
      conv=>whnf
      repeat' (first | exact trivial | exact rfl | refine And.intro ?_ ?_ | ((conv=>whnf); first | exact trivial | exact rfl | refine And.intro ?_ ?_ | omega))
  have hie : i = ws.length := by simp at hc; omega
  subst hie
  rw [List.take_length] at hn1
  conv=>whnf
  refine loop_step tB_ok (G := Nat) 0 [] (fun i => [(54, iv .i64 i)]) (fun _ => []) (fun i => i ≤ cs.length ∧ ∀ c ∈ cs.take i, showsR b c.mass (atF sh (plF k (cMom c))) c.shown = true) (fun i => cs.length - i) ?_
  conv=>whnf
  refine ⟨⟨0, ⟨Nat.zero_le _, by simp⟩, ?_⟩, ?_⟩
  · conv=>whnf
    repeat' (first | exact trivial | exact rfl | refine And.intro ?_ ?_ | ((conv=>whnf); first | exact trivial | exact rfl | refine And.intro ?_ ?_ | omega))
  rintro i ⟨hi, hn2⟩ ρ2 t2 hρ2
  conv=>whnf
  refine ⟨fun hc => ?_, fun hc => ?_⟩
  · have hlt : i < cs.length := by simpa using hc
    conv=>whnf
    refine ⟨i, rfl, hlt, hlt, ?_⟩
    conv=>whnf
    refine call_step (lawAtMom_t k ma sh (cMom cs[i]) hls (by omega)) rfl rfl ?_
    conv=>whnf
    refine ⟨?_, ?_, ?_⟩
    iterate 2 · repeat' (first | exact trivial | exact rfl | refine And.intro ?_ ?_ | ((conv=>whnf); first | exact trivial | exact rfl | refine And.intro ?_ ?_ | omega))
    conv=>whnf
    refine call_step (bShows_t b cs[i].mass (atF sh (plF k (cMom cs[i]))) cs[i].shown) rfl rfl ?_
    conv=>whnf
    refine ⟨?_, ?_, ?_⟩
    iterate 2 · repeat' (first | exact trivial | exact rfl | refine And.intro ?_ ?_ | ((conv=>whnf); first | exact trivial | exact rfl | refine And.intro ?_ ?_ | omega))
    conv=>whnf
    refine ⟨fun hc => ?_, fun hc => ?_⟩
    · have h1 : showsR b cs[i].mass (atF sh (plF k (cMom cs[i]))) cs[i].shown = false := by simpa using (show (!showsR b cs[i].mass (atF sh (plF k (cMom cs[i]))) cs[i].shown) = true from hc)
      rw [hF (fun h => by have := ck1 h _ (List.getElem_mem hlt); rw [h1] at this; cases this)]
      conv=>whnf
      repeat' (first | exact trivial | exact rfl | refine And.intro ?_ ?_ | ((conv=>whnf); first | exact trivial | exact rfl | refine And.intro ?_ ?_ | omega))
    · have h1 : showsR b cs[i].mass (atF sh (plF k (cMom cs[i]))) cs[i].shown = true := by simpa using (show (!showsR b cs[i].mass (atF sh (plF k (cMom cs[i]))) cs[i].shown) = false from hc)
      conv=>whnf
      refine ⟨_, wrapId ⟨by omega, by omega⟩, ?_⟩
      refine ⟨i + 1, ⟨hlt, all_snoc (P := fun c => showsR b c.mass (atF sh (plF k (cMom c))) c.shown = true) hlt hn2 h1⟩, by show cs.length - (i + 1) < cs.length - i; omega, ?_⟩
      try dsimp only
      conv=>whnf
      refine ⟨rfl, ?_⟩
      conv=>whnf
      repeat' (first | exact trivial | exact rfl | refine And.intro ?_ ?_ | ((conv=>whnf); first | exact trivial | exact rfl | refine And.intro ?_ ?_ | omega))
  have hie : i = cs.length := by simp at hc; omega
  subst hie
  rw [List.take_length] at hn2
  conv=>whnf
  refine loop_step tB_ok (G := Nat) 0 [] (fun i => [(76, iv .i64 i)]) (fun _ => []) (fun i => i ≤ k.length ∧ (∀ (j : Nat) (m : Mom), j < i → k[j]? = some m → (possSide b ns m).1 ≤ sh.getD j 0 ∧ sh.getD j 0 ≤ (possSide b ns m).2.1) ∧
    (∀ (j : Nat) (a c : Mom), j + 1 < i → k[j]? = some a → k[j + 1]? = some c → max (sh.getD (j + 1) 0 - sh.getD j 0) (sh.getD j 0 - sh.getD (j + 1) 0) ≤ b.dr * (c.tick - a.tick))) (fun i => k.length - i) ?_
  conv=>whnf
  refine ⟨⟨0, ⟨Nat.zero_le _, fun j m hj => absurd hj (by omega), fun j a c hj => absurd hj (by omega)⟩, ?_⟩, ?_⟩
  · conv=>whnf
    repeat' (first | exact trivial | exact rfl | refine And.intro ?_ ?_ | ((conv=>whnf); first | exact trivial | exact rfl | refine And.intro ?_ ?_ | omega))
  rintro i ⟨hi, hn3, hn4⟩ ρ3 t3 hρ3
  conv=>whnf
  refine ⟨fun hc => ?_, fun hc => ?_⟩
  · have hlt : i < k.length := by simpa using hc
    have hls2 : i < sh.length := by omega
    have hki : k[i]? = some k[i] := List.getElem?_eq_getElem hlt
    have hgi : sh.getD i 0 = sh[i] := by rw [List.getD_eq_getElem?_getD, List.getElem?_eq_getElem hls2]; rfl
    conv=>whnf
    refine ⟨i, rfl, hlt, hlt, ?_⟩
    conv=>whnf
    refine loop_step tB_ok (G := Nat) 0 [] (fun j => [(90, iv .i64 j), (16, iv .i64 ((ns.take j).foldl (possStep k[i]) (b.lo, b.hi, false)).1), (17, iv .i64 ((ns.take j).foldl (possStep k[i]) (b.lo, b.hi, false)).2.1), (18, bv ((ns.take j).foldl (possStep k[i]) (b.lo, b.hi, false)).2.2)]) (fun _ => []) (fun j => j ≤ ns.length) (fun j => ns.length - j) ?_
    conv=>whnf
    refine ⟨⟨0, Nat.zero_le _, ?_⟩, ?_⟩
    · conv=>whnf
      repeat' (first | exact trivial | exact rfl | refine And.intro ?_ ?_ | ((conv=>whnf); first | exact trivial | exact rfl | refine And.intro ?_ ?_ | omega))
    rintro j hj ρ4 t4 hρ4
    conv=>whnf
    refine ⟨fun hc2 => ?_, fun hc2 => ?_⟩
    · have hjt : j < ns.length := by simpa using hc2
      have hnx : (ns.take (j + 1)).foldl (possStep k[i]) (b.lo, b.hi, false) = possStep k[i] ((ns.take j).foldl (possStep k[i]) (b.lo, b.hi, false)) ns[j] := by rw [take_snoc hjt, List.foldl_append]; rfl
      generalize (ns.take j).foldl (possStep k[i]) (b.lo, b.hi, false) = s at *
      obtain ⟨s1, s2, s3⟩ := s
      have hps : possStep k[i] (s1, s2, s3) ns[j] = bif withinF k[i].tick ns[j].wlo ns[j].whi then (bif s3 then (max s1 ns[j].slo, min s2 ns[j].shi, true) else (ns[j].slo, ns[j].shi, true)) else (s1, s2, s3) := rfl
      rw [hps] at hnx
      clear hps
      conv=>whnf
      refine ⟨j, rfl, hjt, hjt, ?_⟩
      conv=>whnf
      refine ⟨fun g1 => ?_, fun g1 => ?_⟩
      rotate_left
      · have hw0 : withinF k[i].tick ns[j].wlo ns[j].whi = false := by unfold withinF; rw [show decide (ns[j].wlo ≤ k[i].tick) = false from g1]; rfl
        rw [hw0, cond_false] at hnx
        conv=>whnf
        refine ⟨_, wrapId ⟨by omega, by omega⟩, ?_⟩
        refine ⟨j + 1, hjt, by show ns.length - (j + 1) < ns.length - j; omega, ?_⟩
        try dsimp only
        rw [hnx]
        conv=>whnf
        refine ⟨rfl, ?_⟩
        conv=>whnf
        repeat' (first | exact trivial | exact rfl | refine And.intro ?_ ?_ | ((conv=>whnf); first | exact trivial | exact rfl | refine And.intro ?_ ?_ | omega))
      conv=>whnf
      refine ⟨fun g2 => ?_, fun g2 => ?_⟩
      rotate_left
      · have hw0 : withinF k[i].tick ns[j].wlo ns[j].whi = false := by unfold withinF; rw [show decide (k[i].tick ≤ ns[j].whi) = false from g2, Bool.and_false]
        rw [hw0, cond_false] at hnx
        conv=>whnf
        refine ⟨_, wrapId ⟨by omega, by omega⟩, ?_⟩
        refine ⟨j + 1, hjt, by show ns.length - (j + 1) < ns.length - j; omega, ?_⟩
        try dsimp only
        rw [hnx]
        conv=>whnf
        refine ⟨rfl, ?_⟩
        conv=>whnf
        repeat' (first | exact trivial | exact rfl | refine And.intro ?_ ?_ | ((conv=>whnf); first | exact trivial | exact rfl | refine And.intro ?_ ?_ | omega))
      have hw0 : withinF k[i].tick ns[j].wlo ns[j].whi = true := by unfold withinF; rw [show decide (ns[j].wlo ≤ k[i].tick) = true from g1, show decide (k[i].tick ≤ ns[j].whi) = true from g2]; rfl
      rw [hw0, cond_true] at hnx
      cases s3 with
      | true =>
        rw [cond_true] at hnx
        conv=>whnf
        refine ⟨fun hc => absurd hc (by simp), fun hc => ?_⟩
        conv=>whnf
        refine ⟨_, wrapId ⟨by omega, by omega⟩, ?_⟩
        refine ⟨j + 1, hjt, by show ns.length - (j + 1) < ns.length - j; omega, ?_⟩
        try dsimp only
        rw [hnx]
        conv=>whnf
        refine ⟨rfl, ?_⟩
        conv=>whnf
        repeat' (first | exact trivial | exact rfl | refine And.intro ?_ ?_ | ((conv=>whnf); first | exact trivial | exact rfl | refine And.intro ?_ ?_ | omega))
      | false =>
        rw [cond_false] at hnx
        have hm1 : max ns[j].slo ns[j].slo = ns[j].slo := by omega
        have hm2 : min ns[j].shi ns[j].shi = ns[j].shi := by omega
        conv=>whnf
        refine ⟨fun hc => ?_, fun hc => absurd hc (by simp)⟩
        conv=>whnf
        refine ⟨_, wrapId ⟨by omega, by omega⟩, ?_⟩
        refine ⟨j + 1, hjt, by show ns.length - (j + 1) < ns.length - j; omega, ?_⟩
        try dsimp only
        rw [hnx]
        conv=>whnf
        refine ⟨rfl, ?_⟩
        conv=>whnf
        repeat' (first | exact trivial | exact rfl | refine And.intro ?_ ?_ | ((conv=>whnf); first | exact trivial | exact rfl | refine And.intro ?_ ?_ | omega))
        all_goals first | exact hm1 | exact hm2
    have hje : j = ns.length := by simp at hc2; omega
    subst hje
    rw [List.take_length]
    rw [show ns.foldl (possStep k[i]) (b.lo, b.hi, false) = possSide b ns k[i] from rfl]
    have hsd := fun h => sd1 h i k[i] hki
    rw [hgi] at hsd
    generalize hQ : possSide b ns k[i] = Q at *
    conv=>whnf
    refine ⟨i, rfl, hls2, hls2, ?_⟩
    conv=>whnf
    refine ⟨fun g1 => ?_, fun g1 => ?_⟩
    · rw [hF (fun h => by have := (hsd h).1; have := of_decide_eq_true (show decide (sh[i] < Q.1) = true from g1); omega)]
      conv=>whnf
      repeat' (first | exact trivial | exact rfl | refine And.intro ?_ ?_ | ((conv=>whnf); first | exact trivial | exact rfl | refine And.intro ?_ ?_ | omega))
    have g1 : ¬ sh[i] < Q.1 := of_decide_eq_false (show decide (sh[i] < Q.1) = false from g1)
    conv=>whnf
    refine ⟨i, rfl, hls2, hls2, ?_⟩
    conv=>whnf
    refine ⟨fun g2 => ?_, fun g2 => ?_⟩
    · rw [hF (fun h => by have := (hsd h).2; have := of_decide_eq_true (show decide (Q.2.1 < sh[i]) = true from g2); omega)]
      conv=>whnf
      repeat' (first | exact trivial | exact rfl | refine And.intro ?_ ?_ | ((conv=>whnf); first | exact trivial | exact rfl | refine And.intro ?_ ?_ | omega))
    have g2 : ¬ Q.2.1 < sh[i] := of_decide_eq_false (show decide (Q.2.1 < sh[i]) = false from g2)
    have hn3' : ∀ (j : Nat) (m : Mom), j < i + 1 → k[j]? = some m → (possSide b ns m).1 ≤ sh.getD j 0 ∧ sh.getD j 0 ≤ (possSide b ns m).2.1 := by
      intro j m hj hjm
      by_cases hji : j = i
      · subst hji
        rw [hki] at hjm
        cases hjm
        rw [hQ, hgi]; omega
      · exact hn3 j m (by omega) hjm
    conv=>whnf
    by_cases hi0 : i = 0
    · subst hi0
      refine ⟨fun g3 => absurd (show decide (((0 : Nat) : Int) > 0) = true from g3) (by decide), fun g3 => ?_⟩
      conv=>whnf
      refine ⟨_, wrapId ⟨by omega, by omega⟩, ?_⟩
      refine ⟨1, ⟨hlt, hn3', (fun j a c hj => absurd hj (by omega))⟩, by show k.length - 1 < k.length - 0; omega, ?_⟩
      conv=>whnf
      refine ⟨rfl, ?_⟩
      conv=>whnf
      repeat' (first | exact trivial | exact rfl | refine And.intro ?_ ?_ | ((conv=>whnf); first | exact trivial | exact rfl | refine And.intro ?_ ?_ | omega))
    obtain ⟨j, rfl⟩ : ∃ j, i = j + 1 := ⟨i - 1, by omega⟩
    have hjl : j < k.length := by omega
    have hjs : j < sh.length := by omega
    have hkj : k[j]? = some k[j] := List.getElem?_eq_getElem hjl
    have hgj : sh.getD j 0 = sh[j] := by rw [List.getD_eq_getElem?_getD, List.getElem?_eq_getElem hjs]; rfl
    have hj1 : IntKind.i64.wrap (((j + 1 : Nat) : Int) - 1) = (j : Int) := by
      have e : ((j + 1 : Nat) : Int) - 1 = (j : Nat) := by omega
      rw [e]; exact wrapId (z := (j : Int)) ⟨by omega, by omega⟩
    have b1 := hshb _ (List.getElem_mem hls2)
    have b2 := hshb _ (List.getElem_mem hjs)
    have b3 := hmo _ (List.getElem_mem hlt)
    have b4 := hmo _ (List.getElem_mem hjl)
    have hdf := fun h => df1 h j k[j] k[j + 1] hkj hki
    rw [hgi, hgj] at hdf
    have hmul : -1000000000 ≤ b.dr * (k[j + 1].tick - k[j].tick) ∧ b.dr * (k[j + 1].tick - k[j].tick) ≤ 1000000000 := by
      have h1 : b.dr * (k[j + 1].tick - k[j].tick) ≤ 1000 * 1000000 := by
        by_cases hx : 0 ≤ k[j + 1].tick - k[j].tick
        · exact Int.mul_le_mul (by omega) (by omega) hx (by omega)
        · have := Int.mul_nonpos_of_nonneg_of_nonpos hdr.1 (show k[j + 1].tick - k[j].tick ≤ 0 by omega)
          omega
      have h2 : b.dr * (k[j].tick - k[j + 1].tick) ≤ 1000 * 1000000 := by
        by_cases hx : 0 ≤ k[j].tick - k[j + 1].tick
        · exact Int.mul_le_mul (by omega) (by omega) hx (by omega)
        · have := Int.mul_nonpos_of_nonneg_of_nonpos hdr.1 (show k[j].tick - k[j + 1].tick ≤ 0 by omega)
          omega
      have h3 : b.dr * (k[j].tick - k[j + 1].tick) = -(b.dr * (k[j + 1].tick - k[j].tick)) := by
        rw [← Int.mul_neg]; congr 1; omega
      omega
    refine ⟨fun g3 => ?_, fun g3 => absurd (of_decide_eq_false (show decide ((((j + 1 : Nat) : Int)) > 0) = false from g3)) (by omega)⟩
    conv=>whnf
    refine ⟨j + 1, rfl, hls2, hls2, ?_⟩
    conv=>whnf
    refine ⟨(j : Nat), hj1, ?_⟩
    conv=>whnf
    refine ⟨j, rfl, hjs, hjs, ?_⟩
    conv=>whnf
    refine ⟨sh[j + 1] - sh[j], wrapId (z := sh[j + 1] - sh[j]) ⟨by omega, by omega⟩, ?_⟩
    conv=>whnf
    refine ⟨(j : Nat), hj1, ?_⟩
    conv=>whnf
    refine ⟨j, rfl, hjs, hjs, ?_⟩
    conv=>whnf
    refine ⟨j + 1, rfl, hls2, hls2, ?_⟩
    conv=>whnf
    refine ⟨sh[j] - sh[j + 1], wrapId (z := sh[j] - sh[j + 1]) ⟨by omega, by omega⟩, ?_⟩
    conv=>whnf
    refine ⟨(j : Nat), hj1, ?_⟩
    conv=>whnf
    refine ⟨j, rfl, hjl, hjl, ?_⟩
    conv=>whnf
    refine ⟨k[j + 1].tick - k[j].tick, wrapId (z := k[j + 1].tick - k[j].tick) ⟨by omega, by omega⟩, ?_⟩
    conv=>whnf
    refine ⟨b.dr * (k[j + 1].tick - k[j].tick), wrapId (z := b.dr * (k[j + 1].tick - k[j].tick)) ⟨by omega, by omega⟩, ?_⟩
    conv=>whnf
    refine ⟨fun g4 => ?_, fun g4 => ?_⟩
    · rw [hF (fun h => by have := hdf h; have := of_decide_eq_true (show decide (b.dr * (k[j + 1].tick - k[j].tick) < max (sh[j + 1] - sh[j]) (sh[j] - sh[j + 1])) = true from g4); omega)]
      conv=>whnf
      repeat' (first | exact trivial | exact rfl | refine And.intro ?_ ?_ | ((conv=>whnf); first | exact trivial | exact rfl | refine And.intro ?_ ?_ | omega))
    have g4 : ¬ b.dr * (k[j + 1].tick - k[j].tick) < max (sh[j + 1] - sh[j]) (sh[j] - sh[j + 1]) := of_decide_eq_false (show decide (b.dr * (k[j + 1].tick - k[j].tick) < max (sh[j + 1] - sh[j]) (sh[j] - sh[j + 1])) = false from g4)
    have hn4' : ∀ (q : Nat) (a c : Mom), q + 1 < j + 1 + 1 → k[q]? = some a → k[q + 1]? = some c → max (sh.getD (q + 1) 0 - sh.getD q 0) (sh.getD q 0 - sh.getD (q + 1) 0) ≤ b.dr * (c.tick - a.tick) := by
      intro q a c hq ha hcx
      by_cases hqj : q = j
      · subst hqj
        rw [hkj] at ha
        rw [hki] at hcx
        cases ha
        cases hcx
        rw [hgi, hgj]; omega
      · exact hn4 q a c (by omega) ha hcx
    conv=>whnf
    refine ⟨((j + 1 + 1 : Nat) : Int), (congrArg IntKind.i64.wrap (show ((j + 1 : Nat) : Int) + 1 = ((j + 1 + 1 : Nat) : Int) by omega)).trans (wrapId ⟨by omega, by omega⟩), ?_⟩
    refine ⟨j + 1 + 1, ⟨hlt, hn3', hn4'⟩, by show k.length - (j + 1 + 1) < k.length - (j + 1); omega, ?_⟩
    conv=>whnf
    refine ⟨rfl, ?_⟩
    conv=>whnf
    repeat' (first | exact trivial | exact rfl | refine And.intro ?_ ?_ | ((conv=>whnf); first | exact trivial | exact rfl | refine And.intro ?_ ?_ | omega))
  have hie : i = k.length := by simp at hc; omega
  subst hie
  have hn3 : ∀ (i : Nat) (m : Mom), k[i]? = some m → (possSide b ns m).1 ≤ sh.getD i 0 ∧ sh.getD i 0 ≤ (possSide b ns m).2.1 := fun i m him => hn3 i m (List.getElem?_eq_some_iff.1 him).1 him
  have hn4 : ∀ (j : Nat) (a c : Mom), k[j]? = some a → k[j + 1]? = some c → max (sh.getD (j + 1) 0 - sh.getD j 0) (sh.getD j 0 - sh.getD (j + 1) 0) ≤ b.dr * (c.tick - a.tick) := fun j a c ha hc => hn4 j a c (List.getElem?_eq_some_iff.1 hc).1 ha hc
  have mk := mk hn1 hn2 hn3 hn4
  clear hn1 hn2 hn3 hn4 wg1 ck1 sd1 df1
  conv=>whnf
  refine ⟨fun hc => ?_, fun hc => ?_⟩
  · have h2 : l.length < 2 := by have := of_decide_eq_true (show decide ((l.length : Int) < 2) = true from hc); omega
    rw [hT (mk fun o q ho hq => by have := (List.getElem?_eq_some_iff.1 hq).1; omega)]
    conv=>whnf
    repeat' (first | exact trivial | exact rfl | refine And.intro ?_ ?_ | ((conv=>whnf); first | exact trivial | exact rfl | refine And.intro ?_ ?_ | omega))
  have h2 : ¬ l.length < 2 := by have := of_decide_eq_false (show decide ((l.length : Int) < 2) = false from hc); omega
  have l0 : 0 < l.length := by omega
  have l1 : 1 < l.length := by omega
  have m0 : 0 < ma.length := by omega
  have m1 : 1 < ma.length := by omega
  have e0 : l[0]? = some l[0] := List.getElem?_eq_getElem l0
  have e1 : l[1]? = some l[1] := List.getElem?_eq_getElem l1
  have d0 : ma.getD 0 0 = ma[0] := by rw [List.getD_eq_getElem?_getD, List.getElem?_eq_getElem m0]; rfl
  have d1 : ma.getD 1 0 = ma[1] := by rw [List.getD_eq_getElem?_getD, List.getElem?_eq_getElem m1]; rfl
  have st0 := hth _ (List.getElem_mem l0)
  have st1 := hth _ (List.getElem_mem l1)
  rw [e0, e1, d0, d1] at mk
  have mk : (l[0].lot = l[1].lot → l[0].bale = l[1].bale → l[0].smp = l[1].smp → l[0].st + 1 = l[1].st → ma[1] ≤ ma[0]) → PP := fun h => mk (fun o q ho hq => by cases ho; cases hq; exact h)
  have cv1 := fun h => cv1 h l[0] l[1] e0 e1
  rw [d0, d1] at cv1
  conv=>whnf
  refine ⟨0, rfl, l0, l0, ?_⟩
  conv=>whnf
  refine ⟨1, rfl, l1, l1, ?_⟩
  conv=>whnf
  refine ⟨fun hc => ?_, fun hc => ?_⟩
  · have g1 : ¬ l[0].lot = l[1].lot := by simpa using (show (l[0].lot != l[1].lot) = true from hc)
    rw [hT (mk fun h1 => absurd h1 g1)]
    conv=>whnf
    repeat' (first | exact trivial | exact rfl | refine And.intro ?_ ?_ | ((conv=>whnf); first | exact trivial | exact rfl | refine And.intro ?_ ?_ | omega))
  have g1 : l[0].lot = l[1].lot := by simpa using (show (l[0].lot != l[1].lot) = false from hc)
  conv=>whnf
  refine ⟨0, rfl, l0, l0, ?_⟩
  conv=>whnf
  refine ⟨1, rfl, l1, l1, ?_⟩
  conv=>whnf
  refine ⟨fun hc => ?_, fun hc => ?_⟩
  · have g2 : ¬ l[0].bale = l[1].bale := by simpa using (show (l[0].bale != l[1].bale) = true from hc)
    rw [hT (mk fun _ h1 => absurd h1 g2)]
    conv=>whnf
    repeat' (first | exact trivial | exact rfl | refine And.intro ?_ ?_ | ((conv=>whnf); first | exact trivial | exact rfl | refine And.intro ?_ ?_ | omega))
  have g2 : l[0].bale = l[1].bale := by simpa using (show (l[0].bale != l[1].bale) = false from hc)
  conv=>whnf
  refine ⟨0, rfl, l0, l0, ?_⟩
  conv=>whnf
  refine ⟨1, rfl, l1, l1, ?_⟩
  conv=>whnf
  refine ⟨fun hc => ?_, fun hc => ?_⟩
  · have g3 : ¬ l[0].smp = l[1].smp := by simpa using (show (l[0].smp != l[1].smp) = true from hc)
    rw [hT (mk fun _ _ h1 => absurd h1 g3)]
    conv=>whnf
    repeat' (first | exact trivial | exact rfl | refine And.intro ?_ ?_ | ((conv=>whnf); first | exact trivial | exact rfl | refine And.intro ?_ ?_ | omega))
  have g3 : l[0].smp = l[1].smp := by simpa using (show (l[0].smp != l[1].smp) = false from hc)
  conv=>whnf
  refine ⟨0, rfl, l0, l0, ?_⟩
  conv=>whnf
  refine ⟨l[0].st + 1, wrapId (z := l[0].st + 1) ⟨by omega, by omega⟩, ?_⟩
  conv=>whnf
  refine ⟨1, rfl, l1, l1, ?_⟩
  conv=>whnf
  refine ⟨fun hc => ?_, fun hc => ?_⟩
  · have g4 : ¬ l[0].st + 1 = l[1].st := by simpa using (show (l[0].st + 1 != l[1].st) = true from hc)
    rw [hT (mk fun _ _ _ h1 => absurd h1 g4)]
    conv=>whnf
    repeat' (first | exact trivial | exact rfl | refine And.intro ?_ ?_ | ((conv=>whnf); first | exact trivial | exact rfl | refine And.intro ?_ ?_ | omega))
  have g4 : l[0].st + 1 = l[1].st := by simpa using (show (l[0].st + 1 != l[1].st) = false from hc)
  conv=>whnf
  refine ⟨1, rfl, m1, m1, ?_⟩
  conv=>whnf
  refine ⟨0, rfl, m0, m0, ?_⟩
  conv=>whnf
  refine ⟨?_, trivial⟩
  show decide (ma[1] ≤ ma[0]) = B
  by_cases hm : ma[1] ≤ ma[0]
  · rw [decide_eq_true hm, hT (mk fun _ _ _ _ => hm)]
  · rw [decide_eq_false hm, hF (fun h => hm (cv1 h g1 g2 g3 g4))]

end Go.Proofs

namespace Go.Proofs
open Go.Sx

structure TinyP (r : Rd) : Prop where
  bs : r.bs.length = 1
  ws : r.ws.length ≤ 4
  cs : r.cs.length ≤ 2
  ns : r.ns.length ≤ 2
  ok : checkR r = 0
  bal : ∀ b, r.bs = [b] → b.cap ≤ 6 ∧ -2 ≤ b.lo ∧ b.hi ≤ 2
  lo : (objsF r).length ≤ 2
  lm : (momsF r []).length ≤ 2
  nt : ∀ n ∈ r.ns, -2 ≤ n.slo ∧ n.shi ≤ 2

theorem TinyP.small {r : Rd} (h : TinyP r) : ∃ b, r.bs = [b] ∧ Small r b := by
  obtain ⟨b, hb⟩ : ∃ b, r.bs = [b] := List.length_eq_one_iff.1 h.bs
  obtain ⟨h1, h2, h3⟩ := h.bal b hb
  exact ⟨b, hb, ⟨checkR_ok.1 h.ok, hb, h.lo, h.lm⟩, h1, h2, h3, h.nt⟩

set_option maxHeartbeats 1000000 in
theorem tiny_t (r : Rd) (B : Bool) (hT : TinyP r → B = true) (hF : ¬ TinyP r → B = false) : Triple Tryz.prog 60 [rdA r] (rdH r) 4 (bv B) [] := by
  have t1 := fun h : TinyP r => h.bs
  have t2 := fun h : TinyP r => h.ws
  have t3 := fun h : TinyP r => h.cs
  have t4 := fun h : TinyP r => h.ns
  have t5 := fun h : TinyP r => h.ok
  have t6 := fun h : TinyP r => h.bal
  have t7 := fun h : TinyP r => h.lo
  have t8 := fun h : TinyP r => h.lm
  have t9 := fun h : TinyP r => h.nt
  have mk : r.bs.length = 1 → r.ws.length ≤ 4 → r.cs.length ≤ 2 → r.ns.length ≤ 2 → checkR r = 0 → (∀ b, r.bs = [b] → b.cap ≤ 6 ∧ -2 ≤ b.lo ∧ b.hi ≤ 2) → (objsF r).length ≤ 2 → (momsF r []).length ≤ 2 → (∀ n ∈ r.ns, -2 ≤ n.slo ∧ n.shi ≤ 2) → TinyP r := fun a1 a2 a3 a4 a5 a6 a7 a8 a9 => ⟨a1, a2, a3, a4, a5, a6, a7, a8, a9⟩
  have hCk := fun h : Sml r => rCheck_t r h
  have hOb := fun h : Sml r => rObjects_t r h
  have hMo := fun h : Sml r => rMoments_t r h
  have hsm : r.bs.length ≤ 100000 → r.cs.length ≤ 100000 → r.ns.length ≤ 100000 → r.ws.length ≤ 100000 → Sml r := fun a1 a2 a3 a4 => ⟨a1, a2, a3, a4⟩
  generalize TinyP r = TP at *
  generalize objsF r = os at *
  generalize momsF r [] = ms at *
  generalize checkR r = ck at *
  generalize hSm : Sml r = SM at *
  clear hSm
  obtain ⟨bs, cs, ns, ws⟩ := r
  dsimp only at *
  refine triple_of tB_ok Tryz.func60 rfl Tryz.call60 rfl ?_
  intro ρ w hH
  conv=>whnf
  refine ⟨fun hc => ?_, fun hc => ?_⟩
  · rw [hF (fun h => by have := t1 h; have := (show ((bs.length : Int) != 1) = true from hc); simp at this; omega)]
    conv=>whnf
    repeat' (first | exact trivial | exact rfl | refine And.intro ?_ ?_ | ((conv=>whnf); first | exact trivial | exact rfl | refine And.intro ?_ ?_ | omega))
  have g1 : bs.length = 1 := by have := (show ((bs.length : Int) != 1) = false from hc); simp at this; omega
  conv=>whnf
  refine ⟨fun hc => ?_, fun hc => ?_⟩
  · rw [hF (fun h => by have := t2 h; have := of_decide_eq_true (show decide ((4 : Int) < ws.length) = true from hc); omega)]
    conv=>whnf
    repeat' (first | exact trivial | exact rfl | refine And.intro ?_ ?_ | ((conv=>whnf); first | exact trivial | exact rfl | refine And.intro ?_ ?_ | omega))
  have g2 : ws.length ≤ 4 := by have := of_decide_eq_false (show decide ((4 : Int) < ws.length) = false from hc); omega
  conv=>whnf
  refine ⟨fun hc => ?_, fun hc => ?_⟩
  · rw [hF (fun h => by have := t3 h; have := of_decide_eq_true (show decide ((2 : Int) < cs.length) = true from hc); omega)]
    conv=>whnf
    repeat' (first | exact trivial | exact rfl | refine And.intro ?_ ?_ | ((conv=>whnf); first | exact trivial | exact rfl | refine And.intro ?_ ?_ | omega))
  have g3 : cs.length ≤ 2 := by have := of_decide_eq_false (show decide ((2 : Int) < cs.length) = false from hc); omega
  conv=>whnf
  refine ⟨fun hc => ?_, fun hc => ?_⟩
  · rw [hF (fun h => by have := t4 h; have := of_decide_eq_true (show decide ((2 : Int) < ns.length) = true from hc); omega)]
    conv=>whnf
    repeat' (first | exact trivial | exact rfl | refine And.intro ?_ ?_ | ((conv=>whnf); first | exact trivial | exact rfl | refine And.intro ?_ ?_ | omega))
  have g4 : ns.length ≤ 2 := by have := of_decide_eq_false (show decide ((2 : Int) < ns.length) = false from hc); omega
  have hs := hsm (by omega) (by omega) (by omega) (by omega)
  conv=>whnf
  refine call_step (hCk hs) rfl rfl ?_
  conv=>whnf
  refine ⟨?_, ?_, ?_⟩
  iterate 2 · repeat' (first | exact trivial | exact rfl | refine And.intro ?_ ?_ | ((conv=>whnf); first | exact trivial | exact rfl | refine And.intro ?_ ?_ | omega))
  conv=>whnf
  refine ⟨fun hc => ?_, fun hc => ?_⟩
  · rw [hF (fun h => by have := t5 h; have h2 := (show (ck != 0) = true from hc); rw [this] at h2; cases h2)]
    conv=>whnf
    repeat' (first | exact trivial | exact rfl | refine And.intro ?_ ?_ | ((conv=>whnf); first | exact trivial | exact rfl | refine And.intro ?_ ?_ | omega))
  have g5 : ck = 0 := by simpa using (show (ck != 0) = false from hc)
  obtain ⟨b, rfl⟩ : ∃ b, bs = [b] := List.length_eq_one_iff.1 g1
  conv=>whnf
  refine ⟨0, rfl, Nat.zero_lt_one, Nat.zero_lt_one, ?_⟩
  conv=>whnf
  refine ⟨fun hc => ?_, fun hc => ?_⟩
  · rw [hF (fun h => by have := (t6 h b rfl).1; have := of_decide_eq_true (show decide (6 < b.cap) = true from hc); omega)]
    conv=>whnf
    repeat' (first | exact trivial | exact rfl | refine And.intro ?_ ?_ | ((conv=>whnf); first | exact trivial | exact rfl | refine And.intro ?_ ?_ | omega))
  have g6 : b.cap ≤ 6 := by have := of_decide_eq_false (show decide (6 < b.cap) = false from hc); omega
  conv=>whnf
  refine ⟨fun hc => ?_, fun hc => ?_⟩
  · rw [hF (fun h => by have := (t6 h b rfl).2.1; have := of_decide_eq_true (show decide (b.lo < -2) = true from hc); omega)]
    conv=>whnf
    repeat' (first | exact trivial | exact rfl | refine And.intro ?_ ?_ | ((conv=>whnf); first | exact trivial | exact rfl | refine And.intro ?_ ?_ | omega))
  have g7 : -2 ≤ b.lo := by have := of_decide_eq_false (show decide (b.lo < -2) = false from hc); omega
  conv=>whnf
  refine ⟨fun hc => ?_, fun hc => ?_⟩
  · rw [hF (fun h => by have := (t6 h b rfl).2.2; have := of_decide_eq_true (show decide (2 < b.hi) = true from hc); omega)]
    conv=>whnf
    repeat' (first | exact trivial | exact rfl | refine And.intro ?_ ?_ | ((conv=>whnf); first | exact trivial | exact rfl | refine And.intro ?_ ?_ | omega))
  have g8 : b.hi ≤ 2 := by have := of_decide_eq_false (show decide (2 < b.hi) = false from hc); omega
  conv=>whnf
  refine call_step (hOb hs) rfl rfl ?_
  conv=>whnf
  refine ⟨?_, ?_, ?_⟩
  iterate 2 · repeat' (first | exact trivial | exact rfl | refine And.intro ?_ ?_ | ((conv=>whnf); first | exact trivial | exact rfl | refine And.intro ?_ ?_ | omega))
  conv=>whnf
  refine ⟨fun hc => ?_, fun hc => ?_⟩
  · rw [hF (fun h => by have := t7 h; have := of_decide_eq_true (show decide ((2 : Int) < os.length) = true from hc); omega)]
    conv=>whnf
    repeat' (first | exact trivial | exact rfl | refine And.intro ?_ ?_ | ((conv=>whnf); first | exact trivial | exact rfl | refine And.intro ?_ ?_ | omega))
  have g9 : os.length ≤ 2 := by have := of_decide_eq_false (show decide ((2 : Int) < os.length) = false from hc); omega
  conv=>whnf
  refine call_step (hMo hs) rfl rfl ?_
  conv=>whnf
  refine ⟨?_, ?_, ?_⟩
  iterate 2 · repeat' (first | exact trivial | exact rfl | refine And.intro ?_ ?_ | ((conv=>whnf); first | exact trivial | exact rfl | refine And.intro ?_ ?_ | omega))
  conv=>whnf
  refine ⟨fun hc => ?_, fun hc => ?_⟩
  · rw [hF (fun h => by have := t8 h; have := of_decide_eq_true (show decide ((2 : Int) < ms.length) = true from hc); omega)]
    conv=>whnf
    repeat' (first | exact trivial | exact rfl | refine And.intro ?_ ?_ | ((conv=>whnf); first | exact trivial | exact rfl | refine And.intro ?_ ?_ | omega))
  have g10 : ms.length ≤ 2 := by have := of_decide_eq_false (show decide ((2 : Int) < ms.length) = false from hc); omega
  conv=>whnf
  refine loop_step tB_ok (G := Nat) 0 [] (fun i => [(67, iv .i64 i)]) (fun _ => []) (fun i => i ≤ ns.length ∧ ∀ n ∈ ns.take i, -2 ≤ n.slo ∧ n.shi ≤ 2) (fun i => ns.length - i) ?_
  conv=>whnf
  refine ⟨⟨0, ⟨Nat.zero_le _, by simp⟩, ?_⟩, ?_⟩
  · conv=>whnf
    repeat' (first | exact trivial | exact rfl | refine And.intro ?_ ?_ | ((conv=>whnf); first | exact trivial | exact rfl | refine And.intro ?_ ?_ | omega))
  rintro i ⟨hi, hn⟩ ρ1 t1 hρ1
  conv=>whnf
  refine ⟨fun hc => ?_, fun hc => ?_⟩
  · have hlt : i < ns.length := by simpa using hc
    conv=>whnf
    refine ⟨i, rfl, hlt, hlt, ?_⟩
    conv=>whnf
    refine ⟨fun hc => ?_, fun hc => ?_⟩
    · rw [hF (fun h => by have := (t9 h _ (List.getElem_mem hlt)).1; have := of_decide_eq_true (show decide (ns[i].slo < -2) = true from hc); omega)]
      conv=>whnf
      repeat' (first | exact trivial | exact rfl | refine And.intro ?_ ?_ | ((conv=>whnf); first | exact trivial | exact rfl | refine And.intro ?_ ?_ | omega))
    have q1 : -2 ≤ ns[i].slo := by have := of_decide_eq_false (show decide (ns[i].slo < -2) = false from hc); omega
    conv=>whnf
    refine ⟨fun hc => ?_, fun hc => ?_⟩
    · rw [hF (fun h => by have := (t9 h _ (List.getElem_mem hlt)).2; have := of_decide_eq_true (show decide (2 < ns[i].shi) = true from hc); omega)]
      conv=>whnf
      repeat' (first | exact trivial | exact rfl | refine And.intro ?_ ?_ | ((conv=>whnf); first | exact trivial | exact rfl | refine And.intro ?_ ?_ | omega))
    have q2 : ns[i].shi ≤ 2 := by have := of_decide_eq_false (show decide (2 < ns[i].shi) = false from hc); omega
    conv=>whnf
    refine ⟨_, wrapId ⟨by omega, by omega⟩, ?_⟩
    refine ⟨i + 1, ⟨hlt, all_snoc hlt hn ⟨q1, q2⟩⟩, by show ns.length - (i + 1) < ns.length - i; omega, ?_⟩
    conv=>whnf
    refine ⟨rfl, ?_⟩
    conv=>whnf
    repeat' (first | exact trivial | exact rfl | refine And.intro ?_ ?_ | ((conv=>whnf); first | exact trivial | exact rfl | refine And.intro ?_ ?_ | omega))
  have hie : i = ns.length := by simp at hc; omega
  subst hie
  rw [List.take_length] at hn
  rw [hT (mk g1 g2 g3 g4 g5 (fun x hx => by cases hx; exact ⟨g6, g7, g8⟩) g9 g10 hn)]
  conv=>whnf
  repeat' (first | exact trivial | exact rfl | refine And.intro ?_ ?_ | ((conv=>whnf); first | exact trivial | exact rfl | refine And.intro ?_ ?_ | omega))

def powN (n : Nat) : Nat → Nat
  | 0 => 1
  | k + 1 => powN n k * n

theorem power_t (n k : Nat) (hn : n ≤ 7) (hk : k ≤ 2) : Triple Tryz.prog 61 [iv .i64 n, iv .i64 k] [] 0 (iv .i64 (powN n k)) [] := by
  have hb : ∀ i, i ≤ 2 → powN n i ≤ 49 := fun i hi => by
    rcases (by omega : i = 0 ∨ i = 1 ∨ i = 2) with rfl | rfl | rfl
    · simp [powN]
    · simp [powN]; omega
    · have : n * n ≤ 7 * 7 := Nat.mul_le_mul hn hn
      simp [powN]; omega
  refine triple_of tB_ok Tryz.func61 rfl Tryz.call61 rfl ?_
  intro ρ w hH
  conv=>whnf
  refine loop_step tB_ok (G := Nat) 0 [] (fun i => [(7, iv .i64 i), (5, iv .i64 (powN n i))]) (fun _ => []) (fun i => i ≤ k) (fun i => k - i) ?_
  conv=>whnf
  refine ⟨⟨0, Nat.zero_le _, ?_⟩, ?_⟩
  · conv=>whnf
    repeat' (first | exact trivial | exact rfl | refine And.intro ?_ ?_ | ((conv=>whnf); first | exact trivial | exact rfl | refine And.intro ?_ ?_ | omega))
  rintro i hi ρ1 t1 hρ1
  conv=>whnf
  refine ⟨fun hc => ?_, fun hc => ?_⟩
  · have hlt : i < k := by simpa using hc
    have e : ((powN n (i + 1) : Nat) : Int) = (powN n i : Int) * n := by simp [powN]
    have hb1 := hb (i + 1) (by omega)
    conv=>whnf
    refine ⟨((powN n (i + 1) : Nat) : Int), (congrArg IntKind.i64.wrap e.symm).trans (wrapId ⟨by omega, by omega⟩), ?_⟩
    conv=>whnf
    refine ⟨_, wrapId ⟨by omega, by omega⟩, ?_⟩
    refine ⟨i + 1, hlt, by show k - (i + 1) < k - i; omega, ?_⟩
    conv=>whnf
    refine ⟨rfl, ?_⟩
    conv=>whnf
    repeat' (first | exact trivial | exact rfl | refine And.intro ?_ ?_ | ((conv=>whnf); first | exact trivial | exact rfl | refine And.intro ?_ ?_ | omega))
  have hie : i = k := by simp at hc; omega
  subst hie
  conv=>whnf
  repeat' (first | exact trivial | exact rfl | refine And.intro ?_ ?_ | ((conv=>whnf); first | exact trivial | exact rfl | refine And.intro ?_ ?_ | omega))

end Go.Proofs

namespace Go.Proofs
open Go.Sx

def xF (a q : Nat) : Nat → Nat
  | 0 => q
  | i + 1 => if i < a then xF a q i / 7 else xF a q i / 5
def maF (a q : Nat) : List Int := (List.range a).map fun i => ((xF a q i % 7 : Nat) : Int)
def shF (a c q : Nat) : List Int := (List.range c).map fun i => ((xF a q (a + i) % 5 : Nat) : Int) - 2

theorem maF_len (a q : Nat) : (maF a q).length = a := by simp [maF]
theorem shF_len (a c q : Nat) : (shF a c q).length = c := by simp [shF]

theorem num_inR (r : Rd) (q : Nat) : InR r (maF (objsF r).length q) (shF (objsF r).length (momsF r []).length q) where
  lm := maF_len _ _
  ls := shF_len _ _ _
  ma x hx := by
    obtain ⟨i, _, rfl⟩ := List.mem_map.1 hx
    have := Nat.mod_lt (xF (objsF r).length q i) (show 0 < 7 by decide)
    omega
  sh x hx := by
    obtain ⟨i, _, rfl⟩ := List.mem_map.1 hx
    have := Nat.mod_lt (xF (objsF r).length q ((objsF r).length + i)) (show 0 < 5 by decide)
    omega

theorem len0 {l : List Int} (h : l.length = 0) : l = [] := List.length_eq_zero_iff.1 h
theorem len1 {l : List Int} (h : l.length = 1) : ∃ x, l = [x] := List.length_eq_one_iff.1 h
theorem len2 {l : List Int} (h : l.length = 2) : ∃ x y, l = [x, y] := by
  match l, h with
  | [x, y], _ => exact ⟨x, y, rfl⟩

theorem num_surj {a c : Nat} (ha : a ≤ 2) (hc : c ≤ 2) {ma sh : List Int} (hm : ma.length = a) (hs : sh.length = c) (h1 : ∀ x ∈ ma, 0 ≤ x ∧ x ≤ 6) (h2 : ∀ x ∈ sh, -2 ≤ x ∧ x ≤ 2) :
    ∃ q, q < powN 7 a * powN 5 c ∧ maF a q = ma ∧ shF a c q = sh := by
  have nat6 : ∀ x : Int, 0 ≤ x ∧ x ≤ 6 → ∃ n : Nat, n ≤ 6 ∧ x = n := fun x hx => ⟨x.toNat, by omega, by omega⟩
  have nat4 : ∀ x : Int, -2 ≤ x ∧ x ≤ 2 → ∃ n : Nat, n ≤ 4 ∧ x = (n : Int) - 2 := fun x hx => ⟨(x + 2).toNat, by omega, by omega⟩
  rcases (by omega : a = 0 ∨ a = 1 ∨ a = 2) with rfl | rfl | rfl <;> rcases (by omega : c = 0 ∨ c = 1 ∨ c = 2) with rfl | rfl | rfl
  · obtain rfl := len0 hm
    obtain rfl := len0 hs
    exact ⟨0, by decide, rfl, rfl⟩
  · obtain rfl := len0 hm
    obtain ⟨s0, rfl⟩ := len1 hs
    obtain ⟨t0, b0, rfl⟩ := nat4 s0 (h2 _ (by simp))
    refine ⟨t0, by simp [powN]; omega, rfl, ?_⟩
    simp [shF, xF, List.range_succ]; omega
  · obtain rfl := len0 hm
    obtain ⟨s0, s1, rfl⟩ := len2 hs
    obtain ⟨t0, b0, rfl⟩ := nat4 s0 (h2 _ (by simp))
    obtain ⟨t1, b1, rfl⟩ := nat4 s1 (h2 _ (by simp))
    refine ⟨t0 + 5 * t1, by simp [powN]; omega, rfl, ?_⟩
    simp [shF, xF, List.range_succ]; omega
  · obtain ⟨m0, rfl⟩ := len1 hm
    obtain rfl := len0 hs
    obtain ⟨n0, c0, rfl⟩ := nat6 m0 (h1 _ (by simp))
    refine ⟨n0, by simp [powN]; omega, ?_, rfl⟩
    simp [maF, xF, List.range_succ]; omega
  · obtain ⟨m0, rfl⟩ := len1 hm
    obtain ⟨s0, rfl⟩ := len1 hs
    obtain ⟨n0, c0, rfl⟩ := nat6 m0 (h1 _ (by simp))
    obtain ⟨t0, b0, rfl⟩ := nat4 s0 (h2 _ (by simp))
    refine ⟨n0 + 7 * t0, by simp [powN]; omega, ?_, ?_⟩
    · simp [maF, xF, List.range_succ]; omega
    · simp [shF, xF, List.range_succ]; omega
  · obtain ⟨m0, rfl⟩ := len1 hm
    obtain ⟨s0, s1, rfl⟩ := len2 hs
    obtain ⟨n0, c0, rfl⟩ := nat6 m0 (h1 _ (by simp))
    obtain ⟨t0, b0, rfl⟩ := nat4 s0 (h2 _ (by simp))
    obtain ⟨t1, b1, rfl⟩ := nat4 s1 (h2 _ (by simp))
    refine ⟨n0 + 7 * (t0 + 5 * t1), by simp [powN]; omega, ?_, ?_⟩
    · simp [maF, xF, List.range_succ]; omega
    · simp [shF, xF, List.range_succ]; omega
  · obtain ⟨m0, m1, rfl⟩ := len2 hm
    obtain rfl := len0 hs
    obtain ⟨n0, c0, rfl⟩ := nat6 m0 (h1 _ (by simp))
    obtain ⟨n1, c1, rfl⟩ := nat6 m1 (h1 _ (by simp))
    refine ⟨n0 + 7 * n1, by simp [powN]; omega, ?_, rfl⟩
    simp [maF, xF, List.range_succ]; omega
  · obtain ⟨m0, m1, rfl⟩ := len2 hm
    obtain ⟨s0, rfl⟩ := len1 hs
    obtain ⟨n0, c0, rfl⟩ := nat6 m0 (h1 _ (by simp))
    obtain ⟨n1, c1, rfl⟩ := nat6 m1 (h1 _ (by simp))
    obtain ⟨t0, b0, rfl⟩ := nat4 s0 (h2 _ (by simp))
    refine ⟨n0 + 7 * (n1 + 7 * t0), by simp [powN]; omega, ?_, ?_⟩
    · simp [maF, xF, List.range_succ]; omega
    · simp [shF, xF, List.range_succ]; omega
  · obtain ⟨m0, m1, rfl⟩ := len2 hm
    obtain ⟨s0, s1, rfl⟩ := len2 hs
    obtain ⟨n0, c0, rfl⟩ := nat6 m0 (h1 _ (by simp))
    obtain ⟨n1, c1, rfl⟩ := nat6 m1 (h1 _ (by simp))
    obtain ⟨t0, b0, rfl⟩ := nat4 s0 (h2 _ (by simp))
    obtain ⟨t1, b1, rfl⟩ := nat4 s1 (h2 _ (by simp))
    refine ⟨n0 + 7 * (n1 + 7 * (t0 + 5 * t1)), by simp [powN]; omega, ?_, ?_⟩
    · simp [maF, xF, List.range_succ]; omega
    · simp [shF, xF, List.range_succ]; omega

structure Seen (r : Rd) (b : Bal) (n : Nat) (some : Bool) (least most : Int) : Prop where
  none : some = false → ∀ q, q < n → ¬ Poss r b (maF (objsF r).length q) (shF (objsF r).length (momsF r []).length q)
  all : some = true → ∀ q, q < n → Poss r b (maF (objsF r).length q) (shF (objsF r).length (momsF r []).length q) → least ≤ (maF (objsF r).length q).getD 0 0 ∧ (maF (objsF r).length q).getD 0 0 ≤ most
  lo : some = true → ∃ q, Poss r b (maF (objsF r).length q) (shF (objsF r).length (momsF r []).length q) ∧ (maF (objsF r).length q).getD 0 0 = least
  hi : some = true → ∃ q, Poss r b (maF (objsF r).length q) (shF (objsF r).length (momsF r []).length q) ∧ (maF (objsF r).length q).getD 0 0 = most

theorem seen_zero (r : Rd) (b : Bal) : Seen r b 0 false 0 0 := ⟨fun _ q hq => (by omega), fun h => (by cases h), fun h => (by cases h), fun h => (by cases h)⟩

theorem seen_no {r : Rd} {b : Bal} {n : Nat} {some : Bool} {least most : Int} (h : Seen r b n some least most) (hp : ¬ Poss r b (maF (objsF r).length n) (shF (objsF r).length (momsF r []).length n)) : Seen r b (n + 1) some least most :=
  ⟨fun hs q hq => by
    rcases Nat.lt_or_eq_of_le (Nat.le_of_lt_succ hq) with h1 | rfl
    · exact h.none hs q h1
    · exact hp,
   fun hs q hq hpq => by
    rcases Nat.lt_or_eq_of_le (Nat.le_of_lt_succ hq) with h1 | rfl
    · exact h.all hs q h1 hpq
    · exact absurd hpq hp, h.lo, h.hi⟩

theorem seen_first {r : Rd} {b : Bal} {n : Nat} {least most : Int} (h : Seen r b n false least most) (hp : Poss r b (maF (objsF r).length n) (shF (objsF r).length (momsF r []).length n)) : Seen r b (n + 1) true ((maF (objsF r).length n).getD 0 0) ((maF (objsF r).length n).getD 0 0) :=
  ⟨fun hs => (by cases hs),
   fun _ q hq hpq => by
    rcases Nat.lt_or_eq_of_le (Nat.le_of_lt_succ hq) with h1 | rfl
    · exact absurd hpq (h.none rfl q h1)
    · exact ⟨Int.le_refl _, Int.le_refl _⟩,
   fun _ => ⟨n, hp, rfl⟩, fun _ => ⟨n, hp, rfl⟩⟩

theorem seen_more {r : Rd} {b : Bal} {n : Nat} {least most : Int} (h : Seen r b n true least most) (hp : Poss r b (maF (objsF r).length n) (shF (objsF r).length (momsF r []).length n)) : Seen r b (n + 1) true (min least ((maF (objsF r).length n).getD 0 0)) (max most ((maF (objsF r).length n).getD 0 0)) :=
  ⟨fun hs => (by cases hs),
   fun _ q hq hpq => by
    rcases Nat.lt_or_eq_of_le (Nat.le_of_lt_succ hq) with h1 | rfl
    · have := h.all rfl q h1 hpq; omega
    · omega,
   fun _ => by
    obtain ⟨q, h1, h2⟩ := h.lo rfl
    by_cases hl : least ≤ (maF (objsF r).length n).getD 0 0
    · exact ⟨q, h1, by omega⟩
    · exact ⟨n, hp, by omega⟩,
   fun _ => by
    obtain ⟨q, h1, h2⟩ := h.hi rfl
    by_cases hl : (maF (objsF r).length n).getD 0 0 ≤ most
    · exact ⟨q, h1, by omega⟩
    · exact ⟨n, hp, by omega⟩⟩

theorem seen_all {r : Rd} {b : Bal} (hs : Small r b) {o : Thg} (ho : (objsF r)[0]? = some o) {some : Bool} {least most : Int} (h : Seen r b (powN 7 (objsF r).length * powN 5 (momsF r []).length) some least most) :
    (some = false → (massF r o).2 = 9) ∧ (some = true → massF r o = ((least, most), 0)) := by
  have sur : ∀ ma sh, InR r ma sh → ∃ q, q < powN 7 (objsF r).length * powN 5 (momsF r []).length ∧ maF (objsF r).length q = ma ∧ shF (objsF r).length (momsF r []).length q = sh := fun ma sh hI => num_surj hs.tiny.lo hs.tiny.lm hI.lm hI.ls hI.ma hI.sh
  refine ⟨fun h0 => ?_, fun h0 => ?_⟩
  · rw [count_none hs (List.mem_of_getElem? ho) (fun ma sh hI hP => by
      obtain ⟨q, h1, rfl, rfl⟩ := sur ma sh hI
      exact h.none h0 q h1 hP)]
  · refine count_some hs ho (fun ma sh hI hP => ?_) ?_ ?_
    · obtain ⟨q, h1, rfl, rfl⟩ := sur ma sh hI
      exact h.all h0 q h1 hP
    · obtain ⟨q, h1, h2⟩ := h.lo h0
      exact ⟨_, _, num_inR r q, h1, h2⟩
    · obtain ⟨q, h1, h2⟩ := h.hi h0
      exact ⟨_, _, num_inR r q, h1, h2⟩

end Go.Proofs

