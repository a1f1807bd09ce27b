/-
  A part of the proof that a law answers true: lemmas of a symbolic walk, plain functions, or contracts of the functions walked (Sx43, R1, R2). Conditions: none.
-/
import Derived.Test.YtagedjfjcnemoaaGreatPart14
import Derived.Test.YtagedjfjcnemoaaGreatPart11
set_option maxRecDepth 100000
set_option linter.unusedVariables false
set_option linter.unusedSimpArgs false
namespace Go
namespace Sx

def encB (s : Bool) (l : List Int) : Value := bif s then aggI l else .int .i64 (l.headD 0)

structure KeyOK (P : Program) (kt : TypeId) (s : Bool) (n : Nat) : Prop where
  chk : ∀ (em : Bool) (ks : List Int) (w : World), ks.length = n → (Instr.checkKey em 10000 kt (encB s ks)).run P w = .ok () w
  find : ∀ (ks : List Int) (es : List MapEntry) (w : World), ks.length = n → (∀ e ∈ es, ∃ ks' : List Int, ks'.length = n ∧ e.key = encB s ks') →
    ((Instr.findKey kt (encB s ks) es).run P w = .ok none w ∧ ∀ e ∈ es, e.key ≠ encB s ks) ∨
    (∃ j e, (Instr.findKey kt (encB s ks) es).run P w = .ok (some (j, e.val)) w ∧ es[j]? = some e ∧ e.key = encB s ks)
  inj : ∀ ks ks' : List Int, ks.length = n → ks'.length = n → encB s ks = encB s ks' → ks = ks'

theorem keyOK_int {P : Program} {kt : TypeId} (h : P.underlying kt = some (.int .i64)) : KeyOK P kt false 1 where
  chk em ks w hk := MapKept.run_checkKey h (show MapKept.IsKey (.int .i64) (.int .i64 _) from rfl) em 9999
  find ks es w hk hes := by
    have hkey : MapKept.IsKey (.int .i64) (.int .i64 (ks.headD 0)) := rfl
    have hall : ∀ x ∈ es, MapKept.IsKey (.int .i64) x.key := fun x hx => by obtain ⟨ks', _, he⟩ := hes x hx; rw [he]; rfl
    rcases MapKept.findNow_spec hkey es 0 hall with ⟨h1, h2⟩ | ⟨j, e', h1, h2, h3⟩
    · exact .inl ⟨MapKept.run_findKey h h1, h2⟩
    · exact .inr ⟨j, e', by rw [Nat.zero_add] at h1; exact MapKept.run_findKey h h1, h2, h3⟩
  inj ks ks' h1 h2 he := by
    match ks, ks', h1, h2 with
    | [a], [b], _, _ =>
      have : (Value.int .i64 a) = .int .i64 b := he
      cases this; rfl

theorem keyOK_rec {P : Program} {kt n : Nat} {L : List (Nat × Nat)} (hE : EqOK P L) (hm : (kt, n) ∈ L)
    (hu : P.underlying kt = some (.struct (P.fieldsOf kt))) (hf : intFs P (P.fieldsOf kt).toList 0 = true) (hfn : (P.fieldsOf kt).toList.length = n) : KeyOK P kt true n where
  chk em ks w hk := run_checkKey_ints em 9998 hu hf ks (by omega) w
  find ks es w hk hes := by
    have hwide : (match P.underlying kt with | some (.array _ _) | some (.struct _) => true | _ => false) = true := by rw [hu]
    rw [run_findKey_eq w hwide]
    rcases findAsking_ints hE hm ks hk w es 0 hes with ⟨h1, h2⟩ | ⟨j, e', h1, h2, h3⟩
    · exact .inl ⟨h1, h2⟩
    · exact .inr ⟨j, e', by rw [Nat.zero_add] at h1; exact h1, h2, h3⟩
  inj ks ks' h1 h2 he := aggI_inj he

abbrev KVs : Type := List (List Int × List Int)

def DistK (S : KVs) : Prop := (S.map Prod.fst).Nodup

def KVObj (ks vs : Bool) (n : Nat) (S : KVs) (x : Obj) : Prop :=
  ∃ es clock, x = .map es clock ∧ es.toList.map (fun e => (e.key, e.val)) = S.map (fun p => (encB ks p.1, encB vs p.2)) ∧ (∀ p ∈ S, p.1.length = n) ∧ DistK S

def kvO (ks vs : Bool) (n : Nat) (S : KVs) : SO := .raw (KVObj ks vs n S)

def lookKV (S : KVs) (k z : List Int) : List Int × Bool := match S.find? (fun p => p.1 == k) with
  | some p => (p.2, true)
  | none => (z, false)

theorem mkmapKV_step {cx : Cx} {o : Oper} {e : Env} {H : Heap} {nx : Nat} {K : Eff → Prop} {t : TypeId} (ks vs : Bool) (n : Nat) (ho : o.op = .makeMap t none)
    (h : K ⟨.c (.m nx), [], [(nx, true, kvO ks vs n [])], [nx]⟩) : ∃ F, CallOK cx o e H nx F ∧ K F := by
  refine ⟨_, ⟨loc_new (by simp [ho]) (by rw [SV.below_c]; intro j hj; simp [SC.nms] at hj; omega) ?_ ?_, fun j hj => by simp at hj; subst hj; simp⟩, h⟩
  · intro n _ j hj
    simp [kvO, SO.uses] at hj
  · intro ρ a w _ _
    refine ⟨.map (some w.heap.size), .map #[] 0, 0, ?_, ?_, ?_⟩
    · simp only [execOp, ho, Sem.run_bind, Option.mapM_none]
      rfl
    · simp only [SV.rel, SC.rel, upd_eq]
    · refine ⟨trivial, (fun i j c hc => by simp [kvO, SO.cell?] at hc), (fun _ hx => absurd rfl (hx _)), (fun _ => by rw [upd_eq]), (fun Ψ hΨ => ?_)⟩
      cases hΨ
      rw [upd_eq]
      exact ⟨_, push_new w _, #[], 0, rfl, by simp, by simp, List.nodup_nil⟩

def intsSV (s : Bool) : SV → Option (List Int)
  | .c (.v (.int .i64 z)) => bif s then none else some [z]
  | .agg l => bif s then intsSC l else none
  | _ => none

theorem intsSV_rel {ρ : Asg} {s : Bool} {y : SV} {l : List Int} {v : Value} (h : intsSV s y = some l) (hr : y.rel ρ v) : v = encB s l := by
  unfold intsSV at h
  split at h
  · cases s with
    | true => cases h
    | false => cases h; exact hr
  · cases s with
    | false => cases h
    | true =>
      obtain ⟨xs, rfl, hx⟩ := hr
      have := intsSC_rel (show intsSC _ = some l from h) hx
      show Value.agg xs = .agg _
      congr 1
      exact Array.toList_inj.1 (by rw [this])
  · cases h

def svB (s : Bool) (l : List Int) : SV := bif s then .agg (encI l) else .c (.v (.int .i64 (l.headD 0)))
def sumB (s : Bool) (l : List Int) : Sum SC (List SC) := bif s then .inr (encI l) else .inl (.v (.int .i64 (l.headD 0)))

theorem relEncI (ρ : Asg) : ∀ l : List Int, relL ρ (encI l) (l.map (Value.int .i64))
  | [] => trivial
  | _ :: l => ⟨rfl, relEncI ρ l⟩

theorem svB_rel (ρ : Asg) (s : Bool) (l : List Int) : (svB s l).rel ρ (encB s l) := by
  cases s with
  | false => exact rfl
  | true => exact ⟨_, rfl, relEncI ρ l⟩

theorem usesL_encI (ks : List Nat) : ∀ l : List Int, usesL ks (encI l) = false
  | [] => rfl
  | _ :: l => usesL_encI ks l

theorem svB_uses (ks : List Nat) (s : Bool) (l : List Int) : (svB s l).uses ks = false := by
  cases s with
  | false => rfl
  | true => exact usesL_encI ks l

def lookKVK (B : Tabs) (kt0 et0 : TypeId) (ks vs : Bool) (n : Nat) (z0 : List Int) (ok : Bool) (t : TypeId) (x y : SV) (H : Heap) (K : Eff → Prop) : Prop :=
  match lookT B.T t, x, intsSV ks y with
  | some ⟨.map kt et, _, _, _⟩, .c (.m k), some l => (match look H k with
    | some (_, .raw Φ) => bif Nat.beq et et0 && (Nat.beq kt kt0 && Nat.beq (lookupSK.lenL l) n) then
        ∃ S v is, Φ = KVObj ks vs n S ∧ lookKV S l z0 = (v, is) ∧ K ⟨bif ok then .tup [sumB vs v, .inl (.v (.bool is))] else svB vs v, [k], [], []⟩ else False
    | _ => False)
  | _, _, _ => False

theorem kv_find {ks vs : Bool} {n : Nat} {S : KVs} {es : List MapEntry} {P : Program} {kt : TypeId} (hK : KeyOK P kt ks n) (h : es.map (fun e => (e.key, e.val)) = S.map (fun p => (encB ks p.1, encB vs p.2))) (hn : ∀ p ∈ S, p.1.length = n) :
    ∀ e ∈ es, ∃ ks' : List Int, ks'.length = n ∧ e.key = encB ks ks' := by
  intro e he
  have : (e.key, e.val) ∈ S.map (fun p => (encB ks p.1, encB vs p.2)) := by rw [← h]; exact List.mem_map.2 ⟨e, he, rfl⟩
  obtain ⟨p, hp, hpe⟩ := List.mem_map.1 this
  exact ⟨p.1, hn p hp, (congrArg Prod.fst hpe).symm⟩

theorem lookKV_get {S : KVs} {k z : List Int} {p : List Int × List Int} {j : Nat} (hd : DistK S) (h : S[j]? = some p) (hk : p.1 = k) : lookKV S k z = (p.2, true) := by
  unfold lookKV
  induction S generalizing j with
  | nil => simp at h
  | cons q S ih =>
    have hd' : q.1 ∉ S.map Prod.fst ∧ DistK S := by
      have := List.nodup_cons.1 (show (q.1 :: S.map Prod.fst).Nodup from hd); exact this
    cases j with
    | zero =>
      simp at h; subst h
      simp [hk]
    | succ j =>
      have h : S[j]? = some p := by simpa using h
      have hm : p.1 ∈ S.map Prod.fst := List.mem_map.2 ⟨p, List.mem_of_getElem? h, rfl⟩
      have hne : ¬ q.1 = k := fun e => hd'.1 (by rw [e, ← hk]; exact hm)
      have hb : (q.1 == k) = false := by simpa using hne
      rw [List.find?_cons_of_neg (by simp [hb])]
      exact ih hd'.2 h

theorem lookKV_none {S : KVs} {k z : List Int} (h : ∀ p ∈ S, p.1 ≠ k) : lookKV S k z = (z, false) := by
  unfold lookKV
  rw [List.find?_eq_none.2 (fun p hp => by simpa using h p hp)]

theorem lookKV_step {cx : Cx} {B : Tabs} (hB : TabsOK cx.P B) {o : Oper} {e : Env} {H : Heap} {nx : Nat} {K : Eff → Prop} {t : TypeId} {x y : Operand} {ok : Bool} (kt0 et0 : TypeId) (ks vs : Bool) (n : Nat) (z0 : List Int)
    (hK : KeyOK cx.P kt0 ks n) (hz0 : ∀ w, (zeroValue et0).run cx.P w = .ok (encB vs z0) w) (ho : o.op = .lookup t x y ok)
    (h : lookKVK B kt0 et0 ks vs n z0 ok t (ev e x) (ev e y) H K) : ∃ F, CallOK cx o e H nx F ∧ K F := by
  have hx : x ∈ o.op.operands.toList := by simp [ho, Op.operands]
  have hy : y ∈ o.op.operands.toList := by simp [ho, Op.operands]
  unfold lookKVK at h
  split at h
  · rename_i kt et s0 b0 zz k l ht hex hey
    split at h
    · rename_i own Φ hlk
      obtain ⟨he0, S, v, is, rfl, hlv, hKK0⟩ := bif_and h
      simp only [Bool.and_eq_true] at he0
      obtain ⟨he0, he1, he2⟩ := he0
      have he0 := Nat.eq_of_beq_eq_true he0
      have he1 := Nat.eq_of_beq_eq_true he1
      have he2 := Nat.eq_of_beq_eq_true he2
      rw [lenL_eq] at he2
      subst he0; subst he1
      refine ⟨_, ⟨?_, fun j hj => by cases hj⟩, hKK0⟩
      intro ρ s a w hs hr hk _ hdst KK Q hKK
      have hl1 : look s.H k = some (own, .raw (KVObj ks vs n S)) := by rw [hk k (by simp)]; exact hlk
      have hx1 := reads_fit hx (fun t ht => by rw [← hr t ht]; exact hs.env t)
      have hy1 := reads_fit hy (fun t ht => by rw [← hr t ht]; exact hs.env t)
      rw [hex] at hx1
      simp only [SV.rel, SC.rel] at hx1
      have hya : a.eval y = encB ks l := intsSV_rel hey hy1
      obtain ⟨ob, hob, es, clock, rfl, hes, hn, hd⟩ := (hs.heap.reg k own _ hl1).keys _ rfl
      have hall := kv_find hK hes hn
      have hrun : (execOp a.eval o).run cx.P w = .ok (.value (bif ok then .tuple #[encB vs v, .bool is] else encB vs v)) w := by
        rcases hK.find l es.toList w he2 hall with ⟨h1, h2⟩ | ⟨j, e', h1, h2, h3⟩
        · have hnone : lookKV S l z0 = (z0, false) := lookKV_none fun p hp hpl => by
            have : (encB ks p.1, encB vs p.2) ∈ es.toList.map (fun e => (e.key, e.val)) := by rw [hes]; exact List.mem_map.2 ⟨p, hp, rfl⟩
            obtain ⟨e', he', hee⟩ := List.mem_map.1 this
            exact h2 e' he' (by rw [← hpl]; exact congrArg Prod.fst hee)
          rw [hnone] at hlv
          cases hlv
          simp only [execOp, ho, Instr.lookup, hx1, hya, Sem.run_bind, run_underlying (und_map hB ht), Result.andThen_ok, MapKept.run_getObj_map hob, Sem.run_pure, hK.chk _ l w he2, h1, hz0]
          cases ok <;> simp
        · have h4 : (es.toList.map (fun e => (e.key, e.val)))[j]? = some (e'.key, e'.val) := by rw [List.getElem?_map, h2]; rfl
          rw [hes, List.getElem?_map] at h4
          obtain ⟨p, hp, hpe⟩ := Option.map_eq_some_iff.1 h4
          have hpk : p.1 = l := hK.inj _ _ (hn p (List.mem_of_getElem? hp)) he2 (by rw [← h3]; exact congrArg Prod.fst hpe)
          rw [lookKV_get hd hp hpk] at hlv
          cases hlv
          have hval : e'.val = encB vs p.2 := (congrArg Prod.snd hpe).symm
          simp only [execOp, ho, Instr.lookup, hx1, hya, Sem.run_bind, run_underlying (und_map hB ht), Result.andThen_ok, MapKept.run_getObj_map hob, Sem.run_pure, hK.chk _ l w he2, h1, hval]
          cases ok <;> simp
      refine wpIn_of_value (by simp [ho]) hrun (hKK ρ _ w ?_ (fun _ _ => rfl))
      refine hs.putO hdst ?_ ?_
      · cases ok with
        | false => exact svB_rel ρ vs v
        | true =>
          refine ⟨_, rfl, ?_⟩
          cases vs with
          | false => exact ⟨rfl, rfl, trivial⟩
          | true => exact ⟨⟨_, rfl, relEncI ρ v⟩, rfl, trivial⟩
      · intro j hj
        cases ok with
        | false => have := svB_uses [j] vs v; simp only [cond_false] at hj; rw [this] at hj; cases hj
        | true =>
          cases vs with
          | false => cases hj
          | true =>
            have h2 : usesT [j] [Sum.inr (encI v), .inl (.v (.bool is))] = true := hj
            simp only [usesT, usesL_encI, cond_false] at h2
            cases h2
    · exact h.elim
  · exact h.elim

def mapUpKVK (B : Tabs) (kt0 : TypeId) (ks vs : Bool) (n : Nat) (t : TypeId) (x y z : SV) (H : Heap) (K : Eff → Prop) : Prop :=
  match lookT B.T t, x, intsSV ks y, intsSV vs z with
  | some ⟨.map kt _, _, _, _⟩, .c (.m k), some l, some v => (match look H k with
    | some (true, .raw Φ) => bif Nat.beq kt kt0 && Nat.beq (lookupSK.lenL l) n then
        ∃ S, Φ = KVObj ks vs n S ∧ l ∉ S.map Prod.fst ∧ K ⟨.c .junk, [k], [(k, true, kvO ks vs n (S ++ [(l, v)]))], []⟩ else False
    | _ => False)
  | _, _, _, _ => False

theorem mapUpKV_step {cx : Cx} {B : Tabs} (hB : TabsOK cx.P B) {o : Oper} {e : Env} {H : Heap} {nx : Nat} {K : Eff → Prop} {t : TypeId} {x y z : Operand} (kt0 : TypeId) (ks vs : Bool) (n : Nat)
    (hK : KeyOK cx.P kt0 ks n) (ho : o.op = .mapUpdate t x y z)
    (h : mapUpKVK B kt0 ks vs n t (ev e x) (ev e y) (ev e z) H K) : ∃ F, CallOK cx o e H nx F ∧ K F := by
  have hx : x ∈ o.op.operands.toList := by simp [ho, Op.operands]
  have hy : y ∈ o.op.operands.toList := by simp [ho, Op.operands]
  have hz : z ∈ o.op.operands.toList := by simp [ho, Op.operands]
  unfold mapUpKVK at h
  split at h
  · rename_i kt et s0 b0 zz k l v ht hex hey hez
    split at h
    · rename_i Φ hlk
      obtain ⟨he0, S, rfl, hnew, hKK0⟩ := bif_and h
      simp only [Bool.and_eq_true] at he0
      obtain ⟨he1, he2⟩ := he0
      have he1 := Nat.eq_of_beq_eq_true he1
      have he2 := Nat.eq_of_beq_eq_true he2
      rw [lenL_eq] at he2
      subst he1
      refine ⟨_, ⟨?_, fun j hj => by cases hj⟩, hKK0⟩
      intro ρ s a w hs hr hk _ hdst KK Q hKK
      have hl1 : look s.H k = some (true, .raw (KVObj ks vs n S)) := by rw [hk k (by simp)]; exact hlk
      have hx1 := reads_fit hx (fun t ht => by rw [← hr t ht]; exact hs.env t)
      have hy1 := reads_fit hy (fun t ht => by rw [← hr t ht]; exact hs.env t)
      have hz1 := reads_fit hz (fun t ht => by rw [← hr t ht]; exact hs.env t)
      rw [hex] at hx1
      simp only [SV.rel, SC.rel] at hx1
      have hya : a.eval y = encB ks l := intsSV_rel hey hy1
      have hza : a.eval z = encB vs v := intsSV_rel hez hz1
      obtain ⟨ob, hob, es, clock, rfl, hes, hn, hd⟩ := (hs.heap.reg k true _ hl1).keys _ rfl
      have hall := kv_find hK hes hn
      have hrun : ∃ es' clock', (execOp a.eval o).run cx.P w = .ok .skip (w.putObj (ρ k).blk (.map es' clock')) ∧ KVObj ks vs n (S ++ [(l, v)]) (.map es' clock') := by
        rcases hK.find l es.toList w he2 hall with ⟨h1, h2⟩ | ⟨j, e', h1, h2, h3⟩
        · refine ⟨es.push { key := encB ks l, val := encB vs v, born := clock }, clock + 1, ?_, _, _, rfl, ?_, ?_, ?_⟩
          · simp only [execOp, ho, Instr.mapUpdate, hx1, hya, hza, Sem.run_bind, run_underlying (und_map hB ht), Result.andThen_ok, MapKept.run_getObj_map hob, Sem.run_pure,
              hK.chk _ l w he2, h1, MapKept.run_setObj_map _ hob]
            rfl
          · simp [hes]
          · intro p hp
            rcases List.mem_append.1 hp with hp | hp
            · exact hn p hp
            · simp at hp; rw [hp]; exact he2
          · unfold DistK
            rw [List.map_append]
            exact List.nodup_append.2 ⟨hd, by simp, fun a ha b hb => by simp at hb; rw [hb]; rintro rfl; exact hnew ha⟩
        · exfalso
          have h4 : (es.toList.map (fun e => (e.key, e.val)))[j]? = some (e'.key, e'.val) := by rw [List.getElem?_map, h2]; rfl
          rw [hes, List.getElem?_map] at h4
          obtain ⟨p, hp, hpe⟩ := Option.map_eq_some_iff.1 h4
          have hpk : p.1 = l := hK.inj _ _ (hn p (List.mem_of_getElem? hp)) he2 (by rw [← h3]; exact congrArg Prod.fst hpe)
          exact hnew (List.mem_map.2 ⟨p, List.mem_of_getElem? hp, hpk⟩)
      obtain ⟨es', clock', hrun, hset⟩ := hrun
      have hs' := hs.setObj hl1 (.map es' clock') hset
      refine wpIn_of_skip (by simp [ho]) hrun (hKK ρ _ _ ?_ (fun _ _ => rfl))
      exact hs'.putO (sv := .c .junk) hdst trivial (by rw [SV.below_c]; intro j hj; cases hj)
    · exact h.elim
  · exact h.elim

end Sx
end Go

namespace Go.Proofs
open Go.Sx

abbrev aBal (xs : List Bal) : Arr := aRec 6 balL (fun _ => rfl) xs
abbrev aChk (xs : List Chk) : Arr := aRec 5 chkL (fun _ => rfl) xs
abbrev aNtc (xs : List Ntc) : Arr := aRec 6 ntcL (fun _ => rfl) xs
abbrev aWgh (xs : List Wgh) : Arr := aRec 8 wghL (fun _ => rfl) xs
abbrev aThg (xs : List Thg) : Arr := aRec 4 thgL (fun _ => rfl) xs
abbrev aMom (xs : List Mom) : Arr := aRec 2 momL (fun _ => rfl) xs

abbrev svBal (x : Bal) : SV := .agg (Sx.encI (balL x))
abbrev svChk (x : Chk) : SV := .agg (Sx.encI (chkL x))
abbrev svNtc (x : Ntc) : SV := .agg (Sx.encI (ntcL x))
abbrev svWgh (x : Wgh) : SV := .agg (Sx.encI (wghL x))
abbrev svThg (x : Thg) : SV := .agg (Sx.encI (thgL x))
abbrev svMom (x : Mom) : SV := .agg (Sx.encI (momL x))

abbrev rdA (r : Rd) : SV := .agg [.s 0 0 r.bs.length 6, .s 2 0 r.cs.length 5, .s 3 0 r.ns.length 6, .s 1 0 r.ws.length 8]
abbrev rdH (r : Rd) : Heap := [(0, false, .arr (aBal r.bs)), (1, false, .arr (aWgh r.ws)), (2, false, .arr (aChk r.cs)), (3, false, .arr (aNtc r.ns))]

theorem bWithin_t (n lo hi : Int) : Triple Tryz.prog 97 [iv .i64 n, iv .i64 lo, iv .i64 hi] [] 0 (bv (withinF n lo hi)) [] := by
  refine triple_of tB_ok Tryz.func97 rfl Tryz.call97 rfl ?_
  intro ρ w hH
  conv=>whnf
  refine ⟨fun h => ?_, fun h => ?_⟩
  · conv=>whnf
    exact ⟨(by simp [withinF, h] : decide (n ≤ hi) = withinF n lo hi), trivial⟩
  · conv=>whnf
    exact ⟨(by simp [withinF, h] : false = withinF n lo hi), trivial⟩

theorem bInside_t (a b lo hi : Int) : Triple Tryz.prog 101 [.agg [.v (.int .i64 a), .v (.int .i64 b)], iv .i64 lo, iv .i64 hi] [] 0 (bv (insideF a b lo hi)) [] := by
  refine triple_of tB_ok Tryz.func101 rfl Tryz.call101 rfl ?_
  intro ρ w hH
  conv=>whnf
  refine ⟨fun hc => ?_, fun hc => ?_⟩
  · conv=>whnf
    refine ⟨fun hc => ?_, fun hc => ?_⟩
    · conv=>whnf
      exact ⟨(by first | (simp_all [insideF]; done) | (simp [insideF] at *; omega) : _ = insideF a b lo hi), trivial⟩
    · conv=>whnf
      exact ⟨(by first | (simp_all [insideF]; done) | (simp [insideF] at *; omega) : _ = insideF a b lo hi), trivial⟩
  · conv=>whnf
    exact ⟨(by first | (simp_all [insideF]; done) | (simp [insideF] at *; omega) : _ = insideF a b lo hi), trivial⟩

theorem valid_t (b : Bal) : Triple Tryz.prog 93 [svBal b] [] 0 (bv (validF b)) [] := by
  refine triple_of tB_ok Tryz.func93 rfl Tryz.call93 rfl ?_
  intro ρ w hH
  conv=>whnf
  refine call_step (bWithin_t b.id 1 1099511627776) rfl rfl ?_
  conv=>whnf
  refine ⟨?_, ?_, ?_⟩
  iterate 2 · repeat' (first | exact trivial | exact rfl | refine And.intro ?_ ?_ | ((conv=>whnf); first | exact trivial | exact rfl | refine And.intro ?_ ?_ | omega))
  conv=>whnf
  refine ⟨fun hc => ?_, fun hc => ?_⟩
  rotate_left
  · conv=>whnf
    exact ⟨(by simp_all [validF] : _ = validF b), trivial⟩
  conv=>whnf
  refine call_step (bWithin_t b.half 0 1000) rfl rfl ?_
  conv=>whnf
  refine ⟨?_, ?_, ?_⟩
  iterate 2 · repeat' (first | exact trivial | exact rfl | refine And.intro ?_ ?_ | ((conv=>whnf); first | exact trivial | exact rfl | refine And.intro ?_ ?_ | omega))
  conv=>whnf
  refine ⟨fun hc => ?_, fun hc => ?_⟩
  rotate_left
  · conv=>whnf
    exact ⟨(by simp_all [validF] : _ = validF b), trivial⟩
  conv=>whnf
  refine call_step (bInside_t b.lo b.hi (-1000000) 1000000) rfl rfl ?_
  conv=>whnf
  refine ⟨?_, ?_, ?_⟩
  iterate 2 · repeat' (first | exact trivial | exact rfl | refine And.intro ?_ ?_ | ((conv=>whnf); first | exact trivial | exact rfl | refine And.intro ?_ ?_ | omega))
  conv=>whnf
  refine ⟨fun hc => ?_, fun hc => ?_⟩
  rotate_left
  · conv=>whnf
    exact ⟨(by simp_all [validF] : _ = validF b), trivial⟩
  conv=>whnf
  refine call_step (bWithin_t b.dr 0 1000) rfl rfl ?_
  conv=>whnf
  refine ⟨?_, ?_, ?_⟩
  iterate 2 · repeat' (first | exact trivial | exact rfl | refine And.intro ?_ ?_ | ((conv=>whnf); first | exact trivial | exact rfl | refine And.intro ?_ ?_ | omega))
  conv=>whnf
  refine ⟨fun hc => ?_, fun hc => ?_⟩
  rotate_left
  · conv=>whnf
    exact ⟨(by simp_all [validF] : _ = validF b), trivial⟩
  conv=>whnf
  refine call_step (bWithin_t b.cap 1 10000000) rfl rfl ?_
  conv=>whnf
  refine ⟨?_, ?_, ?_⟩
  iterate 2 · repeat' (first | exact trivial | exact rfl | refine And.intro ?_ ?_ | ((conv=>whnf); first | exact trivial | exact rfl | refine And.intro ?_ ?_ | omega))
  conv=>whnf
  exact ⟨(by simp_all [validF] : _ = validF b), trivial⟩

theorem can_t (b : Bal) (mass shift : Int) : Triple Tryz.prog 112 [svBal b, iv .i64 mass, iv .i64 shift] [] 0 (bv (canF b mass shift)) [] := by
  refine triple_of tB_ok Tryz.func112 rfl Tryz.call112 rfl ?_
  intro ρ w hH
  conv=>whnf
  refine call_step (valid_t b) rfl rfl ?_
  conv=>whnf
  refine ⟨?_, ?_, ?_⟩
  iterate 2 · repeat' (first | exact trivial | exact rfl | refine And.intro ?_ ?_ | ((conv=>whnf); first | exact trivial | exact rfl | refine And.intro ?_ ?_ | omega))
  conv=>whnf
  refine ⟨fun hc => ?_, fun hc => ?_⟩
  rotate_left
  · conv=>whnf
    exact ⟨(by simp_all [canF] : _ = canF b mass shift), trivial⟩
  conv=>whnf
  refine call_step (bWithin_t mass 0 b.cap) rfl rfl ?_
  conv=>whnf
  refine ⟨?_, ?_, ?_⟩
  iterate 2 · repeat' (first | exact trivial | exact rfl | refine And.intro ?_ ?_ | ((conv=>whnf); first | exact trivial | exact rfl | refine And.intro ?_ ?_ | omega))
  conv=>whnf
  refine ⟨fun hc => ?_, fun hc => ?_⟩
  rotate_left
  · conv=>whnf
    exact ⟨(by simp_all [canF] : _ = canF b mass shift), trivial⟩
  conv=>whnf
  refine call_step (bWithin_t shift (-1000000) 1000000) rfl rfl ?_
  conv=>whnf
  refine ⟨?_, ?_, ?_⟩
  iterate 2 · repeat' (first | exact trivial | exact rfl | refine And.intro ?_ ?_ | ((conv=>whnf); first | exact trivial | exact rfl | refine And.intro ?_ ?_ | omega))
  conv=>whnf
  exact ⟨(by simp_all [canF] : _ = canF b mass shift), trivial⟩

theorem thing_t (o : Thg) : Triple Tryz.prog 80 [svThg o] [] 0 (bv (thgF o)) [] := by
  refine triple_of tB_ok Tryz.func80 rfl Tryz.call80 rfl ?_
  intro ρ w hH
  conv=>whnf
  refine call_step (bWithin_t o.lot 1 1099511627776) rfl rfl ?_
  conv=>whnf
  refine ⟨?_, ?_, ?_⟩
  iterate 2 · repeat' (first | exact trivial | exact rfl | refine And.intro ?_ ?_ | ((conv=>whnf); first | exact trivial | exact rfl | refine And.intro ?_ ?_ | omega))
  conv=>whnf
  refine ⟨fun hc => ?_, fun hc => ?_⟩
  · conv=>whnf
    exact ⟨(by simp_all [thgF] : _ = thgF o), trivial⟩
  have h1 : withinF o.lot 1 1099511627776 = true := by simpa using hc
  conv=>whnf
  refine call_step (bWithin_t o.bale 1 1099511627776) rfl rfl ?_
  conv=>whnf
  refine ⟨?_, ?_, ?_⟩
  iterate 2 · repeat' (first | exact trivial | exact rfl | refine And.intro ?_ ?_ | ((conv=>whnf); first | exact trivial | exact rfl | refine And.intro ?_ ?_ | omega))
  conv=>whnf
  refine ⟨fun hc => ?_, fun hc => ?_⟩
  · conv=>whnf
    exact ⟨(by simp_all [thgF] : _ = thgF o), trivial⟩
  have h2 : withinF o.bale 1 1099511627776 = true := by simpa using hc
  conv=>whnf
  refine ⟨fun hc => ?_, fun hc => ?_⟩
  · conv=>whnf
    refine ⟨fun _ => ?_, fun h => Bool.noConfusion (hc.symm.trans h)⟩
    conv=>whnf
    exact ⟨(by simp_all [thgF] : _ = thgF o), trivial⟩
  conv=>whnf
  refine ⟨fun hc => ?_, fun hc => ?_⟩
  · conv=>whnf
    exact ⟨(by simp_all [thgF] : _ = thgF o), trivial⟩
  conv=>whnf
  refine ⟨fun hc => ?_, fun hc => ?_⟩
  · conv=>whnf
    refine ⟨fun _ => ?_, fun h => Bool.noConfusion (hc.symm.trans h)⟩
    conv=>whnf
    refine call_step (bWithin_t o.smp 1 1099511627776) rfl rfl ?_
    conv=>whnf
    refine ⟨?_, ?_, ?_⟩
    iterate 2 · repeat' (first | exact trivial | exact rfl | refine And.intro ?_ ?_ | ((conv=>whnf); first | exact trivial | exact rfl | refine And.intro ?_ ?_ | omega))
    conv=>whnf
    exact ⟨(by simp_all [thgF] : _ = thgF o), trivial⟩
  conv=>whnf
  refine ⟨fun hc => ?_, fun hc => ?_⟩
  · conv=>whnf
    refine call_step (bWithin_t o.smp 1 1099511627776) rfl rfl ?_
    conv=>whnf
    refine ⟨?_, ?_, ?_⟩
    iterate 2 · repeat' (first | exact trivial | exact rfl | refine And.intro ?_ ?_ | ((conv=>whnf); first | exact trivial | exact rfl | refine And.intro ?_ ?_ | omega))
    conv=>whnf
    exact ⟨(by simp_all [thgF] : _ = thgF o), trivial⟩
  conv=>whnf
  exact ⟨(by simp_all [thgF] : _ = thgF o), trivial⟩

theorem checkID_t (x : Chk) : Triple Tryz.prog 95 [svChk x] [] 0 (iv .i64 x.id) [] := by
  refine triple_of tB_ok Tryz.func95 rfl Tryz.call95 rfl ?_
  intro ρ w hH
  conv=>whnf
  repeat' (first | exact trivial | exact rfl | refine And.intro ?_ ?_ | ((conv=>whnf); first | exact trivial | exact rfl | refine And.intro ?_ ?_ | omega))
theorem noticeID_t (x : Ntc) : Triple Tryz.prog 99 [svNtc x] [] 0 (iv .i64 x.id) [] := by
  refine triple_of tB_ok Tryz.func99 rfl Tryz.call99 rfl ?_
  intro ρ w hH
  conv=>whnf
  repeat' (first | exact trivial | exact rfl | refine And.intro ?_ ?_ | ((conv=>whnf); first | exact trivial | exact rfl | refine And.intro ?_ ?_ | omega))
theorem weighingID_t (x : Wgh) : Triple Tryz.prog 103 [svWgh x] [] 0 (iv .i64 x.id) [] := by
  refine triple_of tB_ok Tryz.func103 rfl Tryz.call103 rfl ?_
  intro ρ w hH
  conv=>whnf
  repeat' (first | exact trivial | exact rfl | refine And.intro ?_ ?_ | ((conv=>whnf); first | exact trivial | exact rfl | refine And.intro ?_ ?_ | omega))

theorem findD_some {bs : List Bal} {id : Int} {i : Nat} (h : i < bs.length) (hn : ∀ x ∈ bs.take i, (x.id == id) = false) (he : (bs[i].id == id) = true) : findD bs id = bs[i] ∧ hasB bs id = true := by
  have : findB bs id = some bs[i] := by
    unfold findB
    conv => lhs; rw [← List.take_append_drop i bs]
    rw [List.find?_append, List.find?_eq_none.2 (by simpa using hn), List.drop_eq_getElem_cons h, List.find?_cons, he]; rfl
  unfold findD hasB
  rw [this]; exact ⟨rfl, rfl⟩

theorem findD_none {bs : List Bal} {id : Int} (hn : ∀ x ∈ bs, (x.id == id) = false) : findD bs id = zBal ∧ hasB bs id = false := by
  have : findB bs id = none := by
    unfold findB
    exact List.find?_eq_none.2 (by simpa using hn)
  unfold findD hasB
  rw [this]; exact ⟨rfl, rfl⟩

theorem find_t (r : Rd) (id : Int) (hb : r.bs.length ≤ 1000000) : Triple Tryz.prog 82 [rdA r, iv .i64 id] (rdH r) 4 (.tup [.inr (Sx.encI (balL (findD r.bs id))), .inl (.v (.bool (hasB r.bs id)))]) [] := by
  have hs : ∀ (i : Nat) (h : i < r.bs.length), (∀ x ∈ r.bs.take i, (x.id == id) = false) → (r.bs[i].id == id) = true → findD r.bs id = r.bs[i] ∧ hasB r.bs id = true := fun i h => findD_some h
  have hz : (∀ x ∈ r.bs, (x.id == id) = false) → findD r.bs id = zBal ∧ hasB r.bs id = false := findD_none
  generalize findD r.bs id = d at *
  generalize hasB r.bs id = ok at *
  obtain ⟨bs, cs, ns, ws⟩ := r
  dsimp only at *
  refine triple_of tB_ok Tryz.func82 rfl Tryz.call82 rfl ?_
  intro ρ w hH
  conv=>whnf
  refine loop_step tB_ok (G := Nat) 0 [] (fun i => [(11, iv .i64 i)]) (fun _ => []) (fun i => i ≤ bs.length ∧ ∀ x ∈ bs.take i, (x.id == id) = false) (fun i => bs.length - i) ?_
  conv=>whnf
  refine ⟨⟨0, ⟨Nat.zero_le _, by simp⟩, ?_⟩, ?_⟩
  · conv=>whnf
    repeat' (first | exact trivial | exact rfl | refine And.intro ?_ ?_ | ((conv=>whnf); first | exact trivial | exact rfl | refine And.intro ?_ ?_ | omega))
  rintro i ⟨hi, hn⟩ ρ1 t1 hρ1
  conv=>whnf
  refine ⟨fun hc => ?_, fun hc => ?_⟩
  · have hlt : i < bs.length := by simpa using hc
    conv=>whnf
    refine ⟨i, rfl, hlt, hlt, ?_⟩
    conv=>whnf
    refine ⟨fun hc => ?_, fun hc => ?_⟩
    · obtain ⟨rfl, rfl⟩ := hs i hlt hn hc
      conv=>whnf
      repeat' (first | exact trivial | exact rfl | refine And.intro ?_ ?_ | ((conv=>whnf); first | exact trivial | exact rfl | refine And.intro ?_ ?_ | omega))
    · conv=>whnf
      refine ⟨_, wrapId ⟨by omega, by omega⟩, ?_⟩
      refine ⟨i + 1, ⟨hlt, ?_⟩, by show bs.length - (i + 1) < bs.length - i; omega, ?_⟩
      · intro x hx
        rw [take_snoc hlt] at hx
        rcases List.mem_append.1 hx with hx | hx
        · exact hn x hx
        · simp only [List.mem_singleton] at hx; rw [hx]; exact hc
      conv=>whnf
      refine ⟨rfl, ?_⟩
      conv=>whnf
      repeat' (first | exact trivial | exact rfl | refine And.intro ?_ ?_ | ((conv=>whnf); first | exact trivial | exact rfl | refine And.intro ?_ ?_ | omega))
  · have hie : i = bs.length := by simp at hc; omega
    subst hie
    rw [List.take_length] at hn
    obtain ⟨rfl, rfl⟩ := hz hn
    conv=>whnf
    repeat' (first | exact trivial | exact rfl | refine And.intro ?_ ?_ | ((conv=>whnf); first | exact trivial | exact rfl | refine And.intro ?_ ?_ | omega))

theorem bMoment_t (r : Rd) (m : Mom) (hb : r.bs.length ≤ 1000000) : Triple Tryz.prog 79 [rdA r, svMom m] (rdH r) 4 (bv (momOK r m)) [] := by
  have hf := find_t r m.bal hb
  have e : momOK r m = (hasB r.bs m.bal && withinF m.tick 0 1000000) := rfl
  rw [e]
  clear e
  generalize hasB r.bs m.bal = ok at *
  generalize findD r.bs m.bal = d at *
  refine triple_of tB_ok Tryz.func79 rfl Tryz.call79 rfl ?_
  intro ρ w hH
  conv=>whnf
  refine call_step hf rfl rfl ?_
  conv=>whnf
  refine ⟨?_, ?_, ?_⟩
  iterate 2 · repeat' (first | exact trivial | exact rfl | refine And.intro ?_ ?_ | ((conv=>whnf); first | exact trivial | exact rfl | refine And.intro ?_ ?_ | omega))
  conv=>whnf
  refine ⟨fun hc => ?_, fun hc => ?_⟩
  · conv=>whnf
    refine call_step (bWithin_t m.tick 0 1000000) rfl rfl ?_
    conv=>whnf
    refine ⟨?_, ?_, ?_⟩
    iterate 2 · repeat' (first | exact trivial | exact rfl | refine And.intro ?_ ?_ | ((conv=>whnf); first | exact trivial | exact rfl | refine And.intro ?_ ?_ | omega))
    conv=>whnf
    exact ⟨(by simp_all : _ = (ok && withinF m.tick 0 1000000)), trivial⟩
  · conv=>whnf
    exact ⟨(by simp_all : _ = (ok && withinF m.tick 0 1000000)), trivial⟩

end Go.Proofs

namespace Go.Proofs
open Go.Sx

def lookE : List Int → List (Int × Bool) → Int × List Int
  | S, [] => (0, S)
  | S, p :: r => if p.2 = false then (1, S) else if p.1 ∈ S then (6, S) else lookE (p.1 :: S) r

theorem lookE_err : ∀ (l : List (Int × Bool)) (S seen : List Int), (∀ x, x ∈ S ↔ x ∈ seen) → (lookE S l).1 = errF seen l
  | [], _, _, _ => rfl
  | (i, ok) :: r, S, seen, h => by
    unfold lookE errF
    cases ok with
    | false => rfl
    | true =>
      rw [if_neg (by simp)]
      by_cases hm : i ∈ S
      · rw [if_pos hm]
        have : seen.contains i = true := by simpa using (h i).1 hm
        rw [this]; rfl
      · rw [if_neg hm]
        have : seen.contains i = false := by simpa using fun h2 => hm ((h i).2 h2)
        rw [this]
        exact lookE_err r (i :: S) (seen ++ [i]) fun x => by simp [h x]; exact Or.comm

theorem lookE_cons (S : List Int) (p : Int × Bool) (r : List (Int × Bool)) : lookE S (p :: r) = if p.2 = false then (1, S) else if p.1 ∈ S then (6, S) else lookE (p.1 :: S) r := rfl

theorem lookE_append : ∀ (a b : List (Int × Bool)) (S : List Int), lookE S (a ++ b) = if (lookE S a).1 = 0 then lookE (lookE S a).2 b else lookE S a
  | [], b, S => rfl
  | p :: r, b, S => by
    by_cases h1 : p.2 = false
    · have e1 : lookE S (p :: r) = (1, S) := by rw [lookE_cons, if_pos h1]
      have e2 : lookE S (p :: r ++ b) = (1, S) := by rw [List.cons_append, lookE_cons, if_pos h1]
      rw [e1, e2]; rfl
    · by_cases h2 : p.1 ∈ S
      · have e1 : lookE S (p :: r) = (6, S) := by rw [lookE_cons, if_neg h1, if_pos h2]
        have e2 : lookE S (p :: r ++ b) = (6, S) := by rw [List.cons_append, lookE_cons, if_neg h1, if_pos h2]
        rw [e1, e2]; rfl
      · have e1 : lookE S (p :: r) = lookE (p.1 :: S) r := by rw [lookE_cons, if_neg h1, if_neg h2]
        have e2 : lookE S (p :: r ++ b) = lookE (p.1 :: S) (r ++ b) := by rw [List.cons_append, lookE_cons, if_neg h1, if_neg h2]
        rw [e1, e2]; exact lookE_append r b _

theorem und_int64 : Tryz.prog.underlying 3 = some (.int .i64) := by kernel_rfl
theorem zeroBal_ok : ∀ w, (zeroValue 57).run Tryz.prog w = .ok (encB true (balL zBal)) w := by intro w; kernel_rfl
theorem keyInt : KeyOK Tryz.prog 3 false 1 := keyOK_int und_int64

abbrev knownF (bs : List Bal) : KVs := bs.map fun b => ([b.id], balL b)

theorem lookKnown (bs : List Bal) (id : Int) : lookKV (knownF bs) [id] (balL zBal) = (balL (findD bs id), hasB bs id) := by
  unfold lookKV knownF findD hasB findB
  rw [List.find?_map]
  have e : ((fun p : List Int × List Int => p.1 == [id]) ∘ fun b : Bal => ([b.id], balL b)) = fun b => b.id == id := by
    funext b; simp
  rw [e]
  cases bs.find? (fun b => b.id == id) <;> rfl

abbrev knH (bs : List Bal) : Heap := [(1, false, .cells [.m 2]), (2, false, kvO false true 1 (knownF bs))]

theorem check1_t (bs : List Bal) (c : Chk) : Triple Tryz.prog 96 [svChk c, .c (.p 1 0 0 0)] (knH bs) 3 (bv (chkF bs c)) [] := by
  have hk := lookKnown bs c.bal
  have e : chkF bs c = (hasB bs c.bal && (withinF c.tick 0 1000000 && (withinF c.mass 0 (findD bs c.bal).cap && withinF c.shown 0 10000000))) := rfl
  rw [e]
  clear e
  generalize hasB bs c.bal = ok at *
  generalize findD bs c.bal = d at *
  refine triple_of tB_ok Tryz.func96 rfl Tryz.call96 rfl ?_
  intro ρ w hH
  conv=>whnf
  refine lookKV_step tB_ok 3 57 false true 1 (balL zBal) keyInt zeroBal_ok rfl ?_
  conv=>whnf
  refine ⟨_, _, _, rfl, hk, ?_⟩
  conv=>whnf
  refine ⟨fun hc => ?_, fun hc => ?_⟩
  rotate_left
  · conv=>whnf
    exact ⟨(by simp_all : _ = (ok && _)), trivial⟩
  conv=>whnf
  refine call_step (bWithin_t c.tick 0 1000000) rfl rfl ?_
  conv=>whnf
  refine ⟨?_, ?_, ?_⟩
  iterate 2 · repeat' (first | exact trivial | exact rfl | refine And.intro ?_ ?_ | ((conv=>whnf); first | exact trivial | exact rfl | refine And.intro ?_ ?_ | omega))
  conv=>whnf
  refine ⟨fun hc => ?_, fun hc => ?_⟩
  rotate_left
  · conv=>whnf
    exact ⟨(by simp_all [chkF] : _ = (ok && _)), trivial⟩
  conv=>whnf
  refine call_step (bWithin_t c.mass 0 d.cap) rfl rfl ?_
  conv=>whnf
  refine ⟨?_, ?_, ?_⟩
  iterate 2 · repeat' (first | exact trivial | exact rfl | refine And.intro ?_ ?_ | ((conv=>whnf); first | exact trivial | exact rfl | refine And.intro ?_ ?_ | omega))
  conv=>whnf
  refine ⟨fun hc => ?_, fun hc => ?_⟩
  rotate_left
  · conv=>whnf
    exact ⟨(by simp_all [chkF] : _ = (ok && _)), trivial⟩
  conv=>whnf
  refine call_step (bWithin_t c.shown 0 10000000) rfl rfl ?_
  conv=>whnf
  refine ⟨?_, ?_, ?_⟩
  iterate 2 · repeat' (first | exact trivial | exact rfl | refine And.intro ?_ ?_ | ((conv=>whnf); first | exact trivial | exact rfl | refine And.intro ?_ ?_ | omega))
  conv=>whnf
  exact ⟨(by simp_all : _ = (ok && _)), trivial⟩

theorem check2_t (bs : List Bal) (c : Ntc) : Triple Tryz.prog 100 [svNtc c, .c (.p 1 0 0 0)] (knH bs) 3 (bv (ntcF bs c)) [] := by
  have hk := lookKnown bs c.bal
  have e : ntcF bs c = (hasB bs c.bal && (insideF c.wlo c.whi 0 1000000 && insideF c.slo c.shi (-1000000) 1000000)) := rfl
  rw [e]
  clear e
  generalize hasB bs c.bal = ok at *
  generalize findD bs c.bal = d at *
  refine triple_of tB_ok Tryz.func100 rfl Tryz.call100 rfl ?_
  intro ρ w hH
  conv=>whnf
  refine lookKV_step tB_ok 3 57 false true 1 (balL zBal) keyInt zeroBal_ok rfl ?_
  conv=>whnf
  refine ⟨_, _, _, rfl, hk, ?_⟩
  conv=>whnf
  refine ⟨fun hc => ?_, fun hc => ?_⟩
  rotate_left
  · conv=>whnf
    exact ⟨(by simp_all : _ = (ok && _)), trivial⟩
  conv=>whnf
  refine call_step (bInside_t c.wlo c.whi 0 1000000) rfl rfl ?_
  conv=>whnf
  refine ⟨?_, ?_, ?_⟩
  iterate 2 · repeat' (first | exact trivial | exact rfl | refine And.intro ?_ ?_ | ((conv=>whnf); first | exact trivial | exact rfl | refine And.intro ?_ ?_ | omega))
  conv=>whnf
  refine ⟨fun hc => ?_, fun hc => ?_⟩
  rotate_left
  · conv=>whnf
    exact ⟨(by simp_all : _ = (ok && _)), trivial⟩
  conv=>whnf
  refine call_step (bInside_t c.slo c.shi (-1000000) 1000000) rfl rfl ?_
  conv=>whnf
  refine ⟨?_, ?_, ?_⟩
  iterate 2 · repeat' (first | exact trivial | exact rfl | refine And.intro ?_ ?_ | ((conv=>whnf); first | exact trivial | exact rfl | refine And.intro ?_ ?_ | omega))
  conv=>whnf
  exact ⟨(by simp_all : _ = (ok && _)), trivial⟩

theorem check3_t (bs : List Bal) (c : Wgh) : Triple Tryz.prog 104 [svWgh c, .c (.p 1 0 0 0)] (knH bs) 3 (bv (wghF bs c)) [] := by
  have hk := lookKnown bs c.bal
  have e : wghF bs c = (hasB bs c.bal && (withinF c.tick 0 1000000 && (thgF c.o && withinF c.shown 0 10000000))) := rfl
  rw [e]
  clear e
  generalize hasB bs c.bal = ok at *
  generalize findD bs c.bal = d at *
  refine triple_of tB_ok Tryz.func104 rfl Tryz.call104 rfl ?_
  intro ρ w hH
  conv=>whnf
  refine lookKV_step tB_ok 3 57 false true 1 (balL zBal) keyInt zeroBal_ok rfl ?_
  conv=>whnf
  refine ⟨_, _, _, rfl, hk, ?_⟩
  conv=>whnf
  refine ⟨fun hc => ?_, fun hc => ?_⟩
  rotate_left
  · conv=>whnf
    exact ⟨(by simp_all : _ = (ok && _)), trivial⟩
  conv=>whnf
  refine call_step (bWithin_t c.tick 0 1000000) rfl rfl ?_
  conv=>whnf
  refine ⟨?_, ?_, ?_⟩
  iterate 2 · repeat' (first | exact trivial | exact rfl | refine And.intro ?_ ?_ | ((conv=>whnf); first | exact trivial | exact rfl | refine And.intro ?_ ?_ | omega))
  conv=>whnf
  refine ⟨fun hc => ?_, fun hc => ?_⟩
  rotate_left
  · conv=>whnf
    exact ⟨(by simp_all [wghF] : _ = (ok && _)), trivial⟩
  conv=>whnf
  refine call_step (thing_t c.o) rfl rfl ?_
  conv=>whnf
  refine ⟨?_, ?_, ?_⟩
  iterate 2 · repeat' (first | exact trivial | exact rfl | refine And.intro ?_ ?_ | ((conv=>whnf); first | exact trivial | exact rfl | refine And.intro ?_ ?_ | omega))
  conv=>whnf
  refine ⟨fun hc => ?_, fun hc => ?_⟩
  rotate_left
  · conv=>whnf
    exact ⟨(by simp_all : _ = (ok && _)), trivial⟩
  conv=>whnf
  refine call_step (bWithin_t c.shown 0 10000000) rfl rfl ?_
  conv=>whnf
  refine ⟨?_, ?_, ?_⟩
  iterate 2 · repeat' (first | exact trivial | exact rfl | refine And.intro ?_ ?_ | ((conv=>whnf); first | exact trivial | exact rfl | refine And.intro ?_ ?_ | omega))
  conv=>whnf
  exact ⟨(by simp_all : _ = (ok && _)), trivial⟩

theorem lookedChk_t (bs : List Bal) (xs : List Chk) (S : List Int) (hx : xs.length ≤ 1000000) :
    Triple Tryz.prog 94 [.c (.s 0 0 xs.length 5), .c (.f 95 []), .c (.f 96 [1]), .c (.m 3)]
      ((0, false, .arr (aChk xs)) :: (3, true, setO S) :: knH bs) 4 (iv .i64 (lookE S (xs.map (chkP bs))).1) [(3, true, setO (lookE S (xs.map (chkP bs))).2)] := by
  generalize hR : lookE S (xs.map (chkP bs)) = R
  refine triple_of tB_ok Tryz.func94 rfl Tryz.call94 rfl ?_
  intro ρ w hH
  conv=>whnf
  refine loop_step tB_ok (G := Nat × List Int) 0 [] (fun g => [(14, iv .i64 g.1)]) (fun g => [(3, true, setO g.2)]) (fun g => g.1 ≤ xs.length ∧ lookE g.2 ((xs.drop g.1).map (chkP bs)) = R) (fun g => xs.length - g.1) ?_
  conv=>whnf
  refine ⟨⟨(0, S), ⟨Nat.zero_le _, hR⟩, ?_⟩, ?_⟩
  · conv=>whnf
    repeat' (first | exact trivial | exact rfl | refine And.intro ?_ ?_ | ((conv=>whnf); first | exact trivial | exact rfl | refine And.intro ?_ ?_ | omega))
  rintro ⟨i, T⟩ ⟨hi, hT⟩ ρ1 t1 hρ1
  have hi : i ≤ xs.length := hi
  have hT : lookE T ((xs.drop i).map (chkP bs)) = R := hT
  dsimp only
  conv=>whnf
  refine ⟨fun hc => ?_, fun hc => ?_⟩
  · have hlt : i < xs.length := by simpa using hc
    rw [List.drop_eq_getElem_cons hlt, List.map_cons] at hT
    unfold lookE at hT
    have e1 : (chkP bs xs[i]).1 = xs[i].id := rfl
    have e2 : (chkP bs xs[i]).2 = (withinF xs[i].id 1 1099511627776 && chkF bs xs[i]) := rfl
    rw [e1, e2] at hT
    conv=>whnf
    refine ⟨i, rfl, hlt, hlt, ?_⟩
    conv=>whnf
    refine call_step (checkID_t xs[i]) rfl rfl ?_
    conv=>whnf
    refine ⟨?_, ?_, ?_⟩
    iterate 2 · repeat' (first | exact trivial | exact rfl | refine And.intro ?_ ?_ | ((conv=>whnf); first | exact trivial | exact rfl | refine And.intro ?_ ?_ | omega))
    conv=>whnf
    refine call_step (bWithin_t xs[i].id 1 1099511627776) rfl rfl ?_
    conv=>whnf
    refine ⟨?_, ?_, ?_⟩
    iterate 2 · repeat' (first | exact trivial | exact rfl | refine And.intro ?_ ?_ | ((conv=>whnf); first | exact trivial | exact rfl | refine And.intro ?_ ?_ | omega))
    conv=>whnf
    refine ⟨fun hc => ?_, fun hc => ?_⟩
    · have h1 : withinF xs[i].id 1 1099511627776 = false := by simpa using (show (!withinF xs[i].id 1 1099511627776) = true from hc)
      rw [h1, Bool.false_and, if_pos rfl] at hT
      subst hT
      conv=>whnf
      repeat' (first | exact trivial | exact rfl | refine And.intro ?_ ?_ | ((conv=>whnf); first | exact trivial | exact rfl | refine And.intro ?_ ?_ | omega))
    have h1 : withinF xs[i].id 1 1099511627776 = true := by simpa using (show (!withinF xs[i].id 1 1099511627776) = false from hc)
    rw [h1, Bool.true_and] at hT
    conv=>whnf
    refine call_step (check1_t bs xs[i]) rfl rfl ?_
    conv=>whnf
    refine ⟨?_, ?_, ?_⟩
    iterate 2 · repeat' (first | exact trivial | exact rfl | refine And.intro ?_ ?_ | ((conv=>whnf); first | exact trivial | exact rfl | refine And.intro ?_ ?_ | omega))
    conv=>whnf
    refine ⟨fun hc => ?_, fun hc => ?_⟩
    · have h2 : chkF bs xs[i] = false := by simpa using (show (!chkF bs xs[i]) = true from hc)
      rw [h2, if_pos rfl] at hT
      subst hT
      conv=>whnf
      repeat' (first | exact trivial | exact rfl | refine And.intro ?_ ?_ | ((conv=>whnf); first | exact trivial | exact rfl | refine And.intro ?_ ?_ | omega))
    have h2 : chkF bs xs[i] = true := by simpa using (show (!chkF bs xs[i]) = false from hc)
    rw [h2, if_neg (by simp)] at hT
    conv=>whnf
    refine lookup_step tB_ok 4 zeroB_ok rfl ?_
    conv=>whnf
    refine ⟨T, rfl, ?_⟩
    conv=>whnf
    refine ⟨fun hc => ?_, fun hc => ?_⟩
    · have hm : xs[i].id ∈ T := of_decide_eq_true hc
      rw [if_pos hm] at hT
      subst hT
      conv=>whnf
      repeat' (first | exact trivial | exact rfl | refine And.intro ?_ ?_ | ((conv=>whnf); first | exact trivial | exact rfl | refine And.intro ?_ ?_ | omega))
    · have hm : xs[i].id ∉ T := of_decide_eq_false hc
      rw [if_neg hm] at hT
      conv=>whnf
      refine mapUp_step tB_ok rfl ?_
      conv=>whnf
      refine ⟨T, rfl, ?_⟩
      conv=>whnf
      refine ⟨_, wrapId ⟨by omega, by omega⟩, ?_⟩
      refine ⟨(i + 1, xs[i].id :: T), ⟨hlt, hT⟩, by show xs.length - (i + 1) < xs.length - i; omega, ?_⟩
      conv=>whnf
      refine ⟨rfl, ?_⟩
      conv=>whnf
      repeat' (first | exact trivial | exact rfl | refine And.intro ?_ ?_ | ((conv=>whnf); first | exact trivial | exact rfl | refine And.intro ?_ ?_ | omega))
  · have hie : i = xs.length := by simp at hc; omega
    subst hie
    rw [List.drop_length] at hT
    have hT : (0, T) = R := hT
    subst hT
    conv=>whnf
    repeat' (first | exact trivial | exact rfl | refine And.intro ?_ ?_ | ((conv=>whnf); first | exact trivial | exact rfl | refine And.intro ?_ ?_ | omega))

theorem lookedNtc_t (bs : List Bal) (xs : List Ntc) (S : List Int) (hx : xs.length ≤ 1000000) :
    Triple Tryz.prog 98 [.c (.s 0 0 xs.length 6), .c (.f 99 []), .c (.f 100 [1]), .c (.m 3)]
      ((0, false, .arr (aNtc xs)) :: (3, true, setO S) :: knH bs) 4 (iv .i64 (lookE S (xs.map (ntcP bs))).1) [(3, true, setO (lookE S (xs.map (ntcP bs))).2)] := by
  generalize hR : lookE S (xs.map (ntcP bs)) = R
  refine triple_of tB_ok Tryz.func98 rfl Tryz.call98 rfl ?_
  intro ρ w hH
  conv=>whnf
  refine loop_step tB_ok (G := Nat × List Int) 0 [] (fun g => [(14, iv .i64 g.1)]) (fun g => [(3, true, setO g.2)]) (fun g => g.1 ≤ xs.length ∧ lookE g.2 ((xs.drop g.1).map (ntcP bs)) = R) (fun g => xs.length - g.1) ?_
  conv=>whnf
  refine ⟨⟨(0, S), ⟨Nat.zero_le _, hR⟩, ?_⟩, ?_⟩
  · conv=>whnf
    repeat' (first | exact trivial | exact rfl | refine And.intro ?_ ?_ | ((conv=>whnf); first | exact trivial | exact rfl | refine And.intro ?_ ?_ | omega))
  rintro ⟨i, T⟩ ⟨hi, hT⟩ ρ1 t1 hρ1
  have hi : i ≤ xs.length := hi
  have hT : lookE T ((xs.drop i).map (ntcP bs)) = R := hT
  dsimp only
  conv=>whnf
  refine ⟨fun hc => ?_, fun hc => ?_⟩
  · have hlt : i < xs.length := by simpa using hc
    rw [List.drop_eq_getElem_cons hlt, List.map_cons] at hT
    unfold lookE at hT
    have e1 : (ntcP bs xs[i]).1 = xs[i].id := rfl
    have e2 : (ntcP bs xs[i]).2 = (withinF xs[i].id 1 1099511627776 && ntcF bs xs[i]) := rfl
    rw [e1, e2] at hT
    conv=>whnf
    refine ⟨i, rfl, hlt, hlt, ?_⟩
    conv=>whnf
    refine call_step (noticeID_t xs[i]) rfl rfl ?_
    conv=>whnf
    refine ⟨?_, ?_, ?_⟩
    iterate 2 · repeat' (first | exact trivial | exact rfl | refine And.intro ?_ ?_ | ((conv=>whnf); first | exact trivial | exact rfl | refine And.intro ?_ ?_ | omega))
    conv=>whnf
    refine call_step (bWithin_t xs[i].id 1 1099511627776) rfl rfl ?_
    conv=>whnf
    refine ⟨?_, ?_, ?_⟩
    iterate 2 · repeat' (first | exact trivial | exact rfl | refine And.intro ?_ ?_ | ((conv=>whnf); first | exact trivial | exact rfl | refine And.intro ?_ ?_ | omega))
    conv=>whnf
    refine ⟨fun hc => ?_, fun hc => ?_⟩
    · have h1 : withinF xs[i].id 1 1099511627776 = false := by simpa using (show (!withinF xs[i].id 1 1099511627776) = true from hc)
      rw [h1, Bool.false_and, if_pos rfl] at hT
      subst hT
      conv=>whnf
      repeat' (first | exact trivial | exact rfl | refine And.intro ?_ ?_ | ((conv=>whnf); first | exact trivial | exact rfl | refine And.intro ?_ ?_ | omega))
    have h1 : withinF xs[i].id 1 1099511627776 = true := by simpa using (show (!withinF xs[i].id 1 1099511627776) = false from hc)
    rw [h1, Bool.true_and] at hT
    conv=>whnf
    refine call_step (check2_t bs xs[i]) rfl rfl ?_
    conv=>whnf
    refine ⟨?_, ?_, ?_⟩
    iterate 2 · repeat' (first | exact trivial | exact rfl | refine And.intro ?_ ?_ | ((conv=>whnf); first | exact trivial | exact rfl | refine And.intro ?_ ?_ | omega))
    conv=>whnf
    refine ⟨fun hc => ?_, fun hc => ?_⟩
    · have h2 : ntcF bs xs[i] = false := by simpa using (show (!ntcF bs xs[i]) = true from hc)
      rw [h2, if_pos rfl] at hT
      subst hT
      conv=>whnf
      repeat' (first | exact trivial | exact rfl | refine And.intro ?_ ?_ | ((conv=>whnf); first | exact trivial | exact rfl | refine And.intro ?_ ?_ | omega))
    have h2 : ntcF bs xs[i] = true := by simpa using (show (!ntcF bs xs[i]) = false from hc)
    rw [h2, if_neg (by simp)] at hT
    conv=>whnf
    refine lookup_step tB_ok 4 zeroB_ok rfl ?_
    conv=>whnf
    refine ⟨T, rfl, ?_⟩
    conv=>whnf
    refine ⟨fun hc => ?_, fun hc => ?_⟩
    · have hm : xs[i].id ∈ T := of_decide_eq_true hc
      rw [if_pos hm] at hT
      subst hT
      conv=>whnf
      repeat' (first | exact trivial | exact rfl | refine And.intro ?_ ?_ | ((conv=>whnf); first | exact trivial | exact rfl | refine And.intro ?_ ?_ | omega))
    · have hm : xs[i].id ∉ T := of_decide_eq_false hc
      rw [if_neg hm] at hT
      conv=>whnf
      refine mapUp_step tB_ok rfl ?_
      conv=>whnf
      refine ⟨T, rfl, ?_⟩
      conv=>whnf
      refine ⟨_, wrapId ⟨by omega, by omega⟩, ?_⟩
      refine ⟨(i + 1, xs[i].id :: T), ⟨hlt, hT⟩, by show xs.length - (i + 1) < xs.length - i; omega, ?_⟩
      conv=>whnf
      refine ⟨rfl, ?_⟩
      conv=>whnf
      repeat' (first | exact trivial | exact rfl | refine And.intro ?_ ?_ | ((conv=>whnf); first | exact trivial | exact rfl | refine And.intro ?_ ?_ | omega))
  · have hie : i = xs.length := by simp at hc; omega
    subst hie
    rw [List.drop_length] at hT
    have hT : (0, T) = R := hT
    subst hT
    conv=>whnf
    repeat' (first | exact trivial | exact rfl | refine And.intro ?_ ?_ | ((conv=>whnf); first | exact trivial | exact rfl | refine And.intro ?_ ?_ | omega))

theorem lookedWgh_t (bs : List Bal) (xs : List Wgh) (S : List Int) (hx : xs.length ≤ 1000000) :
    Triple Tryz.prog 102 [.c (.s 0 0 xs.length 8), .c (.f 103 []), .c (.f 104 [1]), .c (.m 3)]
      ((0, false, .arr (aWgh xs)) :: (3, true, setO S) :: knH bs) 4 (iv .i64 (lookE S (xs.map (wghP bs))).1) [(3, true, setO (lookE S (xs.map (wghP bs))).2)] := by
  generalize hR : lookE S (xs.map (wghP bs)) = R
  refine triple_of tB_ok Tryz.func102 rfl Tryz.call102 rfl ?_
  intro ρ w hH
  conv=>whnf
  refine loop_step tB_ok (G := Nat × List Int) 0 [] (fun g => [(14, iv .i64 g.1)]) (fun g => [(3, true, setO g.2)]) (fun g => g.1 ≤ xs.length ∧ lookE g.2 ((xs.drop g.1).map (wghP bs)) = R) (fun g => xs.length - g.1) ?_
  conv=>whnf
  refine ⟨⟨(0, S), ⟨Nat.zero_le _, hR⟩, ?_⟩, ?_⟩
  · conv=>whnf
    repeat' (first | exact trivial | exact rfl | refine And.intro ?_ ?_ | ((conv=>whnf); first | exact trivial | exact rfl | refine And.intro ?_ ?_ | omega))
  rintro ⟨i, T⟩ ⟨hi, hT⟩ ρ1 t1 hρ1
  have hi : i ≤ xs.length := hi
  have hT : lookE T ((xs.drop i).map (wghP bs)) = R := hT
  dsimp only
  conv=>whnf
  refine ⟨fun hc => ?_, fun hc => ?_⟩
  · have hlt : i < xs.length := by simpa using hc
    rw [List.drop_eq_getElem_cons hlt, List.map_cons] at hT
    unfold lookE at hT
    have e1 : (wghP bs xs[i]).1 = xs[i].id := rfl
    have e2 : (wghP bs xs[i]).2 = (withinF xs[i].id 1 1099511627776 && wghF bs xs[i]) := rfl
    rw [e1, e2] at hT
    conv=>whnf
    refine ⟨i, rfl, hlt, hlt, ?_⟩
    conv=>whnf
    refine call_step (weighingID_t xs[i]) rfl rfl ?_
    conv=>whnf
    refine ⟨?_, ?_, ?_⟩
    iterate 2 · repeat' (first | exact trivial | exact rfl | refine And.intro ?_ ?_ | ((conv=>whnf); first | exact trivial | exact rfl | refine And.intro ?_ ?_ | omega))
    conv=>whnf
    refine call_step (bWithin_t xs[i].id 1 1099511627776) rfl rfl ?_
    conv=>whnf
    refine ⟨?_, ?_, ?_⟩
    iterate 2 · repeat' (first | exact trivial | exact rfl | refine And.intro ?_ ?_ | ((conv=>whnf); first | exact trivial | exact rfl | refine And.intro ?_ ?_ | omega))
    conv=>whnf
    refine ⟨fun hc => ?_, fun hc => ?_⟩
    · have h1 : withinF xs[i].id 1 1099511627776 = false := by simpa using (show (!withinF xs[i].id 1 1099511627776) = true from hc)
      rw [h1, Bool.false_and, if_pos rfl] at hT
      subst hT
      conv=>whnf
      repeat' (first | exact trivial | exact rfl | refine And.intro ?_ ?_ | ((conv=>whnf); first | exact trivial | exact rfl | refine And.intro ?_ ?_ | omega))
    have h1 : withinF xs[i].id 1 1099511627776 = true := by simpa using (show (!withinF xs[i].id 1 1099511627776) = false from hc)
    rw [h1, Bool.true_and] at hT
    conv=>whnf
    refine call_step (check3_t bs xs[i]) rfl rfl ?_
    conv=>whnf
    refine ⟨?_, ?_, ?_⟩
    iterate 2 · repeat' (first | exact trivial | exact rfl | refine And.intro ?_ ?_ | ((conv=>whnf); first | exact trivial | exact rfl | refine And.intro ?_ ?_ | omega))
    conv=>whnf
    refine ⟨fun hc => ?_, fun hc => ?_⟩
    · have h2 : wghF bs xs[i] = false := by simpa using (show (!wghF bs xs[i]) = true from hc)
      rw [h2, if_pos rfl] at hT
      subst hT
      conv=>whnf
      repeat' (first | exact trivial | exact rfl | refine And.intro ?_ ?_ | ((conv=>whnf); first | exact trivial | exact rfl | refine And.intro ?_ ?_ | omega))
    have h2 : wghF bs xs[i] = true := by simpa using (show (!wghF bs xs[i]) = false from hc)
    rw [h2, if_neg (by simp)] at hT
    conv=>whnf
    refine lookup_step tB_ok 4 zeroB_ok rfl ?_
    conv=>whnf
    refine ⟨T, rfl, ?_⟩
    conv=>whnf
    refine ⟨fun hc => ?_, fun hc => ?_⟩
    · have hm : xs[i].id ∈ T := of_decide_eq_true hc
      rw [if_pos hm] at hT
      subst hT
      conv=>whnf
      repeat' (first | exact trivial | exact rfl | refine And.intro ?_ ?_ | ((conv=>whnf); first | exact trivial | exact rfl | refine And.intro ?_ ?_ | omega))
    · have hm : xs[i].id ∉ T := of_decide_eq_false hc
      rw [if_neg hm] at hT
      conv=>whnf
      refine mapUp_step tB_ok rfl ?_
      conv=>whnf
      refine ⟨T, rfl, ?_⟩
      conv=>whnf
      refine ⟨_, wrapId ⟨by omega, by omega⟩, ?_⟩
      refine ⟨(i + 1, xs[i].id :: T), ⟨hlt, hT⟩, by show xs.length - (i + 1) < xs.length - i; omega, ?_⟩
      conv=>whnf
      refine ⟨rfl, ?_⟩
      conv=>whnf
      repeat' (first | exact trivial | exact rfl | refine And.intro ?_ ?_ | ((conv=>whnf); first | exact trivial | exact rfl | refine And.intro ?_ ?_ | omega))
  · have hie : i = xs.length := by simp at hc; omega
    subst hie
    rw [List.drop_length] at hT
    have hT : (0, T) = R := hT
    subst hT
    conv=>whnf
    repeat' (first | exact trivial | exact rfl | refine And.intro ?_ ?_ | ((conv=>whnf); first | exact trivial | exact rfl | refine And.intro ?_ ?_ | omega))

end Go.Proofs

