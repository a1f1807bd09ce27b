/-
  A part of the proof that a law answers true: lemmas of a symbolic walk, plain functions, or contracts of the functions walked (Sx7, Sx8, Sx9, Sx10, Sx11). Conditions: none.
-/
import Derived.Test.YtagedjfjcnemoaaGreatPart01
set_option maxRecDepth 100000
set_option linter.unusedVariables false
set_option linter.unusedSimpArgs false
namespace Go
namespace Sx

def unK (op : UnOp) (x : SV) (K : PK) : Prop :=
  match op, x with
  | .not, .c (.b true) => K (.c (.b false)) []
  | .not, .c (.b false) => K (.c (.b true)) []
  | .not, .c (.v (.bool t)) => K (bv (!t)) []
  | .neg, .c (.v (.int k n)) => ∃ z, k.wrap (0 - n) = z ∧ K (iv k z) []
  | _, _ => False

theorem un_ok {P : Program} {o : Oper} {e : Env} {H : Heap} {op : UnOp} {t : TypeId} {x : Operand} {K : PK} (ho : o.op = .unOp op t x)
    (h : unK op (ev e x) K) : ∃ sv rd, K sv rd ∧ PureOK P o e H sv rd := by
  have hx : x ∈ o.op.operands.toList := by simp [ho, Op.operands]
  unfold unK at h
  split at h
  · rename_i he
    refine ⟨_, _, h, pureLit (fun n => below_b n _) fun ρ a w hr => ⟨.bool false, ?_, rfl⟩⟩
    have := reads_fit hx hr; rw [he] at this; simp only [SV.rel, SC.rel] at this
    simp [execOp, ho, this, Op.unary]
  · rename_i he
    refine ⟨_, _, h, pureLit (fun n => below_b n _) fun ρ a w hr => ⟨.bool true, ?_, rfl⟩⟩
    have := reads_fit hx hr; rw [he] at this; simp only [SV.rel, SC.rel] at this
    simp [execOp, ho, this, Op.unary]
  · rename_i t0 he
    refine ⟨_, _, h, pureLit (fun n => below_bv n _) fun ρ a w hr => ⟨.bool (!t0), ?_, rfl⟩⟩
    have := reads_fit hx hr; rw [he] at this; simp only [SV.rel, SC.rel] at this
    simp [execOp, ho, this, Op.unary]
  · rename_i k n he
    obtain ⟨z, hz, hK⟩ := h
    refine ⟨_, _, hK, pureLit (fun n => below_iv n _ _) fun ρ a w hr => ⟨.int k z, ?_, rfl⟩⟩
    have := reads_fit hx hr; rw [he] at this; simp only [SV.rel, SC.rel] at this
    have hz' : k.wrap (0 - n) = z := hz
    simp only [execOp, ho, this, Op.unary, Op.intArith, hz']
    rfl
  · exact h.elim

def convK (B : Tabs) (s d : TypeId) (x : SV) (K : PK) : Prop :=
  match x, lookT B.T s, lookT B.T d with
  | .c (.v (.int _ n)), some ⟨.int _, _, _, _⟩, some ⟨.int k', _, _, _⟩ => ∃ z, k'.wrap n = z ∧ K (iv k' z) []
  | _, _, _ => False

theorem conv_ok {P : Program} {B : Tabs} (hB : TabsOK P B) {o : Oper} {e : Env} {H : Heap} {s d : TypeId} {x : Operand} {K : PK} (ho : o.op = .convert s d x)
    (h : convK B s d (ev e x) K) : ∃ sv rd, K sv rd ∧ PureOK P o e H sv rd := by
  have hx : x ∈ o.op.operands.toList := by simp [ho, Op.operands]
  unfold convK at h
  split at h
  · rename_i k n k0 s0 b0 z0 k' s1 b1 z1 he hs hd
    obtain ⟨z, hz, hK⟩ := h
    refine ⟨_, _, hK, pureLit (fun n => below_iv n _ _) fun ρ a w hr => ⟨.int k' z, ?_, rfl⟩⟩
    have := reads_fit hx hr; rw [he] at this; simp only [SV.rel, SC.rel] at this
    obtain ⟨ds, hds, hks⟩ := run_und_kd hB.T hs w
    obtain ⟨dd, hdd, hkd⟩ := run_und_kd hB.T hd w
    have e1 := kd_int hks
    have e2 := kd_int hkd
    subst e1; subst e2
    simp [execOp, ho, this, Go.convert, hds, hdd, Conv.intToInt, hz]
  · exact h.elim

theorem adr_add (ρ : Asg) (k m n : Nat) : (adr ρ k m).add n = adr ρ k (m + n) := by
  simp only [adr, Addr.add]
  by_cases h : n = 0
  · simp [h]
  · simp [h, Nat.add_assoc]

def faK (B : Tabs) (s : TypeId) (x : SV) (f : Nat) (K : PK) : Prop :=
  match x, lookT B.T s with
  | .c (.p k i sz off), some ⟨.struct fs, _, _, _⟩ => match fs[f]? with
    | some (fo, ft) => match lookT B.T ft with
      | some ti => bif Nat.beq ti.size 0 then False else K (.c (.p k i sz (off + fo))) []
      | none => False
    | none => False
  | _, _ => False

theorem run_sizeOf {P : Program} {B : Tabs} (hB : TabsOK P B) {t : TypeId} {ti : TI} (h : lookT B.T t = some ti) (w : World) : (sizeOf t).run P w = .ok ti.size w :=
  run_size w (hB.T.get h)

theorem fields_get {fields : Array Field} {fs : List (Nat × TypeId)} (h : fields.toList.map (fun f => (f.offset, f.type)) = fs) {f fo ft : Nat} (hf : fs[f]? = some (fo, ft)) :
    ∃ fld, fields[f]? = some fld ∧ fld.offset = fo ∧ fld.type = ft := by
  rw [← h, List.getElem?_map] at hf
  cases hx : fields.toList[f]? with
  | none => simp [hx] at hf
  | some fld =>
    simp [hx] at hf
    exact ⟨fld, by simpa using hx, hf.1, hf.2⟩

theorem fa_ok {P : Program} {B : Tabs} (hB : TabsOK P B) {o : Oper} {e : Env} {H : Heap} {s : TypeId} {x : Operand} {f : Nat} {K : PK} (ho : o.op = .fieldAddr s x f)
    (h : faK B s (ev e x) f K) : ∃ sv rd, K sv rd ∧ PureOK P o e H sv rd := by
  have hx : x ∈ o.op.operands.toList := by simp [ho, Op.operands]
  unfold faK at h
  split at h
  · rename_i k i sz off fs s0 b0 z0 he hs
    split at h
    · rename_i fo ft hf
      split at h
      · rename_i ti hti
        cases hz : Nat.beq ti.size 0 with
        | true => simp [hz] at h
        | false =>
          simp only [hz, cond_false] at h
          refine ⟨_, _, h, ?_, ?_⟩
          · intro n hn _
            have := reads_below hx hn
            rw [he] at this
            rw [SV.below_c] at this ⊢
            exact this
          · intro ρ a w hr _
            have := reads_fit hx hr; rw [he] at this; simp only [SV.rel, SC.rel] at this
            obtain ⟨ds, hds, hks⟩ := run_und_kd hB.T hs w
            obtain ⟨fields, rfl, hfs⟩ := kd_struct hks
            obtain ⟨fld, hfld, rfl, rfl⟩ := fields_get hfs hf
            have hsz := run_sizeOf hB hti w
            have hne : ¬ ti.size = 0 := Nat.ne_of_beq_eq_false hz
            refine ⟨.pointer (some (adr ρ k (i * sz + (off + fld.offset)))), ?_, rfl⟩
            simp [execOp, ho, this, Instr.fieldAt, hds, hfld, Instr.sureAddr, fieldPlace, hsz, hne, adr_add, Nat.add_assoc]
      · exact h.elim
    · exact h.elim
  · exact h.elim

def partK (ti : TI) (l : List SC) (off : Nat) (rd : List Nat) (K : PK) : Prop :=
  bif ti.kd.isAgg then K (.agg ((l.drop off).take ti.size)) rd else match l[off]? with
    | some c => K (.c c) rd
    | none => False

theorem relL_length {ρ : Asg} : ∀ {l : List SC} {vs : List Value}, relL ρ l vs → l.length = vs.length
  | [], [], _ => rfl
  | [], _ :: _, h => h.elim
  | _ :: _, [], h => h.elim
  | _ :: _, _ :: _, h => by simp [relL_length h.2]

theorem relL_get {ρ : Asg} : ∀ {l : List SC} {vs : List Value} {i : Nat} {c : SC}, relL ρ l vs → l[i]? = some c → ∃ v, vs[i]? = some v ∧ c.rel ρ v
  | [], _, _, _, _, h => by simp at h
  | _ :: _, [], _, _, hr, _ => hr.elim
  | c :: l, v :: vs, 0, x, hr, h => by simp at h; subst h; exact ⟨v, by simp, hr.1⟩
  | c :: l, v :: vs, i + 1, x, hr, h => by
    obtain ⟨u, hu, hx⟩ := relL_get (i := i) hr.2 (by simpa using h); exact ⟨u, by simpa using hu, hx⟩

theorem relL_drop {ρ : Asg} : ∀ (n : Nat) {l : List SC} {vs : List Value}, relL ρ l vs → relL ρ (l.drop n) (vs.drop n)
  | 0, _, _, h => by simpa using h
  | _ + 1, [], [], _ => by simp [relL]
  | _ + 1, [], _ :: _, h => h.elim
  | _ + 1, _ :: _, [], h => h.elim
  | n + 1, _ :: l, _ :: vs, h => by simpa using relL_drop n h.2

theorem relL_take {ρ : Asg} : ∀ (n : Nat) {l : List SC} {vs : List Value}, relL ρ l vs → relL ρ (l.take n) (vs.take n)
  | 0, _, _, _ => by simp [relL]
  | _ + 1, [], [], _ => by simp [relL]
  | _ + 1, [], _ :: _, h => h.elim
  | _ + 1, _ :: _, [], h => h.elim
  | n + 1, _ :: l, _ :: vs, h => by simpa [relL] using ⟨h.1, relL_take n h.2⟩

theorem relL_append {ρ : Asg} : ∀ {l l' : List SC} {vs vs' : List Value}, relL ρ l vs → relL ρ l' vs' → relL ρ (l ++ l') (vs ++ vs')
  | [], _, [], _, _, h => by simpa using h
  | [], _, _ :: _, _, h, _ => h.elim
  | _ :: _, _, [], _, h, _ => h.elim
  | _ :: l, _, _ :: vs, _, h, h' => by simpa [relL] using ⟨h.1, relL_append h.2 h'⟩

theorem part_ok {P : Program} {B : Tabs} (hB : TabsOK P B) {t : TypeId} {ti : TI} (ht : lookT B.T t = some ti) {l : List SC} {off : Nat} {rd : List Nat} {K : PK} (h : partK ti l off rd K) :
    ∃ sv, K sv rd ∧ (∀ n, (SV.agg l).below n → sv.below n) ∧ ∀ (ρ : Asg) (xs : Array Value) (w : World), relL ρ l xs.toList → ∃ v, (part t xs off).run P w = .ok v w ∧ sv.rel ρ v := by
  unfold partK at h
  cases ha : ti.kd.isAgg with
  | true =>
    simp only [ha, cond_true] at h
    refine ⟨_, h, ?_, ?_⟩
    · intro n hn k hk
      refine hn k ?_
      simp only [SV.uses] at hk ⊢
      obtain ⟨c, hc, hu⟩ := usesL_iff.1 hk
      exact usesL_iff.2 ⟨c, List.mem_of_mem_drop (List.mem_of_mem_take hc), hu⟩
    · intro ρ xs w hr
      have h1 := run_isAgg w (hB.T.get ht)
      have h2 := run_sizeOf hB ht w
      refine ⟨.agg (xs.extract off (off + ti.size)), by simp [part, h1, ha, h2], _, rfl, ?_⟩
      have := relL_take ti.size (relL_drop off hr)
      simpa [Array.toList_extract, List.extract_eq_take_drop] using this
  | false =>
    simp only [ha, cond_false] at h
    split at h
    · rename_i c hc
      refine ⟨_, h, ?_, ?_⟩
      · intro n hn k hk
        exact hn k (usesL_iff.2 ⟨c, List.mem_of_getElem? hc, hk⟩)
      · intro ρ xs w hr
        have h1 := run_isAgg w (hB.T.get ht)
        obtain ⟨v, hv, hx⟩ := relL_get hr hc
        have hv' : xs[off]? = some v := by simpa using hv
        exact ⟨v, by simp [part, h1, ha, hv'], hx⟩
    · exact h.elim

def fieldK (B : Tabs) (s : TypeId) (x : SV) (f : Nat) (K : PK) : Prop :=
  match x, lookT B.T s with
  | .agg l, some ⟨.struct fs, _, _, _⟩ => match fs[f]? with
    | some (fo, ft) => match lookT B.T ft with
      | some ti => partK ti l fo [] K
      | none => False
    | none => False
  | _, _ => False

theorem field_ok {P : Program} {B : Tabs} (hB : TabsOK P B) {o : Oper} {e : Env} {H : Heap} {s : TypeId} {x : Operand} {f : Nat} {K : PK} (ho : o.op = .field s x f)
    (h : fieldK B s (ev e x) f K) : ∃ sv rd, K sv rd ∧ PureOK P o e H sv rd := by
  have hx : x ∈ o.op.operands.toList := by simp [ho, Op.operands]
  unfold fieldK at h
  split at h
  · rename_i l fs s0 b0 z0 he hs
    split at h
    · rename_i fo ft hf
      split at h
      · rename_i ti hti
        obtain ⟨sv, hK, hb, hrun⟩ := part_ok hB hti h
        refine ⟨sv, [], hK, fun n hn _ => hb n (by rw [← he]; exact reads_below hx hn), fun ρ a w hr _ => ?_⟩
        have := reads_fit hx hr; rw [he] at this
        obtain ⟨xs, hv, hrel⟩ := this
        obtain ⟨ds, hds, hks⟩ := run_und_kd hB.T hs w
        obtain ⟨fields, rfl, hfs⟩ := kd_struct hks
        obtain ⟨fld, hfld, rfl, rfl⟩ := fields_get hfs hf
        obtain ⟨v, hv', hx'⟩ := hrun ρ xs w hrel
        exact ⟨v, by simp [execOp, ho, hv, Instr.field, hds, hfld, asAgg, hv'], hx'⟩
      · exact h.elim
    · exact h.elim
  · exact h.elim

end Sx
end Go

namespace Go
namespace Sx

def addN : Nat → Nat → Nat
  | 0, j => j
  | s + 1, j => (s + 1) + j

theorem addN_eq (s j : Nat) : addN s j = s + j := by cases s <;> simp [addN]

def iaK (B : Tabs) (t : TypeId) (x ix : SV) (K : PK) : Prop :=
  match x, ix, lookT B.T t with
  | .c (.s k st len sz), .c (.v (.int _ n)), some ⟨.slice el, _, _, _⟩ => match lookT B.T el with
    | some ti => bif Nat.beq ti.size sz then ∃ j : Nat, n = (j : Int) ∧ j < len ∧ K (.c (.p k (addN st j) sz 0)) [] else False
    | none => False
  | .c (.p k i sz off), .c (.v (.int _ n)), some ⟨.array len el, _, _, _⟩ => match lookT B.T el with
    | some ti => ∃ j : Nat, n = (j : Int) ∧ j < len ∧ K (.c (.p k i sz (off + j * ti.size))) []
    | none => False
  | _, _, _ => False

theorem ia_ok {P : Program} {B : Tabs} (hB : TabsOK P B) {o : Oper} {e : Env} {H : Heap} {t : TypeId} {x ix : Operand} {K : PK} (ho : o.op = .indexAddr t x ix)
    (h : iaK B t (ev e x) (ev e ix) K) : ∃ sv rd, K sv rd ∧ PureOK P o e H sv rd := by
  have hx : x ∈ o.op.operands.toList := by simp [ho, Op.operands]
  have hix : ix ∈ o.op.operands.toList := by simp [ho, Op.operands]
  unfold iaK at h
  split at h
  · rename_i k st len sz ki n el s0 b0 z0 he hei ht
    split at h
    · rename_i ti hti
      cases hz : Nat.beq ti.size sz with
      | false => simp [hz] at h
      | true =>
        simp only [hz, cond_true] at h
        obtain ⟨j, rfl, hj, hK⟩ := h
        refine ⟨_, _, hK, ?_, ?_⟩
        · intro m hm _
          have := reads_below hx hm
          rw [he] at this
          rw [SV.below_c] at this ⊢
          exact this
        · intro ρ a w hr _
          have h1 := reads_fit hx hr; rw [he] at h1; simp only [SV.rel, SC.rel] at h1
          have h2 := reads_fit hix hr; rw [hei] at h2; simp only [SV.rel, SC.rel] at h2
          obtain ⟨ad, hv, hle, had⟩ := h1
          obtain ⟨ds, hds, hks⟩ := run_und_kd hB.T ht w
          have e1 := kd_slice hks
          subst e1
          have hsz := run_sizeOf hB hti w
          have hz' := Nat.eq_of_beq_eq_true hz
          have had' := had (by omega)
          subst had'
          refine ⟨.pointer (some (adr ρ k (addN st j * sz + 0))), ?_, rfl⟩
          simp [execOp, ho, hv, h2, Instr.indexAt, asIntOf, hds, hj, hsz, hz', adr_add, addN_eq, Nat.add_mul]
    · exact h.elim
  · rename_i k i sz off ki n len el s0 b0 z0 he hei ht
    split at h
    · rename_i ti hti
      obtain ⟨j, rfl, hj, hK⟩ := h
      refine ⟨_, _, hK, ?_, ?_⟩
      · intro m hm _
        have := reads_below hx hm
        rw [he] at this
        rw [SV.below_c] at this ⊢
        exact this
      · intro ρ a w hr _
        have h1 := reads_fit hx hr; rw [he] at h1; simp only [SV.rel, SC.rel] at h1
        have h2 := reads_fit hix hr; rw [hei] at h2; simp only [SV.rel, SC.rel] at h2
        obtain ⟨ds, hds, hks⟩ := run_und_kd hB.T ht w
        have e1 := kd_array hks
        subst e1
        have hsz := run_sizeOf hB hti w
        refine ⟨.pointer (some (adr ρ k (i * sz + (off + j * ti.size)))), ?_, rfl⟩
        simp [execOp, ho, h1, h2, Instr.indexAt, asIntOf, hds, hj, hsz, Instr.sureAddr, adr_add, Nat.add_assoc]
    · exact h.elim
  · exact h.elim

theorem run_loadFrom {P : Program} {w : World} {a : Addr} : ∀ (vs : List Value) (i : Nat) (acc : Array Value), (∀ j v, vs[j]? = some v → w.cell? (a.add (i + j)) = some v) →
    (loadCellsFrom a i vs.length acc).run P w = .ok (acc ++ vs.toArray) w
  | [], _, _, _ => by simp [loadCellsFrom]
  | v :: vs, i, acc, h => by
    have h0 := h 0 v (by simp)
    simp only [Nat.add_zero] at h0
    have ih := run_loadFrom (P := P) (w := w) (a := a) vs (i + 1) (acc.push v) (fun j u hu => by
      have := h (j + 1) u (by simpa using hu)
      rw [show i + 1 + j = i + (j + 1) from by omega]; exact this)
    simp only [List.length_cons, loadCellsFrom, Sem.run_bind, run_load, h0, Result.andThen_ok, ih]
    simp

theorem run_loadCells {P : Program} {w : World} {a : Addr} {vs : List Value} (h : ∀ (j : Nat) v, vs[j]? = some v → w.cell? (a.add j) = some v) :
    (loadCells a vs.length).run P w = .ok vs.toArray w := by
  unfold loadCells
  rw [run_loadFrom vs 0 #[] (fun j v hv => by simpa using h j v hv)]
  simp

theorem cells_at {ρ : Asg} {w : World} {k : Nat} : ∀ (cs : List SC) (n : Nat), (∀ (j : Nat) c, cs[j]? = some c → ∃ v, w.cell? (adr ρ k (n + j)) = some v ∧ c.rel ρ v) →
    ∃ vs, relL ρ cs vs ∧ ∀ (j : Nat) v, vs[j]? = some v → w.cell? (adr ρ k (n + j)) = some v
  | [], _, _ => ⟨[], trivial, fun _ _ h => by simp at h⟩
  | c :: cs, n, h => by
    obtain ⟨v, hv, hr⟩ := h 0 c (by simp)
    obtain ⟨vs, hvs, hm⟩ := cells_at cs (n + 1) (fun j d hd => by
      have := h (j + 1) d (by simpa using hd)
      rw [show n + 1 + j = n + (j + 1) from by omega]; exact this)
    refine ⟨v :: vs, ⟨hr, hvs⟩, fun j u hu => ?_⟩
    cases j with
    | zero => simp at hu; subst hu; simpa using hv
    | succ j =>
      have := hm j u (by simpa using hu)
      rw [show n + (j + 1) = n + 1 + j from by omega]; exact this

def loadL (ti : TI) (l : List SC) (off : Nat) (rd : List Nat) (K : PK) : Prop :=
  bif ti.kd.isAgg then (match (l.drop off).take ti.size with
    | l' => bif Nat.beq l'.length ti.size then K (.agg l') rd else False) else match l[off]? with
    | some c => K (.c c) rd
    | none => False

def loadK (B : Tabs) (t : TypeId) (x : SV) (H : Heap) (K : PK) : Prop :=
  match x, lookT B.T t with
  | .c (.p k i sz off), some ti => match look H k with
    | some (_, .cells l) => (match i with
      | 0 => loadL ti l off [k] K
      | _ + 1 => False)
    | some (_, .arr A) => bif Nat.beq sz A.sz then ∃ h : i < A.xs.length, loadL ti (A.enc (A.xs[i]'h)) off [k] K else False
    | _ => False
  | _, _ => False

theorem loadL_ok {P : Program} {B : Tabs} (hB : TabsOK P B) {t : TypeId} {ti : TI} (ht : lookT B.T t = some ti) {l : List SC} {off : Nat} {rd : List Nat} {K : PK} (h : loadL ti l off rd K) :
    ∃ sv, K sv rd ∧ (∀ n, (∀ c ∈ l, c.below n) → sv.below n) ∧ ∀ (ρ : Asg) (k n : Nat) (w : World), (∀ (j : Nat) c, l[j]? = some c → ∃ v, w.cell? (adr ρ k (n + j)) = some v ∧ c.rel ρ v) →
      ∃ v, (loadVar t (adr ρ k (n + off))).run P w = .ok v w ∧ sv.rel ρ v := by
  unfold loadL at h
  cases ha : ti.kd.isAgg with
  | true =>
    simp only [ha, cond_true] at h
    cases hl : Nat.beq ((l.drop off).take ti.size).length ti.size with
    | false => rw [hl] at h; exact h.elim
    | true =>
      rw [hl] at h
      simp only [cond_true] at h
      refine ⟨_, h, ?_, ?_⟩
      · intro n hn k hk
        obtain ⟨c, hc, hu⟩ := usesL_iff.1 hk
        obtain ⟨j, hj, hm⟩ := SC.uses_iff.1 hu
        simp at hm; subst hm
        exact hn c (List.mem_of_mem_drop (List.mem_of_mem_take hc)) _ hj
      · intro ρ k n w hc
        obtain ⟨vs, hvs, hm⟩ := cells_at (ρ := ρ) (w := w) (k := k) ((l.drop off).take ti.size) (n + off) (fun j c hj => by
          rw [List.getElem?_take] at hj
          by_cases hlt : j < ti.size
          · rw [if_pos hlt, List.getElem?_drop] at hj
            have := hc (off + j) c hj
            rw [Nat.add_assoc]; exact this
          · rw [if_neg hlt] at hj; cases hj)
        have h1 := run_isAgg w (hB.T.get ht)
        have h2 := run_sizeOf hB ht w
        have hlen : vs.length = ti.size := by rw [← relL_length hvs]; exact Nat.eq_of_beq_eq_true hl
        have h3 := run_loadCells (P := P) (w := w) (a := adr ρ k (n + off)) (vs := vs) (fun j v hv => by rw [adr_add]; exact hm j v hv)
        rw [hlen] at h3
        exact ⟨.agg vs.toArray, by simp [loadVar, h1, ha, h2, h3], _, rfl, by simpa using hvs⟩
  | false =>
    simp only [ha, cond_false] at h
    split at h
    · rename_i c hcc
      refine ⟨_, h, fun n hn => SV.below_c.2 (hn c (List.mem_of_getElem? hcc)), ?_⟩
      intro ρ k n w hc
      obtain ⟨v, hv, hr⟩ := hc off c hcc
      have h1 := run_isAgg w (hB.T.get ht)
      exact ⟨v, by simp [loadVar, h1, ha, hv], hr⟩
    · exact h.elim

theorem load_ok {P : Program} {B : Tabs} (hB : TabsOK P B) {o : Oper} {e : Env} {H : Heap} {t : TypeId} {x : Operand} {K : PK} (ho : o.op = .load t x)
    (h : loadK B t (ev e x) H K) : ∃ sv rd, K sv rd ∧ PureOK P o e H sv rd := by
  have hx : x ∈ o.op.operands.toList := by simp [ho, Op.operands]
  unfold loadK at h
  split at h
  · rename_i k i sz off ti he ht
    split at h
    · rename_i own l hl
      split at h
      · obtain ⟨sv, hK, hb, hrun⟩ := loadL_ok hB ht h
        refine ⟨sv, _, hK, ?_, ?_⟩
        · intro n _ hn
          have := (hn k (by simp) own _ hl).2
          refine hb n (fun c hc j hj => this j ?_)
          exact usesL_iff.2 ⟨c, hc, SC.uses_iff.2 ⟨j, hj, by simp⟩⟩
        · intro ρ a w hr hs
          have h1 := reads_fit hx hr; rw [he] at h1; simp only [SV.rel, SC.rel] at h1
          have hso := hs k (by simp) own _ hl
          obtain ⟨v, hv, hrel⟩ := hrun ρ k 0 w (fun j c hc => by
            have := hso.at_ 0 j c (by simpa [SO.cell?] using hc)
            simpa [SO.sz] using this)
          refine ⟨v, ?_, hrel⟩
          simp only [Nat.zero_add, Nat.zero_mul] at hv h1
          simp [execOp, ho, h1, Instr.loadAt, Instr.sureAddr, hv]
      · exact h.elim
    · rename_i own A hl
      cases hz : Nat.beq sz A.sz with
      | false => simp [hz] at h
      | true =>
        simp only [hz, cond_true] at h
        obtain ⟨hi, h⟩ := h
        have hz' := Nat.eq_of_beq_eq_true hz
        obtain ⟨sv, hK, hb, hrun⟩ := loadL_ok hB ht h
        refine ⟨sv, _, hK, ?_, ?_⟩
        · intro n _ hn
          have := (hn k (by simp) own _ hl).2
          refine hb n (fun c hc j hj => this j ?_)
          exact anyMem_iff.2 ⟨j, A.hn _ c hc j hj, by simp⟩
        · intro ρ a w hr hs
          have h1 := reads_fit hx hr; rw [he] at h1; simp only [SV.rel, SC.rel] at h1
          have hso := hs k (by simp) own _ hl
          obtain ⟨v, hv, hrel⟩ := hrun ρ k (i * sz) w (fun j c hc => by
            have := hso.at_ i j c (by simpa [SO.cell?, hi] using hc)
            simpa [SO.sz, hz'] using this)
          refine ⟨v, ?_, hrel⟩
          simp [execOp, ho, h1, Instr.loadAt, Instr.sureAddr, hv]
    · exact h.elim
  · exact h.elim

end Sx
end Go

namespace Go
namespace Sx

def capsOf (e : Env) : List Operand → Option (List Nat)
  | [] => some []
  | x :: r => match ev e x with
    | .c (.p k 0 _ 0) => (match capsOf e r with
      | some ks => some (k :: ks)
      | none => none)
    | _ => none

def mfK (e : Env) (fn : Fn) (first captured : List Operand) (K : PK) : Prop :=
  match fn, first with
  | .func g, [] => (match capsOf e captured with
    | some ks => K (.c (.f g ks)) []
    | none => False)
  | _, _ => False

theorem caps_rel {ρ : Asg} {e : Env} {a : Act} : ∀ {l : List Operand} {ks : List Nat}, capsOf e l = some ks → (∀ x ∈ l, (ev e x).rel ρ (a.eval x)) →
    l.map a.eval = ks.map fun k => Value.pointer (some (adr ρ k 0))
  | [], ks, h, _ => by simp [capsOf] at h; subst h; rfl
  | x :: l, ks, h, hr => by
    simp only [capsOf] at h
    split at h
    · rename_i k sz he
      split at h
      · rename_i ks' hks
        simp at h; subst h
        have h1 := hr x (List.mem_cons_self ..)
        rw [he] at h1
        simp only [SV.rel, SC.rel, Nat.zero_mul, Nat.zero_add] at h1
        simp [h1, caps_rel hks (fun y hy => hr y (List.mem_cons_of_mem _ hy))]
      · cases h
    · cases h

theorem caps_below {e : Env} {n : Nat} : ∀ {l : List Operand} {ks : List Nat}, capsOf e l = some ks → (∀ x ∈ l, (ev e x).below n) → ∀ k ∈ ks, k < n
  | [], ks, h, _ => by simp [capsOf] at h; subst h; intro k hk; cases hk
  | x :: l, ks, h, hr => by
    simp only [capsOf] at h
    split at h
    · rename_i k sz he
      split at h
      · rename_i ks' hks
        simp at h; subst h
        intro j hj
        rcases List.mem_cons.1 hj with rfl | hj
        · have h1 := hr x (List.mem_cons_self ..)
          rw [he, SV.below_c] at h1
          exact h1 j (by simp [SC.nms])
        · exact caps_below hks (fun y hy => hr y (List.mem_cons_of_mem _ hy)) j hj
      · cases h
    · cases h

theorem mf_ok {P : Program} {o : Oper} {e : Env} {H : Heap} {fn : Fn} {first captured : Array Operand} {K : PK} (ho : o.op = .makeFunc fn first captured)
    (h : mfK e fn first.toList captured.toList K) : ∃ sv rd, K sv rd ∧ PureOK P o e H sv rd := by
  unfold mfK at h
  split at h
  · rename_i g hf
    split at h
    · rename_i ks hks
      have hmem : ∀ x ∈ captured.toList, x ∈ o.op.operands.toList := fun x hx => by simp [ho, Op.operands]; exact .inr (by simpa using hx)
      refine ⟨_, _, h, ?_, ?_⟩
      · intro n hn _
        rw [SV.below_c]
        exact caps_below hks (fun x hx => reads_below (hmem x hx) hn)
      · intro ρ a w hr _
        have := caps_rel (a := a) hks (fun x hx => reads_fit (hmem x hx) hr)
        refine ⟨_, ?_, rfl⟩
        have h1 : first = #[] := by rw [← Array.toList_inj, hf]
        have h2 : captured.map a.eval = (ks.map fun k => Value.pointer (some (adr ρ k 0))).toArray := by
          rw [← Array.toList_inj, Array.toList_map, this]
        simp [execOp, ho, Instr.makeFunc, h1, h2]
    · exact h.elim
  · exact h.elim

def isC : Operand → Bool
  | .const _ => true
  | _ => false

theorem run_builtin {P : Program} {o : Oper} {b : Builtin} {c : Call} (ho : o.op = .call c) (hc : c.callee = .builtin b) (a : Act) (w : World) :
    (execOp a.eval o).run P w = (builtin b c.argTypes o.type (c.args.map isC) (c.args.map a.eval)).run P w := by
  simp only [execOp, ho, resolve, hc, Sem.run_bind, Sem.run_pure, Result.andThen_ok, invoke]
  rfl

def lenK (B : Tabs) (x : SV) (t : TypeId) (K : PK) : Prop :=
  match x, lookT B.T t with
  | .c (.s _ _ len _), some ⟨.slice _, _, _, _⟩ => K (iv .i64 len) []
  | .c (.v (.slice _ n _)), some ⟨.slice _, _, _, _⟩ => K (iv .i64 n) []
  | .c (.v (.string s)), some ⟨.string, _, _, _⟩ => K (iv .i64 s.size) []
  | _, _ => False

def minK (x y : SV) (K : PK) : Prop :=
  match x, y with
  | .c (.v (.int .i64 a)), .c (.v (.int .i64 b)) => K (iv .i64 (min a b)) []
  | _, _ => False

def maxK (x y : SV) (K : PK) : Prop :=
  match x, y with
  | .c (.v (.int .i64 a)), .c (.v (.int .i64 b)) => K (iv .i64 (max a b)) []
  | _, _ => False

def biK (B : Tabs) (e : Env) (b : Builtin) (args : List Operand) (ts : List TypeId) (K : PK) : Prop :=
  match b, args, ts with
  | .len, [x], [t] => lenK B (ev e x) t K
  | .min, [x, y], _ => minK (ev e x) (ev e y) K
  | .max, [x, y], _ => maxK (ev e x) (ev e y) K
  | _, _, _ => False

theorem bi_ok {P : Program} {B : Tabs} (hB : TabsOK P B) {o : Oper} {e : Env} {H : Heap} {b : Builtin} {c : Call} {K : PK} (ho : o.op = .call c) (hc : c.callee = .builtin b)
    (h : biK B e b c.args.toList c.argTypes.toList K) : ∃ sv rd, K sv rd ∧ PureOK P o e H sv rd := by
  have hops : ∀ x ∈ c.args.toList, x ∈ o.op.operands.toList := fun x hx => by simp [ho, Op.operands, Call.operands, hc]; simpa using hx
  have run := run_builtin (P := P) ho hc
  unfold biK at h
  split at h
  · rename_i x t hargs hts
    have ha : c.args = #[x] := by rw [← Array.toList_inj, hargs]
    have ht : c.argTypes = #[t] := by rw [← Array.toList_inj, hts]
    have hx : x ∈ o.op.operands.toList := hops x (by simp [ha])
    unfold lenK at h
    split at h
    · rename_i k st len sz el s0 b0 z0 he hl
      refine ⟨_, _, h, pureLit (fun n => below_iv n _ _) fun ρ a w hr => ⟨_, ?_, rfl⟩⟩
      have h1 := reads_fit hx hr; rw [he] at h1; simp only [SV.rel, SC.rel] at h1
      obtain ⟨ad, hv, _⟩ := h1
      obtain ⟨ds, hds, hks⟩ := run_und_kd hB.T hl w
      have e1 := kd_slice hks; subst e1
      rw [run]; simp [builtin, ha, ht, Builtin.len_, hv, hds, goInt]
    · rename_i ad n cp el s0 b0 z0 he hl
      refine ⟨_, _, h, pureLit (fun n => below_iv n _ _) fun ρ a w hr => ⟨_, ?_, rfl⟩⟩
      have h1 := reads_fit hx hr; rw [he] at h1; simp only [SV.rel, SC.rel] at h1
      obtain ⟨ds, hds, hks⟩ := run_und_kd hB.T hl w
      have e1 := kd_slice hks; subst e1
      rw [run]; simp [builtin, ha, ht, Builtin.len_, h1, hds, goInt]
    · rename_i s s0 b0 z0 he hl
      refine ⟨_, _, h, pureLit (fun n => below_iv n _ _) fun ρ a w hr => ⟨_, ?_, rfl⟩⟩
      have h1 := reads_fit hx hr; rw [he] at h1; simp only [SV.rel, SC.rel] at h1
      obtain ⟨ds, hds, hks⟩ := run_und_kd hB.T hl w
      have e1 : ds = .string := by cases ds <;> simp [kdOf] at hks; rfl
      subst e1
      rw [run]; simp [builtin, ha, ht, Builtin.len_, h1, hds, goInt]
    · exact h.elim
  · rename_i x y hargs
    have ha : c.args = #[x, y] := by rw [← Array.toList_inj, hargs]
    have hx : x ∈ o.op.operands.toList := hops x (by simp [ha])
    have hy : y ∈ o.op.operands.toList := hops y (by simp [ha])
    unfold minK at h
    split at h
    · rename_i p q he1 he2
      refine ⟨_, _, h, pureLit (fun n => below_iv n _ _) fun ρ a w hr => ⟨_, ?_, rfl⟩⟩
      have h1 := reads_fit hx hr; rw [he1] at h1; simp only [SV.rel, SC.rel] at h1
      have h2 := reads_fit hy hr; rw [he2] at h2; simp only [SV.rel, SC.rel] at h2
      rw [run]
      have : (if q < p then q else p) = min p q := by rw [Int.min_def]; split <;> split <;> omega
      simp [builtin, ha, Builtin.min_, Builtin.min2, h1, h2, this]
    · exact h.elim
  · rename_i x y hargs
    have ha : c.args = #[x, y] := by rw [← Array.toList_inj, hargs]
    have hx : x ∈ o.op.operands.toList := hops x (by simp [ha])
    have hy : y ∈ o.op.operands.toList := hops y (by simp [ha])
    unfold maxK at h
    split at h
    · rename_i p q he1 he2
      refine ⟨_, _, h, pureLit (fun n => below_iv n _ _) fun ρ a w hr => ⟨_, ?_, rfl⟩⟩
      have h1 := reads_fit hx hr; rw [he1] at h1; simp only [SV.rel, SC.rel] at h1
      have h2 := reads_fit hy hr; rw [he2] at h2; simp only [SV.rel, SC.rel] at h2
      rw [run]
      have : (if p < q then q else p) = max p q := by rw [Int.max_def]; split <;> split <;> omega
      simp [builtin, ha, Builtin.max_, Builtin.max2, h1, h2, this]
    · exact h.elim
  · exact h.elim

def subN (h : Nat) : Nat → Nat
  | 0 => h
  | l + 1 => h - (l + 1)

theorem subN_eq (h l : Nat) : subN h l = h - l := by cases l <;> simp [subN]

def bndK (e : Env) (x : Option Operand) (dflt : Nat) (K : Nat → Prop) : Prop :=
  match x with
  | none => K dflt
  | some x => match ev e x with
    | .c (.v (.int _ n)) => ∃ j : Nat, n = (j : Int) ∧ K j
    | _ => False

def slK (B : Tabs) (e : Env) (t : TypeId) (x : SV) (lo hi : Option Operand) (K : PK) : Prop :=
  match x, lookT B.T t with
  | .c (.s k st len sz), some ⟨.slice el, _, _, _⟩ => match lookT B.T el with
    | some ti => bif Nat.beq ti.size sz then
        bndK e hi len fun h => h ≤ len ∧ bndK e lo 0 fun l => l ≤ h ∧ K (.c (.s k (addN st l) (subN h l) sz)) []
      else False
    | none => False
  | .c (.v (.slice none 0 0)), some ⟨.slice el, _, _, _⟩ => match lookT B.T el with
    | some _ => bndK e hi 0 fun h => h ≤ 0 ∧ bndK e lo 0 fun l => l ≤ h ∧ K (.c (.v (.slice none 0 0))) []
    | none => False
  | _, _ => False

theorem bnd_ok {P : Program} {e : Env} {x : Option Operand} {d lim : Nat} {K : Nat → Prop} {o : Oper} (hmem : ∀ y, x = some y → y ∈ o.op.operands.toList) (h : bndK e x d K) :
    ∃ j, K j ∧ (x = none → j = d) ∧ ∀ (y : Operand), x = some y → ∀ (ρ : Asg) (a : Act), (∀ t, Reads o t → (e.get t).rel ρ (a.tmps.getD t undef)) → ∃ k, a.eval y = .int k (j : Int) := by
  unfold bndK at h
  split at h
  · exact ⟨d, h, (fun _ => rfl), (fun y hy => by cases hy)⟩
  · rename_i x'
    split at h
    · rename_i k n he
      obtain ⟨j, rfl, hK⟩ := h
      refine ⟨j, hK, (fun hx => by cases hx), fun y hy ρ a hr => ⟨k, ?_⟩⟩
      cases hy
      have h1 := reads_fit (hmem _ rfl) hr; rw [he] at h1; exact h1
    · exact h.elim

theorem sl_ok {P : Program} {B : Tabs} (hB : TabsOK P B) {o : Oper} {e : Env} {H : Heap} {t : TypeId} {x : Operand} {lo hi : Option Operand} {K : PK} (ho : o.op = .slice t x lo hi none)
    (h : slK B e t (ev e x) lo hi K) : ∃ sv rd, K sv rd ∧ PureOK P o e H sv rd := by
  have hx : x ∈ o.op.operands.toList := by simp [ho, Op.operands]
  have hlo : ∀ y, lo = some y → y ∈ o.op.operands.toList := fun y hy => by simp [ho, Op.operands, hy]
  have hhi : ∀ y, hi = some y → y ∈ o.op.operands.toList := fun y hy => by simp [ho, Op.operands, hy]
  unfold slK at h
  split at h
  · rename_i k st len sz el s0 b0 z0 he hl
    split at h
    · rename_i ti hti
      cases hz : Nat.beq ti.size sz with
      | false => simp [hz] at h
      | true =>
        simp only [hz, cond_true] at h
        obtain ⟨hv, ⟨hle, h⟩, hd, hy⟩ := bnd_ok (P := P) (lim := 0) hhi h
        obtain ⟨lv, ⟨hll, hK⟩, ld, ly⟩ := bnd_ok (P := P) (lim := 0) hlo h
        refine ⟨_, _, hK, ?_, ?_⟩
        · intro n hn _
          have := reads_below hx hn
          rw [he] at this
          rw [SV.below_c] at this ⊢
          exact this
        · intro ρ a w hr _
          have h1 := reads_fit hx hr; rw [he] at h1; simp only [SV.rel, SC.rel] at h1
          obtain ⟨ad, hval, hcap, had⟩ := h1
          obtain ⟨ds, hds, hks⟩ := run_und_kd hB.T hl w
          have e1 := kd_slice hks; subst e1
          have hsz := run_sizeOf hB hti w
          have hz' := Nat.eq_of_beq_eq_true hz
          have hb : (Instr.sliceBounds true len ((ρ k).cap - st) (lo.map a.eval) (hi.map a.eval) none).run P w = .ok (lv, hv, (ρ k).cap - st) w := by
            cases hi with
            | none =>
              have := hd rfl; subst this
              cases lo with
              | none => have := ld rfl; subst this; simp [Instr.sliceBounds]
              | some y =>
                obtain ⟨ky, hky⟩ := ly y rfl ρ a hr
                simp [Instr.sliceBounds, Instr.sliceBound, hky, asIntOf, hll]
            | some z =>
              obtain ⟨kz, hkz⟩ := hy z rfl ρ a hr
              have h3 : hv ≤ (ρ k).cap - st := by omega
              cases lo with
              | none => have := ld rfl; subst this; simp [Instr.sliceBounds, Instr.sliceBound, hkz, asIntOf, h3]
              | some y =>
                obtain ⟨ky, hky⟩ := ly y rfl ρ a hr
                simp [Instr.sliceBounds, Instr.sliceBound, hky, hkz, asIntOf, hll, h3]
          refine ⟨.slice (if (ρ k).cap - st = lv then ad else ad.map (·.add (lv * sz))) (hv - lv) ((ρ k).cap - st - lv), ?_, ?_⟩
          · simp [execOp, ho, hval, Instr.sliceAt, hds, Instr.slice, hb, hsz, hz']
          · simp only [SV.rel, SC.rel, addN_eq, subN_eq]
            refine ⟨_, by rw [Nat.sub_sub], by omega, fun hlt => ?_⟩
            rw [if_neg (by omega), had (by omega)]
            simp [adr_add, Nat.add_mul]
    · exact h.elim
  · rename_i el s0 b0 z0 he hl
    split at h
    · rename_i ti hti
      obtain ⟨hv, ⟨hle, h⟩, hd, hy⟩ := bnd_ok (P := P) (lim := 0) hhi h
      obtain ⟨lv, ⟨hll, hK⟩, ld, ly⟩ := bnd_ok (P := P) (lim := 0) hlo h
      have hv0 : hv = 0 := by omega
      have lv0 : lv = 0 := by omega
      refine ⟨_, _, hK, fun n _ _ => below_lit n _, ?_⟩
      intro ρ a w hr _
      have h1 := reads_fit hx hr; rw [he] at h1; simp only [SV.rel, SC.rel] at h1
      obtain ⟨ds, hds, hks⟩ := run_und_kd hB.T hl w
      have e1 := kd_slice hks; subst e1
      have hsz := run_sizeOf hB hti w
      have hb : (Instr.sliceBounds true 0 0 (lo.map a.eval) (hi.map a.eval) none).run P w = .ok (0, 0, 0) w := by
        cases hi with
        | none =>
          cases lo with
          | none => simp [Instr.sliceBounds]
          | some y =>
            obtain ⟨ky, hky⟩ := ly y rfl ρ a hr
            subst lv0
            simp [Instr.sliceBounds, Instr.sliceBound, hky, asIntOf]
        | some z =>
          obtain ⟨kz, hkz⟩ := hy z rfl ρ a hr
          subst hv0
          cases lo with
          | none => simp [Instr.sliceBounds, Instr.sliceBound, hkz, asIntOf]
          | some y =>
            obtain ⟨ky, hky⟩ := ly y rfl ρ a hr
            subst lv0
            simp [Instr.sliceBounds, Instr.sliceBound, hky, hkz, asIntOf]
      refine ⟨.slice none 0 0, ?_, rfl⟩
      simp [execOp, ho, h1, Instr.sliceAt, hds, Instr.slice, hb, hsz]
    · exact h.elim
  · exact h.elim

end Sx
end Go

namespace Go
namespace Sx

def SC.one : SC → Bool
  | .v (.agg _) => false
  | .v (.tuple _) => false
  | .junk => false
  | _ => true

theorem one_cells {ρ : Asg} {c : SC} {v : Value} (h : c.one = true) (hr : c.rel ρ v) : v.cells = #[v] ∧ (∀ xs, v ≠ .agg xs) ∧ (∀ xs, v ≠ .tuple xs) := by
  cases c with
  | v x => simp only [SC.rel] at hr; subst hr; cases v <;> simp_all [SC.one, Value.cells]
  | b x => simp only [SC.rel] at hr; subst hr; simp [Value.cells]
  | p k i sz off => simp only [SC.rel] at hr; subst hr; simp [Value.cells]
  | s k st len sz => obtain ⟨a, rfl, _⟩ := hr; simp [Value.cells]
  | f g caps => simp only [SC.rel] at hr; subst hr; simp [Value.cells]
  | m k => simp only [SC.rel] at hr; subst hr; simp [Value.cells]
  | cut k hh sz => obtain ⟨a, rfl, _⟩ := hr; simp [Value.cells]
  | any => obtain ⟨t, rfl⟩ := hr; simp [Value.cells]
  | junk => simp [SC.one] at h

def allOne : List SC → Bool
  | [] => true
  | c :: l => bif c.one then allOne l else false

def cellsOf : SV → Option (List SC)
  | .c x => bif x.one then some [x] else none
  | .agg l => bif allOne l then some l else none
  | .tup _ => none

theorem relL_one {ρ : Asg} : ∀ {l : List SC} {vs : List Value}, allOne l = true → relL ρ l vs → ∀ v ∈ vs, (∀ xs, v ≠ .agg xs) ∧ (∀ xs, v ≠ .tuple xs)
  | [], [], _, _ => by simp
  | [], _ :: _, _, h => h.elim
  | _ :: _, [], _, h => h.elim
  | c :: l, v :: vs, ho, h => by
    simp only [allOne] at ho
    cases hc : c.one with
    | false => simp [hc] at ho
    | true =>
      simp [hc] at ho
      intro u hu
      rcases List.mem_cons.1 hu with rfl | hu
      · exact (one_cells hc h.1).2
      · exact relL_one ho h.2 u hu

theorem cellsOf_rel {ρ : Asg} {s : SV} {v : Value} {l : List SC} (h : cellsOf s = some l) (hr : s.rel ρ v) :
    relL ρ l v.cells.toList ∧ ∀ u ∈ v.cells.toList, (∀ xs, u ≠ .agg xs) ∧ (∀ xs, u ≠ .tuple xs) := by
  cases s with
  | c x =>
    simp only [cellsOf] at h
    cases ho : x.one with
    | false => simp [ho] at h
    | true =>
      simp [ho] at h
      subst h
      have := one_cells ho hr
      rw [this.1]
      exact ⟨⟨hr, trivial⟩, by simp; exact this.2⟩
  | agg l' =>
    simp only [cellsOf] at h
    cases ho : allOne l' with
    | false => simp [ho] at h
    | true =>
      simp [ho] at h
      subst h
      obtain ⟨xs, rfl, hx⟩ := hr
      exact ⟨hx, relL_one ho hx⟩
  | tup l => simp [cellsOf] at h

theorem cellsOf_uses {s : SV} {l : List SC} (h : cellsOf s = some l) {c : SC} (hc : c ∈ l) {k : Nat} (hk : k ∈ c.nms) : s.uses [k] = true := by
  cases s with
  | c x =>
    simp only [cellsOf] at h
    cases ho : x.one with
    | false => simp [ho] at h
    | true =>
      simp [ho] at h; subst h
      simp at hc; subst hc
      exact SC.uses_iff.2 ⟨k, hk, by simp⟩
  | agg l' =>
    simp only [cellsOf] at h
    cases ho : allOne l' with
    | false => simp [ho] at h
    | true =>
      simp [ho] at h; subst h
      exact usesL_iff.2 ⟨c, hc, SC.uses_iff.2 ⟨k, hk, by simp⟩⟩
  | tup l => simp [cellsOf] at h

def splice (cells : List SC) (o : Nat) (l : List SC) : List SC := cells.take o ++ (l ++ cells.drop (o + l.length))

theorem fold_set (vs : List Value) : ∀ (n : Nat) (cs : Array Value) (off : Nat), off + n + vs.length ≤ cs.size →
    ((vs.zipIdx n).foldl (fun cs (p : Value × Nat) => cs.setIfInBounds (off + p.2) p.1) cs).toList = cs.toList.take (off + n) ++ (vs ++ cs.toList.drop (off + n + vs.length)) := by
  induction vs with
  | nil => intro n cs off h; simp
  | cons v vs ih =>
    intro n cs off h
    simp only [List.zipIdx_cons, List.foldl_cons]
    rw [ih (n + 1) (cs.setIfInBounds (off + n) v) off (by simp at h ⊢; omega)]
    simp only [Array.toList_setIfInBounds, List.length_cons]
    have hlt : off + n < cs.toList.length := by simp at h ⊢; omega
    have e1 : (cs.toList.set (off + n) v).take (off + (n + 1)) = cs.toList.take (off + n) ++ [v] := by
      rw [List.set_eq_take_append_cons_drop, if_pos hlt]
      rw [List.take_append, List.take_of_length_le (by simp; omega)]
      have : off + (n + 1) - (List.take (off + n) cs.toList).length = 1 := by rw [List.length_take, Nat.min_eq_left (Nat.le_of_lt hlt)]; omega
      rw [this]; simp
    have e2 : (cs.toList.set (off + n) v).drop (off + (n + 1) + vs.length) = cs.toList.drop (off + n + (vs.length + 1)) := by
      rw [List.drop_set, if_pos (by omega)]
      congr 1; omega
    rw [e1, e2]
    simp

def fillS (B : Tabs) (fs : List (Nat × TypeId)) : List SC → List (Nat × SV) → Option (List SC)
  | cells, [] => some cells
  | cells, (i, v) :: rest => match fs[i]?, cellsOf v with
    | some (fo, ft), some l => (match lookT B.T ft with
      | some ti => bif Nat.beq l.length ti.size && Nat.ble (fo + l.length) cells.length then fillS B fs (splice cells fo l) rest else none
      | none => none)
    | _, _ => none

def evParts (e : Env) : List (Nat × Operand) → List (Nat × SV)
  | [] => []
  | (i, x) :: r => (i, ev e x) :: evParts e r

def arrFs (el sz : Nat) : Nat → Nat → List (Nat × TypeId)
  | 0, _ => []
  | n + 1, off => (off, el) :: arrFs el sz n (off + sz)

theorem arrFs_get {el sz : Nat} : ∀ {n off i fo ft : Nat}, (arrFs el sz n off)[i]? = some (fo, ft) → fo = off + i * sz ∧ ft = el
  | 0, _, _, _, _, h => by simp [arrFs] at h
  | n + 1, off, 0, fo, ft, h => by simp [arrFs] at h; exact ⟨by omega, h.2.symm⟩
  | n + 1, off, i + 1, fo, ft, h => by
    have := arrFs_get (n := n) (off := off + sz) (i := i) (by simpa [arrFs] using h)
    exact ⟨by rw [this.1, Nat.add_mul]; omega, this.2⟩

def buildK (B : Tabs) (e : Env) (t : TypeId) (parts : List (Nat × Operand)) (K : PK) : Prop :=
  match lookT B.T t with
  | some ⟨.array n el, _, _, z⟩ => (match lookT B.T el with
    | some ti => (match fillS B (arrFs el ti.size n 0) (z.map cC) (evParts e parts) with
      | some l => K (.agg l) []
      | none => False)
    | none => False)
  | some ⟨.struct fs, _, _, z⟩ => (match fillS B fs (z.map cC) (evParts e parts) with
    | some l => K (.agg l) []
    | none => False)
  | _ => False

theorem relL_splice {ρ : Asg} {cells l : List SC} {cs vs : List Value} {o : Nat} (h : relL ρ cells cs) (hl : relL ρ l vs) :
    relL ρ (splice cells o l) (cs.take o ++ (vs ++ cs.drop (o + vs.length))) := by
  unfold splice
  rw [relL_length hl]
  exact relL_append (relL_take o h) (relL_append hl (relL_drop _ h))

theorem fill_ok {ρ : Asg} {B : Tabs} {e : Env} {a : Act} {fs : List (Nat × TypeId)} {place : Nat → Option (Nat × Nat)}
    (hplace : ∀ i fo ft ti, fs[i]? = some (fo, ft) → lookT B.T ft = some ti → place i = some (fo, ti.size)) :
    ∀ (parts : List (Nat × Operand)) (cells : List SC) (cs : Array Value) (l : List SC), relL ρ cells cs.toList → (∀ p ∈ parts, (ev e p.2).rel ρ (a.eval p.2)) →
      fillS B fs cells (evParts e parts) = some l → ∃ out, Instr.fill place cs (parts.map fun p => (p.1, a.eval p.2)) = some out ∧ relL ρ l out.toList
  | [], cells, cs, l, hc, _, h => by simp [evParts, fillS] at h; subst h; exact ⟨cs, by simp [Instr.fill], hc⟩
  | (i, x) :: parts, cells, cs, l, hc, hp, h => by
    simp only [evParts, fillS] at h
    split at h
    · rename_i fo ft lx hfs hlx
      split at h
      · rename_i ti hti
        cases hb : Nat.beq lx.length ti.size && Nat.ble (fo + lx.length) cells.length with
        | false => simp [hb] at h
        | true =>
          simp only [hb, cond_true] at h
          simp only [Bool.and_eq_true] at hb
          have hlen : lx.length = ti.size := Nat.eq_of_beq_eq_true hb.1
          have hle : fo + lx.length ≤ cells.length := Nat.le_of_ble_eq_true hb.2
          have hx := (cellsOf_rel hlx (hp (i, x) (List.mem_cons_self ..))).1
          have hl1 := relL_length hx
          have hl2 := relL_length hc
          have hsz : (a.eval x).cells.size = ti.size := by simp at hl1; omega
          have hfit : fo + (a.eval x).cells.size ≤ cs.size := by simp at hl1 hl2; omega
          have hf := fold_set (a.eval x).cells.toList 0 cs fo (by simpa using hfit)
          have hrel : relL ρ (splice cells fo lx) (((a.eval x).cells.toList.zipIdx 0).foldl (fun cs (p : Value × Nat) => cs.setIfInBounds (fo + p.2) p.1) cs).toList := by
            rw [hf]; simpa using relL_splice (o := fo) hc hx
          obtain ⟨out, ho, hr⟩ := fill_ok hplace parts (splice cells fo lx) _ l hrel (fun p hpm => hp p (List.mem_cons_of_mem _ hpm)) h
          refine ⟨out, ?_, hr⟩
          simp only [List.map_cons, Instr.fill, hplace i fo ft ti hfs hti]
          rw [if_neg (by simp [hsz]; omega)]
          rw [← ho]
          congr 1
          rw [← Array.foldl_toList, Array.toList_zipIdx]
      · cases h
    · cases h

theorem run_mapM {P : Program} {w : World} {α β : Type} (f : α → Sem β) (g : α → β) : ∀ (l : List α), (∀ x ∈ l, (f x).run P w = .ok (g x) w) → (l.mapM f).run P w = .ok (l.map g) w
  | [], _ => by simp
  | x :: l, h => by
    have ih := run_mapM f g l (fun y hy => h y (List.mem_cons_of_mem _ hy))
    simp [List.mapM_cons, h x (List.mem_cons_self ..), ih]

theorem fieldsIn_get {B : Tabs} : ∀ {l : List (Nat × TypeId)}, fieldsIn B l = true → ∀ p ∈ l, ∃ ti, lookT B.T p.2 = some ti
  | [], _, p, hp => by cases hp
  | (o, t) :: r, h, p, hp => by
    simp only [fieldsIn] at h
    split at h
    · rename_i ti hti
      rcases List.mem_cons.1 hp with rfl | hp
      · exact ⟨ti, hti⟩
      · exact fieldsIn_get h p hp
    · cases h

theorem allFields_get {B : Tabs} : ∀ {T : List (Nat × TI)} {t : Nat} {fs : List (Nat × TypeId)} {s b : Nat} {z : List Value}, allFields B T = true →
    lookT T t = some ⟨.struct fs, s, b, z⟩ → fieldsIn B fs = true
  | [], _, _, _, _, _, _, h => by simp [lookT] at h
  | (j, o) :: r, t, fs, s, b, z, ha, h => by
    simp only [lookT] at h
    cases hb : Nat.beq t j with
    | true =>
      simp [hb] at h
      subst h
      simp only [allFields] at ha
      cases hf : fieldsIn B fs with
      | true => rfl
      | false => simp [hf] at ha
    | false =>
      simp [hb] at h
      refine allFields_get (T := r) ?_ h
      unfold allFields at ha
      split at ha
      · rename_i he; cases he
      · rename_i he
        simp only [List.cons.injEq, Prod.mk.injEq] at he
        rw [he.2]
        simp at ha
        exact ha.2
      · rename_i he
        simp only [List.cons.injEq, Prod.mk.injEq] at he
        rw [he.2]; exact ha

theorem fillS_uses {B : Tabs} {fs : List (Nat × TypeId)} {k : Nat} : ∀ (ps : List (Nat × SV)) (cells l : List SC), fillS B fs cells ps = some l → (∃ c ∈ l, k ∈ c.nms) →
    (∃ c ∈ cells, k ∈ c.nms) ∨ ∃ p ∈ ps, p.2.uses [k] = true
  | [], cells, l, h, hu => by simp [fillS] at h; subst h; exact .inl hu
  | (i, v) :: ps, cells, l, h, hu => by
    simp only [fillS] at h
    split at h
    · rename_i fo ft lx hfs hlx
      split at h
      · rename_i ti hti
        cases hb : Nat.beq lx.length ti.size && Nat.ble (fo + lx.length) cells.length with
        | false => simp [hb] at h
        | true =>
          simp only [hb, cond_true] at h
          rcases fillS_uses ps _ l h hu with ⟨c, hc, hk⟩ | ⟨p, hp, hk⟩
          · simp only [splice, List.mem_append] at hc
            rcases hc with hc | hc | hc
            · exact .inl ⟨c, List.mem_of_mem_take hc, hk⟩
            · exact .inr ⟨(i, v), List.mem_cons_self .., cellsOf_uses hlx hc hk⟩
            · exact .inl ⟨c, List.mem_of_mem_drop hc, hk⟩
          · exact .inr ⟨p, List.mem_cons_of_mem _ hp, hk⟩
      · cases h
    · cases h

theorem mem_evParts {e : Env} {p : Nat × SV} : ∀ {l : List (Nat × Operand)}, p ∈ evParts e l → ∃ q ∈ l, p = (q.1, ev e q.2)
  | [], h => by cases h
  | (i, x) :: r, h => by
    rcases List.mem_cons.1 h with rfl | h
    · exact ⟨(i, x), List.mem_cons_self .., rfl⟩
    · obtain ⟨q, hq, hp⟩ := mem_evParts h
      exact ⟨q, List.mem_cons_of_mem _ hq, hp⟩

theorem cC_nms_map {z : List Value} {c : SC} (h : c ∈ z.map cC) : c.nms = [] := by
  obtain ⟨v, _, rfl⟩ := List.mem_map.1 h
  exact SV.below_cC v

theorem build_ok {P : Program} {B : Tabs} (hB : TabsOK P B) {o : Oper} {e : Env} {H : Heap} {t : TypeId} {parts : Array (Nat × Operand)} {K : PK} (ho : o.op = .build t parts)
    (h : buildK B e t parts.toList K) : ∃ sv rd, K sv rd ∧ PureOK P o e H sv rd := by
  have hmem : ∀ p ∈ parts.toList, p.2 ∈ o.op.operands.toList := fun p hp => by
    simp [ho, Op.operands]; exact ⟨p.1, by simpa using hp⟩
  unfold buildK at h
  split at h
  · rename_i n el s0 b0 z ht
    split at h
    · rename_i ti hti
      split at h
      · rename_i l hl
        refine ⟨_, _, h, ?_, ?_⟩
        · intro n hn _ k hk
          obtain ⟨c, hc, hu⟩ := usesL_iff.1 hk
          obtain ⟨j, hj, hm⟩ := SC.uses_iff.1 hu
          simp at hm; subst hm
          rcases fillS_uses _ _ _ hl ⟨c, hc, hj⟩ with ⟨c', hc', hk'⟩ | ⟨p, hp, hk'⟩
          · rw [cC_nms_map hc'] at hk'; cases hk'
          · obtain ⟨q, hq, rfl⟩ := mem_evParts hp
            exact reads_below (hmem q hq) hn _ hk'
        · intro ρ a w hr _
          obtain ⟨ds, hds, hks⟩ := run_und_kd hB.T ht w
          have hks := kd_array hks
          subst hks
          obtain ⟨zv, hz, hzz⟩ := run_zero w (hB.T.get ht)
          have hszr := run_sizeOf hB hti w
          have hf := fill_ok (ρ := ρ) (B := B) (e := e) (a := a) (fs := arrFs el ti.size n 0) (place := fun i => some (i * ti.size, ti.size))
            (fun i fo ft ti' h1 h2 => by
              obtain ⟨rfl, rfl⟩ := arrFs_get h1
              rw [hti] at h2
              cases h2
              simp) parts.toList (z.map cC) zv.cells l (by rw [hzz]; exact relL_map_cC ρ z) (fun p hp => reads_fit (hmem p hp) hr) hl
          obtain ⟨out, hout, hrel⟩ := hf
          refine ⟨.agg out, ?_, _, rfl, hrel⟩
          simp only [execOp, ho, Instr.build, Sem.run_bind, hz, Result.andThen_ok, hds, hszr]
          have h2 : (Array.map (fun x => (x.fst, a.eval x.snd)) parts).toList = parts.toList.map fun p => (p.1, a.eval p.2) := by simp
          simp only [h2, hout, Sem.run_pure, Result.andThen_ok]
      · exact h.elim
    · exact h.elim
  · rename_i fs s0 b0 z ht
    split at h
    · rename_i l hl
      refine ⟨_, _, h, ?_, ?_⟩
      · intro n hn _ k hk
        obtain ⟨c, hc, hu⟩ := usesL_iff.1 hk
        obtain ⟨j, hj, hm⟩ := SC.uses_iff.1 hu
        simp at hm; subst hm
        rcases fillS_uses _ _ _ hl ⟨c, hc, hj⟩ with ⟨c', hc', hk'⟩ | ⟨p, hp, hk'⟩
        · rw [cC_nms_map hc'] at hk'; cases hk'
        · obtain ⟨q, hq, rfl⟩ := mem_evParts hp
          exact reads_below (hmem q hq) hn _ hk'
      · intro ρ a w hr _
        obtain ⟨ds, hds, hks⟩ := run_und_kd hB.T ht w
        obtain ⟨fields, rfl, hfs⟩ := kd_struct hks
        obtain ⟨zv, hz, hzz⟩ := run_zero w (hB.T.get ht)
        have hin := fieldsIn_get (allFields_get hB.F ht)
        have hplaces : (fields.mapM (fun (f : Field) => (do pure (f.offset, ← sizeOf f.type) : Sem (Nat × Nat)))).run P w = .ok (fields.map fun (f : Field) => (f.offset, (((lookT B.T f.type).map (·.size)).getD 0))) w := by
          rw [Array.mapM_eq_mapM_toList]
          have := run_mapM (P := P) (w := w) (fun f : Field => (do pure (f.offset, ← sizeOf f.type) : Sem (Nat × Nat))) (fun (f : Field) => (f.offset, (((lookT B.T f.type).map (·.size)).getD 0))) fields.toList (fun f hf => by
            obtain ⟨ti, hti⟩ := hin (f.offset, f.type) (by rw [← hfs]; exact List.mem_map.2 ⟨f, hf, rfl⟩)
            simp [run_sizeOf hB hti w, hti])
          simp only [Sem.run_map, this, Result.andThen_ok]
          congr 1
          rw [← Array.toList_inj]; simp
        have hf := fill_ok (ρ := ρ) (B := B) (e := e) (a := a) (fs := fs)
          (place := fun i => (fields.map fun (f : Field) => (f.offset, (((lookT B.T f.type).map (·.size)).getD 0)))[i]?)
          (fun i fo ft ti h1 h2 => by
            obtain ⟨fld, hfld, rfl, rfl⟩ := fields_get hfs h1
            simp [hfld, h2]) parts.toList (z.map cC) zv.cells l (by rw [hzz]; exact relL_map_cC ρ z) (fun p hp => reads_fit (hmem p hp) hr) hl
        obtain ⟨out, hout, hrel⟩ := hf
        refine ⟨.agg out, ?_, _, rfl, hrel⟩
        simp only [execOp, ho, Instr.build, Sem.run_bind, hz, Result.andThen_ok, hds, hplaces]
        have h2 : (Array.map (fun x => (x.fst, a.eval x.snd)) parts).toList = parts.toList.map fun p => (p.1, a.eval p.2) := by simp
        simp only [h2, hout, Sem.run_pure, Result.andThen_ok]
    · exact h.elim
  · exact h.elim

def pureOp (B : Tabs) (o : Oper) (e : Env) (H : Heap) (K : PK) : Prop :=
  match o.op with
  | .move x => K (ev e x) []
  | .assign x => K (ev e x) []
  | .pick c x y => pickK e c x y K
  | .nilCheck x => nilK e x K
  | .extract x i => extK e x i K
  | .binOp op t x y _ => binK B op t (ev e x) (ev e y) K
  | .unOp op _ x => unK op (ev e x) K
  | .convert s d x => convK B s d (ev e x) K
  | .fieldAddr s x f => faK B s (ev e x) f K
  | .field s x f => fieldK B s (ev e x) f K
  | .indexAddr t x ix => iaK B t (ev e x) (ev e ix) K
  | .load t x => loadK B t (ev e x) H K
  | .makeFunc fn first cap => mfK e fn first.toList cap.toList K
  | .build t parts => buildK B e t parts.toList K
  | .slice t x lo hi none => slK B e t (ev e x) lo hi K
  | .call c => (match c.callee with
    | .builtin b => biK B e b c.args.toList c.argTypes.toList K
    | _ => False)
  | _ => False

theorem pure_ok {P : Program} {B : Tabs} (hB : TabsOK P B) {o : Oper} {e : Env} {H : Heap} {K : PK} (h : pureOp B o e H K) : ∃ sv rd, K sv rd ∧ PureOK P o e H sv rd := by
  unfold pureOp at h
  split at h
  · rename_i ho; exact ⟨_, _, h, move_ok (.inl ho)⟩
  · rename_i ho; exact ⟨_, _, h, move_ok (.inr ho)⟩
  · rename_i ho; exact pick_ok ho h
  · rename_i ho; exact nil_ok ho h
  · rename_i ho; exact ext_ok ho h
  · rename_i ho; exact bin_ok hB ho h
  · rename_i ho; exact un_ok ho h
  · rename_i ho; exact conv_ok hB ho h
  · rename_i ho; exact fa_ok hB ho h
  · rename_i ho; exact field_ok hB ho h
  · rename_i ho; exact ia_ok hB ho h
  · rename_i ho; exact load_ok hB ho h
  · rename_i ho; exact mf_ok ho h
  · rename_i ho; exact build_ok hB ho h
  · rename_i ho; exact sl_ok hB ho h
  · rename_i c ho
    split at h
    · rename_i b hc; exact bi_ok hB ho hc h
    · exact h.elim
  · exact h.elim

end Sx
end Go

namespace Go
namespace Sx

theorem Bnd.get {e : Env} {H : Heap} {n : Nat} (h : Bnd e H n) (i : Nat) : (e.get i).below n := h.env i

theorem Bnd.put {e : Env} {H : Heap} {n d : Nat} {v : SV} (h : Bnd e H n) (hv : v.below n) : Bnd (.put d v e) H n where
  env i k hk := by
    rw [get_put] at hk
    by_cases hi : i = d
    · rw [if_pos hi] at hk; exact hv k hk
    · rw [if_neg hi] at hk; exact h.env i k hk
  mks := h.mks
  heap := h.heap

theorem Bnd.more {e : Env} {H : Heap} {n m : Nat} (h : Bnd e H n) (hm : n ≤ m) : Bnd e H m where
  env i k hk := Nat.lt_of_lt_of_le (h.env i k hk) hm
  mks k hk := Nat.lt_of_lt_of_le (h.mks k hk) hm
  heap k own o hl := ⟨Nat.lt_of_lt_of_le (h.heap k own o hl).1 hm, fun k' hk => Nat.lt_of_lt_of_le ((h.heap k own o hl).2 k' hk) hm⟩

theorem Bnd.cons {e : Env} {H : Heap} {n k : Nat} {own : Bool} {o : SO} (h : Bnd e H n) (hk : k < n) (ho : o.below n) : Bnd e ((k, own, o) :: H) n where
  env := h.env
  mks := h.mks
  heap j own' o' hl := by
    rw [look_cons] at hl
    by_cases hj : j = k
    · subst hj; simp at hl; obtain ⟨rfl, rfl⟩ := hl; exact ⟨hk, ho⟩
    · rw [if_neg hj] at hl; exact h.heap j own' o' hl

theorem marks_agree {ρ ρ' : Asg} {l : List Nat} (h : ∀ k ∈ l, ρ' k = ρ k) : l.map (mkD ρ') = l.map (mkD ρ) := by
  apply List.map_congr_left
  intro k hk
  simp only [mkD, h k hk]

theorem getD_put {a : Act} {d i : Nat} {v : Value} (hd : d < a.tmps.size) : (a.put (some d) v).tmps.getD i undef = if i = d then v else a.tmps.getD i undef := by
  simp only [Act.put]
  by_cases h : i = d
  · subst h
    simp [Array.getD, hd]
  · have : ¬ (d = i) := fun x => h x.symm
    simp [Array.getD_eq_getD_getElem?, Array.getElem?_setIfInBounds, h, this]

theorem put_size (a : Act) (d : Option Nat) (v : Value) : (a.put d v).tmps.size = a.tmps.size := by
  cases d <;> simp [Act.put]
theorem put_defers (a : Act) (d : Option Nat) (v : Value) : (a.put d v).defers = a.defers := by
  cases d <;> simp [Act.put]

section
variable {cx : Cx} {ρ : Asg} {s : St} {a : Act} {w : World}

theorem Sat.put (h : Sat cx ρ s a w) {d : Nat} {sv : SV} {v : Value} (hd : d < cx.nt ∧ inMd cx.md d = true) (hr : sv.rel ρ v) (hb : sv.below s.nx) :
    Sat cx ρ { s with e := .put d sv s.e } (a.put (some d) v) w where
  size := by rw [put_size]; exact h.size
  defers := by rw [put_defers]; exact h.defers
  env i := by
    rw [get_put, getD_put (by rw [h.size]; exact hd.1)]
    by_cases hi : i = d
    · rw [if_pos hi, if_pos hi]; exact hr
    · rw [if_neg hi, if_neg hi]; exact h.env i
  heap := h.heap
  bnd := h.bnd.put hb
  base := h.base
  keep i hi := by
    rw [getD_put (by rw [h.size]; exact hd.1), if_neg (by rintro rfl; rw [hd.2] at hi; cases hi)]
    exact h.keep i hi
  n0 := h.n0

theorem Sat.put0 (h : Sat cx ρ s a w) (v : Value) : Sat cx ρ s (a.put none v) w := by
  simpa [Act.put] using h

theorem fresh_of_bnd {e : Env} {H : Heap} {n : Nat} (h : Bnd e H n) : ∀ j own o', look H j = some (own, o') → j ≠ n ∧ o'.uses [n] = false := fun j own o' hl => by
  have := h.heap j own o' hl
  refine ⟨by omega, ?_⟩
  cases hu : o'.uses [n] with
  | false => rfl
  | true => have := this.2 n hu; omega

theorem SV.rel_upd {ρ : Asg} {sv : SV} {v : Value} {k : Nat} {r : Rg} (hr : sv.rel ρ v) (hb : sv.below k) : sv.rel (upd ρ k r) v :=
  SV.rel_agree (fun j hj => upd_ne (Nat.ne_of_lt (hb j hj))) hr

theorem Sat.new (h : Sat cx ρ s a w) {cap : Nat} {o : SO} {ob : Obj} (hbo : o.below s.nx)
    (hnew : SatO (upd ρ s.nx ⟨w.heap.size, 0, cap⟩) (push w ob) s.nx true o) :
    Sat cx (upd ρ s.nx ⟨w.heap.size, 0, cap⟩) { s with H := (s.nx, true, o) :: s.H, nx := s.nx + 1 } a (push w ob) where
  size := h.size
  defers := by rw [h.defers]; exact (marks_agree fun k hk => upd_ne (Nat.ne_of_lt (h.bnd.mks k hk))).symm
  env i := SV.rel_upd (h.env i) (h.bnd.get i)
  heap := h.heap.new (fresh_of_bnd h.bnd) hnew
  bnd := (h.bnd.more (Nat.le_succ _)).cons (Nat.lt_succ_self _) (fun k hk => Nat.lt_succ_of_lt (hbo k hk))
  base k hk := by rw [upd_ne (by have := h.n0; omega)]; exact h.base k hk
  keep := h.keep
  n0 := Nat.le_succ_of_le h.n0

end

theorem satO_new_cells {ρ : Asg} {w : World} {k cap : Nat} {l : List SC} {c : Array Value} {t : TypeId} (hr : relL (upd ρ k ⟨w.heap.size, 0, cap⟩) l c.toList) :
    SatO (upd ρ k ⟨w.heap.size, 0, cap⟩) (push w (.cells c t (0, 0))) k true (.cells l) where
  wf := trivial
  at_ i j x hx := by
    cases i with
    | succ i => simp [SO.cell?] at hx
    | zero =>
      simp only [SO.cell?] at hx
      obtain ⟨v, hv, hrel⟩ := relL_get hr hx
      refine ⟨v, ?_, hrel⟩
      simp only [adr, upd_eq, SO.sz, World.cell?, push_new]
      simpa using hv
  room _ _ n hn := by
    simp only [SO.room] at hn
    have hlen := relL_length hr
    simp only [adr, upd_eq, World.cell?, World.frozen?, push_new]
    have hlt : n < c.size := by simpa [hlen] using hn
    exact ⟨⟨c[n], by simp [hlt]⟩, by simp⟩
  off0 _ := by rw [upd_eq]
  keys l h := by cases h

def fixRow (sz : Nat) (nm : List Nat) (l : List SC) : List SC :=
  (l.map fun c => bif c.nms.all (memN · nm) then c else .junk).take sz ++ List.replicate (sz - l.length) .junk

theorem fixRow_length (sz : Nat) (nm : List Nat) (l : List SC) : (fixRow sz nm l).length = sz := by
  simp [fixRow]; omega

theorem fixRow_nms (sz : Nat) (nm : List Nat) (l : List SC) : ∀ c, c ∈ fixRow sz nm l → ∀ k ∈ c.nms, k ∈ nm := by
  intro c hc k hk
  simp only [fixRow, List.mem_append] at hc
  rcases hc with hc | hc
  · have := List.mem_of_mem_take hc
    obtain ⟨d, _, rfl⟩ := List.mem_map.1 this
    cases hd : d.nms.all (memN · nm) with
    | true =>
      simp only [hd, cond_true] at hk
      exact memN_iff.1 (List.all_eq_true.1 hd k hk)
    | false => simp only [hd, cond_false] at hk; simp [SC.nms] at hk
  · have := (List.mem_replicate.1 hc).2
    subst this
    simp [SC.nms] at hk

def aRows (sz : Nat) (nm : List Nat) (rows : List (List SC)) : Arr := ⟨List SC, sz, fixRow sz nm, nm, fixRow_length sz nm, fixRow_nms sz nm, rows⟩

def aInt (xs : List Int) : Arr := ⟨Int, 1, fun x => [.v (.int .i64 x)], [], fun _ => rfl, (by intro x c hc k hk; simp at hc; subst hc; cases hk), xs⟩
def aBool (xs : List Bool) : Arr := ⟨Bool, 1, fun x => [.v (.bool x)], [], fun _ => rfl, (by intro x c hc k hk; simp at hc; subst hc; cases hk), xs⟩

theorem satO_new_arr {ρ : Asg} {w : World} {k cap : Nat} {A : Arr} {c : Array Value} {t : TypeId} (hle : A.xs.length ≤ cap) (hsz : c.size = cap * A.sz)
    (hr : ∀ (i : Nat) (x : A.α), A.xs[i]? = some x → ∀ (j : Nat) (d : SC), (A.enc x)[j]? = some d → ∃ v, c[i * A.sz + j]? = some v ∧ d.rel (upd ρ k ⟨w.heap.size, 0, cap⟩) v) :
    SatO (upd ρ k ⟨w.heap.size, 0, cap⟩) (push w (.cells c t (0, 0))) k true (.arr A) where
  wf := by simp only [SO.wf, upd_eq]; exact hle
  at_ i j d hd := by
    simp only [SO.cell?] at hd
    cases hx : A.xs[i]? with
    | none => simp [hx] at hd
    | some x =>
      simp only [hx] at hd
      obtain ⟨v, hv, hrel⟩ := hr i x hx j d hd
      refine ⟨v, ?_, hrel⟩
      simp only [adr, upd_eq, SO.sz, World.cell?, push_new]
      simpa using hv
  room _ _ n hn := by
    simp only [SO.room, upd_eq] at hn
    simp only [adr, upd_eq, World.cell?, World.frozen?, push_new]
    exact ⟨⟨c[n]'(by omega), by simp⟩, by simp⟩
  off0 _ := by rw [upd_eq]
  keys l h := by cases h

end Sx
end Go

