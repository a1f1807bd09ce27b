/-
  A part of the proof that a law of dryweightlaw03 answers true: lemmas of a symbolic walk, plain functions, or contracts of the functions walked (Zt2). Conditions: none.
-/
import Derived.Test.YtjjfadfmdodmnaaPart28
import Derived.Test.YtjjfadfmdodmnaaPart26
set_option maxRecDepth 100000
set_option linter.unusedVariables false
set_option linter.unusedSimpArgs false
namespace Go.Proofs
open Go.Sx Go.ChangeShapes Go.WideShapes Go.RowKit Go.Deep

theorem A_undBend : Try.prog.underlying 115 = some (.struct (Try.prog.fieldsOf 115)) := by kernel_rfl
theorem A_undUse : Try.prog.underlying 113 = some (.struct (Try.prog.fieldsOf 113)) := by kernel_rfl
theorem A_fldBend : ∃ f0 f1 f2 f3, Try.prog.fieldsOf 115 = #[f0, f1, f2, f3] ∧ (f0.type = 3 ∧ f0.offset = 0) ∧ (f1.type = 3 ∧ f1.offset = 1) ∧ (f2.type = 113 ∧ f2.offset = 2) ∧ f3.type = 3 ∧ f3.offset = 7 :=
  ⟨(Try.prog.fieldsOf 115)[0]!, (Try.prog.fieldsOf 115)[1]!, (Try.prog.fieldsOf 115)[2]!, (Try.prog.fieldsOf 115)[3]!, by kernel_rfl, ⟨by kernel_rfl, by kernel_rfl⟩, ⟨by kernel_rfl, by kernel_rfl⟩, ⟨by kernel_rfl, by kernel_rfl⟩, by kernel_rfl, by kernel_rfl⟩
theorem A_fldUse : ∃ f0 f1, Try.prog.fieldsOf 113 = #[f0, f1] ∧ (f0.type = 27 ∧ f0.offset = 0) ∧ f1.type = 3 ∧ f1.offset = 4 :=
  ⟨(Try.prog.fieldsOf 113)[0]!, (Try.prog.fieldsOf 113)[1]!, by kernel_rfl, ⟨by kernel_rfl, by kernel_rfl⟩, by kernel_rfl, by kernel_rfl⟩

theorem came_bend {base : Nat} {H : Type} {enc : TypeId × Value → H} {w : World} {v : Value} {d : DataW H} {p : List MemPlace} (hok : Value.okWide Try.prog w .any base 115 v)
    (h : DataW.Trod enc Try.prog w 0 (fun _ => true) true 115 v d p) : ∃ x : Bnd, Came w v (bendA x) [] [] := by
  obtain ⟨cs, rfl, hcs⟩ := okWide_struct A_undBend hok
  obtain ⟨fuel, hf⟩ := h
  have hc8 : Try.prog.cellsOf 115 = 8 := by kernel_rfl
  rw [hc8] at hcs
  obtain ⟨l⟩ := cs
  match l, hcs with
  | [a, b, c, e, f, g, i, j], _ =>
    obtain ⟨xs, m, _, _, _, hxl, hff⟩ := DataW.trod_struct A_undBend hf
    obtain ⟨f0, f1, f2, f3, hfs, ⟨t0, o0⟩, ⟨t1, o1⟩, ⟨t2, o2⟩, t3, o3⟩ := A_fldBend
    rw [hfs] at hff hxl
    have hxl : xs.length = 4 := hxl
    have h0 := hff 0 f0 rfl
    have h1 := hff 1 f1 rfl
    have h2 := hff 2 f2 rfl
    have h3 := hff 3 f3 rfl
    have c1 : Try.prog.cellsOf 3 = 1 := by kernel_rfl
    have c5 : Try.prog.cellsOf 113 = 5 := by kernel_rfl
    have c4 : Try.prog.cellsOf 27 = 4 := by kernel_rfl
    rw [t0, o0, c1, List.getElem?_eq_getElem (by omega)] at h0
    rw [t1, o1, c1, List.getElem?_eq_getElem (by omega)] at h1
    rw [t2, o2, c5, List.getElem?_eq_getElem (by omega)] at h2
    rw [t3, o3, c1, List.getElem?_eq_getElem (by omega)] at h3
    have h0 : DataW.trod enc Try.prog w 0 (fun _ => true) true m 3 [a] = _ := h0
    have h1 : DataW.trod enc Try.prog w 0 (fun _ => true) true m 3 [b] = _ := h1
    have h2 : DataW.trod enc Try.prog w 0 (fun _ => true) true m 113 [c, e, f, g, i] = _ := h2
    have h3 : DataW.trod enc Try.prog w 0 (fun _ => true) true m 3 [j] = _ := h3
    obtain ⟨z0, e0, _⟩ := DataW.trod_int A_undInt h0
    obtain ⟨z1, e1, _⟩ := DataW.trod_int A_undInt h1
    obtain ⟨z3, e3, _⟩ := DataW.trod_int A_undInt h3
    obtain ⟨ys, m2, _, _, _, hyl, hgg⟩ := DataW.trod_struct A_undUse h2
    obtain ⟨g0, g1, hgs, ⟨u0, q0⟩, u1, q1⟩ := A_fldUse
    rw [hgs] at hgg hyl
    have hyl : ys.length = 2 := hyl
    have k0 := hgg 0 g0 rfl
    have k1 := hgg 1 g1 rfl
    rw [u0, q0, c4, List.getElem?_eq_getElem (by omega)] at k0
    rw [u1, q1, c1, List.getElem?_eq_getElem (by omega)] at k1
    have k0 : DataW.trod enc Try.prog w 0 (fun _ => true) true m2 27 [c, e, f, g] = _ := k0
    have k1 : DataW.trod enc Try.prog w 0 (fun _ => true) true m2 3 [i] = _ := k1
    obtain ⟨z2, e2, _⟩ := DataW.trod_int A_undInt k1
    obtain ⟨V, hV⟩ := flat_ints (n := 4) A_undLink (by kernel_rfl) (by kernel_rfl) (by kernel_rfl) rfl k0
    have w0 := hV 0 (by decide)
    have w1 := hV 1 (by decide)
    have w2 := hV 2 (by decide)
    have w3 := hV 3 (by decide)
    simp at e0 e1 e2 e3 w0 w1 w2 w3
    subst e0 e1 e2 e3 w0 w1 w2 w3
    exact ⟨⟨z0, z1, (⟨V 0, V 1, V 2, V 3⟩, z2), z3⟩, fun ρ _ => ⟨⟨_, rfl, rfl, rfl, rfl, rfl, rfl, rfl, rfl, rfl, trivial⟩, fun e he => by cases he⟩⟩

end Go.Proofs

