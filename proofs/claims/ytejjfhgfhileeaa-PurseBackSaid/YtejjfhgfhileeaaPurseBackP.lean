/-
  seneschal: the law PurseBack: for every input it returns true and leaves what it was given as it was.
-/
import Derived.Test.YtejjfhgfhileeaaRows
import Derived.Test.YtejjfhgfhileeaaOpen
import Derived.Test.YtejjfhgfhileeaaPurseBackW
import Derived.Lib.SmallJoins
namespace Go.Proofs.Ytejjfhgfhileeaa.purseBack
open Go.ChangeShapes Go.WideShapes Go.ChangeAt Go.RowKit Go.Deep
open Go.ChangeMaps (open_string)
set_option linter.unusedVariables false

theorem own : ownKnob Try.prog.godebug = none := by kernel_rfl
theorem laidOut : laidOutB Try.prog = true := by kernel_rfl

theorem ok0 {H : Type} {enc : TypeId × Value → H} {w : World} {base : Nat} : ∀ (fs : Array Field), Try.prog.underlying 29 = some (.struct fs) → ∀ (j : Nat) (f : Field), fs[j]? = some f → ∀ (k : Nat) (v : Value) (y : DataW H × List MemPlace), DataW.trod enc Try.prog w base (fun _ => true) true k f.type [v] = some y → okInts j v := by
  intro fs hfs
  rw [Try.underlying29] at hfs
  simp only [Option.some.injEq, TypeDesc.struct.injEq] at hfs
  subst hfs
  intro j f hj k v y h
  have hj' : j < 4 := (Array.getElem?_eq_some_iff.1 hj).1
  have hs : j = 0 ∨ j = 1 ∨ j = 2 ∨ j = 3 := by omega
  rcases hs with rfl | rfl | rfl | rfl
  · cases hj
    obtain ⟨x, e, _, hw⟩ := DataW.trod_int Try.underlying3 h
    simp only [List.cons.injEq, and_true] at e
    exact ⟨x, e, wf_in64 hw⟩
  · cases hj
    obtain ⟨x, e, _, hw⟩ := DataW.trod_int Try.underlying3 h
    simp only [List.cons.injEq, and_true] at e
    exact ⟨x, e, wf_in64 hw⟩
  · cases hj
    obtain ⟨x, e, _, hw⟩ := DataW.trod_int Try.underlying3 h
    simp only [List.cons.injEq, and_true] at e
    exact ⟨x, e, wf_in64 hw⟩
  · cases hj
    obtain ⟨x, e, _, hw⟩ := DataW.trod_int Try.underlying3 h
    simp only [List.cons.injEq, and_true] at e
    exact ⟨x, e, wf_in64 hw⟩

set_option maxRecDepth 100000 in
theorem lifted (os : Os) (started : os.Started) (H : Type) (enc : TypeId × Value → H) :
    ReturnsInHanded {} Try.checked os 4 .any (Rows.purseBackSpec.pre6 enc Try.prog Try.f4 Rows.purseBackRow.domain false) (Rows.purseBackSpec.post enc Try.prog Try.f4 false true false false) := by
  refine returnsInHanded_of_change (C := Try.checked) own started (by kernel_rfl) Try.func4
    (ChangeSpec.witness6 (enc := enc) (C := Try.checked) false ⟨#[], #[.slice none 0 0, .agg #[.int .i64 0, .int .i64 0, .int .i64 0, .int .i64 0]], []⟩ 8 (by kernel_rfl) (by kernel_rfl) (by kernel_rfl) (by kernel_rfl)) ?_
  intro W base args ds gs before hval0 hW hcnd _
  have hval : ∀ (j : Nat) t v, Try.f4.params[j]? = some t → args[j]? = some v → Value.okWide Try.prog W .any base t v := hval0
  have hW' := hW
  obtain ⟨p, q, hA0, hV, rfl, hfz, hnd⟩ := hW
  have hA : DataW.TrodAll enc Try.prog W 0 (fun _ => true) true Try.f4.params.toList args.toList ds p := hA0
  rw [Try.params4] at hA hval
  obtain ⟨v0, vs0, d0, ds0, p0, q0, hargs, rfl, rfl, h0, r0⟩ := trodAll_cons hA
  obtain ⟨v1, vs1, d1, ds1, p1, q1, rfl, rfl, rfl, h1, r1⟩ := trodAll_cons r0
  obtain ⟨rfl, rfl, rfl⟩ := trodAll_nil r1
  obtain rfl : args = #[v0, v1] := by cases args; simp_all
  obtain ⟨rfl, rfl⟩ := trodVars_none hV
  have k0 := h0
  have lt0 : ∀ x ∈ p0, x.block < W.heap.size := by obtain ⟨m, hm⟩ := k0; exact DataW.trod_lt m _ _ _ hm
  have k1 := h1
  have lt1 : ∀ x ∈ p1, x.block < W.heap.size := by obtain ⟨m, hm⟩ := k1; exact DataW.trod_lt m _ _ _ hm
  obtain ⟨a0, n0, c0, rfl⟩ := okWide_slice Try.underlying22 (hval 0 22 v0 rfl rfl)
  obtain ⟨w0, m0⟩ := open_rows a0 n0 c0 Try.underlying22 Try.underlying29 (by kernel_rfl) (by kernel_rfl) (by decide) okInts (ok0 _ Try.underlying29) h0
  obtain ⟨u1_0, u1_1, u1_2, u1_3, y1_0, y1_1, y1_2, y1_3, nn1, rfl, rfl, rfl, t1_0, t1_1, t1_2, t1_3⟩ := Joins.open_agg4 Try.underlying29 (by kernel_rfl) (by kernel_rfl) (hval 1 29 v1 rfl rfl) h1
  obtain ⟨a1_0, e1_0, _, w1_0⟩ := DataW.trod_int Try.underlying3 t1_0
  simp only [List.cons.injEq, and_true] at e1_0
  subst e1_0
  obtain ⟨a1_1, e1_1, _, w1_1⟩ := DataW.trod_int Try.underlying3 t1_1
  simp only [List.cons.injEq, and_true] at e1_1
  subst e1_1
  obtain ⟨a1_2, e1_2, _, w1_2⟩ := DataW.trod_int Try.underlying3 t1_2
  simp only [List.cons.injEq, and_true] at e1_2
  subst e1_2
  obtain ⟨a1_3, e1_3, _, w1_3⟩ := DataW.trod_int Try.underlying3 t1_3
  simp only [List.cons.injEq, and_true] at e1_3
  subst e1_3
  clear hA0 hval0
  refine (back_walk a0 n0 c0 a1_0 a1_1 a1_2 a1_3 W m0 w0 (wf_in64 w1_0) (wf_in64 w1_1) (wf_in64 w1_2) (wf_in64 w1_3)).mono fun e W' ⟨he, bel⟩ => ?_
  subst he
  exact ⟨_, rfl, _, _, _, [], _, [], hW', trodAll_mk1 (shut_bool Try.underlying4 _), (trodAll_cons_mk (Below.trod laidOut (by kernel_rfl) (of_decide_eq_true (by kernel_rfl)) k0 bel lt0) (trodAll_cons_mk (Below.trod laidOut (by kernel_rfl) (of_decide_eq_true (by kernel_rfl)) k1 bel lt1) trodAll_mk0)), rfl, bel.frame _, fun h => by cases h⟩

theorem over : Rows.purseBackRow.holds Try.pinned (OpenSpec.ofChange Rows.purseBackSpec) :=
  OpenClaim.holds_of_wide 4 Try.f4 rfl rfl rfl rfl rfl rfl rfl ⟨rfl, rfl, rfl, rfl, rfl⟩ rfl rfl rfl rfl rfl (by kernel_rfl) Try.func4 (by kernel_rfl)
    (of_decide_eq_true (by kernel_rfl)) (by unfold Func.isWrapper; first | (rw [if_pos (by decide +kernel)]; kernel_rfl) | (rw [if_neg (by decide +kernel)]; exact ⟨rfl, rfl⟩))
    (fun os started H enc _ => lifted os started H enc)

theorem proved : Rows.PurseBackSaid := over
#print axioms proved
end Go.Proofs.Ytejjfhgfhileeaa.purseBack
