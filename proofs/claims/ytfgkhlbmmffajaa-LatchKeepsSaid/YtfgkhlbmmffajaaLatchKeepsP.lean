/-
  seneschal: the law LatchKeeps: for every input it returns true and leaves what it was given as it was.
-/
import Derived.Test.YtfgkhlbmmffajaaRows
import Derived.Test.YtfgkhlbmmffajaaOpen
import Derived.Test.YtfgkhlbmmffajaaLatchKeepsW
import Derived.Lib.SmallJoins
namespace Go.Proofs.Ytfgkhlbmmffajaa.latchKeeps
open Go.ChangeShapes Go.WideShapes Go.ChangeAt Go.RowKit Go.Deep
open Go.ChangeMaps (open_string)
set_option linter.unusedVariables false

theorem own : ownKnob Try.prog.godebug = none := by kernel_rfl
theorem laidOut : laidOutB Try.prog = true := by kernel_rfl

theorem ok0 {H : Type} {enc : TypeId × Value → H} {w : World} {base : Nat} : ∀ (fs : Array Field), Try.prog.underlying 27 = some (.struct fs) → ∀ (j : Nat) (f : Field), fs[j]? = some f → ∀ (k : Nat) (v : Value) (y : DataW H × List MemPlace), DataW.trod enc Try.prog w base (fun _ => true) true k f.type [v] = some y → okActL j v := by
  intro fs hfs
  rw [Try.underlying27] at hfs
  simp only [Option.some.injEq, TypeDesc.struct.injEq] at hfs
  subst hfs
  intro j f hj k v y h
  have hj' : j < 3 := (Array.getElem?_eq_some_iff.1 hj).1
  have hs : j = 0 ∨ j = 1 ∨ j = 2 := by omega
  rcases hs with rfl | rfl | rfl
  · cases hj
    obtain ⟨x, e, _, hw⟩ := DataW.trod_int Try.underlying3 h
    simp only [List.cons.injEq, and_true] at e
    exact (show ∃ x, v = .int .i64 x ∧ in64 x from ⟨x, e, wf_in64 hw⟩)
  · cases hj
    obtain ⟨x, e, _, hw⟩ := DataW.trod_int Try.underlying3 h
    simp only [List.cons.injEq, and_true] at e
    exact (show ∃ x, v = .int .i64 x ∧ in64 x from ⟨x, e, wf_in64 hw⟩)
  · cases hj
    obtain ⟨x, e, _⟩ := DataW.trod_bool Try.underlying4 h
    simp only [List.cons.injEq, and_true] at e
    exact (show ∃ x, v = .bool x from ⟨x, e⟩)

set_option maxRecDepth 100000 in
theorem lifted (os : Os) (started : os.Started) (H : Type) (enc : TypeId × Value → H) :
    ReturnsInHanded {} Try.checked os 6 .any (Rows.latchKeepsSpec.pre6 enc Try.prog Try.f6 Rows.latchKeepsRow.domain false) (Rows.latchKeepsSpec.post enc Try.prog Try.f6 false true false false) := by
  refine returnsInHanded_of_change (C := Try.checked) own started (by kernel_rfl) Try.func6
    (ChangeSpec.witness6 (enc := enc) (C := Try.checked) false ⟨#[], #[.slice none 0 0], []⟩ 8 (by kernel_rfl) (by kernel_rfl) (by kernel_rfl) (by kernel_rfl)) ?_
  intro W base args ds gs before hval0 hW hcnd _
  have hval : ∀ (j : Nat) t v, Try.f6.params[j]? = some t → args[j]? = some v → Value.okWide Try.prog W .any base t v := hval0
  have hW' := hW
  obtain ⟨p, q, hA0, hV, rfl, hfz, hnd⟩ := hW
  have hA : DataW.TrodAll enc Try.prog W 0 (fun _ => true) true Try.f6.params.toList args.toList ds p := hA0
  rw [Try.params6] at hA hval
  obtain ⟨v0, vs0, d0, ds0, p0, q0, hargs, rfl, rfl, h0, r0⟩ := trodAll_cons hA
  obtain ⟨rfl, rfl, rfl⟩ := trodAll_nil r0
  obtain rfl : args = #[v0] := by cases args; simp_all
  obtain ⟨rfl, rfl⟩ := trodVars_none hV
  have k0 := h0
  have lt0 : ∀ x ∈ p0, x.block < W.heap.size := by obtain ⟨m, hm⟩ := k0; exact DataW.trod_lt m _ _ _ hm
  obtain ⟨a0, n0, c0, rfl⟩ := okWide_slice Try.underlying22 (hval 0 22 v0 rfl rfl)
  obtain ⟨w0, m0⟩ := open_rows a0 n0 c0 Try.underlying22 Try.underlying27 (by kernel_rfl) (by kernel_rfl) (by decide) okActL (ok0 _ Try.underlying27) h0
  clear hA0 hval0
  refine (lkeeps_calls a0 n0 c0 W m0 w0).mono fun e W' ⟨he, bel⟩ => ?_
  subst he
  exact ⟨_, rfl, _, _, _, [], _, [], hW', trodAll_mk1 (shut_bool Try.underlying4 _), (trodAll_cons_mk (Below.trod laidOut (by kernel_rfl) (of_decide_eq_true (by kernel_rfl)) k0 bel lt0) trodAll_mk0), rfl, bel.frame _, fun h => by cases h⟩

theorem over : Rows.latchKeepsRow.holds Try.pinned (OpenSpec.ofChange Rows.latchKeepsSpec) :=
  OpenClaim.holds_of_wide 6 Try.f6 rfl rfl rfl rfl rfl rfl rfl ⟨rfl, rfl, rfl, rfl, rfl⟩ rfl rfl rfl rfl rfl (by kernel_rfl) Try.func6 (by kernel_rfl)
    (of_decide_eq_true (by kernel_rfl)) (by unfold Func.isWrapper; first | (rw [if_pos (by decide +kernel)]; kernel_rfl) | (rw [if_neg (by decide +kernel)]; exact ⟨rfl, rfl⟩))
    (fun os started H enc _ => lifted os started H enc)

theorem proved : Rows.LatchKeepsSaid := over
#print axioms proved
end Go.Proofs.Ytfgkhlbmmffajaa.latchKeeps
