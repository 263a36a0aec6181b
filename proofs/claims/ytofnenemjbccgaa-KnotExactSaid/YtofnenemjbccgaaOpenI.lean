/- Arguments opened to cells: slices of one-cell elements. -/
import Derived.Test.YtofnenemjbccgaaOpen
namespace Go.Proofs.Ytofnenemjbccgaa
open Go.ChangeShapes Go.WideShapes Go.Deep Go.RowKit

theorem open_ones {H : Type} {enc : TypeId × Value → H} {P : Program} {w : World} {base : Nat} {t e : TypeId} (A : Option Addr) (n c : Nat) {d : DataW H} {ps : List MemPlace} (ht : P.underlying t = some (.slice e)) (hC : P.cellsOf e = 1) (ok : Nat → Value → Prop)
    (hok : ∀ (k : Nat) v y, DataW.trod enc P w base (fun _ => true) true k e [v] = some y → ok 0 v)
    (h : DataW.Trod enc P w base (fun _ => true) true t (.slice A n c) d ps) : CellsAt w w.heap.size 1 A n ok ∧ n ≤ maxLen := by
  obtain ⟨fuel, hf⟩ := h
  rcases open_slice1 ht hC hf with ⟨hcs, _⟩ | ⟨a, len, cap, m, n', V, D, Pl, hcs, hb, hl, hm, hmm, hx, hi⟩
  · simp only [Value.cells, List.cons.injEq, Value.slice.injEq, and_true] at hcs
    obtain ⟨rfl, rfl, rfl⟩ := hcs
    exact ⟨fun i hi => by omega, by omega⟩
  · simp only [Value.cells, List.cons.injEq, Value.slice.injEq, and_true] at hcs
    obtain ⟨rfl, rfl, rfl⟩ := hcs
    simp only [if_true] at hmm
    subst hmm
    refine ⟨fun i him => ?_, by omega⟩
    obtain ⟨h1, h2⟩ := hi i (by omega)
    obtain ⟨b, off, spot⟩ := a
    have hsp : spot = none := by
      obtain ⟨h0, _⟩ := hi 0 (by omega)
      simp only [Addr.add, if_true] at h0
      exact World.cell?_spot h0
    subst hsp
    have hadd : (⟨b, off, none⟩ : Addr).add i = ⟨b, off + i, none⟩ := by
      unfold Addr.add
      by_cases h1 : i = 0 <;> simp [h1]
    rw [hadd] at h1
    refine ⟨b, off, rfl, World.block_lt_of_cell? _ _ h1, fun j hj => ?_⟩
    obtain rfl : j = 0 := by omega
    exact ⟨V i, hok _ _ _ h2, by rw [Nat.mul_one, Nat.add_zero]; exact h1⟩

end Go.Proofs.Ytofnenemjbccgaa
