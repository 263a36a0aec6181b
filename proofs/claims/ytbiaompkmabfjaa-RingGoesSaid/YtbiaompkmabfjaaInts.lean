/- Slices of whole numbers. -/
import Derived.Test.YtbiaompkmabfjaaMap
namespace Go.Proofs.Ytbiaompkmabfjaa
open Go.RowKit

/-- A slice of whole numbers that lies below block B. -/
def IntsAt (w : World) (B : Nat) (A : Option Addr) (n : Nat) (f : Nat → Int) : Prop :=
  ∀ i, i < n → ∃ b off, A = some ⟨b, off, none⟩ ∧ b < B ∧ in64 (f i) ∧ w.cell? ⟨b, off + i, none⟩ = some (.int .i64 (f i))

open Classical in
theorem ints_of_cells {w : World} {B : Nat} {A : Option Addr} {n : Nat} (h : CellsAt w B 1 A n okInts) : ∃ f, IntsAt w B A n f := by
  obtain ⟨f, hf⟩ := acts_of_cells h
  refine ⟨fun i => f i 0, fun i hi => ?_⟩
  obtain ⟨b, off, rfl, hb, hc⟩ := hf i hi
  obtain ⟨h1, h2⟩ := hc 0 (by omega)
  exact ⟨b, off, rfl, hb, h1, by rw [Nat.mul_one, Nat.add_zero] at h2; exact h2⟩

end Go.Proofs.Ytbiaompkmabfjaa
