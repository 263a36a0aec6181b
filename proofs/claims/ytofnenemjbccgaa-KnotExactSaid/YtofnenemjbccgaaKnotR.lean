/- Who waits for whom: the row of KnotRow. -/
import Derived.Test.YtofnenemjbccgaaKnotA
namespace Go.Proofs.Ytofnenemjbccgaa
open Go.Maps Go.RowKit

/-- the edges i -> i - 1, 1 ≤ i < m -/
def rowD (m : Nat) : ES := (List.range (m - 1)).map fun (i : Nat) => ((i : Int) + 1, (i : Int))
def rowF (m : Nat) : ES := rowD m ++ [(0, (m : Int) - 1)]

theorem mem_rowD {m : Nat} {a b : Int} : (a, b) ∈ rowD m ↔ 0 ≤ b ∧ a = b + 1 ∧ a < m := by
  unfold rowD
  rw [List.mem_map]
  constructor
  · rintro ⟨i, hi, e⟩
    simp at hi e
    omega
  · rintro ⟨h1, h2, h3⟩
    exact ⟨b.toNat, by simp; omega, by simp; omega⟩

theorem row_down {m : Nat} : IsStuck (rowD m) [] ∧ IsVictims (rowD m) [] := down_none fun a b h => by have := mem_rowD.1 h; omega

theorem row_way {E : ES} {m : Nat} (hE : ∀ a b, (a, b) ∈ rowD m → (a, b) ∈ E) (j : Int) (hj : 0 ≤ j) (d : Nat) (h : j + d + 1 < m) : Pth E (j + d + 1) j := by
  induction d with
  | zero => exact .one (hE _ _ (mem_rowD.2 ⟨hj, by omega, by omega⟩))
  | succ d ih => exact .more (hE _ _ (mem_rowD.2 ⟨by omega, by omega, by omega⟩)) (show Pth E (j + (d + 1 : Nat)) j by rw [show j + ((d + 1 : Nat) : Int) = j + d + 1 by omega]; exact ih (by omega))

def upto (m : Nat) : List Int := (List.range m).map fun (i : Nat) => (i : Int)

theorem upto_rising (m : Nat) : Rising (upto m) := by
  unfold Rising upto
  rw [List.pairwise_map]
  exact List.pairwise_lt_range.imp fun {a b} h => by omega

theorem row_stuck {m : Nat} (hm : 2 ≤ m) : IsStuck (rowF m) (upto m) := by
  have hd : ∀ a b, (a, b) ∈ rowD m → (a, b) ∈ rowF m := fun a b h => by unfold rowF; simp [h]
  have hl : ((0 : Int), (m : Int) - 1) ∈ rowF m := by unfold rowF; simp
  have hw : ∀ i j : Int, 0 ≤ j → j < i → i < m → Pth (rowF m) i j := fun i j h1 h2 h3 => by
    have := row_way hd j h1 (i - j - 1).toNat (by omega)
    rwa [show j + ((i - j - 1).toNat : Int) + 1 = i by omega] at this
  refine ⟨upto_rising m, fun k => ⟨fun h => ?_, fun p => ?_⟩⟩
  · unfold upto at h
    obtain ⟨i, hi, rfl⟩ := List.mem_map.1 h
    simp at hi
    by_cases h0 : i = 0
    · subst h0
      exact .more hl (hw _ _ (by omega) (by omega) (by omega))
    · by_cases h1 : i = m - 1
      · exact (hw i 0 (by omega) (by omega) (by omega)).trans (.one (by rw [show (i : Int) = (m : Int) - 1 by omega]; exact hl))
      · exact ((hw i 0 (by omega) (by omega) (by omega)).trans (.one hl)).trans (hw _ _ (by omega) (by omega) (by omega))
  · obtain ⟨c, hc⟩ := p.first
    unfold rowF at hc
    unfold upto
    rcases List.mem_append.1 hc with hc | hc
    · obtain ⟨h1, h2, h3⟩ := mem_rowD.1 hc
      exact List.mem_map.2 ⟨k.toNat, by simp; omega, by omega⟩
    · simp at hc
      exact List.mem_map.2 ⟨0, by simp; omega, by omega⟩

theorem upto_last {m : Nat} (hm : 1 ≤ m) : (upto m).getLast? = some ((m : Int) - 1) := by
  obtain ⟨n, rfl⟩ : ∃ n, m = n + 1 := ⟨m - 1, by omega⟩
  unfold upto
  rw [List.range_succ, List.map_append]
  simp

theorem row_victims {m : Nat} (hm : 2 ≤ m) : IsVictims (rowF m) [(m : Int) - 1] := by
  refine .cons (row_stuck hm) (upto_last (by omega)) (down_none fun a b h => ?_).2
  obtain ⟨h1, h2, h3⟩ := mem_without.1 h
  unfold rowF at h1
  rcases List.mem_append.1 h1 with h1 | h1
  · have := mem_rowD.1 h1; omega
  · simp at h1; omega

end Go.Proofs.Ytofnenemjbccgaa
