/- The ring's reference: New. -/
import Derived.Test.YtbiaompkmabfjaaRefSP
namespace Go.Proofs.Ytbiaompkmabfjaa
open Go.Maps Go.RowKit

theorem infoFr : (Try.prog.info? 55).map (fun i => (i.zero, i.size, i.bytes)) = some (some (frameV none), 5, 48) := by kernel_rfl

theorem made_rows (n : Nat) : ∀ (i : Nat) (r : List Value), ((List.replicate n (none : Option (Fm ByteArray))).map refCells)[i]? = some r → ∀ j, j < 5 → (madeCells (refCells none).toArray (n * 5)).toList[i * 5 + j]? = r[j]? := by
  intro i r hr j hj
  rw [List.map_replicate, List.getElem?_replicate] at hr
  split at hr
  · rename_i hi
    cases hr
    have hm : (i * 5 + j) % 5 = j := by omega
    have hlt : i * 5 + j < n * 5 := by omega
    unfold madeCells
    rw [Array.toList_map, List.getElem?_map, Array.toList_range, List.getElem?_range hlt]
    simp only [Option.map_some, List.size_toArray, refCells_len, hm]
    have : j = 0 ∨ j = 1 ∨ j = 2 ∨ j = 3 ∨ j = 4 := by omega
    rcases this with rfl | rfl | rfl | rfl | rfl <;> rfl
  · cases hr

def RefMade (w : World) (m : Nat) (e : Ending) (w' : World) : Prop := ∃ ub lb, e = .returned (.pointer (some ⟨ub, 0, none⟩)) ∧ w.heap.size ≤ ub ∧ w.heap.size ≤ lb ∧ IsRef w' ub lb ⟨List.replicate m none, 0⟩ ∧ Fr (fun _ => False) w w'

theorem refNew_calls (n : Int) (hn : in64 n) (w : World) : Calls Try.prog 22 #[.int .i64 n] w (RefMade w (newN n)) := by
  obtain ⟨i, hi, hz, hs, hby⟩ := info_parts infoFr
  have hmk : ∀ (m : Nat) (w : World), m ≤ 64 → (Instr.makeSlice 61 (.int .i64 (m : Int)) (.int .i64 (m : Int))).run Try.prog w = .ok (.slice (some ⟨w.heap.size, 0, none⟩) m m) (w.alloc (.cells (madeCells (refCells none).toArray (m * 5)) 55)) := by
    intro m w hm
    have := run_make (P := Try.prog) w 61 55 i _ Try.underlying61 hi hz .i64 .i64 (m : Int) (m : Int) (by omega) (by omega) (by rw [hby]; omega) (by omega)
    rw [this, hs]
    simp only [Int.toNat_natCast]
    rfl
  unfold in64 at hn
  have hN64 : newN n ≤ 64 := by unfold newN; omega
  have hN1 : 1 ≤ newN n := by unfold newN; omega
  have fin : ∀ (m : Nat) (W : World), W = (w.alloc (.cells (madeCells (refCells none).toArray (m * 5)) 55)).alloc (.cells #[.slice (some ⟨w.heap.size, 0, none⟩) m m, .int .i64 0] 88) →
      w.heap.size ≤ w.heap.size + 1 ∧ w.heap.size ≤ w.heap.size ∧ IsRef W (w.heap.size + 1) w.heap.size ⟨List.replicate m none, 0⟩ ∧ Fr (fun _ => False) w W := by
    rintro m W rfl
    refine ⟨by omega, by omega, ⟨?_, ?_⟩, ((Fr.refl _ w).alloc _).alloc _⟩
    · have := Blk.new (w.alloc (.cells (madeCells (refCells none).toArray (m * 5)) 55)) 88 [.slice (some ⟨w.heap.size, 0, none⟩) m m, .int .i64 0]
      rw [World.size_alloc] at this
      simpa using this
    · have := (Blk.new w 55 (madeCells (refCells none).toArray (m * 5)).toList).alloc (.cells #[.slice (some ⟨w.heap.size, 0, none⟩) m m, .int .i64 0] 88)
      exact ⟨_, this, made_rows m⟩
  by_cases h1 : n < 1
  · have hm : newN n = 1 := by unfold newN; omega
    have hk := fun W => hmk 1 W (by omega)
    have hFin := Lib.hid (fin 1)
    simp only [Int.natCast_one] at hk
    generalize madeCells (refCells none).toArray (1 * 5) = L at hk hFin
    have h2 : ¬ (64 : Int) < 1 := by omega
    clear hmk fin hN64 hN1
    rw [hm]
    go_enter Try.func22, Try.ntmps22
    go_wp2_with fail
    go_ret
    exact ⟨_, _, rfl, hFin.out _ rfl⟩
  · by_cases h2 : 64 < n
    · have hm : newN n = 64 := by unfold newN; omega
      have hk := fun W => hmk 64 W (by omega)
      have hFin := Lib.hid (fin 64)
      simp only [show ((64 : Nat) : Int) = 64 from rfl] at hk
      generalize madeCells (refCells none).toArray (64 * 5) = L at hk hFin
      clear hmk fin hN64 hN1
      rw [hm]
      go_enter Try.func22, Try.ntmps22
      go_wp2_with fail
      go_ret
      exact ⟨_, _, rfl, hFin.out _ rfl⟩
    · obtain ⟨m, rfl⟩ : ∃ m : Nat, n = (m : Int) := ⟨n.toNat, by omega⟩
      have hm : newN (m : Int) = m := by unfold newN; omega
      have hk := fun W => hmk m W (by omega)
      have hFin := Lib.hid (fin m)
      generalize madeCells (refCells none).toArray (m * 5) = L at hk hFin
      clear hmk fin hN64 hN1
      rw [hm]
      go_enter Try.func22, Try.ntmps22
      go_wp2_with fail
      go_ret
      exact ⟨_, _, rfl, hFin.out _ rfl⟩

end Go.Proofs.Ytbiaompkmabfjaa
