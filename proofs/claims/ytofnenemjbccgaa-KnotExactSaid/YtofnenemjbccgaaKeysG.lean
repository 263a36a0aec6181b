/- slices.Sorted(maps.Keys(m)) at a map with int keys: its keys, rising. -/
import Derived.Test.YtofnenemjbccgaaMap
import Derived.Test.YtofnenemjbccgaaLaysG
import Derived.Test.YtofnenemjbccgaaProg
import Derived.KernelRfl
namespace Go.Proofs.Ytofnenemjbccgaa
open Go.RowKit Go.Maps Go.Sort Go.Shelf

theorem intKeys_toD (l : List (Int × Value)) : intKeys (toD l) = l.map (·.1) := by
  unfold toD intKeys
  simp only [List.map_map]
  rfl

/-- slices.Sort's two contracts here, at the fence that asks nothing. -/
theorem sortsA (m : Nat) : AnyZI.SortsIn Try.prog sortedA_ren Fence.wide m :=
  ⟨fun blk off cap ss W hH hblk hsz => callsIn_wide.2 (AnyM.slices_Sort_int sortA blk off cap ss W hH hblk hsz),
   fun p cap W => callsIn_wide.2 (AnyM.slices_Sort_int_none sortA p cap W)⟩

theorem keys_calls (mb : Option Nat) (W : World) : Calls Try.prog 23 #[.map mb] W fun e w' => e = .returned (.func (.func 27) #[] #[.pointer (some ⟨W.heap.size, 0, none⟩)]) ∧ w' = W.alloc (.cells #[.map mb] 47) :=
  callsIn_wide.1 (AnyZI.keys_in keysA Fence.wide 5 trivial rfl mb W)

/-- THE KEYS, RISING, in a row of the call's own. -/
def SortedKeys (W : World) (ks : List Int) (e : Ending) (w' : World) : Prop :=
  ∃ v, e = .returned v ∧ w'.ownsRow W.heap.size 3 1 v ks.length (ks.map fun k => Value.int .i64 k) ∧ (v = .slice none 0 0 ↔ ks = []) ∧ Below W.heap.size W w'

theorem sorted_srt {l : List (Int × Value)} (hs : Srt l) {ss : List Int} (h : ss.Perm (l.map (·.1))) : ss.mergeSort (fun x y => decide (x ≤ y)) = l.map (·.1) := by
  rw [mergeSort_of_perm_i h]
  refine List.mergeSort_of_pairwise ?_
  rw [List.pairwise_map]
  exact hs.imp fun {a b} h => by simpa using Int.le_of_lt h

theorem sorted_calls (W : World) (bm b : Nat) (l : List (Int × Value)) (hV : VMap W Try.prog 3 b l) (hbm : W.cell? ⟨bm, 0, none⟩ = some (.map (some b))) (hlen : l.length ≤ 1000000) :
    Calls Try.prog 22 #[.func (.func 27) #[] #[.pointer (some ⟨bm, 0, none⟩)]] W (SortedKeys W (l.map (·.1))) := by
  have hsz : Maps.size (toD l) = l.length := toD_size l
  have hseq : SeqGives Fence.wide 2 Try.prog 27 #[.pointer (some ⟨bm, 0, none⟩)] encZ (fun ss => ss.Perm (intKeys (toD l))) (Maps.size (toD l)) W :=
    AnyZI.keys_gives (ρ := keysA_ren) { keysA with } Fence.wide _ trivial rfl (by omega) bm b l.length (toD l) _ (World.block_lt_of_cell? W _ hbm) hbm hV.1
  have cS := AnyZI.sorted_in sortedA Fence.wide 5 trivial trivial trivial trivial rfl (by omega) (sortsA _) (enters_of Try.func26 (by kernel_rfl) rfl) 27 #[.pointer (some ⟨bm, 0, none⟩)] trivial (enters_of Try.func27 (by kernel_rfl) rfl) _ _ (by rw [hsz]; unfold maxLen; omega) (by rw [hsz]; omega) _ hseq
  refine (callsIn_wide.1 cS).mono fun e w' h => ?_
  obtain ⟨v, ss, rfl, hS, hrow, hnil, hb⟩ := h
  rw [intKeys_toD] at hS
  rw [sorted_srt hV.2.1 hS] at hrow
  have hl : ss.length = (l.map (·.1)).length := hS.length_eq
  refine ⟨v, rfl, by rw [← hl]; exact hrow, hnil.trans ?_, hb⟩
  rw [← List.length_eq_zero_iff, hl, List.length_eq_zero_iff]

end Go.Proofs.Ytofnenemjbccgaa
