/- Who waits for whom: edges, the walk. -/
import Derived.Test.YtofnenemjbccgaaKnotP
import Derived.Deep.RegionHeld3
import Derived.Deep.AppendLies
namespace Go.Proofs.Ytofnenemjbccgaa
open Go.Maps Go.RowKit

def EdgesP (w : World) (E : ES) (e : Ending) (w' : World) : Prop :=
  ∃ va vb, e = .returned (.tuple #[va, vb]) ∧ w'.ownsRow w.heap.size 38 2 va E.length (ecells E) ∧ w'.ownsRow w.heap.size 43 2 vb E.length (ecells E) ∧ Fr (fun _ => False) w w'

set_option maxHeartbeats 1000000 in
theorem edges_calls (w : World) (B : Nat) (hB : B ≤ w.heap.size) (A : Option Addr) (n c : Nat) (f : Nat → Nat → Int) (hA : ActsAt w B 2 A n f) (hn : n ≤ 1000000) :
    Calls Try.prog 9 #[.slice A n c] w (EdgesP w (pairsE f n)) := by
  obtain ⟨i0, hi, hz0, hz1, hz2⟩ := info_parts infoEdge
  obtain ⟨j0, hj, hy0, hy1, hy2⟩ := info_parts infoEdgeR
  have HA := Lib.hid hA
  clear hA
  have hr1 : ((w.alloc (.cells #[] 38)).alloc (.cells #[] 43)).ownsRow w.heap.size 38 2 (.slice (some ⟨w.heap.size, 0, none⟩) 0 0) 0 [] :=
    (w.ownsRow_lit #[] 0 (Nat.le_refl _) (by omega) rfl).alloc _
  have hr2 : ((w.alloc (.cells #[] 38)).alloc (.cells #[] 43)).ownsRow w.heap.size 43 2 (.slice (some ⟨(w.alloc (.cells #[] 38)).heap.size, 0, none⟩) 0 0) 0 [] :=
    (w.alloc (.cells #[] 38)).ownsRow_lit #[] 0 (by rw [World.size_alloc]; omega) (by omega) rfl
  rw [World.size_alloc] at hr2
  have hF0 : Fr (fun _ => False) w ((w.alloc (.cells #[] 38)).alloc (.cells #[] 43)) := ((Fr.refl _ w).alloc _).alloc _
  go_enter Try.func9, Try.ntmps9
  go_wp2_with fail
  go_loopg [4, 5, 6] n (fun g va vb i wr => ∃ k : Nat, i = .int .i64 k ∧ k ≤ n ∧ g = n - k ∧ wr.ownsRow w.heap.size 38 2 va k (ecells (pairsE f k)) ∧ wr.ownsRow w.heap.size 43 2 vb k (ecells (pairsE f k)) ∧ Fr (fun _ => False) w wr)
  case atStart => exact ⟨0, rfl, by omega, by omega, hr1, hr2, hF0⟩
  case round =>
    obtain ⟨k, rfl, hk, rfl, hra, hrb, hF⟩ := hrel
    have hsz := hF.size
    by_cases hlt : k < n
    · obtain ⟨b, off, rfl, hbb, hc⟩ := HA.out k hlt
      obtain ⟨_, a0⟩ := hc 0 (by omega)
      obtain ⟨_, a1⟩ := hc 1 (by omega)
      rw [← hF.cell (p := ⟨b, _, none⟩) (by show b < w.heap.size; omega) (fun h => h)] at a0 a1
      rw [Nat.add_zero] at a0
      have hltz : (k : Int) < (n : Int) := by omega
      have q1 : (0 : Int) ≤ (k : Int) := by omega
      clear hc hr1 hr2 hF0
      have hnA : ∀ v, u4.ownBlock = some v → v ≠ b := fun v hv e => by have := (hra.lt _ hv).1; omega
      have hnB : ∀ v, u5.ownBlock = some v → v ≠ b := fun v hv e => by have := (hrb.lt _ hv).1; omega
      have hnA' : u4.ownBlock ≠ some b := fun e => hnA _ e rfl
      have hnB' : u5.ownBlock ≠ some b := fun e => hnB _ e rfl
      have hAB : ∀ g, u4.ownBlock = some g → u5.ownBlock ≠ some g := fun g h1 h2 => by
        obtain ⟨c1, b1⟩ := row_blk hra h1
        obtain ⟨c2, b2⟩ := row_blk hrb h2
        exact b1.ne_ b2 (by decide) rfl
      have hblt : b < wr.heap.size := by omega
      go_wp2_with fail
      go_region_held3 (fun w' => w'.cell? ⟨b, off + k * 2, none⟩ = some (.int .i64 (f k 0)) ∧ w'.cell? ⟨b, off + k * 2 + 1, none⟩ = some (.int .i64 (f k 1)))
        (first
          | go_keep
          | (go_split_ands
             refine ⟨?_, ?_⟩
             · (rw [hgrow.cell_far _ (by simp; omega) (Ne.symm hnA')]; assumption)
             · (rw [hgrow.cell_far _ (by simp; omega) (Ne.symm hnA')]; assumption)))
        ((refine step_append_lies _ (by rfl) _ _ _ (by rfl) w.heap.size 38 i0 _ 2 16 Try.underlying24 hi hz0 hz1 hz2 rfl (by omega) u4 k (ecells (pairsE f k)) (by rfl) ((hra.alloc _).drew)
            ⟨wr.heap.size, 0, none⟩ 1 1 [.int .i64 (f k 0), .int .i64 (f k 1)] (by rfl) (by rfl) (World.news_of_block (cs := #[.int .i64 (f k 0), .int .i64 (f k 1)]) (t := 38) (fr := (0, 0)) (heap_alloc_new wr _)) (by simp [Value.oneCell'])
            (by omega) (by unfold maxLen; omega) (by omega) (by simp; omega) (wr.heap.size + 1) (by simp) ?_; intro gg cap w1 hown1 hgrow hat hlt1))
      have hFg := (((Fr.refl (fun bl => u4.ownBlock = some bl) wr).alloc (.cells #[.int .i64 (f k 0), .int .i64 (f k 1)] 38)).drew).grown hgrow (fun b hb => .inl hb)
      have a2 := (hFg.cell (p := ⟨b, off + k * 2, none⟩) hblt hnA').trans a0
      have a3 := (hFg.cell (p := ⟨b, off + k * 2 + 1, none⟩) hblt hnA').trans a1
      have hrb1 := row_fr hrb hFg (fun g cs hg hB e => by
        obtain ⟨c2, b2⟩ := row_blk hra e
        exact hB.ne_ b2 (by decide) rfl)
      have hs1 := hFg.size
      have hblt1 : b < w1.heap.size := by omega
      clear a0 a1 hat
      go_wp2_with fail
      go_region_held3 (fun w' => w'.cell? ⟨b, off + k * 2, none⟩ = some (.int .i64 (f k 0)) ∧ w'.cell? ⟨b, off + k * 2 + 1, none⟩ = some (.int .i64 (f k 1)))
        (first
          | go_keep
          | (go_split_ands
             refine ⟨?_, ?_⟩
             · (rw [hgrow2.cell_far _ (by simp; omega) (Ne.symm hnB')]; assumption)
             · (rw [hgrow2.cell_far _ (by simp; omega) (Ne.symm hnB')]; assumption)))
        ((refine step_append_lies _ (by rfl) _ _ _ (by rfl) w.heap.size 43 j0 _ 2 16 Try.underlying25 hj hy0 hy1 hy2 rfl (by omega) u5 k (ecells (pairsE f k)) (by rfl) ((hrb1.alloc _).drew)
            ⟨w1.heap.size, 0, none⟩ 1 1 [.int .i64 (f k 0), .int .i64 (f k 1)] (by rfl) (by rfl) (World.news_of_block (cs := #[.int .i64 (f k 0), .int .i64 (f k 1)]) (t := 43) (fr := (0, 0)) (heap_alloc_new w1 _)) (by simp [Value.oneCell'])
            (by omega) (by unfold maxLen; omega) (by omega) (by simp; omega) (w1.heap.size + 1) (by simp) ?_; intro g2 cap2 w2 hown2 hgrow2 hat2 hlt2))
      have hFh := (((Fr.refl (fun bl => u5.ownBlock = some bl) w1).alloc (.cells #[.int .i64 (f k 0), .int .i64 (f k 1)] 43)).drew).grown hgrow2 (fun b hb => .inl hb)
      have hown1' := row_fr hown1 hFh (fun g cs hg hB e => by
        obtain ⟨c2, b2⟩ := row_blk hrb1 e
        exact hB.ne_ b2 (by decide) rfl)
      have hFn := (hF.trans hFg (fun b hb e => by have := (hra.lt _ e).1; omega)).trans hFh (fun b hb e => by have := (hrb.lt _ e).1; omega)
      clear a2 a3 hat2 hFg hFh
      go_wp2_with fail
      go_roundg (n - (k + 1))
      case measure => omega
      case rel => exact ⟨k + 1, by go_num, by omega, rfl, by rw [pairsE_succ, ecells_append]; exact hown1', by rw [pairsE_succ, ecells_append]; exact hown2, hFn⟩
    · obtain rfl : k = n := by omega
      have hltz : (k : Int) ≤ (k : Int) := by omega
      clear hr1 hr2 hF0
      go_wp2_with fail
      go_ret2
      exact ⟨u4, u5, rfl, by rw [pairsE_len]; exact hra, by rw [pairsE_len]; exact hrb, hF⟩

end Go.Proofs.Ytofnenemjbccgaa
