/- The purse: what the law's own first look answers. -/
import Derived.Test.YtejjfhgfhileeaaPurse
namespace Go.Proofs.Ytejjfhgfhileeaa
open Go.Maps Go.RowKit

theorem inv_mk {q q' : PS} (h : PInv q) (e : q = q') : PInv q' := e ▸ h

theorem awake_calls (w : World) : Calls Try.prog 7 #[] w fun e w' => e = .returned (.bool true) ∧ Fr (fun _ => False) w w' := by
  have i0 := pInv_nil
  have i1 : PInv ⟨[(1, 5)], 5⟩ := inv_mk (pAsk_inv i0 (who := 1) (by unfold in64; omega) (n := 5) (room := 8) (by omega)) rfl
  have i2 : PInv ⟨[(1, 2)], 2⟩ := inv_mk (pTake_inv i1 (who := 1) (by unfold in64; omega) 3) rfl
  have i3 : PInv ⟨[(1, 2), (2, 4)], 6⟩ := inv_mk (pAsk_inv i2 (who := 2) (by unfold in64; omega) (n := 4) (room := 8) (by omega)) rfl
  go_enter Try.func7, Try.ntmps7
  go_wp2_with fail
  refine (New_calls w).mono ?_
  rintro e w0 ⟨rfl, hP0, hF0⟩
  go_wp2_with fail
  refine (Ask_calls (w.heap.size + 1) w.heap.size ⟨[], 0⟩ _ hP0 i0 1 5 8 (by unfold in64; omega) (by unfold in64; omega) (by decide)).mono ?_
  rintro e w1 ⟨rfl, hP1, hF1⟩
  rw [show pCan ⟨[], 0⟩ 5 8 = true from rfl]
  have hP1 : IsPurse w1 _ _ ⟨[(1, 5)], 5⟩ := hP1
  go_wp2_with fail
  refine (Ask_calls (w.heap.size + 1) w.heap.size _ _ hP1 i1 2 4 8 (by unfold in64; omega) (by unfold in64; omega) (by decide)).mono ?_
  rintro e w2 ⟨rfl, hP2, hF2⟩
  rw [show pCan ⟨[(1, 5)], 5⟩ 4 8 = false from rfl]
  have hP2 : IsPurse w2 _ _ ⟨[(1, 5)], 5⟩ := hP2
  go_wp2_with fail
  refine (Take_calls (w.heap.size + 1) w.heap.size _ _ hP2 i1 1 3 (by unfold in64; omega) (by decide)).mono ?_
  rintro e w3 ⟨rfl, hP3, hF3⟩
  rw [show pTook ⟨[(1, 5)], 5⟩ 1 3 = 3 from rfl]
  have hP3 : IsPurse w3 _ _ ⟨[(1, 2)], 2⟩ := hP3
  go_wp2_with fail
  refine (Ask_calls (w.heap.size + 1) w.heap.size _ _ hP3 i2 2 4 8 (by unfold in64; omega) (by unfold in64; omega) (by decide)).mono ?_
  rintro e w4 ⟨rfl, hP4, hF4⟩
  rw [show pCan ⟨[(1, 2)], 2⟩ 4 8 = true from rfl]
  have hP4 : IsPurse w4 _ _ ⟨[(1, 2), (2, 4)], 6⟩ := hP4
  go_wp2_with fail
  refine (Take_calls (w.heap.size + 1) w.heap.size _ _ hP4 i3 1 9 (by unfold in64; omega) (by decide)).mono ?_
  rintro e w5 ⟨rfl, hP5, hF5⟩
  rw [show pTook ⟨[(1, 2), (2, 4)], 6⟩ 1 9 = 2 from rfl]
  have hP5 : IsPurse w5 _ _ ⟨[(2, 4)], 4⟩ := hP5
  go_wp2_with fail
  refine (Sum_calls (w.heap.size + 1) w.heap.size _ _ hP5).mono ?_
  rintro e w' ⟨rfl, rfl⟩
  go_wp2_with fail
  refine (Of_calls (w.heap.size + 1) w.heap.size _ _ hP5 2 (by unfold in64; omega)).mono ?_
  rintro e w' ⟨rfl, rfl⟩
  rw [show pOf ⟨[(2, 4)], 4⟩ 2 = 4 from rfl]
  go_wp2_with fail
  refine (Of_calls (w.heap.size + 1) w.heap.size _ _ hP5 1 (by unfold in64; omega)).mono ?_
  rintro e w' ⟨rfl, rfl⟩
  rw [show pOf ⟨[(2, 4)], 4⟩ 1 = 0 from rfl]
  go_wp2_with fail
  go_ret
  have out : ∀ b, b < w.heap.size → two (w.heap.size + 1) w.heap.size b → False := by
    intro b hb h
    rcases h with h | h <;> omega
  exact ⟨rfl, ((((((hF0.trans hF1 out).trans hF2 out).trans hF3 out).trans hF4 out).trans hF5 out))⟩

end Go.Proofs.Ytejjfhgfhileeaa
