/- The locks: Call, Pages, and the nil receiver. -/
import Derived.Test.YtfgkhlbmmffajaaLatch
namespace Go.Proofs.Ytfgkhlbmmffajaa
open Go.Maps Go.RowKit

section
variable (w : World) (lb mb : Nat) (ms : MS)

set_option maxHeartbeats 1000000 in
theorem Call_calls (hL : IsL w lb mb ms) (hI : LInv (vmap (·.2) ms)) (p : Int) (hp : in64 p) (all : Bool) :
    Calls Try.prog 11 #[.pointer (some ⟨lb, 0, none⟩), .int .i64 p, .bool all] w fun e w' => e = .returned (.int .i64 (lCall p all (vmap (·.2) ms)).1) ∧ LStep w lb mb ms (lCall p all (vmap (·.2) ms)).2 w' := by
  have hs := LStep.same hL
  have HS := Lib.hid hs
  clear hs
  unfold lCall
  cases e : look p (vmap (·.2) ms) with
  | none =>
    have hf := find_none w lb mb ms hL p hp (abs_none e)
    clear e
    go_enter Try.func11, Try.ntmps11
    go_wp2_with (go_at_call 24; refine hf.mono ?_; clear hf; rintro e w' ⟨rfl, rfl⟩)
    go_ret
    exact ⟨rfl, HS.out⟩
  | some k =>
    have ho := lok_at hI e
    obtain ⟨g, hg⟩ := abs_some e
    have hf := find_some w lb mb ms hL p hp hg
    have hB := hL.k p g k hg
    obtain ⟨a0, a1, a2, z0, z1, z2⟩ := lk_cells hB
    have c0 := hL.b.cell 0
    have HG := Lib.hid hg
    have HB := Lib.hid hB
    have HL := Lib.hid hL
    obtain ⟨kx, ku, kw⟩ := k
    obtain ⟨hu, hw⟩ := ho
    dsimp only at a0 a1 a2 hu hw ⊢
    have hset0 : ∀ (u : Bool) (w' : World), w' = w.setCell ⟨g, 0, none⟩ (.bool u) → LStep w lb mb ms (ins p ⟨u, ku, kw⟩ (vmap (·.2) ms)) w' := by
      rintro u w' rfl
      exact LStep.of_set HL.out HG.out ((Fr.refl (fun b => b = g) w).setCell (p := ⟨g, 0, none⟩) (.inl rfl) _) (HB.out.set_ 0 (.bool u))
    have hset2 : ∀ (u : Int) (w' : World), w' = w.setCell ⟨g, 2, none⟩ (.int .i64 u) → LStep w lb mb ms (ins p ⟨kx, ku, u⟩ (vmap (·.2) ms)) w' := by
      rintro u w' rfl
      exact LStep.of_set HL.out HG.out ((Fr.refl (fun b => b = g) w).setCell (p := ⟨g, 2, none⟩) (.inl rfl) _) (HB.out.set_ 2 (.int .i64 u))
    have HS0 := Lib.hid hset0
    have HS2 := Lib.hid hset2
    clear e hg hB hset0 hset2
    cases all with
    | true =>
      rcases hu with rfl | rfl | rfl
      · have hV := hL.m
        clear hL
        go_enter Try.func11, Try.ntmps11
        go_wp2_with (first
          | (go_at_call 24; refine hf.mono ?_; clear hf; rintro e w' ⟨rfl, rfl⟩)
          | (at_delete; refine wpList_mdel _ rfl _ _ 53 3 rfl 56 mb Try.underlying3 Try.underlying53 _ hV rfl p rfl hp ?_; intro w1 hV1 ht1))
        go_ret
        exact ⟨rfl, LStep.of_del HL.out p ((Fr.refl (fun b => b = mb) w).map ht1 (.inl rfl)) hV1⟩
      all_goals
        go_enter Try.func11, Try.ntmps11
        go_wp2_with (go_at_call 24; refine hf.mono ?_; clear hf; rintro e w' ⟨rfl, rfl⟩)
        go_ret
        exact ⟨rfl, HS2.out _ _ rfl⟩
    | false =>
      cases kx with
      | false =>
        go_enter Try.func11, Try.ntmps11
        go_wp2_with (go_at_call 24; refine hf.mono ?_; clear hf; rintro e w' ⟨rfl, rfl⟩)
        go_ret
        exact ⟨rfl, HS.out⟩
      | true =>
        rcases hu with rfl | rfl | rfl
        · go_enter Try.func11, Try.ntmps11
          go_wp2_with (go_at_call 24; refine hf.mono ?_; clear hf; rintro e w' ⟨rfl, rfl⟩)
          go_ret
          exact ⟨rfl, HS0.out _ _ rfl⟩
        · go_enter Try.func11, Try.ntmps11
          go_wp2_with (go_at_call 24; refine hf.mono ?_; clear hf; rintro e w' ⟨rfl, rfl⟩)
          go_ret
          exact ⟨rfl, HS0.out _ _ rfl⟩
        · rcases hw with rfl | rfl | rfl
          all_goals
            go_enter Try.func11, Try.ntmps11
            go_wp2_with (go_at_call 24; refine hf.mono ?_; clear hf; rintro e w' ⟨rfl, rfl⟩)
            go_ret
            exact ⟨rfl, HS2.out _ _ rfl⟩

/-- The pages, rising, in a row of the call's own. -/
def PagesRow (w : World) (ks : List Int) (e : Ending) (w' : World) : Prop :=
  ∃ v, e = .returned v ∧ w'.ownsRow w.heap.size 3 1 v ks.length (ks.map fun k => Value.int .i64 k) ∧ Fr (fun _ => False) w w'

theorem Pages_calls (hL : IsL w lb mb ms) (hlen : ms.length ≤ 1000000) :
    Calls Try.prog 23 #[.pointer (some ⟨lb, 0, none⟩)] w (PagesRow w (ms.map (·.1))) := by
  have c0 := hL.b.cell 0
  have hV := hL.m.alloc (.cells #[.map (some mb)] 53)
  have hbm := (Blk.new w 53 [.map (some mb)]).cell 0
  have hk1 : (vmap ptrV ms).map (·.1) = ms.map (·.1) := by simp [vmap]
  have hS := sorted_calls _ w.heap.size mb _ hV hbm (by rw [length_vmap]; omega)
  rw [hk1] at hS
  clear hV hbm hk1
  go_enter Try.func23, Try.ntmps23
  go_wp2_with fail
  refine (keys_calls _ w).mono ?_
  rintro e w1 ⟨rfl, rfl⟩
  go_wp2_with fail
  refine hS.mono ?_
  rintro e w2 ⟨v, rfl, hrow, -, hb⟩
  go_wp2_with fail
  go_ret
  refine ⟨v, rfl, ⟨hrow.1, hrow.2.imp id ?_⟩, ((Fr.refl _ w).alloc _).trans (Fr.of_below hb (fun _ => False)) (fun _ _ h => h)⟩
  rintro ⟨g, cap, cur, r1, r2, r3⟩
  rw [World.size_alloc] at r2
  exact ⟨g, cap, cur, r1, by omega, r3⟩
end

/-! ### the nil receiver -/
section
variable (w : World)
theorem find_nil (p : Int) : Calls Try.prog 24 #[.pointer none, .int .i64 p] w fun e w' => e = .returned (.pointer none) ∧ w = w' := by
  go_enter Try.func24, Try.ntmps24
  go_wp2_with fail
  go_ret
  exact ⟨rfl, rfl⟩

theorem Grant_nil (p : Int) (x : Bool) : Calls Try.prog 9 #[.pointer none, .int .i64 p, .bool x] w fun e w' => e = .returned (.tuple #[]) ∧ w = w' := by
  go_enter Try.func9, Try.ntmps9
  go_wp2_with fail
  refine bodyPost_ret (results_none rfl _ _ _) rfl ?_
  exact ⟨rfl, rfl⟩

theorem Clear_nil : Calls Try.prog 19 #[.pointer none] w fun e w' => e = .returned (.tuple #[]) ∧ w = w' := by
  go_enter Try.func19, Try.ntmps19
  go_wp2_with fail
  go_end0
  exact ⟨rfl, rfl⟩

theorem Has_nil (p : Int) (x : Bool) : Calls Try.prog 10 #[.pointer none, .int .i64 p, .bool x] w fun e w' => e = .returned (.bool false) ∧ w = w' := by
  go_enter Try.func10, Try.ntmps10
  go_wp2_with (go_at_call 24; refine (find_nil _ p).mono ?_; rintro e w' ⟨rfl, rfl⟩)
  go_ret
  exact ⟨rfl, rfl⟩

theorem Use_nil (p : Int) (x : Bool) : Calls Try.prog 13 #[.pointer none, .int .i64 p, .bool x] w fun e w' => e = .returned (.int .i64 2) ∧ w = w' := by
  go_enter Try.func13, Try.ntmps13
  go_wp2_with fail
  go_ret
  exact ⟨rfl, rfl⟩

theorem Used_nil (p : Int) : Calls Try.prog 21 #[.pointer none, .int .i64 p] w fun e w' => e = .returned (.int .i64 0) ∧ w = w' := by
  go_enter Try.func21, Try.ntmps21
  go_wp2_with (go_at_call 24; refine (find_nil _ p).mono ?_; rintro e w' ⟨rfl, rfl⟩)
  go_ret
  exact ⟨rfl, rfl⟩

theorem Call_nil (p : Int) (x : Bool) : Calls Try.prog 11 #[.pointer none, .int .i64 p, .bool x] w fun e w' => e = .returned (.int .i64 0) ∧ w = w' := by
  go_enter Try.func11, Try.ntmps11
  go_wp2_with (go_at_call 24; refine (find_nil _ p).mono ?_; rintro e w' ⟨rfl, rfl⟩)
  go_ret
  exact ⟨rfl, rfl⟩

theorem Pages_nil : Calls Try.prog 23 #[.pointer none] w fun e w' => e = .returned (.slice none 0 0) ∧ w = w' := by
  go_enter Try.func23, Try.ntmps23
  go_wp2_with fail
  go_ret
  exact ⟨rfl, rfl⟩
end

end Go.Proofs.Ytfgkhlbmmffajaa
