/- The locks' reference: End; how two lists of lets are compared. -/
import Derived.Test.YtfgkhlbmmffajaaRefLG
import Derived.BigQuiet
namespace Go.Proofs.Ytfgkhlbmmffajaa
open Go.Maps Go.RowKit

theorem row_other {W w1 : World} {base : Nat} {e e' : TypeId} {size size' : Nat} {v v' : Value} {n n' : Nat} {xs xs' : List Value} {o : Obj} (h : W.ownsRow base e size v n xs) (h' : W.ownsRow base e' size' v' n' xs') (hne : e ≠ e') (hg : (W.alloc o).grownBy w1 v'.ownBlock) : w1.ownsRow base e size v n xs := by
  have hF := (Fr.refl (fun b => v'.ownBlock = some b) (W.alloc o)).grown hg (fun b hb => .inl hb)
  obtain ⟨h0, h1⟩ := h.alloc o
  obtain ⟨_, h2⟩ := h'.alloc o
  refine ⟨h0, h1.imp id ?_⟩
  rintro ⟨g, cap, cur, r1, r2, r3, r4⟩
  refine ⟨g, cap, cur, r1, r2, (hF.block g (Array.getElem?_eq_some_iff.1 r3).1 (fun hs => ?_)).trans r3, r4⟩
  rcases h2 with ⟨rfl, _⟩ | ⟨g', cap', cur', rfl, _, q3, _⟩
  · cases hs
  · cases hs
    rw [r3] at q3
    cases q3
    exact hne rfl

theorem endRest_len (ls : LS) : (endRest ls).length ≤ ls.length := by
  induction ls with
  | nil => simp [endRest]
  | cons q r ih =>
    unfold endRest at ih ⊢
    rw [List.flatMap_cons, List.length_append]
    have : (restOf q).length ≤ 1 := by unfold restOf; split <;> simp
    simp only [List.length_cons]
    omega

section
variable (w0 w : World) (ub : Nat) (ls : LS)

set_option maxHeartbeats 1000000 in
theorem refEnd_calls (hw0 : w0.heap.size ≤ w.heap.size) (hR : IsRefL w0 w ub ls) (hI : LInv ls) (hn : ls.length ≤ 1000000) :
    Calls Try.prog 18 #[.pointer (some ⟨ub, 0, none⟩)] w fun e w' => ∃ v, e = .returned v ∧ w'.ownsRow w.heap.size 38 2 v (endOuts ls).length (letcells (endOuts ls)) ∧ RefStep w0 w ub ls (endRest ls) w' := by
  obtain ⟨j0, hj, hy0, hy1, hy2⟩ := info_parts infoLet
  obtain ⟨i0, hi, hz0, hz1, hz2⟩ := info_parts infoLock
  obtain ⟨A, cap, hB, hcells⟩ := hR.open_
  have HC := Lib.hid hcells
  have HB := Lib.hid hB
  have HZ := Lib.hid (Nat.le_refl w.heap.size)
  have HOK := Lib.hid hI.ok
  have hblt := hB.lt
  have c0 := hB.cell 0
  clear hcells hB hR hI
  have hrow1 : ((w.alloc (.cells #[] 38)).alloc (.cells #[] 49)).ownsRow w.heap.size 38 2 (.slice (some ⟨w.heap.size, 0, none⟩) 0 0) 0 [] :=
    (w.ownsRow_lit #[] 0 (Nat.le_refl _) (by omega) rfl).alloc _
  have hrow2 : ((w.alloc (.cells #[] 38)).alloc (.cells #[] 49)).ownsRow w.heap.size 49 4 (.slice (some ⟨(w.alloc (.cells #[] 38)).heap.size, 0, none⟩) 0 0) 0 [] :=
    (w.alloc (.cells #[] 38)).ownsRow_lit #[] 0 (by rw [World.size_alloc]; omega) (by omega) rfl
  have hF0 : Fr (fun _ => False) w ((w.alloc (.cells #[] 38)).alloc (.cells #[] 49)) := ((Fr.refl _ w).alloc _).alloc _
  rw [World.size_alloc] at hrow2
  go_enter Try.func18, Try.ntmps18
  go_wp2_with fail
  go_loopg [3, 4, 5] ls.length (fun g v u i wr => ∃ k : Nat, i = .int .i64 k ∧ k ≤ ls.length ∧ g = ls.length - k ∧ wr.ownsRow w.heap.size 38 2 v (endOuts (ls.take k)).length (letcells (endOuts (ls.take k))) ∧ wr.ownsRow w.heap.size 49 4 u (endRest (ls.take k)).length (rcells c4 (endRest (ls.take k))) ∧ Fr (fun _ => False) w wr)
  case atStart => exact ⟨0, rfl, by omega, by omega, hrow1, hrow2, hF0⟩
  case round =>
    obtain ⟨k, rfl, hk, rfl, hown, hrst, hF⟩ := hrel
    have c0 := (HB.out.fr hF (fun h => h)).cell 0
    have hsz := hF.size
    have HF := Lib.hid hF
    have HF1 := HF
    clear hF
    by_cases hlt : k < ls.length
    · have hltz : (k : Int) < (ls.length : Int) := by omega
      have ho : ls[k]? = some ls[k] := List.getElem?_eq_getElem hlt
      have hok := HOK.out _ (List.getElem_mem hlt)
      have ht : ls.take (k + 1) = ls.take k ++ [ls[k]] := List.take_succ_eq_append_getElem hlt
      have hS1 : endOuts (ls.take (k + 1)) = endOuts (ls.take k) ++ outOf ls[k] := by rw [ht]; unfold endOuts; rw [List.flatMap_append]; simp
      have hS2 : endRest (ls.take (k + 1)) = endRest (ls.take k) ++ restOf ls[k] := by rw [ht]; unfold endRest; rw [List.flatMap_append]; simp
      have HS1 := Lib.hid hS1
      have HS2 := Lib.hid hS2
      have hl1 := endOuts_len (ls.take k)
      have hl2 := (show (endRest (ls.take k)).length ≤ (ls.take k).length from endRest_len _)
      have hl3 : (ls.take k).length ≤ 1000000 := by simp; omega
      clear ht hS1 hS2
      generalize ls[k] = q at ho hok HS1 HS2
      obtain ⟨g, rfl, _, ⟨cur, hcur⟩, hc, _⟩ := HC.out k q ho
      obtain ⟨a0, a1, a2, a3, _⟩ := hc wr (HF.out.block g (Array.getElem?_eq_some_iff.1 hcur).1 (fun h => h))
      obtain ⟨qp, qx, qu, qw⟩ := q
      obtain ⟨_, hw⟩ := hok
      dsimp only at a0 a1 a2 a3 hw
      clear ho hc hcur
      have hnewL : ∀ (o : Obj) (a : Int) (b : Bool), ∀ (j : Nat) (u : Value), [Value.int .i64 a, Value.bool b][j]? = some u → ((wr.alloc o).alloc (.cells #[.int .i64 a, .bool b] 38)).cell? ((⟨wr.heap.size + 1, 0, none⟩ : Addr).add j) = some u := fun o a b => by
        have := newsL (wr.alloc o) a b
        rwa [World.size_alloc] at this
      have hnew4 : ∀ (o : Obj) (a : Int) (b : Bool), ∀ (j : Nat) (u : Value), [Value.int .i64 a, Value.bool b, Value.int .i64 0, Value.int .i64 0][j]? = some u → ((wr.alloc o).alloc (.cells #[.int .i64 a, .bool b, .int .i64 0, .int .i64 0] 49)).cell? ((⟨wr.heap.size + 1, 0, none⟩ : Addr).add j) = some u := fun o a b => by
        have := news4 (wr.alloc o) a b 0 0
        rwa [World.size_alloc] at this
      have hbs : ∀ o o' : Obj, w.heap.size ≤ ((wr.alloc o).alloc o').heap.size := fun o o' => by rw [World.size_alloc, World.size_alloc]; omega
      have HNL := Lib.hid hnewL
      have HN4 := Lib.hid hnew4
      have HBS := Lib.hid hbs
      clear hnewL hnew4 hbs
      rcases hw with rfl | rfl | rfl
      · cases qx
        all_goals
          go_wp2_with (first | (at_builtin; refine wpList_append_own _ rfl (.tmp 40) (.tmp 51) 41 rfl w.heap.size 49 i0 _ 4 32 Try.underlying41 hi hz0 hz1 hz2 rfl (by decide) _ _ _ rfl ((hrst.alloc _).alloc _) ⟨wr.heap.size + 1, 0, none⟩ 1 1 [.int .i64 qp, .bool false, .int .i64 0, .int .i64 0] rfl rfl (HN4.out _ qp false) (one4 qp false 0 0) (by unfold maxLen; omega) (by omega) (HBS.out _ _) ?_; intro v1 w1 hrstN hgrow1 _hn1; clear _hn1; have hFN := fr_app (W := wr.alloc (.cells #[.int .i64 qp, .bool false, .int .i64 qu, .int .i64 0] 49)) (HF.out.alloc _) hgrow1 (hrst.alloc _) HZ.out; have hownN := row_other (hown.alloc _) (hrst.alloc _) (by decide) hgrow1; clear hgrow1) | (at_builtin; refine wpList_append_own _ rfl (.tmp 40) (.tmp 51) 41 rfl w.heap.size 49 i0 _ 4 32 Try.underlying41 hi hz0 hz1 hz2 rfl (by decide) _ _ _ rfl ((hrst.alloc _).alloc _) ⟨wr.heap.size + 1, 0, none⟩ 1 1 [.int .i64 qp, .bool true, .int .i64 0, .int .i64 0] rfl rfl (HN4.out _ qp true) (one4 qp true 0 0) (by unfold maxLen; omega) (by omega) (HBS.out _ _) ?_; intro v1 w1 hrstN hgrow1 _hn1; clear _hn1; have hFN := fr_app (W := wr.alloc (.cells #[.int .i64 qp, .bool true, .int .i64 qu, .int .i64 0] 49)) (HF.out.alloc _) hgrow1 (hrst.alloc _) HZ.out; have hownN := row_other (hown.alloc _) (hrst.alloc _) (by decide) hgrow1; clear hgrow1))
          go_wp2_with fail
          go_roundg (ls.length - (k + 1))
          case measure => omega
          case rel => exact ⟨k + 1, rfl, by omega, rfl, by rw [HS1.out]; simpa [outOf] using hownN, by rw [HS2.out]; simpa [restOf, rcells_append, rcells, c4] using hrstN, hFN⟩
      · cases qx
        all_goals
          go_wp2_with (first | (at_builtin; refine wpList_append_own _ rfl (.tmp 28) (.tmp 35) 31 rfl w.heap.size 38 j0 _ 2 16 Try.underlying31 hj hy0 hy1 hy2 rfl (by decide) _ _ _ rfl ((hown.alloc _).alloc _) ⟨wr.heap.size + 1, 0, none⟩ 1 1 [.int .i64 qp, .bool true] rfl rfl (HNL.out _ qp true) (oneL qp true) (by unfold maxLen; omega) (by omega) (HBS.out _ _) ?_; intro v1 w1 hown1 hgrow1 _hn1; clear _hn1; have hF1 := fr_app (W := wr.alloc (.cells #[.int .i64 qp, .bool false, .int .i64 qu, .int .i64 1] 49)) (HF.out.alloc _) hgrow1 (hown.alloc _) HZ.out; have hrst1 := row_other (hrst.alloc _) (hown.alloc _) (by decide) hgrow1; have hBL := (Blk.new wr 49 [.int .i64 qp, .bool false, .int .i64 qu, .int .i64 1]).fr (((Fr.refl (fun b => Value.ownBlock _ = some b) _).alloc _).grown hgrow1 (fun b h => .inl h)) (fun h => by have := (hown.lt _ h).2; omega); obtain ⟨l0, l1, l3⟩ := And.intro (hBL.cell 0) (And.intro (hBL.cell 1) (hBL.cell 3)); have hs1 := hF1.size; have HBS1 := Lib.hid (show ∀ o : Obj, w.heap.size ≤ (w1.alloc o).heap.size from fun o => by rw [World.size_alloc]; omega); have HF2 := Lib.hid hF1; clear hgrow1 hBL) | (at_builtin; refine wpList_append_own _ rfl (.tmp 28) (.tmp 35) 31 rfl w.heap.size 38 j0 _ 2 16 Try.underlying31 hj hy0 hy1 hy2 rfl (by decide) _ _ _ rfl ((hown.alloc _).alloc _) ⟨wr.heap.size + 1, 0, none⟩ 1 1 [.int .i64 qp, .bool true] rfl rfl (HNL.out _ qp true) (oneL qp true) (by unfold maxLen; omega) (by omega) (HBS.out _ _) ?_; intro v1 w1 hown1 hgrow1 _hn1; clear _hn1; have hF1 := fr_app (W := wr.alloc (.cells #[.int .i64 qp, .bool true, .int .i64 qu, .int .i64 1] 49)) (HF.out.alloc _) hgrow1 (hown.alloc _) HZ.out; have hrst1 := row_other (hrst.alloc _) (hown.alloc _) (by decide) hgrow1; have hBL := (Blk.new wr 49 [.int .i64 qp, .bool true, .int .i64 qu, .int .i64 1]).fr (((Fr.refl (fun b => Value.ownBlock _ = some b) _).alloc _).grown hgrow1 (fun b h => .inl h)) (fun h => by have := (hown.lt _ h).2; omega); obtain ⟨l0, l1, l3⟩ := And.intro (hBL.cell 0) (And.intro (hBL.cell 1) (hBL.cell 3)); have hs1 := hF1.size; have HBS1 := Lib.hid (show ∀ o : Obj, w.heap.size ≤ (w1.alloc o).heap.size from fun o => by rw [World.size_alloc]; omega); have HF2 := Lib.hid hF1; clear hgrow1 hBL) | (at_builtin; refine wpList_append_own _ rfl (.tmp 40) (.tmp 51) 41 rfl w.heap.size 49 i0 _ 4 32 Try.underlying41 hi hz0 hz1 hz2 rfl (by decide) _ _ _ rfl (hrst1.alloc _) ⟨w1.heap.size, 0, none⟩ 1 1 [.int .i64 qp, .bool false, .int .i64 0, .int .i64 0] rfl rfl (news4 w1 qp false 0 0) (one4 qp false 0 0) (by unfold maxLen; omega) (by omega) (HBS1.out _) ?_; intro v2 w2 hrstN hgrow2 _hn2; clear _hn2; have hFN := fr_app (W := w1) HF2.out hgrow2 hrst1 HZ.out; have hownN := row_other hown1 hrst1 (by decide) hgrow2; clear hgrow2))
          go_wp2_with fail
          go_roundg (ls.length - (k + 1))
          case measure => omega
          case rel => exact ⟨k + 1, rfl, by omega, rfl, by rw [HS1.out]; simpa [outOf, letcells_append, letcells] using hownN, by rw [HS2.out]; simpa [restOf, rcells_append, rcells, c4] using hrstN, hFN⟩
      · cases qx
        all_goals
          go_wp2_with (first | (at_builtin; refine wpList_append_own _ rfl (.tmp 28) (.tmp 35) 31 rfl w.heap.size 38 j0 _ 2 16 Try.underlying31 hj hy0 hy1 hy2 rfl (by decide) _ _ _ rfl ((hown.alloc _).alloc _) ⟨wr.heap.size + 1, 0, none⟩ 1 1 [.int .i64 qp, .bool false] rfl rfl (HNL.out _ qp false) (oneL qp false) (by unfold maxLen; omega) (by omega) (HBS.out _ _) ?_; intro v1 w1 hown1 hgrow1 _hn1; clear _hn1; have hF1 := fr_app (W := wr.alloc (.cells #[.int .i64 qp, .bool false, .int .i64 qu, .int .i64 2] 49)) (HF.out.alloc _) hgrow1 (hown.alloc _) HZ.out; have hrst1 := row_other (hrst.alloc _) (hown.alloc _) (by decide) hgrow1; have hBL := (Blk.new wr 49 [.int .i64 qp, .bool false, .int .i64 qu, .int .i64 2]).fr (((Fr.refl (fun b => Value.ownBlock _ = some b) _).alloc _).grown hgrow1 (fun b h => .inl h)) (fun h => by have := (hown.lt _ h).2; omega); obtain ⟨l0, l1, l3⟩ := And.intro (hBL.cell 0) (And.intro (hBL.cell 1) (hBL.cell 3)); have hs1 := hF1.size; have HBS1 := Lib.hid (show ∀ o : Obj, w.heap.size ≤ (w1.alloc o).heap.size from fun o => by rw [World.size_alloc]; omega); have HF2 := Lib.hid hF1; clear hgrow1 hBL) | (at_builtin; refine wpList_append_own _ rfl (.tmp 28) (.tmp 35) 31 rfl w.heap.size 38 j0 _ 2 16 Try.underlying31 hj hy0 hy1 hy2 rfl (by decide) _ _ _ rfl ((hown.alloc _).alloc _) ⟨wr.heap.size + 1, 0, none⟩ 1 1 [.int .i64 qp, .bool false] rfl rfl (HNL.out _ qp false) (oneL qp false) (by unfold maxLen; omega) (by omega) (HBS.out _ _) ?_; intro v1 w1 hown1 hgrow1 _hn1; clear _hn1; have hF1 := fr_app (W := wr.alloc (.cells #[.int .i64 qp, .bool true, .int .i64 qu, .int .i64 2] 49)) (HF.out.alloc _) hgrow1 (hown.alloc _) HZ.out; have hrst1 := row_other (hrst.alloc _) (hown.alloc _) (by decide) hgrow1; have hBL := (Blk.new wr 49 [.int .i64 qp, .bool true, .int .i64 qu, .int .i64 2]).fr (((Fr.refl (fun b => Value.ownBlock _ = some b) _).alloc _).grown hgrow1 (fun b h => .inl h)) (fun h => by have := (hown.lt _ h).2; omega); obtain ⟨l0, l1, l3⟩ := And.intro (hBL.cell 0) (And.intro (hBL.cell 1) (hBL.cell 3)); have hs1 := hF1.size; have HBS1 := Lib.hid (show ∀ o : Obj, w.heap.size ≤ (w1.alloc o).heap.size from fun o => by rw [World.size_alloc]; omega); have HF2 := Lib.hid hF1; clear hgrow1 hBL))
          go_wp2_with fail
          go_roundg (ls.length - (k + 1))
          case measure => omega
          case rel => exact ⟨k + 1, rfl, by omega, rfl, by rw [HS1.out]; simpa [outOf, letcells_append, letcells] using hown1, by rw [HS2.out]; simpa [restOf] using hrst1, hF1⟩
    · have e0 : k = ls.length := by omega
      have hltz : (ls.length : Int) ≤ (k : Int) := by omega
      rw [e0, List.take_length] at hown hrst
      clear e0
      have z0 := (HB.out.fr HF.out (fun h => h)).frozen 0
      have HR := Lib.hid hrst
      rcases hrst.2 with ⟨rfl, hz⟩ | ⟨g, cap', cur, rfl, hr⟩
      all_goals
        first | clear hz | clear hr
        clear hrst
        go_wp2_with fail
        go_ret
        have := ref_end hw0 hblt HB.out HF.out HR.out rfl
        exact ⟨_, rfl, ownsRow_fr hown (S := fun b => b = ub) (fun b hb => by omega) ((Fr.refl (fun b => b = ub) wr).setCell (p := ⟨ub, 0, none⟩) (.inl rfl) _), this.1, this.2.mono (fun _ _ h => .inl h)⟩
end

end Go.Proofs.Ytfgkhlbmmffajaa
