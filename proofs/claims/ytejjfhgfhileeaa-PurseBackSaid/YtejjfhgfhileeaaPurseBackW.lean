/- PurseBack: the walk of the law. -/
import Derived.Test.YtejjfhgfhileeaaPurseAwake
import Derived.Deep.QuietTactic
import Derived.BigQuiet
import Derived.Deep.RegionWith
import Derived.Deep.LoopGhost
import Derived.Deep.DeepCutAuto
import Derived.StillTailTactics
import Derived.Lib.Hide
namespace Go.Proofs.Ytejjfhgfhileeaa
open Go.Maps Go.RowKit

theorem back_plain {q : PS} (h : PInv q) {who n room : Int} (hc : pCan q n room = true) :
    pOf (pAsk q who n room) who = pOf q who + n ∧ (pAsk q who n room).s = q.s + n ∧ pTook (pAsk q who n room) who n = n ∧
    (pTake (pAsk q who n room) who n).s = q.s ∧ pOf (pTake (pAsk q who n room) who n) who = pOf q who := by
  have hb := pOf_bd h who
  have h1 : pOf (pAsk q who n room) who = pOf q who + n := by
    unfold pAsk; rw [if_pos hc]
    show (look who (ins who (pOf q who + n) q.l)).getD 0 = _
    rw [look_ins_same]; rfl
  have h2 : (pAsk q who n room).s = q.s + n := by unfold pAsk; rw [if_pos hc]
  have hc' := hc
  simp only [pCan, decide_eq_true_eq] at hc'
  have h3 : pTook (pAsk q who n room) who n = n := by unfold pTook; rw [h1]; omega
  refine ⟨h1, h2, h3, ?_, ?_⟩
  · unfold pTake; rw [h3, if_neg (by omega)]
    show (pAsk q who n room).s - n = _
    omega
  · unfold pTake; rw [h3, if_neg (by omega)]
    show (look who (if pOf (pAsk q who n room) who - n = 0 then _ else _)).getD 0 = _
    split
    · rename_i e
      rw [look_del, if_pos rfl]
      show 0 = _
      omega
    · rw [look_ins_same]
      show pOf (pAsk q who n room) who - n = _
      omega

set_option maxHeartbeats 1000000 in
set_option maxRecDepth 100000 in
theorem back_calls (A : Option Addr) (n c : Nat) (f : Nat → Nat → Int) (x0 who m room : Int) (w : World) (hn : n ≤ 9223372036854775807) (hA : ActsAt w w.heap.size 4 A n f) (hw : in64 who) (hm : in64 m) (hr : in64 room) :
    Calls Try.prog 4 #[.slice A n c, .agg #[.int .i64 x0, .int .i64 who, .int .i64 m, .int .i64 room]] w fun e w' => e = .returned (.bool true) ∧ Below w.heap.size w w' := by
  go_enter Try.func4, Try.ntmps4
  go_wp2_with fail
  refine (awake_calls _).mono ?_
  rintro e w1 ⟨rfl, hF1⟩
  have g1 := hF1.cell (p := ⟨w.heap.size, 1, none⟩) (by simp) (by simp)
  have g2 := hF1.cell (p := ⟨w.heap.size, 2, none⟩) (by simp) (by simp)
  have g3 := hF1.cell (p := ⟨w.heap.size, 3, none⟩) (by simp) (by simp)
  go_wp2_with fail
  refine (New_calls _).mono ?_
  rintro e w2 ⟨rfl, hP2, hF2⟩
  go_wp2_with fail
  have hbl : Below w.heap.size w w2 := (((Below.refl _ _).alloc (Nat.le_refl _) _).trans (hF1.to_below.mono (by simp))).trans (hF2.to_below.mono (by have := hF1.size; simp at this; omega))
  have hsz := hF1.size
  simp only [World.size_alloc] at hsz
  have hpb : w.heap.size ≤ w1.heap.size + 1 := by omega
  have hmb : w.heap.size ≤ w1.heap.size := by omega
  clear g1 g2 g3 hF2 hF1 hsz
  generalize w1.heap.size + 1 = pb at hpb hP2 ⊢
  generalize w1.heap.size = mb at hmb hP2 ⊢
  go_loopg [9] 200 (fun g i wr => ∃ (k : Nat) (q : PS), i = .int .i64 k ∧ k ≤ n ∧ k ≤ 200 ∧ g = 200 - k ∧ PInv q ∧ q.l.length ≤ k ∧ IsPurse wr pb mb q ∧ Below w.heap.size w wr)
  case atStart => exact ⟨0, _, rfl, by omega, by omega, rfl, pInv_nil, by simp, hP2, hbl⟩
  case round =>
    obtain ⟨k, q, rfl, hk1, hk2, rfl, hI, hlen, hP, hB⟩ := hrel
    by_cases hlt : k < n ∧ k < 200
    · obtain ⟨hlt, hlt2⟩ := hlt
      obtain ⟨b, off, rfl, hbb, hcells⟩ := hA k hlt
      obtain ⟨i0, c0⟩ := hcells 0 (by omega)
      obtain ⟨i1, c1⟩ := hcells 1 (by omega)
      obtain ⟨i2, c2⟩ := hcells 2 (by omega)
      obtain ⟨i3, c3⟩ := hcells 3 (by omega)
      rw [← hB.cell (p := ⟨b, _, none⟩) hbb] at c0 c1 c2 c3
      rw [Nat.add_zero] at c0
      have hltz : (k : Int) < (n : Int) := by omega
      by_cases hk : f k 0 = 1
      · have hk' : (f k 0 == 1) = true := by simpa using hk
        clear hk
        go_wp2_with fail
        go_still_tail 16, (by kernel_rfl)
        go_wp2_with fail
        refine (Ask_calls pb mb q wr.drew hP hI (f k 1) (f k 2) (f k 3) i1 i3 (by unfold maxLen; omega)).mono ?_
        rintro e wa ⟨rfl, hPa, hFa⟩
        have hBa : Below w.heap.size w wa := hB.drew.trans (hFa.below (B := w.heap.size) (by intro x hx; rcases hx with rfl | rfl <;> assumption) hB.size)
        clear c0 c1 c2 c3 hP hB
        go_wp2_with fail
        go_roundg (200 - (k + 1))
        case measure => omega
        case rel => exact ⟨k + 1, pAsk q (f k 1) (f k 2) (f k 3), rfl, by omega, by omega, rfl, pAsk_inv hI i1 (by unfold in64 at i3; omega), pAsk_len _ _ _ hlen, hPa, hBa⟩
      · have hk' : (f k 0 == 1) = false := by simpa using hk
        clear hk
        go_wp2_with fail
        go_still_tail 11, (by kernel_rfl)
        go_wp2_with fail
        refine (Take_calls pb mb q wr.drew hP hI (f k 1) (f k 2) i1 (by unfold maxLen; omega)).mono ?_
        rintro e wa ⟨rfl, hPa, hFa⟩
        have hBa : Below w.heap.size w wa := hB.drew.trans (hFa.below (B := w.heap.size) (by intro x hx; rcases hx with rfl | rfl <;> assumption) hB.size)
        clear c0 c1 c2 c3 hP hB
        go_wp2_with fail
        go_roundg (200 - (k + 1))
        case measure => omega
        case rel => exact ⟨k + 1, pTake q (f k 1) (f k 2), rfl, by omega, by omega, rfl, pTake_inv hI i1 _, Nat.le_trans (pTake_len hI.srt _ _ pTook_some) (by omega), hPa, hBa⟩
    · have hml : q.l.length < maxLen := by unfold maxLen; omega
      have hw' := hw
      have hm' := hm
      have hr' := hr
      unfold in64 at hw' hm' hr'
      have hb := pOf_bd hI who
      have htop := hI.top
      obtain ⟨hb1, hb2⟩ := hb
      by_cases hlt1 : k < n
      all_goals
        have hlt2 : ¬ k < n ∨ ¬ k < 200 := by omega
        go_wp2_with fail
        refine (Sum_calls pb mb q _ hP).mono ?_
        rintro e w' ⟨rfl, rfl⟩
        go_wp2_with fail
        refine (Of_calls pb mb q _ hP who hw).mono ?_
        rintro e w' ⟨rfl, rfl⟩
        go_wp2_with fail
        cases hc : pCan q m room with
        | true =>
          refine (Ask_calls pb mb q _ hP hI who m room hw hr hml).mono ?_
          rintro e wa ⟨rfl, hPa, hFa⟩
          rw [hc]
          obtain ⟨e1, e2, e3, e4, e5⟩ := back_plain hI (who := who) hc
          have hIa := pAsk_inv hI hw (n := m) (room := room) hr'.2
          have hla : (pAsk q who m room).l.length < maxLen := by have := pAsk_len who m room hlen; unfold maxLen; omega
          simp only [pCan, decide_eq_true_eq] at hc
          obtain ⟨hc1, hc2, hc3, hc4⟩ := hc
          go_wp2_with fail
          refine (Of_calls pb mb _ _ hPa who hw).mono ?_
          rintro e w' ⟨rfl, rfl⟩
          rw [e1]
          have z1 : pOf q who + m - m = pOf q who := by omega
          have z2 : q.s + m - m = q.s := by omega
          have z3 : (pOf q who != pOf q who) = false := by simp
          have z4 : (q.s != q.s) = false := by simp
          have z5 : decide (room - m < q.s) = false := by simp; omega
          have z6 : (m != m) = false := by simp
          have z7 : (q.s == q.s) = true := by simp
          have z8 : (pOf q who == pOf q who) = true := by simp
          have hs0 : q.s + m ≤ 9223372036854775807 := by omega
          have ho0 : pOf q who + m ≤ 9223372036854775807 := by omega
          go_wp2_with fail
          refine (Sum_calls pb mb _ _ hPa).mono ?_
          rintro e w' ⟨rfl, rfl⟩
          rw [e2]
          go_wp2_with fail
          refine (Take_calls pb mb _ _ hPa hIa who m hw hla).mono ?_
          rintro e wb ⟨rfl, hPb, hFb⟩
          rw [e3]
          go_wp2_with fail
          refine (Sum_calls pb mb _ _ hPb).mono ?_
          rintro e w' ⟨rfl, rfl⟩
          rw [e4]
          go_wp2_with fail
          refine (Of_calls pb mb _ _ hPb who hw).mono ?_
          rintro e w' ⟨rfl, rfl⟩
          rw [e5]
          go_wp2_with fail
          refine (Ask_nil _ _ _ _).mono ?_
          rintro e w' ⟨rfl, rfl⟩
          go_wp2_with fail
          refine (Take_nil _ _).mono ?_
          rintro e w' ⟨rfl, rfl⟩
          go_wp2_with fail
          refine (Sum_nil _).mono ?_
          rintro e w' ⟨rfl, rfl⟩
          go_wp2_with fail
          refine (Of_nil _ _).mono ?_
          rintro e w' ⟨rfl, rfl⟩
          go_wp2_with fail
          go_ret
          exact ⟨rfl, (hB.trans (hFa.below (B := w.heap.size) (by intro x hx; rcases hx with rfl | rfl <;> assumption) hB.size)).trans (hFb.below (B := w.heap.size) (by intro x hx; rcases hx with rfl | rfl <;> assumption) (Nat.le_trans hB.size hFa.size))⟩
        | false =>
          refine (Ask_no pb mb q _ hP hI who m room hr hc).mono ?_
          rintro e w' ⟨rfl, rfl⟩
          have z7 : (q.s == q.s) = true := by simp
          have z8 : (pOf q who == pOf q who) = true := by simp
          go_wp2_with fail
          refine (Sum_calls pb mb _ _ hP).mono ?_
          rintro e w' ⟨rfl, rfl⟩
          go_wp2_with fail
          refine (Of_calls pb mb _ _ hP who hw).mono ?_
          rintro e w' ⟨rfl, rfl⟩
          go_wp2_with fail
          refine (Ask_nil _ _ _ _).mono ?_
          rintro e w' ⟨rfl, rfl⟩
          go_wp2_with fail
          refine (Take_nil _ _).mono ?_
          rintro e w' ⟨rfl, rfl⟩
          go_wp2_with fail
          refine (Sum_nil _).mono ?_
          rintro e w' ⟨rfl, rfl⟩
          go_wp2_with fail
          refine (Of_nil _ _).mono ?_
          rintro e w' ⟨rfl, rfl⟩
          go_wp2_with fail
          go_ret
          exact ⟨rfl, hB⟩

theorem back_walk (A : Option Addr) (n c : Nat) (x0 who m room : Int) (w : World) (hn : n ≤ maxLen) (hA : CellsAt w w.heap.size 4 A n okInts) (_h0 : in64 x0) (hw : in64 who) (hm : in64 m) (hr : in64 room) :
    Calls Try.prog 4 #[.slice A n c, .agg #[.int .i64 x0, .int .i64 who, .int .i64 m, .int .i64 room]] w fun e w' => e = .returned (.bool true) ∧ Below w.heap.size w w' := by
  obtain ⟨f, hf⟩ := acts_of_cells hA
  exact back_calls A n c f x0 who m room w hn hf hw hm hr

end Go.Proofs.Ytejjfhgfhileeaa
