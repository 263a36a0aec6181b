/- LatchStrong: the walk. -/
import Derived.Test.YtfgkhlbmmffajaaLatchH
namespace Go.Proofs.Ytfgkhlbmmffajaa
open Go.Maps Go.RowKit

def okBool (_ : Nat) (v : Value) : Prop := ∃ b, v = .bool b

theorem one_look (p : Int) (k : Lk) : look p [(p, k)] = some k := by simp [look]
theorem one_ins (p : Int) (k k' : Lk) : ins p k' [(p, k)] = [(p, k')] := by simp [ins]

theorem strong_grant (p : Int) : lGrant p true [] = [(p, ⟨true, 0, 0⟩)] := rfl
theorem strong_use (p : Int) : lUse p true [(p, ⟨true, 0, 0⟩)] = (0, [(p, ⟨true, 2, 0⟩)]) := by
  unfold lUse; rw [one_look]; simp [one_ins]
theorem strong_call (p w : Int) (c : Bool) : lCall p c [(p, ⟨true, 2, w⟩)] = (3, [(p, ⟨true, 2, if c then 2 else max w 1⟩)]) := by
  unfold lCall; rw [one_look]; cases c <;> simp [one_ins]
theorem strong_inv {p w : Int} (hp : in64 p) (hw : w = 0 ∨ w = 1 ∨ w = 2) : LInv [(p, ⟨true, 2, w⟩)] :=
  ⟨by simp [Srt], by intro q hq; simp at hq; rw [hq]; exact hp, by intro q hq; simp at hq; rw [hq]; exact ⟨.inr (.inr rfl), hw⟩⟩
theorem strong_has (p w : Int) (b : Bool) : lHas p b [(p, ⟨true, 2, w⟩)] = true := by unfold lHas; rw [one_look]; rfl

set_option maxRecDepth 100000 in
set_option maxHeartbeats 4000000 in
theorem strong_calls (pg : Int) (A : Option Addr) (n c : Nat) (w : World) (hpg : in64 pg) (_hn : n ≤ maxLen) (hA : CellsAt w w.heap.size 1 A n okBool) :
    Calls Try.prog 4 #[.int .i64 pg, .slice A n c] w fun e w' => e = .returned (.bool true) ∧ Below w.heap.size w w' := by
  have hnil := Lib.hid linv_nil
  go_enter Try.func4, Try.ntmps4
  go_wp2_with fail
  refine (awake_calls _).mono ?_
  rintro e w1 ⟨rfl, hF1⟩
  go_wp2_with fail
  refine (HasL.new_ w w1 (fun _ => False) (fun _ h => h.elim) hF1).mono ?_
  rintro e w2 ⟨lb, mb, rfl, hH2, -⟩
  clear hF1
  go_wp2_with fail
  refine (hH2.grant (by simp) pg hpg true).mono ?_
  rintro e w3 ⟨rfl, hH3, -⟩
  rw [strong_grant] at hH3
  have hI3 : LInv [(pg, ⟨true, 0, 0⟩)] := lGrant_inv hnil.out hpg true
  clear hH2
  go_wp2_with fail
  refine (hH3.use hI3 pg hpg true).mono ?_
  rintro e w4 ⟨rfl, hH4, -⟩
  rw [strong_use] at hH4 ⊢
  dsimp only at hH4 ⊢
  clear hH3 hI3
  go_wp2_with fail
  go_loopg [6, 7, 8] 20 (fun g al nn i wr => ∃ (k : Nat) (all : Bool) (wt : Int), i = .int .i64 k ∧ nn = .int .i64 k ∧ al = .bool all ∧ k ≤ 20 ∧ g = 20 - k ∧ (wt = 0 ∨ wt = 1 ∨ wt = 2) ∧ (k = 0 → wt = 0 ∧ all = false) ∧ (0 < k → wt = if all then 2 else 1) ∧ HasL w (fun _ => False) lb mb [(pg, ⟨true, 2, wt⟩)] wr)
  case atStart => exact ⟨0, false, 0, rfl, rfl, rfl, by omega, by omega, .inl rfl, fun _ => ⟨rfl, rfl⟩, fun h => by omega, hH4⟩
  case round =>
    obtain ⟨k, all, wt, rfl, rfl, rfl, hk2, rfl, hwt, hw0, hw1, hH⟩ := hrel
    clear hH4
    have HW0 := Lib.hid hw0
    have HW1 := Lib.hid hw1
    have HWT := Lib.hid hwt
    clear hw0 hw1
    by_cases hlt : k < n ∧ k < 20
    · obtain ⟨hlt, hlt2⟩ := hlt
      obtain ⟨b, off, rfl, hbb, hcells⟩ := hA k hlt
      obtain ⟨y0, ⟨cb, rfl⟩, c0⟩ := hcells 0 (by omega)
      rw [Nat.add_zero, Nat.mul_one] at c0
      have CW := Lib.hid c0
      have c0 := (hH.fr.cell (p := ⟨b, off + k, none⟩) hbb (fun h => h)).trans CW.out
      have hltz : (k : Int) < (n : Int) := by omega
      have q1 : (0 : Int) ≤ (k : Int) := by omega
      have hcall := hH.call (strong_inv hpg hwt) pg hpg cb
      rw [strong_call] at hcall
      dsimp only at hcall
      clear hcells hH hwt
      have hnext : ∀ wt' : Int, wt' = (if cb then 2 else max wt 1) → (wt' = 0 ∨ wt' = 1 ∨ wt' = 2) ∧ wt' = if (all || cb) then 2 else 1 := by
        rintro wt' rfl
        have h0 := HWT.out
        by_cases hk0 : k = 0
        · obtain ⟨rfl, rfl⟩ := HW0.out hk0
          cases cb <;> simp <;> try omega
        · have h1 := HW1.out (by omega)
          cases cb <;> cases all <;> simp at h1 ⊢ <;> omega
      obtain ⟨wt', hwt'⟩ : ∃ x : Int, x = (if cb then 2 else max wt 1) := ⟨_, rfl⟩
      have HNX := Lib.hid (hnext wt' hwt')
      rw [← hwt'] at hcall
      clear hnext hwt'
      cases all <;> cases cb
      all_goals
        as_aux_lemma =>
          go_wp2_with fail
          refine hcall.mono ?_
          rintro e w5 ⟨rfl, hH5, -⟩
          have c0' := (hH5.fr.cell (p := ⟨b, off + k, none⟩) hbb (fun h => h)).trans CW.out
          have hhas := hH5.has pg hpg true
          rw [strong_has] at hhas
          clear c0 hcall
          go_wp2_with (go_at_call 10; refine hhas.mono ?_; clear hhas; rintro e w' ⟨rfl, rfl⟩)
          go_roundg (20 - (k + 1))
          case measure => omega
          case rel => exact ⟨k + 1, _, wt', by go_num, by go_num, rfl, by omega, rfl, HNX.out.1, fun h => by omega, fun _ => by simpa using HNX.out.2, hH5⟩
    · have hend := hH.end_ (strong_inv hpg hwt) (by simp)
      unfold EndP at hend
      have hpp : (pg == pg) = true := by simp
      by_cases hk0 : k = 0
      · obtain ⟨rfl, rfl⟩ := HW0.out hk0
        subst hk0
        have e1 : endOuts [(pg, (⟨true, 2, 0⟩ : Lk))] = [] := by simp [endOuts, outOf]
        have e2 : endRest [(pg, (⟨true, 2, 0⟩ : Lk))] = [(pg, ⟨true, 0, 0⟩)] := by simp [endRest, restOf]
        rw [e1, e2] at hend
        clear e1 e2 hH
        have hlt1 : ¬ 0 < n := by omega
        have hltz : ¬ (0 : Int) < (n : Int) := by omega
        as_aux_lemma =>
          go_wp2_with fail
          refine hend.mono ?_
          rintro e w5 ⟨v, rfl, ⟨A', cap, rfl, -⟩, hH5, -⟩
          have hhas := hH5.has pg hpg true
          have hh : lHas pg true [(pg, (⟨true, 0, 0⟩ : Lk))] = true := by unfold lHas; rw [one_look]; rfl
          rw [hh] at hhas
          clear hend hh
          simp only [List.length_nil]
          go_wp2_with (go_at_call 10; refine hhas.mono ?_; clear hhas; rintro e w' ⟨rfl, rfl⟩)
          go_ret
          exact ⟨rfl, hH5.below⟩
      · have hw := HW1.out (by omega)
        have hkn : ((k : Int) == 0) = false := by simpa using hk0
        by_cases hlt1 : k < n
        all_goals
          have hlt2 : ¬ k < n ∨ ¬ k < 20 := by omega
          cases all
        · replace hw : wt = 1 := by simpa using hw
          subst hw
          have e1 : endOuts [(pg, (⟨true, 2, 1⟩ : Lk))] = [(pg, true)] := by simp [endOuts, outOf]
          have e2 : endRest [(pg, (⟨true, 2, 1⟩ : Lk))] = [(pg, (⟨false, 0, 0⟩ : Lk))] := by simp [endRest, restOf]
          rw [e1, e2] at hend
          clear e1 e2 hH hlt hk0
          as_aux_lemma =>
            go_wp2_with fail
            refine hend.mono ?_
            rintro e w5 ⟨v, rfl, ⟨A', cap, rfl, hc⟩, hH5, -⟩
            obtain ⟨g, rfl, _, _, hg⟩ := hc 0 (pg, true) rfl
            obtain ⟨d0, d1⟩ := hg w5 rfl
            have hhas1 := hH5.has pg hpg false
            have hhas2 := hH5.has pg hpg true
            have h1 : lHas pg false [(pg, (⟨false, 0, 0⟩ : Lk))] = true := by simp [lHas, look]
            have h2 : lHas pg true [(pg, (⟨false, 0, 0⟩ : Lk))] = false := by simp [lHas, look]
            rw [h1] at hhas1
            rw [h2] at hhas2
            clear hend h1 h2 hc hg
            simp only [List.length_cons, List.length_nil, Nat.zero_add]
            go_wp2_with (first | (go_at_call 10; with_reducible refine hhas1.mono ?_; clear hhas1; rintro e w' ⟨rfl, rfl⟩) | (go_at_call 10; with_reducible refine hhas2.mono ?_; clear hhas2; rintro e w' ⟨rfl, rfl⟩))
            go_ret
            exact ⟨rfl, hH5.below⟩
        · replace hw : wt = 2 := by simpa using hw
          subst hw
          have e1 : endOuts [(pg, (⟨true, 2, 2⟩ : Lk))] = [(pg, false)] := by simp [endOuts, outOf]
          have e2 : endRest [(pg, (⟨true, 2, 2⟩ : Lk))] = [] := by simp [endRest, restOf]
          rw [e1, e2] at hend
          clear e1 e2 hH hlt hk0
          as_aux_lemma =>
            go_wp2_with fail
            refine hend.mono ?_
            rintro e w5 ⟨v, rfl, ⟨A', cap, rfl, hc⟩, hH5, -⟩
            obtain ⟨g, rfl, _, _, hg⟩ := hc 0 (pg, false) rfl
            obtain ⟨d0, d1⟩ := hg w5 rfl
            have hhas1 := hH5.has pg hpg false
            have hhas2 := hH5.has pg hpg true
            have h1 : lHas pg false [] = false := by simp [lHas, look]
            have h2 : lHas pg true [] = false := by simp [lHas, look]
            rw [h1] at hhas1
            rw [h2] at hhas2
            clear hend h1 h2 hc hg
            simp only [List.length_cons, List.length_nil, Nat.zero_add]
            go_wp2_with (first | (go_at_call 10; with_reducible refine hhas1.mono ?_; clear hhas1; rintro e w' ⟨rfl, rfl⟩) | (go_at_call 10; with_reducible refine hhas2.mono ?_; clear hhas2; rintro e w' ⟨rfl, rfl⟩))
            go_ret
            exact ⟨rfl, hH5.below⟩
        · replace hw : wt = 1 := by simpa using hw
          subst hw
          have e1 : endOuts [(pg, (⟨true, 2, 1⟩ : Lk))] = [(pg, true)] := by simp [endOuts, outOf]
          have e2 : endRest [(pg, (⟨true, 2, 1⟩ : Lk))] = [(pg, (⟨false, 0, 0⟩ : Lk))] := by simp [endRest, restOf]
          rw [e1, e2] at hend
          clear e1 e2 hH hlt hk0
          as_aux_lemma =>
            go_wp2_with fail
            refine hend.mono ?_
            rintro e w5 ⟨v, rfl, ⟨A', cap, rfl, hc⟩, hH5, -⟩
            obtain ⟨g, rfl, _, _, hg⟩ := hc 0 (pg, true) rfl
            obtain ⟨d0, d1⟩ := hg w5 rfl
            have hhas1 := hH5.has pg hpg false
            have hhas2 := hH5.has pg hpg true
            have h1 : lHas pg false [(pg, (⟨false, 0, 0⟩ : Lk))] = true := by simp [lHas, look]
            have h2 : lHas pg true [(pg, (⟨false, 0, 0⟩ : Lk))] = false := by simp [lHas, look]
            rw [h1] at hhas1
            rw [h2] at hhas2
            clear hend h1 h2 hc hg
            simp only [List.length_cons, List.length_nil, Nat.zero_add]
            go_wp2_with (first | (go_at_call 10; with_reducible refine hhas1.mono ?_; clear hhas1; rintro e w' ⟨rfl, rfl⟩) | (go_at_call 10; with_reducible refine hhas2.mono ?_; clear hhas2; rintro e w' ⟨rfl, rfl⟩))
            go_ret
            exact ⟨rfl, hH5.below⟩
        · replace hw : wt = 2 := by simpa using hw
          subst hw
          have e1 : endOuts [(pg, (⟨true, 2, 2⟩ : Lk))] = [(pg, false)] := by simp [endOuts, outOf]
          have e2 : endRest [(pg, (⟨true, 2, 2⟩ : Lk))] = [] := by simp [endRest, restOf]
          rw [e1, e2] at hend
          clear e1 e2 hH hlt hk0
          as_aux_lemma =>
            go_wp2_with fail
            refine hend.mono ?_
            rintro e w5 ⟨v, rfl, ⟨A', cap, rfl, hc⟩, hH5, -⟩
            obtain ⟨g, rfl, _, _, hg⟩ := hc 0 (pg, false) rfl
            obtain ⟨d0, d1⟩ := hg w5 rfl
            have hhas1 := hH5.has pg hpg false
            have hhas2 := hH5.has pg hpg true
            have h1 : lHas pg false [] = false := by simp [lHas, look]
            have h2 : lHas pg true [] = false := by simp [lHas, look]
            rw [h1] at hhas1
            rw [h2] at hhas2
            clear hend h1 h2 hc hg
            simp only [List.length_cons, List.length_nil, Nat.zero_add]
            go_wp2_with (first | (go_at_call 10; with_reducible refine hhas1.mono ?_; clear hhas1; rintro e w' ⟨rfl, rfl⟩) | (go_at_call 10; with_reducible refine hhas2.mono ?_; clear hhas2; rintro e w' ⟨rfl, rfl⟩))
            go_ret
            exact ⟨rfl, hH5.below⟩

end Go.Proofs.Ytfgkhlbmmffajaa
