/- RingSecond: the walk of the law. -/
import Derived.Test.YtbiaompkmabfjaaRingHI
namespace Go.Proofs.Ytbiaompkmabfjaa
open Go.Maps Go.RowKit

theorem mod_bd (x : Int) (m : Int) (hm : 0 < m) (hm' : m < 9223372036854775808) : 0 ≤ wrap64 ((IntKind.u64.wrap x).tmod m) ∧ wrap64 ((IntKind.u64.wrap x).tmod m) < m := by
  have h0 : 0 ≤ IntKind.u64.wrap x := by
    simp only [IntKind.wrap, IntKind.signed, IntKind.bits]
    have := Int.emod_nonneg x (show (2 ^ 64 : Int) ≠ 0 by decide)
    simpa using this
  rw [Int.tmod_eq_emod_of_nonneg h0]
  have h1 := Int.emod_nonneg (IntKind.u64.wrap x) (show m ≠ 0 by omega)
  have h2 := Int.emod_lt_of_pos (IntKind.u64.wrap x) hm
  unfold wrap64
  omega

/-- so many have been put -/
def putSo (F c : Nat) : RS Int := if c ≤ F then fill F c else second F

theorem putSo_step {F c : Nat} (hF : 0 < F) (h : c ≤ F) : ∃ o, rPut (c : Int) (c : Int) (putSo F c) = (o, true, putSo F (c + 1)) ∧ o.isSome = decide (c = F) := by
  unfold putSo
  rw [if_pos h]
  by_cases e : c = F
  · subst e
    rw [if_neg (by omega)]
    exact ⟨_, fill_leave hF, by simp⟩
  · rw [if_pos (by omega)]
    exact ⟨_, fill_put (by omega), by simp [e]⟩

def outGone (o : Option (Fm Int)) : List Value := match o with
  | none => [.int .i64 0, .int .i64 0, .bool false]
  | some f => [.int .i64 f.key, .int .i64 f.val, .bool true]

theorem rGet_at {V : Type} {k : Int} {st : RS V} {i : Nat} {f : Fm V} (h1 : rIdx k st.fs = some i) (h2 : st.fs[i]? = some (some f)) : rGet k st = (some f.val, st.up i (some { f with fresh := true })) := by
  unfold rGet
  rw [rAt_some.2 ⟨h1, h2⟩]

set_option maxRecDepth 100000 in
set_option maxHeartbeats 1000000 in
theorem second_calls (frames ask : Int) (w : World) (_h0 : in64 frames) (_h1 : in64 ask) : Calls Try.prog 3 #[.int .i64 frames, .int .i64 ask] w fun e w' => e = .returned (.bool true) ∧ Below w.heap.size w w' := by
  have hR := mod_bd frames 60 (by omega) (by omega)
  go_enter Try.func3, Try.ntmps3
  go_wp2_with fail
  refine (awake_calls _).mono ?_
  rintro e w1 ⟨rfl, hF1⟩
  go_wp2_with fail
  obtain ⟨hR0, hR1⟩ := hR
  obtain ⟨F, hF⟩ : ∃ F : Nat, 3 + wrap64 ((IntKind.u64.wrap frames).tmod 60) = (F : Int) := ⟨(3 + wrap64 ((IntKind.u64.wrap frames).tmod 60)).toNat, by omega⟩
  rw [hF]
  have h3 : 3 ≤ F := by omega
  have h62 : F ≤ 62 := by omega
  clear hF hR0 hR1
  refine (HasI.new_ (F : Int) (by unfold in64; omega) w w1 (fun _ => False) (fun _ h => h.elim) hF1).mono ?_
  rintro e w2 ⟨rb, fb, mb, rfl, hH, _⟩
  have hN : newN (F : Int) = F := by unfold newN; omega
  rw [hN, ← fill_zero] at hH
  have hH2 : HasI w (fun _ => False) rb fb mb (putSo F 0) 0 w2 := by
    unfold putSo; rw [if_pos (by omega)]; exact hH
  clear hH hN hF1
  go_wp2_with fail
  go_loopg [6] (F + 1) (fun g i wr => ∃ (c : Nat), i = .int .i64 c ∧ c ≤ F + 1 ∧ g = F + 1 - c ∧ HasI w (fun _ => False) rb fb mb (putSo F c) 0 wr)
  case atStart => exact ⟨0, rfl, by omega, by omega, hH2⟩
  case round =>
    obtain ⟨c, rfl, hc, rfl, hH⟩ := hrel
    by_cases hlt : c ≤ F
    · have hltz : (c : Int) ≤ (F : Int) := by omega
      obtain ⟨o, hput, hog⟩ := putSo_step (by omega) hlt
      go_wp2_with fail
      refine (hH.put (by omega) (c : Int) (by unfold in64; omega) (c : Int) hput).mono ?_
      rintro e w3 ⟨rfl, hH3, _⟩
      clear hput hH
      cases o with
      | none =>
        have hb : ((c : Int) == (F : Int)) = false := by
          have : c ≠ F := fun e => by rw [e] at hog; simp at hog
          rw [beq_eq_false_iff_ne]; omega
        simp only [outVI]
        go_wp2_with fail
        go_roundg (F + 1 - (c + 1))
        case measure => omega
        case rel => exact ⟨c + 1, rfl, by omega, rfl, (hH3.alloc _).sub (fun _ h => h.elim)⟩
      | some f =>
        have hb : ((c : Int) == (F : Int)) = true := by
          have : c = F := by simpa using hog.symm
          rw [beq_iff_eq]; omega
        simp only [outVI]
        go_wp2_with fail
        go_roundg (F + 1 - (c + 1))
        case measure => omega
        case rel => exact ⟨c + 1, rfl, by omega, rfl, (hH3.alloc _).sub (fun _ h => h.elim)⟩
    · have hltz : (F : Int) < (c : Int) := by omega
      have hK := mod_bd ask ((F : Int) - 1) (by omega) (by omega)
      have e1 : c = F + 1 := by omega
      subst e1
      rw [show putSo F (F + 1) = second F by unfold putSo; rw [if_neg (by omega)]] at hH
      go_wp2_with fail
      obtain ⟨hK0, hK1⟩ := hK
      obtain ⟨k, hk⟩ : ∃ k : Nat, 1 + wrap64 ((IntKind.u64.wrap ask).tmod ((F : Int) - 1)) = (k : Int) := ⟨(1 + wrap64 ((IntKind.u64.wrap ask).tmod ((F : Int) - 1))).toNat, by omega⟩
      rw [hk]
      have hk0 : 0 < k := by omega
      have hkF : k < F := by omega
      clear hK0 hK1 hk
      obtain ⟨s1, s2⟩ := second_idx hk0 hkF
      refine (hH.get (k : Int) (by unfold in64; omega) (rGet_at s1 s2)).mono ?_
      rintro e w3 ⟨rfl, hH3, _⟩
      rw [show (second F).up k (some { nth k false with fresh := true }) = asked F k from rfl] at hH3
      simp only [valOI, Option.isSome_some]
      go_wp2_with fail
      obtain ⟨o, st', i, f, hput, hko, g1, g2⟩ := asked_put h3 h62 hkF hH3.inv
      refine (hH3.put (by omega) 1000 (by unfold in64; omega) 0 hput).mono ?_
      rintro e w4 ⟨rfl, hH4, _⟩
      simp only [outVI]
      go_wp2_with fail
      have hO := Blk.new w4 27 [.int .i64 o.key, Value.int .i64 o.val, .bool true]
      have hH5 := hH4.alloc (.cells #[.int .i64 o.key, Value.int .i64 o.val, .bool true] 27)
      refine (hH5.get (k : Int) (by unfold in64; omega) (rGet_at g1 g2)).mono ?_
      rintro e w5 ⟨rfl, hH6, hF6⟩
      simp only [valOI, Option.isSome_some]
      have hO6 := hO.fr hF6 (fun h => h (.inr (.inr rfl)))
      obtain ⟨c0, c1, c2, _⟩ := out_cellsI hO6
      have hb : (o.key == (k : Int)) = false := by rw [beq_eq_false_iff_ne]; exact hko
      clear hO hO6
      go_wp2_with fail
      have hbn : (o.key != (k : Int)) = true := by rw [bne, hb]; rfl
      rw [hbn]
      go_ret
      exact ⟨rfl, hH6.below⟩

end Go.Proofs.Ytbiaompkmabfjaa
