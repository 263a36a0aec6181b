/- RingRoom: the plain laws and the walk. -/
import Derived.Test.YtbiaompkmabfjaaRingHI
import Derived.Test.YtbiaompkmabfjaaRingL
import Derived.Test.YtbiaompkmabfjaaRingSecondW
import Derived.Test.YtbiaompkmabfjaaInts
namespace Go.Proofs.Ytbiaompkmabfjaa
open Go.Maps Go.RowKit

/-- F frames, of which c are taken by the keys below c; the keys below h are pinned once. -/
structure Room (F c h : Nat) (st : RS Int) : Prop where
  len : st.fs.length = F
  cnt : rCnt st.fs = c
  at_ : ∀ k : Int, 0 ≤ k → k < c → ∃ v, rLook k st = some (v, if k < (h : Int) then 1 else 0)
  no : ∀ k : Int, k < 0 ∨ (c : Int) ≤ k → rLook k st = none

theorem room_new (F : Nat) : Room F 0 0 ⟨List.replicate F none, 0⟩ :=
  ⟨by simp, cnt_new F, fun k h0 h1 => by omega, fun k _ => rl_new F k⟩

theorem room_add {F c : Nat} {st : RS Int} {top : Int} (h : Room F c 0 st) (hI : RInv st top) (hc : c < F) (v : Int) : ∃ st', rPut (c : Int) v st = (none, true, st') ∧ Room F (c + 1) 0 st' := by
  obtain ⟨L, hl⟩ := put_law hI (c : Int) v
  rcases hp : rPut (c : Int) v st with ⟨o, ok, st'⟩
  rw [hp] at L hl
  simp only at L hl
  have hno := h.no c (.inr (Int.le_refl _))
  have h1 := h.len
  have h2 := h.cnt
  cases L with
  | have_ p _ g => rw [hno] at g; cases g
  | full g1 g2 => omega
  | leave _ _ g1 _ _ g2 => omega
  | vacant _ g1 g2 g3 g4 =>
    refine ⟨st', rfl, by omega, by omega, fun k k0 k1 => ?_, fun k hk => ?_⟩
    · rw [g2]
      by_cases e : k = c
      · rw [if_pos e]; exact ⟨v, by rw [if_neg (by omega)]⟩
      · rw [if_neg e]; exact h.at_ k k0 (by omega)
    · rw [g2, if_neg (by omega)]
      exact h.no k (by omega)

theorem room_put {F : Nat} {st : RS Int} {top : Int} (h : Room F F 0 st) (hI : RInv st top) {k : Int} (k0 : 0 ≤ k) (k1 : k < F) (v : Int) : ∃ st', rPut k v st = (none, true, st') ∧ Room F F 0 st' := by
  obtain ⟨L, hl⟩ := put_law hI k v
  rcases hp : rPut k v st with ⟨o, ok, st'⟩
  rw [hp] at L hl
  simp only at L hl
  obtain ⟨x, hx⟩ := h.at_ k k0 k1
  have h1 := h.len
  have h2 := h.cnt
  cases L with
  | full g1 => rw [hx] at g1; cases g1
  | leave _ _ g1 => rw [hx] at g1; cases g1
  | vacant _ g1 => rw [hx] at g1; cases g1
  | have_ p _ g1 g2 g3 =>
    rw [hx] at g1; cases g1
    refine ⟨st', rfl, by omega, by omega, fun k' e0 e1 => ?_, fun k' hk => ?_⟩
    · rw [g2]
      by_cases e : k' = k
      · rw [if_pos e]; exact ⟨v, by rw [e]⟩
      · rw [if_neg e]; exact h.at_ k' e0 e1
    · rw [g2, if_neg (by omega)]
      exact h.no k' hk

theorem room_pin {F i : Nat} {st : RS Int} {top : Int} (h : Room F F i st) (hI : RInv st top) (hi : i < F) : ∃ st', rPin (i : Int) st = (true, st') ∧ Room F F (i + 1) st' ∧ rPins (i : Int) st' = 1 := by
  obtain ⟨l1, l2, l3, l4⟩ := pin_law hI (i : Int)
  rcases hp : rPin (i : Int) st with ⟨o, st'⟩
  rw [hp] at l1 l2 l3 l4
  simp only at l1 l2 l3 l4
  obtain ⟨x, hx⟩ := h.at_ i (by omega) (by omega)
  rw [if_neg (by omega)] at hx
  rw [hx] at l1
  subst l1
  have h1 := h.len
  have h2 := h.cnt
  have hq : rLook (i : Int) st' = some (x, 1) := by rw [l2, if_pos rfl, hx]; rfl
  refine ⟨st', rfl, ⟨by omega, by omega, fun k e0 e1 => ?_, fun k hk => ?_⟩, by rw [pins_law, hq]⟩
  · by_cases e : k = i
    · subst e; exact ⟨x, by rw [hq, if_pos (by omega)]⟩
    · rw [l2, if_neg e]
      obtain ⟨y, hy⟩ := h.at_ k e0 (by omega)
      refine ⟨y, ?_⟩
      rw [hy]
      by_cases g : k < (i : Int)
      · rw [if_pos g, if_pos (by omega)]
      · rw [if_neg g, if_neg (by omega)]
  · rw [l2, if_neg (by omega)]
    exact h.no k hk

theorem room_full {F : Nat} {st : RS Int} {top : Int} (h : Room F F F st) (hF : F ≤ 64) (hI : RInv st top) : rPut 1000 0 st = (none, false, st) := by
  obtain ⟨L, hl⟩ := put_law hI 1000 0
  rcases hp : rPut 1000 0 st with ⟨o, ok, st'⟩
  rw [hp] at L hl
  simp only at L hl
  have hno := h.no 1000 (.inr (by omega))
  have h1 := h.len
  have h2 := h.cnt
  cases L with
  | have_ p _ g => rw [hno] at g; cases g
  | full g1 g2 => rfl
  | leave f _ g1 g2 _ g3 =>
    by_cases hk : 0 ≤ f.key ∧ f.key < F
    · obtain ⟨x, hx⟩ := h.at_ f.key hk.1 hk.2
      rw [if_pos hk.2, g2] at hx
      cases hx
    · rw [h.no f.key (by omega)] at g2
      cases g2
  | vacant _ g1 g2 g3 => omega

theorem room_leave {F h : Nat} {st : RS Int} {top : Int} (hR : Room F F h st) (hF : F ≤ 64) (hh : h < F) (hI : RInv st top) :
    ∃ o st', rPut 1000 0 st = (some o, true, st') ∧ (h : Int) ≤ o.key ∧ o.key < F ∧ rGet o.key st' = (none, st') ∧ rCnt st'.fs = F ∧ rPins 1000 st' = 0 := by
  obtain ⟨L, hl⟩ := put_law hI 1000 0
  rcases hp : rPut 1000 0 st with ⟨o, ok, st'⟩
  rw [hp] at L hl
  simp only at L hl
  have hno := hR.no 1000 (.inr (by omega))
  have h1 := hR.len
  have h2 := hR.cnt
  cases L with
  | have_ p _ g => rw [hno] at g; cases g
  | full g1 g2 g3 =>
    obtain ⟨x, hx⟩ := hR.at_ h (by omega) (by omega)
    rw [if_neg (by omega)] at hx
    exact absurd rfl (g3 _ _ hx)
  | vacant _ g1 g2 g3 => omega
  | leave f _ g1 g2 g3 g4 g5 =>
    have hk : 0 ≤ f.key ∧ f.key < F := by
      by_cases hk : 0 ≤ f.key ∧ f.key < F
      · exact hk
      · rw [hR.no f.key (by omega)] at g2; cases g2
    obtain ⟨x, hx⟩ := hR.at_ f.key hk.1 hk.2
    have hge : (h : Int) ≤ f.key := by
      by_cases g : f.key < (h : Int)
      · rw [if_pos g, g2] at hx; cases hx
      · omega
    have hn : rLook f.key st' = none := by rw [g3, if_neg (by omega), if_pos rfl]
    refine ⟨f, st', rfl, hge, hk.2, ?_, by omega, ?_⟩
    · unfold rGet
      rw [rAt_none.2 (rl_none.1 hn)]
    · rw [pins_law, g3, if_pos rfl]

set_option maxRecDepth 100000 in
set_option maxHeartbeats 1000000 in
theorem room_calls (A : Option Addr) (n c : Nat) (frames pinned : Int) (w : World) (_hn : n ≤ maxLen) (hA : CellsAt w w.heap.size 1 A n okInts) (_h0 : in64 frames) (_h1 : in64 pinned) :
    Calls Try.prog 4 #[.slice A n c, .int .i64 frames, .int .i64 pinned] w fun e w' => e = .returned (.bool true) ∧ Below w.heap.size w w' := by
  obtain ⟨f, hf⟩ := ints_of_cells hA
  have hR := mod_bd frames 64 (by omega) (by omega)
  go_enter Try.func4, Try.ntmps4
  go_wp2_with fail
  refine (awake_calls _).mono ?_
  rintro e w1 ⟨rfl, hF1⟩
  go_wp2_with fail
  obtain ⟨hR0, hR1⟩ := hR
  obtain ⟨F, hF⟩ : ∃ F : Nat, 1 + wrap64 ((IntKind.u64.wrap frames).tmod 64) = (F : Int) := ⟨(1 + wrap64 ((IntKind.u64.wrap frames).tmod 64)).toNat, by omega⟩
  rw [hF]
  have hF1' : 1 ≤ F := by omega
  have hF64 : F ≤ 64 := by omega
  clear hF hR0 hR1
  refine (HasI.new_ (F : Int) (by unfold in64; omega) w w1 (fun _ => False) (fun _ h => h.elim) hF1).mono ?_
  rintro e w2 ⟨rb, fb, mb, rfl, hH2, _⟩
  have hN : newN (F : Int) = F := by unfold newN; omega
  rw [hN] at hH2
  clear hN hF1
  go_wp2_with fail
  go_loopg [8] F (fun g i wr => ∃ (k : Nat) (st : RS Int), i = .int .i64 k ∧ k ≤ F ∧ g = F - k ∧ Room F k 0 st ∧ HasI w (fun _ => False) rb fb mb st 0 wr)
  case atStart => exact ⟨0, _, rfl, by omega, by omega, room_new F, hH2⟩
  case round =>
    obtain ⟨k, st, rfl, hc, rfl, hRm, hH⟩ := hrel
    by_cases hlt : k < F
    · have hltz : (k : Int) < (F : Int) := by omega
      obtain ⟨st', hput, hRm'⟩ := room_add hRm hH.inv hlt (k : Int)
      go_wp2_with fail
      refine (hH.put (by omega) (k : Int) (by unfold in64; omega) (k : Int) hput).mono ?_
      rintro e w3 ⟨rfl, hH3, _⟩
      clear hput hH
      simp only [outVI]
      go_wp2_with fail
      go_roundg (F - (k + 1))
      case measure => omega
      case rel => exact ⟨k + 1, st', rfl, by omega, rfl, hRm', (hH3.alloc _).sub (fun _ h => h.elim)⟩
    · have hltz : (F : Int) ≤ (k : Int) := by omega
      have e0 : F = k := by omega
      subst e0
      go_wp2_with fail
      clear hltz hlt hc
      go_loopg [11] 64 (fun g i wr => ∃ (k : Nat) (st : RS Int), i = .int .i64 k ∧ k ≤ 64 ∧ g = 64 - k ∧ Room F F 0 st ∧ HasI w (fun _ => False) rb fb mb st 0 wr)
      case atStart => exact ⟨0, st, rfl, by omega, by omega, hRm, hH⟩
      case round =>
        obtain ⟨k, st, rfl, hc, rfl, hRm, hH⟩ := hrel
        by_cases hlt : k < n ∧ k < 64
        · obtain ⟨hl1, hl2⟩ := hlt
          have hz1 : (k : Int) < (n : Int) := by omega
          have hz2 : (k : Int) < 64 := by omega
          obtain ⟨ab, ao, rfl, hab, hf64, hcell⟩ := hf k hl1
          have hcw := (hH.fr.cell (p := ⟨ab, ao + k, none⟩) hab (fun h => h)).trans hcell
          have hK := mod_bd (f k) (F : Int) (by omega) (by omega)
          go_wp2_with fail
          obtain ⟨hK0, hK1⟩ := hK
          obtain ⟨x, hx⟩ : ∃ x, x = wrap64 ((IntKind.u64.wrap (f k)).tmod (F : Int)) := ⟨_, rfl⟩
          rw [← hx] at hK0 hK1 ⊢
          have hxi : in64 x := by unfold in64; omega
          obtain ⟨st', hput, hRm'⟩ := room_put hRm hH.inv hK0 hK1 (-x)
          refine (hH.put (by omega) x hxi (-x) hput).mono ?_
          rintro e w3 ⟨rfl, hH3, _⟩
          clear hput hH hx
          simp only [outVI]
          go_wp2_with fail
          have hH4 := (hH3.alloc (.cells #[.int .i64 0, Value.int .i64 0, .bool false] 27)).sub (Y := fun _ => False) (fun _ h => h.elim)
          refine hH4.len.mono ?_
          rintro e w4 ⟨rfl, rfl⟩
          rw [hRm'.cnt]
          go_wp2_with fail
          go_roundg (64 - (k + 1))
          case measure => omega
          case rel => exact ⟨k + 1, st', rfl, by omega, rfl, hRm', hH4⟩
        · have hR := mod_bd pinned ((F : Int) + 1) (by omega) (by omega)
          by_cases hl1 : k < n
          all_goals
            have hl2 : ¬ k < n ∨ ¬ k < 64 := by omega
            go_wp2_with fail
          all_goals
            obtain ⟨hR0, hR1⟩ := hR
            obtain ⟨q, hq⟩ : ∃ q : Nat, wrap64 ((IntKind.u64.wrap pinned).tmod ((F : Int) + 1)) = (q : Int) := ⟨(wrap64 ((IntKind.u64.wrap pinned).tmod ((F : Int) + 1))).toNat, by omega⟩
            rw [hq] at hR1 ⊢
            have hqF : q ≤ F := by omega
            clear hq hR0 hR1 hl1 hl2 hlt hc
            go_loopg [15] q (fun g i wr => ∃ (k : Nat) (st : RS Int), i = .int .i64 k ∧ k ≤ q ∧ g = q - k ∧ Room F F k st ∧ HasI w (fun _ => False) rb fb mb st k wr)
            case atStart => exact ⟨0, st, rfl, by omega, by omega, hRm, hH⟩
            case round =>
              obtain ⟨k, st, rfl, hc, rfl, hRm, hH⟩ := hrel
              by_cases hlt : k < q
              · have hltz : (k : Int) < (q : Int) := by omega
                obtain ⟨st', hpin, hRm', hp1⟩ := room_pin hRm hH.inv (by omega)
                go_wp2_with fail
                refine (hH.pin (by omega) (k : Int) (by unfold in64; omega) hpin).mono ?_
                rintro e w3 ⟨rfl, hH3, _⟩
                clear hpin hH
                go_wp2_with fail
                refine (hH3.pins (k : Int) (by unfold in64; omega)).mono ?_
                rintro e w4 ⟨rfl, rfl⟩
                rw [hp1]
                go_wp2_with fail
                go_roundg (q - (k + 1))
                case measure => omega
                case rel => exact ⟨k + 1, st', rfl, by omega, rfl, hRm', hH3⟩
              · have hltz : (q : Int) ≤ (k : Int) := by omega
                have e0 : q = k := by omega
                subst e0
                go_wp2_with fail
                by_cases hfull : q = F
                · subst hfull
                  have hput := room_full hRm (by omega) hH.inv
                  refine (hH.put (by omega) 1000 (by unfold in64; omega) 0 hput).mono ?_
                  rintro e w3 ⟨rfl, hH3, _⟩
                  simp only [outVI]
                  go_wp2_with fail
                  have hH4 := (hH3.alloc (.cells #[.int .i64 0, Value.int .i64 0, .bool false] 27)).sub (Y := fun _ => False) (fun _ h => h.elim)
                  refine hH4.len.mono ?_
                  rintro e w4 ⟨rfl, rfl⟩
                  rw [hRm.cnt]
                  have hb : ((q : Int) == (q : Int)) = true := by simp
                  go_wp2_with fail
                  go_ret
                  exact ⟨rfl, hH4.below⟩
                · obtain ⟨o, st', hput, g1, g2, g3, g4, g5⟩ := room_leave hRm (by omega) (by omega) hH.inv
                  refine (hH.put (by omega) 1000 (by unfold in64; omega) 0 hput).mono ?_
                  rintro e w3 ⟨rfl, hH3, _⟩
                  have hO := Blk.new w3 27 [.int .i64 o.key, Value.int .i64 o.val, .bool true]
                  have hH5 := hH3.alloc (.cells #[.int .i64 o.key, Value.int .i64 o.val, .bool true] 27)
                  simp only [outVI]
                  go_wp2_with fail
                  refine (hH5.get o.key (by unfold in64; omega) g3).mono ?_
                  rintro e w4 ⟨rfl, hH6, hF6⟩
                  simp only [valOI, Option.isSome_none]
                  have hO6 := hO.fr hF6 (fun h => h (.inr (.inr rfl)))
                  obtain ⟨c0, c1, c2, _⟩ := out_cellsI hO6
                  have y1 : decide ((q : Int) ≤ o.key) = true := by simpa using g1
                  have y2 : decide (o.key < (F : Int)) = true := by simpa using g2
                  clear hO hO6
                  go_wp2_with fail
                  refine hH6.len.mono ?_
                  rintro e w5 ⟨rfl, rfl⟩
                  rw [g4]
                  have hb : ((F : Int) == (F : Int)) = true := by simp
                  go_wp2_with fail
                  refine (hH6.pins 1000 (by unfold in64; omega)).mono ?_
                  rintro e w6 ⟨rfl, rfl⟩
                  rw [g5]
                  go_wp2_with fail
                  go_ret
                  exact ⟨rfl, hH6.below⟩

end Go.Proofs.Ytbiaompkmabfjaa
