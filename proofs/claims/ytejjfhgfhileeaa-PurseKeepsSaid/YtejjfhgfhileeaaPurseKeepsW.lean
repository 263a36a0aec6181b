/- PurseKeeps: the walk of the law. -/
import Derived.Test.YtejjfhgfhileeaaPurseAwake
import Derived.Deep.QuietTactic
import Derived.BigQuiet
import Derived.Deep.RegionWith
import Derived.Deep.LoopGhost
import Derived.Deep.DeepCutAuto
import Derived.Lib.Hide
namespace Go.Proofs.Ytejjfhgfhileeaa
open Go.Maps Go.RowKit

def keyed4 (l : List (Int × Int)) : Prop := ∀ p ∈ l, 0 ≤ p.1 ∧ p.1 < 4

theorem mod_bd (x : Int) (m : Int) (hm : 0 < m) (hm' : m < 9223372036854775808) : 0 ≤ wrap64 ((IntKind.u64.wrap x).tmod m) ∧ wrap64 ((IntKind.u64.wrap x).tmod m) < m := by
  have h0 : 0 ≤ IntKind.u64.wrap x := by
    simp only [IntKind.wrap, IntKind.signed, IntKind.bits]
    have := Int.emod_nonneg x (show (2 ^ 64 : Int) ≠ 0 by decide)
    simpa using this
  rw [Int.tmod_eq_emod_of_nonneg h0]
  have h1 := Int.emod_nonneg (IntKind.u64.wrap x) (show m ≠ 0 by omega)
  have h2 := Int.emod_lt_of_pos (IntKind.u64.wrap x) hm
  unfold wrap64
  omega

def hasL (q : PS) : List Value := [vint (pOf q 0), vint (pOf q 1), vint (pOf q 2), vint (pOf q 3)]

theorem hasL_get (q : PS) (who : Int) (h0 : 0 ≤ who) (h4 : who < 4) : (hasL q)[who.toNat]? = some (.int .i64 (pOf q who)) := by
  have : who = 0 ∨ who = 1 ∨ who = 2 ∨ who = 3 := by omega
  rcases this with rfl | rfl | rfl | rfl <;> rfl

theorem hasL_set (q q' : PS) (who v : Int) (h0 : 0 ≤ who) (h4 : who < 4) (hs : pOf q' who = v) (ho : ∀ j, j ≠ who → pOf q' j = pOf q j) : (hasL q).set who.toNat (.int .i64 v) = hasL q' := by
  have : who = 0 ∨ who = 1 ∨ who = 2 ∨ who = 3 := by omega
  unfold hasL
  rcases this with rfl | rfl | rfl | rfl
  · rw [← ho 1 (by omega), ← ho 2 (by omega), ← ho 3 (by omega), ← hs]; rfl
  · rw [← ho 0 (by omega), ← ho 2 (by omega), ← ho 3 (by omega), ← hs]; rfl
  · rw [← ho 0 (by omega), ← ho 1 (by omega), ← ho 3 (by omega), ← hs]; rfl
  · rw [← ho 0 (by omega), ← ho 1 (by omega), ← ho 2 (by omega), ← hs]; rfl

theorem pOf_ask {q : PS} {who n room : Int} (hc : pCan q n room = true) (j : Int) : pOf (pAsk q who n room) j = if j = who then pOf q who + n else pOf q j := by
  unfold pAsk
  rw [if_pos hc]
  show (look j (ins who (pOf q who + n) q.l)).getD 0 = _
  rw [look_ins]
  split <;> rfl

theorem pOf_take {q : PS} (who n : Int) (j : Int) : pOf (pTake q who n) j = if j = who then pOf q who - pTook q who n else pOf q j := by
  unfold pTake
  split
  · rename_i h0; rw [h0]; split
    · rename_i e; rw [e]; omega
    · rfl
  · split
    · rename_i h0 h1
      show (look j (del who (ins who (pOf q who - pTook q who n) q.l))).getD 0 = _
      rw [look_del]
      split
      · rw [h1]; rfl
      · rename_i e; rw [look_ins, if_neg e]; rfl
    · show (look j (ins who (pOf q who - pTook q who n) q.l)).getD 0 = _
      rw [look_ins]
      split <;> rfl

theorem total_four {l : List (Int × Int)} (hs : Srt l) (hk : keyed4 l) : total l = (look 0 l).getD 0 + (look 1 l).getD 0 + (look 2 l).getD 0 + (look 3 l).getD 0 := by
  have h0 := total_del (who := 0) hs
  have h1 := total_del (who := 1) (srt_del (k := 0) hs)
  have h2 := total_del (who := 2) (srt_del (k := 1) (srt_del (k := 0) hs))
  have h3 := total_del (who := 3) (srt_del (k := 2) (srt_del (k := 1) (srt_del (k := 0) hs)))
  have he : del 3 (del 2 (del 1 (del 0 l))) = [] := by
    refine List.eq_nil_iff_forall_not_mem.2 fun p hp => ?_
    simp only [del, List.mem_filter, decide_eq_true_eq] at hp
    obtain ⟨⟨⟨⟨h, a⟩, b⟩, c⟩, d⟩ := hp
    have := hk p h
    omega
  rw [he] at h3
  rw [show total ([] : List (Int × Int)) = 0 from rfl] at h3
  simp only [look_del] at h1 h2 h3
  simp at h1 h2 h3
  omega

structure KInv (q : PS) (R : Int) (k : Nat) : Prop where
  inv : PInv q
  key : keyed4 q.l
  top : q.s ≤ R
  len : q.l.length ≤ k

theorem KInv.ask {q : PS} {R : Int} {k : Nat} (h : KInv q R k) (hR : R < 1000) {who : Int} (h0 : 0 ≤ who) (h4 : who < 4) (n : Int) (hc : pCan q n R = true) : KInv (pAsk q who n R) R (k + 1) := by
  refine ⟨pAsk_inv h.inv (by unfold in64; omega) (by omega), ?_, ?_, pAsk_len _ _ _ h.len⟩
  · unfold pAsk; rw [if_pos hc]
    intro p hp
    rcases mem_ins hp with rfl | hp
    · exact ⟨h0, h4⟩
    · exact h.key p hp
  · unfold pAsk; rw [if_pos hc]
    simp only [pCan, decide_eq_true_eq] at hc
    show q.s + n ≤ R
    omega

theorem KInv.take {q : PS} {R : Int} {k : Nat} (h : KInv q R k) {who : Int} (h0 : 0 ≤ who) (h4 : who < 4) (n : Int) : KInv (pTake q who n) R (k + 1) := by
  have hb := pTook_bd h.inv who n
  refine ⟨pTake_inv h.inv (by unfold in64; omega) n, ?_, ?_, Nat.le_trans (pTake_len h.inv.srt who n pTook_some) (by have := h.len; omega)⟩
  · have hins : keyed4 (ins who (pOf q who - pTook q who n) q.l) := by
      intro p hp
      rcases mem_ins hp with rfl | hp
      · exact ⟨h0, h4⟩
      · exact h.key p hp
    unfold pTake
    split
    · exact h.key
    · split
      · exact fun p hp => hins p (List.mem_filter.1 hp).1
      · exact hins
  · have := h.top
    unfold pTake
    split
    · omega
    · show q.s - _ ≤ R; omega

theorem KInv.more {q : PS} {R : Int} {k : Nat} (h : KInv q R k) : KInv q R (k + 1) := ⟨h.inv, h.key, h.top, by have := h.len; omega⟩

def upSum (q : PS) (k : Nat) : Int := ((List.range k).map fun j : Nat => pOf q (j : Int)).sum
theorem upSum_succ (q : PS) (k : Nat) : upSum q (k + 1) = upSum q k + pOf q k := by
  simp [upSum, List.range_succ]
theorem upSum_four {q : PS} {R : Int} {k : Nat} (h : KInv q R k) : upSum q 4 = q.s := by
  rw [upSum_succ, upSum_succ, upSum_succ, upSum_succ, h.inv.sum, total_four h.inv.srt h.key]
  simp [upSum, pOf]

theorem upSum_bd {q : PS} {R : Int} {k : Nat} (h : KInv q R k) (j : Nat) (hR : R < 1000) : 0 ≤ upSum q j ∧ upSum q j ≤ j * 1000 := by
  induction j with
  | zero => simp [upSum]
  | succ j ih =>
    have hb := pOf_bd h.inv (j : Int)
    have ht := h.top
    rw [upSum_succ]
    omega

theorem below_drewN {B : Nat} {a w : World} (h : Below B a w) (n : Nat) : Below B a (w.drewN n) := ⟨h.os, h.tape, h.output, h.size, h.block⟩

/-- What the round's cells and blocks are. -/
structure KMem (w0 wr : World) (pb mb hb : Nat) (q : PS) : Prop where
  pur : IsPurse wr pb mb q
  has : Blk wr hb 3 (hasL q)
  fr : Below w0.heap.size w0 wr

set_option maxHeartbeats 1000000 in
set_option maxRecDepth 100000 in
theorem keeps_calls (room : Int) (A : Option Addr) (n c : Nat) (f : Nat → Nat → Int) (w : World) (hn : n ≤ 9223372036854775807) (hA : ActsAt w w.heap.size 4 A n f) :
    Calls Try.prog 3 #[.int .i64 room, .slice A n c] w fun e w' => e = .returned (.bool true) ∧ Below w.heap.size w w' := by
  have hmk : ∀ w, (Instr.makeSlice 27 (.int .i64 4) (.int .i64 4)).run Try.prog w = .ok (.slice (some ⟨w.heap.size, 0, none⟩) 4 4) (w.alloc (.cells #[.int .i64 0, .int .i64 0, .int .i64 0, .int .i64 0] 3)) := fun _ => by kernel_rfl
  have hR := mod_bd room 1000 (by omega) (by omega)
  go_enter Try.func3, Try.ntmps3
  go_wp2_with (first
    | (go_at_call 7; refine (awake_calls _).mono ?_; rintro e w1 ⟨rfl, hF1⟩)
    | (go_at_call 8; refine (New_calls _).mono ?_; rintro e w2 ⟨rfl, hP2, hF2⟩))
  obtain ⟨hR0, hR1⟩ := hR
  generalize wrap64 ((IntKind.u64.wrap room).tmod 1000) = R at hR0 hR1 ⊢
  have hsz1 := hF1.size
  have hsz2 := hF2.size
  have hb2 := hP2.1.lt
  have hm2 := hP2.2.lt
  have hKM : KMem w (w2.alloc (.cells #[.int .i64 0, .int .i64 0, .int .i64 0, .int .i64 0] 3)) (w1.heap.size + 1) w1.heap.size w2.heap.size ⟨[], 0⟩ :=
    ⟨⟨hP2.1.alloc _, hP2.2.alloc _⟩, Blk.new w2 3 (hasL ⟨[], 0⟩), ((hF1.trans hF2 (fun _ _ h => h)).alloc _).to_below⟩
  have hpb : w.heap.size ≤ w1.heap.size + 1 := by omega
  have hmb : w.heap.size ≤ w1.heap.size := by omega
  have hhb : w.heap.size ≤ w2.heap.size := by omega
  have hne1 : w2.heap.size ≠ w1.heap.size + 1 := by omega
  have hne2 : w2.heap.size ≠ w1.heap.size := by omega
  clear hsz1 hsz2 hb2 hm2 hmk
  generalize w2.alloc (.cells #[.int .i64 0, .int .i64 0, .int .i64 0, .int .i64 0] 3) = w3 at hKM ⊢
  generalize w2.heap.size = hb at hhb hne1 hne2 hKM ⊢
  generalize w1.heap.size + 1 = pb at hpb hne1 hKM ⊢
  generalize w1.heap.size = mb at hmb hne2 hKM ⊢
  clear hP2 hF2 hF1
  go_loopg [7] 200 (fun g i wr => ∃ (k : Nat) (q : PS), i = .int .i64 k ∧ k ≤ n ∧ k ≤ 200 ∧ g = 200 - k ∧ KInv q R k ∧ KMem w wr pb mb hb q)
  case atStart => exact ⟨0, _, rfl, by omega, by omega, rfl, ⟨pInv_nil, by simp [keyed4], by show (0 : Int) ≤ R; omega, by simp⟩, hKM⟩
  case round =>
    obtain ⟨k, q, rfl, hk1, hk2, rfl, hI, hM⟩ := hrel
    by_cases hlt : k < n
    · by_cases hlt2 : k < 200
      · obtain ⟨b, off, rfl, hbb, hcells⟩ := hA k hlt
        have hbl := hM.fr
        obtain ⟨i0, c0⟩ := hcells 0 (by omega)
        obtain ⟨i1, c1⟩ := hcells 1 (by omega)
        obtain ⟨i2, c2⟩ := hcells 2 (by omega)
        rw [← hbl.cell (p := ⟨b, _, none⟩) hbb] at c0 c1 c2
        obtain ⟨hw0, hw4⟩ := mod_bd (f k 1) 4 (by omega) (by omega)
        generalize hwho : wrap64 ((IntKind.u64.wrap (f k 1)).tmod 4) = who at hw0 hw4
        have hwh := Lib.hid hwho
        clear hwho hcells
        obtain ⟨kind, hkind⟩ : ∃ y, f k 0 = y := ⟨_, rfl⟩
        rw [hkind] at c0
        clear hkind i0
        rw [Nat.add_zero] at c0
        have hlen : q.l.length < maxLen := by have := hI.len; unfold maxLen; omega
        by_cases hk1 : kind = 1
        · subst hk1
          cases hc : pCan q (f k 2) R with
          | true =>
            go_wp2_with fail
            rw [hwh.out]
            refine (Ask_calls pb mb q _ hM.pur hI.inv who (f k 2) R (by unfold in64; omega) (by unfold in64; omega) hlen).mono ?_
            rintro e wa ⟨rfl, hPa, hFa⟩
            rw [hc]
            have hBa := hM.has.fr hFa (by simp only [two]; omega)
            have g0 := hBa.cell who.toNat
            rw [hasL_get q who hw0 hw4] at g0
            have z0 := hBa.frozen who.toNat
            have d0 : wa.cell? ⟨b, off + k * 4, none⟩ = some (.int .i64 1) := by
              rw [hFa.cell (p := ⟨b, _, none⟩) (by have := hbl.size; show b < _; omega) (by simp only [two]; omega)]; exact c0
            have hIa : KInv (pAsk q who (f k 2) R) R (k + 1) := hI.ask hR1 hw0 hw4 _ hc
            have hob := pOf_bd hI.inv who
            obtain ⟨hb1, hb2⟩ := hob
            have htop := hI.top
            have hc' := hc
            simp only [pCan, decide_eq_true_eq] at hc'
            obtain ⟨hc1, hc2, hc3, hc4⟩ := hc'
            have hset := hasL_set q (pAsk q who (f k 2) R) who (pOf q who + f k 2) hw0 hw4 (by rw [pOf_ask hc, if_pos rfl]) (fun j hj => by rw [pOf_ask hc, if_neg hj])
            have hMa : KMem w (wa.setCell ⟨hb, who.toNat, none⟩ (.int .i64 (pOf q who + f k 2))) pb mb hb (pAsk q who (f k 2) R) :=
              ⟨⟨hPa.1.far (Ne.symm hne1) _, hPa.2.setCell (Ne.symm hne2) _⟩, by rw [← hset]; exact hBa.set_ _ _, (hM.fr.trans (hFa.below (B := w.heap.size) (by intro x hx; rcases hx with rfl | rfl <;> assumption) hbl.size)).setCell hhb _⟩
            clear hset
            go_wp2_with fail
            generalize wa.setCell ⟨hb, who.toNat, none⟩ (.int .i64 (pOf q who + f k 2)) = wt at hMa ⊢
            obtain ⟨q', hq'⟩ : ∃ x, x = pAsk q who (f k 2) R := ⟨_, rfl⟩
            rw [← hq'] at hIa hMa
            have hI' := hIa
            have hM' := hMa
            clear hq' hPa hFa g0 z0 d0 hBa hIa hMa hM hI c0 c1 c2 hc hc1 hc2 hc3 hc4
            go_loopg [10, 11] 4 (fun g s i wx => ∃ j : Nat, j ≤ 4 ∧ g = 4 - j ∧ s = .int .i64 (upSum q' j) ∧ i = .int .i64 j ∧ KMem w wx pb mb hb q')
            case atStart => exact ⟨0, by omega, rfl, rfl, rfl, hM'⟩
            case round =>
              obtain ⟨j, hj, rfl, rfl, rfl, hMx⟩ := hrel
              by_cases hj4 : j < 4
              · have x0 := hMx.has.cell j
                rw [show (j : Nat) = ((j : Int)).toNat from rfl, hasL_get _ (j : Int) (by omega) (by omega)] at x0
                rw [Int.toNat_natCast] at x0
                have hq := fun W hW => Of_calls' pb mb q' W hW (j : Int) (by unfold in64; omega)
                have hd : ((pOf q' (j : Int)) != (pOf q' (j : Int))) = false := by simp
                have hu := upSum_bd hI' j (by omega)
                have hv := pOf_bd hI'.inv (j : Int)
                have ht := hI'.top
                obtain ⟨hv1, hv2⟩ := hv
                obtain ⟨hu1, hu2⟩ := hu
                have hd2 : decide (pOf q' (j : Int) < 0) = false := by simp; omega
                go_wp2_with fail
                go_quiet ((go_at_call 11; exact Calls.quiet_of_same (hq _ hMx.pur)))
                go_wp2_with fail
                go_roundg (4 - (j + 1))
                case measure => omega
                case rel => exact ⟨j + 1, by omega, rfl, by rw [upSum_succ], rfl, ⟨hMx.pur, hMx.has, below_drewN hMx.fr _⟩⟩
              · obtain rfl : j = 4 := by omega
                have hu := upSum_four hI'
                have ht := hI'.top
                have hd : (q'.s != q'.s) = false := by simp
                have hd2 : decide (R < q'.s) = false := by simp; omega
                go_wp2_with (go_at_call 12; refine (Sum_calls pb mb q' _ hMx.pur).mono ?_; rintro e w' ⟨rfl, rfl⟩)
                go_roundg (200 - (k + 1))
                case measure => omega
                case rel => exact ⟨k + 1, q', rfl, by omega, by omega, rfl, hI', hMx⟩
          | false =>
            go_wp2_with fail
            rw [hwh.out]
            refine (Ask_calls pb mb q _ hM.pur hI.inv who (f k 2) R (by unfold in64; omega) (by unfold in64; omega) hlen).mono ?_
            rintro e wa ⟨rfl, hPa, hFa⟩
            rw [hc]
            have hBa := hM.has.fr hFa (by simp only [two]; omega)
            have g0 := hBa.cell who.toNat
            rw [hasL_get q who hw0 hw4] at g0
            have z0 := hBa.frozen who.toNat
            have d0 : wa.cell? ⟨b, off + k * 4, none⟩ = some (.int .i64 1) := by
              rw [hFa.cell (p := ⟨b, _, none⟩) (by have := hbl.size; show b < _; omega) (by simp only [two]; omega)]; exact c0
            have hIa : KInv (pAsk q who (f k 2) R) R (k + 1) := by unfold pAsk; rw [hc]; exact hI.more
            have hMa : KMem w wa pb mb hb (pAsk q who (f k 2) R) :=
              ⟨hPa, by unfold pAsk; rw [hc]; exact hBa, hM.fr.trans (hFa.below (B := w.heap.size) (by intro x hx; rcases hx with rfl | rfl <;> assumption) hbl.size)⟩
            go_wp2_with fail
            obtain ⟨q', hq'⟩ : ∃ x, x = pAsk q who (f k 2) R := ⟨_, rfl⟩
            rw [← hq'] at hIa hMa
            have hI' := hIa
            have hM' := hMa
            clear hq' hPa hFa g0 z0 d0 hBa hIa hMa hM hI c0 c1 c2 hc
            go_loopg [10, 11] 4 (fun g s i wx => ∃ j : Nat, j ≤ 4 ∧ g = 4 - j ∧ s = .int .i64 (upSum q' j) ∧ i = .int .i64 j ∧ KMem w wx pb mb hb q')
            case atStart => exact ⟨0, by omega, rfl, rfl, rfl, hM'⟩
            case round =>
              obtain ⟨j, hj, rfl, rfl, rfl, hMx⟩ := hrel
              by_cases hj4 : j < 4
              · have x0 := hMx.has.cell j
                rw [show (j : Nat) = ((j : Int)).toNat from rfl, hasL_get _ (j : Int) (by omega) (by omega)] at x0
                rw [Int.toNat_natCast] at x0
                have hq := fun W hW => Of_calls' pb mb q' W hW (j : Int) (by unfold in64; omega)
                have hd : ((pOf q' (j : Int)) != (pOf q' (j : Int))) = false := by simp
                have hu := upSum_bd hI' j (by omega)
                have hv := pOf_bd hI'.inv (j : Int)
                have ht := hI'.top
                obtain ⟨hv1, hv2⟩ := hv
                obtain ⟨hu1, hu2⟩ := hu
                have hd2 : decide (pOf q' (j : Int) < 0) = false := by simp; omega
                go_wp2_with fail
                go_quiet ((go_at_call 11; exact Calls.quiet_of_same (hq _ hMx.pur)))
                go_wp2_with fail
                go_roundg (4 - (j + 1))
                case measure => omega
                case rel => exact ⟨j + 1, by omega, rfl, by rw [upSum_succ], rfl, ⟨hMx.pur, hMx.has, below_drewN hMx.fr _⟩⟩
              · obtain rfl : j = 4 := by omega
                have hu := upSum_four hI'
                have ht := hI'.top
                have hd : (q'.s != q'.s) = false := by simp
                have hd2 : decide (R < q'.s) = false := by simp; omega
                go_wp2_with (go_at_call 12; refine (Sum_calls pb mb q' _ hMx.pur).mono ?_; rintro e w' ⟨rfl, rfl⟩)
                go_roundg (200 - (k + 1))
                case measure => omega
                case rel => exact ⟨k + 1, q', rfl, by omega, by omega, rfl, hI', hMx⟩
        · by_cases hk2 : kind = 2
          · subst hk2
            clear hk1
            go_wp2_with fail
            rw [hwh.out]
            have g0 := hM.has.cell who.toNat
            rw [hasL_get q who hw0 hw4] at g0
            have z0 := hM.has.frozen who.toNat
            have hlt' : hb < wr.heap.size := hM.has.lt
            have hIa : KInv (pTake q who (f k 2)) R (k + 1) := hI.take hw0 hw4 _
            have hob := pOf_bd hI.inv who
            have htb := pTook_bd hI.inv who (f k 2)
            have htop := hI.top
            obtain ⟨hb1, hb2⟩ := hob
            obtain ⟨ht1, ht2⟩ := htb
            have hset := hasL_set q (pTake q who (f k 2)) who (pOf q who - pTook q who (f k 2)) hw0 hw4 (by rw [pOf_take, if_pos rfl]) (fun j hj => by rw [pOf_take, if_neg hj])
            go_cut [] (fun wx => KMem w wx pb mb hb (pTake q who (f k 2)))
            case first =>
              have hTk : Calls Try.prog 10 #[.pointer (some ⟨pb, 0, none⟩), .int .i64 who, .int .i64 (f k 2)] wr.drew fun e w' => e = .returned (.int .i64 (pTook q who (f k 2))) ∧ IsPurse w' pb mb (pTake q who (f k 2)) ∧ Blk w' hb 3 (hasL q) ∧ Below w.heap.size w w' ∧ w'.cell? ⟨hb, who.toNat, none⟩ = some (.int .i64 (pOf q who)) ∧ w'.frozen? ⟨hb, who.toNat, none⟩ = false := by
                refine (Take_calls pb mb q wr.drew hM.pur hI.inv who (f k 2) (by unfold in64; omega) hlen).mono fun e w' ⟨he, hPa, hFa⟩ => ?_
                have hBa : Blk w' hb 3 (hasL q) := Blk.fr (w := wr.drew) hM.has hFa (by simp only [two]; omega)
                refine ⟨he, hPa, hBa, hM.fr.drew.trans (hFa.below (B := w.heap.size) (by intro x hx; rcases hx with rfl | rfl <;> assumption) hbl.size), ?_, hBa.frozen _⟩
                rw [hBa.cell, hasL_get q who hw0 hw4]
              have HT := Lib.hid hTk
              have HS := Lib.hid hset
              clear hTk hset
              go_region_with (go_at_call 10; refine HT.out.mono ?_; rintro e wa ⟨rfl, hPa, hBa, hFa, g1, z1⟩)
              all_goals
                go_wp2_with fail
                go_meet
                rw [IntWalk.i64_in _ (by omega)]
                exact ⟨⟨hPa.1.far (Ne.symm hne1) _, hPa.2.setCell (Ne.symm hne2) _⟩, by rw [← HS.out]; exact hBa.set_ _ _, hFa.setCell hhb _⟩
            case rest =>
              go_wp2_with fail
              obtain ⟨q', hq'⟩ : ∃ x, x = pTake q who (f k 2) := ⟨_, rfl⟩
              rw [← hq'] at hIa hcut
              have hI' := hIa
              have hM' := hcut
              clear hq' hset g0 z0 hIa hcut hM hI c0 c1 c2
              go_loopg [10, 11] 4 (fun g s i wx => ∃ j : Nat, j ≤ 4 ∧ g = 4 - j ∧ s = .int .i64 (upSum q' j) ∧ i = .int .i64 j ∧ KMem w wx pb mb hb q')
              case atStart => exact ⟨0, by omega, rfl, rfl, rfl, hM'⟩
              case round =>
                obtain ⟨j, hj, rfl, rfl, rfl, hMx⟩ := hrel
                by_cases hj4 : j < 4
                · have x0 := hMx.has.cell j
                  rw [show (j : Nat) = ((j : Int)).toNat from rfl, hasL_get _ (j : Int) (by omega) (by omega)] at x0
                  rw [Int.toNat_natCast] at x0
                  have hq := fun W hW => Of_calls' pb mb q' W hW (j : Int) (by unfold in64; omega)
                  have hd : ((pOf q' (j : Int)) != (pOf q' (j : Int))) = false := by simp
                  have hu := upSum_bd hI' j (by omega)
                  have hv := pOf_bd hI'.inv (j : Int)
                  have ht := hI'.top
                  obtain ⟨hv1, hv2⟩ := hv
                  obtain ⟨hu1, hu2⟩ := hu
                  have hd2 : decide (pOf q' (j : Int) < 0) = false := by simp; omega
                  go_wp2_with fail
                  go_quiet ((go_at_call 11; exact Calls.quiet_of_same (hq _ hMx.pur)))
                  go_wp2_with fail
                  go_roundg (4 - (j + 1))
                  case measure => omega
                  case rel => exact ⟨j + 1, by omega, rfl, by rw [upSum_succ], rfl, ⟨hMx.pur, hMx.has, below_drewN hMx.fr _⟩⟩
                · obtain rfl : j = 4 := by omega
                  have hu := upSum_four hI'
                  have ht := hI'.top
                  have hd : (q'.s != q'.s) = false := by simp
                  have hd2 : decide (R < q'.s) = false := by simp; omega
                  go_wp2_with (go_at_call 12; refine (Sum_calls pb mb q' _ hMx.pur).mono ?_; rintro e w' ⟨rfl, rfl⟩)
                  go_roundg (200 - (k + 1))
                  case measure => omega
                  case rel => exact ⟨k + 1, q', rfl, by omega, by omega, rfl, hI', hMx⟩
          · have hk1' : (kind == 1) = false := by simpa using hk1
            have hk2' : (kind == 2) = false := by simpa using hk2
            clear hk1 hk2
            go_wp2_with fail
            have hI' : KInv q R (k + 1) := hI.more
            have hM' := hM
            clear hM hI c0 c1 c2
            go_loopg [10, 11] 4 (fun g s i wx => ∃ j : Nat, j ≤ 4 ∧ g = 4 - j ∧ s = .int .i64 (upSum q j) ∧ i = .int .i64 j ∧ KMem w wx pb mb hb q)
            case atStart => exact ⟨0, by omega, rfl, rfl, rfl, hM'⟩
            case round =>
              obtain ⟨j, hj, rfl, rfl, rfl, hMx⟩ := hrel
              by_cases hj4 : j < 4
              · have x0 := hMx.has.cell j
                rw [show (j : Nat) = ((j : Int)).toNat from rfl, hasL_get _ (j : Int) (by omega) (by omega)] at x0
                rw [Int.toNat_natCast] at x0
                have hq := fun W hW => Of_calls' pb mb q W hW (j : Int) (by unfold in64; omega)
                have hd : ((pOf q (j : Int)) != (pOf q (j : Int))) = false := by simp
                have hu := upSum_bd hI' j (by omega)
                have hv := pOf_bd hI'.inv (j : Int)
                have ht := hI'.top
                obtain ⟨hv1, hv2⟩ := hv
                obtain ⟨hu1, hu2⟩ := hu
                have hd2 : decide (pOf q (j : Int) < 0) = false := by simp; omega
                go_wp2_with fail
                go_quiet ((go_at_call 11; exact Calls.quiet_of_same (hq _ hMx.pur)))
                go_wp2_with fail
                go_roundg (4 - (j + 1))
                case measure => omega
                case rel => exact ⟨j + 1, by omega, rfl, by rw [upSum_succ], rfl, ⟨hMx.pur, hMx.has, below_drewN hMx.fr _⟩⟩
              · obtain rfl : j = 4 := by omega
                have hu := upSum_four hI'
                have ht := hI'.top
                have hd : (q.s != q.s) = false := by simp
                have hd2 : decide (R < q.s) = false := by simp; omega
                go_wp2_with (go_at_call 12; refine (Sum_calls pb mb q _ hMx.pur).mono ?_; rintro e w' ⟨rfl, rfl⟩)
                go_roundg (200 - (k + 1))
                case measure => omega
                case rel => exact ⟨k + 1, q, rfl, by omega, by omega, rfl, hI', hMx⟩
      · go_wp2_with fail
        go_ret
        exact ⟨rfl, hM.fr⟩
    · go_wp2_with fail
      go_ret
      exact ⟨rfl, hM.fr⟩

theorem keeps_walk (room : Int) (A : Option Addr) (n c : Nat) (w : World) (_hr : in64 room) (hn : n ≤ maxLen) (hA : CellsAt w w.heap.size 4 A n okInts) :
    Calls Try.prog 3 #[.int .i64 room, .slice A n c] w fun e w' => e = .returned (.bool true) ∧ Below w.heap.size w w' := by
  obtain ⟨f, hf⟩ := acts_of_cells hA
  exact keeps_calls room A n c f w hn hf

end Go.Proofs.Ytejjfhgfhileeaa
