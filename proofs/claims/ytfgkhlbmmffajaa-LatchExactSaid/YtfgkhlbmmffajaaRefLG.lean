/- The locks' reference: Grant, Use, Call, drop, End; how two lists of lets are compared. -/
import Derived.Test.YtfgkhlbmmffajaaRefL
import Derived.Test.YtfgkhlbmmffajaaLatchH
namespace Go.Proofs.Ytfgkhlbmmffajaa
open Go.Maps Go.RowKit

section
variable (w0 w : World) (ub : Nat) (ls : LS)

/-- a store into the row turns the row's block alone; the row is not the field's block -/
def RefStep (w0 w : World) (ub : Nat) (_ls : LS) (ls' : LS) (w' : World) : Prop :=
  IsRefL w0 w' ub ls' ∧ Fr (fun b => b = ub ∨ (w0.heap.size ≤ b ∧ ∃ cur, w.heap[b]? = some (.cells cur 49 (0, 0)))) w w'

set_option maxHeartbeats 1000000 in
theorem refDrop_calls (hw0 : w0.heap.size ≤ w.heap.size) (hR : IsRefL w0 w ub ls) (hn : ls.length ≤ 1000000) (p : Int) :
    Calls Try.prog 26 #[.pointer (some ⟨ub, 0, none⟩), .int .i64 p] w fun e w' => e = .returned (.tuple #[]) ∧ RefStep w0 w ub ls (del p ls) w' := by
  obtain ⟨i0, hi, hz0, hz1, hz2⟩ := info_parts infoLock
  obtain ⟨A, cap, hB, hcells⟩ := hR.open_
  have HC := Lib.hid hcells
  have HB := Lib.hid hB
  have HZ := Lib.hid (Nat.le_refl w.heap.size)
  have hblt := hB.lt
  have c0 := hB.cell 0
  clear hcells hB hR
  have hrow : (w.alloc (.cells #[] 49)).ownsRow w.heap.size 49 4 (.slice (some ⟨w.heap.size, 0, none⟩) 0 0) 0 [] :=
    w.ownsRow_lit #[] 0 (Nat.le_refl _) (by omega) rfl
  have hF0 : Fr (fun _ => False) w (w.alloc (.cells #[] 49)) := (Fr.refl _ w).alloc _
  go_enter Try.func26, Try.ntmps26
  go_wp2_with fail
  go_loopg [4, 5] ls.length (fun g v i wr => ∃ k : Nat, i = .int .i64 k ∧ k ≤ ls.length ∧ g = ls.length - k ∧ wr.ownsRow w.heap.size 49 4 v (del p (ls.take k)).length (rcells c4 (del p (ls.take k))) ∧ Fr (fun _ => False) w wr)
  case atStart => exact ⟨0, rfl, by omega, by omega, hrow, hF0⟩
  case round =>
    obtain ⟨k, rfl, hk, rfl, hown, hF⟩ := hrel
    have c0 := (HB.out.fr hF (fun h => h)).cell 0
    have hsz := hF.size
    have HF := Lib.hid hF
    have HF1 := HF
    have hlen : (del p (ls.take k)).length ≤ 1000000 := Nat.le_trans length_del_le (by simp; omega)
    have hbase : ∀ o : Obj, w.heap.size ≤ (wr.alloc o).heap.size := fun o => by rw [World.size_alloc]; omega
    have HBS := Lib.hid hbase
    clear hF hbase
    by_cases hlt : k < ls.length
    · have hltz : (k : Int) < (ls.length : Int) := by omega
      have ho : ls[k]? = some ls[k] := List.getElem?_eq_getElem hlt
      have hts : del p (ls.take (k + 1)) = del p (ls.take k) ++ del p [ls[k]] := by rw [List.take_succ_eq_append_getElem hlt]; unfold del; rw [List.filter_append]
      have HS := Lib.hid hts
      generalize ls[k] = q at ho HS
      obtain ⟨g, rfl, _, ⟨cur, hcur⟩, hc, _⟩ := HC.out k q ho
      obtain ⟨a0, a1, a2, a3, _⟩ := hc wr (HF.out.block g (Array.getElem?_eq_some_iff.1 hcur).1 (fun h => h))
      obtain ⟨qp, qx, qu, qw⟩ := q
      dsimp only at a0 a1 a2 a3
      clear ho hc hcur hts
      by_cases he : qp = p
      · have hb : (qp != p) = false := by simpa using he
        have HE := Lib.hid he
        clear he
        go_wp2_with fail
        go_roundg (ls.length - (k + 1))
        case measure => omega
        case rel => exact ⟨k + 1, rfl, by omega, rfl, by rw [HS.out]; simpa [del, HE.out] using hown, HF.out⟩
      · have hb : (qp != p) = true := by simpa using he
        have HE := Lib.hid he
        clear he
        go_wp2_with (at_builtin; refine wpList_append_own _ rfl (.tmp 26) (.tmp 34) 41 rfl w.heap.size 49 i0 _ 4 32 Try.underlying41 hi hz0 hz1 hz2 rfl (by decide) _ _ _ rfl (hown.alloc _) ⟨wr.heap.size, 0, none⟩ 1 1 [.int .i64 qp, .bool qx, .int .i64 qu, .int .i64 qw] rfl rfl (news4 wr qp qx qu qw) (one4 qp qx qu qw) (by unfold maxLen; omega) (by omega) (HBS.out _) ?_; intro v1 w1 hown1 hgrow1 _hn1; clear _hn1; have hF1 := fr_app (W := wr) HF1.out hgrow1 hown HZ.out; clear hgrow1)
        go_wp2_with fail
        go_roundg (ls.length - (k + 1))
        case measure => omega
        case rel => exact ⟨k + 1, rfl, by omega, rfl, by rw [HS.out]; simpa [del, HE.out, rcells_append, rcells, c4] using hown1, hF1⟩
    · have e0 : k = ls.length := by omega
      have hltz : (ls.length : Int) ≤ (k : Int) := by omega
      rw [e0, List.take_length] at hown
      clear e0 hlen
      have z0 := (HB.out.fr HF.out (fun h => h)).frozen 0
      have HO := Lib.hid hown
      rcases hown.2 with ⟨rfl, hz⟩ | ⟨g, cap', cur, rfl, hr⟩
      · clear hown hz
        go_wp2_with fail
        go_end0
        have := ref_end hw0 hblt HB.out HF.out HO.out rfl
        exact ⟨rfl, this.1, this.2.mono (fun _ _ h => .inl h)⟩
      · clear hown hr
        go_wp2_with fail
        go_end0
        have := ref_end hw0 hblt HB.out HF.out HO.out rfl
        exact ⟨rfl, this.1, this.2.mono (fun _ _ h => .inl h)⟩

set_option maxHeartbeats 1000000 in
theorem refGrant_calls (hw0 : w0.heap.size ≤ w.heap.size) (hR : IsRefL w0 w ub ls) (hs : Srt ls) (hn : ls.length ≤ 1000000) (p : Int) (x : Bool) :
    Calls Try.prog 14 #[.pointer (some ⟨ub, 0, none⟩), .int .i64 p, .bool x] w fun e w' => e = .returned (.tuple #[]) ∧ RefStep w0 w ub ls (lGrant p x ls) w' := by
  unfold lGrant
  cases e : look p ls with
  | some kk =>
    obtain ⟨i, g, cap, hi, hf, hB, a1, a2, a3, hg0, hcur, z, hset⟩ := refAt_some w0 w ub ls hR hs hn p e
    have c0 := hB.cell 0
    have z1 := z (i * 4 + 1)
    have hi1 : (i : Int) < (ls.length : Int) := by omega
    have hi2 : (0 : Int) ≤ (i : Int) := by omega
    have d1 : decide ((0 : Int) ≤ (i : Int)) = true := decide_eq_true hi2
    have HSET := Lib.hid (hset 1 (.bool x) { kk with x := x } (by omega) rfl)
    have HCUR := Lib.hid (And.intro hg0 hcur)
    clear e hR hs hset z hcur hg0
    go_enter Try.func14, Try.ntmps14
    go_wp2_with (go_at_call 25; refine hf.mono ?_; clear hf; rintro e w' ⟨rfl, rfl⟩)
    refine bodyPost_ret (results_none rfl _ _ _) rfl ?_
    exact ⟨rfl, HSET.out, (Fr.refl _ w).setCell (p := ⟨g, i * 4 + 1, none⟩) (.inl (.inr HCUR.out)) _⟩
  | none =>
    have hf := refAt_none w0 w ub ls hR hn p e
    have HEQ := Lib.hid (grEnd_eq (k := ⟨x, 0, 0⟩) hs e)
    obtain ⟨i0, hi, hz0, hz1, hz2⟩ := info_parts infoLock
    obtain ⟨A, cap, hB, hcells⟩ := hR.open_
    have HC := Lib.hid hcells
    have HB := Lib.hid hB
    have HZ := Lib.hid (Nat.le_refl w.heap.size)
    have hblt := hB.lt
    have c0 := hB.cell 0
    clear hcells hB hR e hs
    have hrow : (w.alloc (.cells #[] 49)).ownsRow w.heap.size 49 4 (.slice (some ⟨w.heap.size, 0, none⟩) 0 0) 0 [] :=
      w.ownsRow_lit #[] 0 (Nat.le_refl _) (by omega) rfl
    have hF0 : Fr (fun _ => False) w (w.alloc (.cells #[] 49)) := (Fr.refl _ w).alloc _
    go_enter Try.func14, Try.ntmps14
    go_wp2_with (go_at_call 25; refine hf.mono ?_; clear hf; rintro e w' ⟨rfl, rfl⟩)
    go_loopg [7, 8, 9] ls.length (fun g v d i wr => ∃ k : Nat, i = .int .i64 k ∧ k ≤ ls.length ∧ g = ls.length - k ∧ d = .bool (grAt p ⟨x, 0, 0⟩ (ls.take k)).2 ∧ wr.ownsRow w.heap.size 49 4 v (grAt p ⟨x, 0, 0⟩ (ls.take k)).1.length (rcells c4 (grAt p ⟨x, 0, 0⟩ (ls.take k)).1) ∧ Fr (fun _ => False) w wr)
    case atStart => exact ⟨0, rfl, by omega, by omega, rfl, hrow, hF0⟩
    case round =>
      obtain ⟨k, rfl, hk, rfl, rfl, hown, hF⟩ := hrel
      have c0 := (HB.out.fr hF (fun h => h)).cell 0
      have hsz := hF.size
      have HF := Lib.hid hF
      have HF1 := HF
      have hlen := grAt_len p ⟨x, 0, 0⟩ (ls.take k)
      have hl2 : (ls.take k).length ≤ 1000000 := by simp; omega
      have hbase : ∀ o : Obj, w.heap.size ≤ (wr.alloc o).heap.size := fun o => by rw [World.size_alloc]; omega
      have HBS := Lib.hid hbase
      clear hF hbase
      by_cases hlt : k < ls.length
      · have hltz : (k : Int) < (ls.length : Int) := by omega
        have ho : ls[k]? = some ls[k] := List.getElem?_eq_getElem hlt
        have HS := Lib.hid (grAt_succ p ⟨x, 0, 0⟩ ho)
        generalize ls[k] = q at ho HS
        obtain ⟨g, rfl, _, ⟨cur, hcur⟩, hc, _⟩ := HC.out k q ho
        obtain ⟨a0, a1, a2, a3, _⟩ := hc wr (HF.out.block g (Array.getElem?_eq_some_iff.1 hcur).1 (fun h => h))
        obtain ⟨qp, qx, qu, qw⟩ := q
        dsimp only at a0 a1 a2 a3
        have HG := Lib.hid (Array.getElem?_eq_some_iff.1 hcur).1
        have HC2 := Lib.hid hc
        clear ho hc hcur
        generalize grAt p ⟨x, 0, 0⟩ (ls.take k) = s at hown hlen HS ⊢
        obtain ⟨o, d⟩ := s
        dsimp only at hown hlen ⊢
        cases d with
        | true =>
          go_wp2_with (at_builtin; refine wpList_append_own _ rfl (.tmp 53) (.tmp 61) 41 rfl w.heap.size 49 i0 _ 4 32 Try.underlying41 hi hz0 hz1 hz2 rfl (by decide) _ _ _ rfl (hown.alloc _) ⟨wr.heap.size, 0, none⟩ 1 1 [.int .i64 qp, .bool qx, .int .i64 qu, .int .i64 qw] rfl rfl (news4 wr qp qx qu qw) (one4 qp qx qu qw) (by unfold maxLen; omega) (by omega) (HBS.out _) ?_; intro v1 w1 hown1 hgrow1 _hn1; clear _hn1; have hF1 := fr_app (W := wr) HF1.out hgrow1 hown HZ.out; clear hgrow1)
          go_wp2_with fail
          go_roundg (ls.length - (k + 1))
          case measure => omega
          case rel => exact ⟨k + 1, rfl, by omega, rfl, by rw [HS.out]; simp [grStep], by rw [HS.out]; simpa [grStep, rcells_append, rcells, c4] using hown1, hF1⟩
        | false =>
          by_cases hw : p < qp
          · have HW := Lib.hid hw
            have hd : decide (p < qp) = true := decide_eq_true hw
            go_wp2_with (first | (at_builtin; refine wpList_append_own _ rfl (.tmp 47) (.tmp 51) 41 rfl w.heap.size 49 i0 _ 4 32 Try.underlying41 hi hz0 hz1 hz2 rfl (by decide) _ _ _ rfl (hown.alloc _) ⟨wr.heap.size, 0, none⟩ 1 1 [.int .i64 p, .bool x, .int .i64 0, .int .i64 0] rfl rfl (news4 wr p x 0 0) (one4 p x 0 0) (by unfold maxLen; omega) (by omega) (HBS.out _) ?_; intro v1 w1 hown1 hgrow1 _hn1; clear _hn1; have hF1 := fr_app (W := wr) HF1.out hgrow1 hown HZ.out; clear hgrow1; have HF2 := Lib.hid hF1; have hsz1 := hF1.size; have HBS1 := Lib.hid (show ∀ o : Obj, w.heap.size ≤ (w1.alloc o).heap.size from fun o => by rw [World.size_alloc]; omega); have hc1 := (HB.out.fr hF1 (fun h => h)).cell 0; obtain ⟨b0, b1, b2, b3, -⟩ := HC2.out w1 (hF1.block g HG.out (fun h => h)); clear hF1) | (at_builtin; refine wpList_append_own _ rfl (.tmp 53) (.tmp 61) 41 rfl w.heap.size 49 i0 _ 4 32 Try.underlying41 hi hz0 hz1 hz2 rfl (by decide) _ _ _ rfl (hown1.alloc _) ⟨w1.heap.size, 0, none⟩ 1 1 [.int .i64 qp, .bool qx, .int .i64 qu, .int .i64 qw] rfl rfl (news4 w1 qp qx qu qw) (one4 qp qx qu qw) (by unfold maxLen; omega) (by omega) (HBS1.out _) ?_; intro v2 w2 hown2 hgrow2 _hn2; clear _hn2; have hF2 := fr_app (W := w1) HF2.out hgrow2 hown1 HZ.out; clear hgrow2))
            go_wp2_with fail
            go_roundg (ls.length - (k + 1))
            case measure => omega
            case rel => exact ⟨k + 1, rfl, by omega, rfl, by rw [HS.out]; simp [grStep, HW.out], by rw [HS.out]; simpa [grStep, HW.out, rcells_append, rcells, c4] using hown2, hF2⟩
          · have HW := Lib.hid hw
            have hd : decide (p < qp) = false := decide_eq_false hw
            go_wp2_with (at_builtin; refine wpList_append_own _ rfl (.tmp 53) (.tmp 61) 41 rfl w.heap.size 49 i0 _ 4 32 Try.underlying41 hi hz0 hz1 hz2 rfl (by decide) _ _ _ rfl (hown.alloc _) ⟨wr.heap.size, 0, none⟩ 1 1 [.int .i64 qp, .bool qx, .int .i64 qu, .int .i64 qw] rfl rfl (news4 wr qp qx qu qw) (one4 qp qx qu qw) (by unfold maxLen; omega) (by omega) (HBS.out _) ?_; intro v1 w1 hown1 hgrow1 _hn1; clear _hn1; have hF1 := fr_app (W := wr) HF1.out hgrow1 hown HZ.out; clear hgrow1)
            go_wp2_with fail
            go_roundg (ls.length - (k + 1))
            case measure => omega
            case rel => exact ⟨k + 1, rfl, by omega, rfl, by rw [HS.out]; simp [grStep, Int.not_lt.2 HW.out], by rw [HS.out]; simpa [grStep, Int.not_lt.2 HW.out, rcells_append, rcells, c4] using hown1, hF1⟩
      · have e0 : k = ls.length := by omega
        have hltz : (ls.length : Int) ≤ (k : Int) := by omega
        have hend : ins p ⟨x, 0, 0⟩ ls = if (grAt p ⟨x, 0, 0⟩ (ls.take k)).2 then (grAt p ⟨x, 0, 0⟩ (ls.take k)).1 else (grAt p ⟨x, 0, 0⟩ (ls.take k)).1 ++ [(p, ⟨x, 0, 0⟩)] := by rw [e0, List.take_length, ← HEQ.out]; rfl
        have HEND := Lib.hid hend
        clear e0 hend
        generalize grAt p ⟨x, 0, 0⟩ (ls.take k) = s at hown hlen HEND ⊢
        obtain ⟨o, d⟩ := s
        dsimp only at hown hlen ⊢
        have z0 := (HB.out.fr HF.out (fun h => h)).frozen 0
        have HO := Lib.hid hown
        cases d with
        | true =>
          rcases hown.2 with ⟨rfl, hz⟩ | ⟨g, cap', cur, rfl, hr⟩
          · clear hown hz
            go_wp2_with fail
            go_end0
            have := ref_end hw0 hblt HB.out HF.out HO.out rfl
            exact ⟨rfl, by rw [HEND.out]; exact ⟨this.1, this.2.mono (fun _ _ h => .inl h)⟩⟩
          · clear hown hr
            go_wp2_with fail
            go_end0
            have := ref_end hw0 hblt HB.out HF.out HO.out rfl
            exact ⟨rfl, by rw [HEND.out]; exact ⟨this.1, this.2.mono (fun _ _ h => .inl h)⟩⟩
        | false =>
          go_wp2_with (at_builtin; refine wpList_append_own _ rfl (.tmp 65) (.tmp 69) 41 rfl w.heap.size 49 i0 _ 4 32 Try.underlying41 hi hz0 hz1 hz2 rfl (by decide) _ _ _ rfl (hown.alloc _) ⟨wr.heap.size, 0, none⟩ 1 1 [.int .i64 p, .bool x, .int .i64 0, .int .i64 0] rfl rfl (news4 wr p x 0 0) (one4 p x 0 0) (by unfold maxLen; omega) (by omega) (HBS.out _) ?_; intro v1 w1 hown1 hgrow1 _hn1; clear _hn1; have hF1 := fr_app (W := wr) HF1.out hgrow1 hown HZ.out; clear hgrow1; obtain ⟨g1, cap1, rfl⟩ := row_succ hown1; have d0 := (HB.out.fr hF1 (fun h => h)).cell 0; have d1 := (HB.out.fr hF1 (fun h => h)).frozen 0)
          go_wp2_with fail
          go_end0
          have := ref_end (xs := o ++ [(p, ⟨x, 0, 0⟩)]) hw0 hblt HB.out hF1 (by simpa [rcells_append, rcells, c4] using hown1) (by simp)
          exact ⟨rfl, by rw [HEND.out]; exact ⟨this.1, this.2.mono (fun _ _ h => .inl h)⟩⟩

theorem refUse_calls (hR : IsRefL w0 w ub ls) (hI : LInv ls) (hn : ls.length ≤ 1000000) (p : Int) (x : Bool) :
    Calls Try.prog 15 #[.pointer (some ⟨ub, 0, none⟩), .int .i64 p, .bool x] w fun e w' => e = .returned (.int .i64 (lUse p x ls).1) ∧ RefStep w0 w ub ls (lUse p x ls).2 w' := by
  have hhas := refHas_calls w0 w ub ls hR hI.srt hn p x
  unfold lHas at hhas
  unfold lUse
  cases e : look p ls with
  | none =>
    rw [e] at hhas
    clear e
    go_enter Try.func15, Try.ntmps15
    go_wp2_with (go_at_call 20; refine hhas.mono ?_; clear hhas; rintro e w' ⟨rfl, rfl⟩)
    go_ret
    exact ⟨rfl, hR, Fr.refl _ _⟩
  | some kk =>
    rw [e] at hhas
    have ho := lok_at hI e
    obtain ⟨i, g, cap, hi, hf, hB, a1, a2, a3, hg0, hcur, z, hset⟩ := refAt_some w0 w ub ls hR hI.srt hn p e
    have c0 := hB.cell 0
    have z2 := z (i * 4 + 2)
    have hi1 : (i : Int) < (ls.length : Int) := by omega
    have hi2 : (0 : Int) ≤ (i : Int) := by omega
    have hne : ub ≠ g := by
      obtain ⟨cur, hcur⟩ := hcur
      have : Blk w g 49 cur.toList := hcur
      exact Blk.ne_ hB this (by decide)
    obtain ⟨kx, ku, kw⟩ := kk
    dsimp only at a1 a2 a3 hhas ⊢
    cases hc : (kx || !x) with
    | false =>
      rw [hc] at hhas
      clear hc e
      go_enter Try.func15, Try.ntmps15
      go_wp2_with (go_at_call 20; refine hhas.mono ?_; clear hhas; rintro e w' ⟨rfl, rfl⟩)
      go_ret
      exact ⟨rfl, hR, Fr.refl _ _⟩
    | true =>
      rw [hc] at hhas
      have hstep : ∀ (u : Int) (w' : World), w' = w.setCell ⟨g, i * 4 + 2, none⟩ (.int .i64 u) → RefStep w0 w ub ls (ins p ⟨kx, u, kw⟩ ls) w' := by
        rintro u w' rfl
        exact ⟨hset 2 (.int .i64 u) ⟨kx, u, kw⟩ (by omega) rfl, (Fr.refl _ w).setCell (p := ⟨g, i * 4 + 2, none⟩) (.inl (.inr ⟨hg0, hcur⟩)) _⟩
      have hsame : ins p ⟨kx, ku, kw⟩ ls = ls := ins_same hI.srt e
      have HST := Lib.hid hstep
      have HSM := Lib.hid hsame
      have HR := Lib.hid hR
      obtain ⟨hu, _⟩ := ho
      dsimp only at hu
      clear hc e hset hcur hstep hsame hI hR z
      cases x with
      | true =>
        rcases hu with rfl | rfl | rfl
        all_goals
          go_enter Try.func15, Try.ntmps15
          go_wp2_with (first | (go_at_call 20; refine hhas.mono ?_; clear hhas; rintro e w' ⟨rfl, rfl⟩) | (go_at_call 25; refine hf.mono ?_; clear hf; rintro e w' ⟨rfl, rfl⟩))
          go_ret
          exact ⟨rfl, HST.out _ _ rfl⟩
      | false =>
        rcases hu with rfl | rfl | rfl
        all_goals
          go_enter Try.func15, Try.ntmps15
          go_wp2_with (first | (go_at_call 20; refine hhas.mono ?_; clear hhas; rintro e w' ⟨rfl, rfl⟩) | (go_at_call 25; refine hf.mono ?_; clear hf; rintro e w' ⟨rfl, rfl⟩))
          go_ret
          first
            | exact ⟨rfl, HST.out _ _ rfl⟩
            | exact ⟨rfl, by rw [HSM.out]; exact ⟨HR.out, Fr.refl _ _⟩⟩
            | exact ⟨rfl, by rw [show max (2 : Int) 1 = 2 from rfl, HSM.out]; exact ⟨HR.out, Fr.refl _ _⟩⟩

theorem refCall_calls (hw0 : w0.heap.size ≤ w.heap.size) (hR : IsRefL w0 w ub ls) (hI : LInv ls) (hn : ls.length ≤ 1000000) (p : Int) (all : Bool) :
    Calls Try.prog 16 #[.pointer (some ⟨ub, 0, none⟩), .int .i64 p, .bool all] w fun e w' => e = .returned (.int .i64 (lCall p all ls).1) ∧ RefStep w0 w ub ls (lCall p all ls).2 w' := by
  unfold lCall
  cases e : look p ls with
  | none =>
    have hf := refAt_none w0 w ub ls hR hn p e
    clear e
    go_enter Try.func16, Try.ntmps16
    go_wp2_with (go_at_call 25; refine hf.mono ?_; clear hf; rintro e w' ⟨rfl, rfl⟩)
    go_ret
    exact ⟨rfl, hR, Fr.refl _ _⟩
  | some kk =>
    have ho := lok_at hI e
    obtain ⟨i, g, cap, hi, hf, hB, a1, a2, a3, hg0, hcur, z, hset⟩ := refAt_some w0 w ub ls hR hI.srt hn p e
    have c0 := hB.cell 0
    have z1 := z (i * 4 + 1)
    have z3 := z (i * 4 + 3)
    have hi1 : (i : Int) < (ls.length : Int) := by omega
    have hi2 : (0 : Int) ≤ (i : Int) := by omega
    have d1 : decide ((i : Int) < 0) = false := decide_eq_false (by omega)
    have hne : ub ≠ g := by
      obtain ⟨cur, hcur⟩ := hcur
      have : Blk w g 49 cur.toList := hcur
      exact Blk.ne_ hB this (by decide)
    have hdrop := refDrop_calls w0 w ub ls hw0 hR hn p
    obtain ⟨kx, ku, kw⟩ := kk
    obtain ⟨hu, hw⟩ := ho
    dsimp only at a1 a2 a3 hu hw ⊢
    have hstep3 : ∀ (u : Int) (w' : World), w' = w.setCell ⟨g, i * 4 + 3, none⟩ (.int .i64 u) → RefStep w0 w ub ls (ins p ⟨kx, ku, u⟩ ls) w' := by
      rintro u w' rfl
      exact ⟨hset 3 (.int .i64 u) ⟨kx, ku, u⟩ (by omega) rfl, (Fr.refl _ w).setCell (p := ⟨g, i * 4 + 3, none⟩) (.inl (.inr ⟨hg0, hcur⟩)) _⟩
    have hstep1 : ∀ (u : Bool) (w' : World), w' = w.setCell ⟨g, i * 4 + 1, none⟩ (.bool u) → RefStep w0 w ub ls (ins p ⟨u, ku, kw⟩ ls) w' := by
      rintro u w' rfl
      exact ⟨hset 1 (.bool u) ⟨u, ku, kw⟩ (by omega) rfl, (Fr.refl _ w).setCell (p := ⟨g, i * 4 + 1, none⟩) (.inl (.inr ⟨hg0, hcur⟩)) _⟩
    have hsame : RefStep w0 w ub ls ls w := ⟨hR, Fr.refl _ _⟩
    have hsame2 : RefStep w0 w ub ls (ins p ⟨kx, ku, kw⟩ ls) w := by rw [ins_same hI.srt e]; exact hsame
    have HS1 := Lib.hid hstep1
    have HS3 := Lib.hid hstep3
    have HSM := Lib.hid hsame
    have HSM2 := Lib.hid hsame2
    clear e hset hcur hstep1 hstep3 hsame hsame2 hI hR z
    cases all with
    | true =>
      rcases hu with rfl | rfl | rfl
      · go_enter Try.func16, Try.ntmps16
        go_wp2_with (first | (go_at_call 25; refine hf.mono ?_; clear hf; rintro e w' ⟨rfl, rfl⟩) | (go_at_call 26; refine hdrop.mono ?_; clear hdrop; rintro e w' ⟨rfl, hd⟩))
        go_ret
        exact ⟨rfl, hd⟩
      all_goals
        go_enter Try.func16, Try.ntmps16
        go_wp2_with (go_at_call 25; refine hf.mono ?_; clear hf; rintro e w' ⟨rfl, rfl⟩)
        go_ret
        exact ⟨rfl, HS3.out _ _ rfl⟩
    | false =>
      cases kx with
      | false =>
        go_enter Try.func16, Try.ntmps16
        go_wp2_with (go_at_call 25; refine hf.mono ?_; clear hf; rintro e w' ⟨rfl, rfl⟩)
        go_ret
        exact ⟨rfl, HSM.out⟩
      | true =>
        rcases hu with rfl | rfl | rfl
        · go_enter Try.func16, Try.ntmps16
          go_wp2_with (go_at_call 25; refine hf.mono ?_; clear hf; rintro e w' ⟨rfl, rfl⟩)
          go_ret
          exact ⟨rfl, HS1.out _ _ rfl⟩
        · go_enter Try.func16, Try.ntmps16
          go_wp2_with (go_at_call 25; refine hf.mono ?_; clear hf; rintro e w' ⟨rfl, rfl⟩)
          go_ret
          exact ⟨rfl, HS1.out _ _ rfl⟩
        · rcases hw with rfl | rfl | rfl
          all_goals
            go_enter Try.func16, Try.ntmps16
            go_wp2_with (go_at_call 25; refine hf.mono ?_; clear hf; rintro e w' ⟨rfl, rfl⟩)
            go_ret
            first | exact ⟨rfl, HS3.out _ _ rfl⟩ | exact ⟨rfl, HSM2.out⟩
end

end Go.Proofs.Ytfgkhlbmmffajaa
