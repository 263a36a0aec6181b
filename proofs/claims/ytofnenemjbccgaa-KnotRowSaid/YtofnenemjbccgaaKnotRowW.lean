/- KnotRow: the walk. -/
import Derived.Test.YtofnenemjbccgaaKnotM
namespace Go.Proofs.Ytofnenemjbccgaa
open Go.Maps Go.RowKit

def downE (E : ES) : ES := E.filter fun q => decide (q.2 < q.1)

theorem downE_le (E : ES) : (downE E).length ≤ E.length := List.length_filter_le _ _
theorem downE_snoc (E : ES) (a b : Int) : downE (E ++ [(a, b)]) = downE E ++ (if b < a then [(a, b)] else []) := by
  unfold downE
  rw [List.filter_append]
  by_cases h : b < a <;> simp [h]
theorem downE_in {E : ES} (h : InE E) : InE (downE E) := fun q hq => h q (List.mem_filter.1 hq).1
theorem downE_down {E : ES} {a b : Int} (h : (a, b) ∈ downE E) : b < a := by simpa using (List.mem_filter.1 h).2

theorem rowD_succ {m : Nat} (h : 1 ≤ m) : rowD (m + 1) = rowD m ++ [((m : Int), (m : Int) - 1)] := by
  obtain ⟨k, rfl⟩ : ∃ k, m = k + 1 := ⟨m - 1, by omega⟩
  unfold rowD
  rw [show k + 1 + 1 - 1 = k + 1 by omega, show k + 1 - 1 = k by omega, List.range_succ, List.map_append]
  simp
theorem rowD_len (m : Nat) : (rowD m).length = m - 1 := by simp [rowD]
theorem rowF_len {m : Nat} (h : 1 ≤ m) : (rowF m).length = m := by simp [rowF, rowD_len]; omega
theorem rowF_in {m : Nat} (h : m ≤ 1000) : InE (rowF m) := by
  rintro ⟨a, b⟩ hq
  unfold rowF at hq
  rcases List.mem_append.1 hq with hq | hq
  · obtain ⟨h1, h2, h3⟩ := mem_rowD.1 hq
    unfold in64
    exact ⟨by dsimp only; omega, by dsimp only; omega⟩
  · simp at hq
    unfold in64
    exact ⟨by dsimp only; omega, by dsimp only; omega⟩
theorem rowD_in {m : Nat} (h : m ≤ 1000) : InE (rowD m) := fun q hq => rowF_in h q (by unfold rowF; simp [hq])
theorem row_base0 {W : World} {base base' : Nat} {e : TypeId} {size : Nat} {v : Value} {n : Nat} {xs : List Value} (h : W.ownsRow base e size v n xs) (hb : base' ≤ base) : W.ownsRow base' e size v n xs := row_base h hb
theorem upto_len (m : Nat) : (upto m).length = m := by simp [upto]

set_option maxRecDepth 100000 in
set_option maxHeartbeats 1000000 in
theorem row_calls (A : Option Addr) (n c : Nat) (x : Int) (w : World) (f : Nat → Nat → Int) (hA : ActsAt w w.heap.size 2 A n f) (_ : in64 x) :
    Calls Try.prog 6 #[.slice A n c, .int .i64 x] w fun e w' => e = .returned (.bool true) ∧ Below w.heap.size w w' := by
  by_cases h60 : 60 < n
  · have hz : (60 : Int) < (n : Int) := by omega
    clear hA
    go_enter Try.func6, Try.ntmps6
    go_wp2_with fail
    refine (awake_calls w).mono ?_
    rintro e w1 ⟨rfl, hF1⟩
    go_wp2_with fail
    go_ret
    exact ⟨rfl, hF1.to_below⟩
  · have hz : (n : Int) ≤ (60 : Int) := by omega
    obtain ⟨i0, hi, hy0, hy1, hy2⟩ := info_parts infoEdge
    have hE := pairsE_in hA
    have HE := Lib.hid hE
    have HA := Lib.hid hA
    have hn60 : n ≤ 60 := by omega
    have hbd := mod_bd x 39 (by omega) (by omega)
    obtain ⟨m, hm⟩ : ∃ m : Nat, 2 + wrap64 ((IntKind.u64.wrap x).tmod 39) = (m : Int) := ⟨(2 + wrap64 ((IntKind.u64.wrap x).tmod 39)).toNat, by omega⟩
    have hm2 : 2 ≤ m := by omega
    have hm41 : m ≤ 41 := by omega
    have hzd : decide ((60 : Int) < (n : Int)) = false := by simp; omega
    clear hA hE hbd
    go_enter Try.func6, Try.ntmps6
    go_wp2_with fail
    refine (awake_calls w).mono ?_
    rintro e w1 ⟨rfl, hF1⟩
    have hs1 := hF1.size
    have hr0 := w1.ownsRow_lit (e := 38) (size := 2) (base := w1.heap.size) #[] 0 (Nat.le_refl _) (by omega) rfl
    have hF2 := hF1.alloc (.cells #[] 38)
    clear hF1
    go_wp2_with fail
    go_loopg [5, 6] n (fun g u i wr => ∃ k : Nat, i = .int .i64 k ∧ k ≤ n ∧ g = n - k ∧ wr.ownsRow w.heap.size 38 2 u (downE (pairsE f k)).length (ecells (downE (pairsE f k))) ∧ Fr (fun _ => False) w wr)
    case atStart => exact ⟨0, rfl, by omega, by omega, row_base0 hr0 hs1, hF2⟩
    case round =>
      obtain ⟨k, rfl, hk, rfl, hra, hF⟩ := hrel
      clear hr0 hF2 hm
      have hsz := hF.size
      have hle := downE_le (pairsE f k)
      rw [pairsE_len] at hle
      by_cases hlt : k < n
      · obtain ⟨b, off, rfl, hbb, hc⟩ := HA.out k hlt
        obtain ⟨_, a0⟩ := hc 0 (by omega)
        obtain ⟨_, a1⟩ := hc 1 (by omega)
        rw [← hF.cell (p := ⟨b, _, none⟩) hbb (fun h => h)] at a0 a1
        rw [Nat.add_zero] at a0
        have hltz : (k : Int) < (n : Int) := by omega
        have q1 : (0 : Int) ≤ (k : Int) := by omega
        have hnA' : u5.ownBlock ≠ some b := fun e => by have := (hra.lt _ e).1; omega
        have hblt : b < wr.heap.size := by omega
        have HF := Lib.hid hF
        have HR := Lib.hid hra
        clear hF hra hc
        by_cases hgt : f k 1 < f k 0
        · have hgt1 : decide (f k 1 < f k 0) = true := by simpa using hgt
          go_wp2_with fail
          go_quiet (fail)
          have hFq : Fr (fun _ => False) w (wr.drewN nq) := ⟨HF.out.os, HF.out.tape, HF.out.output, HF.out.size, HF.out.block⟩
          have hRq : (wr.drewN nq).ownsRow w.heap.size 38 2 u5 _ _ := HR.out
          have a0' : (wr.drewN nq).cell? ⟨b, off + k * 2, none⟩ = some (.int .i64 (f k 0)) := a0
          have a1' : (wr.drewN nq).cell? ⟨b, off + k * 2 + 1, none⟩ = some (.int .i64 (f k 1)) := a1
          generalize hWq : wr.drewN nq = wq at *
          have hszq : w.heap.size ≤ wq.heap.size := hFq.size
          have hbq : b < wq.heap.size := by omega
          have hlow := hRq.lt
          clear hWq a0 a1 hsz hblt
          go_wp2_with fail
          go_region_held3 (fun w' => w'.cell? ⟨b, off + k * 2, none⟩ = some (.int .i64 (f k 0)) ∧ w'.cell? ⟨b, off + k * 2 + 1, none⟩ = some (.int .i64 (f k 1)))
            (first
              | go_keep
              | (go_split_ands
                 refine ⟨?_, ?_⟩
                 · (rw [hgrow.cell_far _ (by simp; omega) (Ne.symm hnA')]; assumption)
                 · (rw [hgrow.cell_far _ (by simp; omega) (Ne.symm hnA')]; assumption)))
            ((refine step_append_lies _ (by rfl) _ _ _ (by rfl) w.heap.size 38 i0 _ 2 16 Try.underlying24 hi hy0 hy1 hy2 rfl (by omega) u5 (downE (pairsE f k)).length (ecells (downE (pairsE f k))) (by rfl) ((hRq.alloc _).drew)
                ⟨wq.heap.size, 0, none⟩ 1 1 [.int .i64 (f k 0), .int .i64 (f k 1)] (by rfl) (by rfl) (World.news_of_block (cs := #[.int .i64 (f k 0), .int .i64 (f k 1)]) (t := 38) (fr := (0, 0)) (heap_alloc_new wq _)) (by simp [Value.oneCell'])
                (by omega) (by unfold maxLen; omega) (by omega) (by simp; omega) (wq.heap.size + 1) (by simp) ?_; intro gg cap w1 hown1 hgrow hat hlt1))
          have hFg := (((Fr.refl (fun bl => u5.ownBlock = some bl) wq).alloc (.cells #[.int .i64 (f k 0), .int .i64 (f k 1)] 38)).drew).grown hgrow (fun b hb => .inl hb)
          have hFn := hFq.trans hFg (fun b hb e => by have := (hlow _ e).1; omega)
          clear a0' a1' hat hFg hFq
          go_wp2_with fail
          go_roundg (n - (k + 1))
          case measure => omega
          case rel => exact ⟨k + 1, by go_num, by omega, rfl, by rw [pairsE_succ, downE_snoc, if_pos hgt, ecells_append, List.length_append]; exact hown1, hFn⟩
        · have hgt1 : decide (f k 1 < f k 0) = false := by simpa using hgt
          go_wp2_with fail
          go_quiet (fail)
          have hFq : Fr (fun _ => False) w (wr.drewN nq) := ⟨HF.out.os, HF.out.tape, HF.out.output, HF.out.size, HF.out.block⟩
          have hRq : (wr.drewN nq).ownsRow w.heap.size 38 2 u5 _ _ := HR.out
          have HFQ := Lib.hid hFq
          have HRQ := Lib.hid hRq
          clear hFq hRq
          go_wp2_with fail
          go_roundg (n - (k + 1))
          case measure => omega
          case rel => exact ⟨k + 1, by go_num, by omega, rfl, by rw [pairsE_succ, downE_snoc, if_neg (Int.not_lt.2 hgt), List.append_nil]; exact HRQ.out, HFQ.out⟩
      · obtain rfl : k = n := by omega
        have hltz : (k : Int) ≤ (k : Int) := by omega
        have hD := downE_in HE.out
        generalize hEE : downE (pairsE f k) = D at hra hle hD
        have hdn := down_none (E := D) (fun a b h => by rw [← hEE] at h; exact downE_down h)
        have HD := Lib.hid hD
        have HDN := Lib.hid hdn
        have hR0 := edgerow_of hra
        clear hra hEE hD hdn
        go_wp2_with fail
        refine (StuckK_calls _ _ D hR0 HD.out (by omega)).mono ?_
        rintro e w3 ⟨u3, l3, rfl, hS3, hr3, hF3⟩
        obtain rfl := hS3.uniq HDN.out.1 (fun _ _ => Iff.rfl)
        obtain ⟨A3, c3, rfl⟩ := rowN hr3
        have hR3 := hR0.fr hF3 (fun _ _ e => e)
        have hFa := hF.trans hF3 (fun _ _ h => h)
        clear hS3 hr3 hR0 hF hF3
        simp only [List.length_nil]
        go_wp2_with fail
        refine (VictimsK_calls _ _ D hR3 HD.out (by omega)).mono ?_
        rintro e w4 ⟨u4, l4, rfl, hS4, hr4, hF4⟩
        obtain rfl := hS4.uniq HDN.out.2 (fun _ _ => Iff.rfl)
        obtain ⟨A4, c4, rfl⟩ := rowN hr4
        have hFb := (hFa.trans hF4 (fun _ _ h => h)).alloc (.cells #[] 38)
        have hsb := hFb.size
        have hr40 := w4.ownsRow_lit (e := 38) (size := 2) (base := w.heap.size) #[] 0 (by have := (hFa.trans hF4 (fun _ _ h => h)).size; omega) (by omega) rfl
        clear hS4 hr4 hR3 hF4 hFa
        simp only [List.length_nil]
        go_wp2_with fail
        go_loopg [7, 8] (m - 1) (fun g u i wr => ∃ k : Nat, i = .int .i64 k ∧ 1 ≤ k ∧ k ≤ m ∧ g = m - k ∧ wr.ownsRow w.heap.size 38 2 u (rowD k).length (ecells (rowD k)) ∧ Fr (fun _ => False) w wr)
        case atStart => exact ⟨1, rfl, by omega, by omega, by omega, hr40, hFb⟩
        case round =>
          obtain ⟨i, rfl, hi1, him, rfl, hra, hF⟩ := hrel
          clear hr40 hFb hsb
          have hlow := hra.lt
          have hszq := hF.size
          have hrl := rowD_len i
          by_cases hlt : i < m
          · have hltz : (i : Int) < (m : Int) := by omega
            have HF := Lib.hid hF
            clear hF
            go_wp2_with (at_builtin; refine wpList_append_own _ rfl (.tmp 69) (.tmp 74) 24 rfl w.heap.size 38 i0 _ 2 16 Try.underlying24 hi hy0 hy1 hy2 rfl (by decide) _ _ _ rfl (hra.alloc _) ⟨wr.heap.size, 0, none⟩ 1 1 [.int .i64 (i : Int), .int .i64 ((i : Int) - 1)] rfl rfl (news2 wr 38 _ _) (one2 _ _) (by unfold maxLen; omega) (by omega) (by rw [World.size_alloc]; omega) ?_; intro v1 w1 hown1 hgrow1 _hn1; clear _hn1)
            have hFg := ((Fr.refl (fun bl => u7.ownBlock = some bl) wr).alloc (.cells #[.int .i64 (i : Int), .int .i64 ((i : Int) - 1)] 38)).grown hgrow1 (fun b hb => .inl hb)
            have hFn := HF.out.trans hFg (fun b hb e => by have := (hlow _ e).1; omega)
            go_roundg (m - (i + 1))
            case measure => omega
            case rel => exact ⟨i + 1, by go_num, by omega, by omega, rfl, by rw [rowD_succ hi1, ecells_append, List.length_append]; exact hown1, hFn⟩
          · obtain rfl : i = m := by omega
            have hltz : (i : Int) ≤ (i : Int) := by omega
            have hrl' : (rowD i).length ≤ 60 := by omega
            have hR0 := edgerow_of hra
            clear hrl
            go_wp2_with fail
            refine (StuckK_calls _ _ (rowD i) hR0 (rowD_in (by omega)) (by omega)).mono ?_
            rintro e w5 ⟨u5, l5, rfl, hS5, hr5, hF5⟩
            obtain rfl := hS5.uniq row_down.1 (fun _ _ => Iff.rfl)
            obtain ⟨A5, c5, rfl⟩ := rowN hr5
            have hra5 := row_fr2 hra hF5 (fun _ _ e => e)
            have hF15 := hF.trans hF5 (fun _ _ h => h)
            have hs5 := hF15.size
            have hlow5 := hra5.lt
            clear hS5 hr5 hR0 hF hF5 hra
            simp only [List.length_nil]
            go_wp2_with (at_builtin; refine wpList_append_own _ rfl (.tmp 80) (.tmp 84) 24 rfl w.heap.size 38 i0 _ 2 16 Try.underlying24 hi hy0 hy1 hy2 rfl (by decide) _ _ _ rfl (hra5.alloc _) ⟨w5.heap.size, 0, none⟩ 1 1 [.int .i64 0, .int .i64 ((i : Int) - 1)] rfl rfl (news2 w5 38 _ _) (one2 _ _) (by unfold maxLen; omega) (by omega) (by rw [World.size_alloc]; omega) ?_; intro v6 w6 hown6 hgrow6 _hn6; clear _hn6)
            have hFg := ((Fr.refl (fun bl => u7.ownBlock = some bl) w5).alloc (.cells #[.int .i64 0, .int .i64 ((i : Int) - 1)] 38)).grown hgrow6 (fun b hb => .inl hb)
            have hF16 := hF15.trans hFg (fun b hb e => by have := (hlow5 _ e).1; omega)
            have hR6 : EdgeRow w6 v6 (rowF i) := edgerow_of (base := w.heap.size) (by
              unfold rowF
              rw [ecells_append, List.length_append]
              exact hown6)
            have hI := rowF_in (m := i) (by omega)
            have hfl := rowF_len (m := i) (by omega)
            have hfl' : (rowF i).length ≤ 60 := by omega
            have HI := Lib.hid hI
            have HFL := Lib.hid hfl
            clear hown6 hgrow6 hFg hF15 hra5 hlow5 hI hfl hlow
            refine (Victim_calls _ _ (rowF i) hR6 HI.out (by omega)).mono ?_
            rintro e w7 ⟨l7, k7, is7, rfl, hS7, hv1, hv2, hF7⟩
            obtain rfl := hS7.uniq (row_stuck hm2) (fun _ _ => Iff.rfl)
            have hul := upto_last (m := i) (by omega)
            obtain rfl : is7 = true := by
              cases is7 with
              | true => rfl
              | false => have := (hv2 rfl).1; rw [this] at hul; cases hul
            obtain rfl : k7 = (i : Int) - 1 := by have := hv1 rfl; rw [hul] at this; exact (Option.some.inj this).symm
            have hR7 := hR6.fr hF7 (fun _ _ e => e)
            have hF17 := hF16.trans hF7 (fun _ _ h => h)
            clear hS7 hv1 hv2 hul hF7 hF16 hR6
            go_wp2_with fail
            refine (StuckK_calls _ _ (rowF i) hR7 HI.out (by omega)).mono ?_
            rintro e w8 ⟨u8, l8, rfl, hS8, hr8, hF8⟩
            obtain rfl := hS8.uniq (row_stuck hm2) (fun _ _ => Iff.rfl)
            obtain ⟨A8, c8, rfl⟩ := rowN hr8
            have hR8 := hR7.fr hF8 (fun _ _ e => e)
            have hF18 := hF17.trans hF8 (fun _ _ h => h)
            clear hS8 hr8 hF8 hF17 hR7
            simp only [upto_len]
            have hbb : ((i : Int) == (i : Int)) = true := by simp
            have hbc : ((i : Int) - 1 == (i : Int) - 1) = true := by simp
            go_wp2_with fail
            refine (VictimsK_calls _ _ (rowF i) hR8 HI.out (by omega)).mono ?_
            rintro e w9 ⟨u9, l9, rfl, hS9, hr9, hF9⟩
            obtain rfl := hS9.uniq (row_victims hm2) (fun _ _ => Iff.rfl)
            obtain ⟨A9, c9, rfl⟩ := rowN hr9
            have hF19 := hF18.trans hF9 (fun _ _ h => h)
            clear hS9 hr9 hF9 hF18 hR8
            simp only [List.length_cons, List.length_nil, Nat.zero_add]
            go_wp2_with fail
            go_ret
            exact ⟨rfl, hF19.to_below⟩

end Go.Proofs.Ytofnenemjbccgaa
