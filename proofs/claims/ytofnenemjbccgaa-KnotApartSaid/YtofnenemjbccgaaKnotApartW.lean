/- KnotApart: the walk. -/
import Derived.Test.YtofnenemjbccgaaKnotM
import Derived.IntWalk
namespace Go.Proofs.Ytofnenemjbccgaa
open Go.Maps Go.RowKit

def md (x : Int) : Int := wrap64 ((IntKind.u64.wrap x).tmod 50)
theorem md_i64 (x : Int) : IntKind.i64.wrap ((IntKind.u64.wrap x).tmod 50) = md x := IntWalk.i64_left _
theorem md_bd (x : Int) : 0 ≤ md x ∧ md x < 50 := mod_bd x 50 (by omega) (by omega)

def lowE (f : Nat → Nat → Int) (n : Nat) : ES := (List.range n).map fun i => (md (f i 0), md (f i 1))
def highE (f : Nat → Nat → Int) (n : Nat) : ES := (List.range n).map fun i => (50 + md (f i 0), 50 + md (f i 1))
theorem lowE_succ (f : Nat → Nat → Int) (n : Nat) : lowE f (n + 1) = lowE f n ++ [(md (f n 0), md (f n 1))] := by simp [lowE, List.range_succ]
theorem highE_succ (f : Nat → Nat → Int) (n : Nat) : highE f (n + 1) = highE f n ++ [(50 + md (f n 0), 50 + md (f n 1))] := by simp [highE, List.range_succ]
theorem lowE_len (f : Nat → Nat → Int) (n : Nat) : (lowE f n).length = n := by simp [lowE]
theorem highE_len (f : Nat → Nat → Int) (n : Nat) : (highE f n).length = n := by simp [highE]
theorem lowE_bd {f : Nat → Nat → Int} {n : Nat} {a b : Int} (h : (a, b) ∈ lowE f n) : (0 ≤ a ∧ a < 50) ∧ (0 ≤ b ∧ b < 50) := by
  obtain ⟨i, _, e⟩ := List.mem_map.1 h
  cases e
  exact ⟨md_bd _, md_bd _⟩
theorem highE_bd {f : Nat → Nat → Int} {n : Nat} {a b : Int} (h : (a, b) ∈ highE f n) : (50 ≤ a ∧ a < 100) ∧ (50 ≤ b ∧ b < 100) := by
  obtain ⟨i, _, e⟩ := List.mem_map.1 h
  cases e
  have := md_bd (f i 0)
  have := md_bd (f i 1)
  exact ⟨⟨by omega, by omega⟩, by omega, by omega⟩
theorem lowE_in {f : Nat → Nat → Int} {n : Nat} : InE (lowE f n) := by
  rintro ⟨a, b⟩ hq
  have := lowE_bd hq
  unfold in64
  exact ⟨by dsimp only; omega, by dsimp only; omega⟩
theorem highE_in {f : Nat → Nat → Int} {n : Nat} : InE (highE f n) := by
  rintro ⟨a, b⟩ hq
  have := highE_bd hq
  unfold in64
  exact ⟨by dsimp only; omega, by dsimp only; omega⟩

set_option maxRecDepth 100000 in
set_option maxHeartbeats 3000000 in
theorem apart_calls (A : Option Addr) (n c : Nat) (A' : Option Addr) (n' c' : Nat) (w : World) (f : Nat → Nat → Int) (hA : ActsAt w w.heap.size 2 A n f) (f' : Nat → Nat → Int) (hA' : ActsAt w w.heap.size 2 A' n' f') :
    Calls Try.prog 7 #[.slice A n c, .slice A' n' c'] w fun e w' => e = .returned (.bool true) ∧ Below w.heap.size w w' := by
  by_cases h30 : 30 < n ∨ 30 < n'
  · clear hA hA'
    by_cases h1 : 30 < n
    · have hz : (30 : Int) < (n : Int) := by omega
      have hzd : decide ((30 : Int) < (n : Int)) = true := by simp; omega
      go_enter Try.func7, Try.ntmps7
      go_wp2_with fail
      refine (awake_calls w).mono ?_
      rintro e w1 ⟨rfl, hF1⟩
      go_wp2_with fail
      go_ret
      exact ⟨rfl, hF1.to_below⟩
    · have h2 : 30 < n' := by omega
      have hzd : decide ((30 : Int) < (n : Int)) = false := by simp; omega
      have hzd' : decide ((30 : Int) < (n' : Int)) = true := by simp; omega
      go_enter Try.func7, Try.ntmps7
      go_wp2_with fail
      refine (awake_calls w).mono ?_
      rintro e w1 ⟨rfl, hF1⟩
      go_wp2_with fail
      go_ret
      exact ⟨rfl, hF1.to_below⟩
  · have hzd : decide ((30 : Int) < (n : Int)) = false := by simp; omega
    have hzd' : decide ((30 : Int) < (n' : Int)) = false := by simp; omega
    obtain ⟨i0, hi, hy0, hy1, hy2⟩ := info_parts infoEdge
    have HA := Lib.hid hA
    have HA' := Lib.hid hA'
    have hn30 : n ≤ 30 := by omega
    have hn30' : n' ≤ 30 := by omega
    clear hA hA' h30
    go_enter Try.func7, Try.ntmps7
    go_wp2_with fail
    refine (awake_calls w).mono ?_
    rintro e w1 ⟨rfl, hF1⟩
    have hs1 := hF1.size
    have hr1 := (w1.ownsRow_lit (e := 38) (size := 2) (base := w.heap.size) #[] 0 hs1 (by omega) rfl).alloc (.cells #[] 38)
    have hr2 := (w1.alloc (.cells #[] 38)).ownsRow_lit (e := 38) (size := 2) (base := w.heap.size) #[] 0 (by rw [World.size_alloc]; omega) (by omega) rfl
    rw [World.size_alloc] at hr2
    have hF2 := (hF1.alloc (.cells #[] 38)).alloc (.cells #[] 38)
    have hs2 : w1.heap.size + 1 < ((w1.alloc (.cells #[] 38)).alloc (.cells #[] 38)).heap.size := by rw [World.size_alloc, World.size_alloc]; omega
    clear hF1
    go_wp2_with fail
    go_loopg [5, 7] n (fun g u i wr => ∃ k gl cap : Nat, i = .int .i64 k ∧ k ≤ n ∧ g = n - k ∧ u = .slice (some ⟨gl, 0, none⟩) k cap ∧ wr.ownsRow w.heap.size 38 2 u k (ecells (lowE f k)) ∧ gl ≠ w1.heap.size + 1 ∧ w1.heap.size + 1 < wr.heap.size ∧ wr.ownsRow w.heap.size 38 2 (.slice (some ⟨w1.heap.size + 1, 0, none⟩) 0 0) 0 [] ∧ Fr (fun _ => False) w wr)
    case atStart => exact ⟨0, _, _, rfl, by omega, by omega, rfl, hr1, by omega, hs2, hr2, hF2⟩
    case round =>
      obtain ⟨k, gl, cap, rfl, hk, rfl, rfl, hra, hgl, hsm, hrm, hF⟩ := hrel
      clear hr1 hr2 hF2 hs2
      have hsz := hF.size
      by_cases hlt : k < n
      · obtain ⟨b, off, rfl, hbb, hc⟩ := HA.out k hlt
        obtain ⟨_, a0⟩ := hc 0 (by omega)
        obtain ⟨_, a1⟩ := hc 1 (by omega)
        rw [← hF.cell (p := ⟨b, _, none⟩) hbb (fun h => h)] at a0 a1
        rw [Nat.add_zero] at a0
        have hltz : (k : Int) < (n : Int) := by omega
        have q1 : (0 : Int) ≤ (k : Int) := by omega
        have hnA' : b ≠ gl := fun e => by have := (hra.lt gl rfl).1; omega
        have hblt : b < wr.heap.size := by omega
        have HF := Lib.hid hF
        have HM := Lib.hid hrm
        have m0 := md_bd (f k 0)
        have m1 := md_bd (f k 1)
        have e0 : IntKind.i64.wrap ((IntKind.u64.wrap (f k 0)).tmod 50) = md (f k 0) := md_i64 _
        have e1 : IntKind.i64.wrap ((IntKind.u64.wrap (f k 1)).tmod 50) = md (f k 1) := md_i64 _
        clear hF hrm hc
        go_wp2_with fail
        go_region_held3 (fun w' => w'.cell? ⟨b, off + k * 2, none⟩ = some (.int .i64 (f k 0)) ∧ w'.cell? ⟨b, off + k * 2 + 1, none⟩ = some (.int .i64 (f k 1)))
            (first
              | go_keep
              | (go_split_ands
                 refine ⟨?_, ?_⟩
                 · (rw [hgrow.cell_far _ (by simp; omega) (by simp [Value.ownBlock]; omega)]; assumption)
                 · (rw [hgrow.cell_far _ (by simp; omega) (by simp [Value.ownBlock]; omega)]; assumption)))
            ((refine step_append_lies _ (by rfl) _ _ _ (by rfl) w.heap.size 38 i0 _ 2 16 Try.underlying24 hi hy0 hy1 hy2 rfl (by omega) (.slice (some ⟨gl, 0, none⟩) k cap) k (ecells (lowE f k)) (by rfl) ((hra.alloc _).drew)
                ⟨wr.heap.size, 0, none⟩ 1 1 [.int .i64 (md (f k 0)), .int .i64 (md (f k 1))] (by rfl) (by rfl) (World.news_of_block (cs := #[.int .i64 (md (f k 0)), .int .i64 (md (f k 1))]) (t := 38) (fr := (0, 0)) (heap_alloc_new wr _)) (by simp [Value.oneCell'])
                (by omega) (by unfold maxLen; omega) (by omega) (by simp; omega) (wr.heap.size + 1) (by simp) ?_; intro gg cap2 w2 hown1 hgrow hat hlt1))
        have hFg := (((Fr.refl (fun bl => bl = gl) wr).alloc (.cells #[.int .i64 (md (f k 0)), .int .i64 (md (f k 1))] 38)).drew).grown hgrow (fun b hb => .inl (by simpa [Value.ownBlock] using hb.symm))
        have hFn := HF.out.trans hFg (fun b hb e => by have := (hra.lt gl rfl).1; omega)
        have hMn := row_fr2 HM.out hFg (fun g hg e => by
          have h2 : w1.heap.size + 1 = g := by simpa [Value.ownBlock] using hg
          omega)
        have hgn : gg ≠ w1.heap.size + 1 := by
          rcases hat with h | h
          · have : gl = gg := by simpa [Value.ownBlock] using h
            omega
          · omega
        have hsn : w1.heap.size + 1 < w2.heap.size := by have := hFg.size; omega
        have HFN := Lib.hid hFn
        have HMN := Lib.hid hMn
        clear a0 a1 hat hFg hFn hMn
        go_wp2_with fail
        go_roundg (n - (k + 1))
        case measure => omega
        case rel => exact ⟨k + 1, gg, cap2, by go_num, by omega, rfl, rfl, by rw [lowE_succ, ecells_append]; exact hown1, hgn, hsn, HMN.out, HFN.out⟩
      · obtain rfl : k = n := by omega
        have hltz : (k : Int) ≤ (k : Int) := by omega
        have hgl1 := Lib.hid hgl
        clear hlt hgl
        go_wp2_with fail
        have hglt : gl < wr.heap.size := (hra.lt gl rfl).2
        have hgw : w.heap.size ≤ gl := (hra.lt gl rfl).1
        have hgm : w1.heap.size + 1 ≠ gl := fun e => hgl1.out e.symm
        clear hsm
        go_loopg [6, 8] n' (fun g u i wr => ∃ k2 gm cap2 : Nat, i = .int .i64 k2 ∧ k2 ≤ n' ∧ g = n' - k2 ∧ u = .slice (some ⟨gm, 0, none⟩) k2 cap2 ∧ wr.ownsRow w.heap.size 38 2 u k2 (ecells (highE f' k2)) ∧ gm ≠ gl ∧ gl < wr.heap.size ∧ wr.ownsRow w.heap.size 38 2 (.slice (some ⟨gl, 0, none⟩) k cap) k (ecells (lowE f k)) ∧ Fr (fun _ => False) w wr)
        case atStart => exact ⟨0, _, _, rfl, by omega, by omega, rfl, hrm, hgm, hglt, hra, hF⟩
        case round =>
          obtain ⟨j, gm, capm, rfl, hj, rfl, rfl, hrb, hgm, hsm, hrl, hFb⟩ := hrel
          clear hra hrm hF hglt hsz
          have hsz := hFb.size
          by_cases hlt : j < n'
          · obtain ⟨b, off, rfl, hbb, hc⟩ := HA'.out j hlt
            obtain ⟨_, a0⟩ := hc 0 (by omega)
            obtain ⟨_, a1⟩ := hc 1 (by omega)
            rw [← hFb.cell (p := ⟨b, _, none⟩) hbb (fun h => h)] at a0 a1
            rw [Nat.add_zero] at a0
            have hltz : (j : Int) < (n' : Int) := by omega
            have q1 : (0 : Int) ≤ (j : Int) := by omega
            have hnA' : b ≠ gm := fun e => by have := (hrb.lt gm rfl).1; omega
            have hblt : b < wr.heap.size := by omega
            have HF := Lib.hid hFb
            have HM := Lib.hid hrl
            have m0 := md_bd (f' j 0)
            have m1 := md_bd (f' j 1)
            have e0 : IntKind.i64.wrap ((IntKind.u64.wrap (f' j 0)).tmod 50) = md (f' j 0) := md_i64 _
            have e1 : IntKind.i64.wrap ((IntKind.u64.wrap (f' j 1)).tmod 50) = md (f' j 1) := md_i64 _
            have e2 : IntKind.i64.wrap (50 + md (f' j 0)) = 50 + md (f' j 0) := IntWalk.i64_in _ (by omega)
            have e3 : IntKind.i64.wrap (50 + md (f' j 1)) = 50 + md (f' j 1) := IntWalk.i64_in _ (by omega)
            clear hFb hrl hc
            go_wp2_with fail
            go_region_held3 (fun w' => w'.cell? ⟨b, off + j * 2, none⟩ = some (.int .i64 (f' j 0)) ∧ w'.cell? ⟨b, off + j * 2 + 1, none⟩ = some (.int .i64 (f' j 1)))
                (first
                  | go_keep
                  | (go_split_ands
                     refine ⟨?_, ?_⟩
                     · (rw [hgrow.cell_far _ (by simp; omega) (by simp [Value.ownBlock]; omega)]; assumption)
                     · (rw [hgrow.cell_far _ (by simp; omega) (by simp [Value.ownBlock]; omega)]; assumption)))
                ((refine step_append_lies _ (by rfl) _ _ _ (by rfl) w.heap.size 38 i0 _ 2 16 Try.underlying24 hi hy0 hy1 hy2 rfl (by omega) (.slice (some ⟨gm, 0, none⟩) j capm) j (ecells (highE f' j)) (by rfl) ((hrb.alloc _).drew)
                    ⟨wr.heap.size, 0, none⟩ 1 1 [.int .i64 (50 + md (f' j 0)), .int .i64 (50 + md (f' j 1))] (by rfl) (by rfl) (World.news_of_block (cs := #[.int .i64 (50 + md (f' j 0)), .int .i64 (50 + md (f' j 1))]) (t := 38) (fr := (0, 0)) (heap_alloc_new wr _)) (by simp [Value.oneCell'])
                    (by omega) (by unfold maxLen; omega) (by omega) (by simp; omega) (wr.heap.size + 1) (by simp) ?_; intro gg cap2 w2 hown1 hgrow hat hlt1))
            have hFg := (((Fr.refl (fun bl => bl = gm) wr).alloc (.cells #[.int .i64 (50 + md (f' j 0)), .int .i64 (50 + md (f' j 1))] 38)).drew).grown hgrow (fun b hb => .inl (by simpa [Value.ownBlock] using hb.symm))
            have hFn := HF.out.trans hFg (fun b hb e => by have := (hrb.lt gm rfl).1; omega)
            have hMn := row_fr2 HM.out hFg (fun g hg e => by
              have h2 : gl = g := by simpa [Value.ownBlock] using hg
              omega)
            have hgn : gg ≠ gl := by
              rcases hat with h | h
              · have : gm = gg := by simpa [Value.ownBlock] using h
                omega
              · omega
            have hsn : gl < w2.heap.size := by have := hFg.size; omega
            have HFN := Lib.hid hFn
            have HMN := Lib.hid hMn
            clear a0 a1 hat hFg hFn hMn e0 e1 e2 e3
            go_wp2_with fail
            go_roundg (n' - (j + 1))
            case measure => omega
            case rel => exact ⟨j + 1, gg, cap2, by go_num, by omega, rfl, rfl, by rw [highE_succ, ecells_append]; exact hown1, hgn, hsn, HMN.out, HFN.out⟩
          · obtain rfl : j = n' := by omega
            have hltz : (j : Int) ≤ (j : Int) := by omega
            have hr0 := wr.ownsRow_lit (e := 38) (size := 2) (base := wr.heap.size) #[] 0 (Nat.le_refl _) (by omega) rfl
            have hn1 := fun i u hu => (erow_news (hrb.alloc (.cells #[] 38)) 0 j i u hu)
            rw [List.drop_zero, List.take_of_length_le (by rw [highE_len]; omega)] at hn1
            have HN1 := Lib.hid hn1
            have hn2 := fun (w' : World) (h : w'.ownsRow w.heap.size 38 2 (.slice (some ⟨gl, 0, none⟩) k cap) k (ecells (lowE f k))) i u hu => (erow_news h 0 k i u hu)
            rw [List.drop_zero, List.take_of_length_le (by rw [lowE_len]; omega)] at hn2
            have HN2 := Lib.hid hn2
            have HRB := Lib.hid hrb
            have HRL := Lib.hid hrl
            have HF := Lib.hid hFb
            have hll := ecells_len (lowE f k)
            have hlh := ecells_len (highE f' j)
            rw [lowE_len] at hll
            rw [highE_len] at hlh
            have HLL := Lib.hid hll
            have HLH := Lib.hid hlh
            have hgmlt := (hrb.lt gm rfl).2
            clear hll hlh hn1 hn2 hrb hrl hFb
            go_wp2_with (first
              | (at_builtin
                 refine wpList_append_own _ rfl (.tmp 79) (.tmp 80) 24 rfl wr.heap.size 38 i0 _ 2 16 Try.underlying24 hi hy0 hy1 hy2 rfl (by decide) (.slice (some ⟨wr.heap.size, 0, none⟩) 0 0) 0 [] rfl hr0 ⟨gm, 0 * 2, none⟩ j capm (ecells (highE f' j)) rfl HLH.out HN1.out (ecells_one _) (by unfold maxLen; omega) (by omega) (by rw [World.size_alloc]; omega) ?_
                 intro v1 w1' hown1 hgrow1 _hn1
                 clear _hn1
                 have hFa := ((Fr.refl (fun bl => bl = wr.heap.size) wr).alloc (.cells #[] 38)).grown hgrow1 (fun b hb => .inr (by cases hb; exact Nat.le_refl _))
                 have hs3 := hFa.size
                 have hla := row_fr2 HRL.out hFa (fun gg hg e => by
                   have h2 : gl = gg := by simpa [Value.ownBlock] using hg
                   omega)
                 have hma := row_fr2 HRB.out hFa (fun gg hg e => by
                   have h2 : gm = gg := by simpa [Value.ownBlock] using hg
                   omega)
                 have hlow1 := hown1.lt
                 have hFb := HF.out.trans hFa (fun b hb e => by omega)
                 simp only [List.nil_append, Nat.zero_add] at hown1
                 clear hgrow1 hFa)
              | (at_builtin
                 refine wpList_append_own _ rfl (.tmp 81) (.tmp 82) 24 rfl wr.heap.size 38 i0 _ 2 16 Try.underlying24 hi hy0 hy1 hy2 rfl (by decide) v1 j (ecells (highE f' j)) rfl hown1 ⟨gl, 0 * 2, none⟩ k cap (ecells (lowE f k)) rfl HLL.out (HN2.out _ hla) (ecells_one _) (by unfold maxLen; omega) (by omega) (by omega) ?_
                 intro v2 w2' hown2 hgrow2 _hn2
                 clear _hn2))
            have hFc := (Fr.refl (fun bl => v1.ownBlock = some bl) w1').grown hgrow2 (fun b hb => .inl hb)
            have hlc := row_fr2 hla hFc (fun gg hg e => by
              have h1 := (hlow1 _ e).1
              have h2 : gl = gg := by simpa [Value.ownBlock] using hg
              omega)
            have hmc := row_fr2 hma hFc (fun gg hg e => by
              have h1 := (hlow1 _ e).1
              have h2 : gm = gg := by simpa [Value.ownBlock] using hg
              omega)
            have hFd := hFb.trans hFc (fun b hb e => by have := (hlow1 _ e).1; omega)
            have hRl : EdgeRow w2' (.slice (some ⟨gl, 0, none⟩) k cap) (lowE f k) := edgerow_of (base := w.heap.size) (by rw [lowE_len]; exact hlc)
            have hRm : EdgeRow w2' (.slice (some ⟨gm, 0, none⟩) j capm) (highE f' j) := edgerow_of (base := w.heap.size) (by rw [highE_len]; exact hmc)
            have hRg : EdgeRow w2' v2 (highE f' j ++ lowE f k) := edgerow_of (base := wr.heap.size) (by rw [ecells_append, List.length_append, lowE_len, highE_len]; exact hown2)
            have hGin : InE (highE f' j ++ lowE f k) := fun q hq => by
              rcases List.mem_append.1 hq with h | h
              · exact highE_in _ h
              · exact lowE_in _ h
            have hGl : (highE f' j ++ lowE f k).length ≤ 1000 := by rw [List.length_append, lowE_len, highE_len]; omega
            have hlE : (lowE f k).length ≤ 1000 := by rw [lowE_len]; omega
            have hmE : (highE f' j).length ≤ 1000 := by rw [highE_len]; omega
            have HG := Lib.hid hGin
            clear hown2 hgrow2 hFc hFb hla hma hlc hmc hGin hlow1 hown1 hr0 HN1 HN2 HRB HRL HLL HLH
            refine (StuckK_calls _ _ _ hRg HG.out (by omega)).mono ?_
            rintro e w3 ⟨u3, ls, rfl, hSs, hrs, hF3⟩
            have hRl3 := hRl.fr hF3 (fun _ _ e => e)
            have hRm3 := hRm.fr hF3 (fun _ _ e => e)
            have hF4 := hFd.trans hF3 (fun _ _ h => h)
            have HSS := Lib.hid hSs
            clear hSs hRl hRm hRg hFd hF3
            go_wp2_with fail
            refine (StuckK_calls _ _ _ hRl3 lowE_in (by omega)).mono ?_
            rintro e w5 ⟨u5, lp, rfl, hSp, hrp, hF5⟩
            have hrs5 := row_keep hrs hF5
            have hRm5 := hRm3.fr hF5 (fun _ _ e => e)
            have hF6 := hF4.trans hF5 (fun _ _ h => h)
            have HSP := Lib.hid hSp
            have hlpl := stuck_len hSp
            clear hSp hRl3 hRm3 hF4 hF5 hrs
            go_wp2_with fail
            refine (StuckK_calls _ _ _ hRm5 highE_in (by omega)).mono ?_
            rintro e w7 ⟨u7, lq, rfl, hSq, hrq, hF7⟩
            have hrs7 := row_keep hrs5 hF7
            have hrp7 := row_keep hrp hF7
            have hF8 := hF6.trans hF7 (fun _ _ h => h)
            have hlql := stuck_len hSq
            have hap := apart_stuck HSP.out hSq (fun a b h => ⟨(lowE_bd h).1.2, (lowE_bd h).2.2⟩) (fun a b h => ⟨(highE_bd h).1.1, (highE_bd h).2.1⟩) (G := highE f' j ++ lowE f k) (fun a b => by rw [List.mem_append]; exact Or.comm)
            obtain rfl := HSS.out.uniq hap (fun _ _ => Iff.rfl)
            obtain ⟨As, cs, rfl, hcs⟩ := introw_of hrs7
            obtain ⟨Ap, cp, rfl, hcp⟩ := introw_of hrp7
            obtain ⟨Aq, cq, rfl, hcq⟩ := introw_of hrq
            have HS := Lib.hid hcs
            have HP := Lib.hid hcp
            have HQ := Lib.hid hcq
            have HF8 := Lib.hid hF8
            have hlen : (lp ++ lq).length = lp.length + lq.length := List.length_append
            rw [hlen]
            have hp1000 : lp.length ≤ 1000 := by omega
            have hq1000 : lq.length ≤ 1000 := by omega
            have hz1 : (((lp.length + lq.length : Nat) : Int) != (lp.length : Int) + (lq.length : Int)) = false := by simp
            clear hSq hrq hrs5 hrp hrs7 hrp7 hF6 hF7 hF8 hap hcs hcp hcq hRm5 hlen HA HA' hlpl hlql
            go_wp2_with fail
            go_loopg [12] (lp.length + lq.length) (fun g i wr' => ∃ (i' nq : Nat), i = .int .i64 i' ∧ i' ≤ lp.length + lq.length ∧ g = lp.length + lq.length - i' ∧ wr' = w7.drewN nq)
            case atStart => exact ⟨0, 0, rfl, by omega, by omega, rfl⟩
            case round =>
              obtain ⟨i, nq0, rfl, hi', rfl, rfl⟩ := hrel
              clear hz1
              by_cases hlt : i < lp.length + lq.length
              · have hltz : (i : Int) < ((lp.length + lq.length : Nat) : Int) := by omega
                have q1 : (0 : Int) ≤ (i : Int) := by omega
                by_cases hp : i < lp.length
                · have ho : lp[i]? = some lp[i] := List.getElem?_eq_getElem hp
                  have hos : (lp ++ lq)[i]? = some lp[i] := by rw [List.getElem?_append_left hp]; exact ho
                  generalize lp[i] = x at ho hos
                  obtain ⟨gs, rfl, _, asx⟩ := HS.out i x hos
                  obtain ⟨gp, rfl, _, ap⟩ := HP.out i x ho
                  have hpz : (i : Int) < (lp.length : Int) := by omega
                  have d1 : decide ((i : Int) < (lp.length : Int)) = true := by simpa using hp
                  have d2 : decide ((lp.length : Int) ≤ (i : Int)) = false := by simpa using hp
                  have d3 : decide (lp.length ≤ i) = false := by simpa using hp
                  have d4 : decide (i < lp.length) = true := by simpa using hp
                  have hne : (x != x) = false := by simp
                  clear ho hos
                  go_wp2_with fail
                  go_quiet (fail)
                  go_wp2_with fail
                  go_roundg (lp.length + lq.length - (i + 1))
                  case measure => omega
                  case rel => exact ⟨i + 1, nq0 + nq, by go_num, by omega, rfl, rfl⟩
                · obtain ⟨d, hd⟩ : ∃ d : Nat, i - lp.length = d := ⟨_, rfl⟩
                  have hdl : d < lq.length := by omega
                  have ho : lq[d]? = some lq[d] := List.getElem?_eq_getElem hdl
                  have hos : (lp ++ lq)[i]? = some lq[d] := by rw [List.getElem?_append_right (by omega), hd]; exact ho
                  generalize lq[d] = x at ho hos
                  obtain ⟨gs, rfl, _, asx⟩ := HS.out i x hos
                  obtain ⟨gq, rfl, _, aq⟩ := HQ.out d x ho
                  have d1 : decide ((i : Int) < (lp.length : Int)) = false := by simpa using hp
                  have d2 : decide ((lp.length : Int) ≤ (i : Int)) = true := by simpa using hp
                  have d3 : decide (lp.length ≤ i) = true := by simpa using hp
                  have d4 : decide (i < lp.length) = false := by simpa using hp
                  have ez : (i : Int) - (lp.length : Int) = (d : Int) := by omega
                  have ew : IntKind.i64.wrap ((i : Int) - (lp.length : Int)) = (d : Int) := by rw [ez]; exact IntWalk.i64_in _ (by omega)
                  have q2 : (0 : Int) ≤ (d : Int) := by omega
                  have q3 : (d : Int) < (lq.length : Int) := by omega
                  have hne : (x != x) = false := by simp
                  clear ho hos hd ez
                  go_wp2_with fail
                  go_quiet (fail)
                  clear ew
                  go_wp2_with fail
                  go_roundg (lp.length + lq.length - (i + 1))
                  case measure => omega
                  case rel => exact ⟨i + 1, nq0 + nq, by go_num, by omega, rfl, rfl⟩
              · obtain rfl : i = lp.length + lq.length := by omega
                have hltz : ((lp.length + lq.length : Nat) : Int) ≤ ((lp.length + lq.length : Nat) : Int) := by omega
                go_wp2_with fail
                go_ret
                exact ⟨rfl, below_drews HF8.out.to_below nq0⟩

end Go.Proofs.Ytofnenemjbccgaa
