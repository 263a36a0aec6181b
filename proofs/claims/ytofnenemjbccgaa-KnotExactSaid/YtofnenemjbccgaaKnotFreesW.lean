/- KnotFrees: the walk. -/
import Derived.Test.YtofnenemjbccgaaKnotF
namespace Go.Proofs.Ytofnenemjbccgaa
open Go.Maps Go.RowKit

theorem vict_len {E : ES} {vs : List Int} (h : IsVictims E vs) : vs.length ≤ E.length := by
  induction h with
  | nil _ => simp
  | @cons E l k vs h1 h2 _ ih =>
    obtain ⟨c, hc⟩ := ((h1.2 k).1 (List.mem_of_getLast? h2)).first
    have : (without k E).length < E.length := by
      unfold without
      exact List.length_filter_lt_length_iff_exists.2 ⟨(k, c), hc, by simp⟩
    simp only [List.length_cons]
    omega

theorem pairsE_in {w : World} {B n : Nat} {A : Option Addr} {f : Nat → Nat → Int} (h : ActsAt w B 2 A n f) : InE (pairsE f n) := by
  intro q hq
  unfold pairsE at hq
  obtain ⟨i, hi, rfl⟩ := List.mem_map.1 hq
  obtain ⟨_, _, _, _, hc⟩ := h i (by simpa using hi)
  exact ⟨(hc 0 (by omega)).1, (hc 1 (by omega)).1⟩

theorem leftE_in {E : ES} {vs : List Int} (h : InE E) : InE (leftE vs E) := fun q hq => h q (List.mem_filter.1 hq).1

theorem ActsAt.fr {w w' : World} {B m n : Nat} {A : Option Addr} {f : Nat → Nat → Int} (h : ActsAt w B m A n f) (hB : B ≤ w.heap.size) (hF : Fr (fun _ => False) w w') : ActsAt w' B m A n f := fun i hi => by
  obtain ⟨b, off, rfl, hb, hc⟩ := h i hi
  exact ⟨b, off, rfl, hb, fun j hj => ⟨(hc j hj).1, (hF.cell (p := ⟨b, _, none⟩) (by show b < _; omega) (fun e => e)).trans (hc j hj).2⟩⟩

theorem rowN {w' : World} {v : Value} {l : List Int} {base : Nat} (h : w'.ownsRow base 3 1 v l.length (ivs l)) : ∃ A cap, v = .slice A l.length cap := by
  obtain ⟨A, cap, h, _⟩ := introw_of h
  exact ⟨A, cap, h⟩

theorem row_drop {w : World} {v : Value} {l : List Int} {base : Nat} (h : w.ownsRow base 3 1 v l.length (ivs l)) (hne : l ≠ []) : ∃ g cap, v = .slice (some ⟨g, 0, none⟩) l.length cap ∧ l.length ≤ cap ∧ IntRow w (.slice (some ⟨g, 0, none⟩) (l.length - 1) cap) l.dropLast := by
  rcases id h.2 with ⟨rfl, h0⟩ | ⟨g, cap, cur, rfl, hg, hgr, hcur, hr⟩
  · cases l with
    | nil => exact absurd rfl hne
    | cons a r => simp at h0
  · refine ⟨g, cap, rfl, ?_, some ⟨g, 0, none⟩, cap, by rw [List.length_dropLast], fun i q hi => ⟨g, rfl, (Array.getElem?_eq_some_iff.1 hgr).1, ?_⟩⟩
    · exact hcur
    · rw [List.getElem?_dropLast] at hi
      split at hi
      · rw [h.cellAt i (by omega)]
        simp [ivs, hi]
      · cases hi

set_option maxHeartbeats 1000000 in
theorem frees_calls (A : Option Addr) (n c : Nat) (w : World) (f : Nat → Nat → Int) (hA : ActsAt w w.heap.size 2 A n f) :
    Calls Try.prog 4 #[.slice A n c] w fun e w' => e = .returned (.bool true) ∧ Below w.heap.size w w' := by
  by_cases h60 : 60 < n
  · have hz : (60 : Int) < (n : Int) := by omega
    clear hA
    go_enter Try.func4, Try.ntmps4
    go_wp2_with fail
    refine (awake_calls w).mono ?_
    rintro e w1 ⟨rfl, hF1⟩
    go_wp2_with fail
    go_ret
    exact ⟨rfl, hF1.to_below⟩
  · have hz : (n : Int) ≤ (60 : Int) := by omega
    have hE := pairsE_in hA
    have hlen := pairsE_len f n
    generalize hEE : pairsE f n = E at hE hlen
    have HE := Lib.hid hE
    have HEE := Lib.hid hEE
    have HA := Lib.hid hA
    have hl60 : E.length ≤ 60 := by omega
    clear hA hE hEE hlen
    go_enter Try.func4, Try.ntmps4
    go_wp2_with fail
    refine (awake_calls w).mono ?_
    rintro e w1 ⟨rfl, hF1⟩
    have hs1 := hF1.size
    go_wp2_with fail
    refine (edges_calls w1 w.heap.size hs1 A n c f (HA.out.fr (Nat.le_refl _) hF1) (by omega)).mono ?_
    rw [HEE.out]
    rintro e w2 ⟨va, vb, rfl, ha, -, hF2⟩
    have hR2 := edgerow_of ha
    have hF12 := hF1.trans hF2 (fun _ _ h => h)
    clear ha hF1 hF2 hs1
    go_wp2_with fail
    refine (VictimsK_calls _ _ E hR2 HE.out (by omega)).mono ?_
    rintro e w3 ⟨u, vs, rfl, hvs, hr3, hF3⟩
    have hR3 := hR2.fr hF3 (fun _ _ e => e)
    have hF13 := hF12.trans hF3 (fun _ _ h => h)
    have hvl := vict_len hvs
    have hVS := Lib.hid hvs
    clear hR2 hF12 hF3 hvs
    go_wp2_with fail
    refine (left_calls _ _ _ E vs hR3 (introw_of hr3) (by omega) (by omega)).mono ?_
    rintro e w4 ⟨u4, rfl, hr4, hF4⟩
    have hR4 := hR3.fr hF4 (fun _ _ e => e)
    have hr34 := row_keep hr3 hF4
    have hF14 := hF13.trans hF4 (fun _ _ h => h)
    have hL4 := edgerow_of hr4
    have hll := leftE_le vs E
    clear hR3 hr3 hF13 hF4 hr4
    go_wp2_with fail
    refine (StuckK_calls _ _ _ hL4 (leftE_in HE.out) (by omega)).mono ?_
    rintro e w5 ⟨u5, l5, rfl, hS5, hr5, hF5⟩
    have hR5 := hR4.fr hF5 (fun _ _ e => e)
    have hr35 := row_keep hr34 hF5
    have hF15 := hF14.trans hF5 (fun _ _ h => h)
    obtain rfl := hS5.uniq (frees_all hVS.out) (fun _ _ => Iff.rfl)
    obtain ⟨A5, c5, rfl⟩ := rowN hr5
    clear hR4 hr34 hF14 hF5 hL4 hS5 hr5
    simp only [List.length_nil]
    rcases List.eq_nil_or_concat vs with rfl | ⟨vs', x, rfl⟩
    · obtain ⟨A3, c3, rfl⟩ := rowN hr35
      simp only [List.length_nil]
      go_wp2_with fail
      go_ret
      exact ⟨rfl, hF15.to_below⟩
    · have hne : vs'.concat x ≠ [] := by simp
      obtain ⟨g3, c3, rfl, hc3, hI3⟩ := row_drop hr35 hne
      have hll2 := leftE_le (vs'.concat x).dropLast E
      have hdl : (vs'.concat x).dropLast.length ≤ 60 := by rw [List.length_dropLast]; omega
      have hlc : (vs'.concat x).length = vs'.length + 1 := by simp
      rw [hlc] at hc3 hI3
      have hI3' : IntRow w5 (.slice (some ⟨g3, 0, none⟩) vs'.length c3) (vs'.concat x).dropLast := hI3
      rw [hlc]
      have hzl : ((vs'.length + 1 : Nat) : Int) - 1 = (vs'.length : Int) := by omega
      have hvb : vs'.length ≤ 60 := by omega
      clear hr35 hI3 hll hvl hlc
      go_wp2_with fail
      refine (left_calls _ _ _ E (vs'.concat x).dropLast hR5 hI3' (by omega) (by omega)).mono ?_
      rintro e w6 ⟨u6, rfl, hr6, hF6⟩
      have hF16 := hF15.trans hF6 (fun _ _ h => h)
      have hL6 := edgerow_of hr6
      clear hr6 hF6 hF15 hR5 hI3'
      go_wp2_with fail
      refine (StuckK_calls _ _ _ hL6 (leftE_in HE.out) (by omega)).mono ?_
      rintro e w7 ⟨u7, l7, rfl, hS7, hr7, hF7⟩
      have hF17 := hF16.trans hF7 (fun _ _ h => h)
      have hn7 : l7 ≠ [] := fun e => by
        subst e
        exact frees_less hVS.out hne hS7
      obtain ⟨A7, c7, rfl⟩ := rowN hr7
      have h7 : 0 < l7.length := List.length_pos_iff.2 hn7
      have hz7 : (0 : Int) < (l7.length : Int) := by omega
      clear hr7 hn7 hS7 hL6 hF16 hF7
      go_wp2_with fail
      go_ret
      exact ⟨rfl, hF17.to_below⟩

end Go.Proofs.Ytofnenemjbccgaa
