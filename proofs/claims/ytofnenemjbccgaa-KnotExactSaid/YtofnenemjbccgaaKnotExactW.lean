/- KnotExact: the walk. -/
import Derived.Test.YtofnenemjbccgaaKnotT
namespace Go.Proofs.Ytofnenemjbccgaa
open Go.Maps Go.RowKit

set_option maxHeartbeats 1000000 in
theorem exact_calls (A : Option Addr) (n c : Nat) (w : World) (f : Nat → Nat → Int) (hA : ActsAt w w.heap.size 2 A n f) :
    Calls Try.prog 3 #[.slice A n c] w fun e w' => e = .returned (.bool true) ∧ Below w.heap.size w w' := by
  by_cases h60 : 60 < n
  · have hz : (60 : Int) < (n : Int) := by omega
    clear hA
    go_enter Try.func3, Try.ntmps3
    go_wp2_with fail
    refine (awake_calls w).mono ?_
    rintro e w1 ⟨rfl, hF1⟩
    go_wp2_with fail
    go_ret
    exact ⟨rfl, hF1.to_below⟩
  · have hz : (n : Int) ≤ (60 : Int) := by omega
    have hE := pairsE_in hA
    have hlen := pairsE_len f n
    generalize hEE : pairsE f n = E at hE hlen
    have HE := Lib.hid hE
    have HEE := Lib.hid hEE
    have HA := Lib.hid hA
    have hl60 : E.length ≤ 60 := by omega
    clear hA hE hEE hlen
    go_enter Try.func3, Try.ntmps3
    go_wp2_with fail
    refine (awake_calls w).mono ?_
    rintro e w1 ⟨rfl, hF1⟩
    have hs1 := hF1.size
    go_wp2_with fail
    refine (edges_calls w1 w.heap.size hs1 A n c f (HA.out.fr (Nat.le_refl _) hF1) (by omega)).mono ?_
    rw [HEE.out]
    rintro e w2 ⟨va, vb, rfl, ha, hb, hF2⟩
    have hR2 := edgerow_any ha
    have hQ2 := edgerow_any hb
    have hbl := hb.lt
    have hF12 := hF1.trans hF2 (fun _ _ h => h)
    clear ha hb hF1 hF2 hs1
    go_wp2_with fail
    refine (stuckR_calls _ _ E hQ2 (by omega)).mono ?_
    rintro e w3 ⟨us, s, rfl, hS, hrs, hF3⟩
    have hR3 := hR2.fr hF3 (fun _ _ e => e)
    have hQ3 := hQ2.fr hF3 (fun _ _ e => e)
    have hF13 := hF12.trans hF3 (fun _ _ h => h)
    have hsl := stuck_len hS
    have hbl3 : ∀ b, vb.ownBlock = some b → b < w3.heap.size := fun b hb => by have := hbl b hb; have := hF3.size; omega
    have HS := Lib.hid hS
    clear hR2 hQ2 hF12 hF3 hS hbl
    go_wp2_with fail
    refine (Victim_calls _ _ E hR3 HE.out (by omega)).mono ?_
    rintro e w4 ⟨l4, k4, is4, rfl, hS4, hv1, hv2, hF4⟩
    obtain rfl := hS4.uniq HS.out (fun _ _ => Iff.rfl)
    have hR4 := hR3.fr hF4 (fun _ _ e => e)
    have hQ4 := hQ3.fr hF4 (fun _ _ e => e)
    have hrs4 := row_keep hrs hF4
    have hF14 := hF13.trans hF4 (fun _ _ h => h)
    have hbl4 : ∀ b, vb.ownBlock = some b → b < w4.heap.size := fun b hb => by have := hbl3 b hb; have := hF4.size; omega
    have HB4 := Lib.hid hbl4
    clear hR3 hQ3 hF13 hF4 hS4 hrs hbl3 hbl4
    obtain ⟨As, cs, rfl, hcs⟩ := introw_of hrs4
    have HCS := Lib.hid hcs
    have hIR4 := introw_of hrs4
    have HI4 := Lib.hid hIR4
    clear hcs hrs4 hIR4
    have hfin : ∀ (b : Bool), True := fun _ => trivial
    clear hfin
    rcases List.eq_nil_or_concat l4 with rfl | ⟨l', x, rfl⟩
    · obtain rfl : is4 = false := by
        cases is4 with
        | false => rfl
        | true => have := hv1 rfl; cases this
      obtain rfl : k4 = 0 := (hv2 rfl).2
      clear hv1 hv2
      have HI5 := HI4
      simp only [List.length_nil]
      go_wp2_with fail
      refine (StuckK_calls _ _ _ hR4 HE.out (by omega)).mono ?_
      rintro e w5 ⟨u5, l5, rfl, hS5, hr5, hF5⟩
      obtain rfl := hS5.uniq HS.out (fun _ _ => Iff.rfl)
      have hR5 := hR4.fr hF5 (fun _ _ e => e)
      have hQ5 := hQ4.fr hF5 (fun _ _ e => e)
      have hI5 := HI4.out.fr hF5 (fun _ _ e => e)
      have hJ5 := introw_of hr5
      have hF15 := hF14.trans hF5 (fun _ _ h => h)
      have HB5 := Lib.hid (show ∀ b, vb.ownBlock = some b → b < w5.heap.size from fun b hb => by have := HB4.out b hb; have := hF5.size; omega)
      clear hR4 hQ4 hF14 hF5 hS5 hr5 HI5
      go_wp2_with fail
      refine (same_calls _ _ _ _ hJ5 hI5 (by simp)).mono ?_
      rintro e w6 ⟨rfl, hF6⟩
      have hR6 := hR5.fr hF6 (fun _ _ e => e)
      have hQ6 := hQ5.fr hF6 (fun _ _ e => e)
      have hF16 := hF15.trans hF6 (fun _ _ h => h)
      have HB6 := Lib.hid (show ∀ b, vb.ownBlock = some b → b < w6.heap.size from fun b hb => by have := HB5.out b hb; have := hF6.size; omega)
      clear hR5 hQ5 hF15 hF6 hJ5 hI5
      go_wp2_with fail
      refine (VictimsK_calls _ _ _ hR6 HE.out (by omega)).mono ?_
      rintro e w7 ⟨u7, vs, rfl, hvs, hr7, hF7⟩
      have hQ7 := hQ6.fr hF7 (fun _ _ e => e)
      have hF17 := hF16.trans hF7 (fun _ _ h => h)
      have HB7 := Lib.hid (show ∀ b, vb.ownBlock = some b → b < w7.heap.size from fun b hb => by have := HB6.out b hb; have := hF7.size; omega)
      have HVS := Lib.hid hvs
      clear hR6 hQ6 hF16 hF7 hvs
      go_wp2_with fail
      refine (victimsR_calls _ _ _ hQ7 HB7.out (by omega)).mono ?_
      rintro e w8 ⟨u8, vs8, rfl, hvs8, hr8, hF8⟩
      obtain rfl := hvs8.uniq HVS.out (fun _ _ => Iff.rfl)
      have hvl := vict_len hvs8
      have hI8 := introw_of (row_keep hr7 hF8)
      have hJ8 := introw_of hr8
      have hF18 := hF17.trans hF8 (fun _ _ h => h)
      clear hQ7 hF17 hF8 hvs8 hr8 hr7
      go_wp2_with fail
      refine (same_calls _ _ _ _ hI8 hJ8 (by omega)).mono ?_
      rintro e w9 ⟨rfl, hF9⟩
      have hF19 := hF18.trans hF9 (fun _ _ h => h)
      clear hI8 hJ8 hF18 hF9
      go_wp2_with fail
      go_ret
      exact ⟨rfl, hF19.to_below⟩
    · have hlast : (l'.concat x).getLast? = some x := by simp
      obtain rfl : is4 = true := by
        cases is4 with
        | true => rfl
        | false => have := (hv2 rfl).1; simp at this
      obtain rfl : k4 = x := by
        have h1 := hv1 rfl
        rw [hlast] at h1
        exact (Option.some.inj h1).symm
      have hlen : (l'.concat k4).length = l'.length + 1 := by simp
      obtain ⟨gu, rfl, hgu, ak⟩ := HCS.out l'.length k4 (by simp)
      rw [hlen] at hsl
      have hl61 : l'.length ≤ 60 := by omega
      have HI4' := HI4.out
      have hx : (l'.concat k4).length = l'.length + 1 := by simp
      rw [hx]
      have hzl : ((l'.length + 1 : Nat) : Int) - 1 = (l'.length : Int) := by omega
      have hzp : (0 : Int) < ((l'.length + 1 : Nat) : Int) := by omega
      have hkk : (k4 != k4) = false := by simp
      rw [hlen] at HI4'
      clear hv1 hv2 hlast HCS HI4 hx
      have HI4 := Lib.hid HI4'
      have HLE := Lib.hid hlen
      clear HI4' hlen
      go_wp2_with fail
      refine (StuckK_calls _ _ _ hR4 HE.out (by omega)).mono ?_
      rintro e w5 ⟨u5, l5, rfl, hS5, hr5, hF5⟩
      obtain rfl := hS5.uniq HS.out (fun _ _ => Iff.rfl)
      have hR5 := hR4.fr hF5 (fun _ _ e => e)
      have hQ5 := hQ4.fr hF5 (fun _ _ e => e)
      have hI5 := HI4.out.fr hF5 (fun _ _ e => e)
      have hJ5 := introw_of hr5
      have hF15 := hF14.trans hF5 (fun _ _ h => h)
      have HB5 := Lib.hid (show ∀ b, vb.ownBlock = some b → b < w5.heap.size from fun b hb => by have := HB4.out b hb; have := hF5.size; omega)
      clear hR4 hQ4 hF14 hF5 hS5 hr5
      go_wp2_with fail
      refine (same_calls _ _ _ _ hJ5 hI5 (by rw [HLE.out]; omega)).mono ?_
      rintro e w6 ⟨rfl, hF6⟩
      have hR6 := hR5.fr hF6 (fun _ _ e => e)
      have hQ6 := hQ5.fr hF6 (fun _ _ e => e)
      have hF16 := hF15.trans hF6 (fun _ _ h => h)
      have HB6 := Lib.hid (show ∀ b, vb.ownBlock = some b → b < w6.heap.size from fun b hb => by have := HB5.out b hb; have := hF6.size; omega)
      clear hR5 hQ5 hF15 hF6 hJ5 hI5
      go_wp2_with fail
      refine (VictimsK_calls _ _ _ hR6 HE.out (by omega)).mono ?_
      rintro e w7 ⟨u7, vs, rfl, hvs, hr7, hF7⟩
      have hQ7 := hQ6.fr hF7 (fun _ _ e => e)
      have hF17 := hF16.trans hF7 (fun _ _ h => h)
      have HB7 := Lib.hid (show ∀ b, vb.ownBlock = some b → b < w7.heap.size from fun b hb => by have := HB6.out b hb; have := hF7.size; omega)
      have HVS := Lib.hid hvs
      clear hR6 hQ6 hF16 hF7 hvs
      go_wp2_with fail
      refine (victimsR_calls _ _ _ hQ7 HB7.out (by omega)).mono ?_
      rintro e w8 ⟨u8, vs8, rfl, hvs8, hr8, hF8⟩
      obtain rfl := hvs8.uniq HVS.out (fun _ _ => Iff.rfl)
      have hvl := vict_len hvs8
      have hI8 := introw_of (row_keep hr7 hF8)
      have hJ8 := introw_of hr8
      have hF18 := hF17.trans hF8 (fun _ _ h => h)
      clear hQ7 hF17 hF8 hvs8 hr8 hr7
      go_wp2_with fail
      refine (same_calls _ _ _ _ hI8 hJ8 (by omega)).mono ?_
      rintro e w9 ⟨rfl, hF9⟩
      have hF19 := hF18.trans hF9 (fun _ _ h => h)
      clear hI8 hJ8 hF18 hF9
      go_wp2_with fail
      go_ret
      exact ⟨rfl, hF19.to_below⟩

end Go.Proofs.Ytofnenemjbccgaa
