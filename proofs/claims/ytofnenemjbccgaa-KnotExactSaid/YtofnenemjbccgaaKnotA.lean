/- Who waits for whom: what the laws' own first look answers. -/
import Derived.Test.YtofnenemjbccgaaKnotV
namespace Go.Proofs.Ytofnenemjbccgaa
open Go.Maps Go.RowKit

def awE : ES := [(1, 2), (2, 1), (3, 1)]

theorem awStuck : IsStuck awE [1, 2] := by
  refine ⟨by simp [Rising], fun k => ⟨fun h => ?_, fun p => ?_⟩⟩
  · have h1 : ((1 : Int), (2 : Int)) ∈ awE := by simp [awE]
    have h2 : ((2 : Int), (1 : Int)) ∈ awE := by simp [awE]
    simp at h
    rcases h with rfl | rfl
    · exact .more h1 (.one h2)
    · exact .more h2 (.one h1)
  · obtain ⟨c, hc⟩ := p.last
    simp [awE] at hc
    simp
    omega

theorem awVictims : IsVictims awE [2] := by
  refine .cons awStuck (by simp) (down_none fun a b h => ?_).2
  obtain ⟨h1, h2, h3⟩ := mem_without.1 h
  simp [awE] at h1
  omega

theorem awNone : IsStuck [] [] := (down_none (E := []) fun a b h => by cases h).1

theorem rowE {w' : World} {v : Value} {l : List Int} {base : Nat} (h : w'.ownsRow base 3 1 v l.length (ivs l)) (hne : l ≠ []) : ∃ g cap, v = .slice (some ⟨g, 0, none⟩) l.length cap ∧ ∀ (i : Nat) (q : Int), l[i]? = some q → w'.cell? ⟨g, i, none⟩ = some (.int .i64 q) := by
  rcases id h.2 with ⟨rfl, h0⟩ | ⟨g, cap, cur, rfl, hg, hgr, hr⟩
  · cases l with
    | nil => exact absurd rfl hne
    | cons a r => simp at h0
  · refine ⟨g, cap, rfl, fun i q hi => ?_⟩
    have hlt := (List.getElem?_eq_some_iff.1 hi).1
    rw [h.cellAt i (by omega)]
    simp [ivs, hi]

set_option maxHeartbeats 1000000 in
theorem awake_calls (w : World) : Calls Try.prog 8 #[] w fun e w' => e = .returned (.bool true) ∧ Fr (fun _ => False) w w' := by
  have hB := Blk.new w 38 [.int .i64 1, .int .i64 2, .int .i64 2, .int .i64 1, .int .i64 3, .int .i64 1]
  have hR : EdgeRow (w.alloc (.cells #[.int .i64 1, .int .i64 2, .int .i64 2, .int .i64 1, .int .i64 3, .int .i64 1] 38)) (.slice (some ⟨w.heap.size, 0, none⟩) 3 3) awE := by
    refine ⟨_, _, rfl, fun i q hq => ⟨_, rfl, by simp, ?_⟩⟩
    have hlt := (List.getElem?_eq_some_iff.1 hq).1
    have h3 : i = 0 ∨ i = 1 ∨ i = 2 := by simp [awE] at hlt; omega
    rcases h3 with rfl | rfl | rfl
    all_goals
      cases hq
      exact ⟨hB.cell _, hB.cell _⟩
  have hE : InE awE := by
    intro q hq
    simp [awE] at hq
    rcases hq with rfl | rfl | rfl <;> simp [in64]
  have hF0 := (Fr.refl (fun _ => False) w).alloc (.cells #[.int .i64 1, .int .i64 2, .int .i64 2, .int .i64 1, .int .i64 3, .int .i64 1] 38)
  have HE := Lib.hid hE
  clear hE hB
  go_enter Try.func8, Try.ntmps8
  go_wp2_with fail
  refine (StuckK_calls _ _ awE hR HE.out (by simp [awE])).mono ?_
  rintro e w1 ⟨u1, l1, rfl, hl1, hr1, hF1⟩
  obtain rfl := hl1.uniq awStuck (fun _ _ => Iff.rfl)
  have hR1 := hR.fr hF1 (fun _ _ e => e)
  go_wp2_with fail
  refine (Victim_calls _ _ awE hR1 HE.out (by simp [awE])).mono ?_
  rintro e w2 ⟨l2, k2, is2, rfl, hl2, hv1, hv2, hF2⟩
  obtain rfl := hl2.uniq awStuck (fun _ _ => Iff.rfl)
  have hR2 := hR1.fr hF2 (fun _ _ e => e)
  have hr2 := row_keep hr1 hF2
  obtain rfl : is2 = true := by
    cases is2 with
    | true => rfl
    | false => have := (hv2 rfl).1; cases this
  obtain rfl : k2 = 2 := by have := hv1 rfl; simp at this; exact this.symm
  clear hv1 hv2 hR hR1 hr1
  go_wp2_with fail
  refine (VictimsK_calls _ _ awE hR2 HE.out (by simp [awE])).mono ?_
  rintro e w3 ⟨u3, vs, rfl, hvs, hr3, hF3⟩
  obtain rfl := hvs.uniq awVictims (fun _ _ => Iff.rfl)
  have hr23 := row_keep hr2 hF3
  clear hR2 hr2
  go_wp2_with fail
  refine (Victim_calls _ _ [] ⟨none, 0, rfl, by simp⟩ (by simp [InE]) (by simp)).mono ?_
  rintro e w4 ⟨l4, k4, is4, rfl, hl4, hv1, hv2, hF4⟩
  obtain rfl := hl4.uniq awNone (fun _ _ => Iff.rfl)
  obtain rfl : is4 = false := by
    cases is4 with
    | false => rfl
    | true => have := hv1 rfl; cases this
  have hr24 := row_keep hr23 hF4
  have hr34 := row_keep hr3 hF4
  obtain ⟨g1, c1, rfl, h1⟩ := rowE hr24 (by simp)
  obtain ⟨g3, c3, rfl, h3⟩ := rowE hr34 (by simp)
  have a0 := h1 0 1 rfl
  have a1 := h1 1 2 rfl
  clear hv1 hv2 hr23 hr3 hr24 hr34 h1 h3
  simp only [List.length_cons, List.length_nil, Nat.zero_add]
  go_wp2_with fail
  go_ret
  exact ⟨rfl, (((hF0.trans hF1 (fun _ _ h => h)).trans hF2 (fun _ _ h => h)).trans hF3 (fun _ _ h => h)).trans hF4 (fun _ _ h => h)⟩

end Go.Proofs.Ytofnenemjbccgaa
