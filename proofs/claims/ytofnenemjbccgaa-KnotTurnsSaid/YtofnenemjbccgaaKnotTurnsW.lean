/- KnotTurns: the walk. -/
import Derived.Test.YtofnenemjbccgaaKnotM
namespace Go.Proofs.Ytofnenemjbccgaa
open Go.Maps Go.RowKit

/-- what the law makes of the edges -/
def turned (E : ES) (k j : Nat) : ES := E.drop k ++ E.take k ++ (E.drop j).take 1

theorem turned_mem {E : ES} {k j : Nat} {a b : Int} : (a, b) ∈ E ↔ (a, b) ∈ turned E k j := by
  unfold turned
  constructor
  · intro h
    rw [← List.take_append_drop k E] at h
    rcases List.mem_append.1 h with h | h <;> simp [h]
  · intro h
    rcases List.mem_append.1 h with h | h
    · rcases List.mem_append.1 h with h | h
      · exact List.mem_of_mem_drop h
      · exact List.mem_of_mem_take h
    · exact List.mem_of_mem_drop (List.mem_of_mem_take h)

set_option maxHeartbeats 1000000 in
theorem turns_calls (A : Option Addr) (n c : Nat) (turn twice : Int) (w : World) (f : Nat → Nat → Int) (hA : ActsAt w w.heap.size 2 A n f) (_ : in64 turn) (_ : in64 twice) :
    Calls Try.prog 5 #[.slice A n c, .int .i64 turn, .int .i64 twice] w fun e w' => e = .returned (.bool true) ∧ Below w.heap.size w w' := by
  by_cases h0 : n = 0 ∨ 60 < n
  · have hF0 : ∀ w1, Fr (fun _ => False) w w1 → Below w.heap.size w w1 := fun _ h => h.to_below
    clear hA
    rcases h0 with rfl | h0
    · go_enter Try.func5, Try.ntmps5
      go_wp2_with fail
      refine (awake_calls w).mono ?_
      rintro e w1 ⟨rfl, hF1⟩
      go_wp2_with fail
      go_ret
      exact ⟨rfl, hF1.to_below⟩
    · have hz : (60 : Int) < (n : Int) := by omega
      have hzb : ((n : Int) == 0) = false := beq_eq_false_iff_ne.2 (by omega)
      have hzd : decide ((60 : Int) < (n : Int)) = true := by simp; omega
      go_enter Try.func5, Try.ntmps5
      go_wp2_with fail
      refine (awake_calls w).mono ?_
      rintro e w1 ⟨rfl, hF1⟩
      go_wp2_with fail
      go_ret
      exact ⟨rfl, hF1.to_below⟩
  · have hz : (n : Int) ≤ (60 : Int) := by omega
    have hz0 : (0 : Int) < (n : Int) := by omega
    have hzb : ((n : Int) == 0) = false := beq_eq_false_iff_ne.2 (by omega)
    have hzd : decide ((60 : Int) < (n : Int)) = false := by simp; omega
    obtain ⟨i0, hi, hy0, hy1, hy2⟩ := info_parts infoEdge
    have hE := pairsE_in hA
    have hlen := pairsE_len f n
    generalize hEE : pairsE f n = E at hE hlen
    have HE := Lib.hid hE
    have HEE := Lib.hid hEE
    have HA := Lib.hid hA
    have hl60 : E.length ≤ 60 := by omega
    have hl0 : 0 < E.length := by omega
    have hn60 : n ≤ 60 := by omega
    clear hA hE hEE h0
    go_enter Try.func5, Try.ntmps5
    go_wp2_with fail
    refine (awake_calls w).mono ?_
    rintro e w1 ⟨rfl, hF1⟩
    have hs1 := hF1.size
    clear hlen
    go_wp2_with fail
    refine (edges_calls w1 w.heap.size hs1 A n c f (HA.out.fr (Nat.le_refl _) hF1) (by omega)).mono ?_
    rw [HEE.out]
    rintro e w2 ⟨va, vb, rfl, ha, -, hF2⟩
    have hF12 := hF1.trans hF2 (fun _ _ h => h)
    have hR2 := edgerow_of ha
    obtain ⟨g, cap, rfl, hgb, hgl⟩ := ha.form (by omega)
    have hbd := mod_bd turn E.length (by omega) (by omega)
    obtain ⟨k, hk⟩ : ∃ k : Nat, wrap64 ((IntKind.u64.wrap turn).tmod (E.length : Int)) = (k : Int) := ⟨(wrap64 ((IntKind.u64.wrap turn).tmod (E.length : Int))).toNat, by omega⟩
    have hkl : k < E.length := by omega
    have hbd2 := mod_bd twice E.length (by omega) (by omega)
    obtain ⟨j, hj⟩ : ∃ k : Nat, wrap64 ((IntKind.u64.wrap twice).tmod (E.length : Int)) = (k : Int) := ⟨(wrap64 ((IntKind.u64.wrap twice).tmod (E.length : Int))).toNat, by omega⟩
    have hjl : j < E.length := by omega
    clear hbd hbd2 hF1 hF2
    have hcap : E.length ≤ cap := by
      rcases id ha.2 with ⟨h1, _⟩ | ⟨g', cap', cur, h1, _, _, h2, _⟩
      · cases h1
      · cases h1; exact h2
    have b1 : (0 : Int) ≤ (k : Int) := by omega
    have b2 : (k : Int) ≤ (E.length : Int) := by omega
    have b3 : (E.length : Int) ≤ (cap : Int) := by omega
    have b4 : (k : Int) ≤ (cap : Int) := by omega
    have b5 : ¬ cap = k := by omega
    have hr0 := w2.ownsRow_lit (e := 38) (size := 2) (base := w2.heap.size) #[] 0 (Nat.le_refl _) (by omega) rfl
    have hn1 := fun j u hu => (erow_news (ha.alloc (.cells #[] 38)) k (E.length - k) j u hu)
    rw [List.take_of_length_le (by rw [List.length_drop]; omega)] at hn1
    have HN1 := Lib.hid hn1
    have HA2 := Lib.hid ha
    have HR0 := Lib.hid hr0
    have hl1 : (ecells (E.drop k)).length = (E.length - k) * 2 := by rw [ecells_len, List.length_drop]
    have HL1 := Lib.hid hl1
    have hl2 : (ecells (E.take k)).length = k * 2 := by rw [ecells_len, List.length_take]; omega
    have HL2 := Lib.hid hl2
    clear hl1 hl2 hn1 hr0 ha
    go_wp2_with fail
    go_region_held3 (fun _ => True) (first | trivial | go_keep)
      (first
        | ((refine step_append_any _ (by rfl) (.tmp 36) (.tmp 39) 24 (by rfl) w2.heap.size 38 i0 _ 2 16 Try.underlying24 hi hy0 hy1 hy2 rfl (by omega) (.slice (some ⟨w2.heap.size, 0, none⟩) 0 0) 0 [] (by rfl) HR0.out.drew
                ⟨g, k * 2, none⟩ (E.length - k) (cap - k) (ecells (E.drop k)) (by rfl) HL1.out HN1.out (ecells_one _)
                (by unfold maxLen; omega) (by omega) (by simp) ?_
            intro v1 w3 hown1 hgrow1 hat1
            have hFa := (((Fr.refl (fun bl => bl = w2.heap.size) w2).alloc (.cells #[] 38)).drew).grown hgrow1 (fun b hb => .inr (by cases hb; exact Nat.le_refl _))
            have ha3 := row_fr HA2.out hFa (fun gg cs _ hB e => by have := hB.lt; omega)
            have HN2 := Lib.hid (fun j u hu => (erow_news ha3 0 k j u hu))
            have hs3 := hFa.size
            simp only [List.nil_append, Nat.zero_add] at hown1
            clear hgrow1 hat1))
        | ((refine step_append_any _ (by rfl) (.tmp 40) (.tmp 43) 24 (by rfl) w2.heap.size 38 i0 _ 2 16 Try.underlying24 hi hy0 hy1 hy2 rfl (by omega) v1 (E.length - k) (ecells (E.drop k)) (by rfl) hown1.drew
                ⟨g, 0 * 2, none⟩ k cap (ecells (E.take k)) (by rfl) HL2.out HN2.out (ecells_one _)
                (by unfold maxLen; omega) (by omega) (by omega) ?_
            intro v2 w4 hown2 hgrow2 hat2)))
    have hFb := (Fr.refl (fun bl => v1.ownBlock = some bl) w3).grown hgrow2 (fun b hb => .inl hb)
    have hlt1 := hown1.lt
    have hF14 := ((hF12.trans hFa (fun b hb e => by have := hF12.size; omega)).trans hFb (fun b hb e => by have := (hlt1 _ e).1; have := hF12.size; omega))
    have ha4 := row_fr2 ha3 hFb (fun gg hg e => by
      have h1 := (hlt1 _ e).1
      have h2 : g = gg := by simpa [Value.ownBlock] using hg
      omega)
    have hs4 := hF14.size
    have hR4 := edgerow_of ha4
    have ho : E[j]? = some E[j] := List.getElem?_eq_getElem hjl
    have hd : (E.drop j).take 1 = [E[j]] := by rw [List.drop_eq_getElem_cons hjl]; rfl
    have HD := Lib.hid hd
    generalize hq : E[j] = q at ho HD
    obtain ⟨c0, c1⟩ := ecells_get ho
    have a0 := (ha4.cellAt (j * 2) (by omega)).trans c0
    have a1 := (ha4.cellAt (j * 2 + 1) (by omega)).trans c1
    obtain ⟨qa, qb⟩ := q
    dsimp only at a0 a1
    have c1 : (0 : Int) ≤ (j : Int) := by omega
    have c2 : (j : Int) < (E.length : Int) := by omega
    have hbs : w2.heap.size ≤ (w4.alloc (.cells #[.int .i64 qa, .int .i64 qb] 38)).heap.size := by
      rw [World.size_alloc]; have := hFb.size; omega
    have hlt2 := hown2.lt
    clear hgrow2 hat2 hFa hFb hlt1 hd c0 hq ho hown1
    go_wp2_with (at_builtin; refine wpList_append_own _ rfl (.tmp 45) (.tmp 56) 24 rfl w2.heap.size 38 i0 _ 2 16 Try.underlying24 hi hy0 hy1 hy2 rfl (by decide) _ _ _ rfl (hown2.alloc _) ⟨w4.heap.size, 0, none⟩ 1 1 [.int .i64 qa, .int .i64 qb] rfl rfl (news2 w4 38 qa qb) (one2 _ _) (by unfold maxLen; omega) (by omega) hbs ?_; intro v5 w5 hown5 hgrow5 _hn5; clear _hn5)
    have hFc := ((Fr.refl (fun bl => v2.ownBlock = some bl) w4).alloc (.cells #[.int .i64 qa, .int .i64 qb] 38)).grown hgrow5 (fun b hb => .inl hb)
    have hs12 := hF12.size
    have hF15 := hF14.trans hFc (fun b hb e => by have := (hlt2 _ e).1; omega)
    have hR5 := edgerow_of (row_fr2 ha4 hFc (fun gg hg e => by
      have h1 := (hlt2 _ e).1
      have h2 : g = gg := by simpa [Value.ownBlock] using hg
      omega))
    have hM5 : EdgeRow w5 v5 (turned E k j) := edgerow_of (base := w2.heap.size) (by
      unfold turned
      rw [HD.out, ecells_append, ecells_append, List.length_append, List.length_append, List.length_drop, List.length_take, Nat.min_eq_left (by omega)]
      exact hown5)
    have hME : InE (turned E k j) := fun q hq => HE.out q (turned_mem.2 hq)
    have hMl : (turned E k j).length ≤ 1000 := by
      unfold turned
      simp only [List.length_append, List.length_drop, List.length_take]
      omega
    have HME := Lib.hid hME
    clear hown5 hgrow5 hFc ha3 ha4 hR4 a0 a1 hlt2 hbs hown2 hF14 hME
    refine (VictimsK_calls _ _ E hR5 HE.out (by omega)).mono ?_
    rintro e w6 ⟨u6, vs, rfl, hvs, hr6, hF6⟩
    have hM6 := hM5.fr hF6 (fun _ _ e => e)
    have hF16 := hF15.trans hF6 (fun _ _ h => h)
    have HVS := Lib.hid hvs
    clear hvs hR5 hM5 hF6 hF15
    go_wp2_with fail
    refine (VictimsK_calls _ _ (turned E k j) hM6 HME.out (by omega)).mono ?_
    rintro e w7 ⟨u7, vs7, rfl, hvs7, hr7, hF7⟩
    obtain rfl := hvs7.uniq HVS.out (fun a b => turned_mem.symm)
    have hr67 := introw_of (row_keep hr6 hF7)
    have hr77 := introw_of hr7
    have hF17 := hF16.trans hF7 (fun _ _ h => h)
    have hvl := vict_len hvs7
    obtain ⟨A6, c6, rfl, hc6⟩ := hr67
    obtain ⟨A7, c7, rfl, hc7⟩ := hr77
    have H6 := Lib.hid hc6
    have H7 := Lib.hid hc7
    clear hvs7 hr6 hr7 hF16 hF7 hM6 hc6 hc7
    go_wp2_with fail
    have hv1000 : vs7.length ≤ 1000 := by omega
    go_loopg [13] vs7.length (fun g i wr => ∃ (k nq : Nat), i = .int .i64 k ∧ k ≤ vs7.length ∧ g = vs7.length - k ∧ wr = w7.drewN nq)
    case atStart => exact ⟨0, 0, rfl, by omega, by omega, rfl⟩
    case round =>
      obtain ⟨i, nq0, rfl, hi, rfl, rfl⟩ := hrel
      by_cases hlt : i < vs7.length
      · have hltz : (i : Int) < (vs7.length : Int) := by omega
        have q1 : (0 : Int) ≤ (i : Int) := by omega
        have ho : vs7[i]? = some vs7[i] := List.getElem?_eq_getElem hlt
        generalize vs7[i] = x at ho
        obtain ⟨g6, rfl, _, a6⟩ := H6.out i x ho
        obtain ⟨g7, rfl, _, a7⟩ := H7.out i x ho
        have hne : (x != x) = false := by simp
        clear ho hk hj
        go_wp2_with fail
        go_quiet (fail)
        go_wp2_with fail
        go_roundg (vs7.length - (i + 1))
        case measure => omega
        case rel => exact ⟨i + 1, nq0 + nq, by go_num, by omega, rfl, rfl⟩
      · obtain rfl : i = vs7.length := by omega
        have hltz : (vs7.length : Int) ≤ (vs7.length : Int) := by omega
        clear hk hj
        go_wp2_with fail
        go_ret
        exact ⟨rfl, below_drews hF17.to_below nq0⟩

end Go.Proofs.Ytofnenemjbccgaa
