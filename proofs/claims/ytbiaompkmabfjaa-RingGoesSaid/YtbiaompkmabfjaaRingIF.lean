/- The ring with int values: a frame is made free. -/
import Derived.Test.YtbiaompkmabfjaaRingI
namespace Go.Proofs.Ytbiaompkmabfjaa
open Go.Maps Go.RowKit
section
variable (w : World) (rb fb mb : Nat) (bs : List (Option Nat)) (st : RS Int)

set_option maxHeartbeats 1000000 in
set_option maxRecDepth 100000 in
theorem freeI_calls (hR : RingZI w rb fb mb bs st) (hM : MapIs Try.prog 3 w mb st.fs) {top : Int} (hI : RInv st top) (hfull : Full st.fs) (stE : RS Int) (hs : rSeek (2 * st.fs.length + 1) st = some stE) (f : Fm Int) (hf : stE.fs[stE.hand]? = some (some f)) :
    Calls Try.prog 37 #[.pointer (some ⟨rb, 0, none⟩)] w fun e w' => e = .returned (.tuple #[.int .i64 stE.hand, .agg #[.int .i64 f.key, (fun v => Value.int .i64 v) f.val, .bool true], .bool true]) ∧
      RingZI w' rb fb mb bs ⟨stE.fs, (stE.hand + 1) % stE.fs.length⟩ ∧ MapIs Try.prog 3 w' mb (stE.fs.set stE.hand none) ∧ Fr (foot rb fb mb bs) w w' := by
  have hn1 := hI.n1
  have hn64 := hI.n64
  have c0 : (w.alloc (.cells #[.int .i64 0, Value.int .i64 0, .bool false] 27)).cell? ⟨rb, 0, none⟩ = some (.slice (some ⟨fb, 0, none⟩) st.fs.length st.fs.length) := (hR.ring.alloc _).cell 0
  go_enter Try.func37, Try.ntmps37
  go_wp2_with fail
  have HS := Lib.hid hs
  have HF := Lib.hid hf
  clear hs hf
  have hO := Blk.new w 27 [.int .i64 0, Value.int .i64 0, .bool false]
  have hk : Fr (fun _ => False) w (w.alloc (.cells [.int .i64 0, Value.int .i64 0, .bool false].toArray 27)) := (Fr.refl _ w).alloc _
  have hR1 : RingZI (w.alloc (.cells [.int .i64 0, Value.int .i64 0, .bool false].toArray 27)) rb fb mb bs st := hR.keep hk (fun e => e) (fun e => e) (fun _ _ e => e)
  have hM1 := hM.keep hk (fun e => e)
  have hsz : (w.alloc (.cells [.int .i64 0, Value.int .i64 0, .bool false].toArray 27)).heap.size = w.heap.size + 1 := by simp
  clear c0
  obtain ⟨n, hn⟩ : ∃ n, st.fs.length = n := ⟨_, rfl⟩
  rw [hn] at hn1 hn64 HS ⊢
  have HN := Lib.hid hn
  clear hn
  go_loopg [14] (2 * n + 1) (fun g i wr => ∃ (c : Nat) (s1 : RS Int), i = .int .i64 c ∧ c ≤ 2 * n + 1 ∧ g = 2 * n + 1 - c ∧ RingZI wr rb fb mb bs s1 ∧ MapIs Try.prog 3 wr mb s1.fs ∧ RInv s1 top ∧ Full s1.fs ∧ s1.fs.length = n ∧ rSeek (2 * n + 1 - c) s1 = some stE ∧
    Blk wr w.heap.size 27 [.int .i64 0, Value.int .i64 0, .bool false] ∧ Fr (foot rb fb mb bs) w wr)
  case atStart => exact ⟨0, st, rfl, by omega, by omega, hR1, hM1, hI, hfull, HN.out, HS.out, hO, hk.mono (fun _ _ h => h.elim)⟩
  case round =>
    obtain ⟨c, s1, rfl, hc, rfl, hRr, hMr, hIr, hfr, hlen, hsk, hOr, hFr⟩ := hrel
    have hlt : c < 2 * n + 1 := by
      rcases Nat.lt_or_ge c (2 * n + 1) with h | h
      · exact h
      · rw [show 2 * n + 1 - c = 0 by omega] at hsk; simp [rSeek] at hsk
    have hltz : (c : Int) < 2 * (n : Int) + 1 := by omega
    have hh := hIr.hand
    obtain ⟨f1, hf1⟩ := full_at hfr hh
    obtain ⟨g, hb, hB⟩ := hRr.at_some hf1
    have ca := hRr.cell_some hb
    have c0 := hRr.ring.cell 0
    have c1 := hRr.ring.cell 1
    have c2 := hRr.ring.cell 2
    rw [hlen] at c0 hh
    have hhz : (s1.hand : Int) < (n : Int) := by omega
    have hh1 : (s1.hand : Int) + 1 ≤ 64 := by omega
    have z2 := hRr.ring.frozen 2
    obtain ⟨d0, d1, d2, d3⟩ := cellsI f1 wr g hB
    have z3 := hB.frozen 3
    obtain ⟨hng1, hng2, hng3, hng4, hng5, hng6⟩ := fr_neI wr rb fb mb bs s1 ⟨hRr, hMr⟩ hb
    have hmod : (((s1.hand + 1) % n : Nat) : Int) = ((s1.hand : Int) + 1) % (n : Int) := by rw [Int.natCast_emod]; rfl
    have HM := Lib.hid hmod
    have HL := Lib.hid hlen
    have HK := Lib.hid hsk
    have H1 := Lib.hid hf1
    have HB := Lib.hid hb
    clear hmod hlen hsk hf1 hb
    have hmb : g ∈ [g] := by simp
    have hgs : g < wr.heap.size := hB.lt
    -- the ring's hand goes on
    have hR2 := hRr.hand_ ((s1.hand + 1) % n) (v := .int .i64 (((s1.hand : Int) + 1) % (n : Int))) (by rw [HM.out]) (Ne.symm hng4) (fun g' hg' => (hRr.ne_fr (by decide) (by decide) hg').1)
    have hF2 : Fr (foot rb fb mb bs) w (wr.setCell ⟨rb, 2, none⟩ (.int .i64 (((s1.hand : Int) + 1) % (n : Int)))) := hFr.setCell (.inl (.inl rfl)) _
    have hM2 : MapIs Try.prog 3 (wr.setCell ⟨rb, 2, none⟩ (.int .i64 (((s1.hand : Int) + 1) % (n : Int)))) mb s1.fs := hMr.keep ((Fr.refl (fun b => b = rb) wr).setCell (p := ⟨rb, 2, none⟩) (.inl rfl) _) (fun e => hng5 e.symm)
    have hB2 : Blk (wr.setCell ⟨rb, 2, none⟩ (.int .i64 (((s1.hand : Int) + 1) % (n : Int)))) g 74 (frCells encI f1) := hB.far (p := ⟨rb, 2, none⟩) (Ne.symm hng1) _
    have hO2 : Blk (wr.setCell ⟨rb, 2, none⟩ (.int .i64 (((s1.hand : Int) + 1) % (n : Int)))) w.heap.size 27 [.int .i64 0, Value.int .i64 0, .bool false] := hOr.far (p := ⟨rb, 2, none⟩) (Blk.ne_ hOr hRr.ring (by decide)) _
    obtain ⟨e0, e1, e2, e3⟩ := cellsI f1 _ g hB2
    have y3 := hB2.frozen 3
    have e4 := hR2.ring.cell 1
    by_cases hp : f1.pins = 0
    · cases hfr' : f1.fresh with
      | false =>
        have hcan : rCan (s1.fs[s1.hand]?.join) = true := by rw [H1.out]; simp [rCan, hp, hfr']
        have hE : s1 = stE := by
          have := HK.out
          rw [show 2 * n + 1 - c = (2 * n - c) + 1 by omega, rSeek, if_pos hcan] at this
          exact Option.some.inj this
        subst hE
        have hff : f1 = f := by have := H1.out; rw [HF.out] at this; cases this; rfl
        subst hff
        rw [hp] at d2
        rw [hfr'] at d3
        have HP := Lib.hid hp
        clear hp hfr'
        go_wp2_with fail
        generalize wr.setCell ⟨rb, 2, none⟩ (.int .i64 (((s1.hand : Int) + 1) % (n : Int))) = W2 at hR2 hF2 hM2 hB2 hO2 e0 e1 e2 e3 e4 y3 ⊢
        have hV0 := And.intro trivial hMr
        obtain ⟨pl, hV, hl, hcnt⟩ := hM2
        have HC := Lib.hid hcnt
        have HLk := Lib.hid hl
        clear hcnt hl
        have hkey := hIr.key s1.hand f1 H1.out
        go_still_tail 8, (by kernel_rfl)
        go_wp2_with (at_delete; refine wpList_mdel _ rfl _ _ 68 3 rfl 3 mb Try.underlying3 Try.underlying68 _ hV.drew rfl f1.key rfl hkey ?_; intro w3 hV3 ht3; have hB3 := hB2.drew.turned ht3; have hO3 := hO2.drew.turned ht3; obtain ⟨g0, g1, g2, g3⟩ := cellsI f1 _ g hB3)
        have o0 := hO3.cell 0
        have o1 := hO3.cell 1
        have o2 := hO3.cell 2
        have x0 := hO3.frozen 0
        have x1 := hO3.frozen 1
        have x2 := hO3.frozen 2
        have s0 := (hO3.set_ 0 (.int .i64 f1.key)).cell 1
        have s1' := (hO3.set_ 0 (.int .i64 f1.key)).cell 2
        have s2 := ((hO3.set_ 0 (.int .i64 f1.key)).set_ 1 ((fun v => Value.int .i64 v) f1.val)).cell 2
        go_region
        go_wp2_with fail
        have hfin : RingZI w3 rb fb mb bs ⟨s1.fs, (s1.hand + 1) % s1.fs.length⟩ := by
          rw [HL.out]
          exact hR2.drew.keep ((Fr.refl (fun b => b = mb) _).map ht3 (.inl rfl)) hng5 hng6 (fun g' hg' => (hR2.ne_m hV).2.2 g' hg')
        have hmp : MapIs Try.prog 3 w3 mb (s1.fs.set s1.hand none) := by
          refine ⟨del f1.key pl, by rw [vmap_del]; exact hV3, fun k => ?_, ?_⟩
          · rw [look_del, rIdx_del hIr.uniq H1.out, HLk.out]; split <;> rfl
          · have h1 := length_del (k := f1.key) ((srt_vmap _).1 hV.2.1)
            have h2 := rCnt_del H1.out
            rw [HLk.out, rIdx_of hIr.uniq H1.out rfl] at h1
            have h3 := HC.out
            simp only [Option.map_some, Option.isSome_some, if_true] at h1
            omega
        have hno : w.heap.size ≠ rb ∧ w.heap.size ≠ fb ∧ w.heap.size ≠ mb ∧ ∀ g, some g ∈ bs → g ≠ w.heap.size := by
          refine ⟨Blk.ne_ hOr hRr.ring (by decide), Blk.ne_ hOr hRr.arr (by decide), hOr.ne_map hV0.2.choose_spec.1, fun g' hg' e => ?_⟩
          have := hR.block_lt hg'
          omega
        have hfs : Fr (fun b => b = w.heap.size) w3 ((((w3.setCell ⟨w.heap.size, 0, none⟩ (.int .i64 f1.key)).setCell ⟨w.heap.size, 1, none⟩ ((fun v => Value.int .i64 v) f1.val)).setCell ⟨w.heap.size, 2, none⟩ (.bool true)).drew) :=
          ((((Fr.refl (fun b => b = w.heap.size) w3).setCell (p := ⟨w.heap.size, 0, none⟩) (.inl rfl) _).setCell (p := ⟨w.heap.size, 1, none⟩) (.inl rfl) _).setCell (p := ⟨w.heap.size, 2, none⟩) (.inl rfl) _).drew
        have hblk := ((hO3.set_ 0 (.int .i64 f1.key)).set_ 1 ((fun v => Value.int .i64 v) f1.val)).set_ 2 (.bool true)
        have q0 := hblk.cell 0
        have q1 := hblk.cell 1
        have q2 := hblk.cell 2
        have hF4 : Fr (foot rb fb mb bs) w ((((w3.setCell ⟨w.heap.size, 0, none⟩ (.int .i64 f1.key)).setCell ⟨w.heap.size, 1, none⟩ ((fun v => Value.int .i64 v) f1.val)).setCell ⟨w.heap.size, 2, none⟩ (.bool true)).drew) :=
          (((((hF2.drew.map ht3 (.inl (.inr (.inr (.inl rfl))))).setCell (p := ⟨w.heap.size, 0, none⟩) (.inr (Nat.le_refl _)) _).setCell (p := ⟨w.heap.size, 1, none⟩) (.inr (Nat.le_refl _)) _).setCell (p := ⟨w.heap.size, 2, none⟩) (.inr (Nat.le_refl _)) _)).drew
        refine bodyPost_ret (v := .tuple #[.int .i64 s1.hand, .agg #[.int .i64 f1.key, (fun v => Value.int .i64 v) f1.val, .bool true], .bool true]) (by simp [results, Try.results37, go_sem, q0, q1, q2]) rfl ⟨rfl, hfin.keep hfs (Ne.symm hno.1) (Ne.symm hno.2.1) hno.2.2.2, hmp.keep hfs (Ne.symm hno.2.2.1), hF4⟩
      | true =>
        have hcan : ¬ rCan (s1.fs[s1.hand]?.join) = true := by rw [H1.out]; simp [rCan, hfr']
        have hFR : (f1.fresh && decide (0 < f1.pins)) = false := by rw [hfr', hp]; rfl
        have HFR := Lib.hid hFR
        rw [hp] at d2 e2
        rw [hfr'] at d3 e3
        clear hp hfr' hFR
        have hstep : rSeek (2 * n + 1 - (c + 1)) (rStep s1) = some stE := by
          have := HK.out
          rw [show 2 * n + 1 - c = (2 * n + 1 - (c + 1)) + 1 by omega, rSeek, if_neg hcan] at this
          exact this
        have hst := rStep_eq H1.out
        rw [HL.out] at hst
        have hI3 := rStep_inv hIr
        have hfull3 := rStep_full hfr
        have hlen3 : (rStep s1).fs.length = n := by rw [rStep_len, HL.out]
        have hM3 : MapIs Try.prog 3 ((wr.setCell ⟨rb, 2, none⟩ (.int .i64 (((s1.hand : Int) + 1) % (n : Int)))).setCell ⟨g, 3, none⟩ (.bool false)) mb (rStep s1).fs := (hM2.keep ((Fr.refl (fun b => b = g) (wr.setCell ⟨rb, 2, none⟩ (.int .i64 (((s1.hand : Int) + 1) % (n : Int))))).setCell (p := ⟨g, 3, none⟩) (.inl rfl) _) (fun e => hng3 e.symm)).of_idx (rStep_idx hIr.uniq) (rStep_cnt s1)
        have hR3 : RingZI ((wr.setCell ⟨rb, 2, none⟩ (.int .i64 (((s1.hand : Int) + 1) % (n : Int)))).setCell ⟨g, 3, none⟩ (.bool false)) rb fb mb bs (rStep s1) := by
          have := hR2.set_ (f' := { f1 with fresh   := false }) HB.out ((Fr.refl (fun b => b = g) (wr.setCell ⟨rb, 2, none⟩ (.int .i64 (((s1.hand : Int) + 1) % (n : Int))))).setCell (p := ⟨g, 3, none⟩) (.inl rfl) _) (hB2.set_ 3 (.bool false)) hng1 hng2
          rw [hst, HFR.out]
          exact this
        have hO3 := hO2.far (p := ⟨g, 3, none⟩) (Blk.ne_ hO2 hB2 (by decide)) (.bool false)
        have hF3 : Fr (foot rb fb mb bs) w ((wr.setCell ⟨rb, 2, none⟩ (.int .i64 (((s1.hand : Int) + 1) % (n : Int)))).setCell ⟨g, 3, none⟩ (.bool false)) := hF2.setCell (.inl (.inr (.inr (.inr (List.mem_of_getElem? HB.out))))) _
        have PK := Lib.hid (And.intro hstep (And.intro hI3 (And.intro hfull3 (And.intro hlen3 (And.intro hM3 (And.intro hR3 (And.intro hO3 hF3)))))))
        clear hstep hst hI3 hfull3 hlen3 hM3 hR3 hO3 hF3 hcan hM2 hO2 hF2
        go_wp2_with fail
        go_roundg (2 * n + 1 - (c + 1))
        case measure => omega
        case rel =>
          obtain ⟨k1, k2, k3, k4, k5, k6, k7, k8⟩ := PK.out
          exact ⟨c + 1, rStep s1, rfl, by omega, rfl, k6, k5, k2, k3, k4, k1, k7, k8⟩
    · have hpz : 0 < f1.pins := by have := (hIr.pins _ f1 H1.out).1; omega
      have hp0 : (f1.pins == 0) = false := by simpa using hp
      have hcan : ¬ rCan (s1.fs[s1.hand]?.join) = true := by rw [H1.out]; simp [rCan, hp]
      cases hfr' : f1.fresh with
      | false =>
        have hFR : (f1.fresh && decide (0 < f1.pins)) = false := by rw [hfr']; rfl
        have HFR := Lib.hid hFR
        rw [hfr'] at d3 e3
        clear hp hfr' hFR
        have hstep : rSeek (2 * n + 1 - (c + 1)) (rStep s1) = some stE := by
          have := HK.out
          rw [show 2 * n + 1 - c = (2 * n + 1 - (c + 1)) + 1 by omega, rSeek, if_neg hcan] at this
          exact this
        have hst := rStep_eq H1.out
        rw [HL.out] at hst
        have hI3 := rStep_inv hIr
        have hfull3 := rStep_full hfr
        have hlen3 : (rStep s1).fs.length = n := by rw [rStep_len, HL.out]
        have hM3 : MapIs Try.prog 3 ((wr.setCell ⟨rb, 2, none⟩ (.int .i64 (((s1.hand : Int) + 1) % (n : Int)))).setCell ⟨g, 3, none⟩ (.bool false)) mb (rStep s1).fs := (hM2.keep ((Fr.refl (fun b => b = g) (wr.setCell ⟨rb, 2, none⟩ (.int .i64 (((s1.hand : Int) + 1) % (n : Int))))).setCell (p := ⟨g, 3, none⟩) (.inl rfl) _) (fun e => hng3 e.symm)).of_idx (rStep_idx hIr.uniq) (rStep_cnt s1)
        have hR3 : RingZI ((wr.setCell ⟨rb, 2, none⟩ (.int .i64 (((s1.hand : Int) + 1) % (n : Int)))).setCell ⟨g, 3, none⟩ (.bool false)) rb fb mb bs (rStep s1) := by
          have := hR2.set_ (f' := { f1 with fresh   := false }) HB.out ((Fr.refl (fun b => b = g) (wr.setCell ⟨rb, 2, none⟩ (.int .i64 (((s1.hand : Int) + 1) % (n : Int))))).setCell (p := ⟨g, 3, none⟩) (.inl rfl) _) (hB2.set_ 3 (.bool false)) hng1 hng2
          rw [hst, HFR.out]
          exact this
        have hO3 := hO2.far (p := ⟨g, 3, none⟩) (Blk.ne_ hO2 hB2 (by decide)) (.bool false)
        have hF3 : Fr (foot rb fb mb bs) w ((wr.setCell ⟨rb, 2, none⟩ (.int .i64 (((s1.hand : Int) + 1) % (n : Int)))).setCell ⟨g, 3, none⟩ (.bool false)) := hF2.setCell (.inl (.inr (.inr (.inr (List.mem_of_getElem? HB.out))))) _
        have PK := Lib.hid (And.intro hstep (And.intro hI3 (And.intro hfull3 (And.intro hlen3 (And.intro hM3 (And.intro hR3 (And.intro hO3 hF3)))))))
        clear hstep hst hI3 hfull3 hlen3 hM3 hR3 hO3 hF3 hcan hM2 hO2 hF2
        go_wp2_with fail
        go_roundg (2 * n + 1 - (c + 1))
        case measure => omega
        case rel =>
          obtain ⟨k1, k2, k3, k4, k5, k6, k7, k8⟩ := PK.out
          exact ⟨c + 1, rStep s1, rfl, by omega, rfl, k6, k5, k2, k3, k4, k1, k7, k8⟩
      | true =>
        have hFR : (f1.fresh && decide (0 < f1.pins)) = true := by rw [hfr']; simpa using hpz
        have HFR := Lib.hid hFR
        rw [hfr'] at d3 e3
        clear hp hfr' hFR
        have hstep : rSeek (2 * n + 1 - (c + 1)) (rStep s1) = some stE := by
          have := HK.out
          rw [show 2 * n + 1 - c = (2 * n + 1 - (c + 1)) + 1 by omega, rSeek, if_neg hcan] at this
          exact this
        have hst := rStep_eq H1.out
        rw [HL.out] at hst
        have hI3 := rStep_inv hIr
        have hfull3 := rStep_full hfr
        have hlen3 : (rStep s1).fs.length = n := by rw [rStep_len, HL.out]
        have hM3 : MapIs Try.prog 3 ((wr.setCell ⟨rb, 2, none⟩ (.int .i64 (((s1.hand : Int) + 1) % (n : Int)))).setCell ⟨g, 3, none⟩ (.bool true)) mb (rStep s1).fs := (hM2.keep ((Fr.refl (fun b => b = g) (wr.setCell ⟨rb, 2, none⟩ (.int .i64 (((s1.hand : Int) + 1) % (n : Int))))).setCell (p := ⟨g, 3, none⟩) (.inl rfl) _) (fun e => hng3 e.symm)).of_idx (rStep_idx hIr.uniq) (rStep_cnt s1)
        have hR3 : RingZI ((wr.setCell ⟨rb, 2, none⟩ (.int .i64 (((s1.hand : Int) + 1) % (n : Int)))).setCell ⟨g, 3, none⟩ (.bool true)) rb fb mb bs (rStep s1) := by
          have := hR2.set_ (f' := { f1 with fresh   := true }) HB.out ((Fr.refl (fun b => b = g) (wr.setCell ⟨rb, 2, none⟩ (.int .i64 (((s1.hand : Int) + 1) % (n : Int))))).setCell (p := ⟨g, 3, none⟩) (.inl rfl) _) (hB2.set_ 3 (.bool true)) hng1 hng2
          rw [hst, HFR.out]
          exact this
        have hO3 := hO2.far (p := ⟨g, 3, none⟩) (Blk.ne_ hO2 hB2 (by decide)) (.bool true)
        have hF3 : Fr (foot rb fb mb bs) w ((wr.setCell ⟨rb, 2, none⟩ (.int .i64 (((s1.hand : Int) + 1) % (n : Int)))).setCell ⟨g, 3, none⟩ (.bool true)) := hF2.setCell (.inl (.inr (.inr (.inr (List.mem_of_getElem? HB.out))))) _
        have PK := Lib.hid (And.intro hstep (And.intro hI3 (And.intro hfull3 (And.intro hlen3 (And.intro hM3 (And.intro hR3 (And.intro hO3 hF3)))))))
        clear hstep hst hI3 hfull3 hlen3 hM3 hR3 hO3 hF3 hcan hM2 hO2 hF2
        go_wp2_with fail
        go_roundg (2 * n + 1 - (c + 1))
        case measure => omega
        case rel =>
          obtain ⟨k1, k2, k3, k4, k5, k6, k7, k8⟩ := PK.out
          exact ⟨c + 1, rStep s1, rfl, by omega, rfl, k6, k5, k2, k3, k4, k1, k7, k8⟩

end

end Go.Proofs.Ytbiaompkmabfjaa
