/- LatchExact: the walk. -/
import Derived.Test.YtfgkhlbmmffajaaLatchExactL
import Derived.Test.YtfgkhlbmmffajaaLatchIdleW
import Derived.Deep.RegionHeld3
import Derived.Deep.CutBlock
namespace Go.Proofs.Ytfgkhlbmmffajaa
open Go.Maps Go.RowKit

attribute [local go_sem] Oper.semAt_some

set_option maxRecDepth 100000 in
set_option maxHeartbeats 8000000 in
theorem lexact_calls (A : Option Addr) (n c : Nat) (w : World) (_hn : n ≤ maxLen) (hA : CellsAt w w.heap.size 3 A n okActL) :
    Calls Try.prog 5 #[.slice A n c] w fun e w' => e = .returned (.bool true) ∧ Below w.heap.size w w' := by
  go_enter Try.func5, Try.ntmps5
  go_wp2_with fail
  refine (awake_calls _).mono ?_
  rintro e w1 ⟨rfl, hF1⟩
  go_wp2_with fail
  refine (New_calls _).mono ?_
  rintro e w2 ⟨rfl, hL2, hF2⟩
  have hs1 := hF1.size
  have hs2 := hF2.size
  have hE0 : EL w (w1.heap.size + 1) (w1.heap.size) (w2.heap.size) [] [] (w2.alloc (.cells #[.slice none 0 0] 43)) :=
    ⟨⟨[], hL2.keep ((Fr.refl (fun _ => False) w2).alloc _) (fun _ _ h => h), rfl, fun b hb => by rcases hb with rfl | rfl | ⟨p, k, h⟩ <;> first | omega | cases h⟩, ⟨_, Blk.new w2 43 [.slice none 0 0], World.ownsRow_nil _ _ _ _⟩, (hF1.trans hF2 (fun _ _ h => h)).alloc _, by omega⟩
  clear hF1 hF2 hL2
  go_wp2_with fail
  go_loopg [5] 200 (fun g i wr => ∃ (k : Nat) (q : LS), i = .int .i64 k ∧ k ≤ 200 ∧ g = 200 - k ∧ LInv q ∧ q.length ≤ k ∧ EL w (w1.heap.size + 1) (w1.heap.size) (w2.heap.size) q q wr)
  case atStart => exact ⟨0, _, rfl, by omega, by omega, linv_nil, by simp, hE0⟩
  case round =>
    obtain ⟨k, q, rfl, hk2, rfl, hI, hlen, hE⟩ := hrel
    clear hE0
    by_cases hlt : k < n ∧ k < 200
    · obtain ⟨hlt, hlt2⟩ := hlt
      obtain ⟨b, off, rfl, hbb, hcells⟩ := hA k hlt
      obtain ⟨y0, i0, c0⟩ := hcells 0 (by omega)
      obtain ⟨y1, i1, c1⟩ := hcells 1 (by omega)
      obtain ⟨y2, i2, c2⟩ := hcells 2 (by omega)
      obtain ⟨kd, rfl, _⟩ := i0
      obtain ⟨pg, rfl, hpg⟩ := i1
      obtain ⟨x, rfl⟩ := i2
      rw [← hE.fr.cell (p := ⟨b, _, none⟩) hbb (fun h => h)] at c0 c1 c2
      rw [Nat.add_zero] at c0
      have hltz : (k : Int) < (n : Int) := by omega
      have q1 : (0 : Int) ≤ (k : Int) := by omega
      have hEa := hE.quiet ((Fr.refl (fun _ => False) wr).alloc (.cells #[.int .i64 kd, .int .i64 pg, .bool x] 27))
      have hXa : XBl (wr.alloc (.cells #[.int .i64 kd, .int .i64 pg, .bool x] 27)) wr.heap.size kd pg x := Blk.new wr 27 [.int .i64 kd, .int .i64 pg, .bool x]
      clear hcells hE
      go_upto_block 2 with (fail)
      clear c0 c1 c2
      generalize wr.alloc (.cells #[.int .i64 kd, .int .i64 pg, .bool x] 27) = wa at hEa hXa ⊢
      have x0 := Blk.cell hXa 0
      have x1 := Blk.cell hXa 1
      have x2 := Blk.cell hXa 2
      go_cut [6] from 14 to 112 (fun v6 wx => v6 = .pointer (some ⟨wr.heap.size, 0, none⟩) ∧ ∃ q' : LS, LInv q' ∧ q'.length ≤ k + 1 ∧ EL w (w1.heap.size + 1) (w1.heap.size) (w2.heap.size) q' q' wx ∧ XBl wx wr.heap.size kd pg x)
      case first =>
        by_cases hk1 : kd = 1
        · subst hk1
          as_aux_lemma =>
            go_wp2_with fail
            refine (hEa.grant hXa (by omega) hpg).mono ?_
            rintro e w3 ⟨rfl, hE3, hX3⟩
            have y1 := Blk.cell hX3 1
            have y2 := Blk.cell hX3 2
            clear x0 x1 x2 hEa hXa
            go_wp2_with fail
            refine (hE3.rgrant hX3 hI (by omega)).mono ?_
            rintro e w4 ⟨rfl, hE4, hX4⟩
            go_wp2_with fail
            go_meet
            exact ⟨rfl, lGrant pg x q, lGrant_inv hI hpg x, Nat.le_trans (lGrant_len pg x) (by omega), hE4, hX4⟩
        have hk1' : (kd == 1) = false := by simpa using hk1
        clear hk1
        by_cases hk1 : kd = 2
        · subst hk1
          as_aux_lemma =>
            go_wp2_with fail
            have hT1 := (hEa.drewN 1).use (xb := wr.heap.size) (kd := 2) (pg := pg) (x := x) hXa hI hpg
            have hT2 := fun (W : World) (hE : EL w (w1.heap.size + 1) (w1.heap.size) (w2.heap.size) (lUse pg x q).2 q W) (hX : XBl W wr.heap.size 2 pg x) => hE.ruse hX hI (by omega)
            obtain ⟨r, hr⟩ : ∃ r, r = (lUse pg x q).1 := ⟨_, rfl⟩
            rw [← hr] at hT1
            simp only [← hr] at hT2
            have HT1 := Lib.hid hT1
            have HT2 := Lib.hid hT2
            have bb : (r != r) = false := by simp
            clear hT1 hT2 hr
            go_region_held3 (fun w' => w'.cell? ⟨wr.heap.size, 1, none⟩ = some (.int .i64 pg) ∧ w'.cell? ⟨wr.heap.size, 2, none⟩ = some (.bool x)) (go_keep) ((first | (go_at_call 13; refine HT1.out.mono ?_; rintro e wb ⟨rfl, hEb, hXb, g1, g2⟩) | (go_at_call 15; refine (HT2.out _ hEb hXb).mono ?_; rintro e wd ⟨rfl, hEd, hXd, k1, k2⟩)))
            go_wp2_with fail
            go_meet
            exact ⟨rfl, (lUse pg x q).2, lUse_inv hI hpg x, by rw [lUse_len hI]; omega, hEd, hXd⟩
        have hk2' : (kd == 2) = false := by simpa using hk1
        clear hk1
        by_cases hk1 : kd = 3
        · subst hk1
          as_aux_lemma =>
            go_wp2_with fail
            have hT1 := (hEa.drewN 1).call (xb := wr.heap.size) (kd := 3) (pg := pg) (x := x) hXa hI hpg
            have hT2 := fun (W : World) (hE : EL w (w1.heap.size + 1) (w1.heap.size) (w2.heap.size) (lCall pg x q).2 q W) (hX : XBl W wr.heap.size 3 pg x) => hE.rcall hX hI (by omega)
            obtain ⟨r, hr⟩ : ∃ r, r = (lCall pg x q).1 := ⟨_, rfl⟩
            rw [← hr] at hT1
            simp only [← hr] at hT2
            have HT1 := Lib.hid hT1
            have HT2 := Lib.hid hT2
            have bb : (r != r) = false := by simp
            clear hT1 hT2 hr
            go_region_held3 (fun w' => w'.cell? ⟨wr.heap.size, 1, none⟩ = some (.int .i64 pg) ∧ w'.cell? ⟨wr.heap.size, 2, none⟩ = some (.bool x)) (go_keep) ((first | (go_at_call 11; refine HT1.out.mono ?_; rintro e wb ⟨rfl, hEb, hXb, g1, g2⟩) | (go_at_call 16; refine (HT2.out _ hEb hXb).mono ?_; rintro e wd ⟨rfl, hEd, hXd, k1, k2⟩)))
            go_wp2_with fail
            go_meet
            exact ⟨rfl, (lCall pg x q).2, lCall_inv hI hpg x, Nat.le_trans (lCall_len hI pg x) (by omega), hEd, hXd⟩
        have hk3' : (kd == 3) = false := by simpa using hk1
        clear hk1
        by_cases hk1 : kd = 4
        · subst hk1
          as_aux_lemma =>
            obtain ⟨r1, r2⟩ := endRest_inv hI
            have HR2 := Lib.hid r2
            have hol := endOuts_len q
            go_wp2_with fail
            refine (hEa.end_ hXa hI (by omega)).mono ?_
            rintro e w3 ⟨v3, rfl, hv3, hE3, hX3⟩
            clear x0 x1 x2 hEa hXa
            go_wp2_with fail
            refine (hE3.rend hX3 hI (by omega) hv3).mono ?_
            rintro e w4 ⟨v4, rfl, hv4, hv5, hE4, hX4⟩
            clear hE3 hX3 hv3
            go_wp2_with fail
            refine (lets_calls w4 _ v3 v4 hv4 hv5 (by omega)).mono ?_
            rintro e w5 ⟨rfl, hF5⟩
            go_wp2_with fail
            go_meet
            exact ⟨rfl, endRest q, r1, by have := HR2.out; omega, hE4.quiet hF5, hX4.quiet hF5⟩
        have hk4' : (kd == 4) = false := by simpa using hk1
        clear hk1
        by_cases hk1 : kd = 5
        · subst hk1
          as_aux_lemma =>
            go_wp2_with fail
            refine (hEa.clear hXa).mono ?_
            rintro e w3 ⟨rfl, hE3, hX3⟩
            obtain ⟨vu, hu⟩ := hE3.ub_
            have z0 := hu.frozen 0
            have u0 := hu.cell 0
            clear x0 x1 x2 hEa hXa
            go_wp2_with fail
            go_meet
            exact ⟨rfl, [], linv_nil, by simp, (hE3.nil hX3).1, (hE3.nil hX3).2⟩
        have hk5' : (kd == 5) = false := by simpa using hk1
        clear hk1
        as_aux_lemma =>
          go_wp2_with fail
          go_meet
          exact ⟨rfl, q, hI, by omega, hEa, hXa⟩
      case rest =>
        as_aux_lemma =>
          obtain ⟨rfl, q', hI', hlen', hE', hX'⟩ := hcut
          obtain ⟨x1, x2⟩ := hX'.two
          have hp1 : ∀ n : Nat, Calls Try.prog 10 #[.pointer (some ⟨w1.heap.size + 1, 0, none⟩), .int .i64 pg, .bool x] (wc.drewN n) fun e w' => e = .returned (.bool (lHas pg x q')) ∧ w' = wc.drewN n := fun n => ((hE'.drewN n).has hpg).mono fun _ _ ⟨h1, h2⟩ => ⟨h1, h2.symm⟩
          have hp2 : ∀ n : Nat, Calls Try.prog 20 #[.pointer (some ⟨w2.heap.size, 0, none⟩), .int .i64 pg, .bool x] (wc.drewN n) fun e w' => e = .returned (.bool (lHas pg x q')) ∧ w' = wc.drewN n := fun n => (refHas_calls w _ (w2.heap.size) q' (hE'.drewN n).r hI'.srt (by omega) pg x).mono fun _ _ ⟨h1, h2⟩ => ⟨h1, h2.symm⟩
          have hp3 : ∀ n : Nat, Calls Try.prog 21 #[.pointer (some ⟨w1.heap.size + 1, 0, none⟩), .int .i64 pg] (wc.drewN n) fun e w' => e = .returned (.int .i64 (lUsed pg q')) ∧ w' = wc.drewN n := fun n => ((hE'.drewN n).used hpg).mono fun _ _ ⟨h1, h2⟩ => ⟨h1, h2.symm⟩
          have hp4 : ∀ n : Nat, Calls Try.prog 22 #[.pointer (some ⟨w2.heap.size, 0, none⟩), .int .i64 pg] (wc.drewN n) fun e w' => e = .returned (.int .i64 (lUsed pg q')) ∧ w' = wc.drewN n := fun n => (refUsed_calls w _ (w2.heap.size) q' (hE'.drewN n).r hI'.srt (by omega) pg).mono fun _ _ ⟨h1, h2⟩ => ⟨h1, h2.symm⟩
          have b1 : (lHas pg x q' != lHas pg x q') = false := by simp
          have b2 : (lUsed pg q' != lUsed pg q') = false := by simp
          have HL := Lib.hid hlen'
          clear hlen' hlen
          generalize lHas pg x q' = po at hp1 hp2 b1
          generalize lUsed pg q' = ps at hp3 hp4 b2
          go_wp2_with fail
          go_quiet ((first | (go_at_call 10; with_reducible exact Calls.quiet_of_same (hp1 _)) | (go_at_call 20; with_reducible exact Calls.quiet_of_same (hp2 _)) | (go_at_call 21; with_reducible exact Calls.quiet_of_same (hp3 _)) | (go_at_call 22; with_reducible exact Calls.quiet_of_same (hp4 _))))
          have hMy := hE'.drewN nq
          go_wp2_with fail
          go_roundg (200 - (k + 1))
          case measure => omega
          case rel => exact ⟨k + 1, q', rfl, by omega, rfl, hI', HL.out, hMy⟩
    · by_cases hlt1 : k < n
      all_goals
        have hlt2 : ¬ k < n ∨ ¬ k < 200 := by omega
        clear hlt
        go_wp2_with fail
        refine (hE.pages (by omega)).mono ?_
        rintro e w3 ⟨⟨A', cap, rfl, hpc, -⟩, hE3⟩
        rw [List.length_map]
        obtain ⟨B, cap', hBu, hcells⟩ := hE3.r.open_
        have HPC := Lib.hid hpc
        have HRC := Lib.hid hcells
        have HE3 := Lib.hid hE3
        have c0 := hBu.cell 0
        clear hpc hcells hE hE3
        go_wp2_with fail
        go_loopg [8] q.length (fun g i wq => ∃ j : Nat, i = .int .i64 j ∧ j ≤ q.length ∧ g = q.length - j ∧ Fr (fun _ => False) w3 wq)
        case atStart => exact ⟨0, rfl, by omega, by omega, Fr.refl _ _⟩
        case round =>
          obtain ⟨j, rfl, hj, rfl, hF⟩ := hrel
          have u0 := (hBu.fr hF (fun h => h)).cell 0
          have HF := Lib.hid hF
          clear c0
          by_cases hltj : j < q.length
          · have hltz : (j : Int) < (q.length : Int) := by omega
            have q1 : (0 : Int) ≤ (j : Int) := by omega
            have ho : q[j]? = some q[j] := List.getElem?_eq_getElem hltj
            generalize q[j] = y at ho
            have ho2 : (q.map (·.1))[j]? = some y.1 := by rw [List.getElem?_map, ho]; rfl
            obtain ⟨g, rfl, _, hg1, hg2⟩ := HPC.out j y.1 ho2
            obtain ⟨g', rfl, _, ⟨cur, hcur⟩, hg3, _⟩ := HRC.out j y ho
            have a0 := hg2 wr (hF.block g hg1 (fun h => h))
            obtain ⟨b0, _⟩ := hg3 wr (hF.block g' (Array.getElem?_eq_some_iff.1 hcur).1 (fun h => h))
            have bb : (y.1 != y.1) = false := by simp
            generalize y.1 = yp at a0 b0 bb
            clear hg2 hg3 hcur ho ho2 hF
            go_wp2_with fail
            go_quiet (fail)
            go_wp2_with fail
            go_roundg (q.length - (j + 1))
            case measure => omega
            case rel => exact ⟨j + 1, rfl, by omega, rfl, HF.out.trans (S' := fun _ => False) ⟨rfl, rfl, rfl, Nat.le_refl _, fun _ _ _ => rfl⟩ (fun _ _ h => h)⟩
          · have hltz : (q.length : Int) ≤ (j : Int) := by omega
            go_wp2_with fail
            go_ret
            exact ⟨rfl, (HE3.out.fr.trans HF.out (fun _ _ h => h)).to_below⟩

end Go.Proofs.Ytfgkhlbmmffajaa
