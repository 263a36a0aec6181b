/- LatchKeeps: the walk. -/
import Derived.Test.YtfgkhlbmmffajaaLatchKeepsL
import Derived.Test.YtfgkhlbmmffajaaLatchIdleW
import Derived.Deep.CutBlock
namespace Go.Proofs.Ytfgkhlbmmffajaa
open Go.Maps Go.RowKit

theorem mod_bd (x : Int) (m : Int) (hm : 0 < m) (hm' : m < 9223372036854775808) : 0 ≤ wrap64 ((IntKind.u64.wrap x).tmod m) ∧ wrap64 ((IntKind.u64.wrap x).tmod m) < m := by
  have h0 : 0 ≤ IntKind.u64.wrap x := by
    simp only [IntKind.wrap, IntKind.signed, IntKind.bits]
    have := Int.emod_nonneg x (show (2 ^ 64 : Int) ≠ 0 by decide)
    simpa using this
  rw [Int.tmod_eq_emod_of_nonneg h0]
  have h1 := Int.emod_nonneg (IntKind.u64.wrap x) (show m ≠ 0 by omega)
  have h2 := Int.emod_lt_of_pos (IntKind.u64.wrap x) hm
  unfold wrap64
  omega

set_option maxRecDepth 100000 in
set_option maxHeartbeats 8000000 in
theorem lkeeps_calls (A : Option Addr) (n c : Nat) (w : World) (_hn : n ≤ maxLen) (hA : CellsAt w w.heap.size 3 A n okActL) :
    Calls Try.prog 6 #[.slice A n c] w fun e w' => e = .returned (.bool true) ∧ Below w.heap.size w w' := by
  go_enter Try.func6, Try.ntmps6
  go_wp2_with fail
  refine (awake_calls _).mono ?_
  rintro e w1 ⟨rfl, hF1⟩
  go_wp2_with fail
  refine (HasL.new_ w w1 (fun _ => False) (fun _ h => h.elim) hF1).mono ?_
  rintro e w2 ⟨lb, mb, rfl, hH2, -⟩
  clear hF1
  have hs2 := hH2.fr.size
  have hE0 : EKS w lb mb (w2.heap.size) (w2.heap.size + 1) [] ((w2.alloc (.cells #[.int .i64 0, .int .i64 0, .int .i64 0, .int .i64 0, .int .i64 0, .int .i64 0] 50)).alloc (.cells #[.bool false, .bool false, .bool false, .bool false, .bool false, .bool false] 51)) := by
    refine ⟨((hH2.alloc _).alloc _).sub fun b hb => ?_, (Blk.new w2 50 [.int .i64 0, .int .i64 0, .int .i64 0, .int .i64 0, .int .i64 0, .int .i64 0]).alloc _, ?_, by omega, by omega⟩
    · rcases hb with rfl | rfl
      · exact .inl (.inr rfl)
      · exact .inr (by rw [World.size_alloc])
    · have := Blk.new (w2.alloc (.cells #[.int .i64 0, .int .i64 0, .int .i64 0, .int .i64 0, .int .i64 0, .int .i64 0] 50)) 51 [.bool false, .bool false, .bool false, .bool false, .bool false, .bool false]
      rw [World.size_alloc] at this
      exact this
  clear hH2
  go_wp2_with fail
  go_loopg [6] 200 (fun g i wr => ∃ (k : Nat) (ls : LS), i = .int .i64 k ∧ k ≤ 200 ∧ g = 200 - k ∧ KInv ls ∧ ls.length ≤ k ∧ EKS w lb mb (w2.heap.size) (w2.heap.size + 1) ls wr)
  case atStart => exact ⟨0, _, rfl, by omega, by omega, kinv_nil, by simp, hE0⟩
  case round =>
    obtain ⟨k, ls, rfl, hk2, rfl, hI, hlen, hE⟩ := hrel
    clear hE0
    by_cases hlt : k < n ∧ k < 200
    · obtain ⟨hlt, hlt2⟩ := hlt
      obtain ⟨b, off, rfl, hbb, hcells⟩ := hA k hlt
      obtain ⟨y0, i0, c0⟩ := hcells 0 (by omega)
      obtain ⟨y1, i1, c1⟩ := hcells 1 (by omega)
      obtain ⟨y2, i2, c2⟩ := hcells 2 (by omega)
      obtain ⟨kd, rfl, _⟩ := i0
      obtain ⟨pg, rfl, hpg⟩ := i1
      obtain ⟨x, rfl⟩ := i2
      rw [← hE.l.fr.cell (p := ⟨b, _, none⟩) hbb (fun h => h)] at c0 c1 c2
      rw [Nat.add_zero] at c0
      have hltz : (k : Int) < (n : Int) := by omega
      have q1 : (0 : Int) ≤ (k : Int) := by omega
      obtain ⟨hm0, hm1⟩ := mod_bd pg 6 (by omega) (by omega)
      obtain ⟨pn, hpn⟩ : ∃ pn : Nat, wrap64 ((IntKind.u64.wrap pg).tmod 6) = (pn : Int) := ⟨(wrap64 ((IntKind.u64.wrap pg).tmod 6)).toNat, by omega⟩
      have HPN := Lib.hid hpn
      rw [hpn] at hm1
      have hp6 : pn < 6 := by omega
      clear hcells hm0 hm1 hpn
      go_upto_block 2 with (fail)
      rw [HPN.out]
      clear c0 c1 c2 HPN hpg
      have hP : (0 : Int) ≤ (pn : Int) ∧ (pn : Int) < 6 := by omega
      have hpz : (pn : Int) < 6 := hP.2
      have p64 : in64 (pn : Int) := in64_6 hP
      go_cut [7, 8, 9, 10, 11, 12, 13, 14] from 21 to 190 (fun _ _ _ _ _ _ _ _ wx => ∃ ls' : LS, KInv ls' ∧ ls'.length ≤ k + 1 ∧ EKS w lb mb (w2.heap.size) (w2.heap.size + 1) ls' wx)
      case first =>
        by_cases hk1 : kd = 1
        · subst hk1
          as_aux_lemma =>
            obtain ⟨n0, n1⟩ := hE.cellN hp6
            have hg : ∀ y : Bool, (lUsed pn ls = 2 → y = true) → Calls Try.prog 9 #[.pointer (some ⟨lb, 0, none⟩), .int .i64 pn, .bool y] wr fun e w' => e = .returned (.tuple #[]) ∧ ∃ ls' : LS, KInv ls' ∧ ls'.length ≤ k + 1 ∧ EKS w lb mb (w2.heap.size) (w2.heap.size + 1) ls' w' := fun y hy => by
              obtain ⟨g1, g2, g3⟩ := kgrant hI hP hy
              exact (hE.l.grant (by omega) pn p64 y).mono fun _ _ ⟨e1, e2, e3⟩ => ⟨e1, _, g1, Nat.le_trans (lGrant_len _ _) (by omega), (hE.step e2 e3).congr (fun j => g2 j) (fun j => g3 j)⟩
            rcases (kcheck hI pn).1 with hu | hu | hu
            all_goals
              rw [hu] at n0
              have hU := Lib.hid hu
              clear hu
              cases x
              all_goals
                go_wp2_with fail
                refine (hg _ (by first | (intro _; rfl) | (intro h; rw [hU.out] at h; exact absurd h (by decide)))).mono ?_
                rintro e w3 ⟨rfl, hE3⟩
                clear n0 n1 hg
                go_wp2_with fail
                go_meet
                exact hE3
        have hk1' : (kd == 1) = false := by simpa using hk1
        clear hk1
        by_cases hk1 : kd = 2
        · subst hk1
          as_aux_lemma =>
            have huse := hE.l.use hI.inv pn p64 x
            obtain ⟨g1, g2, g3⟩ := kuse hI hP x
            have hl := lUse_len hI.inv (pn : Int) x
            rcases h9 : lUse pn x ls with ⟨a, ls'⟩
            rw [h9] at huse g1 g2 g3 hl
            dsimp only at huse g1 g2 g3 hl
            rcases (kcheck hI pn).1 with hu | hu | hu
            all_goals
              rw [hu] at g3
              have HU := Lib.hid hu
              clear hu h9
              rcases g3 with ⟨rfl, g3⟩ | ⟨rfl, g3⟩
              · have HG3 := Lib.hid g3
                clear g3
                go_wp2_with fail
                refine huse.mono ?_
                rintro e w3 ⟨rfl, hH3, hF3⟩
                have hE3 := (hE.step hH3 hF3).congr (f' := fun j => lUsed (j : Int) ls) (g' := fun j => lOwes (j : Int) ls') (fun _ => rfl) (fun j => g2 j)
                obtain ⟨n0, n1⟩ := hE3.cellN hp6
                rw [HU.out] at n0
                have hq : ∀ (j : Nat), (j : Int) = (pn : Int) ↔ j = pn := fun j => by omega
                have HQ := Lib.hid hq
                clear huse hE hH3 hF3 hq
                cases x
                all_goals
                  go_wp2_with fail
                  go_meet
                  first
                    | exact ⟨ls', g1, by omega, hE3.setN (f' := fun j => lUsed (j : Int) ls') pn _ (fun j => by show lUsed (j : Int) ls' = _; rw [HG3.out]; simp only [HQ.out]; by_cases e : j = pn <;> simp [e])⟩
                    | exact ⟨ls', g1, by omega, (hE3.setN (f' := fun j => if j = pn then _ else lUsed (j : Int) ls) pn _ (fun _ => rfl)).setN (f' := fun j => lUsed (j : Int) ls') pn _ (fun j => by show lUsed (j : Int) ls' = _; rw [HG3.out]; simp only [HQ.out]; by_cases e : j = pn <;> simp [e])⟩
              · go_wp2_with fail
                refine huse.mono ?_
                rintro e w3 ⟨rfl, hH3, hF3⟩
                have hE3 := (hE.step hH3 hF3).congr (f' := fun j => lUsed (j : Int) ls') (g' := fun j => lOwes (j : Int) ls') (fun j => g3 j) (fun j => g2 j)
                clear huse hE hH3 hF3
                go_wp2_with fail
                go_meet
                exact ⟨ls', g1, by omega, hE3⟩
        have hk2' : (kd == 2) = false := by simpa using hk1
        clear hk1
        by_cases hk1 : kd = 3
        · subst hk1
          as_aux_lemma =>
            have hcall := hE.l.call hI.inv pn p64 x
            obtain ⟨g1, g2, g3, g4⟩ := kcall hI hP x
            have hl := lCall_len hI.inv (pn : Int) x
            rcases h9 : lCall pn x ls with ⟨a, ls'⟩
            rw [h9] at hcall g1 g2 g3 g4 hl
            dsimp only at hcall g1 g2 g3 g4 hl
            have h3 := (kcheck hI pn).1
            have hu' : ∃ u, lUsed pn ls = u ∧ ((a = 0 ∧ (u = 0 ∨ u = 1 ∨ u = 2)) ∨ (a = 1 ∧ u = 0) ∨ (a = 2 ∧ (u = 0 ∨ u = 1)) ∨ (a = 3 ∧ (u = 1 ∨ u = 2))) := ⟨_, rfl, by omega⟩
            obtain ⟨u, hu, hau⟩ := hu'
            have HU := Lib.hid hu
            have HG3 := Lib.hid g3
            have hq : ∀ (j : Nat), (j : Int) = (pn : Int) ↔ j = pn := fun j => by omega
            have HQ := Lib.hid hq
            clear g4 h3 hu h9 g3 hq
            have hstep : ∀ w3, HasL w (fun b => b = w2.heap.size ∨ b = w2.heap.size + 1) lb mb ls' w3 → Fr (KX w (fun b => b = w2.heap.size ∨ b = w2.heap.size + 1)) wr w3 → EK w lb mb (w2.heap.size) (w2.heap.size + 1) ls' (fun j => lUsed (j : Int) ls') (fun j => lOwes (j : Int) ls) w3 ∧ w3.cell? ⟨w2.heap.size, pn, none⟩ = some (.int .i64 u) ∧ w3.cell? ⟨w2.heap.size + 1, pn, none⟩ = some (.bool (lOwes (pn : Int) ls)) ∧ w3.frozen? ⟨w2.heap.size + 1, pn, none⟩ = false := fun w3 h1 h2 => by
              have h3 := hE.step h1 h2
              have h4 := (h3.cellN hp6).1
              rw [HU.out] at h4
              exact ⟨h3.congr (fun j => g2 j) (fun _ => rfl), h4, (h3.cellB hp6).1, (h3.cellB hp6).2⟩
            have HST := Lib.hid hstep
            clear hstep hE
            rcases hau with ⟨rfl, rfl | rfl | rfl⟩ | ⟨rfl, rfl⟩ | ⟨rfl, rfl | rfl⟩ | ⟨rfl, rfl | rfl⟩
            all_goals
              go_wp2_with fail
              refine hcall.mono ?_
              rintro e w3 ⟨rfl, hH3, hF3⟩
              obtain ⟨hE3, n0, o0, o1⟩ := HST.out w3 hH3 hF3
              have hbn : EK w lb mb (w2.heap.size) (w2.heap.size + 1) ls' (fun j => lUsed (j : Int) ls') (fun j => if j = pn then true else lOwes (j : Int) ls) (w3.setCell ⟨w2.heap.size + 1, pn, none⟩ (.bool true)) := hE3.setB pn true (fun _ => rfl)
              have n2 : (w3.setCell ⟨w2.heap.size + 1, pn, none⟩ (.bool true)).cell? ⟨w2.heap.size, pn, none⟩ = _ := ((hbn.cellN hp6).1.trans (hE3.cellN hp6).1.symm).trans n0
              clear hcall hH3 hF3
              go_wp2_with fail
              go_meet
              first
                | exact ⟨ls', g1, by omega, hE3.congr (fun _ => rfl) (fun j => by show lOwes (j : Int) ls' = _; rw [HG3.out]; simp only [HQ.out]; by_cases e : j = pn <;> simp [e])⟩
                | exact ⟨ls', g1, by omega, hbn.congr (fun _ => rfl) (fun j => by show lOwes (j : Int) ls' = _; rw [HG3.out]; simp only [HQ.out]; by_cases e : j = pn <;> simp [e])⟩
        have hk3' : (kd == 3) = false := by simpa using hk1
        clear hk1
        by_cases hk1 : kd = 4
        · subst hk1
          as_aux_lemma =>
            obtain ⟨g1, g2, g3, g4, g5⟩ := kend hI
            have hl := (endRest_inv hI.inv).2
            have hol := endOuts_len ls
            have hnbl := hE.n.lt
            have hobl := hE.o.lt
            have HG2 := Lib.hid g2
            have HG3 := Lib.hid g3
            have HG5 := Lib.hid g5
            clear g2 g3 g5
            go_wp2_with fail
            refine (hE.l.end_ hI.inv (by omega)).mono ?_
            rintro e w3 ⟨v, rfl, ⟨A', cap, rfl, hrow⟩, hH3, hF3⟩
            have hE3 := hE.step hH3 hF3
            have HROW := Lib.hid hrow
            clear hE hH3 hF3 hrow
            obtain ⟨os, hos⟩ : ∃ os, os = endOuts ls := ⟨_, rfl⟩
            rw [← hos] at g4 HROW HG5 hol ⊢
            clear hos
            go_wp2_with fail
            go_loopg [11, 12] 6 (fun g n i wq => ∃ j : Nat, i = .int .i64 j ∧ j ≤ 6 ∧ g = 6 - j ∧ n = .int .i64 (cntTo (fun j => lOwes (j : Int) ls) j : Nat) ∧ EK w lb mb (w2.heap.size) (w2.heap.size + 1) (endRest ls) (fun i => if i < j then 0 else lUsed (i : Int) ls) (fun i => if i < j then false else lOwes (i : Int) ls) wq ∧ Fr (fun b => b = w2.heap.size ∨ b = w2.heap.size + 1) w3 wq)
            case atStart => exact ⟨0, rfl, by omega, by omega, rfl, hE3.congr (fun _ => rfl) (fun _ => rfl), Fr.refl _ _⟩
            case round =>
              obtain ⟨j, rfl, hj, rfl, rfl, hEj, hFj⟩ := hrel
              clear hE3
              have hcl := cntTo_le (fun j => lOwes (j : Int) ls) j
              by_cases hlt6 : j < 6
              · have hltz6 : (j : Int) < 6 := by omega
                have q6 : (0 : Int) ≤ (j : Int) := by omega
                obtain ⟨o0, o1⟩ := hEj.cellB hlt6
                have n1 := (hEj.cellN hlt6).2
                rw [if_neg (Nat.lt_irrefl j)] at o0
                have hset1 := hEj.setB j false (g' := fun i => if i < j + 1 then false else lOwes (i : Int) ls) (fun i => upd_lt j i false (fun i => lOwes (i : Int) ls))
                obtain ⟨m0, m1⟩ := hset1.cellN hlt6
                have hset := hset1.setN j 0 (f' := fun i => if i < j + 1 then 0 else lUsed (i : Int) ls) (fun i => upd_lt j i 0 (fun i => lUsed (i : Int) ls))
                have hFn := (hFj.setCell (p := ⟨w2.heap.size + 1, j, none⟩) (.inl (.inr rfl)) (.bool false)).setCell (p := ⟨w2.heap.size, j, none⟩) (.inl (.inl rfl)) (.int .i64 0)
                have HSET := Lib.hid hset
                have HFN := Lib.hid hFn
                clear hset hset1 hFn hEj hFj
                cases ho : lOwes (j : Int) ls
                all_goals
                  rw [ho] at o0
                  have HO := Lib.hid ho
                  clear ho
                  go_wp2_with fail
                  go_roundg (6 - (j + 1))
                  case measure => omega
                  case rel => exact ⟨j + 1, rfl, by omega, rfl, by simp [cntTo, HO.out, b2], HSET.out, HFN.out⟩
              · obtain rfl : j = 6 := by omega
                have hEe : EKS w lb mb (w2.heap.size) (w2.heap.size + 1) (endRest ls) wr := (EK.congr (f' := fun _ => 0) (g' := fun _ => false) hEj (fun i => kout_n hI i) (fun i => kout_b hI i)).congr (fun j => HG2.out j) (fun j => HG3.out j)
                have hFe := hFj
                have HEE := Lib.hid hEe
                have HFE := Lib.hid hFe
                clear hEj hFj hEe hFe
                rw [← g4] at hcl ⊢
                have bb : ((os.length : Int) != (os.length : Int)) = false := by simp
                go_wp2_with fail
                go_loopg [13] os.length (fun g i wq => ∃ j : Nat, i = .int .i64 j ∧ j ≤ os.length ∧ g = os.length - j ∧ EKS w lb mb (w2.heap.size) (w2.heap.size + 1) (endRest ls) wq ∧ Fr (fun b => b = w2.heap.size ∨ b = w2.heap.size + 1) w3 wq)
                case atStart => exact ⟨0, rfl, by omega, by omega, HEE.out, HFE.out⟩
                case round =>
                  obtain ⟨j, rfl, hj, rfl, hEj, hFj⟩ := hrel
                  have HFJ := Lib.hid hFj
                  clear bb hcl
                  by_cases hltj : j < os.length
                  · have hltz6 : (j : Int) < (os.length : Int) := by omega
                    have q6 : (0 : Int) ≤ (j : Int) := by omega
                    have ho : os[j]? = some os[j] := List.getElem?_eq_getElem hltj
                    have hmem := List.getElem_mem hltj
                    generalize os[j] = q at ho hmem
                    obtain ⟨g, rfl, hg0, hg1, hc⟩ := HROW.out j q ho
                    obtain ⟨a0, a1⟩ := hc wr (hFj.block g hg1 (fun e => by rcases e with e | e <;> omega))
                    obtain ⟨p1, p2, p3⟩ := HG5.out q hmem
                    have hb1 := fun n => ((hEj.drewN n).l.has q.1 p1 true).mono (R' := fun e w' => e = .returned (.bool false) ∧ w' = wr.drewN n) fun _ _ ⟨h1, h2⟩ => ⟨by rw [h1, p2], h2.symm⟩
                    have hb2 := fun n => ((hEj.drewN n).l.has q.1 p1 false).mono (R' := fun e w' => e = .returned (.bool q.2) ∧ w' = wr.drewN n) fun _ _ ⟨h1, h2⟩ => ⟨by rw [h1, p3], h2.symm⟩
                    have HEJ := Lib.hid hEj
                    obtain ⟨qp, qx⟩ := q
                    dsimp only at a0 a1 hb1 hb2
                    have bb : (qx != qx) = false := by simp
                    clear ho hmem hc p1 p2 p3 hEj hFj
                    go_wp2_with fail
                    go_quiet ((first | (go_at_call 10; with_reducible exact Calls.quiet_of_same (hb1 _)) | (go_at_call 10; with_reducible exact Calls.quiet_of_same (hb2 _))))
                    have hEq := HEJ.out.drewN nq
                    have hFq := HFJ.out.trans (S' := fun _ => False) (show Fr (fun _ => False) wr (wr.drewN nq) from ⟨rfl, rfl, rfl, Nat.le_refl _, fun _ _ _ => rfl⟩) (fun _ _ h => h.elim)
                    go_wp2_with fail
                    go_roundg (os.length - (j + 1))
                    case measure => omega
                    case rel => exact ⟨j + 1, rfl, by omega, rfl, hEq, hFq⟩
                  · have hltz6 : (os.length : Int) ≤ (j : Int) := by omega
                    have HEJ := Lib.hid hEj
                    clear hEj hFj
                    go_wp2_with fail
                    go_meet
                    exact ⟨endRest ls, g1, by omega, HEJ.out⟩
        have hk4' : (kd == 4) = false := by simpa using hk1
        clear hk1
        as_aux_lemma =>
          go_wp2_with fail
          go_meet
          exact ⟨ls, hI, by omega, hE⟩
      case rest =>
        as_aux_lemma =>
          obtain ⟨ls', hI', hlen', hE'⟩ := hcut
          clear hE
          have HL := Lib.hid hlen'
          clear hlen' hlen
          go_wp2_with fail
          go_loopg [14] 6 (fun g i wq => ∃ j : Nat, i = .int .i64 j ∧ j ≤ 6 ∧ g = 6 - j ∧ EKS w lb mb (w2.heap.size) (w2.heap.size + 1) ls' wq)
          case atStart => exact ⟨0, rfl, by omega, by omega, hE'⟩
          case round =>
            obtain ⟨j, rfl, hj, rfl, hEj⟩ := hrel
            clear hE'
            by_cases hlt6 : j < 6
            · have hltz6 : (j : Int) < 6 := by omega
              have q6 : (0 : Int) ≤ (j : Int) := by omega
              have j64 : in64 (j : Int) := in64_6 ⟨q6, hltz6⟩
              obtain ⟨n0, _⟩ := hEj.cellN hlt6
              have hu := fun n => ((hEj.drewN n).l.used (j : Int) j64).mono (R' := fun e w' => e = .returned (.int .i64 (lUsed (j : Int) ls')) ∧ w' = wr.drewN n) fun _ _ ⟨h1, h2⟩ => ⟨h1, h2.symm⟩
              have hh := fun x n => ((hEj.drewN n).l.has (j : Int) j64 x).mono (R' := fun e w' => e = .returned (.bool (lHas (j : Int) x ls')) ∧ w' = wr.drewN n) fun _ _ ⟨h1, h2⟩ => ⟨h1, h2.symm⟩
              obtain ⟨k1, k2⟩ := kcheck hI' (j : Int)
              have HEJ := Lib.hid hEj
              clear hEj
              rcases k1 with e | e | e
              · rw [e] at n0
                simp only [e] at hu
                clear e k2 hh
                go_wp2_with fail
                go_quiet ((go_at_call 21; with_reducible exact Calls.quiet_of_same (hu _)))
                have hEq := HEJ.out.drewN nq
                go_wp2_with fail
                go_roundg (6 - (j + 1))
                case measure => omega
                case rel => exact ⟨j + 1, rfl, by omega, rfl, hEq⟩
              · have k3 : lHas (j : Int) false ls' = true := by rw [e] at k2; exact k2 (by decide)
                have hh' := hh false
                rw [e] at n0
                simp only [e] at hu
                simp only [k3] at hh'
                clear e k2 k3 hh
                go_wp2_with fail
                go_quiet ((first | (go_at_call 21; with_reducible exact Calls.quiet_of_same (hu _)) | (go_at_call 10; with_reducible exact Calls.quiet_of_same (hh' _))))
                have hEq := HEJ.out.drewN nq
                go_wp2_with fail
                go_roundg (6 - (j + 1))
                case measure => omega
                case rel => exact ⟨j + 1, rfl, by omega, rfl, hEq⟩
              · have k3 : lHas (j : Int) true ls' = true := by rw [e] at k2; exact k2 (by decide)
                have hh' := hh true
                rw [e] at n0
                simp only [e] at hu
                simp only [k3] at hh'
                clear e k2 k3 hh
                go_wp2_with fail
                go_quiet ((first | (go_at_call 21; with_reducible exact Calls.quiet_of_same (hu _)) | (go_at_call 10; with_reducible exact Calls.quiet_of_same (hh' _))))
                have hEq := HEJ.out.drewN nq
                go_wp2_with fail
                go_roundg (6 - (j + 1))
                case measure => omega
                case rel => exact ⟨j + 1, rfl, by omega, rfl, hEq⟩
            · have hltz6 : (6 : Int) ≤ (j : Int) := by omega
              go_wp2_with fail
              go_roundg (200 - (k + 1))
              case measure => omega
              case rel => exact ⟨k + 1, ls', rfl, by omega, rfl, hI', HL.out, hEj⟩
    · by_cases hlt1 : k < n
      all_goals
        have hlt2 : ¬ k < n ∨ ¬ k < 200 := by omega
        clear hlt
        go_wp2_with (first
          | (go_at_call 9; refine (Grant_nil _ 1 true).mono ?_; rintro e w' ⟨rfl, rfl⟩)
          | (go_at_call 19; refine (Clear_nil _).mono ?_; rintro e w' ⟨rfl, rfl⟩)
          | (go_at_call 10; refine (Has_nil _ 1 false).mono ?_; rintro e w' ⟨rfl, rfl⟩)
          | (go_at_call 13; refine (Use_nil _ 1 false).mono ?_; rintro e w' ⟨rfl, rfl⟩)
          | (go_at_call 21; refine (Used_nil _ 1).mono ?_; rintro e w' ⟨rfl, rfl⟩)
          | (go_at_call 11; refine (Call_nil _ 1 true).mono ?_; rintro e w' ⟨rfl, rfl⟩)
          | (go_at_call 12; refine (End_nil _).mono ?_; rintro e w' ⟨rfl, rfl⟩)
          | (go_at_call 23; refine (Pages_nil _).mono ?_; rintro e w' ⟨rfl, rfl⟩))
        go_ret
        exact ⟨rfl, hE.l.below⟩

end Go.Proofs.Ytfgkhlbmmffajaa
