/- PurseRows: the walk. -/
import Derived.Test.YtejjfhgfhileeaaPurseRowsL
import Derived.Test.YtejjfhgfhileeaaPurseAll

namespace Go.Proofs.Ytejjfhgfhileeaa
open Go.Maps Go.RowKit Go.Shelf

attribute [local go_sem] Oper.semAt_some

set_option maxRecDepth 100000 in
set_option maxHeartbeats 8000000 in
theorem rows_calls (A : Option Addr) (n c : Nat) (w : World) (_hn : n ≤ maxLen) (hA0 : CellsAt w w.heap.size 4 A n okInts) :
    Calls Try.prog 6 #[.slice A n c] w fun e w' => e = .returned (.bool true) ∧ Below w.heap.size w w' := by
  obtain ⟨f, hA⟩ := acts_of_cells hA0
  clear hA0
  refine callsIn_wide.1 (callsIn_of_wp_marks (n := 9) Try.func6 rfl trivial ?_ rfl)
  simp only [Try.ntmps6, List.size_toArray, List.length_cons, List.length_nil, Nat.reduceAdd, Nat.reduceSub, Array.replicate_succ, Array.replicate_zero, List.push_toArray, List.append_toArray, List.nil_append, List.cons_append]
  refine wpIn_wide.2 ?_
  go_wp2_with fail
  refine (awake_calls _).mono ?_
  rintro e w1 ⟨rfl, hF1⟩
  have ho1 : Blk w1 w.heap.size 4 [.bool false] := (Blk.new w 4 [.bool false]).fr hF1 (fun h => h)
  have hF1' : Fr (fun _ => False) w w1 := ((Fr.refl _ w).alloc _).trans hF1 (fun _ _ h => h)
  clear hF1
  go_wp2_with fail
  refine (New_calls _).mono ?_
  rintro e w2 ⟨rfl, hP2, hF2⟩
  have ho2 := ho1.fr hF2 (fun h => h)
  have hl1 := ho1.lt
  have hl2 := hP2.1.lt
  have hF2' := hF1'.trans hF2 (fun _ _ h => h)
  have hr2 := Blk.new w2 25 [.pointer (some ⟨w1.heap.size + 1, 0, none⟩)]
  have hP3 : IsPurse (w2.alloc (.cells #[.pointer (some ⟨w1.heap.size + 1, 0, none⟩)] 25)) (w1.heap.size + 1) w1.heap.size ⟨[], 0⟩ := ⟨hP2.1.alloc _, hP2.2.alloc _⟩
  have ho3 := ho2.alloc (.cells #[.pointer (some ⟨w1.heap.size + 1, 0, none⟩)] 25)
  have hF3 := hF2'.alloc (.cells #[.pointer (some ⟨w1.heap.size + 1, 0, none⟩)] 25)
  clear ho1 hF1' hP2 hF2 ho2 hF2'
  go_wp2_with fail
  go_loopg [4] 200 (fun g i wr => ∃ (k : Nat) (q : PS), i = .int .i64 k ∧ k ≤ 200 ∧ g = 200 - k ∧ PInv q ∧ q.l.length ≤ k ∧ IsPurse wr (w1.heap.size + 1) w1.heap.size q ∧ Blk wr w.heap.size 4 [.bool false] ∧ Blk wr w2.heap.size 25 [.pointer (some ⟨w1.heap.size + 1, 0, none⟩)] ∧ Fr (fun _ => False) w wr)
  case atStart => exact ⟨0, _, rfl, by omega, by omega, pInv_nil, by simp, hP3, ho3, hr2, hF3⟩
  case round =>
    obtain ⟨k, q, rfl, hk2, rfl, hI, hlen, hP, hO, hR, hF⟩ := hrel
    clear hP3 ho3 hr2 hF3
    have r0 := hR.cell 0
    by_cases hlt : k < n ∧ k < 200
    · obtain ⟨hlt, hlt2⟩ := hlt
      obtain ⟨b, off, rfl, hbb, hcells⟩ := hA k hlt
      obtain ⟨i0, c0⟩ := hcells 0 (by omega)
      obtain ⟨i1, c1⟩ := hcells 1 (by omega)
      obtain ⟨i2, c2⟩ := hcells 2 (by omega)
      obtain ⟨i3, c3⟩ := hcells 3 (by omega)
      rw [← hF.cell (p := ⟨b, _, none⟩) hbb (fun h => h)] at c0 c1 c2 c3
      rw [Nat.add_zero] at c0
      have hltz : (k : Int) < (n : Int) := by omega
      have q1 : (0 : Int) ≤ (k : Int) := by omega
      have hsz := hF.size
      clear hcells
      by_cases hk : f k 0 = 1
      · have hk' : (f k 0 == 1) = true := by simpa using hk
        clear hk
        go_wp2_with fail
        go_still_tail 16, (by kernel_rfl)
        go_wp2_with fail
        refine (Ask_calls (w1.heap.size + 1) w1.heap.size q wr.drew hP hI (f k 1) (f k 2) (f k 3) i1 i3 (by unfold maxLen; omega)).mono ?_
        rintro e wa ⟨rfl, hPa, hFa⟩
        have hOa := Blk.fr (w := wr.drew) hO hFa (fun h => by rcases h with h | h <;> omega)
        have hRa := Blk.fr (w := wr.drew) hR hFa (fun h => by rcases h with h | h <;> omega)
        have hFz : Fr (fun _ => False) w wa := hF.drew.trans hFa (fun b hb h => by rcases h with h | h <;> omega)
        clear c0 c1 c2 c3 hP hF r0
        go_wp2_with fail
        go_roundg (200 - (k + 1))
        case measure => omega
        case rel => exact ⟨k + 1, pAsk q (f k 1) (f k 2) (f k 3), rfl, by omega, rfl, pAsk_inv hI i1 (by unfold in64 at i3; omega), pAsk_len _ _ _ hlen, hPa, hOa, hRa, hFz⟩
      · have hk' : (f k 0 == 1) = false := by simpa using hk
        clear hk
        go_wp2_with fail
        go_still_tail 11, (by kernel_rfl)
        go_wp2_with fail
        refine (Take_calls (w1.heap.size + 1) w1.heap.size q wr.drew hP hI (f k 1) (f k 2) i1 (by unfold maxLen; omega)).mono ?_
        rintro e wa ⟨rfl, hPa, hFa⟩
        have hOa := Blk.fr (w := wr.drew) hO hFa (fun h => by rcases h with h | h <;> omega)
        have hRa := Blk.fr (w := wr.drew) hR hFa (fun h => by rcases h with h | h <;> omega)
        have hFz : Fr (fun _ => False) w wa := hF.drew.trans hFa (fun b hb h => by rcases h with h | h <;> omega)
        clear c0 c1 c2 c3 hP hF r0
        go_wp2_with fail
        go_roundg (200 - (k + 1))
        case measure => omega
        case rel => exact ⟨k + 1, pTake q (f k 1) (f k 2), rfl, by omega, rfl, pTake_inv hI i1 _, Nat.le_trans (pTake_len hI.srt _ _ pTook_some) (by omega), hPa, hOa, hRa, hFz⟩
    · by_cases hlt1 : k < n
      · have hlt2 : ¬ k < n ∨ ¬ k < 200 := by omega
        as_aux_lemma =>
          clear hlt
          have hnf : ∀ (b : Nat) (W : World), Sem.run Try.prog (Go.binOp BinOp.eql 41 (.func (.func 19) #[] #[.pointer (some ⟨b, 0, none⟩)]) Value.nilFunc) W = .ok (.bool false) W := fun _ _ => by kernel_rfl
          go_wp2_with fail
          refine (AllP_calls (w1.heap.size + 1) wr).mono ?_
          rintro e w4 ⟨rfl, rfl⟩
          have hb0 := Blk.new wr 25 [.pointer (some ⟨w1.heap.size + 1, 0, none⟩)]
          have hs0 := Blk.new (wr.alloc (.cells #[.pointer (some ⟨w1.heap.size + 1, 0, none⟩)] 25)) 3 [.int .i64 0]
          have hl0 := Blk.new ((wr.alloc (.cells #[.pointer (some ⟨w1.heap.size + 1, 0, none⟩)] 25)).alloc (.cells #[.int .i64 0] 3)) 3 [.int .i64 0]
          have hn0 := Blk.new (((wr.alloc (.cells #[.pointer (some ⟨w1.heap.size + 1, 0, none⟩)] 25)).alloc (.cells #[.int .i64 0] 3)).alloc (.cells #[.int .i64 0] 3)) 3 [.int .i64 0]
          have hb6 := ((hb0.alloc (.cells #[.int .i64 0] 3)).alloc (.cells #[.int .i64 0] 3)).alloc (.cells #[.int .i64 0] 3)
          have hs6 := (hs0.alloc (.cells #[.int .i64 0] 3)).alloc (.cells #[.int .i64 0] 3)
          have hl6 := hl0.alloc (.cells #[.int .i64 0] 3)
          have hO6 := (((hO.alloc (.cells #[.pointer (some ⟨w1.heap.size + 1, 0, none⟩)] 25)).alloc (.cells #[.int .i64 0] 3)).alloc (.cells #[.int .i64 0] 3)).alloc (.cells #[.int .i64 0] 3)
          have hR6 := (((hR.alloc (.cells #[.pointer (some ⟨w1.heap.size + 1, 0, none⟩)] 25)).alloc (.cells #[.int .i64 0] 3)).alloc (.cells #[.int .i64 0] 3)).alloc (.cells #[.int .i64 0] 3)
          have hP6 : IsPurse ((((wr.alloc (.cells #[.pointer (some ⟨w1.heap.size + 1, 0, none⟩)] 25)).alloc (.cells #[.int .i64 0] 3)).alloc (.cells #[.int .i64 0] 3)).alloc (.cells #[.int .i64 0] 3)) (w1.heap.size + 1) w1.heap.size q := ⟨(((hP.1.alloc _).alloc _).alloc _).alloc _, (((hP.2.alloc _).alloc _).alloc _).alloc _⟩
          have hF6 : Fr (fun _ => False) w ((((wr.alloc (.cells #[.pointer (some ⟨w1.heap.size + 1, 0, none⟩)] 25)).alloc (.cells #[.int .i64 0] 3)).alloc (.cells #[.int .i64 0] 3)).alloc (.cells #[.int .i64 0] 3)) := (((hF.alloc _).alloc _).alloc _).alloc _
          have hlO := hO.lt
          have hlR := hR.lt
          have hlP := hP.1.lt
          have hlV := hP.2.lt
          go_wp2_with fail
          obtain ⟨w6, hw6⟩ : ∃ w6, w6 = (((wr.alloc (.cells #[.pointer (some ⟨w1.heap.size + 1, 0, none⟩)] 25)).alloc (.cells #[.int .i64 0] 3)).alloc (.cells #[.int .i64 0] 3)).alloc (.cells #[.int .i64 0] 3) := ⟨_, rfl⟩
          have hsz6 : w6.heap.size = wr.heap.size + 4 := by rw [hw6]; simp
          simp only [World.size_alloc] at hs6 hl6 hn0
          rw [← hw6] at hP6 hO6 hR6 hb6 hs6 hl6 hn0 hF6 ⊢
          clear hw6 hO hR hP hF hb0 hs0 hl0 r0
          refine (wpIn_wide (n := 9)).1 ?_
          apply wpIn_rangeFunc_ownG (F := Fence.wide) (n := 9) rfl (by omega) (gf := 19) (lb := #[.pointer (some ⟨wr.heap.size, 0, none⟩)]) rfl trivial (enters_of Try.func19 (by kernel_rfl) rfl)
            (AllP_stops 8 (by omega) wr.heap.size (w1.heap.size + 1) w1.heap.size q w6 (hb6.cell 0) hP6 hI (by omega)) keepX_t keepX_b (Below.refl _ _) (fun _ => rfl)
            (fun pre W => GoP w6 w.heap.size (wr.heap.size + 1) (wr.heap.size + 1 + 1) (wr.heap.size + 1 + 1 + 1) pre W)
            (fun c pre _ => c = .ret ∧ ¬ pre <+: q.l) ?hI ?hIx ?h0 _
          case hassign =>
            intro l x W K hK
            unfold comeP
            gi_wp2
            exact hK
          case hI =>
            rintro pre W W' row h1 hg hr
            exact h1.grown (by omega) (by omega) (by omega) (by omega) hg hr
          case hIx => exact fun _ _ _ _ _ hs _ _ => hs
          case h0 => exact ⟨Fr.refl _ _, hO6, hs6, hl6, hn0⟩
          case hbody =>
            rintro l pre x W ⟨hF, ho, hs, hl, hn⟩ hlen
            have hno : pre ++ [x] <+: q.l → _ := pcome hI
            have hNO := Lib.hid hno
            have hPW : IsPurse W (w1.heap.size + 1) w1.heap.size q := ⟨hP6.1.fr hF (fun h => by rcases h with h | h | h | h <;> omega), hP6.2.fr hF (fun h => by rcases h with h | h | h | h <;> omega)⟩
            have hRW := hR6.fr hF (fun h => by rcases h with h | h | h | h <;> omega)
            have hOf := Of_calls (w1.heap.size + 1) w1.heap.size q W hPW (kclip x.1) (kclip_in _)
            have hW6 := hF.size
            have r0 := hRW.cell 0
            have s0 := hs.cell 0
            have sf := hs.frozen 0
            have l0 := hl.cell 0
            have lf := hl.frozen 0
            have n0 := hn.cell 0
            have nf := hn.frozen 0
            have o0 := ho.cell 0
            have of := ho.frozen 0
            have n64 : pre.length < 1000 := by omega
            have hkx := kclip_in x.2
            have hps := psum_bd pre
            unfold in64 at hkx hps
            have hret : ∀ W' : World, W' = W.setCell ⟨w.heap.size, 0, none⟩ (.bool false) → KeepsFrom w6.heap.size W W' := fun W' e => by subst e; exact KeepsFrom.of_grownBy (grownBy_setCell' W w.heap.size _) (fun j e => by cases e; omega)
            have hRET := Lib.hid hret
            clear hno hret hPW hRW
            cases h1 : decide (kclip x.2 < 1) with
            | true =>
              gi_wp2
              refine ⟨trivial, ?_⟩
              gi_wp2
              refine ⟨hRET.out _ rfl, rfl, fun hp => ?_⟩
              obtain ⟨e1, e2, e3, e4, e5⟩ := hNO.out hp
              rw [decide_eq_true_eq, e2] at h1
              omega
            | false =>
              cases h2 : (pOf q (kclip x.1) != kclip x.2) with
              | true =>
                gi_wp2_with (refine ⟨trivial, ?_⟩; gi_at_call 11; refine (CallsIn.inRound l (callsIn_wide.2 hOf)).mono ?_; clear hOf; rintro e W2 ⟨rfl, rfl⟩)
                refine ⟨hRET.out _ rfl, rfl, fun hp => ?_⟩
                obtain ⟨e1, e2, e3, e4, e5⟩ := hNO.out hp
                rw [e1, e2, e4] at h2
                simp at h2
              | false =>
                have hfin : ∀ W' : World, W' = ((W.setCell ⟨wr.heap.size + 1 + 1, 0, none⟩ (.int .i64 (kclip x.1))).setCell ⟨wr.heap.size + 1, 0, none⟩ (.int .i64 (wrap64 (psum pre + kclip x.2)))).setCell ⟨wr.heap.size + 1 + 1 + 1, 0, none⟩ (.int .i64 ((pre.length : Int) + 1)) →
                    KeepsFrom w6.heap.size W W' ∧ KeepX w6.heap.size W W' ∧ GoP w6 w.heap.size (wr.heap.size + 1) (wr.heap.size + 1 + 1) (wr.heap.size + 1 + 1 + 1) (pre ++ [x]) W' := fun W' e => by
                  subst e
                  have hFr : Fr (fun b => b = w.heap.size ∨ b = wr.heap.size + 1 ∨ b = wr.heap.size + 1 + 1 ∨ b = wr.heap.size + 1 + 1 + 1) W (((W.setCell ⟨wr.heap.size + 1 + 1, 0, none⟩ (.int .i64 (kclip x.1))).setCell ⟨wr.heap.size + 1, 0, none⟩ (.int .i64 (wrap64 (psum pre + kclip x.2)))).setCell ⟨wr.heap.size + 1 + 1 + 1, 0, none⟩ (.int .i64 ((pre.length : Int) + 1))) :=
                    (((Fr.refl _ W).setCell (p := ⟨wr.heap.size + 1 + 1, 0, none⟩) (.inl (.inr (.inr (.inl rfl)))) _).setCell (p := ⟨wr.heap.size + 1, 0, none⟩) (.inl (.inr (.inl rfl))) _).setCell (p := ⟨wr.heap.size + 1 + 1 + 1, 0, none⟩) (.inl (.inr (.inr (.inr rfl)))) _
                  have hlow : ∀ b, (b = w.heap.size ∨ b = wr.heap.size + 1 ∨ b = wr.heap.size + 1 + 1 ∨ b = wr.heap.size + 1 + 1 + 1) → b < w6.heap.size := fun b hb => by rcases hb with h | h | h | h <;> omega
                  refine ⟨keepsFrom_of_fr hFr hlow, KeepX.of_fr hFr hlow, hF.trans hFr (fun _ _ h => h), ((ho.far (p := ⟨wr.heap.size + 1 + 1, 0, none⟩) (by show w.heap.size ≠ wr.heap.size + 1 + 1; omega) _).far (p := ⟨wr.heap.size + 1, 0, none⟩) (by show w.heap.size ≠ wr.heap.size + 1; omega) _).far (p := ⟨wr.heap.size + 1 + 1 + 1, 0, none⟩) (by show w.heap.size ≠ wr.heap.size + 1 + 1 + 1; omega) _, ?_, ?_, ?_⟩
                  · rw [psum_snoc]
                    exact ((hs.far (p := ⟨wr.heap.size + 1 + 1, 0, none⟩) (by show wr.heap.size + 1 ≠ wr.heap.size + 1 + 1; omega) _).set_ 0 _).far (p := ⟨wr.heap.size + 1 + 1 + 1, 0, none⟩) (by show wr.heap.size + 1 ≠ wr.heap.size + 1 + 1 + 1; omega) _
                  · rw [plast_snoc]
                    exact ((hl.set_ 0 _).far (p := ⟨wr.heap.size + 1, 0, none⟩) (by show wr.heap.size + 1 + 1 ≠ wr.heap.size + 1; omega) _).far (p := ⟨wr.heap.size + 1 + 1 + 1, 0, none⟩) (by show wr.heap.size + 1 + 1 ≠ wr.heap.size + 1 + 1 + 1; omega) _
                  · rw [List.length_append]
                    exact ((hn.far (p := ⟨wr.heap.size + 1 + 1, 0, none⟩) (by show wr.heap.size + 1 + 1 + 1 ≠ wr.heap.size + 1 + 1; omega) _).far (p := ⟨wr.heap.size + 1, 0, none⟩) (by show wr.heap.size + 1 + 1 + 1 ≠ wr.heap.size + 1; omega) _).set_ 0 _
                have hFIN := Lib.hid hfin
                clear hfin hF ho hs hl hn
                have hne : pre.length = 0 ∨ (pre ≠ [] ∧ 0 < pre.length) := by cases pre <;> simp
                generalize psum pre = ps at s0 hps hFIN
                rcases hne with hz | ⟨hne, hpz⟩
                · rw [hz] at n0 hFIN
                  clear hz hlen n64
                  gi_wp2_with (refine ⟨trivial, ?_⟩; gi_at_call 11; refine (CallsIn.inRound l (callsIn_wide.2 hOf)).mono ?_; clear hOf; rintro e W2 ⟨rfl, rfl⟩)
                  exact hFIN.out _ rfl
                · have hpz' : (0 : Int) < (pre.length : Int) := by omega
                  generalize plast pre = lp at l0 hNO
                  cases h3 : decide (kclip x.1 ≤ lp) with
                  | true =>
                    gi_wp2_with (refine ⟨trivial, ?_⟩; gi_at_call 11; refine (CallsIn.inRound l (callsIn_wide.2 hOf)).mono ?_; clear hOf; rintro e W2 ⟨rfl, rfl⟩)
                    refine ⟨hRET.out _ rfl, rfl, fun hp => ?_⟩
                    obtain ⟨e1, e2, e3, e4, e5⟩ := hNO.out hp
                    rw [decide_eq_true_eq, e1] at h3
                    have := e5 hne
                    omega
                  | false =>
                    gi_wp2_with (refine ⟨trivial, ?_⟩; gi_at_call 11; refine (CallsIn.inRound l (callsIn_wide.2 hOf)).mono ?_; clear hOf; rintro e W2 ⟨rfl, rfl⟩)
                    exact hFIN.out _ rfl
          case hdone =>
            rintro D xs W hD rfl ⟨hF, ho, hs, hl, hn⟩ hK
            rw [psum_all hI] at hs
            have hPW : IsPurse W (w1.heap.size + 1) w1.heap.size q := ⟨hP6.1.fr hF (fun h => by rcases h with h | h | h | h <;> omega), hP6.2.fr hF (fun h => by rcases h with h | h | h | h <;> omega)⟩
            have hRW := hR6.fr hF (fun h => by rcases h with h | h | h | h <;> omega)
            have hsum : Calls Try.prog 12 #[.pointer (some ⟨w1.heap.size + 1, 0, none⟩)] W.drew fun e w' => e = .returned (.int .i64 q.s) ∧ w' = W.drew := (Sum_calls (w1.heap.size + 1) w1.heap.size q W.drew hPW).mono fun _ _ ⟨h1, h2⟩ => ⟨h1, h2.symm⟩
            have hW6 := hF.size
            have r0 := hRW.cell 0
            have s0 := hs.cell 0
            have o0 := ho.cell 0
            have of := ho.frozen 0
            have b1 : (q.s == q.s) = true := by simp
            have HB : Below w.heap.size w W := (hF6.trans hF (fun b hb h => by rcases h with h | h | h | h <;> omega)).to_below
            go_wp2_with fail
            go_still_tail 4, (by kernel_rfl)
            still_call (hsum)
            repeat still_step
            refine wpStill_nil ?_
            go_wp2_with fail
            have hK' : (W.setCell ⟨w.heap.size, 0, none⟩ (.bool true)).drew.heap[D]? = some (.deferred (some [])) := (KeepsOthers.setCell W ⟨w.heap.size, 0, none⟩ (.bool true)).same D _ hK rfl
            have hc4 : (W.setCell ⟨w.heap.size, 0, none⟩ (.bool true)).drew.cell? ⟨w.heap.size, 0, none⟩ = some (.bool true) := World.cell?_setCell_same' W ⟨w.heap.size, 0, none⟩ (.bool true) (by rw [o0]; rfl)
            have hc5 := cell_kept hc4 (grownBy_putObj' _ D (.deferred none)) (fun r e => by cases e; exact ⟨_, hK', rfl⟩)
            refine ⟨by simp, .inl ⟨_, _, rfl, run_takeDeferred hK', ?_⟩⟩
            refine ⟨.bool true, ?_, rfl, (HB.setCell (p := ⟨w.heap.size, 0, none⟩) (Nat.le_refl _) _).drew.trans (belowK_b (w := w) (Nat.le_refl _) _ D _ _ (by omega) hK' rfl rfl)⟩
            simp [results, Try.f6, go_sem, hc5]
          case hstop =>
            rintro D c pre W hD hpre ⟨_, hno⟩ hK
            exact absurd hpre hno
      · have hlt2 : ¬ k < n ∨ ¬ k < 200 := by omega
        as_aux_lemma =>
          clear hlt
          have hnf : ∀ (b : Nat) (W : World), Sem.run Try.prog (Go.binOp BinOp.eql 41 (.func (.func 19) #[] #[.pointer (some ⟨b, 0, none⟩)]) Value.nilFunc) W = .ok (.bool false) W := fun _ _ => by kernel_rfl
          go_wp2_with fail
          refine (AllP_calls (w1.heap.size + 1) wr).mono ?_
          rintro e w4 ⟨rfl, rfl⟩
          have hb0 := Blk.new wr 25 [.pointer (some ⟨w1.heap.size + 1, 0, none⟩)]
          have hs0 := Blk.new (wr.alloc (.cells #[.pointer (some ⟨w1.heap.size + 1, 0, none⟩)] 25)) 3 [.int .i64 0]
          have hl0 := Blk.new ((wr.alloc (.cells #[.pointer (some ⟨w1.heap.size + 1, 0, none⟩)] 25)).alloc (.cells #[.int .i64 0] 3)) 3 [.int .i64 0]
          have hn0 := Blk.new (((wr.alloc (.cells #[.pointer (some ⟨w1.heap.size + 1, 0, none⟩)] 25)).alloc (.cells #[.int .i64 0] 3)).alloc (.cells #[.int .i64 0] 3)) 3 [.int .i64 0]
          have hb6 := ((hb0.alloc (.cells #[.int .i64 0] 3)).alloc (.cells #[.int .i64 0] 3)).alloc (.cells #[.int .i64 0] 3)
          have hs6 := (hs0.alloc (.cells #[.int .i64 0] 3)).alloc (.cells #[.int .i64 0] 3)
          have hl6 := hl0.alloc (.cells #[.int .i64 0] 3)
          have hO6 := (((hO.alloc (.cells #[.pointer (some ⟨w1.heap.size + 1, 0, none⟩)] 25)).alloc (.cells #[.int .i64 0] 3)).alloc (.cells #[.int .i64 0] 3)).alloc (.cells #[.int .i64 0] 3)
          have hR6 := (((hR.alloc (.cells #[.pointer (some ⟨w1.heap.size + 1, 0, none⟩)] 25)).alloc (.cells #[.int .i64 0] 3)).alloc (.cells #[.int .i64 0] 3)).alloc (.cells #[.int .i64 0] 3)
          have hP6 : IsPurse ((((wr.alloc (.cells #[.pointer (some ⟨w1.heap.size + 1, 0, none⟩)] 25)).alloc (.cells #[.int .i64 0] 3)).alloc (.cells #[.int .i64 0] 3)).alloc (.cells #[.int .i64 0] 3)) (w1.heap.size + 1) w1.heap.size q := ⟨(((hP.1.alloc _).alloc _).alloc _).alloc _, (((hP.2.alloc _).alloc _).alloc _).alloc _⟩
          have hF6 : Fr (fun _ => False) w ((((wr.alloc (.cells #[.pointer (some ⟨w1.heap.size + 1, 0, none⟩)] 25)).alloc (.cells #[.int .i64 0] 3)).alloc (.cells #[.int .i64 0] 3)).alloc (.cells #[.int .i64 0] 3)) := (((hF.alloc _).alloc _).alloc _).alloc _
          have hlO := hO.lt
          have hlR := hR.lt
          have hlP := hP.1.lt
          have hlV := hP.2.lt
          go_wp2_with fail
          obtain ⟨w6, hw6⟩ : ∃ w6, w6 = (((wr.alloc (.cells #[.pointer (some ⟨w1.heap.size + 1, 0, none⟩)] 25)).alloc (.cells #[.int .i64 0] 3)).alloc (.cells #[.int .i64 0] 3)).alloc (.cells #[.int .i64 0] 3) := ⟨_, rfl⟩
          have hsz6 : w6.heap.size = wr.heap.size + 4 := by rw [hw6]; simp
          simp only [World.size_alloc] at hs6 hl6 hn0
          rw [← hw6] at hP6 hO6 hR6 hb6 hs6 hl6 hn0 hF6 ⊢
          clear hw6 hO hR hP hF hb0 hs0 hl0 r0
          refine (wpIn_wide (n := 9)).1 ?_
          apply wpIn_rangeFunc_ownG (F := Fence.wide) (n := 9) rfl (by omega) (gf := 19) (lb := #[.pointer (some ⟨wr.heap.size, 0, none⟩)]) rfl trivial (enters_of Try.func19 (by kernel_rfl) rfl)
            (AllP_stops 8 (by omega) wr.heap.size (w1.heap.size + 1) w1.heap.size q w6 (hb6.cell 0) hP6 hI (by omega)) keepX_t keepX_b (Below.refl _ _) (fun _ => rfl)
            (fun pre W => GoP w6 w.heap.size (wr.heap.size + 1) (wr.heap.size + 1 + 1) (wr.heap.size + 1 + 1 + 1) pre W)
            (fun c pre _ => c = .ret ∧ ¬ pre <+: q.l) ?hI ?hIx ?h0 _
          case hassign =>
            intro l x W K hK
            unfold comeP
            gi_wp2
            exact hK
          case hI =>
            rintro pre W W' row h1 hg hr
            exact h1.grown (by omega) (by omega) (by omega) (by omega) hg hr
          case hIx => exact fun _ _ _ _ _ hs _ _ => hs
          case h0 => exact ⟨Fr.refl _ _, hO6, hs6, hl6, hn0⟩
          case hbody =>
            rintro l pre x W ⟨hF, ho, hs, hl, hn⟩ hlen
            have hno : pre ++ [x] <+: q.l → _ := pcome hI
            have hNO := Lib.hid hno
            have hPW : IsPurse W (w1.heap.size + 1) w1.heap.size q := ⟨hP6.1.fr hF (fun h => by rcases h with h | h | h | h <;> omega), hP6.2.fr hF (fun h => by rcases h with h | h | h | h <;> omega)⟩
            have hRW := hR6.fr hF (fun h => by rcases h with h | h | h | h <;> omega)
            have hOf := Of_calls (w1.heap.size + 1) w1.heap.size q W hPW (kclip x.1) (kclip_in _)
            have hW6 := hF.size
            have r0 := hRW.cell 0
            have s0 := hs.cell 0
            have sf := hs.frozen 0
            have l0 := hl.cell 0
            have lf := hl.frozen 0
            have n0 := hn.cell 0
            have nf := hn.frozen 0
            have o0 := ho.cell 0
            have of := ho.frozen 0
            have n64 : pre.length < 1000 := by omega
            have hkx := kclip_in x.2
            have hps := psum_bd pre
            unfold in64 at hkx hps
            have hret : ∀ W' : World, W' = W.setCell ⟨w.heap.size, 0, none⟩ (.bool false) → KeepsFrom w6.heap.size W W' := fun W' e => by subst e; exact KeepsFrom.of_grownBy (grownBy_setCell' W w.heap.size _) (fun j e => by cases e; omega)
            have hRET := Lib.hid hret
            clear hno hret hPW hRW
            cases h1 : decide (kclip x.2 < 1) with
            | true =>
              gi_wp2
              refine ⟨trivial, ?_⟩
              gi_wp2
              refine ⟨hRET.out _ rfl, rfl, fun hp => ?_⟩
              obtain ⟨e1, e2, e3, e4, e5⟩ := hNO.out hp
              rw [decide_eq_true_eq, e2] at h1
              omega
            | false =>
              cases h2 : (pOf q (kclip x.1) != kclip x.2) with
              | true =>
                gi_wp2_with (refine ⟨trivial, ?_⟩; gi_at_call 11; refine (CallsIn.inRound l (callsIn_wide.2 hOf)).mono ?_; clear hOf; rintro e W2 ⟨rfl, rfl⟩)
                refine ⟨hRET.out _ rfl, rfl, fun hp => ?_⟩
                obtain ⟨e1, e2, e3, e4, e5⟩ := hNO.out hp
                rw [e1, e2, e4] at h2
                simp at h2
              | false =>
                have hfin : ∀ W' : World, W' = ((W.setCell ⟨wr.heap.size + 1 + 1, 0, none⟩ (.int .i64 (kclip x.1))).setCell ⟨wr.heap.size + 1, 0, none⟩ (.int .i64 (wrap64 (psum pre + kclip x.2)))).setCell ⟨wr.heap.size + 1 + 1 + 1, 0, none⟩ (.int .i64 ((pre.length : Int) + 1)) →
                    KeepsFrom w6.heap.size W W' ∧ KeepX w6.heap.size W W' ∧ GoP w6 w.heap.size (wr.heap.size + 1) (wr.heap.size + 1 + 1) (wr.heap.size + 1 + 1 + 1) (pre ++ [x]) W' := fun W' e => by
                  subst e
                  have hFr : Fr (fun b => b = w.heap.size ∨ b = wr.heap.size + 1 ∨ b = wr.heap.size + 1 + 1 ∨ b = wr.heap.size + 1 + 1 + 1) W (((W.setCell ⟨wr.heap.size + 1 + 1, 0, none⟩ (.int .i64 (kclip x.1))).setCell ⟨wr.heap.size + 1, 0, none⟩ (.int .i64 (wrap64 (psum pre + kclip x.2)))).setCell ⟨wr.heap.size + 1 + 1 + 1, 0, none⟩ (.int .i64 ((pre.length : Int) + 1))) :=
                    (((Fr.refl _ W).setCell (p := ⟨wr.heap.size + 1 + 1, 0, none⟩) (.inl (.inr (.inr (.inl rfl)))) _).setCell (p := ⟨wr.heap.size + 1, 0, none⟩) (.inl (.inr (.inl rfl))) _).setCell (p := ⟨wr.heap.size + 1 + 1 + 1, 0, none⟩) (.inl (.inr (.inr (.inr rfl)))) _
                  have hlow : ∀ b, (b = w.heap.size ∨ b = wr.heap.size + 1 ∨ b = wr.heap.size + 1 + 1 ∨ b = wr.heap.size + 1 + 1 + 1) → b < w6.heap.size := fun b hb => by rcases hb with h | h | h | h <;> omega
                  refine ⟨keepsFrom_of_fr hFr hlow, KeepX.of_fr hFr hlow, hF.trans hFr (fun _ _ h => h), ((ho.far (p := ⟨wr.heap.size + 1 + 1, 0, none⟩) (by show w.heap.size ≠ wr.heap.size + 1 + 1; omega) _).far (p := ⟨wr.heap.size + 1, 0, none⟩) (by show w.heap.size ≠ wr.heap.size + 1; omega) _).far (p := ⟨wr.heap.size + 1 + 1 + 1, 0, none⟩) (by show w.heap.size ≠ wr.heap.size + 1 + 1 + 1; omega) _, ?_, ?_, ?_⟩
                  · rw [psum_snoc]
                    exact ((hs.far (p := ⟨wr.heap.size + 1 + 1, 0, none⟩) (by show wr.heap.size + 1 ≠ wr.heap.size + 1 + 1; omega) _).set_ 0 _).far (p := ⟨wr.heap.size + 1 + 1 + 1, 0, none⟩) (by show wr.heap.size + 1 ≠ wr.heap.size + 1 + 1 + 1; omega) _
                  · rw [plast_snoc]
                    exact ((hl.set_ 0 _).far (p := ⟨wr.heap.size + 1, 0, none⟩) (by show wr.heap.size + 1 + 1 ≠ wr.heap.size + 1; omega) _).far (p := ⟨wr.heap.size + 1 + 1 + 1, 0, none⟩) (by show wr.heap.size + 1 + 1 ≠ wr.heap.size + 1 + 1 + 1; omega) _
                  · rw [List.length_append]
                    exact ((hn.far (p := ⟨wr.heap.size + 1 + 1, 0, none⟩) (by show wr.heap.size + 1 + 1 + 1 ≠ wr.heap.size + 1 + 1; omega) _).far (p := ⟨wr.heap.size + 1, 0, none⟩) (by show wr.heap.size + 1 + 1 + 1 ≠ wr.heap.size + 1; omega) _).set_ 0 _
                have hFIN := Lib.hid hfin
                clear hfin hF ho hs hl hn
                have hne : pre.length = 0 ∨ (pre ≠ [] ∧ 0 < pre.length) := by cases pre <;> simp
                generalize psum pre = ps at s0 hps hFIN
                rcases hne with hz | ⟨hne, hpz⟩
                · rw [hz] at n0 hFIN
                  clear hz hlen n64
                  gi_wp2_with (refine ⟨trivial, ?_⟩; gi_at_call 11; refine (CallsIn.inRound l (callsIn_wide.2 hOf)).mono ?_; clear hOf; rintro e W2 ⟨rfl, rfl⟩)
                  exact hFIN.out _ rfl
                · have hpz' : (0 : Int) < (pre.length : Int) := by omega
                  generalize plast pre = lp at l0 hNO
                  cases h3 : decide (kclip x.1 ≤ lp) with
                  | true =>
                    gi_wp2_with (refine ⟨trivial, ?_⟩; gi_at_call 11; refine (CallsIn.inRound l (callsIn_wide.2 hOf)).mono ?_; clear hOf; rintro e W2 ⟨rfl, rfl⟩)
                    refine ⟨hRET.out _ rfl, rfl, fun hp => ?_⟩
                    obtain ⟨e1, e2, e3, e4, e5⟩ := hNO.out hp
                    rw [decide_eq_true_eq, e1] at h3
                    have := e5 hne
                    omega
                  | false =>
                    gi_wp2_with (refine ⟨trivial, ?_⟩; gi_at_call 11; refine (CallsIn.inRound l (callsIn_wide.2 hOf)).mono ?_; clear hOf; rintro e W2 ⟨rfl, rfl⟩)
                    exact hFIN.out _ rfl
          case hdone =>
            rintro D xs W hD rfl ⟨hF, ho, hs, hl, hn⟩ hK
            rw [psum_all hI] at hs
            have hPW : IsPurse W (w1.heap.size + 1) w1.heap.size q := ⟨hP6.1.fr hF (fun h => by rcases h with h | h | h | h <;> omega), hP6.2.fr hF (fun h => by rcases h with h | h | h | h <;> omega)⟩
            have hRW := hR6.fr hF (fun h => by rcases h with h | h | h | h <;> omega)
            have hsum : Calls Try.prog 12 #[.pointer (some ⟨w1.heap.size + 1, 0, none⟩)] W.drew fun e w' => e = .returned (.int .i64 q.s) ∧ w' = W.drew := (Sum_calls (w1.heap.size + 1) w1.heap.size q W.drew hPW).mono fun _ _ ⟨h1, h2⟩ => ⟨h1, h2.symm⟩
            have hW6 := hF.size
            have r0 := hRW.cell 0
            have s0 := hs.cell 0
            have o0 := ho.cell 0
            have of := ho.frozen 0
            have b1 : (q.s == q.s) = true := by simp
            have HB : Below w.heap.size w W := (hF6.trans hF (fun b hb h => by rcases h with h | h | h | h <;> omega)).to_below
            go_wp2_with fail
            go_still_tail 4, (by kernel_rfl)
            still_call (hsum)
            repeat still_step
            refine wpStill_nil ?_
            go_wp2_with fail
            have hK' : (W.setCell ⟨w.heap.size, 0, none⟩ (.bool true)).drew.heap[D]? = some (.deferred (some [])) := (KeepsOthers.setCell W ⟨w.heap.size, 0, none⟩ (.bool true)).same D _ hK rfl
            have hc4 : (W.setCell ⟨w.heap.size, 0, none⟩ (.bool true)).drew.cell? ⟨w.heap.size, 0, none⟩ = some (.bool true) := World.cell?_setCell_same' W ⟨w.heap.size, 0, none⟩ (.bool true) (by rw [o0]; rfl)
            have hc5 := cell_kept hc4 (grownBy_putObj' _ D (.deferred none)) (fun r e => by cases e; exact ⟨_, hK', rfl⟩)
            refine ⟨by simp, .inl ⟨_, _, rfl, run_takeDeferred hK', ?_⟩⟩
            refine ⟨.bool true, ?_, rfl, (HB.setCell (p := ⟨w.heap.size, 0, none⟩) (Nat.le_refl _) _).drew.trans (belowK_b (w := w) (Nat.le_refl _) _ D _ _ (by omega) hK' rfl rfl)⟩
            simp [results, Try.f6, go_sem, hc5]
          case hstop =>
            rintro D c pre W hD hpre ⟨_, hno⟩ hK
            exact absurd hpre hno

end Go.Proofs.Ytejjfhgfhileeaa
