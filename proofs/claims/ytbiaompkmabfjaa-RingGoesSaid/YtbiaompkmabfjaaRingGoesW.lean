/- RingGoes: the walk. -/
import Derived.Test.YtbiaompkmabfjaaRingGoesL
import Derived.Deep.CutBlock
import Derived.Deep.RegionHeld3
namespace Go.Proofs.Ytbiaompkmabfjaa
open Go.Maps Go.RowKit Go.Shelf

attribute [local go_sem] Oper.semAt_some

set_option maxRecDepth 100000 in
set_option maxHeartbeats 8000000 in
theorem goes_calls (A : Option Addr) (n c : Nat) (stop : Int) (w : World) (_hn : n ≤ maxLen) (hA : CellsAt w w.heap.size 1 A n okInts) (hs : in64 stop) :
    Calls Try.prog 7 #[.slice A n c, .int .i64 stop] w fun e w' => e = .returned (.bool true) ∧ Below w.heap.size w w' := by
  obtain ⟨f, hf⟩ := ints_of_cells hA
  refine callsIn_wide.1 (callsIn_of_wp_marks (n := 9) Try.func7 rfl trivial ?_ rfl)
  simp only [Try.ntmps7, List.size_toArray, List.length_cons, List.length_nil, Nat.reduceAdd, Nat.reduceSub, Array.replicate_succ, Array.replicate_zero, List.push_toArray, List.append_toArray, List.nil_append, List.cons_append]
  refine wpIn_wide.2 ?_
  unfold in64 at hs
  obtain ⟨hs1, hs2⟩ := hs
  go_wp2_with fail
  refine (awake_calls _).mono ?_
  rintro e w1 ⟨rfl, hF1⟩
  have ho1 : Blk w1 w.heap.size 3 [.int .i64 stop] := (Blk.new w 3 [.int .i64 stop]).fr hF1 (fun h => h)
  have hF1' : Fr (fun _ => False) w w1 := ((Fr.refl _ w).alloc _).trans hF1 (fun _ _ h => h)
  clear hF1
  go_wp2_with fail
  refine (HasI.new_ 64 (by unfold in64; omega) w w1 (fun b => b = w.heap.size) (fun b hb => by subst hb; exact ho1.lt) hF1').mono ?_
  rintro e w2 ⟨rb, fb, mb, rfl, hH2, hF2⟩
  have ho2 := ho1.fr hF2 (fun h => h)
  have hHa := hH2.alloc (.cells #[.pointer (some ⟨rb, 0, none⟩)] 24)
  have ho3 := ho2.alloc (.cells #[.pointer (some ⟨rb, 0, none⟩)] 24)
  have hr3 := Blk.new w2 24 [.pointer (some ⟨rb, 0, none⟩)]
  have hs2w := hH2.fr.size
  have hs2l : w.heap.size < w2.heap.size := ho2.lt
  clear ho1 hF2 hF1' ho2 hH2
  generalize List.replicate (newN 64) none = fs0 at hHa
  obtain ⟨st0, hst0⟩ : ∃ st0 : RS Int, st0 = ⟨fs0, 0⟩ := ⟨_, rfl⟩
  rw [← hst0] at hHa
  clear hst0 fs0
  go_wp2_with fail
  go_loopg [6] 64 (fun g i wr => ∃ (k : Nat) (st : RS Int), i = .int .i64 k ∧ k ≤ 64 ∧ g = 64 - k ∧ HasI w (fun b => b = w.heap.size ∨ b = w2.heap.size) rb fb mb st 0 wr ∧ Blk wr w.heap.size 3 [.int .i64 stop] ∧ Blk wr w2.heap.size 24 [.pointer (some ⟨rb, 0, none⟩)])
  case atStart => exact ⟨0, _, rfl, by omega, by omega, hHa, ho3, hr3⟩
  case round =>
    obtain ⟨k, st, rfl, hk2, rfl, hH, hO, hR⟩ := hrel
    clear hHa ho3 hr3
    have r0 := hR.cell 0
    by_cases hlt : k < n ∧ k < 64
    · obtain ⟨hl1, hl2⟩ := hlt
      have hz1 : (k : Int) < (n : Int) := by omega
      have hz2 : (k : Int) < 64 := by omega
      obtain ⟨ab, ao, rfl, hab, hf64, hcell⟩ := hf k hl1
      have hcw := (hH.fr.cell (p := ⟨ab, ao + k, none⟩) hab (fun h => h)).trans hcell
      obtain ⟨⟨o, ok, st'⟩, hpo⟩ : ∃ x, x = rPut (f k) (k : Int) st := ⟨_, rfl⟩
      have q1 : (0 : Int) ≤ (k : Int) := by omega
      go_wp2_with fail
      go_still_tail 6, (by kernel_rfl)
      go_wp2_with fail
      refine (hH.drew.put (by omega) (f k) hf64 (k : Int) hpo.symm).mono ?_
      rintro e w3 ⟨rfl, hH3, hF3⟩
      clear hpo
      have hO3 := Blk.fr (w := wr.drew) hO hF3 (fun h => h (.inr (.inl rfl)))
      have hR3 := Blk.fr (w := wr.drew) hR hF3 (fun h => h (.inr (.inr rfl)))
      go_wp2_with fail
      go_roundg (64 - (k + 1))
      case measure => omega
      case rel => exact ⟨k + 1, st', rfl, by omega, rfl, hH3, hO3, hR3⟩
    · have hz1 : (k : Int) < (n : Int) → ¬ (k : Int) < 64 := by omega
      by_cases hl1 : k < n
      · have hz2 : (k : Int) < (n : Int) := by omega
        have hz3 : ¬ (k : Int) < 64 := by omega
        as_aux_lemma =>
          clear hz1 hlt
          have hI := hH.inv
          have hn64 := hI.n64
          have hcle := rCnt_le st.fs
          have hnf : ∀ (b : Nat) (W : World), Sem.run Try.prog (Go.binOp BinOp.eql 64 (.func (.func 46) #[] #[.pointer (some ⟨b, 0, none⟩)]) Value.nilFunc) W = .ok (.bool false) W := fun _ _ => by kernel_rfl
          go_wp2_with fail
          refine hH.len.mono ?_
          rintro e w4 ⟨rfl, rfl⟩
          go_wp2_with fail
          refine (AllI_calls rb wr).mono ?_
          rintro e w4 ⟨rfl, rfl⟩
          have hb0 := Blk.new wr 24 [.pointer (some ⟨rb, 0, none⟩)]
          have hH6 := (hH.alloc (.cells #[.pointer (some ⟨rb, 0, none⟩)] 24)).alloc (.cells #[.int .i64 0] 3)
          have hb6 := hb0.alloc (.cells #[.int .i64 0] 3)
          have hn6 := Blk.new (wr.alloc (.cells #[.pointer (some ⟨rb, 0, none⟩)] 24)) 3 [.int .i64 0]
          have hO6 := (hO.alloc (.cells #[.pointer (some ⟨rb, 0, none⟩)] 24)).alloc (.cells #[.int .i64 0] 3)
          have hR6 := (hR.alloc (.cells #[.pointer (some ⟨rb, 0, none⟩)] 24)).alloc (.cells #[.int .i64 0] 3)
          have hlO := hO.lt
          have hlR := hR.lt
          go_wp2_with fail
          obtain ⟨w6, hw6⟩ : ∃ w6, w6 = (wr.alloc (.cells #[.pointer (some ⟨rb, 0, none⟩)] 24)).alloc (.cells #[.int .i64 0] 3) := ⟨_, rfl⟩
          have hs6 : w6.heap.size = wr.heap.size + 2 := by rw [hw6]; simp
          rw [World.size_alloc] at hn6 hH6
          rw [← hw6] at hH6 hb6 hn6 hO6 hR6 ⊢
          clear hw6 hO hR hb0 hH
          obtain ⟨bs, hRing, hInv, hout, hfr⟩ := hH6
          have hHO := Lib.hid hout
          have hlt6 : ∀ b, foot rb fb mb bs b → b < w6.heap.size := fun b hb => hRing.foot_lt hb
          have hge6 : ∀ b, foot rb fb mb bs b → w.heap.size < b ∧ b ≠ w2.heap.size ∧ b ≠ wr.heap.size ∧ b ≠ wr.heap.size + 1 := by
            intro b hb
            refine ⟨?_, ?_, ?_, ?_⟩
            · have h1 : ¬ b < w.heap.size := fun h => (hout b (.inl h)).2 hb
              have h2 : b ≠ w.heap.size := fun h => (hout b (.inr (.inl (.inl (.inl h))))).2 hb
              omega
            · exact fun h => (hout b (.inr (.inl (.inl (.inr h))))).2 hb
            · exact fun h => (hout b (.inr (.inl (.inr h)))).2 hb
            · exact fun h => (hout b (.inr (.inr h))).2 hb
          have HL6 := Lib.hid hlt6
          have HG6 := Lib.hid hge6
          clear hout hlt6 hge6
          refine (wpIn_wide (n := 9)).1 ?_
          apply wpIn_rangeFunc_ownG (F := Fence.wide) (n := 9) rfl (by omega) (gf := 46) (lb := #[.pointer (some ⟨wr.heap.size, 0, none⟩)]) rfl trivial (enters_of Try.func46 (by kernel_rfl) rfl)
            (AllI_stops 8 (by omega) wr.heap.size rb fb mb bs st _ w6 (hb6.cell 0) hRing hInv) keepC_t keepC_b (Below.refl _ _) (fun _ => rfl)
            (fun pre W => GoI w6 w2.heap.size w.heap.size (wr.heap.size + 1) rb fb mb bs stop st pre W ∧ ∀ j : Nat, 1 ≤ j → j ≤ pre.length → (j : Int) ≠ stop)
            (fun c pre W => c = .exit 2 ∧ GoI w6 w2.heap.size w.heap.size (wr.heap.size + 1) rb fb mb bs stop st pre W ∧ (pre.length : Int) = stop ∧ 1 ≤ pre.length) ?hI ?hIx ?h0 _
          case hassign =>
            intro l x W K hK
            unfold comeI
            gi_wp2
            exact hK
          case hI =>
            rintro pre W W' row ⟨h1, h2⟩ hg hr
            exact ⟨h1.grown (by have := hn6.lt; omega) (by have := hn6.lt; omega) (by have := hn6.lt; omega) HL6.out hg hr, h2⟩
          case hIx =>
            rintro c pre W W' row ⟨h0, h1, h2⟩ hg hr
            exact ⟨h0, h1.grown (by have := hn6.lt; omega) (by have := hn6.lt; omega) (by have := hn6.lt; omega) HL6.out hg hr, h2⟩
          case h0 =>
            exact ⟨⟨⟨bs, hRing, fun _ h => h⟩, Fr.refl _ _, hn6, hO6, hR6⟩, fun j h1 h2 => by simp at h2; omega⟩
          case hbody =>
            rintro l pre x W ⟨⟨⟨bs', hRW, hsub⟩, hF, hn, ho, hr⟩, hne⟩ hlen
            rw [rAll_len] at hlen
            have hNE := Lib.hid hne
            clear hne
            have hIW := delAll_inv pre hInv
            have hdel := DelI_any hRW hIW (kclip x.key) (kclip_in _)
            have hW6 := hF.size
            have l0 := hr.cell 0
            have n64 : pre.length < 64 := by omega
            have hn1 := hn6.lt
            have ne1 : w.heap.size ≠ wr.heap.size + 1 := by omega
            have ne2 : wr.heap.size + 1 ≠ w.heap.size := by omega
            have ne3 : w2.heap.size ≠ wr.heap.size + 1 := by omega
            cases hb : ((pre.length : Int) + 1 == stop) with
            | true =>
              gi_wp2_with (refine ⟨trivial, ?_⟩; gi_at_call 32; refine (CallsIn.inRound l (callsIn_wide.2 hdel)).mono ?_; clear hdel l0; rintro e W2 ⟨⟨va, vb, rfl⟩, ⟨bs2, hR2, hsub2⟩, hF2⟩; have hn2 := hn.fr hF2 (fun h => (HG6.out _ (hsub _ h)).2.2.2 rfl); have ho2 := ho.fr hF2 (fun h => by have := (HG6.out _ (hsub _ h)).1; omega); have hr2 := hr.fr hF2 (fun h => (HG6.out _ (hsub _ h)).2.1 rfl); have n0 := hn2.cell 0; have nf := hn2.frozen 0; have o0 := ho2.cell 0)
              have hFW : Fr (fun b => foot rb fb mb bs b ∨ b = wr.heap.size + 1) W (W2.setCell ⟨wr.heap.size + 1, 0, none⟩ (.int .i64 ((pre.length : Int) + 1))) := (hF2.mono (fun b _ hb => .inl (hsub b hb))).setCell (p := ⟨wr.heap.size + 1, 0, none⟩) (.inl (.inr rfl)) _
              have hlow : ∀ b, (foot rb fb mb bs b ∨ b = wr.heap.size + 1) → b < w6.heap.size := fun b hb => by
                rcases hb with hb | hb
                · exact HL6.out b hb
                · omega
              have hgo : GoI w6 w2.heap.size w.heap.size (wr.heap.size + 1) rb fb mb bs stop st (pre ++ [x]) (W2.setCell ⟨wr.heap.size + 1, 0, none⟩ (.int .i64 ((pre.length : Int) + 1))) := by
                refine ⟨⟨bs2, ?_, fun b h => hsub b (hsub2 b h)⟩, hF.trans hFW (fun _ _ h => h), ?_, ho2.far (p := ⟨wr.heap.size + 1, 0, none⟩) ne1 _, hr2.far (p := ⟨wr.heap.size + 1, 0, none⟩) ne3 _⟩
                · rw [delAll_snoc]
                  exact hR2.keep ((Fr.refl (fun b => b = wr.heap.size + 1) W2).setCell (p := ⟨wr.heap.size + 1, 0, none⟩) (.inl rfl) _) (fun b hb => (HG6.out _ (hsub _ (hsub2 _ hb))).2.2.2)
                · rw [List.length_append]
                  exact hn2.set_ 0 (.int .i64 ((pre.length : Int) + 1))
              have he := eq_of_beq hb
              exact ⟨keepsFrom_of_fr hFW hlow, rfl, hgo, by rw [List.length_append]; simpa using he, by simp⟩
            | false =>
              gi_wp2_with (refine ⟨trivial, ?_⟩; gi_at_call 32; refine (CallsIn.inRound l (callsIn_wide.2 hdel)).mono ?_; clear hdel l0; rintro e W2 ⟨⟨va, vb, rfl⟩, ⟨bs2, hR2, hsub2⟩, hF2⟩; have hn2 := hn.fr hF2 (fun h => (HG6.out _ (hsub _ h)).2.2.2 rfl); have ho2 := ho.fr hF2 (fun h => by have := (HG6.out _ (hsub _ h)).1; omega); have hr2 := hr.fr hF2 (fun h => (HG6.out _ (hsub _ h)).2.1 rfl); have n0 := hn2.cell 0; have nf := hn2.frozen 0; have o0 := ho2.cell 0)
              have hFW : Fr (fun b => foot rb fb mb bs b ∨ b = wr.heap.size + 1) W (W2.setCell ⟨wr.heap.size + 1, 0, none⟩ (.int .i64 ((pre.length : Int) + 1))) := (hF2.mono (fun b _ hb => .inl (hsub b hb))).setCell (p := ⟨wr.heap.size + 1, 0, none⟩) (.inl (.inr rfl)) _
              have hlow : ∀ b, (foot rb fb mb bs b ∨ b = wr.heap.size + 1) → b < w6.heap.size := fun b hb => by
                rcases hb with hb | hb
                · exact HL6.out b hb
                · omega
              have hgo : GoI w6 w2.heap.size w.heap.size (wr.heap.size + 1) rb fb mb bs stop st (pre ++ [x]) (W2.setCell ⟨wr.heap.size + 1, 0, none⟩ (.int .i64 ((pre.length : Int) + 1))) := by
                refine ⟨⟨bs2, ?_, fun b h => hsub b (hsub2 b h)⟩, hF.trans hFW (fun _ _ h => h), ?_, ho2.far (p := ⟨wr.heap.size + 1, 0, none⟩) ne1 _, hr2.far (p := ⟨wr.heap.size + 1, 0, none⟩) ne3 _⟩
                · rw [delAll_snoc]
                  exact hR2.keep ((Fr.refl (fun b => b = wr.heap.size + 1) W2).setCell (p := ⟨wr.heap.size + 1, 0, none⟩) (.inl rfl) _) (fun b hb => (HG6.out _ (hsub _ (hsub2 _ hb))).2.2.2)
                · rw [List.length_append]
                  exact hn2.set_ 0 (.int .i64 ((pre.length : Int) + 1))
              refine ⟨keepsFrom_of_fr hFW hlow, KeepC.of_fr hFW hlow, hgo, fun j h1 h2 => ?_⟩
              rw [List.length_append] at h2
              simp only [List.length_cons, List.length_nil, Nat.zero_add] at h2
              by_cases e : j = pre.length + 1
              · subst e
                intro e2
                rw [← e2] at hb
                simp at hb
              · exact hNE.out j h1 (by omega)
          case hdone =>
            rintro D xs W hD rfl ⟨⟨⟨bs', hRW, hsub⟩, hF, hn, ho, hr⟩, hne⟩ hK
            have hcnt := delAll_cnt hInv (List.prefix_refl (rAll st.fs))
            have hlen0 : (rAll st.fs).length = rCnt st.fs := rAll_len _
            have hF0 : Fr (fun _ => False) w W := hfr.trans hF (fun b hb h => by
              rcases h with h | h
              · have := (HG6.out b h).1; omega
              · omega)
            have hKD := Lib.hid hK
            have hRz := hRW
            have hfz := fun b hb => HG6.out b (hsub b hb)
            have hHZ := Lib.hid hfz
            generalize delAll (rAll st.fs) st = stz at hcnt hRz hRW
            have hm : ((rAll st.fs).length : Int) = (rCnt st.fs : Int) := by omega
            rw [hm] at hn
            have hz0 : (rCnt stz.fs : Int) = 0 := by omega
            have hst : stop < 1 ∨ (rCnt st.fs : Int) < stop := by
              by_cases h : stop < 1
              · exact .inl h
              · refine .inr ?_
                have := hne stop.toNat (by omega)
                by_cases h2 : (rCnt st.fs : Int) < stop
                · exact h2
                · exact absurd (Int.toNat_of_nonneg (by omega)) (this (by omega))
            clear hne hcnt hlen0 hm hfz hRW hK
            have n0 := hn.cell 0
            have o0 := ho.cell 0
            have of := ho.frozen 0
            have hWz : Blk (W.setCell ⟨w.heap.size, 0, none⟩ (.int .i64 (rCnt st.fs : Int))) w.heap.size 3 [.int .i64 (rCnt st.fs : Int)] := ho.set_ 0 _
            have hnz := hn.far (p := ⟨w.heap.size, 0, none⟩) (by show wr.heap.size + 1 ≠ w.heap.size; omega) (.int .i64 (rCnt st.fs : Int))
            have hrz := hr.far (p := ⟨w.heap.size, 0, none⟩) (by show w2.heap.size ≠ w.heap.size; omega) (.int .i64 (rCnt st.fs : Int))
            have hRzz := hRz.keep ((Fr.refl (fun b => b = w.heap.size) W).setCell (p := ⟨w.heap.size, 0, none⟩) (.inl rfl) (.int .i64 (rCnt st.fs : Int))) (fun b hb h => by have := (hHZ.out b hb).1; omega)
            have hF0z := hF0.setCell (p := ⟨w.heap.size, 0, none⟩) (.inr (Nat.le_refl _)) (.int .i64 (rCnt st.fs : Int))
            have hKz : (W.setCell ⟨w.heap.size, 0, none⟩ (.int .i64 (rCnt st.fs : Int))).heap[D]? = some (.deferred (some [])) := (Below.heap_setCell _ _ _ _ (by show D ≠ w.heap.size; have := hn6.lt; omega)).trans hKD.out
            have hHK := Lib.hid hKz
            clear hKz hKD
            have hn1 := hn6.lt
            have g1 : ((rCnt st.fs : Int) == (rCnt st.fs : Int)) = true := by simp
            have g2 : ((rCnt stz.fs : Int) == 0) = true := by rw [hz0]; rfl
            clear hz0
            have g3 : IntKind.i64.wrap 0 = 0 := by rfl
            rcases hst with hst | hst
            · have d1 : decide (stop < 1) = true := decide_eq_true hst
              go_wp2_with fail
              generalize W.setCell ⟨w.heap.size, 0, none⟩ (.int .i64 (rCnt st.fs : Int)) = Wz at hWz hnz hrz hRzz hF0z hHK ⊢
              refine (PutI_nil Wz 1 1).mono ?_
              rintro e W3 ⟨rfl, hF3⟩
              simp only [outVI]
              go_wp2_with fail
              refine (GetI_nil _ 1).mono ?_
              rintro e W4 ⟨rfl, rfl⟩
              have hFq : Fr (fun _ => False) Wz (W3.alloc (.cells #[.int .i64 0, .int .i64 0, .bool false] 27)) := hF3.alloc _
              have e1 := (hnz.fr hFq (fun h => h)).cell 0
              have e2 := (hWz.fr hFq (fun h => h)).cell 0
              have e3 := (hrz.fr hFq (fun h => h)).cell 0
              have p1 : ∀ n : Nat, Calls Try.prog 12 #[.pointer (some ⟨rb, 0, none⟩)] ((W3.alloc (.cells #[.int .i64 0, .int .i64 0, .bool false] 27)).drewN n) fun e w' => e = .returned (.int .i64 (rCnt stz.fs)) ∧ w' = (W3.alloc (.cells #[.int .i64 0, .int .i64 0, .bool false] 27)).drewN n := fun n => by
                have hFn : Fr (fun _ => False) Wz ((W3.alloc (.cells #[.int .i64 0, .int .i64 0, .bool false] 27)).drewN n) := hFq.trans ⟨rfl, rfl, rfl, Nat.le_refl _, fun _ _ _ => rfl⟩ (fun _ _ h => h)
                exact (LenI_calls _ rb fb mb bs' stz (hRzz.keep hFn (fun _ _ h => h))).mono fun _ _ ⟨h1, h2⟩ => ⟨h1, h2.symm⟩
              go_wp2_with fail
              go_quiet ((first | (go_at_call 12; with_reducible exact Calls.quiet_of_same (p1 _)) | (go_at_call 12; with_reducible exact Calls.quiet_of_same (LenI_nil _)) | (go_at_call 13; with_reducible exact Calls.quiet_of_same (PinI_nil _ 1)) | (go_at_call 33; with_reducible exact Calls.quiet_of_same (LetI_nil _ 1)) | (go_at_call 14; with_reducible exact Calls.quiet_of_same (PinsI_nil _ 1))))
              go_wp2_with fail
              have hKE : ((W3.alloc (.cells #[.int .i64 0, .int .i64 0, .bool false] 27)).drewN nq).heap[D]? = some (.deferred (some [])) := (hFq.block D (Array.getElem?_eq_some_iff.1 hHK.out).1 (fun h => h)).trans hHK.out
              have hFn : Fr (fun _ => False) (W3.alloc (.cells #[.int .i64 0, .int .i64 0, .bool false] 27)) ((W3.alloc (.cells #[.int .i64 0, .int .i64 0, .bool false] 27)).drewN nq) := ⟨rfl, rfl, rfl, Nat.le_refl _, fun _ _ _ => rfl⟩
              have hBE : Below w.heap.size w ((W3.alloc (.cells #[.int .i64 0, .int .i64 0, .bool false] 27)).drewN nq) := ((hF0z.trans hFq (fun _ _ h => h)).trans hFn (fun _ _ h => h)).to_below
              refine ⟨by simp, .inl ⟨_, _, rfl, run_takeDeferred hKE, ?_⟩⟩
              exact ⟨_, results_tmp rfl _ _ _, rfl, hBE.trans (belowK_b (w := w) (Nat.le_refl _) _ D _ _ (by omega) hKE rfl rfl)⟩
            · have d1 : decide (stop < 1) = false := decide_eq_false (by omega)
              have d2 : decide ((rCnt st.fs : Int) < stop) = true := decide_eq_true hst
              go_wp2_with fail
              generalize W.setCell ⟨w.heap.size, 0, none⟩ (.int .i64 (rCnt st.fs : Int)) = Wz at hWz hnz hrz hRzz hF0z hHK ⊢
              refine (PutI_nil Wz 1 1).mono ?_
              rintro e W3 ⟨rfl, hF3⟩
              simp only [outVI]
              go_wp2_with fail
              refine (GetI_nil _ 1).mono ?_
              rintro e W4 ⟨rfl, rfl⟩
              have hFq : Fr (fun _ => False) Wz (W3.alloc (.cells #[.int .i64 0, .int .i64 0, .bool false] 27)) := hF3.alloc _
              have e1 := (hnz.fr hFq (fun h => h)).cell 0
              have e2 := (hWz.fr hFq (fun h => h)).cell 0
              have e3 := (hrz.fr hFq (fun h => h)).cell 0
              have p1 : ∀ n : Nat, Calls Try.prog 12 #[.pointer (some ⟨rb, 0, none⟩)] ((W3.alloc (.cells #[.int .i64 0, .int .i64 0, .bool false] 27)).drewN n) fun e w' => e = .returned (.int .i64 (rCnt stz.fs)) ∧ w' = (W3.alloc (.cells #[.int .i64 0, .int .i64 0, .bool false] 27)).drewN n := fun n => by
                have hFn : Fr (fun _ => False) Wz ((W3.alloc (.cells #[.int .i64 0, .int .i64 0, .bool false] 27)).drewN n) := hFq.trans ⟨rfl, rfl, rfl, Nat.le_refl _, fun _ _ _ => rfl⟩ (fun _ _ h => h)
                exact (LenI_calls _ rb fb mb bs' stz (hRzz.keep hFn (fun _ _ h => h))).mono fun _ _ ⟨h1, h2⟩ => ⟨h1, h2.symm⟩
              go_wp2_with fail
              go_quiet ((first | (go_at_call 12; with_reducible exact Calls.quiet_of_same (p1 _)) | (go_at_call 12; with_reducible exact Calls.quiet_of_same (LenI_nil _)) | (go_at_call 13; with_reducible exact Calls.quiet_of_same (PinI_nil _ 1)) | (go_at_call 33; with_reducible exact Calls.quiet_of_same (LetI_nil _ 1)) | (go_at_call 14; with_reducible exact Calls.quiet_of_same (PinsI_nil _ 1))))
              go_wp2_with fail
              have hKE : ((W3.alloc (.cells #[.int .i64 0, .int .i64 0, .bool false] 27)).drewN nq).heap[D]? = some (.deferred (some [])) := (hFq.block D (Array.getElem?_eq_some_iff.1 hHK.out).1 (fun h => h)).trans hHK.out
              have hFn : Fr (fun _ => False) (W3.alloc (.cells #[.int .i64 0, .int .i64 0, .bool false] 27)) ((W3.alloc (.cells #[.int .i64 0, .int .i64 0, .bool false] 27)).drewN nq) := ⟨rfl, rfl, rfl, Nat.le_refl _, fun _ _ _ => rfl⟩
              have hBE : Below w.heap.size w ((W3.alloc (.cells #[.int .i64 0, .int .i64 0, .bool false] 27)).drewN nq) := ((hF0z.trans hFq (fun _ _ h => h)).trans hFn (fun _ _ h => h)).to_below
              refine ⟨by simp, .inl ⟨_, _, rfl, run_takeDeferred hKE, ?_⟩⟩
              exact ⟨_, results_tmp rfl _ _ _, rfl, hBE.trans (belowK_b (w := w) (Nat.le_refl _) _ D _ _ (by omega) hKE rfl rfl)⟩
          case hstop =>
            rintro D c pre W hD hpre ⟨rfl, ⟨⟨bs', hRW, hsub⟩, hF, hn, ho, hr⟩, hps, hp1⟩ hK
            have hcnt := delAll_cnt hInv hpre
            have hF0 : Fr (fun _ => False) w W := hfr.trans hF (fun b hb h => by
              rcases h with h | h
              · have := (HG6.out b h).1; omega
              · omega)
            have hHZ := Lib.hid (fun b hb => HG6.out b (hsub b hb))
            generalize delAll pre st = stz at hcnt hRW
            have hz0 : (rCnt stz.fs : Int) = (rCnt st.fs : Int) - stop := by omega
            have hsle : stop ≤ (rCnt st.fs : Int) := by omega
            have hsge : 1 ≤ stop := by omega
            rw [hps] at hn
            clear hcnt hps hp1 hpre
            have hWz := ho
            have hnz := hn
            have hrz := hr
            have hRzz := hRW
            have hF0z := hF0
            have hHK := Lib.hid hK
            clear hK ho hn hr hRW hF0 hF
            have n0 := hnz.cell 0
            have o0 := hWz.cell 0
            have hn1 := hn6.lt
            have g1 : (stop == stop) = true := by simp
            have g2 : ((rCnt stz.fs : Int) == (rCnt st.fs : Int) - stop) = true := by rw [hz0]; simp
            clear hz0
            have g3 : IntKind.i64.wrap ((rCnt st.fs : Int) - stop) = (rCnt st.fs : Int) - stop := IntWalk.i64_in _ (by omega)
            have d1 : decide (stop < 1) = false := decide_eq_false (by omega)
            have d2 : decide ((rCnt st.fs : Int) < stop) = false := decide_eq_false (by omega)
            refine wpIn_wide.2 ?_
            go_wp2_with fail
            obtain ⟨Wz, rfl⟩ : ∃ Wz : World, Wz = W := ⟨_, rfl⟩
            refine (PutI_nil Wz 1 1).mono ?_
            rintro e W3 ⟨rfl, hF3⟩
            simp only [outVI]
            go_wp2_with fail
            refine (GetI_nil _ 1).mono ?_
            rintro e W4 ⟨rfl, rfl⟩
            have hFq : Fr (fun _ => False) Wz (W3.alloc (.cells #[.int .i64 0, .int .i64 0, .bool false] 27)) := hF3.alloc _
            have e1 := (hnz.fr hFq (fun h => h)).cell 0
            have e2 := (hWz.fr hFq (fun h => h)).cell 0
            have e3 := (hrz.fr hFq (fun h => h)).cell 0
            have p1 : ∀ n : Nat, Calls Try.prog 12 #[.pointer (some ⟨rb, 0, none⟩)] ((W3.alloc (.cells #[.int .i64 0, .int .i64 0, .bool false] 27)).drewN n) fun e w' => e = .returned (.int .i64 (rCnt stz.fs)) ∧ w' = (W3.alloc (.cells #[.int .i64 0, .int .i64 0, .bool false] 27)).drewN n := fun n => by
              have hFn : Fr (fun _ => False) Wz ((W3.alloc (.cells #[.int .i64 0, .int .i64 0, .bool false] 27)).drewN n) := hFq.trans ⟨rfl, rfl, rfl, Nat.le_refl _, fun _ _ _ => rfl⟩ (fun _ _ h => h)
              exact (LenI_calls _ rb fb mb bs' stz (hRzz.keep hFn (fun _ _ h => h))).mono fun _ _ ⟨h1, h2⟩ => ⟨h1, h2.symm⟩
            go_wp2_with fail
            go_quiet ((first | (go_at_call 12; with_reducible exact Calls.quiet_of_same (p1 _)) | (go_at_call 12; with_reducible exact Calls.quiet_of_same (LenI_nil _)) | (go_at_call 13; with_reducible exact Calls.quiet_of_same (PinI_nil _ 1)) | (go_at_call 33; with_reducible exact Calls.quiet_of_same (LetI_nil _ 1)) | (go_at_call 14; with_reducible exact Calls.quiet_of_same (PinsI_nil _ 1))))
            go_wp2_with fail
            have hKE : ((W3.alloc (.cells #[.int .i64 0, .int .i64 0, .bool false] 27)).drewN nq).heap[D]? = some (.deferred (some [])) := (hFq.block D (Array.getElem?_eq_some_iff.1 hHK.out).1 (fun h => h)).trans hHK.out
            have hFn : Fr (fun _ => False) (W3.alloc (.cells #[.int .i64 0, .int .i64 0, .bool false] 27)) ((W3.alloc (.cells #[.int .i64 0, .int .i64 0, .bool false] 27)).drewN nq) := ⟨rfl, rfl, rfl, Nat.le_refl _, fun _ _ _ => rfl⟩
            have hBE : Below w.heap.size w ((W3.alloc (.cells #[.int .i64 0, .int .i64 0, .bool false] 27)).drewN nq) := ((hF0z.trans hFq (fun _ _ h => h)).trans hFn (fun _ _ h => h)).to_below
            refine ⟨by simp, .inl ⟨_, _, rfl, run_takeDeferred hKE, ?_⟩⟩
            exact ⟨_, results_tmp rfl _ _ _, rfl, hBE.trans (belowK_b (w := w) (Nat.le_refl _) _ D _ _ (by omega) hKE rfl rfl)⟩
      · have hz2 : ¬ (k : Int) < (n : Int) := by omega
        as_aux_lemma =>
          clear hz1 hlt
          have hI := hH.inv
          have hn64 := hI.n64
          have hcle := rCnt_le st.fs
          have hnf : ∀ (b : Nat) (W : World), Sem.run Try.prog (Go.binOp BinOp.eql 64 (.func (.func 46) #[] #[.pointer (some ⟨b, 0, none⟩)]) Value.nilFunc) W = .ok (.bool false) W := fun _ _ => by kernel_rfl
          go_wp2_with fail
          refine hH.len.mono ?_
          rintro e w4 ⟨rfl, rfl⟩
          go_wp2_with fail
          refine (AllI_calls rb wr).mono ?_
          rintro e w4 ⟨rfl, rfl⟩
          have hb0 := Blk.new wr 24 [.pointer (some ⟨rb, 0, none⟩)]
          have hH6 := (hH.alloc (.cells #[.pointer (some ⟨rb, 0, none⟩)] 24)).alloc (.cells #[.int .i64 0] 3)
          have hb6 := hb0.alloc (.cells #[.int .i64 0] 3)
          have hn6 := Blk.new (wr.alloc (.cells #[.pointer (some ⟨rb, 0, none⟩)] 24)) 3 [.int .i64 0]
          have hO6 := (hO.alloc (.cells #[.pointer (some ⟨rb, 0, none⟩)] 24)).alloc (.cells #[.int .i64 0] 3)
          have hR6 := (hR.alloc (.cells #[.pointer (some ⟨rb, 0, none⟩)] 24)).alloc (.cells #[.int .i64 0] 3)
          have hlO := hO.lt
          have hlR := hR.lt
          go_wp2_with fail
          obtain ⟨w6, hw6⟩ : ∃ w6, w6 = (wr.alloc (.cells #[.pointer (some ⟨rb, 0, none⟩)] 24)).alloc (.cells #[.int .i64 0] 3) := ⟨_, rfl⟩
          have hs6 : w6.heap.size = wr.heap.size + 2 := by rw [hw6]; simp
          rw [World.size_alloc] at hn6 hH6
          rw [← hw6] at hH6 hb6 hn6 hO6 hR6 ⊢
          clear hw6 hO hR hb0 hH
          obtain ⟨bs, hRing, hInv, hout, hfr⟩ := hH6
          have hHO := Lib.hid hout
          have hlt6 : ∀ b, foot rb fb mb bs b → b < w6.heap.size := fun b hb => hRing.foot_lt hb
          have hge6 : ∀ b, foot rb fb mb bs b → w.heap.size < b ∧ b ≠ w2.heap.size ∧ b ≠ wr.heap.size ∧ b ≠ wr.heap.size + 1 := by
            intro b hb
            refine ⟨?_, ?_, ?_, ?_⟩
            · have h1 : ¬ b < w.heap.size := fun h => (hout b (.inl h)).2 hb
              have h2 : b ≠ w.heap.size := fun h => (hout b (.inr (.inl (.inl (.inl h))))).2 hb
              omega
            · exact fun h => (hout b (.inr (.inl (.inl (.inr h))))).2 hb
            · exact fun h => (hout b (.inr (.inl (.inr h)))).2 hb
            · exact fun h => (hout b (.inr (.inr h))).2 hb
          have HL6 := Lib.hid hlt6
          have HG6 := Lib.hid hge6
          clear hout hlt6 hge6
          refine (wpIn_wide (n := 9)).1 ?_
          apply wpIn_rangeFunc_ownG (F := Fence.wide) (n := 9) rfl (by omega) (gf := 46) (lb := #[.pointer (some ⟨wr.heap.size, 0, none⟩)]) rfl trivial (enters_of Try.func46 (by kernel_rfl) rfl)
            (AllI_stops 8 (by omega) wr.heap.size rb fb mb bs st _ w6 (hb6.cell 0) hRing hInv) keepC_t keepC_b (Below.refl _ _) (fun _ => rfl)
            (fun pre W => GoI w6 w2.heap.size w.heap.size (wr.heap.size + 1) rb fb mb bs stop st pre W ∧ ∀ j : Nat, 1 ≤ j → j ≤ pre.length → (j : Int) ≠ stop)
            (fun c pre W => c = .exit 2 ∧ GoI w6 w2.heap.size w.heap.size (wr.heap.size + 1) rb fb mb bs stop st pre W ∧ (pre.length : Int) = stop ∧ 1 ≤ pre.length) ?hI ?hIx ?h0 _
          case hassign =>
            intro l x W K hK
            unfold comeI
            gi_wp2
            exact hK
          case hI =>
            rintro pre W W' row ⟨h1, h2⟩ hg hr
            exact ⟨h1.grown (by have := hn6.lt; omega) (by have := hn6.lt; omega) (by have := hn6.lt; omega) HL6.out hg hr, h2⟩
          case hIx =>
            rintro c pre W W' row ⟨h0, h1, h2⟩ hg hr
            exact ⟨h0, h1.grown (by have := hn6.lt; omega) (by have := hn6.lt; omega) (by have := hn6.lt; omega) HL6.out hg hr, h2⟩
          case h0 =>
            exact ⟨⟨⟨bs, hRing, fun _ h => h⟩, Fr.refl _ _, hn6, hO6, hR6⟩, fun j h1 h2 => by simp at h2; omega⟩
          case hbody =>
            rintro l pre x W ⟨⟨⟨bs', hRW, hsub⟩, hF, hn, ho, hr⟩, hne⟩ hlen
            rw [rAll_len] at hlen
            have hNE := Lib.hid hne
            clear hne
            have hIW := delAll_inv pre hInv
            have hdel := DelI_any hRW hIW (kclip x.key) (kclip_in _)
            have hW6 := hF.size
            have l0 := hr.cell 0
            have n64 : pre.length < 64 := by omega
            have hn1 := hn6.lt
            have ne1 : w.heap.size ≠ wr.heap.size + 1 := by omega
            have ne2 : wr.heap.size + 1 ≠ w.heap.size := by omega
            have ne3 : w2.heap.size ≠ wr.heap.size + 1 := by omega
            cases hb : ((pre.length : Int) + 1 == stop) with
            | true =>
              gi_wp2_with (refine ⟨trivial, ?_⟩; gi_at_call 32; refine (CallsIn.inRound l (callsIn_wide.2 hdel)).mono ?_; clear hdel l0; rintro e W2 ⟨⟨va, vb, rfl⟩, ⟨bs2, hR2, hsub2⟩, hF2⟩; have hn2 := hn.fr hF2 (fun h => (HG6.out _ (hsub _ h)).2.2.2 rfl); have ho2 := ho.fr hF2 (fun h => by have := (HG6.out _ (hsub _ h)).1; omega); have hr2 := hr.fr hF2 (fun h => (HG6.out _ (hsub _ h)).2.1 rfl); have n0 := hn2.cell 0; have nf := hn2.frozen 0; have o0 := ho2.cell 0)
              have hFW : Fr (fun b => foot rb fb mb bs b ∨ b = wr.heap.size + 1) W (W2.setCell ⟨wr.heap.size + 1, 0, none⟩ (.int .i64 ((pre.length : Int) + 1))) := (hF2.mono (fun b _ hb => .inl (hsub b hb))).setCell (p := ⟨wr.heap.size + 1, 0, none⟩) (.inl (.inr rfl)) _
              have hlow : ∀ b, (foot rb fb mb bs b ∨ b = wr.heap.size + 1) → b < w6.heap.size := fun b hb => by
                rcases hb with hb | hb
                · exact HL6.out b hb
                · omega
              have hgo : GoI w6 w2.heap.size w.heap.size (wr.heap.size + 1) rb fb mb bs stop st (pre ++ [x]) (W2.setCell ⟨wr.heap.size + 1, 0, none⟩ (.int .i64 ((pre.length : Int) + 1))) := by
                refine ⟨⟨bs2, ?_, fun b h => hsub b (hsub2 b h)⟩, hF.trans hFW (fun _ _ h => h), ?_, ho2.far (p := ⟨wr.heap.size + 1, 0, none⟩) ne1 _, hr2.far (p := ⟨wr.heap.size + 1, 0, none⟩) ne3 _⟩
                · rw [delAll_snoc]
                  exact hR2.keep ((Fr.refl (fun b => b = wr.heap.size + 1) W2).setCell (p := ⟨wr.heap.size + 1, 0, none⟩) (.inl rfl) _) (fun b hb => (HG6.out _ (hsub _ (hsub2 _ hb))).2.2.2)
                · rw [List.length_append]
                  exact hn2.set_ 0 (.int .i64 ((pre.length : Int) + 1))
              have he := eq_of_beq hb
              exact ⟨keepsFrom_of_fr hFW hlow, rfl, hgo, by rw [List.length_append]; simpa using he, by simp⟩
            | false =>
              gi_wp2_with (refine ⟨trivial, ?_⟩; gi_at_call 32; refine (CallsIn.inRound l (callsIn_wide.2 hdel)).mono ?_; clear hdel l0; rintro e W2 ⟨⟨va, vb, rfl⟩, ⟨bs2, hR2, hsub2⟩, hF2⟩; have hn2 := hn.fr hF2 (fun h => (HG6.out _ (hsub _ h)).2.2.2 rfl); have ho2 := ho.fr hF2 (fun h => by have := (HG6.out _ (hsub _ h)).1; omega); have hr2 := hr.fr hF2 (fun h => (HG6.out _ (hsub _ h)).2.1 rfl); have n0 := hn2.cell 0; have nf := hn2.frozen 0; have o0 := ho2.cell 0)
              have hFW : Fr (fun b => foot rb fb mb bs b ∨ b = wr.heap.size + 1) W (W2.setCell ⟨wr.heap.size + 1, 0, none⟩ (.int .i64 ((pre.length : Int) + 1))) := (hF2.mono (fun b _ hb => .inl (hsub b hb))).setCell (p := ⟨wr.heap.size + 1, 0, none⟩) (.inl (.inr rfl)) _
              have hlow : ∀ b, (foot rb fb mb bs b ∨ b = wr.heap.size + 1) → b < w6.heap.size := fun b hb => by
                rcases hb with hb | hb
                · exact HL6.out b hb
                · omega
              have hgo : GoI w6 w2.heap.size w.heap.size (wr.heap.size + 1) rb fb mb bs stop st (pre ++ [x]) (W2.setCell ⟨wr.heap.size + 1, 0, none⟩ (.int .i64 ((pre.length : Int) + 1))) := by
                refine ⟨⟨bs2, ?_, fun b h => hsub b (hsub2 b h)⟩, hF.trans hFW (fun _ _ h => h), ?_, ho2.far (p := ⟨wr.heap.size + 1, 0, none⟩) ne1 _, hr2.far (p := ⟨wr.heap.size + 1, 0, none⟩) ne3 _⟩
                · rw [delAll_snoc]
                  exact hR2.keep ((Fr.refl (fun b => b = wr.heap.size + 1) W2).setCell (p := ⟨wr.heap.size + 1, 0, none⟩) (.inl rfl) _) (fun b hb => (HG6.out _ (hsub _ (hsub2 _ hb))).2.2.2)
                · rw [List.length_append]
                  exact hn2.set_ 0 (.int .i64 ((pre.length : Int) + 1))
              refine ⟨keepsFrom_of_fr hFW hlow, KeepC.of_fr hFW hlow, hgo, fun j h1 h2 => ?_⟩
              rw [List.length_append] at h2
              simp only [List.length_cons, List.length_nil, Nat.zero_add] at h2
              by_cases e : j = pre.length + 1
              · subst e
                intro e2
                rw [← e2] at hb
                simp at hb
              · exact hNE.out j h1 (by omega)
          case hdone =>
            rintro D xs W hD rfl ⟨⟨⟨bs', hRW, hsub⟩, hF, hn, ho, hr⟩, hne⟩ hK
            have hcnt := delAll_cnt hInv (List.prefix_refl (rAll st.fs))
            have hlen0 : (rAll st.fs).length = rCnt st.fs := rAll_len _
            have hF0 : Fr (fun _ => False) w W := hfr.trans hF (fun b hb h => by
              rcases h with h | h
              · have := (HG6.out b h).1; omega
              · omega)
            have hKD := Lib.hid hK
            have hRz := hRW
            have hfz := fun b hb => HG6.out b (hsub b hb)
            have hHZ := Lib.hid hfz
            generalize delAll (rAll st.fs) st = stz at hcnt hRz hRW
            have hm : ((rAll st.fs).length : Int) = (rCnt st.fs : Int) := by omega
            rw [hm] at hn
            have hz0 : (rCnt stz.fs : Int) = 0 := by omega
            have hst : stop < 1 ∨ (rCnt st.fs : Int) < stop := by
              by_cases h : stop < 1
              · exact .inl h
              · refine .inr ?_
                have := hne stop.toNat (by omega)
                by_cases h2 : (rCnt st.fs : Int) < stop
                · exact h2
                · exact absurd (Int.toNat_of_nonneg (by omega)) (this (by omega))
            clear hne hcnt hlen0 hm hfz hRW hK
            have n0 := hn.cell 0
            have o0 := ho.cell 0
            have of := ho.frozen 0
            have hWz : Blk (W.setCell ⟨w.heap.size, 0, none⟩ (.int .i64 (rCnt st.fs : Int))) w.heap.size 3 [.int .i64 (rCnt st.fs : Int)] := ho.set_ 0 _
            have hnz := hn.far (p := ⟨w.heap.size, 0, none⟩) (by show wr.heap.size + 1 ≠ w.heap.size; omega) (.int .i64 (rCnt st.fs : Int))
            have hrz := hr.far (p := ⟨w.heap.size, 0, none⟩) (by show w2.heap.size ≠ w.heap.size; omega) (.int .i64 (rCnt st.fs : Int))
            have hRzz := hRz.keep ((Fr.refl (fun b => b = w.heap.size) W).setCell (p := ⟨w.heap.size, 0, none⟩) (.inl rfl) (.int .i64 (rCnt st.fs : Int))) (fun b hb h => by have := (hHZ.out b hb).1; omega)
            have hF0z := hF0.setCell (p := ⟨w.heap.size, 0, none⟩) (.inr (Nat.le_refl _)) (.int .i64 (rCnt st.fs : Int))
            have hKz : (W.setCell ⟨w.heap.size, 0, none⟩ (.int .i64 (rCnt st.fs : Int))).heap[D]? = some (.deferred (some [])) := (Below.heap_setCell _ _ _ _ (by show D ≠ w.heap.size; have := hn6.lt; omega)).trans hKD.out
            have hHK := Lib.hid hKz
            clear hKz hKD
            have hn1 := hn6.lt
            have g1 : ((rCnt st.fs : Int) == (rCnt st.fs : Int)) = true := by simp
            have g2 : ((rCnt stz.fs : Int) == 0) = true := by rw [hz0]; rfl
            clear hz0
            have g3 : IntKind.i64.wrap 0 = 0 := by rfl
            rcases hst with hst | hst
            · have d1 : decide (stop < 1) = true := decide_eq_true hst
              go_wp2_with fail
              generalize W.setCell ⟨w.heap.size, 0, none⟩ (.int .i64 (rCnt st.fs : Int)) = Wz at hWz hnz hrz hRzz hF0z hHK ⊢
              refine (PutI_nil Wz 1 1).mono ?_
              rintro e W3 ⟨rfl, hF3⟩
              simp only [outVI]
              go_wp2_with fail
              refine (GetI_nil _ 1).mono ?_
              rintro e W4 ⟨rfl, rfl⟩
              have hFq : Fr (fun _ => False) Wz (W3.alloc (.cells #[.int .i64 0, .int .i64 0, .bool false] 27)) := hF3.alloc _
              have e1 := (hnz.fr hFq (fun h => h)).cell 0
              have e2 := (hWz.fr hFq (fun h => h)).cell 0
              have e3 := (hrz.fr hFq (fun h => h)).cell 0
              have p1 : ∀ n : Nat, Calls Try.prog 12 #[.pointer (some ⟨rb, 0, none⟩)] ((W3.alloc (.cells #[.int .i64 0, .int .i64 0, .bool false] 27)).drewN n) fun e w' => e = .returned (.int .i64 (rCnt stz.fs)) ∧ w' = (W3.alloc (.cells #[.int .i64 0, .int .i64 0, .bool false] 27)).drewN n := fun n => by
                have hFn : Fr (fun _ => False) Wz ((W3.alloc (.cells #[.int .i64 0, .int .i64 0, .bool false] 27)).drewN n) := hFq.trans ⟨rfl, rfl, rfl, Nat.le_refl _, fun _ _ _ => rfl⟩ (fun _ _ h => h)
                exact (LenI_calls _ rb fb mb bs' stz (hRzz.keep hFn (fun _ _ h => h))).mono fun _ _ ⟨h1, h2⟩ => ⟨h1, h2.symm⟩
              go_wp2_with fail
              go_quiet ((first | (go_at_call 12; with_reducible exact Calls.quiet_of_same (p1 _)) | (go_at_call 12; with_reducible exact Calls.quiet_of_same (LenI_nil _)) | (go_at_call 13; with_reducible exact Calls.quiet_of_same (PinI_nil _ 1)) | (go_at_call 33; with_reducible exact Calls.quiet_of_same (LetI_nil _ 1)) | (go_at_call 14; with_reducible exact Calls.quiet_of_same (PinsI_nil _ 1))))
              go_wp2_with fail
              have hKE : ((W3.alloc (.cells #[.int .i64 0, .int .i64 0, .bool false] 27)).drewN nq).heap[D]? = some (.deferred (some [])) := (hFq.block D (Array.getElem?_eq_some_iff.1 hHK.out).1 (fun h => h)).trans hHK.out
              have hFn : Fr (fun _ => False) (W3.alloc (.cells #[.int .i64 0, .int .i64 0, .bool false] 27)) ((W3.alloc (.cells #[.int .i64 0, .int .i64 0, .bool false] 27)).drewN nq) := ⟨rfl, rfl, rfl, Nat.le_refl _, fun _ _ _ => rfl⟩
              have hBE : Below w.heap.size w ((W3.alloc (.cells #[.int .i64 0, .int .i64 0, .bool false] 27)).drewN nq) := ((hF0z.trans hFq (fun _ _ h => h)).trans hFn (fun _ _ h => h)).to_below
              refine ⟨by simp, .inl ⟨_, _, rfl, run_takeDeferred hKE, ?_⟩⟩
              exact ⟨_, results_tmp rfl _ _ _, rfl, hBE.trans (belowK_b (w := w) (Nat.le_refl _) _ D _ _ (by omega) hKE rfl rfl)⟩
            · have d1 : decide (stop < 1) = false := decide_eq_false (by omega)
              have d2 : decide ((rCnt st.fs : Int) < stop) = true := decide_eq_true hst
              go_wp2_with fail
              generalize W.setCell ⟨w.heap.size, 0, none⟩ (.int .i64 (rCnt st.fs : Int)) = Wz at hWz hnz hrz hRzz hF0z hHK ⊢
              refine (PutI_nil Wz 1 1).mono ?_
              rintro e W3 ⟨rfl, hF3⟩
              simp only [outVI]
              go_wp2_with fail
              refine (GetI_nil _ 1).mono ?_
              rintro e W4 ⟨rfl, rfl⟩
              have hFq : Fr (fun _ => False) Wz (W3.alloc (.cells #[.int .i64 0, .int .i64 0, .bool false] 27)) := hF3.alloc _
              have e1 := (hnz.fr hFq (fun h => h)).cell 0
              have e2 := (hWz.fr hFq (fun h => h)).cell 0
              have e3 := (hrz.fr hFq (fun h => h)).cell 0
              have p1 : ∀ n : Nat, Calls Try.prog 12 #[.pointer (some ⟨rb, 0, none⟩)] ((W3.alloc (.cells #[.int .i64 0, .int .i64 0, .bool false] 27)).drewN n) fun e w' => e = .returned (.int .i64 (rCnt stz.fs)) ∧ w' = (W3.alloc (.cells #[.int .i64 0, .int .i64 0, .bool false] 27)).drewN n := fun n => by
                have hFn : Fr (fun _ => False) Wz ((W3.alloc (.cells #[.int .i64 0, .int .i64 0, .bool false] 27)).drewN n) := hFq.trans ⟨rfl, rfl, rfl, Nat.le_refl _, fun _ _ _ => rfl⟩ (fun _ _ h => h)
                exact (LenI_calls _ rb fb mb bs' stz (hRzz.keep hFn (fun _ _ h => h))).mono fun _ _ ⟨h1, h2⟩ => ⟨h1, h2.symm⟩
              go_wp2_with fail
              go_quiet ((first | (go_at_call 12; with_reducible exact Calls.quiet_of_same (p1 _)) | (go_at_call 12; with_reducible exact Calls.quiet_of_same (LenI_nil _)) | (go_at_call 13; with_reducible exact Calls.quiet_of_same (PinI_nil _ 1)) | (go_at_call 33; with_reducible exact Calls.quiet_of_same (LetI_nil _ 1)) | (go_at_call 14; with_reducible exact Calls.quiet_of_same (PinsI_nil _ 1))))
              go_wp2_with fail
              have hKE : ((W3.alloc (.cells #[.int .i64 0, .int .i64 0, .bool false] 27)).drewN nq).heap[D]? = some (.deferred (some [])) := (hFq.block D (Array.getElem?_eq_some_iff.1 hHK.out).1 (fun h => h)).trans hHK.out
              have hFn : Fr (fun _ => False) (W3.alloc (.cells #[.int .i64 0, .int .i64 0, .bool false] 27)) ((W3.alloc (.cells #[.int .i64 0, .int .i64 0, .bool false] 27)).drewN nq) := ⟨rfl, rfl, rfl, Nat.le_refl _, fun _ _ _ => rfl⟩
              have hBE : Below w.heap.size w ((W3.alloc (.cells #[.int .i64 0, .int .i64 0, .bool false] 27)).drewN nq) := ((hF0z.trans hFq (fun _ _ h => h)).trans hFn (fun _ _ h => h)).to_below
              refine ⟨by simp, .inl ⟨_, _, rfl, run_takeDeferred hKE, ?_⟩⟩
              exact ⟨_, results_tmp rfl _ _ _, rfl, hBE.trans (belowK_b (w := w) (Nat.le_refl _) _ D _ _ (by omega) hKE rfl rfl)⟩
          case hstop =>
            rintro D c pre W hD hpre ⟨rfl, ⟨⟨bs', hRW, hsub⟩, hF, hn, ho, hr⟩, hps, hp1⟩ hK
            have hcnt := delAll_cnt hInv hpre
            have hF0 : Fr (fun _ => False) w W := hfr.trans hF (fun b hb h => by
              rcases h with h | h
              · have := (HG6.out b h).1; omega
              · omega)
            have hHZ := Lib.hid (fun b hb => HG6.out b (hsub b hb))
            generalize delAll pre st = stz at hcnt hRW
            have hz0 : (rCnt stz.fs : Int) = (rCnt st.fs : Int) - stop := by omega
            have hsle : stop ≤ (rCnt st.fs : Int) := by omega
            have hsge : 1 ≤ stop := by omega
            rw [hps] at hn
            clear hcnt hps hp1 hpre
            have hWz := ho
            have hnz := hn
            have hrz := hr
            have hRzz := hRW
            have hF0z := hF0
            have hHK := Lib.hid hK
            clear hK ho hn hr hRW hF0 hF
            have n0 := hnz.cell 0
            have o0 := hWz.cell 0
            have hn1 := hn6.lt
            have g1 : (stop == stop) = true := by simp
            have g2 : ((rCnt stz.fs : Int) == (rCnt st.fs : Int) - stop) = true := by rw [hz0]; simp
            clear hz0
            have g3 : IntKind.i64.wrap ((rCnt st.fs : Int) - stop) = (rCnt st.fs : Int) - stop := IntWalk.i64_in _ (by omega)
            have d1 : decide (stop < 1) = false := decide_eq_false (by omega)
            have d2 : decide ((rCnt st.fs : Int) < stop) = false := decide_eq_false (by omega)
            refine wpIn_wide.2 ?_
            go_wp2_with fail
            obtain ⟨Wz, rfl⟩ : ∃ Wz : World, Wz = W := ⟨_, rfl⟩
            refine (PutI_nil Wz 1 1).mono ?_
            rintro e W3 ⟨rfl, hF3⟩
            simp only [outVI]
            go_wp2_with fail
            refine (GetI_nil _ 1).mono ?_
            rintro e W4 ⟨rfl, rfl⟩
            have hFq : Fr (fun _ => False) Wz (W3.alloc (.cells #[.int .i64 0, .int .i64 0, .bool false] 27)) := hF3.alloc _
            have e1 := (hnz.fr hFq (fun h => h)).cell 0
            have e2 := (hWz.fr hFq (fun h => h)).cell 0
            have e3 := (hrz.fr hFq (fun h => h)).cell 0
            have p1 : ∀ n : Nat, Calls Try.prog 12 #[.pointer (some ⟨rb, 0, none⟩)] ((W3.alloc (.cells #[.int .i64 0, .int .i64 0, .bool false] 27)).drewN n) fun e w' => e = .returned (.int .i64 (rCnt stz.fs)) ∧ w' = (W3.alloc (.cells #[.int .i64 0, .int .i64 0, .bool false] 27)).drewN n := fun n => by
              have hFn : Fr (fun _ => False) Wz ((W3.alloc (.cells #[.int .i64 0, .int .i64 0, .bool false] 27)).drewN n) := hFq.trans ⟨rfl, rfl, rfl, Nat.le_refl _, fun _ _ _ => rfl⟩ (fun _ _ h => h)
              exact (LenI_calls _ rb fb mb bs' stz (hRzz.keep hFn (fun _ _ h => h))).mono fun _ _ ⟨h1, h2⟩ => ⟨h1, h2.symm⟩
            go_wp2_with fail
            go_quiet ((first | (go_at_call 12; with_reducible exact Calls.quiet_of_same (p1 _)) | (go_at_call 12; with_reducible exact Calls.quiet_of_same (LenI_nil _)) | (go_at_call 13; with_reducible exact Calls.quiet_of_same (PinI_nil _ 1)) | (go_at_call 33; with_reducible exact Calls.quiet_of_same (LetI_nil _ 1)) | (go_at_call 14; with_reducible exact Calls.quiet_of_same (PinsI_nil _ 1))))
            go_wp2_with fail
            have hKE : ((W3.alloc (.cells #[.int .i64 0, .int .i64 0, .bool false] 27)).drewN nq).heap[D]? = some (.deferred (some [])) := (hFq.block D (Array.getElem?_eq_some_iff.1 hHK.out).1 (fun h => h)).trans hHK.out
            have hFn : Fr (fun _ => False) (W3.alloc (.cells #[.int .i64 0, .int .i64 0, .bool false] 27)) ((W3.alloc (.cells #[.int .i64 0, .int .i64 0, .bool false] 27)).drewN nq) := ⟨rfl, rfl, rfl, Nat.le_refl _, fun _ _ _ => rfl⟩
            have hBE : Below w.heap.size w ((W3.alloc (.cells #[.int .i64 0, .int .i64 0, .bool false] 27)).drewN nq) := ((hF0z.trans hFq (fun _ _ h => h)).trans hFn (fun _ _ h => h)).to_below
            refine ⟨by simp, .inl ⟨_, _, rfl, run_takeDeferred hKE, ?_⟩⟩
            exact ⟨_, results_tmp rfl _ _ _, rfl, hBE.trans (belowK_b (w := w) (Nat.le_refl _) _ D _ _ (by omega) hKE rfl rfl)⟩

end Go.Proofs.Ytbiaompkmabfjaa
