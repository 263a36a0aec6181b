/- RingExact: the walk. -/
import Derived.Test.YtbiaompkmabfjaaRingExactL
import Derived.Deep.RegionHeld3

namespace Go.Proofs.Ytbiaompkmabfjaa
open Go.Maps Go.RowKit Go.Shelf

attribute [local go_sem] Oper.semAt_some

set_option maxRecDepth 100000 in
set_option maxHeartbeats 8000000 in
theorem exact_calls (frames : Int) (A : Option Addr) (n c : Nat) (w : World) (_h0 : in64 frames) (_hn : n ≤ maxLen) (hA : CellsAt w w.heap.size 3 A n okActE) :
    Calls Try.prog 6 #[.int .i64 frames, .slice A n c] w fun e w' => e = .returned (.bool true) ∧ Below w.heap.size w w' := by
  refine callsIn_wide.1 (callsIn_of_wp_marks (n := 9) Try.func6 rfl trivial ?_ rfl)
  simp only [Try.ntmps6, List.size_toArray, List.length_cons, List.length_nil, Nat.reduceAdd, Nat.reduceSub, Array.replicate_succ, Array.replicate_zero, List.push_toArray, List.append_toArray, List.nil_append, List.cons_append]
  refine wpIn_wide.2 ?_
  go_wp2_with fail
  refine (awake_calls _).mono ?_
  rintro e w1 ⟨rfl, hF1⟩
  have ho1 : Blk w1 w.heap.size 4 [.bool false] := (Blk.new w 4 [.bool false]).fr hF1 (fun h => h)
  have hF1' : Fr (fun _ => False) w w1 := ((Fr.refl _ w).alloc _).trans hF1 (fun _ _ h => h)
  clear hF1
  go_wp2_with fail
  refine (HasS.new_ frames _h0 w w1 (fun b => b = w.heap.size) (fun b hb => by subst hb; exact ho1.lt) hF1').mono ?_
  rintro e w2 ⟨rb, fb, mb, rfl, hH2, hF2⟩
  have ho2 := ho1.fr hF2 (fun h => h)
  clear ho1 hF2 hF1'
  go_wp2_with fail
  refine (refNew_calls frames _h0 w2).mono ?_
  rintro e w3 ⟨ub, lb, rfl, hub, hlb, hR3, hF3⟩
  have hE : EM w (fun _ => False) w.heap.size rb fb mb ub lb ⟨List.replicate (newN frames) none, 0⟩ ⟨List.replicate (newN frames) none, 0⟩ 0 w3 := by
    have hl := hR3.lts
    have hs := hH2.fr.size
    refine ⟨(hH2.grow hF3).sub (fun b hb => ?_), hR3, ho2.fr hF3 (fun h => h), ⟨Nat.le_refl _, by omega, by omega⟩, fun _ h => h.elim⟩
    rcases hb with rfl | rfl | rfl | hb
    · exact .inl rfl
    · exact .inr ⟨hub, hl.1⟩
    · exact .inr ⟨hlb, hl.2⟩
    · exact hb.elim
  clear ho2 hF3 hR3 hub hlb hH2
  generalize List.replicate (newN frames) none = fs0 at hE
  obtain ⟨st0, hst0⟩ : ∃ st0 : RS ByteArray, st0 = ⟨fs0, 0⟩ := ⟨_, rfl⟩
  rw [← hst0] at hE
  clear hst0 fs0
  obtain ⟨ob, hob⟩ : ∃ ob, ob = w.heap.size := ⟨_, rfl⟩
  rw [← hob] at hE ⊢
  go_wp2_with fail
  go_loopg [7] 200 (fun g i wr => ∃ (k : Nat) (st : RS ByteArray), i = .int .i64 k ∧ k ≤ 200 ∧ g = 200 - k ∧ EM w (fun _ => False) ob rb fb mb ub lb st st k wr)
  case atStart => exact ⟨0, _, rfl, by omega, by omega, hE⟩
  case round =>
    obtain ⟨k, st, rfl, hk2, rfl, hM0⟩ := hrel
    by_cases hlt : k < n
    · by_cases hlt2 : k < 200
      · have hz1 : (k : Int) < (n : Int) := by omega
        have hz2 : (k : Int) < 200 := by omega
        obtain ⟨ab, ao, rfl, hab, hcells⟩ := hA k hlt
        obtain ⟨y0, i0, c0⟩ := hcells 0 (by omega)
        obtain ⟨y1, i1, c1⟩ := hcells 1 (by omega)
        obtain ⟨y2, i2, c2⟩ := hcells 2 (by omega)
        obtain ⟨kd, rfl, _⟩ := i0
        obtain ⟨kk, rfl, hkk⟩ := i1
        obtain ⟨sv, rfl, hsv⟩ := i2
        have hbl := hM0.has.fr
        have d0 := (hbl.cell (p := ⟨ab, _, none⟩) hab (fun h => h)).trans c0
        have d1 := (hbl.cell (p := ⟨ab, _, none⟩) hab (fun h => h)).trans c1
        have d2 := (hbl.cell (p := ⟨ab, _, none⟩) hab (fun h => h)).trans c2
        rw [Nat.add_zero] at d0
        have hM := hM0.alloc (.cells #[.int .i64 kd, .int .i64 kk, .string sv] 44)
        have hX : XAct (wr.alloc (.cells #[.int .i64 kd, .int .i64 kk, .string sv] 44)) wr.heap.size kd kk sv := Blk.new wr 44 [.int .i64 kd, .int .i64 kk, .string sv]
        have hxo : wr.heap.size ≠ ob := by have := hM0.o.lt; omega
        have hxu : wr.heap.size ≠ ub := by have := hM0.ref.lts.1; omega
        have hxl : wr.heap.size ≠ lb := by have := hM0.ref.lts.2; omega
        clear hcells c0 c1 c2
        go_upto_block 2 with (fail)
        clear d0 d1 d2
        generalize wr.alloc (.cells #[.int .i64 kd, .int .i64 kk, .string sv] 44) = wa at hM hX ⊢
        have x0 := hX.cell 0
        have x1 := hX.cell 1
        have x2 := hX.cell 2
        have hI := hM.has.inv
        have hn64 := hI.n64
        have hI' := hI.top (b := (k : Int) + 1) (by omega)
        go_cut [9, 10, 11, 12, 13, 14, 15, 16] from 28 to 155 (fun v9 v10 v11 v12 _ _ _ _ wx => ∃ (st' : RS ByteArray) (tv : ByteArray) (ok : Bool), v9 = .string tv ∧ v10 = .string tv ∧ v11 = .bool ok ∧ v12 = .bool ok ∧ EM w (fun b => False ∨ b = wr.heap.size) ob rb fb mb ub lb st' st' ((k : Int) + 1) wx ∧ wx.cell? ⟨wr.heap.size, 1, none⟩ = some (.int .i64 kk))
        case first =>
          by_cases hk1 : kd = 1
          · subst hk1
            as_aux_lemma =>
              obtain ⟨⟨o, ok, st'⟩, hpo⟩ : ∃ x, x = rPut kk sv st := ⟨_, rfl⟩
              have hRP := Lib.hid (fun (W : World) (hR : IsRef W ub lb st) => refPut_calls W ub lb st hR hI kk sv)
              rw [← hpo] at hRP
              go_wp2_with fail
              refine (hM.has.put (by omega) kk hkk sv (hpo.symm.trans rfl)).mono ?_
              rintro e w4 ⟨rfl, hH4, hF4⟩
              have hE4 := hM.ring hH4 hF4
              have hX4 : XAct w4 wr.heap.size 1 kk sv := hX.fr hF4 (fun h => h (.inr (.inr (.inr (.inr (.inr rfl))))))
              clear hH4 hF4 hpo x0 x1 x2
              cases o with
              | none =>
                as_aux_lemma =>
                  simp only [outVS]
                  have hE4' := hE4.alloc (.cells #[.int .i64 0, .string { data := #[] }, .bool false] 46)
                  have hX4' := Blk.alloc hX4 (.cells #[.int .i64 0, .string { data := #[] }, .bool false] 46)
                  have hB4 := Blk.new w4 46 [.int .i64 0, .string { data := #[] }, .bool false]
                  have x1 := hX4'.cell 1
                  have x2 := hX4'.cell 2
                  have hbu : w4.heap.size ≠ ub := by have := hE4.ref.lts.1; omega
                  have hbl : w4.heap.size ≠ lb := by have := hE4.ref.lts.2; omega
                  have hRP := hRP.out _ hE4'.ref
                  clear hX4 hE4
                  go_wp2_with fail
                  refine hRP.mono ?_
                  clear hRP
                  rintro e w5 ⟨rfl, hR5, hF5⟩
                  have hE5 := hE4'.refs hR5 (hF5.mono (fun b _ h => h))
                  have hX5 : XAct w5 wr.heap.size 1 kk sv := hX4'.fr hF5 (fun h => by rcases h with e | e; exact hxl e; exact hxu e)
                  have hB5 := hB4.fr hF5 (fun h => by rcases h with e | e; exact hbl e; exact hbu e)
                  have o0 := hB5.cell 0
                  have o1 := hB5.cell 1
                  have o2 := hB5.cell 2
                  have x1 := hX5.cell 1
                  have x2 := hX5.cell 2
                  have hbn : w4.heap.size < w5.heap.size := hB5.lt
                  clear hR5 hF5 hE4' hX4' hB4 hB5
                  have hMz := hE5.alloc (.cells #[.bool false, .int .i64 0, .string { data := #[] }, .int .i64 0, .bool false] 55)
                  have hXz := Blk.alloc hX5 (.cells #[.bool false, .int .i64 0, .string { data := #[] }, .int .i64 0, .bool false] 55)
                  simp only [frameV, refCells]
                  have b1 := bytes_bne_self { data := #[] }
                  go_wp2_with fail
                  go_meet
                  exact ⟨_, _, _, rfl, rfl, rfl, rfl, (hMz.sub (fun _ h => .inl (.inl h))).tops (by omega), hXz.cell 1⟩
              | some f =>
                as_aux_lemma =>
                  simp only [outVS]
                  have hE4' := hE4.alloc (.cells #[.int .i64 f.key, .string f.val, .bool true] 46)
                  have hX4' := Blk.alloc hX4 (.cells #[.int .i64 f.key, .string f.val, .bool true] 46)
                  have hB4 := Blk.new w4 46 [.int .i64 f.key, .string f.val, .bool true]
                  have x1 := hX4'.cell 1
                  have x2 := hX4'.cell 2
                  have hbu : w4.heap.size ≠ ub := by have := hE4.ref.lts.1; omega
                  have hbl : w4.heap.size ≠ lb := by have := hE4.ref.lts.2; omega
                  have hRP := hRP.out _ hE4'.ref
                  clear hX4 hE4
                  go_wp2_with fail
                  refine hRP.mono ?_
                  clear hRP
                  rintro e w5 ⟨rfl, hR5, hF5⟩
                  have hE5 := hE4'.refs hR5 (hF5.mono (fun b _ h => h))
                  have hX5 : XAct w5 wr.heap.size 1 kk sv := hX4'.fr hF5 (fun h => by rcases h with e | e; exact hxl e; exact hxu e)
                  have hB5 := hB4.fr hF5 (fun h => by rcases h with e | e; exact hbl e; exact hbu e)
                  have o0 := hB5.cell 0
                  have o1 := hB5.cell 1
                  have o2 := hB5.cell 2
                  have x1 := hX5.cell 1
                  have x2 := hX5.cell 2
                  have hbn : w4.heap.size < w5.heap.size := hB5.lt
                  clear hR5 hF5 hE4' hX4' hB4 hB5
                  have hMz := hE5.alloc (.cells #[.bool true, .int .i64 f.key, .string f.val, .int .i64 f.pins, .bool f.fresh] 55)
                  have hXz := Blk.alloc hX5 (.cells #[.bool true, .int .i64 f.key, .string f.val, .int .i64 f.pins, .bool f.fresh] 55)
                  simp only [frameV, refCells]
                  have b1 := bytes_bne_self f.val
                  have b2 : (f.key != f.key) = false := by simp
                  go_wp2_with fail
                  go_meet
                  exact ⟨_, _, _, rfl, rfl, rfl, rfl, (hMz.sub (fun _ h => .inl (.inl h))).tops (by omega), hXz.cell 1⟩
          · have hk1' : (kd == 1) = false := by simpa using hk1
            clear hk1
            by_cases hk2 : kd = 2
            · subst hk2
              as_aux_lemma =>
                obtain ⟨⟨o, st'⟩, hpo⟩ : ∃ x, x = rGet kk st := ⟨_, rfl⟩
                go_wp2_with fail
                refine (hM.has.get kk hkk (hpo.symm.trans rfl)).mono ?_
                rintro e w4 ⟨rfl, hH4, hF4⟩
                have hE4 := hM.ring hH4 hF4
                have hX4 : XAct w4 wr.heap.size 2 kk sv := hX.fr hF4 (fun h => h (.inr (.inr (.inr (.inr (.inr rfl))))))
                have x1 := hX4.cell 1
                have x2 := hX4.cell 2
                clear hH4 hF4
                go_wp2_with fail
                refine (refGet_calls w4 ub lb st hE4.ref hn64 kk).mono ?_
                rw [← hpo]
                rintro e w5 ⟨rfl, hR5, hF5⟩
                have hE5 := hE4.refs hR5 (hF5.mono (fun b _ h => .inl h))
                have hX5 : XAct w5 wr.heap.size 2 kk sv := hX4.fr hF5 (fun h => hxl h)
                have x1 := hX5.cell 1
                have x2 := hX5.cell 2
                clear hR5 hF5 hE4 hX4
                clear hpo
                obtain ⟨tv, ht⟩ : ∃ tv, valOS o = .string tv := by cases o <;> exact ⟨_, rfl⟩
                rw [ht]
                generalize o.isSome = ok
                clear ht
                go_wp2_with fail
                go_meet
                exact ⟨_, _, _, rfl, rfl, rfl, rfl, hE5.tops (by omega), x1⟩
            · have hk2' : (kd == 2) = false := by simpa using hk2
              clear hk2
              by_cases hk3 : kd = 3
              · subst hk3
                as_aux_lemma =>
                  obtain ⟨⟨o, st'⟩, hpo⟩ : ∃ x, x = rDel kk st := ⟨_, rfl⟩
                  go_wp2_with fail
                  refine (hM.has.del kk hkk (hpo.symm.trans rfl)).mono ?_
                  rintro e w4 ⟨rfl, hH4, hF4⟩
                  have hE4 := hM.ring hH4 hF4
                  have hX4 : XAct w4 wr.heap.size 3 kk sv := hX.fr hF4 (fun h => h (.inr (.inr (.inr (.inr (.inr rfl))))))
                  have x1 := hX4.cell 1
                  have x2 := hX4.cell 2
                  clear hH4 hF4
                  go_wp2_with fail
                  refine (refDel_calls w4 ub lb st hE4.ref hn64 kk).mono ?_
                  rw [← hpo]
                  rintro e w5 ⟨rfl, hR5, hF5⟩
                  have hE5 := hE4.refs hR5 (hF5.mono (fun b _ h => .inl h))
                  have hX5 : XAct w5 wr.heap.size 3 kk sv := hX4.fr hF5 (fun h => hxl h)
                  have x1 := hX5.cell 1
                  have x2 := hX5.cell 2
                  clear hR5 hF5 hE4 hX4
                  clear hpo
                  obtain ⟨tv, ht⟩ : ∃ tv, valOS o = .string tv := by cases o <;> exact ⟨_, rfl⟩
                  rw [ht]
                  generalize o.isSome = ok
                  clear ht
                  go_wp2_with fail
                  go_meet
                  exact ⟨_, _, _, rfl, rfl, rfl, rfl, hE5.tops (by omega), x1⟩
              · have hk3' : (kd == 3) = false := by simpa using hk3
                clear hk3
                by_cases hk4 : kd = 4
                · subst hk4
                  as_aux_lemma =>
                    obtain ⟨⟨o, st'⟩, hpo⟩ : ∃ x, x = rPin kk st := ⟨_, rfl⟩
                    go_wp2_with fail
                    refine (hM.has.pin (by omega) kk hkk (hpo.symm.trans rfl)).mono ?_
                    rintro e w4 ⟨rfl, hH4, hF4⟩
                    have hE4 := hM.ring hH4 hF4
                    have hX4 : XAct w4 wr.heap.size 4 kk sv := hX.fr hF4 (fun h => h (.inr (.inr (.inr (.inr (.inr rfl))))))
                    have x1 := hX4.cell 1
                    have x2 := hX4.cell 2
                    clear hH4 hF4
                    go_wp2_with fail
                    refine (refPin_calls w4 ub lb st hE4.ref hI (by omega) kk 1 (by omega) (by omega)).mono ?_
                    rw [rPinBy_one kk hI, ← hpo]
                    rintro e w5 ⟨rfl, hR5, hF5⟩
                    have hE5 := hE4.refs hR5 (hF5.mono (fun b _ h => .inl h))
                    have hX5 : XAct w5 wr.heap.size 4 kk sv := hX4.fr hF5 (fun h => hxl h)
                    have x1 := hX5.cell 1
                    have x2 := hX5.cell 2
                    clear hR5 hF5 hE4 hX4
                    clear hpo
                    go_wp2_with fail
                    go_meet
                    exact ⟨_, _, _, rfl, rfl, rfl, rfl, hE5.tops (by omega), x1⟩
                · have hk4' : (kd == 4) = false := by simpa using hk4
                  clear hk4
                  by_cases hk5 : kd = 5
                  · subst hk5
                    as_aux_lemma =>
                      obtain ⟨⟨o, st'⟩, hpo⟩ : ∃ x, x = rLet kk st := ⟨_, rfl⟩
                      go_wp2_with fail
                      refine (hM.has.let_ (by omega) kk hkk (hpo.symm.trans rfl)).mono ?_
                      rintro e w4 ⟨rfl, hH4, hF4⟩
                      have hE4 := hM.ring hH4 hF4
                      have hX4 : XAct w4 wr.heap.size 5 kk sv := hX.fr hF4 (fun h => h (.inr (.inr (.inr (.inr (.inr rfl))))))
                      have x1 := hX4.cell 1
                      have x2 := hX4.cell 2
                      clear hH4 hF4
                      go_wp2_with fail
                      refine (refPin_calls w4 ub lb st hE4.ref hI (by omega) kk (-1) (by omega) (by omega)).mono ?_
                      rw [rPinBy_let kk hI, ← hpo]
                      rintro e w5 ⟨rfl, hR5, hF5⟩
                      have hE5 := hE4.refs hR5 (hF5.mono (fun b _ h => .inl h))
                      have hX5 : XAct w5 wr.heap.size 5 kk sv := hX4.fr hF5 (fun h => hxl h)
                      have x1 := hX5.cell 1
                      have x2 := hX5.cell 2
                      clear hR5 hF5 hE4 hX4
                      clear hpo
                      go_wp2_with fail
                      go_meet
                      exact ⟨_, _, _, rfl, rfl, rfl, rfl, hE5.tops (by omega), x1⟩
                  · have hk5' : (kd == 5) = false := by simpa using hk5
                    clear hk5
                    as_aux_lemma =>
                      go_wp2_with fail
                      go_meet
                      exact ⟨_, _, _, rfl, rfl, rfl, rfl, hM.tops (by omega), x1⟩
        case rest =>
          as_aux_lemma =>
            obtain ⟨st', tv, ok, rfl, rfl, rfl, rfl, hMz, hx⟩ := hcut
            have hI9 := hMz.has.inv
            have hp1 : ∀ n : Nat, Calls Try.prog 27 #[.pointer (some ⟨rb, 0, none⟩), .int .i64 kk] (wc.drewN n) fun e w' => e = .returned (.int .i64 (rPins kk st')) ∧ w' = wc.drewN n := fun n => ((hMz.drewN n).has.pins kk hkk).mono fun _ _ ⟨h1, h2⟩ => ⟨h1, h2.symm⟩
            have hp2 : ∀ n : Nat, Calls Try.prog 28 #[.pointer (some ⟨ub, 0, none⟩), .int .i64 kk] (wc.drewN n) fun e w' => e = .returned (.int .i64 (rPins kk st')) ∧ w' = wc.drewN n := fun n => (refPins_calls (wc.drewN n) ub lb st' (hMz.drewN n).ref hI9.n64 kk).mono fun _ _ ⟨h1, h2⟩ => ⟨h1, h2.symm⟩
            have b1 := bytes_bne_self tv
            have b2 : (ok != ok) = false := by cases ok <;> rfl
            have b3 : (rPins kk st' != rPins kk st') = false := by simp
            generalize rPins kk st' = pv at hp1 hp2 b3
            go_wp2_with fail
            go_quiet ((first | (go_at_call 27; exact Calls.quiet_of_same (hp1 _)) | (go_at_call 28; exact Calls.quiet_of_same (hp2 _))))
            have hMy := (hMz.drewN nq).sub (Z := fun _ => False) (fun _ h => h.elim)
            go_wp2_with fail
            go_roundg (200 - (k + 1))
            case measure => omega
            case rel => exact ⟨k + 1, st', rfl, by omega, rfl, hMy⟩
      · have hz1 : (k : Int) < (n : Int) := by omega
        have hz2 : ¬ k < n ∨ ¬ k < 200 := by omega
        have hz3 : ¬ (k : Int) < 200 := by omega
        as_aux_lemma =>
          subst hob
          have hb0 := Blk.new wr 39 [.pointer (some ⟨rb, 0, none⟩)]
          have hE1 := hM0.alloc (.cells #[.pointer (some ⟨rb, 0, none⟩)] 39)
          have hI1 := hE1.has.inv
          have hn64 := hI1.n64
          have hcle := rCnt_le st.fs
          have hnf : ∀ (b : Nat) (W : World), Sem.run Try.prog (Go.binOp BinOp.eql 59 (.func (.func 45) #[] #[.pointer (some ⟨b, 0, none⟩)]) Value.nilFunc) W = .ok (.bool false) W := fun _ _ => by kernel_rfl
          go_wp2_with fail
          refine (AllS_calls rb wr).mono ?_
          rintro e w4 ⟨rfl, rfl⟩
          go_wp2_with fail
          refine (refAll_calls _ ub lb st hE1.ref hn64).mono ?_
          rintro e w5 ⟨v, rfl, hrow, hR5, hF5⟩
          obtain ⟨A', cap, rfl, hrows⟩ := row_open hrow
          have hE6 := ((hE1.quiet hF5).alloc (.cells #[.slice A' (rCnt st.fs) cap] 61)).alloc (.cells #[.int .i64 0] 3)
          have hb6 := ((hb0.fr hF5 (fun h => h)).alloc (.cells #[.slice A' (rCnt st.fs) cap] 61)).alloc (.cells #[.int .i64 0] 3)
          have hl6 := (Blk.new w5 61 [.slice A' (rCnt st.fs) cap]).alloc (.cells #[.int .i64 0] 3)
          have hn6 := Blk.new (w5.alloc (.cells #[.slice A' (rCnt st.fs) cap] 61)) 3 [.int .i64 0]
          have hobs : w.heap.size < wr.heap.size := hM0.o.lt
          have hs5 : wr.heap.size + 1 ≤ w5.heap.size := by have := hF5.size; simp only [World.size_alloc] at this; exact this
          have hgF : ∀ (i : Nat) (f : Fm ByteArray), (rAll st.fs)[i]? = some f → ∃ g, A' = some ⟨g, 0, none⟩ ∧ wr.heap.size < g ∧ g < w5.heap.size ∧ ∀ w' : World, w'.heap[g]? = ((w5.alloc (.cells #[.slice A' (rCnt st.fs) cap] 61)).alloc (.cells #[.int .i64 0] 3)).heap[g]? → w'.cell? ⟨g, i * 5 + 1, none⟩ = some (.int .i64 f.key) ∧ w'.cell? ⟨g, i * 5 + 2, none⟩ = some (.string f.val) := by
            intro i f hi
            obtain ⟨g, e1, e2, e3, e4⟩ := hrows i f hi
            rw [World.size_alloc] at e2
            refine ⟨g, e1, by omega, e3, fun w' hw' => e4 w' (hw'.trans ?_)⟩
            rw [Below.heap_alloc _ _ _ (by rw [World.size_alloc]; omega), Below.heap_alloc _ _ _ e3]
          have hHF := Lib.hid hgF
          clear hrows hrow hgF
          have hkey := Lib.hid hI1.key
          have hsb : w.heap.size < wr.heap.size := hobs
          have hlow := hM0.lo.1
          have hfrw := hM0.has.fr.size
          go_wp2_with fail
          obtain ⟨w6, hw6⟩ : ∃ w6, w6 = (w5.alloc (.cells #[.slice A' (rCnt st.fs) cap] 61)).alloc (.cells #[.int .i64 0] 3) := ⟨_, rfl⟩
          have hs6 : w6.heap.size = w5.heap.size + 2 := by rw [hw6]; simp
          rw [World.size_alloc] at hn6 hE6
          rw [← hw6] at hE6 hb6 hl6 hn6 hHF ⊢
          clear hw6 hR5 hF5 hE1 hM0 hb0
          obtain ⟨bs, hRing, hInv, _, _⟩ := id hE6.has
          refine (wpIn_wide (n := 9)).1 ?_
          apply wpIn_rangeFunc_ownG (F := Fence.wide) (n := 9) rfl (by omega) (gf := 45) (lb := #[.pointer (some ⟨wr.heap.size, 0, none⟩)]) rfl trivial (enters_of Try.func45 (by kernel_rfl) rfl)
            (AllS_stops 8 (by omega) wr.heap.size rb fb mb bs st _ w6 (hb6.cell 0) hRing hInv) keepC_t keepC_b (Below.refl _ _) (fun _ => rfl)
            (fun pre W => Fr (fun b => b = (w5.heap.size + 1) ∨ b = w.heap.size) w6 W ∧ Blk W (w5.heap.size + 1) 3 [.int .i64 (pre.length : Int)] ∧ Blk W w.heap.size 4 [.bool false])
            (fun c pre _ => c = .ret ∧ ¬ pre <+: rAll st.fs) ?hI ?hIx ?h0 _
          case hassign =>
            intro l x W K hK
            unfold comeS
            gi_wp2
            exact hK
          case hI =>
            rintro pre W W' row ⟨h1, h2, h3⟩ hg hr
            have n1 : (w5.heap.size + 1) < w6.heap.size := hn6.lt
            have n2 : w.heap.size < w6.heap.size := hE6.o.lt
            refine ⟨h1.grown hg (fun b hb => .inr (hr b hb).1), h2.same (hg.block _ h2.lt (fun e => ?_)), h3.same (hg.block _ h3.lt (fun e => ?_))⟩
            · have := (hr _ e.symm).1; omega
            · have := (hr _ e.symm).1; omega
          case hIx => exact fun _ _ _ _ _ hs _ _ => hs
          case h0 => exact ⟨Fr.refl _ _, hn6, hE6.o⟩
          case hbody =>
            rintro l pre x W ⟨hF, hn, ho⟩ hlen
            have hlt : pre.length < rCnt st.fs := by rwa [rAll_len] at hlen
            have hy : (rAll st.fs)[pre.length]? = some (rAll st.fs)[pre.length] := List.getElem?_eq_getElem hlen
            have hmem := List.getElem_mem hlen
            generalize (rAll st.fs)[pre.length] = y at hy hmem
            obtain ⟨g, rfl, g1, g2, g3⟩ := hHF.out _ y hy
            have hno : pre ++ [x] <+: rAll st.fs → y = x := by
              rintro ⟨t, ht⟩
              rw [← ht] at hy
              simpa using hy.symm
            have hyk : in64 y.key := by
              obtain ⟨j, hj⟩ := List.mem_iff_getElem?.1 (mem_rAll.1 hmem)
              exact hkey.out j _ hj
            have hNO := Lib.hid hno
            have hYK := Lib.hid (kclip_eq hyk)
            have hW6 := hF.size
            have hWg : W.heap[g]? = w6.heap[g]? := hF.block g (by omega) (fun e => by rcases e with e | e <;> omega)
            obtain ⟨a1, a2⟩ := g3 W hWg
            have l0 := (hl6.fr hF (fun e => by rcases e with e | e <;> omega)).cell 0
            have n0 := hn.cell 0
            have nf := hn.frozen 0
            have o0 := ho.cell 0
            have of := ho.frozen 0
            have hsn := hn.set_ 0 (.int .i64 ((pre.length : Int) + 1))
            have hon := ho.far (p := ⟨w5.heap.size + 1, 0, none⟩) (by show w.heap.size ≠ (w5.heap.size + 1); omega) (.int .i64 ((pre.length : Int) + 1))
            clear hno hyk hmem hy g3 hWg
            have n64 : pre.length < 64 := by omega
            have d1 : decide ((rCnt st.fs : Int) ≤ (pre.length : Int)) = false := decide_eq_false (by omega)
            have d2 : (pre.length : Int) < (rCnt st.fs : Int) := by omega
            cases hk : (y.key != kclip x.key) with
            | true =>
              gi_wp2
              refine ⟨KeepsFrom.of_grownBy (grownBy_setCell' W w.heap.size _) (fun j e => by cases e; omega), rfl, fun hp => ?_⟩
              obtain rfl := hNO.out hp
              rw [hYK.out] at hk
              simp at hk
            | false =>
              cases hv : (y.val.toList == x.val.toList) with
              | false =>
                gi_wp2
                refine ⟨KeepsFrom.of_grownBy (grownBy_setCell' W w.heap.size _) (fun j e => by cases e; omega), rfl, fun hp => ?_⟩
                obtain rfl := hNO.out hp
                simp at hv
              | true =>
                gi_wp2
                refine ⟨KeepsFrom.of_grownBy (grownBy_setCell' W (w5.heap.size + 1) _) (fun j e => by cases e; omega), KeepC.of_fr ((Fr.refl (fun b => b = (w5.heap.size + 1)) W).setCell (p := ⟨w5.heap.size + 1, 0, none⟩) (.inl rfl) _) (fun b hb => by omega), hF.setCell (p := ⟨w5.heap.size + 1, 0, none⟩) (.inl (.inl rfl)) _, ?_, hon⟩
                rw [List.length_append]
                exact hsn
          case hdone =>
            rintro D xs W hD rfl ⟨hF, hn, ho⟩ hK
            rw [rAll_len] at hn
            have hW6 := hF.size
            have l0 := (hl6.fr hF (fun e => by rcases e with e | e <;> omega)).cell 0
            have n0 := hn.cell 0
            have o0 := ho.cell 0
            have of := ho.frozen 0
            have hH := hE6.has.far hF (fun b hb => by
              rcases hb with rfl | rfl
              · exact ⟨.inr (.inr (.inr (.inr rfl))), by omega⟩
              · exact ⟨.inl rfl, by omega⟩)
            have hq : Calls Try.prog 21 #[.pointer (some ⟨rb, 0, none⟩)] W.drew fun e w' => e = .returned (.int .i64 (rCnt st.fs)) ∧ w' = W.drew := hH.drew.len.mono fun _ _ ⟨h1, h2⟩ => ⟨h1, h2.symm⟩
            have b1 : ((rCnt st.fs : Int) == (rCnt st.fs : Int)) = true := by simp
            have HB := hH.below
            go_wp2_with fail
            go_still_tail 10, (by kernel_rfl)
            still_call (hq)
            repeat still_step
            refine wpStill_nil ?_
            go_wp2_with fail
            have hK' : (W.setCell ⟨w.heap.size, 0, none⟩ (.bool true)).drew.heap[D]? = some (.deferred (some [])) := (KeepsOthers.setCell W ⟨w.heap.size, 0, none⟩ (.bool true)).same D _ hK rfl
            have hc4 : (W.setCell ⟨w.heap.size, 0, none⟩ (.bool true)).drew.cell? ⟨w.heap.size, 0, none⟩ = some (.bool true) := World.cell?_setCell_same' W ⟨w.heap.size, 0, none⟩ (.bool true) (by rw [o0]; rfl)
            have hc5 := cell_kept hc4 (grownBy_putObj' _ D (.deferred none)) (fun r e => by cases e; exact ⟨_, hK', rfl⟩)
            refine ⟨by simp, .inl ⟨_, _, rfl, run_takeDeferred hK', ?_⟩⟩
            refine ⟨.bool true, ?_, rfl, (HB.setCell (p := ⟨w.heap.size, 0, none⟩) (Nat.le_refl _) _).drew.trans (belowK_b (w := w) (Nat.le_refl _) _ D _ _ (by omega) hK' rfl rfl)⟩
            simp [results, Try.f6, go_sem, hc5]
          case hstop =>
            rintro D c pre W hD hpre ⟨_, hno⟩ hK
            exact absurd hpre hno
    · have hz1 : ¬ (k : Int) < (n : Int) := by omega
      have hz2 : ¬ k < n ∨ ¬ k < 200 := by omega
      as_aux_lemma =>
        subst hob
        have hb0 := Blk.new wr 39 [.pointer (some ⟨rb, 0, none⟩)]
        have hE1 := hM0.alloc (.cells #[.pointer (some ⟨rb, 0, none⟩)] 39)
        have hI1 := hE1.has.inv
        have hn64 := hI1.n64
        have hcle := rCnt_le st.fs
        have hnf : ∀ (b : Nat) (W : World), Sem.run Try.prog (Go.binOp BinOp.eql 59 (.func (.func 45) #[] #[.pointer (some ⟨b, 0, none⟩)]) Value.nilFunc) W = .ok (.bool false) W := fun _ _ => by kernel_rfl
        go_wp2_with fail
        refine (AllS_calls rb wr).mono ?_
        rintro e w4 ⟨rfl, rfl⟩
        go_wp2_with fail
        refine (refAll_calls _ ub lb st hE1.ref hn64).mono ?_
        rintro e w5 ⟨v, rfl, hrow, hR5, hF5⟩
        obtain ⟨A', cap, rfl, hrows⟩ := row_open hrow
        have hE6 := ((hE1.quiet hF5).alloc (.cells #[.slice A' (rCnt st.fs) cap] 61)).alloc (.cells #[.int .i64 0] 3)
        have hb6 := ((hb0.fr hF5 (fun h => h)).alloc (.cells #[.slice A' (rCnt st.fs) cap] 61)).alloc (.cells #[.int .i64 0] 3)
        have hl6 := (Blk.new w5 61 [.slice A' (rCnt st.fs) cap]).alloc (.cells #[.int .i64 0] 3)
        have hn6 := Blk.new (w5.alloc (.cells #[.slice A' (rCnt st.fs) cap] 61)) 3 [.int .i64 0]
        have hobs : w.heap.size < wr.heap.size := hM0.o.lt
        have hs5 : wr.heap.size + 1 ≤ w5.heap.size := by have := hF5.size; simp only [World.size_alloc] at this; exact this
        have hgF : ∀ (i : Nat) (f : Fm ByteArray), (rAll st.fs)[i]? = some f → ∃ g, A' = some ⟨g, 0, none⟩ ∧ wr.heap.size < g ∧ g < w5.heap.size ∧ ∀ w' : World, w'.heap[g]? = ((w5.alloc (.cells #[.slice A' (rCnt st.fs) cap] 61)).alloc (.cells #[.int .i64 0] 3)).heap[g]? → w'.cell? ⟨g, i * 5 + 1, none⟩ = some (.int .i64 f.key) ∧ w'.cell? ⟨g, i * 5 + 2, none⟩ = some (.string f.val) := by
          intro i f hi
          obtain ⟨g, e1, e2, e3, e4⟩ := hrows i f hi
          rw [World.size_alloc] at e2
          refine ⟨g, e1, by omega, e3, fun w' hw' => e4 w' (hw'.trans ?_)⟩
          rw [Below.heap_alloc _ _ _ (by rw [World.size_alloc]; omega), Below.heap_alloc _ _ _ e3]
        have hHF := Lib.hid hgF
        clear hrows hrow hgF
        have hkey := Lib.hid hI1.key
        have hsb : w.heap.size < wr.heap.size := hobs
        have hlow := hM0.lo.1
        have hfrw := hM0.has.fr.size
        go_wp2_with fail
        obtain ⟨w6, hw6⟩ : ∃ w6, w6 = (w5.alloc (.cells #[.slice A' (rCnt st.fs) cap] 61)).alloc (.cells #[.int .i64 0] 3) := ⟨_, rfl⟩
        have hs6 : w6.heap.size = w5.heap.size + 2 := by rw [hw6]; simp
        rw [World.size_alloc] at hn6 hE6
        rw [← hw6] at hE6 hb6 hl6 hn6 hHF ⊢
        clear hw6 hR5 hF5 hE1 hM0 hb0
        obtain ⟨bs, hRing, hInv, _, _⟩ := id hE6.has
        refine (wpIn_wide (n := 9)).1 ?_
        apply wpIn_rangeFunc_ownG (F := Fence.wide) (n := 9) rfl (by omega) (gf := 45) (lb := #[.pointer (some ⟨wr.heap.size, 0, none⟩)]) rfl trivial (enters_of Try.func45 (by kernel_rfl) rfl)
          (AllS_stops 8 (by omega) wr.heap.size rb fb mb bs st _ w6 (hb6.cell 0) hRing hInv) keepC_t keepC_b (Below.refl _ _) (fun _ => rfl)
          (fun pre W => Fr (fun b => b = (w5.heap.size + 1) ∨ b = w.heap.size) w6 W ∧ Blk W (w5.heap.size + 1) 3 [.int .i64 (pre.length : Int)] ∧ Blk W w.heap.size 4 [.bool false])
          (fun c pre _ => c = .ret ∧ ¬ pre <+: rAll st.fs) ?hI ?hIx ?h0 _
        case hassign =>
          intro l x W K hK
          unfold comeS
          gi_wp2
          exact hK
        case hI =>
          rintro pre W W' row ⟨h1, h2, h3⟩ hg hr
          have n1 : (w5.heap.size + 1) < w6.heap.size := hn6.lt
          have n2 : w.heap.size < w6.heap.size := hE6.o.lt
          refine ⟨h1.grown hg (fun b hb => .inr (hr b hb).1), h2.same (hg.block _ h2.lt (fun e => ?_)), h3.same (hg.block _ h3.lt (fun e => ?_))⟩
          · have := (hr _ e.symm).1; omega
          · have := (hr _ e.symm).1; omega
        case hIx => exact fun _ _ _ _ _ hs _ _ => hs
        case h0 => exact ⟨Fr.refl _ _, hn6, hE6.o⟩
        case hbody =>
          rintro l pre x W ⟨hF, hn, ho⟩ hlen
          have hlt : pre.length < rCnt st.fs := by rwa [rAll_len] at hlen
          have hy : (rAll st.fs)[pre.length]? = some (rAll st.fs)[pre.length] := List.getElem?_eq_getElem hlen
          have hmem := List.getElem_mem hlen
          generalize (rAll st.fs)[pre.length] = y at hy hmem
          obtain ⟨g, rfl, g1, g2, g3⟩ := hHF.out _ y hy
          have hno : pre ++ [x] <+: rAll st.fs → y = x := by
            rintro ⟨t, ht⟩
            rw [← ht] at hy
            simpa using hy.symm
          have hyk : in64 y.key := by
            obtain ⟨j, hj⟩ := List.mem_iff_getElem?.1 (mem_rAll.1 hmem)
            exact hkey.out j _ hj
          have hNO := Lib.hid hno
          have hYK := Lib.hid (kclip_eq hyk)
          have hW6 := hF.size
          have hWg : W.heap[g]? = w6.heap[g]? := hF.block g (by omega) (fun e => by rcases e with e | e <;> omega)
          obtain ⟨a1, a2⟩ := g3 W hWg
          have l0 := (hl6.fr hF (fun e => by rcases e with e | e <;> omega)).cell 0
          have n0 := hn.cell 0
          have nf := hn.frozen 0
          have o0 := ho.cell 0
          have of := ho.frozen 0
          have hsn := hn.set_ 0 (.int .i64 ((pre.length : Int) + 1))
          have hon := ho.far (p := ⟨w5.heap.size + 1, 0, none⟩) (by show w.heap.size ≠ (w5.heap.size + 1); omega) (.int .i64 ((pre.length : Int) + 1))
          clear hno hyk hmem hy g3 hWg
          have n64 : pre.length < 64 := by omega
          have d1 : decide ((rCnt st.fs : Int) ≤ (pre.length : Int)) = false := decide_eq_false (by omega)
          have d2 : (pre.length : Int) < (rCnt st.fs : Int) := by omega
          cases hk : (y.key != kclip x.key) with
          | true =>
            gi_wp2
            refine ⟨KeepsFrom.of_grownBy (grownBy_setCell' W w.heap.size _) (fun j e => by cases e; omega), rfl, fun hp => ?_⟩
            obtain rfl := hNO.out hp
            rw [hYK.out] at hk
            simp at hk
          | false =>
            cases hv : (y.val.toList == x.val.toList) with
            | false =>
              gi_wp2
              refine ⟨KeepsFrom.of_grownBy (grownBy_setCell' W w.heap.size _) (fun j e => by cases e; omega), rfl, fun hp => ?_⟩
              obtain rfl := hNO.out hp
              simp at hv
            | true =>
              gi_wp2
              refine ⟨KeepsFrom.of_grownBy (grownBy_setCell' W (w5.heap.size + 1) _) (fun j e => by cases e; omega), KeepC.of_fr ((Fr.refl (fun b => b = (w5.heap.size + 1)) W).setCell (p := ⟨w5.heap.size + 1, 0, none⟩) (.inl rfl) _) (fun b hb => by omega), hF.setCell (p := ⟨w5.heap.size + 1, 0, none⟩) (.inl (.inl rfl)) _, ?_, hon⟩
              rw [List.length_append]
              exact hsn
        case hdone =>
          rintro D xs W hD rfl ⟨hF, hn, ho⟩ hK
          rw [rAll_len] at hn
          have hW6 := hF.size
          have l0 := (hl6.fr hF (fun e => by rcases e with e | e <;> omega)).cell 0
          have n0 := hn.cell 0
          have o0 := ho.cell 0
          have of := ho.frozen 0
          have hH := hE6.has.far hF (fun b hb => by
            rcases hb with rfl | rfl
            · exact ⟨.inr (.inr (.inr (.inr rfl))), by omega⟩
            · exact ⟨.inl rfl, by omega⟩)
          have hq : Calls Try.prog 21 #[.pointer (some ⟨rb, 0, none⟩)] W.drew fun e w' => e = .returned (.int .i64 (rCnt st.fs)) ∧ w' = W.drew := hH.drew.len.mono fun _ _ ⟨h1, h2⟩ => ⟨h1, h2.symm⟩
          have b1 : ((rCnt st.fs : Int) == (rCnt st.fs : Int)) = true := by simp
          have HB := hH.below
          go_wp2_with fail
          go_still_tail 10, (by kernel_rfl)
          still_call (hq)
          repeat still_step
          refine wpStill_nil ?_
          go_wp2_with fail
          have hK' : (W.setCell ⟨w.heap.size, 0, none⟩ (.bool true)).drew.heap[D]? = some (.deferred (some [])) := (KeepsOthers.setCell W ⟨w.heap.size, 0, none⟩ (.bool true)).same D _ hK rfl
          have hc4 : (W.setCell ⟨w.heap.size, 0, none⟩ (.bool true)).drew.cell? ⟨w.heap.size, 0, none⟩ = some (.bool true) := World.cell?_setCell_same' W ⟨w.heap.size, 0, none⟩ (.bool true) (by rw [o0]; rfl)
          have hc5 := cell_kept hc4 (grownBy_putObj' _ D (.deferred none)) (fun r e => by cases e; exact ⟨_, hK', rfl⟩)
          refine ⟨by simp, .inl ⟨_, _, rfl, run_takeDeferred hK', ?_⟩⟩
          refine ⟨.bool true, ?_, rfl, (HB.setCell (p := ⟨w.heap.size, 0, none⟩) (Nat.le_refl _) _).drew.trans (belowK_b (w := w) (Nat.le_refl _) _ D _ _ (by omega) hK' rfl rfl)⟩
          simp [results, Try.f6, go_sem, hc5]
        case hstop =>
          rintro D c pre W hD hpre ⟨_, hno⟩ hK
          exact absurd hpre hno

end Go.Proofs.Ytbiaompkmabfjaa
