/- PurseExact: the walk. -/
import Derived.Test.YtejjfhgfhileeaaPurseExactL
import Derived.Test.YtejjfhgfhileeaaPurseAll
import Derived.Test.YtejjfhgfhileeaaRoundQuiet
import Derived.Deep.RegionHeld3
import Derived.Deep.CutBlock
namespace Go.Proofs.Ytejjfhgfhileeaa
open Go.Maps Go.RowKit Go.Shelf

attribute [local go_sem] Oper.semAt_some

set_option maxRecDepth 100000 in
set_option maxHeartbeats 8000000 in
theorem exact_calls (A : Option Addr) (n c : Nat) (w : World) (_hn : n ≤ maxLen) (hA0 : CellsAt w w.heap.size 4 A n okInts) :
    Calls Try.prog 5 #[.slice A n c] w fun e w' => e = .returned (.bool true) ∧ Below w.heap.size w w' := by
  obtain ⟨f, hA⟩ := acts_of_cells hA0
  clear hA0
  refine callsIn_wide.1 (callsIn_of_wp_marks (n := 9) Try.func5 rfl trivial ?_ rfl)
  simp only [Try.ntmps5, List.size_toArray, List.length_cons, List.length_nil, Nat.reduceAdd, Nat.reduceSub, Array.replicate_succ, Array.replicate_zero, List.push_toArray, List.append_toArray, List.nil_append, List.cons_append]
  refine wpIn_wide.2 ?_
  go_wp2_with fail
  refine (awake_calls _).mono ?_
  rintro e w1 ⟨rfl, hF1⟩
  have ho1 : Blk w1 w.heap.size 4 [.bool false] := (Blk.new w 4 [.bool false]).fr hF1 (fun h => h)
  have hF1' : Fr (fun _ => False) w w1 := ((Fr.refl _ w).alloc _).trans hF1 (fun _ _ h => h)
  clear hF1
  go_wp2_with fail
  refine (New_calls _).mono ?_
  rintro e w2 ⟨rfl, hP2, hF2⟩
  have ho2 := ho1.fr hF2 (fun h => h)
  have hl1 := ho1.lt
  have hl2 := hP2.1.lt
  have hF2' := hF1'.trans hF2 (fun _ _ h => h)
  have hE0 : EP w w.heap.size (w1.heap.size + 1) (w1.heap.size) (w2.heap.size) (w2.heap.size + 1) ⟨[], 0⟩ [] ((w2.alloc (.cells #[.slice none 0 0] 39)).alloc (.cells #[.pointer (some ⟨w2.heap.size, 0, none⟩)] 36)) := by
    have hx := Blk.new (w2.alloc (.cells #[.slice none 0 0] 39)) 36 [.pointer (some ⟨w2.heap.size, 0, none⟩)]
    rw [World.size_alloc] at hx
    exact ⟨⟨(hP2.1.alloc _).alloc _, (hP2.2.alloc _).alloc _⟩, ⟨_, (Blk.new w2 39 [.slice none 0 0]).alloc _, World.ownsRow_nil _ _ _ _⟩, (ho2.alloc _).alloc _, hx, (hF2'.alloc _).alloc _, by omega, by omega, by omega⟩
  clear ho1 hF1' hP2 hF2 ho2 hF2'
  go_wp2_with fail
  go_loopg [5] 200 (fun g i wr => ∃ (k : Nat) (q : PS), i = .int .i64 k ∧ k ≤ 200 ∧ g = 200 - k ∧ PInv q ∧ q.l.length ≤ k ∧ EP w w.heap.size (w1.heap.size + 1) (w1.heap.size) (w2.heap.size) (w2.heap.size + 1) q q.l wr)
  case atStart => exact ⟨0, _, rfl, by omega, by omega, pInv_nil, by simp, hE0⟩
  case round =>
    obtain ⟨k, q, rfl, hk2, rfl, hI, hlen, hE⟩ := hrel
    clear hE0
    by_cases hlt : k < n ∧ k < 200
    · obtain ⟨hlt, hlt2⟩ := hlt
      obtain ⟨b, off, rfl, hbb, hcells⟩ := hA k hlt
      obtain ⟨i0, c0⟩ := hcells 0 (by omega)
      obtain ⟨i1, c1⟩ := hcells 1 (by omega)
      obtain ⟨i2, c2⟩ := hcells 2 (by omega)
      obtain ⟨i3, c3⟩ := hcells 3 (by omega)
      rw [← hE.fr.cell (p := ⟨b, _, none⟩) hbb (fun h => h)] at c0 c1 c2 c3
      rw [Nat.add_zero] at c0
      have hltz : (k : Int) < (n : Int) := by omega
      have q1 : (0 : Int) ≤ (k : Int) := by omega
      have hEa := hE.quiet ((Fr.refl (fun _ => False) wr).alloc (.cells #[.int .i64 (f k 0), .int .i64 (f k 1), .int .i64 (f k 2), .int .i64 (f k 3)] 29))
      have hXa : XBp (wr.alloc (.cells #[.int .i64 (f k 0), .int .i64 (f k 1), .int .i64 (f k 2), .int .i64 (f k 3)] 29)) wr.heap.size (f k 0) (f k 1) (f k 2) (f k 3) := Blk.new wr 29 [.int .i64 (f k 0), .int .i64 (f k 1), .int .i64 (f k 2), .int .i64 (f k 3)]
      clear hcells hE
      generalize f k 0 = kd at *
      generalize f k 1 = who at *
      generalize f k 2 = m at *
      generalize f k 3 = room at *
      go_upto_block 2 with (fail)
      clear c0 c1 c2 c3
      generalize wr.alloc (.cells #[.int .i64 kd, .int .i64 who, .int .i64 m, .int .i64 room] 29) = wa at hEa hXa ⊢
      have x0 := Blk.cell hXa 0
      go_cut [6] from 16 to 81 (fun v6 wx => v6 = .pointer (some ⟨wr.heap.size, 0, none⟩) ∧ ∃ q' : PS, PInv q' ∧ q'.l.length ≤ k + 1 ∧ EP w w.heap.size (w1.heap.size + 1) (w1.heap.size) (w2.heap.size) (w2.heap.size + 1) q' q'.l wx ∧ XBp wx wr.heap.size kd who m room)
      case first =>
        by_cases hk1 : kd = 1
        · subst hk1
          as_aux_lemma =>
            go_wp2_with fail
            obtain ⟨x1, x2, x3, x4⟩ := four_of hXa hEa
            have hT1 := (hEa.drewN 1).ask (xb := wr.heap.size) (kd := 1) (who := who) (n := m) (room := room) hXa hI i1 i3 (by omega)
            have hT2 := fun (W : World) (hE : EP w w.heap.size (w1.heap.size + 1) (w1.heap.size) (w2.heap.size) (w2.heap.size + 1) (pAsk q who m room) q.l W) (hX : XBp W wr.heap.size 1 who m room) => hE.rask hX hI i3 (by omega)
            obtain ⟨r, hr⟩ : ∃ r, r = pCan q m room := ⟨_, rfl⟩
            rw [← hr] at hT1
            simp only [← hr] at hT2
            have HT1 := Lib.hid hT1
            have HT2 := Lib.hid hT2
            have bb : (r != r) = false := by cases r <;> rfl
            clear hT1 hT2 hr
            go_region_held3 (fun w' => w'.cell? ⟨wr.heap.size, 1, none⟩ = some (.int .i64 who) ∧ w'.cell? ⟨wr.heap.size, 2, none⟩ = some (.int .i64 m) ∧ w'.cell? ⟨wr.heap.size, 3, none⟩ = some (.int .i64 room) ∧ w'.cell? ⟨w2.heap.size + 1, 0, none⟩ = some (.pointer (some ⟨w2.heap.size, 0, none⟩))) (go_keep) ((first | (go_at_call 9; refine HT1.out.mono ?_; rintro e wb ⟨rfl, hEb, hXb, g1, g2, g3, g4⟩) | (go_at_call 13; refine (HT2.out _ hEb hXb).mono ?_; rintro e wd ⟨rfl, hEd, hXd, k1, k2, k3, k4⟩)))
            go_wp2_with fail
            go_meet
            exact ⟨rfl, pAsk q who m room, pAsk_inv hI i1 (by unfold in64 at i3; omega), pAsk_len _ _ _ hlen, hEd, hXd⟩
        · have hk1' : (kd == 1) = false := by simpa using hk1
          clear hk1
          by_cases hk2 : kd = 2
          · subst hk2
            as_aux_lemma =>
              go_wp2_with fail
              obtain ⟨x1, x2, x3, x4⟩ := four_of hXa hEa
              have hT1 := (hEa.drewN 1).take (xb := wr.heap.size) (kd := 2) (who := who) (n := m) (room := room) hXa hI i1 (by omega)
              have hT2 := fun (W : World) (hE : EP w w.heap.size (w1.heap.size + 1) (w1.heap.size) (w2.heap.size) (w2.heap.size + 1) (pTake q who m) q.l W) (hX : XBp W wr.heap.size 2 who m room) => hE.rtake hX hI (by omega)
              obtain ⟨r, hr⟩ : ∃ r, r = pTook q who m := ⟨_, rfl⟩
              rw [← hr] at hT1
              simp only [← hr] at hT2
              have HT1 := Lib.hid hT1
              have HT2 := Lib.hid hT2
              have bb : (r != r) = false := by simp
              clear hT1 hT2 hr
              go_region_held3 (fun w' => w'.cell? ⟨wr.heap.size, 1, none⟩ = some (.int .i64 who) ∧ w'.cell? ⟨wr.heap.size, 2, none⟩ = some (.int .i64 m) ∧ w'.cell? ⟨wr.heap.size, 3, none⟩ = some (.int .i64 room) ∧ w'.cell? ⟨w2.heap.size + 1, 0, none⟩ = some (.pointer (some ⟨w2.heap.size, 0, none⟩))) (go_keep) ((first | (go_at_call 10; refine HT1.out.mono ?_; rintro e wb ⟨rfl, hEb, hXb, g1, g2, g3, g4⟩) | (go_at_call 14; refine (HT2.out _ hEb hXb).mono ?_; rintro e wd ⟨rfl, hEd, hXd, k1, k2, k3, k4⟩)))
              go_wp2_with fail
              go_meet
              exact ⟨rfl, pTake q who m, pTake_inv hI i1 _, Nat.le_trans (pTake_len hI.srt _ _ pTook_some) (by omega), hEd, hXd⟩
          · have hk2' : (kd == 2) = false := by simpa using hk2
            clear hk2
            as_aux_lemma =>
              go_wp2_with fail
              go_meet
              exact ⟨rfl, q, hI, by omega, hEa, hXa⟩
      case rest =>
        as_aux_lemma =>
          obtain ⟨rfl, q', hI', hlen', hE', hX'⟩ := hcut
          obtain ⟨x1, x2, x3, x4⟩ := four_of hX' hE'
          have htot : total q'.l = q'.s := hI'.sum.symm
          have hp1 : ∀ n : Nat, Calls Try.prog 11 #[.pointer (some ⟨w1.heap.size + 1, 0, none⟩), .int .i64 who] (wc.drewN n) fun e w' => e = .returned (.int .i64 (pOf q' who)) ∧ w' = wc.drewN n := fun n => Of_calls' (w1.heap.size + 1) (w1.heap.size) q' _ (hE'.drewN n).p who i1
          have hp2 : ∀ n : Nat, Calls Try.prog 15 #[.pointer (some ⟨w2.heap.size, 0, none⟩), .int .i64 who] (wc.drewN n) fun e w' => e = .returned (.int .i64 (pOf q' who)) ∧ w' = wc.drewN n := fun n => (refOf_calls w _ (w2.heap.size) q'.l (hE'.drewN n).r (by omega) who).mono fun _ _ ⟨h1, h2⟩ => ⟨h1, h2.symm⟩
          have hp3 : ∀ n : Nat, Calls Try.prog 12 #[.pointer (some ⟨w1.heap.size + 1, 0, none⟩)] (wc.drewN n) fun e w' => e = .returned (.int .i64 q'.s) ∧ w' = wc.drewN n := fun n => (Sum_calls (w1.heap.size + 1) (w1.heap.size) q' _ (hE'.drewN n).p).mono fun _ _ ⟨h1, h2⟩ => ⟨h1, h2.symm⟩
          have hp4 : ∀ n : Nat, Calls Try.prog 16 #[.pointer (some ⟨w2.heap.size, 0, none⟩)] (wc.drewN n) fun e w' => e = .returned (.int .i64 q'.s) ∧ w' = wc.drewN n := fun n => by
            rw [← htot]
            exact (refSum_calls w _ (w2.heap.size) q'.l (hE'.drewN n).r (by omega) hI'.pos (by have := hI'.top; omega)).mono fun _ _ ⟨h1, h2⟩ => ⟨h1, h2.symm⟩
          have b1 : (pOf q' who != pOf q' who) = false := by simp
          have b2 : (q'.s != q'.s) = false := by simp
          have HL := Lib.hid hlen'
          clear htot hlen' hlen
          generalize pOf q' who = po at hp1 hp2 b1
          generalize hqs : q'.s = ps at hp3 hp4 b2
          clear hqs
          go_wp2_with fail
          go_quiet ((first | (go_at_call 11; with_reducible exact Calls.quiet_of_same (hp1 _)) | (go_at_call 15; with_reducible exact Calls.quiet_of_same (hp2 _)) | (go_at_call 12; with_reducible exact Calls.quiet_of_same (hp3 _)) | (go_at_call 16; with_reducible exact Calls.quiet_of_same (hp4 _))))
          have hMy := hE'.drewN nq
          go_wp2_with fail
          go_roundg (200 - (k + 1))
          case measure => omega
          case rel => exact ⟨k + 1, q', rfl, by omega, rfl, hI', HL.out, hMy⟩
    · by_cases hlt1 : k < n
      · have hlt2 : ¬ k < n ∨ ¬ k < 200 := by omega
        as_aux_lemma =>
          clear hlt
          have hnf : ∀ (b : Nat) (W : World), Sem.run Try.prog (Go.binOp BinOp.eql 41 (.func (.func 19) #[] #[.pointer (some ⟨b, 0, none⟩)]) Value.nilFunc) W = .ok (.bool false) W := fun _ _ => by kernel_rfl
          go_wp2_with fail
          refine (AllP_calls (w1.heap.size + 1) wr).mono ?_
          rintro e w4 ⟨rfl, rfl⟩
          have hb0 := Blk.new wr 25 [.pointer (some ⟨w1.heap.size + 1, 0, none⟩)]
          have hn0 := Blk.new (wr.alloc (.cells #[.pointer (some ⟨w1.heap.size + 1, 0, none⟩)] 25)) 3 [.int .i64 0]
          have hb6 := hb0.alloc (.cells #[.int .i64 0] 3)
          have hE6 := hE.quiet (((Fr.refl (fun _ => False) wr).alloc (.cells #[.pointer (some ⟨w1.heap.size + 1, 0, none⟩)] 25)).alloc (.cells #[.int .i64 0] 3))
          have hlO := hE.o.lt
          have hlX := hE.x.lt
          have hlP := hE.p.1.lt
          have hlV := hE.p.2.lt
          go_wp2_with fail
          obtain ⟨w6, hw6⟩ : ∃ w6, w6 = (wr.alloc (.cells #[.pointer (some ⟨w1.heap.size + 1, 0, none⟩)] 25)).alloc (.cells #[.int .i64 0] 3) := ⟨_, rfl⟩
          have hsz6 : w6.heap.size = wr.heap.size + 2 := by rw [hw6]; simp
          rw [World.size_alloc] at hn0
          rw [← hw6] at hE6 hb6 hn0 ⊢
          clear hw6 hE hb0
          obtain ⟨A', cap, hBu, hcells⟩ := hE6.r.open_
          have HC := Lib.hid hcells
          clear hcells
          have hlU := hBu.lt
          refine (wpIn_wide (n := 9)).1 ?_
          apply wpIn_rangeFunc_ownG (F := Fence.wide) (n := 9) rfl (by omega) (gf := 19) (lb := #[.pointer (some ⟨wr.heap.size, 0, none⟩)]) rfl trivial (enters_of Try.func19 (by kernel_rfl) rfl)
            (AllP_stops 8 (by omega) wr.heap.size (w1.heap.size + 1) w1.heap.size q w6 (hb6.cell 0) hE6.p hI (by omega)) keepX_t keepX_b (Below.refl _ _) (fun _ => rfl)
            (fun pre W => Fr (fun b => b = wr.heap.size + 1 ∨ b = w.heap.size) w6 W ∧ Blk W (wr.heap.size + 1) 3 [.int .i64 (pre.length : Int)] ∧ Blk W w.heap.size 4 [.bool false])
            (fun c pre _ => c = .ret ∧ ¬ pre <+: q.l) ?hI ?hIx ?h0 _
          case hassign =>
            intro l x W K hK
            unfold comeP
            gi_wp2
            exact hK
          case hI =>
            rintro pre W W' row ⟨h1, h2, h3⟩ hg hr
            refine ⟨h1.grown hg (fun b hb => .inr (hr b hb).1), h2.same (hg.block _ h2.lt (fun e => ?_)), h3.same (hg.block _ h3.lt (fun e => ?_))⟩
            · have := (hr _ e.symm).1; omega
            · have := (hr _ e.symm).1; omega
          case hIx => exact fun _ _ _ _ _ hs _ _ => hs
          case h0 => exact ⟨Fr.refl _ _, hn0, hE6.o⟩
          case hbody =>
            rintro l pre x W ⟨hF, hn, ho⟩ hlen2
            have hy : q.l[pre.length]? = some q.l[pre.length] := List.getElem?_eq_getElem hlen2
            have hmem := List.getElem_mem hlen2
            generalize q.l[pre.length] = y at hy hmem
            obtain ⟨g, rfl, _, ⟨cur, hcur⟩, g3⟩ := HC.out _ y hy
            have hno : pre ++ [x] <+: q.l → y = x := by
              rintro ⟨t, ht⟩
              rw [← ht] at hy
              simpa using hy.symm
            have hy1 := kclip_eq (hI.ink y hmem)
            have hy2 : kclip y.2 = y.2 := by
              have h1 := hI.pos y hmem
              have h2 := pOf_bd hI y.1
              have h3 := look_of_mem hI.srt (k := y.1) (v := y.2) hmem
              unfold pOf at h2
              rw [h3] at h2
              simp at h2
              have := hI.top
              exact kclip_eq (by unfold in64; omega)
            have hNO := Lib.hid hno
            have hY1 := Lib.hid hy1
            have hY2 := Lib.hid hy2
            have hW6 := hF.size
            have hgl : g < w6.heap.size := (Array.getElem?_eq_some_iff.1 hcur).1
            have hg1 : g ≠ wr.heap.size + 1 := fun e => by
              have : Blk w6 g 44 cur.toList := hcur
              exact (Blk.ne_ this hn0 (by decide)) e
            have hg2 : g ≠ w.heap.size := fun e => by
              have : Blk w6 g 44 cur.toList := hcur
              exact (Blk.ne_ this hE6.o (by decide)) e
            obtain ⟨a1, a2⟩ := g3 W (hF.block g hgl (fun e => by rcases e with e | e; exact hg1 e; exact hg2 e))
            have x0 := (hE6.x.fr hF (fun e => by rcases e with e | e <;> omega)).cell 0
            have hub1 : w2.heap.size ≠ w.heap.size := by omega
            have u0 := (hBu.fr hF (fun e => by rcases e with e | e <;> omega)).cell 0
            have n0 := hn.cell 0
            have nf := hn.frozen 0
            have o0 := ho.cell 0
            have of := ho.frozen 0
            have hsn := hn.set_ 0 (.int .i64 ((pre.length : Int) + 1))
            have hon := ho.far (p := ⟨wr.heap.size + 1, 0, none⟩) (by show w.heap.size ≠ wr.heap.size + 1; omega) (.int .i64 ((pre.length : Int) + 1))
            have n64 : pre.length < 1000 := by omega
            have q1 : (0 : Int) ≤ (pre.length : Int) := by omega
            have q2 : (pre.length : Int) < (q.l.length : Int) := by omega
            have d1 : decide ((q.l.length : Int) ≤ (pre.length : Int)) = false := decide_eq_false (by omega)
            have d2 : decide (q.l.length ≤ pre.length) = false := decide_eq_false (by omega)
            clear hno hmem hy g3 hcur hy1 hy2 hub1
            cases hk : (y.1 != kclip x.1) with
            | true =>
              gi_wp2
              refine wpIn_region_round (by kernel_rfl) (by kernel_rfl) (by kernel_rfl) ?_
              repeat (gi_big_quiet_step (fail))
              refine wpQuietIn_nil ?_
              intro _ hw'
              obtain ⟨nq, hw''⟩ := hw'
              subst hw'' 
              gi_wp2
              refine ⟨keepsFrom_of_fr (S := fun b => b = w.heap.size) (Fr.setCell (w := W) (w1 := W.drewN nq) (S := fun b => b = w.heap.size) ⟨rfl, rfl, rfl, Nat.le_refl _, fun _ _ _ => rfl⟩ (p := ⟨w.heap.size, 0, none⟩) (.inl rfl) _) (fun b hb => by omega), rfl, fun hp => ?_⟩
              obtain rfl := hNO.out hp
              rw [hY1.out] at hk
              simp at hk
            | false =>
              cases hv : (y.2 != kclip x.2) with
              | true =>
                gi_wp2
                refine wpIn_region_round (by kernel_rfl) (by kernel_rfl) (by kernel_rfl) ?_
                repeat (gi_big_quiet_step (fail))
                refine wpQuietIn_nil ?_
                intro _ hw'
                obtain ⟨nq, hw''⟩ := hw'
                subst hw'' 
                gi_wp2
                refine ⟨keepsFrom_of_fr (S := fun b => b = w.heap.size) (Fr.setCell (w := W) (w1 := W.drewN nq) (S := fun b => b = w.heap.size) ⟨rfl, rfl, rfl, Nat.le_refl _, fun _ _ _ => rfl⟩ (p := ⟨w.heap.size, 0, none⟩) (.inl rfl) _) (fun b hb => by omega), rfl, fun hp => ?_⟩
                obtain rfl := hNO.out hp
                rw [hY2.out] at hv
                simp at hv
              | false =>
                gi_wp2
                refine wpIn_region_round (by kernel_rfl) (by kernel_rfl) (by kernel_rfl) ?_
                repeat (gi_big_quiet_step (fail))
                refine wpQuietIn_nil ?_
                intro _ hw'
                obtain ⟨nq, hw''⟩ := hw'
                subst hw'' 
                gi_wp2
                have hFd : Fr (fun b => b = wr.heap.size + 1) W ((W.setCell ⟨wr.heap.size + 1, 0, none⟩ (.int .i64 ((pre.length : Int) + 1))).drewN nq) := ((Fr.refl (fun b => b = wr.heap.size + 1) W).setCell (p := ⟨wr.heap.size + 1, 0, none⟩) (.inl rfl) _).trans (S' := fun _ => False) ⟨rfl, rfl, rfl, Nat.le_refl _, fun _ _ _ => rfl⟩ (fun _ _ h => h.elim)
                refine ⟨keepsFrom_of_fr hFd (fun b hb => by omega), KeepX.of_fr hFd (fun b hb => by omega), hF.trans hFd (fun _ _ h => .inl h), ?_, hon⟩
                rw [List.length_append]
                exact hsn
          case hdone =>
            rintro D xs W hD rfl ⟨hF, hn, ho⟩ hK
            have hW6 := hF.size
            have x0 := (hE6.x.fr hF (fun e => by rcases e with e | e <;> omega)).cell 0
            have u0 := (hBu.fr hF (fun e => by rcases e with e | e <;> omega)).cell 0
            have n0 := hn.cell 0
            have o0 := ho.cell 0
            have of := ho.frozen 0
            have b1 : ((q.l.length : Int) == (q.l.length : Int)) = true := by simp
            have HB : Below w.heap.size w W := (hE6.fr.trans hF (fun b hb h => by rcases h with h | h <;> omega)).to_below
            go_wp2_with fail
            go_still_tail 7, (by kernel_rfl)
            go_wp2_with fail
            have hK' : (W.setCell ⟨w.heap.size, 0, none⟩ (.bool true)).drew.heap[D]? = some (.deferred (some [])) := (KeepsOthers.setCell W ⟨w.heap.size, 0, none⟩ (.bool true)).same D _ hK rfl
            have hc4 : (W.setCell ⟨w.heap.size, 0, none⟩ (.bool true)).drew.cell? ⟨w.heap.size, 0, none⟩ = some (.bool true) := World.cell?_setCell_same' W ⟨w.heap.size, 0, none⟩ (.bool true) (by rw [o0]; rfl)
            have hc5 := cell_kept hc4 (grownBy_putObj' _ D (.deferred none)) (fun r e => by cases e; exact ⟨_, hK', rfl⟩)
            refine ⟨by simp, .inl ⟨_, _, rfl, run_takeDeferred hK', ?_⟩⟩
            refine ⟨.bool true, ?_, rfl, (HB.setCell (p := ⟨w.heap.size, 0, none⟩) (Nat.le_refl _) _).drew.trans (belowK_b (w := w) (Nat.le_refl _) _ D _ _ (by omega) hK' rfl rfl)⟩
            simp [results, Try.f5, go_sem, hc5]
          case hstop =>
            rintro D c pre W hD hpre ⟨_, hno⟩ hK
            exact absurd hpre hno
      · have hlt2 : ¬ k < n ∨ ¬ k < 200 := by omega
        as_aux_lemma =>
          clear hlt
          have hnf : ∀ (b : Nat) (W : World), Sem.run Try.prog (Go.binOp BinOp.eql 41 (.func (.func 19) #[] #[.pointer (some ⟨b, 0, none⟩)]) Value.nilFunc) W = .ok (.bool false) W := fun _ _ => by kernel_rfl
          go_wp2_with fail
          refine (AllP_calls (w1.heap.size + 1) wr).mono ?_
          rintro e w4 ⟨rfl, rfl⟩
          have hb0 := Blk.new wr 25 [.pointer (some ⟨w1.heap.size + 1, 0, none⟩)]
          have hn0 := Blk.new (wr.alloc (.cells #[.pointer (some ⟨w1.heap.size + 1, 0, none⟩)] 25)) 3 [.int .i64 0]
          have hb6 := hb0.alloc (.cells #[.int .i64 0] 3)
          have hE6 := hE.quiet (((Fr.refl (fun _ => False) wr).alloc (.cells #[.pointer (some ⟨w1.heap.size + 1, 0, none⟩)] 25)).alloc (.cells #[.int .i64 0] 3))
          have hlO := hE.o.lt
          have hlX := hE.x.lt
          have hlP := hE.p.1.lt
          have hlV := hE.p.2.lt
          go_wp2_with fail
          obtain ⟨w6, hw6⟩ : ∃ w6, w6 = (wr.alloc (.cells #[.pointer (some ⟨w1.heap.size + 1, 0, none⟩)] 25)).alloc (.cells #[.int .i64 0] 3) := ⟨_, rfl⟩
          have hsz6 : w6.heap.size = wr.heap.size + 2 := by rw [hw6]; simp
          rw [World.size_alloc] at hn0
          rw [← hw6] at hE6 hb6 hn0 ⊢
          clear hw6 hE hb0
          obtain ⟨A', cap, hBu, hcells⟩ := hE6.r.open_
          have HC := Lib.hid hcells
          clear hcells
          have hlU := hBu.lt
          refine (wpIn_wide (n := 9)).1 ?_
          apply wpIn_rangeFunc_ownG (F := Fence.wide) (n := 9) rfl (by omega) (gf := 19) (lb := #[.pointer (some ⟨wr.heap.size, 0, none⟩)]) rfl trivial (enters_of Try.func19 (by kernel_rfl) rfl)
            (AllP_stops 8 (by omega) wr.heap.size (w1.heap.size + 1) w1.heap.size q w6 (hb6.cell 0) hE6.p hI (by omega)) keepX_t keepX_b (Below.refl _ _) (fun _ => rfl)
            (fun pre W => Fr (fun b => b = wr.heap.size + 1 ∨ b = w.heap.size) w6 W ∧ Blk W (wr.heap.size + 1) 3 [.int .i64 (pre.length : Int)] ∧ Blk W w.heap.size 4 [.bool false])
            (fun c pre _ => c = .ret ∧ ¬ pre <+: q.l) ?hI ?hIx ?h0 _
          case hassign =>
            intro l x W K hK
            unfold comeP
            gi_wp2
            exact hK
          case hI =>
            rintro pre W W' row ⟨h1, h2, h3⟩ hg hr
            refine ⟨h1.grown hg (fun b hb => .inr (hr b hb).1), h2.same (hg.block _ h2.lt (fun e => ?_)), h3.same (hg.block _ h3.lt (fun e => ?_))⟩
            · have := (hr _ e.symm).1; omega
            · have := (hr _ e.symm).1; omega
          case hIx => exact fun _ _ _ _ _ hs _ _ => hs
          case h0 => exact ⟨Fr.refl _ _, hn0, hE6.o⟩
          case hbody =>
            rintro l pre x W ⟨hF, hn, ho⟩ hlen2
            have hy : q.l[pre.length]? = some q.l[pre.length] := List.getElem?_eq_getElem hlen2
            have hmem := List.getElem_mem hlen2
            generalize q.l[pre.length] = y at hy hmem
            obtain ⟨g, rfl, _, ⟨cur, hcur⟩, g3⟩ := HC.out _ y hy
            have hno : pre ++ [x] <+: q.l → y = x := by
              rintro ⟨t, ht⟩
              rw [← ht] at hy
              simpa using hy.symm
            have hy1 := kclip_eq (hI.ink y hmem)
            have hy2 : kclip y.2 = y.2 := by
              have h1 := hI.pos y hmem
              have h2 := pOf_bd hI y.1
              have h3 := look_of_mem hI.srt (k := y.1) (v := y.2) hmem
              unfold pOf at h2
              rw [h3] at h2
              simp at h2
              have := hI.top
              exact kclip_eq (by unfold in64; omega)
            have hNO := Lib.hid hno
            have hY1 := Lib.hid hy1
            have hY2 := Lib.hid hy2
            have hW6 := hF.size
            have hgl : g < w6.heap.size := (Array.getElem?_eq_some_iff.1 hcur).1
            have hg1 : g ≠ wr.heap.size + 1 := fun e => by
              have : Blk w6 g 44 cur.toList := hcur
              exact (Blk.ne_ this hn0 (by decide)) e
            have hg2 : g ≠ w.heap.size := fun e => by
              have : Blk w6 g 44 cur.toList := hcur
              exact (Blk.ne_ this hE6.o (by decide)) e
            obtain ⟨a1, a2⟩ := g3 W (hF.block g hgl (fun e => by rcases e with e | e; exact hg1 e; exact hg2 e))
            have x0 := (hE6.x.fr hF (fun e => by rcases e with e | e <;> omega)).cell 0
            have hub1 : w2.heap.size ≠ w.heap.size := by omega
            have u0 := (hBu.fr hF (fun e => by rcases e with e | e <;> omega)).cell 0
            have n0 := hn.cell 0
            have nf := hn.frozen 0
            have o0 := ho.cell 0
            have of := ho.frozen 0
            have hsn := hn.set_ 0 (.int .i64 ((pre.length : Int) + 1))
            have hon := ho.far (p := ⟨wr.heap.size + 1, 0, none⟩) (by show w.heap.size ≠ wr.heap.size + 1; omega) (.int .i64 ((pre.length : Int) + 1))
            have n64 : pre.length < 1000 := by omega
            have q1 : (0 : Int) ≤ (pre.length : Int) := by omega
            have q2 : (pre.length : Int) < (q.l.length : Int) := by omega
            have d1 : decide ((q.l.length : Int) ≤ (pre.length : Int)) = false := decide_eq_false (by omega)
            have d2 : decide (q.l.length ≤ pre.length) = false := decide_eq_false (by omega)
            clear hno hmem hy g3 hcur hy1 hy2 hub1
            cases hk : (y.1 != kclip x.1) with
            | true =>
              gi_wp2
              refine wpIn_region_round (by kernel_rfl) (by kernel_rfl) (by kernel_rfl) ?_
              repeat (gi_big_quiet_step (fail))
              refine wpQuietIn_nil ?_
              intro _ hw'
              obtain ⟨nq, hw''⟩ := hw'
              subst hw'' 
              gi_wp2
              refine ⟨keepsFrom_of_fr (S := fun b => b = w.heap.size) (Fr.setCell (w := W) (w1 := W.drewN nq) (S := fun b => b = w.heap.size) ⟨rfl, rfl, rfl, Nat.le_refl _, fun _ _ _ => rfl⟩ (p := ⟨w.heap.size, 0, none⟩) (.inl rfl) _) (fun b hb => by omega), rfl, fun hp => ?_⟩
              obtain rfl := hNO.out hp
              rw [hY1.out] at hk
              simp at hk
            | false =>
              cases hv : (y.2 != kclip x.2) with
              | true =>
                gi_wp2
                refine wpIn_region_round (by kernel_rfl) (by kernel_rfl) (by kernel_rfl) ?_
                repeat (gi_big_quiet_step (fail))
                refine wpQuietIn_nil ?_
                intro _ hw'
                obtain ⟨nq, hw''⟩ := hw'
                subst hw'' 
                gi_wp2
                refine ⟨keepsFrom_of_fr (S := fun b => b = w.heap.size) (Fr.setCell (w := W) (w1 := W.drewN nq) (S := fun b => b = w.heap.size) ⟨rfl, rfl, rfl, Nat.le_refl _, fun _ _ _ => rfl⟩ (p := ⟨w.heap.size, 0, none⟩) (.inl rfl) _) (fun b hb => by omega), rfl, fun hp => ?_⟩
                obtain rfl := hNO.out hp
                rw [hY2.out] at hv
                simp at hv
              | false =>
                gi_wp2
                refine wpIn_region_round (by kernel_rfl) (by kernel_rfl) (by kernel_rfl) ?_
                repeat (gi_big_quiet_step (fail))
                refine wpQuietIn_nil ?_
                intro _ hw'
                obtain ⟨nq, hw''⟩ := hw'
                subst hw'' 
                gi_wp2
                have hFd : Fr (fun b => b = wr.heap.size + 1) W ((W.setCell ⟨wr.heap.size + 1, 0, none⟩ (.int .i64 ((pre.length : Int) + 1))).drewN nq) := ((Fr.refl (fun b => b = wr.heap.size + 1) W).setCell (p := ⟨wr.heap.size + 1, 0, none⟩) (.inl rfl) _).trans (S' := fun _ => False) ⟨rfl, rfl, rfl, Nat.le_refl _, fun _ _ _ => rfl⟩ (fun _ _ h => h.elim)
                refine ⟨keepsFrom_of_fr hFd (fun b hb => by omega), KeepX.of_fr hFd (fun b hb => by omega), hF.trans hFd (fun _ _ h => .inl h), ?_, hon⟩
                rw [List.length_append]
                exact hsn
          case hdone =>
            rintro D xs W hD rfl ⟨hF, hn, ho⟩ hK
            have hW6 := hF.size
            have x0 := (hE6.x.fr hF (fun e => by rcases e with e | e <;> omega)).cell 0
            have u0 := (hBu.fr hF (fun e => by rcases e with e | e <;> omega)).cell 0
            have n0 := hn.cell 0
            have o0 := ho.cell 0
            have of := ho.frozen 0
            have b1 : ((q.l.length : Int) == (q.l.length : Int)) = true := by simp
            have HB : Below w.heap.size w W := (hE6.fr.trans hF (fun b hb h => by rcases h with h | h <;> omega)).to_below
            go_wp2_with fail
            go_still_tail 7, (by kernel_rfl)
            go_wp2_with fail
            have hK' : (W.setCell ⟨w.heap.size, 0, none⟩ (.bool true)).drew.heap[D]? = some (.deferred (some [])) := (KeepsOthers.setCell W ⟨w.heap.size, 0, none⟩ (.bool true)).same D _ hK rfl
            have hc4 : (W.setCell ⟨w.heap.size, 0, none⟩ (.bool true)).drew.cell? ⟨w.heap.size, 0, none⟩ = some (.bool true) := World.cell?_setCell_same' W ⟨w.heap.size, 0, none⟩ (.bool true) (by rw [o0]; rfl)
            have hc5 := cell_kept hc4 (grownBy_putObj' _ D (.deferred none)) (fun r e => by cases e; exact ⟨_, hK', rfl⟩)
            refine ⟨by simp, .inl ⟨_, _, rfl, run_takeDeferred hK', ?_⟩⟩
            refine ⟨.bool true, ?_, rfl, (HB.setCell (p := ⟨w.heap.size, 0, none⟩) (Nat.le_refl _) _).drew.trans (belowK_b (w := w) (Nat.le_refl _) _ D _ _ (by omega) hK' rfl rfl)⟩
            simp [results, Try.f5, go_sem, hc5]
          case hstop =>
            rintro D c pre W hD hpre ⟨_, hno⟩ hK
            exact absurd hpre hno

end Go.Proofs.Ytejjfhgfhileeaa
