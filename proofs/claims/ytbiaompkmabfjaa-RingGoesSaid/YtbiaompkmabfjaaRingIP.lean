/- The ring with int values: Put and Del. -/
import Derived.Test.YtbiaompkmabfjaaRingIF
namespace Go.Proofs.Ytbiaompkmabfjaa
open Go.Maps Go.RowKit

def outVI : Option (Fm Int) → Value
  | none => .agg #[.int .i64 0, Value.int .i64 0, .bool false]
  | some f => .agg #[.int .i64 f.key, (fun v => Value.int .i64 v) f.val, .bool true]

section
variable (w : World) (rb fb mb : Nat) (bs : List (Option Nat)) (st : RS Int)

theorem outBlkI (w : World) : Blk (w.alloc (.cells #[.int .i64 0, Value.int .i64 0, .bool false] 27)) w.heap.size 27 [.int .i64 0, Value.int .i64 0, .bool false] := Blk.new w 27 [.int .i64 0, Value.int .i64 0, .bool false]

theorem outStoredI {W : World} {o : Nat} {cs : List Value} (hO : Blk W o 27 cs) (hl : cs.length = 3) (a b c : Value) :
    Blk (((W.setCell ⟨o, 0, none⟩ a).setCell ⟨o, 1, none⟩ b).setCell ⟨o, 2, none⟩ c) o 27 [a, b, c] ∧ Fr (fun x => x = o) W (((W.setCell ⟨o, 0, none⟩ a).setCell ⟨o, 1, none⟩ b).setCell ⟨o, 2, none⟩ c) := by
  refine ⟨?_, (((Fr.refl (fun x => x = o) W).setCell (p := ⟨o, 0, none⟩) (.inl rfl) _).setCell (p := ⟨o, 1, none⟩) (.inl rfl) _).setCell (p := ⟨o, 2, none⟩) (.inl rfl) _⟩
  match cs, hl with
  | [x, y, z], _ => exact ((hO.set_ 0 a).set_ 1 b).set_ 2 c

theorem fr_outI {w w1 w2 : World} {o : Nat} {S : Nat → Prop} (hF : Fr S w w1) (hF2 : Fr (fun x => x = o) w1 w2) (ho : w.heap.size ≤ o) : Fr S w w2 :=
  hF.trans hF2 (fun b hb e => by subst e; omega)

theorem out_cellsI {W : World} {o : Nat} {a b c : Value} (hO : Blk W o 27 [a, b, c]) :
    W.cell? ⟨o, 0, none⟩ = some a ∧ W.cell? ⟨o, 1, none⟩ = some b ∧ W.cell? ⟨o, 2, none⟩ = some c ∧ W.frozen? ⟨o, 0, none⟩ = false ∧ W.frozen? ⟨o, 1, none⟩ = false ∧ W.frozen? ⟨o, 2, none⟩ = false ∧
    (W.setCell ⟨o, 0, none⟩ a).cell? ⟨o, 1, none⟩ = some b ∧ (W.setCell ⟨o, 0, none⟩ a).cell? ⟨o, 2, none⟩ = some c ∧ ((W.setCell ⟨o, 0, none⟩ a).setCell ⟨o, 1, none⟩ b).cell? ⟨o, 2, none⟩ = some c :=
  ⟨hO.cell 0, hO.cell 1, hO.cell 2, hO.frozen 0, hO.frozen 1, hO.frozen 2, (hO.set_ 0 a).cell 1, (hO.set_ 0 a).cell 2, ((hO.set_ 0 a).set_ 1 b).cell 2⟩

set_option maxRecDepth 100000 in
theorem PutI_have (hR : RingI w rb fb mb bs st) {top : Int} (hI : RInv st top) (k : Int) (hk : in64 k) (v : Int) (i : Nat) (f : Fm Int) (hi : rIdx k st.fs = some i) (hf : st.fs[i]? = some (some f)) :
    Calls Try.prog 10 #[.pointer (some ⟨rb, 0, none⟩), .int .i64 k, Value.int .i64 v] w fun e w' => e = .returned (.tuple #[outVI none, .bool true]) ∧
      RingI w' rb fb mb bs ⟨st.fs.set i (some { f with val := v, fresh := true }), st.hand⟩ ∧ Fr (foot rb fb mb bs) w w' := by
  go_enter Try.func10, Try.ntmps10
  go_wp2_with fail
  have hF1 : Fr (fun _ => False) w (w.alloc (.cells #[.int .i64 0, Value.int .i64 0, .bool false] 27)) := (Fr.refl _ w).alloc _
  have hR1 : RingI (w.alloc (.cells #[.int .i64 0, Value.int .i64 0, .bool false] 27)) rb fb mb bs st := hR.keep hF1 (fun _ _ e => e)
  have hO := outBlkI w
  have hsz : (w.alloc (.cells #[.int .i64 0, Value.int .i64 0, .bool false] 27)).heap.size = w.heap.size + 1 := by simp
  have hfo : ∀ b, foot rb fb mb bs b → b ≠ w.heap.size := fun b hb e => by have := hR.foot_lt hb; omega
  generalize w.alloc (.cells #[.int .i64 0, Value.int .i64 0, .bool false] 27) = w1 at hF1 hR1 hO hsz ⊢
  have HZ := Lib.hid hsz
  clear hsz
  obtain ⟨g, hb, hB1⟩ := hR1.1.at_some hf
  obtain ⟨d0, d1, d2, d3⟩ := cellsI f w1 g hB1
  have z1 := hB1.frozen 1
  have z3 := hB1.frozen 3
  have y3 := (hB1.set_ 1 (Value.int .i64 v)).cell 3
  have hgo := hfo g (.inr (.inr (.inr (List.mem_of_getElem? hb))))
  have hO3 := (hO.far (p := ⟨g, 1, none⟩) (Ne.symm hgo) (Value.int .i64 v)).far (p := ⟨g, 3, none⟩) (Ne.symm hgo) (.bool true)
  obtain ⟨o0, o1, o2, x0, x1, x2, y0, y1, y2⟩ := out_cellsI hO3
  have hR3 := storedI w1 rb fb mb bs st hR1 hf hb hI.uniq (f' := { f with val := v, fresh := true }) rfl _ (((Fr.refl (fun b => b = g) w1).setCell (p := ⟨g, 1, none⟩) (.inl rfl) (Value.int .i64 v)).setCell (p := ⟨g, 3, none⟩) (.inl rfl) (.bool true)) ((hB1.set_ 1 (Value.int .i64 v)).set_ 3 (.bool true))
  have hF3 : Fr (foot rb fb mb bs) w ((w1.setCell ⟨g, 1, none⟩ (Value.int .i64 v)).setCell ⟨g, 3, none⟩ (.bool true)) := ((hF1.mono (fun _ _ h => h.elim)).setCell (.inl (.inr (.inr (.inr (List.mem_of_getElem? hb))))) _).setCell (.inl (.inr (.inr (.inr (List.mem_of_getElem? hb))))) _
  refine (findI_some _ rb fb mb bs st hR1 k hk i g hi hb hI.n64).mono ?_
  rintro e w' ⟨rfl, rfl⟩
  go_wp2_with fail
  obtain ⟨hOd, hFd⟩ := outStoredI hO3 rfl (.int .i64 0) (Value.int .i64 0) (.bool false)
  have q0 := hOd.cell 0
  have q1 := hOd.cell 1
  have q2 := hOd.cell 2
  refine bodyPost_ret (v := .tuple #[outVI none, .bool true]) (by simp [results, Try.results10, go_sem, q0, q1, q2, outVI]) rfl ⟨rfl, hR3.keep hFd hfo, fr_outI hF3 hFd (Nat.le_refl _)⟩

set_option maxRecDepth 100000 in
set_option maxHeartbeats 1000000 in
theorem PutI_vacant (hR : RingI w rb fb mb bs st) {top : Int} (hI : RInv st top) (k : Int) (hk : in64 k) (v : Int) (i : Nat) (hi : rIdx k st.fs = none) (hv : rVac st.fs = some i) :
    Calls Try.prog 10 #[.pointer (some ⟨rb, 0, none⟩), .int .i64 k, Value.int .i64 v] w fun e w' => e = .returned (.tuple #[outVI none, .bool true]) ∧
      (∃ g, w.heap.size ≤ g ∧ RingI w' rb fb mb (bs.set i (some g)) ⟨st.fs.set i (some ⟨k, v, 0, true⟩), st.hand⟩) ∧ Fr (foot rb fb mb bs) w w' := by
  have hvn := rVac_some hv
  have hlt : i < st.fs.length := (List.getElem?_eq_some_iff.1 hvn).1
  go_enter Try.func10, Try.ntmps10
  go_wp2_with fail
  have hF1 : Fr (fun _ => False) w (w.alloc (.cells #[.int .i64 0, Value.int .i64 0, .bool false] 27)) := (Fr.refl _ w).alloc _
  have hR1 : RingI (w.alloc (.cells #[.int .i64 0, Value.int .i64 0, .bool false] 27)) rb fb mb bs st := hR.keep hF1 (fun _ _ e => e)
  have hO := outBlkI w
  have hsz : (w.alloc (.cells #[.int .i64 0, Value.int .i64 0, .bool false] 27)).heap.size = w.heap.size + 1 := by simp
  have hfo : ∀ b, foot rb fb mb bs b → b ≠ w.heap.size := fun b hb e => by have := hR.foot_lt hb; omega
  generalize w.alloc (.cells #[.int .i64 0, Value.int .i64 0, .bool false] 27) = w1 at hF1 hR1 hO hsz ⊢
  have HZ := Lib.hid hsz
  clear hsz
  have hn64 := hI.n64
  have hltz : (i : Int) < (st.fs.length : Int) := by omega
  have c0 := hR1.1.ring.cell 0
  have c1 := hR1.1.ring.cell 1
  have ca := hR1.1.cell_none (hR1.1.at_none hvn)
  have za := hR1.1.arr.frozen i
  obtain ⟨pl, hV, hl, hcnt⟩ := hR1.2
  have hne : rb ≠ fb := hR1.1.ne_rf (by decide)
  obtain ⟨hm1, hm2, hm3⟩ := hR1.1.ne_m hV
  have hnf : ∀ g, some g ∈ bs → g ≠ fb := fun g hg => (hR1.1.ne_fr (by decide) (by decide) hg).2
  have hlen : (vmap (fun n => Value.int .i64 n) pl).length < maxLen := by rw [length_vmap, hcnt]; have := rCnt_le st.fs; unfold maxLen; omega
  have HL := Lib.hid hl
  have HC := Lib.hid hcnt
  have HI := Lib.hid hi
  have HV := Lib.hid hvn
  clear hl hcnt hi hvn
  refine (findI_none _ rb fb mb bs st hR1 k hk HI.out).mono ?_
  rintro e w' ⟨rfl, rfl⟩
  go_wp2_with fail
  refine (vacantI_calls _ rb fb mb bs st hR1.1 hn64).mono ?_
  rintro e w' ⟨rfl, rfl⟩
  rw [hv, vacVal]
  -- the array, and the new frame's block
  have hfb : fb ≠ w1.heap.size := by have := hR1.1.arr.lt; omega
  have hwfb : fb < w1.heap.size := hR1.1.arr.lt
  have hwrb : rb < w1.heap.size := hR1.1.ring.lt
  have hF2 : Fr (fun b => b = fb) w1 ((w1.setCell ⟨fb, i, none⟩ (.pointer (some ⟨w1.heap.size, 0, none⟩))).alloc (.cells #[.int .i64 k, Value.int .i64 v, .int .i64 0, .bool true] 74)) := ((Fr.refl (fun b => b = fb) w1).setCell (p := ⟨fb, i, none⟩) (.inl rfl) _).alloc _
  have hA3 : Blk ((w1.setCell ⟨fb, i, none⟩ (.pointer (some ⟨w1.heap.size, 0, none⟩))).alloc (.cells #[.int .i64 k, Value.int .i64 v, .int .i64 0, .bool true] 74)) fb 71 ((bs.set i (some w1.heap.size)).map ptrOf) := by
    rw [← map_set_ptr]; exact (hR1.1.arr.set_ i _).alloc _
  have hB3 : Blk ((w1.setCell ⟨fb, i, none⟩ (.pointer (some ⟨w1.heap.size, 0, none⟩))).alloc (.cells #[.int .i64 k, Value.int .i64 v, .int .i64 0, .bool true] 74)) w1.heap.size 74 (frCells encI ⟨k, v, 0, true⟩) := by
    have := Blk.new (w1.setCell ⟨fb, i, none⟩ (.pointer (some ⟨w1.heap.size, 0, none⟩))) 74 (frCells encI ⟨k, v, 0, true⟩)
    rw [World.size_setCell] at this
    exact this
  have hR3 := hR1.1.put hlt hF2 hA3 hB3 (Nat.le_refl _) hne hnf
  have hV3 := hV.fr hF2 (fun e => hm2 e.symm)
  have hO3 := hO.fr hF2 (fun e => hfo fb (.inr (.inl rfl)) e.symm)
  have c2 := hR3.ring.cell 1
  have HW := Lib.hid (And.intro hR3 hO3)
  clear hR3 hO3 hA3 hB3
  go_wp2_with (at_mapUpdate; refine wpList_mput _ rfl _ _ _ 68 rfl 3 3 mb Try.underlying3 Try.underlying68 _ hV3 hlen rfl k rfl hk (.int .i64 (i : Int)) rfl ?_; intro w4 hV4 ht4; obtain ⟨o0, o1, o2, x0, x1, x2, y0, y1, y2⟩ := out_cellsI (HW.out.2.turned ht4))
  have hO4 := HW.out.2.turned ht4
  obtain ⟨hOd, hFd⟩ := outStoredI hO4 rfl (.int .i64 0) (Value.int .i64 0) (.bool false)
  have q0 := hOd.cell 0
  have q1 := hOd.cell 1
  have q2 := hOd.cell 2
  have hmap : MapIs Try.prog 3 w4 mb (st.fs.set i (some ⟨k, v, 0, true⟩)) := by
    refine ⟨ins k (i : Int) pl, by rw [vmap_ins]; exact hV4, fun j => ?_, ?_⟩
    · rw [look_ins, rIdx_put hI.uniq hlt (fun j f hj hf => rIdx_none HI.out j f hf), HL.out, rIdx_vac HV.out]
      show (if j = k then _ else _) = Option.map _ (if j = k then _ else _)
      split <;> rfl
    · rw [length_ins ((srt_vmap _).1 hV.2.1), HL.out, HI.out, rCnt_put HV.out, HC.out]; rfl
  have hring : RingI w4 rb fb mb (bs.set i (some w1.heap.size)) ⟨st.fs.set i (some ⟨k, v, 0, true⟩), st.hand⟩ :=
    ⟨HW.out.1.keep ((Fr.refl (fun b => b = mb) _).map ht4 (.inl rfl)) hm1 hm2 (fun g hg => (HW.out.1.ne_m hV3).2.2 g hg), hmap⟩
  have hF4 : Fr (foot rb fb mb bs) w w4 := ((hF1.mono (fun _ _ h => h.elim)).trans hF2 (fun b _ e => .inr (.inl e))).map ht4 (.inl (.inr (.inr (.inl rfl))))
  have hZ := HZ.out
  refine bodyPost_ret (v := .tuple #[outVI none, .bool true]) (by simp [results, Try.results10, go_sem, q0, q1, q2, outVI]) rfl ⟨rfl, ⟨w1.heap.size, by omega, hring.keep hFd fun b hb => ?_⟩, fr_outI hF4 hFd (Nat.le_refl _)⟩
  rcases hb with hb | hb | hb | hb
  · exact hfo b (.inl hb)
  · exact hfo b (.inr (.inl hb))
  · exact hfo b (.inr (.inr (.inl hb)))
  · rcases List.mem_or_eq_of_mem_set hb with hb | hb
    · exact hfo b (.inr (.inr (.inr hb)))
    · cases hb; omega

set_option maxRecDepth 100000 in
theorem PutI_full (hR : RingI w rb fb mb bs st) {top : Int} (hI : RInv st top) (k : Int) (hk : in64 k) (v : Int) (hi : rIdx k st.fs = none) (hv : rVac st.fs = none) (hp : rPinned st.fs = true) :
    Calls Try.prog 10 #[.pointer (some ⟨rb, 0, none⟩), .int .i64 k, Value.int .i64 v] w fun e w' => e = .returned (.tuple #[outVI none, .bool false]) ∧
      RingI w' rb fb mb bs st ∧ Fr (foot rb fb mb bs) w w' := by
  go_enter Try.func10, Try.ntmps10
  go_wp2_with fail
  have hF1 : Fr (fun _ => False) w (w.alloc (.cells #[.int .i64 0, Value.int .i64 0, .bool false] 27)) := (Fr.refl _ w).alloc _
  have hR1 : RingI (w.alloc (.cells #[.int .i64 0, Value.int .i64 0, .bool false] 27)) rb fb mb bs st := hR.keep hF1 (fun _ _ e => e)
  have hO := outBlkI w
  have hsz : (w.alloc (.cells #[.int .i64 0, Value.int .i64 0, .bool false] 27)).heap.size = w.heap.size + 1 := by simp
  have hfo : ∀ b, foot rb fb mb bs b → b ≠ w.heap.size := fun b hb e => by have := hR.foot_lt hb; omega
  generalize w.alloc (.cells #[.int .i64 0, Value.int .i64 0, .bool false] 27) = w1 at hF1 hR1 hO hsz ⊢
  have HZ := Lib.hid hsz
  clear hsz
  have hn64 := hI.n64
  have HI := Lib.hid hi
  clear hi
  obtain ⟨o0, o1, o2, x0, x1, x2, y0, y1, y2⟩ := out_cellsI hO
  refine (findI_none _ rb fb mb bs st hR1 k hk HI.out).mono ?_
  rintro e w' ⟨rfl, rfl⟩
  go_wp2_with fail
  refine (vacantI_calls _ rb fb mb bs st hR1.1 hn64).mono ?_
  rintro e w' ⟨rfl, rfl⟩
  rw [hv, vacVal]
  go_wp2_with fail
  refine (pinnedI_calls _ rb fb mb bs st hR1.1 hn64).mono ?_
  rintro e w' ⟨rfl, rfl⟩
  rw [hp]
  go_wp2_with fail
  obtain ⟨hOd, hFd⟩ := outStoredI hO rfl (.int .i64 0) (Value.int .i64 0) (.bool false)
  have q0 := hOd.cell 0
  have q1 := hOd.cell 1
  have q2 := hOd.cell 2
  refine bodyPost_ret (v := .tuple #[outVI none, .bool false]) (by simp [results, Try.results10, go_sem, q0, q1, q2, outVI]) rfl ⟨rfl, hR1.keep hFd hfo, fr_outI (hF1.mono (fun _ _ h => h.elim)) hFd (Nat.le_refl _)⟩

set_option maxRecDepth 100000 in
set_option maxHeartbeats 1000000 in
theorem PutI_leave (hR : RingI w rb fb mb bs st) {top : Int} (hI : RInv st top) (k : Int) (hk : in64 k) (v : Int) (hi : rIdx k st.fs = none) (hv : rVac st.fs = none) (hp : rPinned st.fs = false) (stE : RS Int) (hs : rSeek (2 * st.fs.length + 1) st = some stE) (f : Fm Int) (hf : stE.fs[stE.hand]? = some (some f)) :
    Calls Try.prog 10 #[.pointer (some ⟨rb, 0, none⟩), .int .i64 k, Value.int .i64 v] w fun e w' => e = .returned (.tuple #[outVI (some f), .bool true]) ∧
      (∃ g, w.heap.size ≤ g ∧ RingI w' rb fb mb (bs.set stE.hand (some g)) ⟨stE.fs.set stE.hand (some ⟨k, v, 0, true⟩), (stE.hand + 1) % stE.fs.length⟩) ∧ Fr (foot rb fb mb bs) w w' := by
  have hfull := full_of_vac hv
  obtain ⟨hIE, hfE, hal, hcan, hidx, hcntE⟩ := rSeek_some hs hI hfull
  go_enter Try.func10, Try.ntmps10
  go_wp2_with fail
  have hF1 : Fr (fun _ => False) w (w.alloc (.cells #[.int .i64 0, Value.int .i64 0, .bool false] 27)) := (Fr.refl _ w).alloc _
  have hR1 : RingI (w.alloc (.cells #[.int .i64 0, Value.int .i64 0, .bool false] 27)) rb fb mb bs st := hR.keep hF1 (fun _ _ e => e)
  have hO := outBlkI w
  have hsz : (w.alloc (.cells #[.int .i64 0, Value.int .i64 0, .bool false] 27)).heap.size = w.heap.size + 1 := by simp
  have hfo : ∀ b, foot rb fb mb bs b → b ≠ w.heap.size := fun b hb e => by have := hR.foot_lt hb; omega
  generalize w.alloc (.cells #[.int .i64 0, Value.int .i64 0, .bool false] 27) = w1 at hF1 hR1 hO hsz ⊢
  have HZ := Lib.hid hsz
  clear hsz
  have hn64 := hI.n64
  have hnE : stE.fs.length ≤ 64 := hIE.n64
  have hi1 : stE.hand < stE.fs.length := hIE.hand
  have HI := Lib.hid hi
  have HX := Lib.hid hidx
  have HA := Lib.hid hal
  clear hi hidx hal hcan hcntE
  refine (findI_none _ rb fb mb bs st hR1 k hk HI.out).mono ?_
  rintro e w' ⟨rfl, rfl⟩
  go_wp2_with fail
  refine (vacantI_calls _ rb fb mb bs st hR1.1 hn64).mono ?_
  rintro e w' ⟨rfl, rfl⟩
  rw [hv, vacVal]
  go_wp2_with fail
  refine (pinnedI_calls _ rb fb mb bs st hR1.1 hn64).mono ?_
  rintro e w' ⟨rfl, rfl⟩
  rw [hp]
  go_wp2_with fail
  refine (freeI_calls w1 rb fb mb bs st hR1.1 hR1.2 hI hfull stE hs f hf).mono ?_
  rintro e w2 ⟨rfl, hR2, hM2, hF2⟩
  have HF := Lib.hid hf
  have HS := Lib.hid hs
  have hO2 := hO.fr hF2 (fun h => hfo _ h rfl)
  have hsz2 := hF2.size
  clear hf hs hv hp
  obtain ⟨p0, p1, p2⟩ : w2.cell? ⟨w.heap.size, 0, none⟩ = some (.int .i64 0) ∧ w2.cell? ⟨w.heap.size, 1, none⟩ = some (Value.int .i64 0) ∧ w2.cell? ⟨w.heap.size, 2, none⟩ = some (.bool false) := ⟨hO2.cell 0, hO2.cell 1, hO2.cell 2⟩
  have p3 := hO2.frozen 0
  have p4 := hO2.frozen 1
  have p5 := hO2.frozen 2
  have p6 := (hO2.set_ 0 (.int .i64 f.key)).cell 1
  have p7 := (hO2.set_ 0 (.int .i64 f.key)).cell 2
  have p8 := ((hO2.set_ 0 (.int .i64 f.key)).set_ 1 ((fun v => Value.int .i64 v) f.val)).cell 2
  -- what left is told
  obtain ⟨hO3, hF3⟩ := outStoredI hO2 rfl (.int .i64 f.key) ((fun v => Value.int .i64 v) f.val) (.bool true)
  have hR3 := hR2.keep hF3 (fun e => hfo rb (.inl rfl) e) (fun e => hfo fb (.inr (.inl rfl)) e) (fun g hg e => hfo g (.inr (.inr (.inr hg))) e)
  have hM3 := hM2.keep hF3 (fun e => hfo mb (.inr (.inr (.inl rfl))) e)
  have hsz3 := hF3.size
  have W3 : ∃ w3, w3 = ((w2.setCell ⟨w.heap.size, 0, none⟩ (.int .i64 f.key)).setCell ⟨w.heap.size, 1, none⟩ ((fun v => Value.int .i64 v) f.val)).setCell ⟨w.heap.size, 2, none⟩ (.bool true) := ⟨_, rfl⟩
  go_upto_region 12 with fail
  generalize ((w2.setCell ⟨w.heap.size, 0, none⟩ (.int .i64 f.key)).setCell ⟨w.heap.size, 1, none⟩ ((fun v => Value.int .i64 v) f.val)).setCell ⟨w.heap.size, 2, none⟩ (.bool true) = w3 at hO3 hF3 hR3 hM3 hsz3 ⊢
  clear p0 p1 p2 p3 p4 p5 p6 p7 p8 W3
  obtain ⟨gold, hbold, hBold⟩ := hR3.at_some (st := ⟨stE.fs, (stE.hand + 1) % stE.fs.length⟩) HF.out
  have hltz : (stE.hand : Int) < (stE.fs.length : Int) := by omega
  have c0 := hR3.ring.cell 0
  have c1 := hR3.ring.cell 1
  have ca := hR3.cell_some hbold
  have za := hR3.arr.frozen stE.hand
  obtain ⟨pl, hV, hl, hcnt⟩ := hM3
  have hne : rb ≠ fb := hR3.ne_rf (by decide)
  obtain ⟨hm1, hm2, hm3⟩ := hR3.ne_m hV
  have hnf : ∀ g, some g ∈ bs → g ≠ fb := fun g hg => (hR3.ne_fr (by decide) (by decide) hg).2
  have hlen : (vmap (fun n => Value.int .i64 n) pl).length < maxLen := by rw [length_vmap, hcnt]; have := rCnt_le (stE.fs.set stE.hand none); rw [List.length_set] at this; unfold maxLen; omega
  have HL := Lib.hid hl
  have HC := Lib.hid hcnt
  clear hl hcnt
  have hwfb : fb < w3.heap.size := hR3.arr.lt
  have hwrb : rb < w3.heap.size := hR3.ring.lt
  have hfb : fb ≠ w3.heap.size := by omega
  have hF4 : Fr (fun b => b = fb) w3 ((w3.setCell ⟨fb, stE.hand, none⟩ (.pointer (some ⟨w3.heap.size, 0, none⟩))).alloc (.cells #[.int .i64 k, Value.int .i64 v, .int .i64 0, .bool true] 74)) := ((Fr.refl (fun b => b = fb) w3).setCell (p := ⟨fb, stE.hand, none⟩) (.inl rfl) _).alloc _
  have hA4 : Blk ((w3.setCell ⟨fb, stE.hand, none⟩ (.pointer (some ⟨w3.heap.size, 0, none⟩))).alloc (.cells #[.int .i64 k, Value.int .i64 v, .int .i64 0, .bool true] 74)) fb 71 ((bs.set stE.hand (some w3.heap.size)).map ptrOf) := by
    rw [← map_set_ptr]; exact (hR3.arr.set_ stE.hand _).alloc _
  have hB4 : Blk ((w3.setCell ⟨fb, stE.hand, none⟩ (.pointer (some ⟨w3.heap.size, 0, none⟩))).alloc (.cells #[.int .i64 k, Value.int .i64 v, .int .i64 0, .bool true] 74)) w3.heap.size 74 (frCells encI ⟨k, v, 0, true⟩) := by
    have := Blk.new (w3.setCell ⟨fb, stE.hand, none⟩ (.pointer (some ⟨w3.heap.size, 0, none⟩))) 74 (frCells encI ⟨k, v, 0, true⟩)
    rw [World.size_setCell] at this
    exact this
  have hR4 := hR3.put hi1 hF4 hA4 hB4 (Nat.le_refl _) hne hnf
  have hV4 := hV.fr hF4 (fun e => hm2 e.symm)
  have hO4 := hO3.fr hF4 (fun e => hfo fb (.inr (.inl rfl)) e.symm)
  have c2 := hR4.ring.cell 1
  have HW := Lib.hid (And.intro hR4 hO4)
  clear hR4 hO4 hA4 hB4 hBold hbold
  go_wp2_with (at_mapUpdate; refine wpList_mput _ rfl _ _ _ 68 rfl 3 3 mb Try.underlying3 Try.underlying68 _ hV4 hlen rfl k rfl hk (.int .i64 (stE.hand : Int)) rfl ?_; intro w4 hV5 ht4; obtain ⟨o0, o1, o2, x0, x1, x2, y0, y1, y2⟩ := out_cellsI (HW.out.2.turned ht4))
  have hO5 := HW.out.2.turned ht4
  obtain ⟨hOd, hFd⟩ := outStoredI hO5 rfl (.int .i64 f.key) ((fun v => Value.int .i64 v) f.val) (.bool true)
  have q0 := hOd.cell 0
  have q1 := hOd.cell 1
  have q2 := hOd.cell 2
  have hnk : ∀ (j : Nat) (x : Fm Int), j ≠ stE.hand → stE.fs[j]? = some (some x) → x.key ≠ k := fun j x _ hx => rIdx_none (by rw [HX.out]; exact HI.out) j x hx
  have hmap : MapIs Try.prog 3 w4 mb (stE.fs.set stE.hand (some ⟨k, v, 0, true⟩)) := by
    refine ⟨ins k (stE.hand : Int) pl, by rw [vmap_ins]; exact hV5, fun j => ?_, ?_⟩
    · rw [look_ins, rIdx_put hIE.uniq hi1 hnk, HL.out]
      show (if j = k then _ else _) = Option.map _ (if j = k then _ else _)
      split <;> rfl
    · rw [length_ins ((srt_vmap _).1 hV.2.1), HL.out, HC.out]
      have h1 : rIdx k (stE.fs.set stE.hand none) = none := by
        rw [rIdx_del hIE.uniq HF.out]
        split
        · rfl
        · rw [HX.out]; exact HI.out
      have h2 := rCnt_del HF.out
      have h3 := rCnt_set_some (g := ⟨k, v, 0, true⟩) HF.out
      rw [h1, h3]
      simp
      omega
  have hring : RingI w4 rb fb mb (bs.set stE.hand (some w3.heap.size)) ⟨stE.fs.set stE.hand (some ⟨k, v, 0, true⟩), (stE.hand + 1) % stE.fs.length⟩ :=
    ⟨HW.out.1.keep ((Fr.refl (fun b => b = mb) _).map ht4 (.inl rfl)) hm1 hm2 (fun g hg => (HW.out.1.ne_m hV4).2.2 g hg), hmap⟩
  have hZ := HZ.out
  have hFa : Fr (foot rb fb mb bs) w w3 := fr_outI ((hF1.mono (fun _ _ h => h.elim)).trans hF2 (fun _ _ h => h)) hF3 (Nat.le_refl _)
  have hFb : Fr (foot rb fb mb bs) w w4 := (hFa.trans hF4 (fun b _ e => .inr (.inl e))).map ht4 (.inl (.inr (.inr (.inl rfl))))
  refine bodyPost_ret (v := .tuple #[outVI (some f), .bool true]) (by simp [results, Try.results10, go_sem, q0, q1, q2, outVI]) rfl ⟨rfl, ⟨w3.heap.size, by omega, hring.keep hFd fun b hb => ?_⟩, fr_outI hFb hFd (Nat.le_refl _)⟩
  rcases hb with hb | hb | hb | hb
  · exact hfo b (.inl hb)
  · exact hfo b (.inr (.inl hb))
  · exact hfo b (.inr (.inr (.inl hb)))
  · rcases List.mem_or_eq_of_mem_set hb with hb | hb
    · exact hfo b (.inr (.inr (.inr hb)))
    · cases hb; omega

theorem DelI_none (hR : RingI w rb fb mb bs st) (k : Int) (hk : in64 k) (hi : rIdx k st.fs = none) :
    Calls Try.prog 32 #[.pointer (some ⟨rb, 0, none⟩), .int .i64 k] w fun e w' => e = .returned (.tuple #[Value.int .i64 0, .bool false]) ∧ w = w' := by
  go_enter Try.func32, Try.ntmps32
  go_wp2_with (go_at_call 34; refine (findI_none _ rb fb mb bs st hR k hk hi).mono ?_; rintro e w' ⟨rfl, rfl⟩)
  go_ret2
  exact ⟨rfl, rfl⟩

set_option maxRecDepth 100000 in
set_option maxHeartbeats 1000000 in
theorem DelI_some (hR : RingI w rb fb mb bs st) {top : Int} (hI : RInv st top) (k : Int) (hk : in64 k) (i : Nat) (f : Fm Int) (hi : rIdx k st.fs = some i) (hf : st.fs[i]? = some (some f)) :
    Calls Try.prog 32 #[.pointer (some ⟨rb, 0, none⟩), .int .i64 k] w fun e w' => e = .returned (.tuple #[(fun v => Value.int .i64 v) f.val, .bool true]) ∧
      RingI w' rb fb mb (bs.set i none) ⟨st.fs.set i none, st.hand⟩ ∧ Fr (foot rb fb mb bs) w w' := by
  obtain ⟨g, hb, hB⟩ := hR.1.at_some hf
  have hkf : f.key = k := by
    obtain ⟨f', h1, h2⟩ := rIdx_some hi
    rw [hf] at h1; cases h1; exact h2
  have hn64 := hI.n64
  have hlt : i < st.fs.length := (List.getElem?_eq_some_iff.1 hf).1
  have hltz : (i : Int) < (st.fs.length : Int) := by omega
  have c0 := hR.1.ring.cell 0
  have c1 := hR.1.ring.cell 1
  have ca := hR.1.cell_some hb
  have za := hR.1.arr.frozen i
  obtain ⟨hng1, hng2, hng3, hng4, hng5, hng6⟩ := fr_neI w rb fb mb bs st hR hb
  obtain ⟨pl, hV, hl, hcnt⟩ := hR.2
  have hl' := hl k
  rw [hi] at hl'
  have HL := Lib.hid hl
  have HL' := Lib.hid hl'
  have HC := Lib.hid hcnt
  have HI := Lib.hid hi
  have HF := Lib.hid hf
  have HK := Lib.hid hkf
  clear hl hl' hcnt hi hf hkf
  -- the array, then the map
  have hF2 : Fr (fun b => b = fb) w (w.drew.setCell ⟨fb, i, none⟩ (.pointer none)) := ((Fr.refl (fun b => b = fb) w).drew).setCell (p := ⟨fb, i, none⟩) (.inl rfl) _
  have hA2 : Blk (w.drew.setCell ⟨fb, i, none⟩ (.pointer none)) fb 71 ((bs.set i none).map ptrOf) := by
    rw [← map_set_ptr]; exact hR.1.arr.drew.set_ i _
  have hR2 := hR.1.del hF2 hA2 hng4 (fun g hg => (hR.1.ne_fr (by decide) (by decide) hg).2)
  have hV2 := hV.fr hF2 (fun e => hng6 e.symm)
  have c2 := hR2.ring.cell 1
  have hB2 := hB.fr hF2 (fun e => hng2 e.symm)
  obtain ⟨d0, d1, d2, d3⟩ := cellsI f _ g hB2
  have HW := Lib.hid hR2
  have hlk : (Instr.lookup 68 (.map (some mb)) (.int .i64 k) false).run Try.prog w = .ok (.int .i64 i) w := by
    rw [hV.find (t := 68) Try.underlying3 Try.underlying68 (zeroKI _) hk, look_vmap, HL'.out]; rfl
  have hlk' : (Instr.lookup 68 (.map (some mb)) (.int .i64 k) false).run Try.prog w.drew = .ok (.int .i64 i) w.drew := by
    rw [hV.drew.find (t := 68) Try.underlying3 Try.underlying68 (zeroKI _) hk, look_vmap, HL'.out]; rfl
  clear hA2 hR2
  go_enter Try.func32, Try.ntmps32
  go_wp2_with (go_at_call 34; refine (findI_some _ rb fb mb bs st hR k hk i g HI.out hb hn64).mono ?_; rintro e w' ⟨rfl, rfl⟩)
  go_still_tail 11, (by kernel_rfl)
  go_wp2_with (at_delete; refine wpList_mdel _ rfl _ _ 68 3 rfl 3 mb Try.underlying3 Try.underlying68 _ hV2 rfl k rfl hk ?_; intro w3 hV3 ht3; obtain ⟨g0, g1, g2, g3⟩ := cellsI f _ g (hB2.turned ht3))
  go_ret2
  have hring : RingZI w3 rb fb mb (bs.set i none) ⟨st.fs.set i none, st.hand⟩ := HW.out.keep ((Fr.refl (fun b => b = mb) _).map ht3 (.inl rfl)) hng5 hng6 (fun g' hg' => (HW.out.ne_m hV2).2.2 g' hg')
  refine ⟨rfl, ⟨hring, del k pl, by rw [vmap_del]; exact hV3, fun j => ?_, ?_⟩, ((hF2.mono (fun b _ e => .inr (.inl e))).map ht3 (.inl (.inr (.inr (.inl rfl)))))⟩
  · rw [look_del, rIdx_del hI.uniq HF.out, HL.out, HK.out]; split <;> rfl
  · have h1 := length_del (k := k) ((srt_vmap _).1 hV.2.1)
    have h2 := rCnt_del HF.out
    rw [HL'.out] at h1
    have h3 := HC.out
    simp only [Option.map_some, Option.isSome_some, if_true] at h1
    show (del k pl).length = rCnt (st.fs.set i none)
    omega

theorem PutI_calls (hR : RingI w rb fb mb bs st) {top : Int} (hI : RInv st top) (ht : 0 ≤ top) (k : Int) (hk : in64 k) (v : Int) :
    Calls Try.prog 10 #[.pointer (some ⟨rb, 0, none⟩), .int .i64 k, Value.int .i64 v] w fun e w' => e = .returned (.tuple #[outVI (rPut k v st).1, .bool (rPut k v st).2.1]) ∧
      (∃ bs', newer w bs bs' ∧ RingI w' rb fb mb bs' (rPut k v st).2.2) ∧ RInv (rPut k v st).2.2 top ∧ Fr (foot rb fb mb bs) w w' := by
  unfold rPut
  cases hi : rIdx k st.fs with
  | some i =>
    obtain ⟨f, hf, hfk⟩ := rIdx_some hi
    simp only [hf, Option.join_some]
    refine (PutI_have w rb fb mb bs st hR hI k hk v i f hi hf).mono fun e w' ⟨h1, h2, h3⟩ => ⟨h1, ⟨bs, newer_refl w bs, h2⟩, hI.set_ (g := { f with val := v, fresh := true }) hf rfl (hI.pins i f hf) _ hI.hand, h3⟩
  | none =>
    cases hv : rVac st.fs with
    | some i =>
      refine (PutI_vacant w rb fb mb bs st hR hI k hk v i hi hv).mono fun e w' ⟨h1, ⟨g, hg, h2⟩, h3⟩ => ⟨h1, ⟨_, newer_set i hg, h2⟩, hI.put (List.getElem?_eq_some_iff.1 (rVac_some hv)).1 (fun j f _ hf => rIdx_none hi j f hf) hk ⟨Int.le_refl 0, ht⟩ _ hI.hand, h3⟩
    | none =>
      cases hp : rPinned st.fs with
      | true =>
        simp only [if_true]
        refine (PutI_full w rb fb mb bs st hR hI k hk v hi hv hp).mono fun e w' ⟨h1, h2, h3⟩ => ⟨h1, ⟨bs, newer_refl w bs, h2⟩, hI, h3⟩
      | false =>
        obtain ⟨stE, hs⟩ := rSeek_ok hI (full_of_vac hv) hp
        obtain ⟨hIE, hfE, _, _, hidx, _⟩ := rSeek_some hs hI (full_of_vac hv)
        obtain ⟨f, hf⟩ := hfE _ hIE.hand
        simp only [hs, hf, Option.join_some]
        have hm : (stE.hand + 1) % stE.fs.length < stE.fs.length := Nat.mod_lt _ (by have := hIE.n1; omega)
        refine (PutI_leave w rb fb mb bs st hR hI k hk v hi hv hp stE hs f hf).mono fun e w' ⟨h1, ⟨g, hg, h2⟩, h3⟩ => ⟨h1, ⟨_, newer_set _ hg, h2⟩, hIE.put hIE.hand (fun j x _ hx => rIdx_none (by rw [hidx]; exact hi) j x hx) hk ⟨Int.le_refl 0, ht⟩ _ hm, h3⟩

theorem PutI_eq (hR : RingI w rb fb mb bs st) {top : Int} (hI : RInv st top) (ht : 0 ≤ top) (k : Int) (hk : in64 k) (v : Int) {o : Option (Fm Int)} {ok : Bool} {st' : RS Int} (h : rPut k v st = (o, ok, st')) :
    Calls Try.prog 10 #[.pointer (some ⟨rb, 0, none⟩), .int .i64 k, Value.int .i64 v] w fun e w' => e = .returned (.tuple #[outVI o, .bool ok]) ∧
      (∃ bs', newer w bs bs' ∧ RingI w' rb fb mb bs' st') ∧ RInv st' top ∧ Fr (foot rb fb mb bs) w w' := by
  have := PutI_calls w rb fb mb bs st hR hI ht k hk v
  rw [h] at this
  exact this
end

/-! ### the nil ring -/
theorem findI_nil (w : World) (k : Int) : Calls Try.prog 34 #[.pointer none, .int .i64 k] w fun e w' => e = .returned (.pointer none) ∧ w = w' := by
  go_enter Try.func34, Try.ntmps34
  go_wp2_with fail
  go_ret
  exact ⟨rfl, rfl⟩

end Go.Proofs.Ytbiaompkmabfjaa
