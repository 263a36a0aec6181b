/- The ring's reference: Put. -/
import Derived.Test.YtbiaompkmabfjaaRefS
namespace Go.Proofs.Ytbiaompkmabfjaa
open Go.Maps Go.RowKit

/-- how many things are pinned -/
def cntPin : List (Option (Fm ByteArray)) → Nat
  | [] => 0
  | none :: r => cntPin r
  | some f :: r => (if 0 < f.pins then 1 else 0) + cntPin r

theorem cntPin_le (l : List (Option (Fm ByteArray))) : cntPin l ≤ l.length := by
  induction l with
  | nil => simp [cntPin]
  | cons o r ih =>
    cases o with
    | none => simp [cntPin]; omega
    | some f => simp only [cntPin, List.length_cons]; split <;> omega

theorem cntPin_append (a b : List (Option (Fm ByteArray))) : cntPin (a ++ b) = cntPin a + cntPin b := by
  induction a with
  | nil => simp [cntPin]
  | cons o r ih => cases o <;> simp [cntPin, ih]; omega

theorem cntPin_step {l : List (Option (Fm ByteArray))} {j : Nat} {f : Fm ByteArray} (h : l[j]? = some (some f)) : cntPin (l.take (j + 1)) = cntPin (l.take j) + if 0 < f.pins then 1 else 0 := by
  have hlt := (List.getElem?_eq_some_iff.1 h).1
  rw [List.take_succ_eq_append_getElem hlt, cntPin_append, (List.getElem?_eq_some_iff.1 h).2]
  simp [cntPin]

theorem cntPin_iff {l : List (Option (Fm ByteArray))} (h : ∀ f, some f ∈ l → 0 ≤ f.pins) : cntPin l = l.length ↔ rPinned l = true := by
  induction l with
  | nil => simp [cntPin, rPinned]
  | cons o r ih =>
    have ih := ih (fun f hf => h f (List.mem_cons_of_mem _ hf))
    have hle := cntPin_le r
    unfold rPinned at ih ⊢
    cases o with
    | none => simp only [cntPin, List.length_cons, List.all_cons, Bool.false_and, Bool.false_eq_true, iff_false]; omega
    | some f =>
      have hf := h f (List.mem_cons_self ..)
      simp only [cntPin, List.length_cons, List.all_cons, Bool.and_eq_true, ← ih, bne_iff_ne, ne_eq]
      by_cases hp : 0 < f.pins
      · rw [if_pos hp]; omega
      · rw [if_neg hp]; omega

theorem ob_stored {W : World} {o : Nat} {cs : List Value} (hO : Blk W o 55 cs) (hl : cs.length = 5) (a b c d e : Value) :
    Blk (((((W.setCell ⟨o, 0, none⟩ a).setCell ⟨o, 1, none⟩ b).setCell ⟨o, 2, none⟩ c).setCell ⟨o, 3, none⟩ d).setCell ⟨o, 4, none⟩ e) o 55 [a, b, c, d, e] ∧ Fr (fun x => x = o) W (((((W.setCell ⟨o, 0, none⟩ a).setCell ⟨o, 1, none⟩ b).setCell ⟨o, 2, none⟩ c).setCell ⟨o, 3, none⟩ d).setCell ⟨o, 4, none⟩ e) := by
  refine ⟨?_, (((((Fr.refl (fun x => x = o) W).setCell (p := ⟨o, 0, none⟩) (.inl rfl) _).setCell (p := ⟨o, 1, none⟩) (.inl rfl) _).setCell (p := ⟨o, 2, none⟩) (.inl rfl) _).setCell (p := ⟨o, 3, none⟩) (.inl rfl) _).setCell (p := ⟨o, 4, none⟩) (.inl rfl) _⟩
  match cs, hl with
  | [x, y, z, u, v], _ => exact ((((hO.set_ 0 a).set_ 1 b).set_ 2 c).set_ 3 d).set_ 4 e

theorem Fr.drewN_ (S : Nat → Prop) (w : World) (n : Nat) : Fr S w (w.drewN n) := ⟨rfl, rfl, rfl, Nat.le_refl _, fun _ _ _ => rfl⟩

theorem IsRef.drewN {w : World} {ub lb : Nat} {st : RS ByteArray} (h : IsRef w ub lb st) (n : Nat) : IsRef (w.drewN n) ub lb st := h.fr (Fr.drewN_ (fun _ => False) w n) (fun h => h) (fun h => h)

theorem set_same {α : Type} {l : List α} {i : Nat} {x : α} (h : l[i]? = some x) : l.set i x = l := by
  refine List.ext_getElem? fun j => ?_
  rw [List.getElem?_set]
  split
  · rename_i e; subst e; rw [if_pos (List.getElem?_eq_some_iff.1 h).1, h]
  · rfl

theorem IsRef.put5 {w : World} {ub lb : Nat} {st : RS ByteArray} (h : IsRef w ub lb st) {i : Nat} {o o' : Option (Fm ByteArray)} (hi : st.fs[i]? = some o) {a b c d e : Value} (he : refCells o' = [a, b, c, d, e]) :
    IsRef (((((w.setCell ⟨lb, i * 5, none⟩ a).setCell ⟨lb, i * 5 + 1, none⟩ b).setCell ⟨lb, i * 5 + 2, none⟩ c).setCell ⟨lb, i * 5 + 3, none⟩ d).setCell ⟨lb, i * 5 + 4, none⟩ e) ub lb ⟨st.fs.set i o', st.hand⟩ := by
  refine ⟨?_, h.row.put hi he⟩
  have := ((((h.ring.far (p := ⟨lb, i * 5, none⟩) h.ne_ a).far (p := ⟨lb, i * 5 + 1, none⟩) h.ne_ b).far (p := ⟨lb, i * 5 + 2, none⟩) h.ne_ c).far (p := ⟨lb, i * 5 + 3, none⟩) h.ne_ d).far (p := ⟨lb, i * 5 + 4, none⟩) h.ne_ e
  simpa using this

def frameV (o : Option (Fm ByteArray)) : Value := .agg (refCells o).toArray

section
variable (w : World) (ub lb : Nat) (st : RS ByteArray)

set_option maxRecDepth 100000 in
set_option maxHeartbeats 1000000 in
theorem refPut_have (hR : IsRef w ub lb st) {top : Int} (hI : RInv st top) (k : Int) (v : ByteArray) (i : Nat) (f : Fm ByteArray) (hi : rIdx k st.fs = some i) (hf : st.fs[i]? = some (some f)) :
    Calls Try.prog 23 #[.pointer (some ⟨ub, 0, none⟩), .int .i64 k, .string v] w fun e w' => e = .returned (.tuple #[frameV none, .bool true]) ∧ IsRef w' ub lb ⟨st.fs.set i (some { f with val := v, fresh := true }), st.hand⟩ ∧ Fr (fun b => b = lb ∨ b = ub) w w' := by
  have hlt := (List.getElem?_eq_some_iff.1 hf).1
  have q1 : (0 : Int) ≤ (i : Int) := by omega
  have q2 : (i : Int) < (st.fs.length : Int) := by omega
  go_enter Try.func23, Try.ntmps23
  go_wp2_with fail
  have hF1 : Fr (fun _ => False) w (w.alloc (.cells #[.bool false, .int .i64 0, .string { data := #[] }, .int .i64 0, .bool false] 55)) := (Fr.refl _ w).alloc _
  have hR1 := hR.fr hF1 (fun h => h) (fun h => h)
  have hO := Blk.new w 55 [.bool false, .int .i64 0, .string { data := #[] }, .int .i64 0, .bool false]
  have hlub := hR.lts.1
  have hllb := hR.lts.2
  have no1 : ub ≠ w.heap.size := by omega
  have no2 : lb ≠ w.heap.size := by omega
  have no3 : w.heap.size ≠ ub := by omega
  have no4 : w.heap.size ≠ lb := by omega
  generalize w.alloc (.cells #[.bool false, .int .i64 0, .string { data := #[] }, .int .i64 0, .bool false] 55) = w1 at hF1 hR1 hO ⊢
  obtain ⟨ob, hob⟩ : ∃ o, o = w.heap.size := ⟨_, rfl⟩
  have hob' : w.heap.size ≤ ob := by omega
  rw [← hob] at hO no1 no2 no3 no4 ⊢
  clear hob hlub hllb
  have hn := hI.n64
  have c0 := hR1.ring.cell 0
  have l1 := hR1.ne_
  have l2 := Ne.symm l1
  obtain ⟨a0, a1, a2, a3, a4⟩ := hR1.at_some hf
  have z2 := hR1.row.frozen (i * 5 + 2)
  have z4 := hR1.row.frozen (i * 5 + 4)
  have o0 := hO.cell 0
  have o1 := hO.cell 1
  have o2 := hO.cell 2
  have o3 := hO.cell 3
  have o4 := hO.cell 4
  have x0 := hO.frozen 0
  have x1 := hO.frozen 1
  have x2 := hO.frozen 2
  have x3 := hO.frozen 3
  have x4 := hO.frozen 4
  refine (place_calls w1 ub lb st hR1 hn k).mono ?_
  rintro _ w' ⟨rfl, rfl⟩
  rw [hi]
  simp only [placeV]
  go_wp2_with fail
  have hS := (hR1.set_ hf (j := 2) (o' := some { f with val := v }) (by omega) rfl).set_ (i := i) (o := some { f with val := v }) (j := 4) (o' := some { f with val := v, fresh := true }) (v := .bool true) (by simp [hlt]) (by omega) rfl
  rw [List.set_set] at hS
  have hF2 : Fr (fun b => b = lb ∨ b = ub) w1 ((w1.setCell ⟨lb, i * 5 + 2, none⟩ (.string v)).setCell ⟨lb, i * 5 + 4, none⟩ (.bool true)) := ((Fr.refl (fun b => b = lb ∨ b = ub) w1).setCell (p := ⟨lb, i * 5 + 2, none⟩) (.inl (.inl rfl)) _).setCell (p := ⟨lb, i * 5 + 4, none⟩) (.inl (.inl rfl)) _
  have hOz := hO.fr hF2 (fun h => by rcases h with h | h; exact no4 h; exact no3 h)
  obtain ⟨hOd, hFd⟩ := ob_stored hOz rfl (.bool false) (.int .i64 0) (.string { data := #[] }) (.int .i64 0) (.bool false)
  have q0 := hOd.cell 0
  have q1 := hOd.cell 1
  have q2 := hOd.cell 2
  have q3 := hOd.cell 3
  have q4 := hOd.cell 4
  refine bodyPost_ret (v := .tuple #[frameV none, .bool true]) (by simp [results, Try.results23, go_sem, q0, q1, q2, q3, q4, frameV, refCells]) rfl ⟨rfl, hS.fr hFd no1 no2, ((hF1.mono (fun _ _ h => h.elim)).trans hF2 (fun _ _ h => h)).trans hFd (fun b hb h => by subst h; omega)⟩


set_option maxRecDepth 100000 in
set_option maxHeartbeats 1000000 in
theorem refPut_vacant (hR : IsRef w ub lb st) {top : Int} (hI : RInv st top) (k : Int) (v : ByteArray) (i : Nat) (hi : rIdx k st.fs = none) (hv : rVac st.fs = some i) :
    Calls Try.prog 23 #[.pointer (some ⟨ub, 0, none⟩), .int .i64 k, .string v] w fun e w' => e = .returned (.tuple #[frameV none, .bool true]) ∧ IsRef w' ub lb ⟨st.fs.set i (some ⟨k, v, 0, true⟩), st.hand⟩ ∧ Fr (fun b => b = lb ∨ b = ub) w w' := by
  have hf := rVac_some hv
  have hlt := (List.getElem?_eq_some_iff.1 hf).1
  have q1 : (0 : Int) ≤ (i : Int) := by omega
  have q2 : (i : Int) < (st.fs.length : Int) := by omega
  go_enter Try.func23, Try.ntmps23
  go_wp2_with fail
  have hF1 : Fr (fun _ => False) w (w.alloc (.cells #[.bool false, .int .i64 0, .string { data := #[] }, .int .i64 0, .bool false] 55)) := (Fr.refl _ w).alloc _
  have hR1 := hR.fr hF1 (fun h => h) (fun h => h)
  have hO := Blk.new w 55 [.bool false, .int .i64 0, .string { data := #[] }, .int .i64 0, .bool false]
  have hlub := hR.lts.1
  have hllb := hR.lts.2
  have no1 : ub ≠ w.heap.size := by omega
  have no2 : lb ≠ w.heap.size := by omega
  have no3 : w.heap.size ≠ ub := by omega
  have no4 : w.heap.size ≠ lb := by omega
  generalize w.alloc (.cells #[.bool false, .int .i64 0, .string { data := #[] }, .int .i64 0, .bool false] 55) = w1 at hF1 hR1 hO ⊢
  obtain ⟨ob, hob⟩ : ∃ o, o = w.heap.size := ⟨_, rfl⟩
  have hob' : w.heap.size ≤ ob := by omega
  rw [← hob] at hO no1 no2 no3 no4 ⊢
  clear hob hlub hllb
  have hn := hI.n64
  have c0 := hR1.ring.cell 0
  have l1 := hR1.ne_
  have l2 := Ne.symm l1
  refine (place_calls w1 ub lb st hR1 hn k).mono ?_
  rintro _ w' ⟨rfl, rfl⟩
  rw [hi]
  simp only [placeV]
  go_wp2_with fail
  have hA2 : Fr (fun _ => False) w1 (w1.alloc (.cells #[.bool false, .int .i64 0, .string { data := #[] }, .int .i64 0, .bool false] 55)) := (Fr.refl _ w1).alloc _
  have hR2 := hR1.fr hA2 (fun h => h) (fun h => h)
  have hT := Blk.new w1 55 [.bool false, .int .i64 0, .string { data := #[] }, .int .i64 0, .bool false]
  have hO2 := hO.alloc (.cells #[.bool false, .int .i64 0, .string { data := #[] }, .int .i64 0, .bool false] 55)
  have hlub := hR1.lts.1
  have hllb := hR1.lts.2
  have hlob := hO.lt
  have nt1 : ub ≠ w1.heap.size := by omega
  have nt2 : lb ≠ w1.heap.size := by omega
  have nt3 : w1.heap.size ≠ ub := by omega
  have nt4 : w1.heap.size ≠ lb := by omega
  have nt5 : w1.heap.size ≠ ob := by omega
  have nt6 : ob ≠ w1.heap.size := by omega
  have htb : w.heap.size ≤ w1.heap.size := hF1.size
  generalize w1.alloc (.cells #[.bool false, .int .i64 0, .string { data := #[] }, .int .i64 0, .bool false] 55) = w2 at hA2 hR2 hT hO2 ⊢
  have hF2 := hF1.trans hA2 (fun _ _ h => h)
  generalize w1.heap.size = tb at hT nt1 nt2 nt3 nt4 nt5 nt6 htb ⊢
  clear hlub hllb hlob hA2 hF1 hR1 hO
  have c0 := hR2.ring.cell 0
  have b0 := hT.cell 0
  have b1 := hT.cell 1
  have b2 := hT.cell 2
  have b3 := hT.cell 3
  have b4 := hT.cell 4
  obtain ⟨a0, a1, a2, a3, a4⟩ := hR2.at_none hf
  have z0 := hR2.row.frozen (i * 5)
  have z1 := hR2.row.frozen (i * 5 + 1)
  have z2 := hR2.row.frozen (i * 5 + 2)
  have z3 := hR2.row.frozen (i * 5 + 3)
  have z4 := hR2.row.frozen (i * 5 + 4)
  have o0 := hO2.cell 0
  have o1 := hO2.cell 1
  have o2 := hO2.cell 2
  have o3 := hO2.cell 3
  have o4 := hO2.cell 4
  have x0 := hO2.frozen 0
  have x1 := hO2.frozen 1
  have x2 := hO2.frozen 2
  have x3 := hO2.frozen 3
  have x4 := hO2.frozen 4
  refine (refVacant_calls w2 ub lb st hR2 hn).mono ?_
  rintro _ w' ⟨rfl, rfl⟩
  rw [hv]
  simp only [placeV]
  go_wp2_with fail
  have hF3 : Fr (fun b => b = lb ∨ b = ub) w2 (((((w2.setCell ⟨lb, i * 5, none⟩ (.bool true)).setCell ⟨lb, i * 5 + 1, none⟩ (.int .i64 k)).setCell ⟨lb, i * 5 + 2, none⟩ (.string v)).setCell ⟨lb, i * 5 + 3, none⟩ (.int .i64 0)).setCell ⟨lb, i * 5 + 4, none⟩ (.bool true)) :=
    (((((Fr.refl (fun b => b = lb ∨ b = ub) w2).setCell (p := ⟨lb, i * 5, none⟩) (.inl (.inl rfl)) _).setCell (p := ⟨lb, i * 5 + 1, none⟩) (.inl (.inl rfl)) _).setCell (p := ⟨lb, i * 5 + 2, none⟩) (.inl (.inl rfl)) _).setCell (p := ⟨lb, i * 5 + 3, none⟩) (.inl (.inl rfl)) _).setCell (p := ⟨lb, i * 5 + 4, none⟩) (.inl (.inl rfl)) _
  have hS := hR2.put5 hf (o' := some ⟨k, v, 0, true⟩) (a := .bool true) (b := .int .i64 k) (c := .string v) (d := .int .i64 0) (e := .bool true) rfl
  have hOz := hO2.fr hF3 (fun h => by rcases h with h | h; exact no4 h; exact no3 h)
  obtain ⟨hOd, hFd⟩ := ob_stored hOz rfl (.bool false) (.int .i64 0) (.string { data := #[] }) (.int .i64 0) (.bool false)
  have q0 := hOd.cell 0
  have q1 := hOd.cell 1
  have q2 := hOd.cell 2
  have q3 := hOd.cell 3
  have q4 := hOd.cell 4
  refine bodyPost_ret (v := .tuple #[frameV none, .bool true]) (by simp [results, Try.results23, go_sem, q0, q1, q2, q3, q4, frameV, refCells]) rfl ⟨rfl, hS.fr hFd no1 no2, ((hF2.mono (fun _ _ h => h.elim)).trans hF3 (fun _ _ h => h)).trans hFd (fun b hb h => by subst h; omega)⟩


set_option maxRecDepth 100000 in
set_option maxHeartbeats 1000000 in
theorem refPut_full (hR : IsRef w ub lb st) {top : Int} (hI : RInv st top) (k : Int) (v : ByteArray) (hi : rIdx k st.fs = none) (hv : rVac st.fs = none) (hp : rPinned st.fs = true) :
    Calls Try.prog 23 #[.pointer (some ⟨ub, 0, none⟩), .int .i64 k, .string v] w fun e w' => e = .returned (.tuple #[frameV none, .bool false]) ∧ IsRef w' ub lb st ∧ Fr (fun b => b = lb ∨ b = ub) w w' := by
  go_enter Try.func23, Try.ntmps23
  go_wp2_with fail
  have hF1 : Fr (fun _ => False) w (w.alloc (.cells #[.bool false, .int .i64 0, .string { data := #[] }, .int .i64 0, .bool false] 55)) := (Fr.refl _ w).alloc _
  have hR1 := hR.fr hF1 (fun h => h) (fun h => h)
  have hO := Blk.new w 55 [.bool false, .int .i64 0, .string { data := #[] }, .int .i64 0, .bool false]
  have hlub := hR.lts.1
  have hllb := hR.lts.2
  have no1 : ub ≠ w.heap.size := by omega
  have no2 : lb ≠ w.heap.size := by omega
  have no3 : w.heap.size ≠ ub := by omega
  have no4 : w.heap.size ≠ lb := by omega
  generalize w.alloc (.cells #[.bool false, .int .i64 0, .string { data := #[] }, .int .i64 0, .bool false] 55) = w1 at hF1 hR1 hO ⊢
  obtain ⟨ob, hob⟩ : ∃ o, o = w.heap.size := ⟨_, rfl⟩
  have hob' : w.heap.size ≤ ob := by omega
  rw [← hob] at hO no1 no2 no3 no4 ⊢
  clear hob hlub hllb
  have hn := hI.n64
  have c0 := hR1.ring.cell 0
  have l1 := hR1.ne_
  have l2 := Ne.symm l1
  refine (place_calls w1 ub lb st hR1 hn k).mono ?_
  rintro _ w' ⟨rfl, rfl⟩
  rw [hi]
  simp only [placeV]
  go_wp2_with fail
  have hA2 : Fr (fun _ => False) w1 (w1.alloc (.cells #[.bool false, .int .i64 0, .string { data := #[] }, .int .i64 0, .bool false] 55)) := (Fr.refl _ w1).alloc _
  have hR2 := hR1.fr hA2 (fun h => h) (fun h => h)
  have hT := Blk.new w1 55 [.bool false, .int .i64 0, .string { data := #[] }, .int .i64 0, .bool false]
  have hO2 := hO.alloc (.cells #[.bool false, .int .i64 0, .string { data := #[] }, .int .i64 0, .bool false] 55)
  have hlub := hR1.lts.1
  have hllb := hR1.lts.2
  have hlob := hO.lt
  have nt1 : ub ≠ w1.heap.size := by omega
  have nt2 : lb ≠ w1.heap.size := by omega
  have nt3 : w1.heap.size ≠ ub := by omega
  have nt4 : w1.heap.size ≠ lb := by omega
  have nt5 : w1.heap.size ≠ ob := by omega
  have nt6 : ob ≠ w1.heap.size := by omega
  have htb : w.heap.size ≤ w1.heap.size := hF1.size
  generalize w1.alloc (.cells #[.bool false, .int .i64 0, .string { data := #[] }, .int .i64 0, .bool false] 55) = w2 at hA2 hR2 hT hO2 ⊢
  have hF2 := hF1.trans hA2 (fun _ _ h => h)
  generalize w1.heap.size = tb at hT nt1 nt2 nt3 nt4 nt5 nt6 htb ⊢
  clear hlub hllb hlob hA2 hF1 hR1 hO
  have c0 := hR2.ring.cell 0
  have b0 := hT.cell 0
  have b1 := hT.cell 1
  have b2 := hT.cell 2
  have b3 := hT.cell 3
  have b4 := hT.cell 4
  have o0 := hO2.cell 0
  have o1 := hO2.cell 1
  have o2 := hO2.cell 2
  have o3 := hO2.cell 3
  have o4 := hO2.cell 4
  have x0 := hO2.frozen 0
  have x1 := hO2.frozen 1
  have x2 := hO2.frozen 2
  have x3 := hO2.frozen 3
  have x4 := hO2.frozen 4
  refine (refVacant_calls w2 ub lb st hR2 hn).mono ?_
  rintro _ w' ⟨rfl, rfl⟩
  rw [hv]
  simp only [placeV]
  go_wp2_with fail
  go_loopg [11, 12] st.fs.length (fun g p i wr => w2 = wr ∧ ∃ j : Nat, p = .int .i64 (cntPin (st.fs.take j)) ∧ i = .int .i64 j ∧ j ≤ st.fs.length ∧ g = st.fs.length - j)
  case atStart => exact ⟨rfl, 0, rfl, rfl, by omega, by omega⟩
  case round =>
    obtain ⟨rfl, j, rfl, rfl, hj, rfl⟩ := hrel
    have hcp := cntPin_le (st.fs.take j)
    have hcp2 : (st.fs.take j).length ≤ 64 := by simp; omega
    by_cases hlt : j < st.fs.length
    · have hltz : (j : Int) < (st.fs.length : Int) := by omega
      obtain ⟨f, hf⟩ := rVac_none hv hlt
      have hpp := (hI.pins j f hf).1
      have hstep := cntPin_step hf
      obtain ⟨a0, a1, a2, a3, a4⟩ := hR2.at_some hf
      by_cases hpz : 0 < f.pins
      · have d1 : decide (0 < f.pins) = true := decide_eq_true hpz
        rw [if_pos hpz] at hstep
        go_wp2_with fail
        go_roundg (st.fs.length - (j + 1))
        case measure => omega
        case rel => exact ⟨rfl, j + 1, by rw [hstep]; rfl, rfl, by omega, rfl⟩
      · have d1 : decide (0 < f.pins) = false := decide_eq_false hpz
        rw [if_neg hpz] at hstep
        go_wp2_with fail
        go_roundg (st.fs.length - (j + 1))
        case measure => omega
        case rel => exact ⟨rfl, j + 1, by rw [hstep]; rfl, rfl, by omega, rfl⟩
    · have e0 : j = st.fs.length := by omega
      have hltz : (st.fs.length : Int) ≤ (j : Int) := by omega
      have hpn : (cntPin (st.fs.take j) : Int) = (st.fs.length : Int) := by
        rw [e0, List.take_length, (cntPin_iff fun f hf => ?_).2 hp]
        obtain ⟨x, hx⟩ := List.mem_iff_getElem?.1 hf
        exact (hI.pins x f hx).1
      rw [hpn]
      have hb : ((st.fs.length : Int) == (st.fs.length : Int)) = true := by simp
      clear hcp hcp2 hpn
      go_wp2_with fail
      have hOz := hO2.fr (Fr.refl (fun b => b = lb ∨ b = ub) w2) (fun h => by rcases h with h | h; exact no4 h; exact no3 h)
      obtain ⟨hOd, hFd⟩ := ob_stored hOz rfl (.bool false) (.int .i64 0) (.string { data := #[] }) (.int .i64 0) (.bool false)
      have q0 := hOd.cell 0
      have q1 := hOd.cell 1
      have q2 := hOd.cell 2
      have q3 := hOd.cell 3
      have q4 := hOd.cell 4
      refine bodyPost_ret (v := .tuple #[frameV none, .bool false]) (by simp [results, Try.results23, go_sem, q0, q1, q2, q3, q4, frameV, refCells]) rfl ⟨rfl, hR2.fr hFd no1 no2, ((hF2.mono (fun _ _ h => h.elim)).trans (Fr.refl (fun b => b = lb ∨ b = ub) w2) (fun _ _ h => h)).trans hFd (fun b hb h => by subst h; omega)⟩

set_option maxRecDepth 100000 in
set_option maxHeartbeats 2000000 in
theorem refPut_leave (hR : IsRef w ub lb st) {top : Int} (hI : RInv st top) (k : Int) (v : ByteArray) (hi : rIdx k st.fs = none) (hv : rVac st.fs = none) (hp : rPinned st.fs = false) (stE : RS ByteArray) (hs : rSeek (2 * st.fs.length + 1) st = some stE) (fE : Fm ByteArray) (hfE : stE.fs[stE.hand]? = some (some fE)) :
    Calls Try.prog 23 #[.pointer (some ⟨ub, 0, none⟩), .int .i64 k, .string v] w fun e w' => e = .returned (.tuple #[frameV (some fE), .bool true]) ∧ IsRef w' ub lb ⟨stE.fs.set stE.hand (some ⟨k, v, 0, true⟩), (stE.hand + 1) % stE.fs.length⟩ ∧ Fr (fun b => b = lb ∨ b = ub) w w' := by
  go_enter Try.func23, Try.ntmps23
  go_wp2_with fail
  have hF1 : Fr (fun _ => False) w (w.alloc (.cells #[.bool false, .int .i64 0, .string { data := #[] }, .int .i64 0, .bool false] 55)) := (Fr.refl _ w).alloc _
  have hR1 := hR.fr hF1 (fun h => h) (fun h => h)
  have hO := Blk.new w 55 [.bool false, .int .i64 0, .string { data := #[] }, .int .i64 0, .bool false]
  have hlub := hR.lts.1
  have hllb := hR.lts.2
  have no1 : ub ≠ w.heap.size := by omega
  have no2 : lb ≠ w.heap.size := by omega
  have no3 : w.heap.size ≠ ub := by omega
  have no4 : w.heap.size ≠ lb := by omega
  generalize w.alloc (.cells #[.bool false, .int .i64 0, .string { data := #[] }, .int .i64 0, .bool false] 55) = w1 at hF1 hR1 hO ⊢
  obtain ⟨ob, hob⟩ : ∃ o, o = w.heap.size := ⟨_, rfl⟩
  have hob' : w.heap.size ≤ ob := by omega
  rw [← hob] at hO no1 no2 no3 no4 ⊢
  clear hob hlub hllb
  have hn := hI.n64
  have c0 := hR1.ring.cell 0
  have l1 := hR1.ne_
  have l2 := Ne.symm l1
  refine (place_calls w1 ub lb st hR1 hn k).mono ?_
  rintro _ w' ⟨rfl, rfl⟩
  rw [hi]
  simp only [placeV]
  go_wp2_with fail
  have hA2 : Fr (fun _ => False) w1 (w1.alloc (.cells #[.bool false, .int .i64 0, .string { data := #[] }, .int .i64 0, .bool false] 55)) := (Fr.refl _ w1).alloc _
  have hR2 := hR1.fr hA2 (fun h => h) (fun h => h)
  have hT := Blk.new w1 55 [.bool false, .int .i64 0, .string { data := #[] }, .int .i64 0, .bool false]
  have hO2 := hO.alloc (.cells #[.bool false, .int .i64 0, .string { data := #[] }, .int .i64 0, .bool false] 55)
  have hlub := hR1.lts.1
  have hllb := hR1.lts.2
  have hlob := hO.lt
  have nt1 : ub ≠ w1.heap.size := by omega
  have nt2 : lb ≠ w1.heap.size := by omega
  have nt3 : w1.heap.size ≠ ub := by omega
  have nt4 : w1.heap.size ≠ lb := by omega
  have nt5 : w1.heap.size ≠ ob := by omega
  have nt6 : ob ≠ w1.heap.size := by omega
  have htb : w.heap.size ≤ w1.heap.size := hF1.size
  generalize w1.alloc (.cells #[.bool false, .int .i64 0, .string { data := #[] }, .int .i64 0, .bool false] 55) = w2 at hA2 hR2 hT hO2 ⊢
  have hF2 := hF1.trans hA2 (fun _ _ h => h)
  generalize w1.heap.size = tb at hT nt1 nt2 nt3 nt4 nt5 nt6 htb ⊢
  clear hlub hllb hlob hA2 hF1 hR1 hO
  have c0 := hR2.ring.cell 0
  have b0 := hT.cell 0
  have b1 := hT.cell 1
  have b2 := hT.cell 2
  have b3 := hT.cell 3
  have b4 := hT.cell 4
  have o0 := hO2.cell 0
  have o1 := hO2.cell 1
  have o2 := hO2.cell 2
  have o3 := hO2.cell 3
  have o4 := hO2.cell 4
  have x0 := hO2.frozen 0
  have x1 := hO2.frozen 1
  have x2 := hO2.frozen 2
  have x3 := hO2.frozen 3
  have x4 := hO2.frozen 4
  refine (refVacant_calls w2 ub lb st hR2 hn).mono ?_
  rintro _ w' ⟨rfl, rfl⟩
  rw [hv]
  simp only [placeV]
  go_wp2_with fail
  go_loopg [11, 12] st.fs.length (fun g p i wr => w2 = wr ∧ ∃ j : Nat, p = .int .i64 (cntPin (st.fs.take j)) ∧ i = .int .i64 j ∧ j ≤ st.fs.length ∧ g = st.fs.length - j)
  case atStart => exact ⟨rfl, 0, rfl, rfl, by omega, by omega⟩
  case round =>
    obtain ⟨rfl, j, rfl, rfl, hj, rfl⟩ := hrel
    have hcp := cntPin_le (st.fs.take j)
    have hcp2 : (st.fs.take j).length ≤ 64 := by simp; omega
    by_cases hlt : j < st.fs.length
    · have hltz : (j : Int) < (st.fs.length : Int) := by omega
      obtain ⟨f, hf⟩ := rVac_none hv hlt
      have hpp := (hI.pins j f hf).1
      have hstep := cntPin_step hf
      obtain ⟨a0, a1, a2, a3, a4⟩ := hR2.at_some hf
      by_cases hpz : 0 < f.pins
      · have d1 : decide (0 < f.pins) = true := decide_eq_true hpz
        rw [if_pos hpz] at hstep
        go_wp2_with fail
        go_roundg (st.fs.length - (j + 1))
        case measure => omega
        case rel => exact ⟨rfl, j + 1, by rw [hstep]; rfl, rfl, by omega, rfl⟩
      · have d1 : decide (0 < f.pins) = false := decide_eq_false hpz
        rw [if_neg hpz] at hstep
        go_wp2_with fail
        go_roundg (st.fs.length - (j + 1))
        case measure => omega
        case rel => exact ⟨rfl, j + 1, by rw [hstep]; rfl, rfl, by omega, rfl⟩
    · have e0 : j = st.fs.length := by omega
      have hltz : (st.fs.length : Int) ≤ (j : Int) := by omega
      have hne : cntPin st.fs ≠ st.fs.length := fun h => by
        rw [(cntPin_iff fun f hf => ?_).1 h] at hp
        · cases hp
        · obtain ⟨x, hx⟩ := List.mem_iff_getElem?.1 hf
          exact (hI.pins x f hx).1
      have hpn : st.fs.take j = st.fs := by rw [e0, List.take_length]
      rw [hpn]
      have hb : ((cntPin st.fs : Int) == (st.fs.length : Int)) = false := by rw [beq_eq_false_iff_ne]; omega
      clear hcp hcp2 hpn
      go_wp2_with fail
      clear e0 hltz hlt
      have hFul : Full st.fs := full_of_vac hv
      have hlb2 := hR2.lts
      have HO := Lib.hid hO2
      have HT := Lib.hid hT
      clear c0 b0 b1 b2 b3 b4 hb o0 o1 o2 o3 o4 x0 x1 x2 x3 x4 hO2 hT
      go_loopg [] (2 * st.fs.length + 1) (fun g wr => ∃ st1 : RS ByteArray, IsRef wr ub lb st1 ∧ rSeek g st1 = some stE ∧ RInv st1 top ∧ Full st1.fs ∧ Fr (fun b => b = lb ∨ b = ub) w2 wr)
      case atStart => exact ⟨st, hR2, hs, hI, hFul, Fr.refl _ _⟩
      case round =>
        obtain ⟨s1, hR', hsk, hI', hFl, hFr⟩ := hrel
        have hh := hI'.hand
        obtain ⟨f, hf⟩ := hFl _ hh
        have hpp := hI'.pins _ f hf
        have hn' := hI'.n64
        have c0 := hR'.ring.cell 0
        have c1 := hR'.ring.cell 1
        obtain ⟨a0, a1, a2, a3, a4⟩ := hR'.at_some hf
        have z4 := hR'.row.frozen (s1.hand * 5 + 4)
        have q1 : (0 : Int) ≤ (s1.hand : Int) := by omega
        have q2 : (s1.hand : Int) < (s1.fs.length : Int) := by omega
        cases gk with
        | zero => cases hsk
        | succ gk =>
        rw [rSeek, hf] at hsk
        simp only [Option.join_some] at hsk
        by_cases hcan : rCan (some f) = true
        · rw [if_pos hcan] at hsk
          cases hsk
          rw [hf] at hfE
          cases hfE
          simp only [rCan, Bool.and_eq_true, beq_iff_eq, Bool.not_eq_true'] at hcan
          rw [hcan.1] at a3
          rw [hcan.2] at a4
          have hOb := HO.out.fr hFr (fun h => by rcases h with h | h; exact no4 h; exact no3 h)
          have hTb := HT.out.fr hFr (fun h => by rcases h with h | h; exact nt4 h; exact nt3 h)
          have b0 := hTb.cell 0
          have b1 := hTb.cell 1
          have b2 := hTb.cell 2
          have b3 := hTb.cell 3
          have b4 := hTb.cell 4
          have y0 := hTb.frozen 0
          have y1 := hTb.frozen 1
          have y2 := hTb.frozen 2
          have y3 := hTb.frozen 3
          have y4 := hTb.frozen 4
          go_wp2_with fail
          go_quiet (fail)
          go_wp2_with fail
          have hTd := hTb.fr (Fr.drewN_ (fun _ => False) wr nq) (fun h => h)
          have hOd0 := hOb.fr (Fr.drewN_ (fun _ => False) wr nq) (fun h => h)
          obtain ⟨hT5, hF5⟩ := ob_stored hTd rfl (.bool true) (.int .i64 fE.key) (.string fE.val) (.int .i64 0) (.bool false)
          have hR5 := (hR'.drewN nq).fr hF5 nt1 nt2
          have hO5 := hOd0.fr hF5 nt6
          refine (refOn_calls _ ub lb stE hR5 hn' hh).mono ?_
          rintro _ w9 ⟨rfl, hR9, hF9⟩
          have hT9 := hT5.fr hF9 nt3
          have hO9 := hO5.fr hF9 no3
          have hG0 := (hFr.trans (Fr.drewN_ (fun b => b = lb ∨ b = ub) wr nq) (fun _ _ h => h)).mono (S' := fun b => b = lb ∨ b = ub ∨ b = tb) (fun _ _ h => by rcases h with h | h; exact .inl h; exact .inr (.inl h))
          have hG1 := hG0.trans hF5 (fun _ _ h => .inr (.inr h))
          have hG2 := hG1.trans hF9 (fun _ _ h => .inr (.inl h))
          have c0 := hR9.ring.cell 0
          obtain ⟨a0, a1, a2, a3, a4⟩ := hR9.at_some hf
          have z0 := hR9.row.frozen (stE.hand * 5)
          have z1 := hR9.row.frozen (stE.hand * 5 + 1)
          have z2 := hR9.row.frozen (stE.hand * 5 + 2)
          have z3 := hR9.row.frozen (stE.hand * 5 + 3)
          have z4 := hR9.row.frozen (stE.hand * 5 + 4)
          have b0 := hT9.cell 0
          have b1 := hT9.cell 1
          have b2 := hT9.cell 2
          have b3 := hT9.cell 3
          have b4 := hT9.cell 4
          have o0 := hO9.cell 0
          have o1 := hO9.cell 1
          have o2 := hO9.cell 2
          have o3 := hO9.cell 3
          have o4 := hO9.cell 4
          have x0 := hO9.frozen 0
          have x1 := hO9.frozen 1
          have x2 := hO9.frozen 2
          have x3 := hO9.frozen 3
          have x4 := hO9.frozen 4
          clear y0 y1 y2 y3 y4 c1
          go_wp2_with fail
          have hS := hR9.put5 hf (o' := some ⟨k, v, 0, true⟩) (a := .bool true) (b := .int .i64 k) (c := .string v) (d := .int .i64 0) (e := .bool true) rfl
          have hF3 : Fr (fun b => b = lb ∨ b = ub) w9 (((((w9.setCell ⟨lb, stE.hand * 5, none⟩ (.bool true)).setCell ⟨lb, stE.hand * 5 + 1, none⟩ (.int .i64 k)).setCell ⟨lb, stE.hand * 5 + 2, none⟩ (.string v)).setCell ⟨lb, stE.hand * 5 + 3, none⟩ (.int .i64 0)).setCell ⟨lb, stE.hand * 5 + 4, none⟩ (.bool true)) :=
            (((((Fr.refl (fun b => b = lb ∨ b = ub) w9).setCell (p := ⟨lb, stE.hand * 5, none⟩) (.inl (.inl rfl)) _).setCell (p := ⟨lb, stE.hand * 5 + 1, none⟩) (.inl (.inl rfl)) _).setCell (p := ⟨lb, stE.hand * 5 + 2, none⟩) (.inl (.inl rfl)) _).setCell (p := ⟨lb, stE.hand * 5 + 3, none⟩) (.inl (.inl rfl)) _).setCell (p := ⟨lb, stE.hand * 5 + 4, none⟩) (.inl (.inl rfl)) _
          have hOz := hO9.fr hF3 (fun h => by rcases h with h | h; exact no4 h; exact no3 h)
          obtain ⟨hOd, hFd⟩ := ob_stored hOz rfl (.bool true) (.int .i64 fE.key) (.string fE.val) (.int .i64 0) (.bool false)
          have q0 := hOd.cell 0
          have q1' := hOd.cell 1
          have q2' := hOd.cell 2
          have q3 := hOd.cell 3
          have q4 := hOd.cell 4
          have hGw := (hF2.mono (S' := fun b => b = lb ∨ b = ub ∨ b = tb) (fun _ _ h => h.elim)).trans hG2 (fun _ _ h => h)
          have hGx := hGw.trans hF3 (fun _ _ h => by rcases h with h | h; exact .inl h; exact .inr (.inl h))
          have hGy := (hGx.trans hFd (fun b hb h => by subst h; omega)).mono (S' := fun b => b = lb ∨ b = ub) (fun b hb h => by
            rcases h with h | h | h
            · exact .inl h
            · exact .inr h
            · subst h; omega)
          refine bodyPost_ret (v := .tuple #[frameV (some fE), .bool true]) (by simp [results, Try.results23, go_sem, q0, q1', q2', q3, q4, frameV, refCells, hcan.1, hcan.2]) rfl ⟨rfl, hS.fr hFd no1 no2, hGy⟩
        · rw [if_neg hcan] at hsk
          have hst := rStep_eq hf
          by_cases hp0 : f.pins = 0
          · have hfr : f.fresh = true := by
              cases e : f.fresh with
              | true => rfl
              | false => rw [rCan, hp0, e] at hcan; exact absurd rfl hcan
            rw [hp0] at a3
            rw [hfr] at a4
            go_wp2_with fail
            go_quiet (fail)
            go_wp2_with fail
            go_quiet (fail)
            go_wp2_with fail
            have hst2 : rStep s1 = ⟨s1.fs.set s1.hand (some { f with fresh := false }), (s1.hand + 1) % s1.fs.length⟩ := by rw [hst, hp0, hfr]; rfl
            go_region
            all_goals
              go_wp2_with fail
              refine (refOn_calls _ ub lb ⟨s1.fs.set s1.hand (some { f with fresh := false }), s1.hand⟩ ((hR'.drewN _).set_ hf (j := 4) (o' := some { f with fresh := false }) (by omega) rfl) (by simpa using hn') (by simpa using hh)).mono ?_
              rintro _ w9 ⟨rfl, hRn, hFn⟩
              have hFx := (hFr.trans ((Fr.drewN_ (fun b => b = lb ∨ b = ub) wr _).setCell (p := ⟨lb, s1.hand * 5 + 4, none⟩) (.inl (.inl rfl)) (.bool false)) (fun _ _ h => h)).trans hFn (fun _ _ h => .inr h)
              simp only [List.length_set] at hRn
              rw [← hst2] at hRn
              go_wp2_with fail
              go_roundg gk
              case measure => omega
              case rel => exact ⟨rStep s1, hRn, hsk, rStep_inv hI', rStep_full hFl, hFx⟩
          · have hp1 : 0 < f.pins := by omega
            have d1 : decide (0 < f.pins) = true := decide_eq_true hp1
            have d2 : (f.pins == 0) = false := by rw [beq_eq_false_iff_ne]; exact hp0
            go_wp2_with fail
            go_quiet (fail)
            go_wp2_with fail
            go_quiet (fail)
            go_wp2_with fail
            have hst2 : rStep s1 = ⟨s1.fs, (s1.hand + 1) % s1.fs.length⟩ := by
              rw [hst, d1, Bool.and_true]
              rw [set_same hf]
            refine (refOn_calls _ ub lb s1 (hR'.drewN _) hn' hh).mono ?_
            rintro _ w9 ⟨rfl, hRn, hFn⟩
            have hFx := (hFr.trans (Fr.drewN_ (fun b => b = lb ∨ b = ub) wr _) (fun _ _ h => h)).trans hFn (fun _ _ h => .inr h)
            rw [← hst2] at hRn
            go_wp2_with fail
            go_roundg gk
            case measure => omega
            case rel => exact ⟨rStep s1, hRn, hsk, rStep_inv hI', rStep_full hFl, hFx⟩

/-- what leaves is told with its frame's cells -/
theorem refPut_calls (hR : IsRef w ub lb st) {top : Int} (hI : RInv st top) (k : Int) (v : ByteArray) :
    Calls Try.prog 23 #[.pointer (some ⟨ub, 0, none⟩), .int .i64 k, .string v] w fun e w' => e = .returned (.tuple #[frameV (rPut k v st).1, .bool (rPut k v st).2.1]) ∧ IsRef w' ub lb (rPut k v st).2.2 ∧ Fr (fun b => b = lb ∨ b = ub) w w' := by
  unfold rPut
  cases hi : rIdx k st.fs with
  | some i =>
    obtain ⟨f, hf, hfk⟩ := rIdx_some hi
    simp only [hf, Option.join_some]
    exact refPut_have w ub lb st hR hI k v i f hi hf
  | none =>
    cases hv : rVac st.fs with
    | some i => exact refPut_vacant w ub lb st hR hI k v i hi hv
    | none =>
      cases hp : rPinned st.fs with
      | true =>
        simp only [if_true]
        exact refPut_full w ub lb st hR hI k v hi hv hp
      | false =>
        obtain ⟨stE, hs⟩ := rSeek_ok hI (full_of_vac hv) hp
        obtain ⟨hIE, hfE, _⟩ := rSeek_some hs hI (full_of_vac hv)
        obtain ⟨f, hf⟩ := hfE _ hIE.hand
        simp only [hs, hf, Option.join_some]
        exact refPut_leave w ub lb st hR hI k v hi hv hp stE hs f hf
end

end Go.Proofs.Ytbiaompkmabfjaa
