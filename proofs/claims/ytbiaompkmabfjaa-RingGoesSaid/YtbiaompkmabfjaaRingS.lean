/- The ring with string values: its methods' contracts. -/
import Derived.Test.YtbiaompkmabfjaaRing
import Derived.Test.YtbiaompkmabfjaaProg
import Derived.KernelRfl
import Derived.Deep.LoopGhost
import Derived.Deep.QuietTactic
import Derived.BigQuiet
import Derived.Deep.RegionWith
import Derived.RegionTactic
import Derived.StillTailTactics
import Derived.Deep.DeepCutAuto
import Derived.Lib.Hide
namespace Go.Proofs.Ytbiaompkmabfjaa
open Go.Maps Go.RowKit

def encS : ByteArray → List Value := fun v => [.string v]
abbrev RingS := IsRing encS Try.prog 3 80 81 84
abbrev RingZS := Ring0 encS 80 81 84

theorem zeroKS (w : World) : (zeroValue 3).run Try.prog w = .ok (.int .i64 0) w := by kernel_rfl

theorem cellsS (f : Fm ByteArray) (w : World) (g : Nat) (h : Blk w g 84 (frCells encS f)) :
    w.cell? ⟨g, 0, none⟩ = some (.int .i64 f.key) ∧ w.cell? ⟨g, 1, none⟩ = some ((fun v => Value.string v) f.val) ∧ w.cell? ⟨g, 2, none⟩ = some (.int .i64 f.pins) ∧ w.cell? ⟨g, 3, none⟩ = some (.bool f.fresh) :=
  ⟨h.cell 0, h.cell 1, h.cell 2, h.cell 3⟩

theorem infoPS : (Try.prog.info? 81).map (fun i => (i.zero, i.size, i.bytes)) = some (some (.pointer none), 1, 8) := by kernel_rfl

theorem NewS_calls (n : Int) (hn : in64 n) (w : World) : Calls Try.prog 15 #[.int .i64 n] w fun e w' => e = .returned (.pointer (some ⟨w.heap.size + 2, 0, none⟩)) ∧
    RingS w' (w.heap.size + 2) w.heap.size (w.heap.size + 1) (List.replicate (newN n) none) ⟨List.replicate (newN n) none, 0⟩ ∧ Fr (fun _ => False) w w' := by
  obtain ⟨i, hi, hz, hs, hby⟩ := info_parts infoPS
  have hmk : ∀ (m : Nat) (w : World), m ≤ 64 → (Instr.makeSlice 78 (.int .i64 (m : Int)) (.int .i64 (m : Int))).run Try.prog w = .ok (.slice (some ⟨w.heap.size, 0, none⟩) m m) (w.alloc (.cells (List.replicate m (Value.pointer none)).toArray 81)) := by
    intro m w hm
    have := run_make (P := Try.prog) w 78 81 i _ Try.underlying78 hi hz .i64 .i64 (m : Int) (m : Int) (by omega) (by omega) (by rw [hby]; omega) (by omega)
    rw [this, hs]
    simp only [Int.toNat_natCast, Nat.mul_one, Value.cells, made_replicate]
  have hmm := @run_makeMap Try.prog
  unfold in64 at hn
  have hN : ((newN n : Nat) : Int) = min (max n 1) 64 := by unfold newN; omega
  have hN64 : newN n ≤ 64 := by omega
  have hN1 : 1 ≤ newN n := by omega
  have fin : ∀ W : World, W = ((w.alloc (.cells (List.replicate (newN n) (Value.pointer none)).toArray 81)).alloc (.map #[] 0)).alloc (.cells #[.slice (some ⟨w.heap.size, 0, none⟩) (newN n) (newN n), .map (some (w.heap.size + 1)), .int .i64 0] 80) →
      RingS W (w.heap.size + 2) w.heap.size (w.heap.size + 1) (List.replicate (newN n) none) ⟨List.replicate (newN n) none, 0⟩ ∧ Fr (fun _ => False) w W := by
    rintro W rfl
    refine ⟨⟨⟨?_, ?_, by simp, ?_, ?_⟩, [], ?_, ?_, ?_⟩, (((Fr.refl _ w).alloc _).alloc _).alloc _⟩
    · have := Blk.new ((w.alloc (.cells (List.replicate (newN n) (Value.pointer none)).toArray 81)).alloc (.map #[] 0)) 80 [.slice (some ⟨w.heap.size, 0, none⟩) (newN n) (newN n), .map (some (w.heap.size + 1)), .int .i64 0]
      simp only [World.size_alloc] at this
      simpa using this
    · have := ((Blk.new w 81 (List.replicate (newN n) (Value.pointer none))).alloc (.map #[] 0)).alloc (.cells #[.slice (some ⟨w.heap.size, 0, none⟩) (newN n) (newN n), .map (some (w.heap.size + 1)), .int .i64 0] 80)
      rw [List.map_replicate]
      exact this
    · intro i b o hb ho
      rw [List.getElem?_replicate] at hb ho
      split at hb
      · rename_i h
        rw [if_pos h] at ho
        cases hb; cases ho
        trivial
      · cases hb
    · intro i j g hi
      rw [List.getElem?_replicate] at hi
      split at hi <;> cases hi
    · have := (VMap.made (w.alloc (.cells (List.replicate (newN n) (Value.pointer none)).toArray 81)) Try.prog 3).alloc (.cells #[.slice (some ⟨w.heap.size, 0, none⟩) (newN n) (newN n), .map (some (w.heap.size + 1)), .int .i64 0] 80)
      simp only [World.size_alloc] at this
      exact this
    · intro k
      have : rIdx k (List.replicate (newN n) (none : Option (Fm ByteArray))) = none := by
        cases e : rIdx k (List.replicate (newN n) (none : Option (Fm ByteArray))) with
        | none => rfl
        | some i =>
          obtain ⟨f, hf, _⟩ := rIdx_some e
          rw [List.getElem?_replicate] at hf
          split at hf <;> cases hf
      rw [this]; rfl
    · show 0 = rCnt (List.replicate (newN n) (none : Option (Fm ByteArray)))
      generalize newN n = m
      induction m with
      | zero => rfl
      | succ m ih => rw [List.replicate_succ]; exact ih
  have hFin := Lib.hid fin
  clear fin
  by_cases h1 : n < 1
  · have hm : newN n = 1 := by omega
    have hk := fun W => hmk 1 W (by omega)
    rw [hm] at hFin
    simp only [Int.natCast_one] at hk
    clear hmk hN hN64 hN1 hm
    go_enter Try.func15, Try.ntmps15
    go_wp2_with fail
    go_ret
    exact ⟨rfl, by rw [show newN n = 1 by unfold newN; omega]; exact hFin.out _ rfl⟩
  · by_cases h2 : 64 < n
    · have hm : newN n = 64 := by omega
      have hk := fun W => hmk 64 W (by omega)
      rw [hm] at hFin
      simp only [show ((64 : Nat) : Int) = 64 from rfl] at hk
      generalize hL : (List.replicate 64 (Value.pointer none)).toArray = L at hk hFin
      clear hmk hN hN64 hN1 hm
      have hl1 : ¬ n < 1 := h1
      go_enter Try.func15, Try.ntmps15
      go_wp2_with fail
      go_ret
      exact ⟨rfl, by rw [show newN n = 64 by unfold newN; omega]; exact hFin.out _ rfl⟩
    · obtain ⟨m, rfl⟩ : ∃ m : Nat, n = (m : Int) := ⟨n.toNat, by omega⟩
      have hm : newN (m : Int) = m := by unfold newN; omega
      have hk := fun W => hmk m W (by omega)
      rw [hm] at hFin
      generalize hL : (List.replicate m (Value.pointer none)).toArray = L at hk hFin
      clear hmk hN hN64 hN1 hm
      go_enter Try.func15, Try.ntmps15
      go_wp2_with fail
      go_ret
      exact ⟨rfl, by rw [show newN (m : Int) = m by unfold newN; omega]; exact hFin.out _ rfl⟩

/-! ### find -/
section
variable (w : World) (rb fb mb : Nat) (bs : List (Option Nat)) (st : RS ByteArray)

theorem findS_none (hR : RingS w rb fb mb bs st) (k : Int) (hk : in64 k) (hi : rIdx k st.fs = none) :
    Calls Try.prog 38 #[.pointer (some ⟨rb, 0, none⟩), .int .i64 k] w fun e w' => e = .returned (.pointer none) ∧ w = w' := by
  have c1 := hR.1.ring.cell 1
  obtain ⟨pl, hV, hl, _⟩ := hR.2
  have hl' := hl k
  rw [hi] at hl'
  go_enter Try.func38, Try.ntmps38
  go_wp2_with (at_lookup; refine wpList_mlook_ok _ rfl _ _ 68 rfl 3 3 mb Try.underlying3 Try.underlying68 _ (zeroKS _) _ hV rfl k rfl hk (.int .i64 0) (by rw [look_vmap, hl']; rfl) false (by rw [look_vmap, hl']; rfl) ?_)
  go_ret
  exact ⟨rfl, rfl⟩

theorem findS_some (hR : RingS w rb fb mb bs st) (k : Int) (hk : in64 k) (i g : Nat) (hi : rIdx k st.fs = some i) (hb : bs[i]? = some (some g)) (_hn : st.fs.length ≤ 64) :
    Calls Try.prog 38 #[.pointer (some ⟨rb, 0, none⟩), .int .i64 k] w fun e w' => e = .returned (.pointer (some ⟨g, 0, none⟩)) ∧ w = w' := by
  have c0 := hR.1.ring.cell 0
  have c1 := hR.1.ring.cell 1
  have ca := hR.1.cell_some hb
  have hlt : i < st.fs.length := by rw [← hR.1.len]; exact (List.getElem?_eq_some_iff.1 hb).1
  have hltz : (i : Int) < (st.fs.length : Int) := by omega
  obtain ⟨pl, hV, hl, _⟩ := hR.2
  have hl' := hl k
  rw [hi] at hl'
  go_enter Try.func38, Try.ntmps38
  go_wp2_with (at_lookup; refine wpList_mlook_ok _ rfl _ _ 68 rfl 3 3 mb Try.underlying3 Try.underlying68 _ (zeroKS _) _ hV rfl k rfl hk (.int .i64 i) (by rw [look_vmap, hl']; rfl) true (by rw [look_vmap, hl']; rfl) ?_)
  go_ret
  exact ⟨rfl, rfl⟩

theorem LenS_calls (hR : RingS w rb fb mb bs st) :
    Calls Try.prog 21 #[.pointer (some ⟨rb, 0, none⟩)] w fun e w' => e = .returned (.int .i64 (rCnt st.fs)) ∧ w = w' := by
  have c1 := hR.1.ring.cell 1
  obtain ⟨pl, hV, _, hc⟩ := hR.2
  have hlen : ((vmap (fun n => Value.int .i64 n) pl).length : Int) = (rCnt st.fs : Int) := by rw [length_vmap, hc]
  have HL := Lib.hid hlen
  clear hc hlen
  go_enter Try.func21, Try.ntmps21
  go_wp2_with (at_len; refine wpList_mlen _ rfl _ 68 rfl 3 3 mb Try.underlying68 _ hV rfl ?_; rw [HL.out])
  go_ret
  exact ⟨rfl, rfl⟩
end

/-! ### what is at hand is looked at -/
section
variable (w : World) (rb fb mb : Nat) (bs : List (Option Nat)) (st : RS ByteArray)

theorem fr_neS (hR : RingS w rb fb mb bs st) {i g : Nat} (hb : bs[i]? = some (some g)) : rb ≠ g ∧ fb ≠ g ∧ g ≠ mb ∧ rb ≠ fb ∧ rb ≠ mb ∧ fb ≠ mb := by
  obtain ⟨pl, hV, _⟩ := hR.2
  have h1 := hR.1.ne_fr (by decide) (by decide) (List.mem_of_getElem? hb)
  have h2 := hR.1.ne_m hV
  exact ⟨Ne.symm h1.1, Ne.symm h1.2, h2.2.2 g (List.mem_of_getElem? hb), hR.1.ne_rf (by decide), h2.1, h2.2.1⟩

/-- frame i turns by one store into its block -/
theorem storedS (hR : RingS w rb fb mb bs st) {i g : Nat} {f f' : Fm ByteArray} (hf : st.fs[i]? = some (some f)) (hb : bs[i]? = some (some g)) (hu : Uniq st.fs) (hk : f'.key = f.key) (w' : World) (hF : Fr (fun b => b = g) w w') (hB : Blk w' g 84 (frCells encS f')) :
    RingS w' rb fb mb bs ⟨st.fs.set i (some f'), st.hand⟩ := by
  obtain ⟨h1, h2, h3, _⟩ := fr_neS w rb fb mb bs st hR hb
  refine ⟨hR.1.set_ hb hF hB h1 h2, (hR.2.keep hF (fun e => h3 e.symm)).of_idx (fun k => rIdx_set_some hu hf hk) (rCnt_set_some hf)⟩

theorem GetS_none (hR : RingS w rb fb mb bs st) (k : Int) (hk : in64 k) (hi : rIdx k st.fs = none) :
    Calls Try.prog 17 #[.pointer (some ⟨rb, 0, none⟩), .int .i64 k] w fun e w' => e = .returned (.tuple #[Value.string { data := #[] }, .bool false]) ∧ w = w' := by
  go_enter Try.func17, Try.ntmps17
  go_wp2_with (go_at_call 38; refine (findS_none _ rb fb mb bs st hR k hk hi).mono ?_; rintro e w' ⟨rfl, rfl⟩)
  go_ret2
  exact ⟨rfl, rfl⟩

theorem GetS_some (hR : RingS w rb fb mb bs st) {top : Int} (hI : RInv st top) (k : Int) (hk : in64 k) (i : Nat) (f : Fm ByteArray) (hi : rIdx k st.fs = some i) (hf : st.fs[i]? = some (some f)) :
    Calls Try.prog 17 #[.pointer (some ⟨rb, 0, none⟩), .int .i64 k] w fun e w' => e = .returned (.tuple #[(fun v => Value.string v) f.val, .bool true]) ∧
      RingS w' rb fb mb bs ⟨st.fs.set i (some { f with fresh := true }), st.hand⟩ ∧ Fr (foot rb fb mb bs) w w' := by
  obtain ⟨g, hb, hB⟩ := hR.1.at_some hf
  obtain ⟨d0, d1, d2, d3⟩ := cellsS f w g hB
  have z3 := hB.frozen 3
  go_enter Try.func17, Try.ntmps17
  go_wp2_with (go_at_call 38; refine (findS_some _ rb fb mb bs st hR k hk i g hi hb hI.n64).mono ?_; rintro e w' ⟨rfl, rfl⟩)
  go_ret2
  exact ⟨rfl, storedS w rb fb mb bs st hR hf hb hI.uniq (f' := { f with fresh := true }) rfl _ ((Fr.refl (fun b => b = g) w).setCell (p := ⟨g, 3, none⟩) (.inl rfl) _) (hB.set_ 3 (.bool true)), (Fr.refl _ w).setCell (.inl (.inr (.inr (.inr (List.mem_of_getElem? hb))))) _⟩

theorem PinsS_none (hR : RingS w rb fb mb bs st) (k : Int) (hk : in64 k) (hi : rIdx k st.fs = none) :
    Calls Try.prog 27 #[.pointer (some ⟨rb, 0, none⟩), .int .i64 k] w fun e w' => e = .returned (.int .i64 0) ∧ w = w' := by
  go_enter Try.func27, Try.ntmps27
  go_wp2_with (go_at_call 38; refine (findS_none _ rb fb mb bs st hR k hk hi).mono ?_; rintro e w' ⟨rfl, rfl⟩)
  go_ret
  exact ⟨rfl, rfl⟩

theorem PinsS_some (hR : RingS w rb fb mb bs st) {top : Int} (hI : RInv st top) (k : Int) (hk : in64 k) (i : Nat) (f : Fm ByteArray) (hi : rIdx k st.fs = some i) (hf : st.fs[i]? = some (some f)) :
    Calls Try.prog 27 #[.pointer (some ⟨rb, 0, none⟩), .int .i64 k] w fun e w' => e = .returned (.int .i64 f.pins) ∧ w = w' := by
  obtain ⟨g, hb, hB⟩ := hR.1.at_some hf
  obtain ⟨d0, d1, d2, d3⟩ := cellsS f w g hB
  go_enter Try.func27, Try.ntmps27
  go_wp2_with (go_at_call 38; refine (findS_some _ rb fb mb bs st hR k hk i g hi hb hI.n64).mono ?_; rintro e w' ⟨rfl, rfl⟩)
  go_ret
  exact ⟨rfl, rfl⟩

theorem PinS_none (hR : RingS w rb fb mb bs st) (k : Int) (hk : in64 k) (hi : rIdx k st.fs = none) :
    Calls Try.prog 19 #[.pointer (some ⟨rb, 0, none⟩), .int .i64 k] w fun e w' => e = .returned (.bool false) ∧ w = w' := by
  go_enter Try.func19, Try.ntmps19
  go_wp2_with (go_at_call 38; refine (findS_none _ rb fb mb bs st hR k hk hi).mono ?_; rintro e w' ⟨rfl, rfl⟩)
  go_ret
  exact ⟨rfl, rfl⟩

theorem PinS_some (hR : RingS w rb fb mb bs st) {top : Int} (hI : RInv st top) (k : Int) (hk : in64 k) (i : Nat) (f : Fm ByteArray) (hi : rIdx k st.fs = some i) (hf : st.fs[i]? = some (some f)) (ht : top ≤ 1000000) :
    Calls Try.prog 19 #[.pointer (some ⟨rb, 0, none⟩), .int .i64 k] w fun e w' => e = .returned (.bool true) ∧
      RingS w' rb fb mb bs ⟨st.fs.set i (some { f with pins := f.pins + 1 }), st.hand⟩ ∧ Fr (foot rb fb mb bs) w w' := by
  obtain ⟨g, hb, hB⟩ := hR.1.at_some hf
  obtain ⟨d0, d1, d2, d3⟩ := cellsS f w g hB
  have z3 := hB.frozen 2
  obtain ⟨p1, p2⟩ := hI.pins i f hf
  go_enter Try.func19, Try.ntmps19
  go_wp2_with (go_at_call 38; refine (findS_some _ rb fb mb bs st hR k hk i g hi hb hI.n64).mono ?_; rintro e w' ⟨rfl, rfl⟩)
  go_ret
  exact ⟨rfl, storedS w rb fb mb bs st hR hf hb hI.uniq (f' := { f with pins := f.pins + 1 }) rfl _ ((Fr.refl (fun b => b = g) w).setCell (p := ⟨g, 2, none⟩) (.inl rfl) _) (hB.set_ 2 (.int .i64 (f.pins + 1))), (Fr.refl _ w).setCell (.inl (.inr (.inr (.inr (List.mem_of_getElem? hb))))) _⟩

theorem LetS_none (hR : RingS w rb fb mb bs st) (k : Int) (hk : in64 k) (hi : rIdx k st.fs = none) :
    Calls Try.prog 20 #[.pointer (some ⟨rb, 0, none⟩), .int .i64 k] w fun e w' => e = .returned (.bool false) ∧ w = w' := by
  go_enter Try.func20, Try.ntmps20
  go_wp2_with (go_at_call 38; refine (findS_none _ rb fb mb bs st hR k hk hi).mono ?_; rintro e w' ⟨rfl, rfl⟩)
  go_ret
  exact ⟨rfl, rfl⟩

theorem LetS_zero (hR : RingS w rb fb mb bs st) {top : Int} (hI : RInv st top) (k : Int) (hk : in64 k) (i : Nat) (f : Fm ByteArray) (hi : rIdx k st.fs = some i) (hf : st.fs[i]? = some (some f)) (hp : f.pins = 0) :
    Calls Try.prog 20 #[.pointer (some ⟨rb, 0, none⟩), .int .i64 k] w fun e w' => e = .returned (.bool false) ∧ w = w' := by
  obtain ⟨g, hb, hB⟩ := hR.1.at_some hf
  obtain ⟨d0, d1, d2, d3⟩ := cellsS f w g hB
  rw [hp] at d2
  have z3 := hB.frozen 2
  clear hp
  go_enter Try.func20, Try.ntmps20
  go_wp2_with (go_at_call 38; refine (findS_some _ rb fb mb bs st hR k hk i g hi hb hI.n64).mono ?_; rintro e w' ⟨rfl, rfl⟩)
  go_ret
  exact ⟨rfl, rfl⟩

theorem LetS_some (hR : RingS w rb fb mb bs st) {top : Int} (hI : RInv st top) (k : Int) (hk : in64 k) (i : Nat) (f : Fm ByteArray) (hi : rIdx k st.fs = some i) (hf : st.fs[i]? = some (some f)) (ht : top ≤ 1000000) (hp : 0 < f.pins) :
    Calls Try.prog 20 #[.pointer (some ⟨rb, 0, none⟩), .int .i64 k] w fun e w' => e = .returned (.bool true) ∧
      RingS w' rb fb mb bs ⟨st.fs.set i (some { f with pins := f.pins - 1 }), st.hand⟩ ∧ Fr (foot rb fb mb bs) w w' := by
  obtain ⟨g, hb, hB⟩ := hR.1.at_some hf
  obtain ⟨d0, d1, d2, d3⟩ := cellsS f w g hB
  have z3 := hB.frozen 2
  obtain ⟨p1, p2⟩ := hI.pins i f hf
  have hp0 : (f.pins == 0) = false := by rw [beq_eq_false_iff_ne]; omega
  go_enter Try.func20, Try.ntmps20
  go_wp2_with (go_at_call 38; refine (findS_some _ rb fb mb bs st hR k hk i g hi hb hI.n64).mono ?_; rintro e w' ⟨rfl, rfl⟩)
  go_ret
  exact ⟨rfl, storedS w rb fb mb bs st hR hf hb hI.uniq (f' := { f with pins := f.pins - 1 }) rfl _ ((Fr.refl (fun b => b = g) w).setCell (p := ⟨g, 2, none⟩) (.inl rfl) _) (hB.set_ 2 (.int .i64 (f.pins - 1))), (Fr.refl _ w).setCell (.inl (.inr (.inr (.inr (List.mem_of_getElem? hb))))) _⟩

theorem vacantS_calls (hR : RingZS w rb fb mb bs st) (hn : st.fs.length ≤ 64) :
    Calls Try.prog 39 #[.pointer (some ⟨rb, 0, none⟩)] w fun e w' => e = .returned (vacVal (rVac st.fs)) ∧ w = w' := by
  have c0 := hR.ring.cell 0
  go_enter Try.func39, Try.ntmps39
  go_wp2_with fail
  go_loopg [11] st.fs.length (fun g i wr => w = wr ∧ ∃ k : Nat, i = .int .i64 k ∧ k ≤ st.fs.length ∧ g = st.fs.length - k ∧ ∀ j, j < k → ∃ f, st.fs[j]? = some (some f))
  case atStart => exact ⟨rfl, 0, rfl, by omega, by omega, fun j hj => by omega⟩
  case round =>
    obtain ⟨rfl, k, rfl, hk, rfl, hall⟩ := hrel
    have HA := Lib.hid hall
    clear hall
    by_cases hlt : k < st.fs.length
    · have hltz : (k : Int) < (st.fs.length : Int) := by omega
      have ho : st.fs[k]? = some st.fs[k] := List.getElem?_eq_getElem hlt
      generalize st.fs[k] = o at ho
      have HO := Lib.hid ho
      cases o with
      | none =>
        have ca := hR.cell_none (hR.at_none ho)
        clear ho
        go_wp2_with fail
        go_ret2
        rw [rVac_at HO.out HA.out]
        exact ⟨rfl, rfl⟩
      | some f =>
        obtain ⟨g, hb, _⟩ := hR.at_some ho
        have ca := hR.cell_some hb
        clear ho hb
        go_wp2_with fail
        go_roundg (st.fs.length - (k + 1))
        case measure => omega
        case rel => exact ⟨rfl, k + 1, rfl, by omega, rfl, fun j hj => by
          by_cases e : j = k
          · exact ⟨f, e ▸ HO.out⟩
          · exact HA.out j (by omega)⟩
    · obtain rfl : k = st.fs.length := by omega
      go_wp2_with fail
      go_ret2
      rw [rVac_full HA.out]
      exact ⟨rfl, rfl⟩

theorem pinnedS_calls (hR : RingZS w rb fb mb bs st) (hn : st.fs.length ≤ 64) :
    Calls Try.prog 40 #[.pointer (some ⟨rb, 0, none⟩)] w fun e w' => e = .returned (.bool (rPinned st.fs)) ∧ w = w' := by
  have c0 := hR.ring.cell 0
  go_enter Try.func40, Try.ntmps40
  go_wp2_with fail
  go_loopg [10] st.fs.length (fun g i wr => w = wr ∧ ∃ k : Nat, i = .int .i64 k ∧ k ≤ st.fs.length ∧ g = st.fs.length - k ∧ ∀ j, j < k → ∃ f, st.fs[j]? = some (some f) ∧ f.pins ≠ 0)
  case atStart => exact ⟨rfl, 0, rfl, by omega, by omega, fun j hj => by omega⟩
  case round =>
    obtain ⟨rfl, k, rfl, hk, rfl, hall⟩ := hrel
    have HA := Lib.hid hall
    clear hall
    by_cases hlt : k < st.fs.length
    · have hltz : (k : Int) < (st.fs.length : Int) := by omega
      have ho : st.fs[k]? = some st.fs[k] := List.getElem?_eq_getElem hlt
      generalize st.fs[k] = o at ho
      have HO := Lib.hid ho
      cases o with
      | none =>
        have ca := hR.cell_none (hR.at_none ho)
        clear ho
        go_wp2_with fail
        go_ret
        rw [rPinned_none HO.out]
        exact ⟨rfl, rfl⟩
      | some f =>
        obtain ⟨g, hb, hB⟩ := hR.at_some ho
        have ca := hR.cell_some hb
        obtain ⟨d0, d1, d2, d3⟩ := cellsS f w g hB
        clear ho hb
        by_cases hp : f.pins = 0
        · have HP := Lib.hid hp
          rw [hp] at d2
          clear hp
          go_wp2_with fail
          go_ret
          rw [rPinned_zero HO.out HP.out]
          exact ⟨rfl, rfl⟩
        · have hp' : (f.pins == 0) = false := by simpa using hp
          have HP := Lib.hid hp
          clear hp
          go_wp2_with fail
          go_roundg (st.fs.length - (k + 1))
          case measure => omega
          case rel => exact ⟨rfl, k + 1, rfl, by omega, rfl, fun j hj => by
            by_cases e : j = k
            · exact ⟨f, e ▸ HO.out, HP.out⟩
            · exact HA.out j (by omega)⟩
    · obtain rfl : k = st.fs.length := by omega
      go_wp2_with fail
      go_ret
      rw [rPinned_true HA.out]
      exact ⟨rfl, rfl⟩

end

end Go.Proofs.Ytbiaompkmabfjaa
