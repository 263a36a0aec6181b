/- The ring's reference: memory and contracts. -/
import Derived.Test.YtbiaompkmabfjaaRingHS
import Derived.Test.YtbiaompkmabfjaaRingL
namespace Go.Proofs.Ytbiaompkmabfjaa
open Go.Maps Go.RowKit

def refCells : Option (Fm ByteArray) → List Value
  | none => [.bool false, .int .i64 0, .string { data := #[] }, .int .i64 0, .bool false]
  | some f => [.bool true, .int .i64 f.key, .string f.val, .int .i64 f.pins, .bool f.fresh]

/-- Row lb holds these rows, five cells each. -/
def Rows5 (w : World) (lb : Nat) (rows : List (List Value)) : Prop :=
  ∃ cells, Blk w lb 55 cells ∧ ∀ (i : Nat) (r : List Value), rows[i]? = some r → ∀ j, j < 5 → cells[i * 5 + j]? = r[j]?

def RefRow (w : World) (lb : Nat) (fs : List (Option (Fm ByteArray))) : Prop := Rows5 w lb (fs.map refCells)

structure IsRef (w : World) (ub lb : Nat) (st : RS ByteArray) : Prop where
  ring : Blk w ub 88 [.slice (some ⟨lb, 0, none⟩) st.fs.length st.fs.length, .int .i64 st.hand]
  row : RefRow w lb st.fs

section
variable {w w' : World} {ub lb : Nat} {st : RS ByteArray} {S : Nat → Prop} {rows : List (List Value)}

theorem Rows5.set_ (h : Rows5 w lb rows) {i : Nat} {r : List Value} (hi : rows[i]? = some r) (hr : r.length = 5) {j : Nat} (hj : j < 5) (v : Value) : Rows5 (w.setCell ⟨lb, i * 5 + j, none⟩ v) lb (rows.set i (r.set j v)) := by
  obtain ⟨cells, hB, hc⟩ := h
  refine ⟨_, hB.set_ (i * 5 + j) v, fun i' r' hi' j' hj' => ?_⟩
  have hlen : i * 5 + j < cells.length := by
    have := hc i r hi j hj
    have h1 : r[j]? = some (r[j]'(by omega)) := List.getElem?_eq_getElem _
    rw [h1] at this
    exact (List.getElem?_eq_some_iff.1 this).1
  rw [List.getElem?_set] at hi' ⊢
  by_cases e : i = i'
  · subst e
    have hil : i < rows.length := (List.getElem?_eq_some_iff.1 hi).1
    rw [if_pos rfl, if_pos hil] at hi'
    cases hi'
    rw [List.getElem?_set]
    by_cases e2 : j = j'
    · subst e2; rw [if_pos rfl, if_pos hlen, if_pos rfl, if_pos (by omega)]
    · rw [if_neg (by omega), if_neg e2]; exact hc i r hi j' hj'
  · rw [if_neg e] at hi'
    rw [if_neg (by omega)]
    exact hc i' r' hi' j' hj'

theorem refCells_len (o : Option (Fm ByteArray)) : (refCells o).length = 5 := by cases o <;> rfl

theorem RefRow.get {fs : List (Option (Fm ByteArray))} {i : Nat} {o : Option (Fm ByteArray)} (hi : fs[i]? = some o) : (fs.map refCells)[i]? = some (refCells o) := by rw [List.getElem?_map, hi]; rfl

/-- one cell of frame i turns -/
theorem RefRow.set_ {fs : List (Option (Fm ByteArray))} (h : RefRow w lb fs) {i : Nat} {o o' : Option (Fm ByteArray)} (hi : fs[i]? = some o) {j : Nat} (hj : j < 5) {v : Value} (he : refCells o' = (refCells o).set j v) : RefRow (w.setCell ⟨lb, i * 5 + j, none⟩ v) lb (fs.set i o') := by
  have := Rows5.set_ h (RefRow.get hi) (refCells_len o) hj v
  rw [← he, ← List.map_set] at this
  exact this

/-- all cells of frame i turn -/
theorem RefRow.put {fs : List (Option (Fm ByteArray))} (h : RefRow w lb fs) {i : Nat} {o o' : Option (Fm ByteArray)} (hi : fs[i]? = some o) {a b c d e : Value} (he : refCells o' = [a, b, c, d, e]) :
    RefRow (((((w.setCell ⟨lb, i * 5, none⟩ a).setCell ⟨lb, i * 5 + 1, none⟩ b).setCell ⟨lb, i * 5 + 2, none⟩ c).setCell ⟨lb, i * 5 + 3, none⟩ d).setCell ⟨lb, i * 5 + 4, none⟩ e) lb (fs.set i o') := by
  have hlt : i < fs.length := (List.getElem?_eq_some_iff.1 hi).1
  have g : ∀ (l : List (List Value)) (x : List Value), l.length = fs.length → (l.set i x)[i]? = some x := fun l x hl => by rw [List.getElem?_set, if_pos rfl, if_pos (by omega)]
  have h0 := Rows5.set_ h (RefRow.get hi) (refCells_len o) (j := 0) (by omega) a
  have h1 := Rows5.set_ h0 (g _ _ (by simp)) (by simp [refCells_len]) (j := 1) (by omega) b
  have h2 := Rows5.set_ h1 (g _ _ (by simp)) (by simp [refCells_len]) (j := 2) (by omega) c
  have h3 := Rows5.set_ h2 (g _ _ (by simp)) (by simp [refCells_len]) (j := 3) (by omega) d
  have h4 := Rows5.set_ h3 (g _ _ (by simp)) (by simp [refCells_len]) (j := 4) (by omega) e
  simp only [List.set_set] at h4
  have hr : ((((((refCells o).set 0 a).set 1 b).set 2 c).set 3 d).set 4 e) = refCells o' := by
    rw [he]
    have := refCells_len o
    match refCells o, this with
    | [x0, x1, x2, x3, x4], _ => rfl
  rw [hr, ← List.map_set] at h4
  exact h4

theorem RefRow.cell {fs : List (Option (Fm ByteArray))} (h : RefRow w lb fs) {i : Nat} {o : Option (Fm ByteArray)} (hi : fs[i]? = some o) {j : Nat} (hj : j < 5) : w.cell? ⟨lb, i * 5 + j, none⟩ = (refCells o)[j]? := by
  obtain ⟨cells, hB, hc⟩ := h
  rw [hB.cell, hc i _ (RefRow.get hi) j hj]

theorem RefRow.frozen {fs : List (Option (Fm ByteArray))} (h : RefRow w lb fs) (i : Nat) : w.frozen? ⟨lb, i, none⟩ = false := by
  obtain ⟨cells, hB, hc⟩ := h
  exact hB.frozen i

theorem RefRow.fr {fs : List (Option (Fm ByteArray))} (h : RefRow w lb fs) (hF : Fr S w w') (hn : ¬ S lb) : RefRow w' lb fs := by
  obtain ⟨cells, hB, hc⟩ := h
  exact ⟨cells, hB.fr hF hn, hc⟩

theorem IsRef.fr (h : IsRef w ub lb st) (hF : Fr S w w') (h1 : ¬ S ub) (h2 : ¬ S lb) : IsRef w' ub lb st := ⟨h.ring.fr hF h1, h.row.fr hF h2⟩

theorem IsRef.ne_ (h : IsRef w ub lb st) : ub ≠ lb := by
  obtain ⟨cells, hB, _⟩ := h.row
  exact Blk.ne_ h.ring hB (by decide)

theorem IsRef.lts (h : IsRef w ub lb st) : ub < w.heap.size ∧ lb < w.heap.size := by
  obtain ⟨cells, hB, _⟩ := h.row
  exact ⟨h.ring.lt, hB.lt⟩

/-- one cell of frame i turns -/
theorem IsRef.set_ (h : IsRef w ub lb st) {i : Nat} {o o' : Option (Fm ByteArray)} (hi : st.fs[i]? = some o) {j : Nat} (hj : j < 5) {v : Value} (he : refCells o' = (refCells o).set j v) : IsRef (w.setCell ⟨lb, i * 5 + j, none⟩ v) ub lb ⟨st.fs.set i o', st.hand⟩ := by
  refine ⟨?_, h.row.set_ hi hj he⟩
  have := h.ring.far (p := ⟨lb, i * 5 + j, none⟩) h.ne_ v
  simpa using this

theorem IsRef.hand_ (h : IsRef w ub lb st) (hd : Nat) : IsRef (w.setCell ⟨ub, 1, none⟩ (.int .i64 (hd : Int))) ub lb ⟨st.fs, hd⟩ := by
  refine ⟨h.ring.set_ 1 _, ?_⟩
  obtain ⟨cells, hB, hc⟩ := h.row
  exact ⟨cells, hB.far (p := ⟨ub, 1, none⟩) (Ne.symm h.ne_) _, hc⟩

/-- the five cells of a frame -/
theorem IsRef.at_none (h : IsRef w ub lb st) {i : Nat} (hi : st.fs[i]? = some none) : w.cell? ⟨lb, i * 5, none⟩ = some (.bool false) ∧ w.cell? ⟨lb, i * 5 + 1, none⟩ = some (.int .i64 0) ∧ w.cell? ⟨lb, i * 5 + 2, none⟩ = some (.string { data := #[] }) ∧ w.cell? ⟨lb, i * 5 + 3, none⟩ = some (.int .i64 0) ∧ w.cell? ⟨lb, i * 5 + 4, none⟩ = some (.bool false) :=
  ⟨h.row.cell hi (j := 0) (by omega), h.row.cell hi (j := 1) (by omega), h.row.cell hi (j := 2) (by omega), h.row.cell hi (j := 3) (by omega), h.row.cell hi (j := 4) (by omega)⟩

theorem IsRef.at_some (h : IsRef w ub lb st) {i : Nat} {f : Fm ByteArray} (hi : st.fs[i]? = some (some f)) : w.cell? ⟨lb, i * 5, none⟩ = some (.bool true) ∧ w.cell? ⟨lb, i * 5 + 1, none⟩ = some (.int .i64 f.key) ∧ w.cell? ⟨lb, i * 5 + 2, none⟩ = some (.string f.val) ∧ w.cell? ⟨lb, i * 5 + 3, none⟩ = some (.int .i64 f.pins) ∧ w.cell? ⟨lb, i * 5 + 4, none⟩ = some (.bool f.fresh) :=
  ⟨h.row.cell hi (j := 0) (by omega), h.row.cell hi (j := 1) (by omega), h.row.cell hi (j := 2) (by omega), h.row.cell hi (j := 3) (by omega), h.row.cell hi (j := 4) (by omega)⟩
end

def placeV : Option Nat → Int
  | some i => (i : Int)
  | none => -1

theorem rIdx_drop_succ {V : Type} {k : Int} {l : List (Option (Fm V))} {i : Nat} {o : Option (Fm V)} (h : l[i]? = some o) (hn : ∀ f, o = some f → f.key ≠ k) : (rIdx k (l.drop i)).map (· + i) = (rIdx k (l.drop (i + 1))).map (· + (i + 1)) := by
  have hlt := (List.getElem?_eq_some_iff.1 h).1
  have he := (List.getElem?_eq_some_iff.1 h).2
  rw [List.drop_eq_getElem_cons hlt, he]
  have : rIdx k (o :: l.drop (i + 1)) = (rIdx k (l.drop (i + 1))).map (· + 1) := by
    cases o with
    | none => rfl
    | some f => rw [rIdx, if_neg (hn f rfl)]
  rw [this, Option.map_map]
  congr 1
  funext x
  simp only [Function.comp]
  omega

theorem rIdx_drop_hit {V : Type} {k : Int} {l : List (Option (Fm V))} {i : Nat} {f : Fm V} (h : l[i]? = some (some f)) (hk : f.key = k) : (rIdx k (l.drop i)).map (· + i) = some i := by
  have hlt := (List.getElem?_eq_some_iff.1 h).1
  have he := (List.getElem?_eq_some_iff.1 h).2
  rw [List.drop_eq_getElem_cons hlt, he, rIdx, if_pos hk]
  simp

section
variable (w : World) (ub lb : Nat) (st : RS ByteArray)

theorem place_calls (hR : IsRef w ub lb st) (hn : st.fs.length ≤ 64) (k : Int) :
    Calls Try.prog 42 #[.pointer (some ⟨ub, 0, none⟩), .int .i64 k] w fun e w' => e = .returned (.int .i64 (placeV (rIdx k st.fs))) ∧ w = w' := by
  have c0 := hR.ring.cell 0
  go_enter Try.func42, Try.ntmps42
  go_wp2_with fail
  go_loopg [5] st.fs.length (fun g i wr => w = wr ∧ ∃ j : Nat, i = .int .i64 j ∧ j ≤ st.fs.length ∧ g = st.fs.length - j ∧ rIdx k st.fs = (rIdx k (st.fs.drop j)).map (· + j))
  case atStart => exact ⟨rfl, 0, rfl, by omega, by omega, by simp⟩
  case round =>
    obtain ⟨rfl, j, rfl, hj, rfl, hx⟩ := hrel
    have HX := Lib.hid hx
    clear hx
    by_cases hlt : j < st.fs.length
    · have hltz : (j : Int) < (st.fs.length : Int) := by omega
      have ho : st.fs[j]? = some st.fs[j] := List.getElem?_eq_getElem hlt
      generalize st.fs[j] = o at ho
      have HO := Lib.hid ho
      cases o with
      | none =>
        obtain ⟨a0, a1, a2, a3, a4⟩ := hR.at_none ho
        clear ho
        go_wp2_with fail
        go_roundg (st.fs.length - (j + 1))
        case measure => omega
        case rel => exact ⟨rfl, j + 1, rfl, by omega, rfl, HX.out.trans (rIdx_drop_succ HO.out (fun f e => by cases e))⟩
      | some f =>
        obtain ⟨a0, a1, a2, a3, a4⟩ := hR.at_some ho
        clear ho
        by_cases hk : f.key = k
        · have hb : (f.key == k) = true := by simpa using hk
          have HK := Lib.hid hk
          clear hk
          go_wp2_with fail
          go_ret
          rw [HX.out, rIdx_drop_hit HO.out HK.out]
          exact ⟨rfl, rfl⟩
        · have hb : (f.key == k) = false := by simpa using hk
          have HK := Lib.hid hk
          clear hk
          go_wp2_with fail
          go_roundg (st.fs.length - (j + 1))
          case measure => omega
          case rel => exact ⟨rfl, j + 1, rfl, by omega, rfl, HX.out.trans (rIdx_drop_succ HO.out (fun f' e => by cases e; exact HK.out))⟩
    · have e0 : j = st.fs.length := by omega
      have hltz : (st.fs.length : Int) ≤ (j : Int) := by omega
      have hfin : rIdx k st.fs = none := by rw [HX.out, e0, List.drop_length]; rfl
      go_wp2_with fail
      go_ret
      rw [hfin]
      exact ⟨rfl, rfl⟩

theorem refVacant_calls (hR : IsRef w ub lb st) (hn : st.fs.length ≤ 64) :
    Calls Try.prog 43 #[.pointer (some ⟨ub, 0, none⟩)] w fun e w' => e = .returned (.int .i64 (placeV (rVac st.fs))) ∧ w = w' := by
  have c0 := hR.ring.cell 0
  go_enter Try.func43, Try.ntmps43
  go_wp2_with fail
  go_loopg [3] st.fs.length (fun g i wr => w = wr ∧ ∃ k : Nat, i = .int .i64 k ∧ k ≤ st.fs.length ∧ g = st.fs.length - k ∧ ∀ j, j < k → ∃ f, st.fs[j]? = some (some f))
  case atStart => exact ⟨rfl, 0, rfl, by omega, by omega, fun j hj => by omega⟩
  case round =>
    obtain ⟨rfl, k, rfl, hk, rfl, hall⟩ := hrel
    have HA := Lib.hid hall
    clear hall
    by_cases hlt : k < st.fs.length
    · have hltz : (k : Int) < (st.fs.length : Int) := by omega
      have ho : st.fs[k]? = some st.fs[k] := List.getElem?_eq_getElem hlt
      generalize st.fs[k] = o at ho
      have HO := Lib.hid ho
      cases o with
      | none =>
        obtain ⟨a0, _⟩ := hR.at_none ho
        clear ho
        go_wp2_with fail
        go_ret
        rw [rVac_at HO.out HA.out]
        exact ⟨rfl, rfl⟩
      | some f =>
        obtain ⟨a0, _⟩ := hR.at_some ho
        clear ho
        go_wp2_with fail
        go_roundg (st.fs.length - (k + 1))
        case measure => omega
        case rel => exact ⟨rfl, k + 1, rfl, by omega, rfl, fun j hj => by
          by_cases e : j = k
          · exact ⟨f, e ▸ HO.out⟩
          · exact HA.out j (by omega)⟩
    · have e0 : k = st.fs.length := by omega
      have hltz : (st.fs.length : Int) ≤ (k : Int) := by omega
      have hfin : rVac st.fs = none := rVac_full (by rw [← e0]; exact HA.out)
      go_wp2_with fail
      go_ret
      rw [hfin]
      exact ⟨rfl, rfl⟩

theorem refOn_calls (hR : IsRef w ub lb st) (hn : st.fs.length ≤ 64) (hh : st.hand < st.fs.length) :
    Calls Try.prog 44 #[.pointer (some ⟨ub, 0, none⟩)] w fun e w' => e = .returned (.tuple #[]) ∧ IsRef w' ub lb ⟨st.fs, (st.hand + 1) % st.fs.length⟩ ∧ Fr (fun b => b = ub) w w' := by
  have c0 := hR.ring.cell 0
  have c1 := hR.ring.cell 1
  have z1 := hR.ring.frozen 1
  go_enter Try.func44, Try.ntmps44
  have hm : ((st.hand : Int) + 1).tmod (st.fs.length : Int) = (((st.hand + 1) % st.fs.length : Nat) : Int) := by
    rw [show ((st.hand : Int) + 1) = ((st.hand + 1 : Nat) : Int) by omega, Int.ofNat_tmod]
  have hw : IntKind.i64.wrap ((st.hand : Int) + 1) = (st.hand : Int) + 1 := IntWalk.i64_in _ (by omega)
  go_wp2_with fail
  go_region
  all_goals
    refine bodyPost_end (results_none rfl _ _ _) rfl ?_
    have he : ((st.hand : Int) + 1) % (st.fs.length : Int) = (((st.hand + 1) % st.fs.length : Nat) : Int) := by push_cast; rfl
    rw [he]
    refine ⟨rfl, ?_, ?_⟩
    · exact (hR.hand_ _).fr ((Fr.refl (fun _ => False) _).drew) (fun h => h) (fun h => h)
    · exact ((Fr.refl (fun b => b = ub) w).setCell (p := ⟨ub, 1, none⟩) (.inl rfl) _).drew

theorem refPins_calls (hR : IsRef w ub lb st) (hn : st.fs.length ≤ 64) (k : Int) :
    Calls Try.prog 28 #[.pointer (some ⟨ub, 0, none⟩), .int .i64 k] w fun e w' => e = .returned (.int .i64 (rPins k st)) ∧ w = w' := by
  have c0 := hR.ring.cell 0
  unfold rPins
  cases e : rAt k st with
  | none =>
    go_enter Try.func28, Try.ntmps28
    go_wp2_with fail
    refine (place_calls w ub lb st hR hn k).mono ?_
    rintro _ w' ⟨rfl, rfl⟩
    rw [rAt_none.1 e]
    simp only [placeV]
    go_wp2_with fail
    go_ret
    exact ⟨rfl, rfl⟩
  | some x =>
    obtain ⟨i, f⟩ := x
    obtain ⟨hi, hf⟩ := rAt_some.1 e
    have hlt := (List.getElem?_eq_some_iff.1 hf).1
    obtain ⟨a0, a1, a2, a3, a4⟩ := hR.at_some hf
    go_enter Try.func28, Try.ntmps28
    go_wp2_with fail
    refine (place_calls w ub lb st hR hn k).mono ?_
    rintro _ w' ⟨rfl, rfl⟩
    rw [hi]
    simp only [placeV]
    go_wp2_with fail
    go_ret
    exact ⟨rfl, rfl⟩

theorem refGet_calls (hR : IsRef w ub lb st) (hn : st.fs.length ≤ 64) (k : Int) :
    Calls Try.prog 24 #[.pointer (some ⟨ub, 0, none⟩), .int .i64 k] w fun e w' => e = .returned (.tuple #[valOS (rGet k st).1, .bool (rGet k st).1.isSome]) ∧ IsRef w' ub lb (rGet k st).2 ∧ Fr (fun b => b = lb) w w' := by
  have c0 := hR.ring.cell 0
  unfold rGet
  cases e : rAt k st with
  | none =>
    go_enter Try.func24, Try.ntmps24
    go_wp2_with fail
    refine (place_calls w ub lb st hR hn k).mono ?_
    rintro _ w' ⟨rfl, rfl⟩
    rw [rAt_none.1 e]
    simp only [placeV]
    go_wp2_with fail
    go_ret2
    exact ⟨rfl, hR, Fr.refl _ _⟩
  | some x =>
    obtain ⟨i, f⟩ := x
    obtain ⟨hi, hf⟩ := rAt_some.1 e
    have hlt := (List.getElem?_eq_some_iff.1 hf).1
    obtain ⟨a0, a1, a2, a3, a4⟩ := hR.at_some hf
    have z4 := hR.row.frozen (i * 5 + 4)
    have l1 := hR.ne_
    have l2 := Ne.symm l1
    go_enter Try.func24, Try.ntmps24
    go_wp2_with fail
    refine (place_calls w ub lb st hR hn k).mono ?_
    rintro _ w' ⟨rfl, rfl⟩
    rw [hi]
    simp only [placeV]
    go_wp2_with fail
    go_ret2
    exact ⟨rfl, hR.set_ hf (j := 4) (by omega) rfl, (Fr.refl (fun b => b = lb) w).setCell (p := ⟨lb, i * 5 + 4, none⟩) (.inl rfl) _⟩

theorem refDel_calls (hR : IsRef w ub lb st) (hn : st.fs.length ≤ 64) (k : Int) :
    Calls Try.prog 25 #[.pointer (some ⟨ub, 0, none⟩), .int .i64 k] w fun e w' => e = .returned (.tuple #[valOS (rDel k st).1, .bool (rDel k st).1.isSome]) ∧ IsRef w' ub lb (rDel k st).2 ∧ Fr (fun b => b = lb) w w' := by
  have c0 := hR.ring.cell 0
  unfold rDel
  cases e : rAt k st with
  | none =>
    go_enter Try.func25, Try.ntmps25
    go_wp2_with fail
    refine (place_calls w ub lb st hR hn k).mono ?_
    rintro _ w' ⟨rfl, rfl⟩
    rw [rAt_none.1 e]
    simp only [placeV]
    go_wp2_with fail
    go_ret2
    exact ⟨rfl, hR, Fr.refl _ _⟩
  | some x =>
    obtain ⟨i, f⟩ := x
    obtain ⟨hi, hf⟩ := rAt_some.1 e
    have hlt := (List.getElem?_eq_some_iff.1 hf).1
    obtain ⟨a0, a1, a2, a3, a4⟩ := hR.at_some hf
    have z0 := hR.row.frozen (i * 5)
    have z1 := hR.row.frozen (i * 5 + 1)
    have z2 := hR.row.frozen (i * 5 + 2)
    have z3 := hR.row.frozen (i * 5 + 3)
    have z4 := hR.row.frozen (i * 5 + 4)
    have l1 := hR.ne_
    have l2 := Ne.symm l1
    go_enter Try.func25, Try.ntmps25
    go_wp2_with fail
    refine (place_calls w ub lb st hR hn k).mono ?_
    rintro _ w' ⟨rfl, rfl⟩
    rw [hi]
    simp only [placeV]
    go_wp2_with fail
    go_ret2
    refine ⟨rfl, ⟨?_, hR.row.put hf (o' := none) rfl⟩, ?_⟩
    · have := ((((hR.ring.far (p := ⟨lb, i * 5, none⟩) l1 (.bool false)).far (p := ⟨lb, i * 5 + 1, none⟩) l1 (.int .i64 0)).far (p := ⟨lb, i * 5 + 2, none⟩) l1 (.string { data := #[] })).far (p := ⟨lb, i * 5 + 3, none⟩) l1 (.int .i64 0)).far (p := ⟨lb, i * 5 + 4, none⟩) l1 (.bool false)
      simpa [RS.up] using this
    · exact (((((Fr.refl (fun b => b = lb) w).setCell (p := ⟨lb, i * 5, none⟩) (.inl rfl) _).setCell (p := ⟨lb, i * 5 + 1, none⟩) (.inl rfl) _).setCell (p := ⟨lb, i * 5 + 2, none⟩) (.inl rfl) _).setCell (p := ⟨lb, i * 5 + 3, none⟩) (.inl rfl) _).setCell (p := ⟨lb, i * 5 + 4, none⟩) (.inl rfl) _

/-- pins by so many more -/
def rPinBy (k : Int) (by_ : Int) (st : RS ByteArray) : Bool × RS ByteArray := match rAt k st with
  | some (i, f) => if f.pins + by_ < 0 then (false, st) else (true, st.up i (some { f with pins := f.pins + by_ }))
  | none => (false, st)

theorem refPin_calls (hR : IsRef w ub lb st) {top : Int} (hI : RInv st top) (ht : top ≤ 1000000) (k b : Int) (hb : -1 ≤ b) (hb1 : b ≤ 1) :
    Calls Try.prog 26 #[.pointer (some ⟨ub, 0, none⟩), .int .i64 k, .int .i64 b] w fun e w' => e = .returned (.bool (rPinBy k b st).1) ∧ IsRef w' ub lb (rPinBy k b st).2 ∧ Fr (fun b => b = lb) w w' := by
  have c0 := hR.ring.cell 0
  have hn := hI.n64
  unfold rPinBy
  cases e : rAt k st with
  | none =>
    go_enter Try.func26, Try.ntmps26
    go_wp2_with fail
    refine (place_calls w ub lb st hR hn k).mono ?_
    rintro _ w' ⟨rfl, rfl⟩
    rw [rAt_none.1 e]
    simp only [placeV]
    go_wp2_with fail
    go_ret
    exact ⟨rfl, hR, Fr.refl _ _⟩
  | some x =>
    obtain ⟨i, f⟩ := x
    obtain ⟨hi, hf⟩ := rAt_some.1 e
    have hlt := (List.getElem?_eq_some_iff.1 hf).1
    obtain ⟨p1, p2⟩ := hI.pins i f hf
    obtain ⟨a0, a1, a2, a3, a4⟩ := hR.at_some hf
    have z3 := hR.row.frozen (i * 5 + 3)
    have l1 := hR.ne_
    have l2 := Ne.symm l1
    by_cases hneg : f.pins + b < 0
    · simp only [if_pos hneg]
      go_enter Try.func26, Try.ntmps26
      go_wp2_with fail
      refine (place_calls w ub lb st hR hn k).mono ?_
      rintro _ w' ⟨rfl, rfl⟩
      rw [hi]
      simp only [placeV]
      have d1 : decide ((i : Int) < 0) = false := decide_eq_false (by omega)
      have d2 : decide (f.pins + b < 0) = true := decide_eq_true hneg
      go_wp2_with fail
      go_ret
      exact ⟨rfl, hR, Fr.refl _ _⟩
    · simp only [if_neg hneg]
      go_enter Try.func26, Try.ntmps26
      go_wp2_with fail
      refine (place_calls w ub lb st hR hn k).mono ?_
      rintro _ w' ⟨rfl, rfl⟩
      rw [hi]
      simp only [placeV]
      have d1 : decide ((i : Int) < 0) = false := decide_eq_false (by omega)
      have d2 : decide (f.pins + b < 0) = false := decide_eq_false (by omega)
      have q1 : (0 : Int) ≤ (i : Int) := by omega
      have q2 : (i : Int) < (st.fs.length : Int) := by omega
      have q3 : IntKind.i64.wrap (f.pins + b) = f.pins + b := IntWalk.i64_in _ (by omega)
      go_wp2_with fail
      go_region
      all_goals
        go_wp2_with fail
        go_ret
        refine ⟨rfl, (hR.set_ hf (j := 3) (o' := some { f with pins := f.pins + b }) (by omega) rfl).fr ((Fr.refl (fun _ => False) _).drew) (fun h => h) (fun h => h), ((Fr.refl (fun b => b = lb) w).setCell (p := ⟨lb, i * 5 + 3, none⟩) (.inl rfl) _).drew⟩
end

end Go.Proofs.Ytbiaompkmabfjaa
