/- RingExact: the ring and its reference side by side in memory. -/
import Derived.Test.YtbiaompkmabfjaaRingAllS
import Derived.Test.YtbiaompkmabfjaaRefSA
import Derived.Test.YtbiaompkmabfjaaRingAwake
import Derived.Test.YtbiaompkmabfjaaRingKeepsL
import Derived.Deep.CutBlock
namespace Go.Proofs.Ytbiaompkmabfjaa
open Go.Maps Go.RowKit

theorem rPinBy_one (k : Int) {st : RS ByteArray} {top : Int} (hI : RInv st top) : rPinBy k 1 st = rPin k st := by
  unfold rPinBy rPin
  cases e : rAt k st with
  | none => rfl
  | some x =>
    obtain ⟨i, f⟩ := x
    obtain ⟨p1, p2⟩ := hI.pins i f (rAt_some.1 e).2
    simp only
    rw [if_neg (by omega)]

theorem rPinBy_let (k : Int) {st : RS ByteArray} {top : Int} (hI : RInv st top) : rPinBy k (-1) st = rLet k st := by
  unfold rPinBy rLet
  cases e : rAt k st with
  | none => rfl
  | some x =>
    obtain ⟨i, f⟩ := x
    obtain ⟨p1, p2⟩ := hI.pins i f (rAt_some.1 e).2
    simp only
    by_cases h : f.pins = 0
    · rw [if_pos (by omega), if_pos h]
    · rw [if_neg (by omega), if_neg h, Int.sub_eq_add_neg]

/-- More blocks come: the ring does not lie in them. -/
theorem HasS.grow {w0 w w' : World} {X : Nat → Prop} {rb fb mb : Nat} {st : RS ByteArray} {top : Int} (h : HasS w0 X rb fb mb st top w) (hF : Fr (fun _ => False) w w') :
    HasS w0 (fun b => X b ∨ (w.heap.size ≤ b ∧ b < w'.heap.size)) rb fb mb st top w' := by
  obtain ⟨bs, h1, h2, h3, h4⟩ := h
  refine ⟨bs, h1.keep hF (fun _ _ e => e), h2, fun b hb => ?_, h4.trans hF (fun _ _ e => e)⟩
  have hs := hF.size
  rcases hb with hb | hb | hb
  · have := h3 b (.inl hb); exact ⟨by omega, this.2⟩
  · have := h3 b (.inr hb); exact ⟨by omega, this.2⟩
  · exact ⟨hb.2, fun hf => by have := h1.foot_lt hf; omega⟩

/-- The ring (state st) and the reference (state su) behind w0; the result's cell ob; other blocks Y. -/
structure EM (w0 : World) (Y : Nat → Prop) (ob rb fb mb ub lb : Nat) (st su : RS ByteArray) (top : Int) (wr : World) : Prop where
  has : HasS w0 (fun b => b = ob ∨ b = ub ∨ b = lb ∨ Y b) rb fb mb st top wr
  ref : IsRef wr ub lb su
  o : Blk wr ob 4 [.bool false]
  lo : w0.heap.size ≤ ob ∧ w0.heap.size ≤ ub ∧ w0.heap.size ≤ lb
  y : ∀ b, Y b → w0.heap.size ≤ b

section
variable {w0 wr w' : World} {Y : Nat → Prop} {ob rb fb mb ub lb : Nat} {st su st' su' : RS ByteArray} {top t : Int}

theorem EM.ne_ (h : EM w0 Y ob rb fb mb ub lb st su top wr) : ob ≠ ub ∧ ob ≠ lb ∧ ub ≠ lb := by
  obtain ⟨cells, hB, _⟩ := h.ref.row
  exact ⟨Blk.ne_ h.o h.ref.ring (by decide), Blk.ne_ h.o hB (by decide), h.ref.ne_⟩

theorem EM.ring (h : EM w0 Y ob rb fb mb ub lb st su top wr) (hH : HasS w0 (fun b => b = ob ∨ b = ub ∨ b = lb ∨ Y b) rb fb mb st' t w') (hF : Fr (KX w0 (fun b => b = ob ∨ b = ub ∨ b = lb ∨ Y b)) wr w') : EM w0 Y ob rb fb mb ub lb st' su t w' :=
  ⟨hH, h.ref.fr hF (fun h => h (.inr (.inr (.inl rfl)))) (fun h => h (.inr (.inr (.inr (.inl rfl))))), h.o.fr hF (fun h => h (.inr (.inl rfl))), h.lo, h.y⟩

theorem EM.refs (h : EM w0 Y ob rb fb mb ub lb st su top wr) (hR : IsRef w' ub lb su') (hF : Fr (fun b => b = lb ∨ b = ub) wr w') : EM w0 Y ob rb fb mb ub lb st su' top w' := by
  obtain ⟨n1, n2, n3⟩ := h.ne_
  obtain ⟨l1, l2, l3⟩ := h.lo
  exact ⟨h.has.far hF (fun b hb => by rcases hb with rfl | rfl <;> exact ⟨by simp, by omega⟩), hR, h.o.fr hF (fun hb => by rcases hb with e | e; exact n2 e; exact n1 e), h.lo, h.y⟩

theorem EM.tops (h : EM w0 Y ob rb fb mb ub lb st su top wr) (ht : top ≤ t) : EM w0 Y ob rb fb mb ub lb st su t wr := ⟨h.has.tops ht, h.ref, h.o, h.lo, h.y⟩

theorem EM.quiet (h : EM w0 Y ob rb fb mb ub lb st su top wr) (hF : Fr (fun _ => False) wr w') : EM w0 Y ob rb fb mb ub lb st su top w' :=
  ⟨h.has.far hF (fun _ hb => hb.elim), h.ref.fr hF (fun h => h) (fun h => h), h.o.fr hF (fun h => h), h.lo, h.y⟩

theorem EM.drewN (h : EM w0 Y ob rb fb mb ub lb st su top wr) (n : Nat) : EM w0 Y ob rb fb mb ub lb st su top (wr.drewN n) := h.quiet ⟨rfl, rfl, rfl, Nat.le_refl _, fun _ _ _ => rfl⟩

theorem EM.alloc (h : EM w0 Y ob rb fb mb ub lb st su top wr) (o : Obj) : EM w0 (fun b => Y b ∨ b = wr.heap.size) ob rb fb mb ub lb st su top (wr.alloc o) := by
  have hF : Fr (fun _ => False) wr (wr.alloc o) := (Fr.refl _ _).alloc _
  refine ⟨(h.has.alloc o).sub (fun b hb => ?_), h.ref.fr hF (fun h => h) (fun h => h), h.o.alloc o, h.lo, fun b hb => ?_⟩
  · rcases hb with e | e | e | e | e <;> simp [e]
  · rcases hb with e | e
    · exact h.y b e
    · subst e; exact h.has.fr.size

theorem EM.sub (h : EM w0 Y ob rb fb mb ub lb st su top wr) {Z : Nat → Prop} (hZ : ∀ b, Z b → Y b) : EM w0 Z ob rb fb mb ub lb st su top wr :=
  ⟨h.has.sub (fun b hb => by rcases hb with e | e | e | e; exact .inl e; exact .inr (.inl e); exact .inr (.inr (.inl e)); exact .inr (.inr (.inr (hZ b e)))), h.ref, h.o, h.lo, fun b hb => h.y b (hZ b hb)⟩

theorem EM.below (h : EM w0 Y ob rb fb mb ub lb st su top wr) : Below w0.heap.size w0 wr := h.has.below
end

/-- the round's own copy of the act -/
def XAct (wr : World) (xb : Nat) (kd kk : Int) (sv : ByteArray) : Prop := Blk wr xb 44 [.int .i64 kd, .int .i64 kk, .string sv]

/-- an act: two whole numbers and a text -/
def okActE (j : Nat) (v : Value) : Prop := if j = 2 then ∃ s, v = .string s ∧ s.size ≤ maxLen else ∃ x, v = .int .i64 x ∧ in64 x

/-- The reference's list, as a slice. -/
theorem row_open {w : World} {base : Nat} {v : Value} {fs : List (Option (Fm ByteArray))} (h : w.ownsRow base 55 5 v (rCnt fs) (allCells fs)) :
    ∃ A cap, v = .slice A (rCnt fs) cap ∧ ∀ (i : Nat) (f : Fm ByteArray), (rAll fs)[i]? = some f → ∃ g, A = some ⟨g, 0, none⟩ ∧ base ≤ g ∧ g < w.heap.size ∧ ∀ w' : World, w'.heap[g]? = w.heap[g]? → w'.cell? ⟨g, i * 5 + 1, none⟩ = some (.int .i64 f.key) ∧ w'.cell? ⟨g, i * 5 + 2, none⟩ = some (.string f.val) := by
  obtain ⟨hl, ⟨rfl, h0⟩ | ⟨g, cap, cur, rfl, hg, hgr, hr⟩⟩ := id h
  · refine ⟨none, 0, by rw [h0], fun i f hi => ?_⟩
    have := (List.getElem?_eq_some_iff.1 hi).1
    rw [rAll_len] at this
    omega
  · refine ⟨_, cap, rfl, fun i f hi => ⟨g, rfl, hg, (Array.getElem?_eq_some_iff.1 hgr).1, fun w' hw' => ?_⟩⟩
    have hlt := (List.getElem?_eq_some_iff.1 hi).1
    rw [rAll_len] at hlt
    have hcells : ∀ (l : List (Option (Fm ByteArray))) (i : Nat) (f : Fm ByteArray), (rAll l)[i]? = some f → ∀ j, j < 5 → (allCells l)[i * 5 + j]? = (refCells (some f))[j]? := by
      intro l
      induction l with
      | nil => intro i f hi; simp [rAll] at hi
      | cons o r ih =>
        intro i f hi j hj
        cases o with
        | none => exact ih i f hi j hj
        | some x =>
          cases i with
          | zero =>
            simp [rAll] at hi; subst hi
            rw [allCells, List.getElem?_append_left (by rw [refCells_len]; omega)]
            simp
          | succ i =>
            rw [allCells, List.getElem?_append_right (by rw [refCells_len]; omega), refCells_len, show (i + 1) * 5 + j - 5 = i * 5 + j by omega]
            exact ih i f (by simpa [rAll] using hi) j hj
    have h' : w'.ownsRow base 55 5 (.slice (some ⟨g, 0, none⟩) (rCnt fs) cap) (rCnt fs) (allCells fs) := ⟨hl, .inr ⟨g, cap, cur, rfl, hg, hw'.trans hgr, hr⟩⟩
    exact ⟨(h'.cellAt (i * 5 + 1) (by omega)).trans (hcells fs i f hi 1 (by omega)), (h'.cellAt (i * 5 + 2) (by omega)).trans (hcells fs i f hi 2 (by omega))⟩

end Go.Proofs.Ytbiaompkmabfjaa
