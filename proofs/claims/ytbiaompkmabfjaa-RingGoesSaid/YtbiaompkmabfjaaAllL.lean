/- Going over a ring: what a round keeps, and the list of what is at hand, plainly. -/
import Derived.Test.YtbiaompkmabfjaaRingH
import Derived.RangeFuncNested
namespace Go.Proofs.Ytbiaompkmabfjaa
open Go.Maps Go.RowKit

/-- Cells that lie from block n0 on stay as they are. -/
def KeepC (n0 : Nat) (W W' : World) : Prop := W.heap.size ≤ W'.heap.size ∧ ∀ (k : Nat) (o : Obj), n0 ≤ k → W.heap[k]? = some o → o.isCells = true → W'.heap[k]? = some o

theorem KeepC.refl (n0 : Nat) (W : World) : KeepC n0 W W := ⟨Nat.le_refl _, fun _ _ _ h _ => h⟩
theorem keepC_t {n0 : Nat} {A B C : World} (h : KeepC n0 A B) (k : KeepC n0 B C) : KeepC n0 A C := ⟨Nat.le_trans h.1 k.1, fun i o hi ho hc => k.2 i o hi (h.2 i o hi ho hc) hc⟩
theorem keepC_b {n0 : Nat} {w : World} (W : World) (l : Nat) (o o' : Obj) (_ : w.heap.size ≤ l) (h : W.heap[l]? = some o) (ho : o.isCells = false) (_ : o.isWalk = false) : KeepC n0 W (W.putObj l o') := by
  have hlt := (Array.getElem?_eq_some_iff.1 h).1
  refine ⟨(grownBy_putObj' W l o').size, fun k o1 _ hk hc => ?_⟩
  refine ((grownBy_putObj' W l o').block k (Array.getElem?_eq_some_iff.1 hk).1 (fun e => ?_)).trans hk
  cases e
  rw [h] at hk; cases hk
  rw [ho] at hc; cases hc

theorem Blk.keepC {n0 : Nat} {W W' : World} {g : Nat} {t : TypeId} {cs : List Value} (h : Blk W g t cs) (hk : KeepC n0 W W') (hg : n0 ≤ g) : Blk W' g t cs := hk.2 g _ hg h rfl

/-- Frames outside S, where S lies below n0. -/
theorem KeepC.of_fr {n0 : Nat} {W W' : World} {S : Nat → Prop} (h : Fr S W W') (hS : ∀ b, S b → b < n0) : KeepC n0 W W' :=
  ⟨h.size, fun k o hk ho _ => (h.block k (Array.getElem?_eq_some_iff.1 ho).1 (fun hs => by have := hS k hs; omega)).trans ho⟩

theorem Fr.grown_none {W W' : World} (h : Fr (fun _ => False) W W') : W.grownBy W' none := ⟨h.os, h.tape, h.output, h.size, fun k hk _ => h.block k hk (fun e => e)⟩

theorem ownsRow_keepC {n0 : Nat} {W W' : World} {base : Nat} {e : TypeId} {size : Nat} {v : Value} {n : Nat} {xs : List Value} (h : W.ownsRow base e size v n xs) (hb : n0 ≤ base) (hk : KeepC n0 W W') : W'.ownsRow base e size v n xs := by
  refine ⟨h.1, h.2.imp id ?_⟩
  rintro ⟨g, cap, cur, r1, r2, r3, r4⟩
  exact ⟨g, cap, cur, r1, r2, hk.2 g _ (by omega) r3 rfl, r4⟩

theorem ownsRow_fr {S : Nat → Prop} {W W' : World} {base : Nat} {e : TypeId} {size : Nat} {v : Value} {n : Nat} {xs : List Value} (h : W.ownsRow base e size v n xs) (hS : ∀ b, S b → b < base) (hk : Fr S W W') : W'.ownsRow base e size v n xs := by
  refine ⟨h.1, h.2.imp id ?_⟩
  rintro ⟨g, cap, cur, r1, r2, r3, r4⟩
  exact ⟨g, cap, cur, r1, r2, (hk.block g (Array.getElem?_eq_some_iff.1 r3).1 (fun hs => by have := hS g hs; omega)).trans r3, r4⟩

/-- A key as it may come: within int's bounds. -/
def kclip (x : Int) : Int := if -9223372036854775808 ≤ x ∧ x ≤ 9223372036854775807 then x else 0

theorem kclip_in (x : Int) : in64 (kclip x) := by unfold kclip in64; split <;> omega
theorem kclip_eq {x : Int} (h : in64 x) : kclip x = x := by unfold kclip; unfold in64 at h; rw [if_pos h]

section
variable {V : Type}

/-- what is at hand, by the frames -/
def rAll : List (Option (Fm V)) → List (Fm V)
  | [] => []
  | none :: r => rAll r
  | some f :: r => f :: rAll r

theorem rAll_append (a b : List (Option (Fm V))) : rAll (a ++ b) = rAll a ++ rAll b := by
  induction a with
  | nil => rfl
  | cons o r ih => cases o <;> simp [rAll, ih]

theorem rAll_len (l : List (Option (Fm V))) : (rAll l).length = rCnt l := by
  induction l with
  | nil => rfl
  | cons o r ih => cases o <;> simp [rAll, rCnt, ih]

theorem rAll_step {l : List (Option (Fm V))} {j : Nat} {o : Option (Fm V)} (h : l[j]? = some o) : rAll (l.take (j + 1)) = rAll (l.take j) ++ rAll [o] := by
  have hlt := (List.getElem?_eq_some_iff.1 h).1
  rw [List.take_succ_eq_append_getElem hlt, rAll_append, (List.getElem?_eq_some_iff.1 h).2]

theorem mem_rAll {l : List (Option (Fm V))} {f : Fm V} : f ∈ rAll l ↔ some f ∈ l := by
  induction l with
  | nil => simp [rAll]
  | cons o r ih => cases o <;> simp [rAll, ih]

/-- the cells of these frames in a row -/
def frRow (enc : V → List Value) : List (Fm V) → List Value
  | [] => []
  | f :: r => frCells enc f ++ frRow enc r

theorem frRow_append (enc : V → List Value) (a b : List (Fm V)) : frRow enc (a ++ b) = frRow enc a ++ frRow enc b := by
  induction a with
  | nil => rfl
  | cons f r ih => simp [frRow, ih]

theorem frRow_get {enc : V → List Value} (he : ∀ v, (enc v).length = 1) {l : List (Fm V)} {i : Nat} {f : Fm V} (h : l[i]? = some f) {j : Nat} (hj : j < 4) : (frRow enc l)[i * 4 + j]? = (frCells enc f)[j]? := by
  have hl : ∀ g : Fm V, (frCells enc g).length = 4 := fun g => by simp [frCells, he]
  induction l generalizing i with
  | nil => simp at h
  | cons g r ih =>
    cases i with
    | zero =>
      simp at h; subst h
      rw [frRow, List.getElem?_append_left (by rw [hl]; omega)]
      simp
    | succ i =>
      rw [frRow, List.getElem?_append_right (by rw [hl]; omega), hl, show (i + 1) * 4 + j - 4 = i * 4 + j by omega]
      exact ih (by simpa using h)
end

end Go.Proofs.Ytbiaompkmabfjaa
