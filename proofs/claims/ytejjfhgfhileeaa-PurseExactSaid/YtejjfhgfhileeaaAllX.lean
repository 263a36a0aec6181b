/- Going over something: what a round keeps (cells, maps). -/
import Derived.Test.YtejjfhgfhileeaaMap
import Derived.RangeFuncNested
namespace Go.Proofs.Ytejjfhgfhileeaa
open Go.Maps Go.RowKit

/-- Cells and maps that lie from block n0 on stay as they are. -/
def KeepX (n0 : Nat) (W W' : World) : Prop := W.heap.size ≤ W'.heap.size ∧ ∀ (k : Nat) (o : Obj), n0 ≤ k → W.heap[k]? = some o → (o.isCells = true ∨ o.isWalk = true) → W'.heap[k]? = some o

theorem KeepX.refl (n0 : Nat) (W : World) : KeepX n0 W W := ⟨Nat.le_refl _, fun _ _ _ h _ => h⟩
theorem keepX_t {n0 : Nat} {A B C : World} (h : KeepX n0 A B) (k : KeepX n0 B C) : KeepX n0 A C := ⟨Nat.le_trans h.1 k.1, fun i o hi ho hc => k.2 i o hi (h.2 i o hi ho hc) hc⟩
theorem keepX_b {n0 : Nat} {w : World} (W : World) (l : Nat) (o o' : Obj) (_ : w.heap.size ≤ l) (h : W.heap[l]? = some o) (ho : o.isCells = false) (hw : o.isWalk = false) : KeepX n0 W (W.putObj l o') := by
  have hlt := (Array.getElem?_eq_some_iff.1 h).1
  refine ⟨(grownBy_putObj' W l o').size, fun k o1 _ hk hc => ?_⟩
  refine ((grownBy_putObj' W l o').block k (Array.getElem?_eq_some_iff.1 hk).1 (fun e => ?_)).trans hk
  cases e
  rw [h] at hk; cases hk
  rw [ho, hw] at hc
  rcases hc with hc | hc <;> cases hc

theorem Blk.keepX {n0 : Nat} {W W' : World} {g : Nat} {t : TypeId} {cs : List Value} (h : Blk W g t cs) (hk : KeepX n0 W W') (hg : n0 ≤ g) : Blk W' g t cs := hk.2 g _ hg h (.inl rfl)

theorem VMap.keepX {n0 : Nat} {W W' : World} {P : Program} {kt b : Nat} {l : List (Int × Value)} (h : VMap W P kt b l) (hk : KeepX n0 W W') (hg : n0 ≤ b) : VMap W' P kt b l := by
  have h0 := h
  obtain ⟨⟨es, clock, hb, _⟩, _⟩ := h
  exact h0.same ((hk.2 b _ hg hb (.inr rfl)).trans hb.symm)

/-- Frames outside S, where S lies below n0. -/
theorem KeepX.of_fr {n0 : Nat} {W W' : World} {S : Nat → Prop} (h : Fr S W W') (hS : ∀ b, S b → b < n0) : KeepX n0 W W' :=
  ⟨h.size, fun k o hk ho _ => (h.block k (Array.getElem?_eq_some_iff.1 ho).1 (fun hs => by have := hS k hs; omega)).trans ho⟩

theorem Fr.grown_none {W W' : World} (h : Fr (fun _ => False) W W') : W.grownBy W' none := ⟨h.os, h.tape, h.output, h.size, fun k hk _ => h.block k hk (fun e => e)⟩

theorem ownsRow_keepX {n0 : Nat} {W W' : World} {base : Nat} {e : TypeId} {size : Nat} {v : Value} {n : Nat} {xs : List Value} (h : W.ownsRow base e size v n xs) (hb : n0 ≤ base) (hk : KeepX n0 W W') : W'.ownsRow base e size v n xs := by
  refine ⟨h.1, h.2.imp id ?_⟩
  rintro ⟨g, cap, cur, r1, r2, r3, r4⟩
  exact ⟨g, cap, cur, r1, r2, hk.2 g _ (by omega) r3 (.inl rfl), r4⟩

theorem keepsFrom_of_fr {B : Nat} {S : Nat → Prop} {W W' : World} (h : Fr S W W') (hS : ∀ b, S b → b < B) : KeepsFrom B W W' :=
  ⟨h.size, fun k _ hB hk _ => (h.block k (Array.getElem?_eq_some_iff.1 hk).1 (fun hs => by have := hS k hs; omega)).trans hk⟩

/-- A number as it may come: within int's bounds. -/
def kclip (x : Int) : Int := if -9223372036854775808 ≤ x ∧ x ≤ 9223372036854775807 then x else 0

theorem kclip_in (x : Int) : in64 (kclip x) := by unfold kclip in64; split <;> omega
theorem kclip_eq {x : Int} (h : in64 x) : kclip x = x := by unfold kclip; unfold in64 at h; rw [if_pos h]

end Go.Proofs.Ytejjfhgfhileeaa
