/- 'for k, v := range m' over a map with int keys, under way; the laws at its operations. -/
import Derived.Test.YtofnenemjbccgaaMap
import Derived.Maps.RangeWalk
namespace Go.Proofs.Ytofnenemjbccgaa
open Go.Maps Go.RowKit

/-- Block r is an iterator over the map at block b that holds l; lf k: the entry at k is still to come; cnt: how many are. -/
def VRange (w : World) (P : Program) (kt b r : Nat) (l : List (Int × Value)) (lf : Int → Bool) (cnt : Nat) : Prop :=
  ∃ (n : Nat) (left : Lit → Bool), w.ranges P kt rawR b r n (toD l) left cnt ∧ Srt l ∧ InK l ∧ ∀ k, left (.int .i64 k) = lf k

section
variable {P : Program} {w w' : World} {kt b r : Nat} {l : List (Int × Value)} {lf : Int → Bool} {cnt : Nat}

theorem VRange.vmap (h : VRange w P kt b r l lf cnt) : VMap w P kt b l := by
  obtain ⟨n, left, h1, h2, h3, h4⟩ := h
  exact VMap.of_owns h1.owns h2 h3

theorem VRange.left_eq (h : VRange w P kt b r l lf cnt) : w.rangeLeft b r = cnt := by
  obtain ⟨n, left, h1, _⟩ := h
  exact h1.left_eq

theorem VRange.ne_ (h : VRange w P kt b r l lf cnt) : r ≠ b := by
  obtain ⟨n, left, h1, _⟩ := h
  exact h1.ne

theorem VRange.lt (h : VRange w P kt b r l lf cnt) : r < w.heap.size := by
  obtain ⟨n, left, h1, _⟩ := h
  exact h1.lt

theorem VRange.same (h : VRange w P kt b r l lf cnt) (hb : w'.heap[b]? = w.heap[b]?) (hr : w'.heap[r]? = w.heap[r]?) : VRange w' P kt b r l lf cnt := by
  obtain ⟨n, left, ⟨es, clock, since, seen, c0, g1, F, g2, g3, g4, rest⟩, h2⟩ := h
  exact ⟨n, left, ⟨es, clock, since, seen, c0, hb.trans g1, F, g2, g3, hr.trans g4, rest⟩, h2⟩

theorem VRange.fr {S : Nat → Prop} (h : VRange w P kt b r l lf cnt) (hF : Fr S w w') (hb : ¬ S b) (hr : ¬ S r) : VRange w' P kt b r l lf cnt :=
  h.same (hF.block b h.vmap.lt hb) (hF.block r h.lt hr)

/-- an iterator is no row, and no map -/
theorem VRange.ne_blk {g : Nat} {t : TypeId} {cs : List Value} (h : VRange w P kt b r l lf cnt) (hB : Blk w g t cs) : g ≠ r := by
  obtain ⟨n, left, ⟨es, clock, since, seen, c0, g1, F, g2, g3, g4, rest⟩, h2⟩ := h
  rintro rfl
  unfold Blk at hB
  rw [hB] at g4
  cases g4

theorem VRange.ne_map {b' kt' : Nat} {l' : List (Int × Value)} (h : VRange w P kt b r l lf cnt) (hV : VMap w P kt' b' l') : b' ≠ r := by
  obtain ⟨n, left, ⟨es, clock, since, seen, c0, g1, F, g2, g3, g4, rest⟩, h2⟩ := h
  obtain ⟨⟨es', clock', hb, _⟩, _⟩ := hV
  rintro rfl
  rw [hb] at g4
  cases g4

theorem look_of_atKey {x : Int} {v : Value} (h : ∀ zd, (toD l).atKey (.int .i64 x) zd = .held v) : look x l = some v := by
  cases e : look x l with
  | some u =>
    have := h (.held v)
    rw [toD_atKey, e] at this
    have h3 : u = v := by simpa using this
    rw [h3]
  | none =>
    have h1 := h (.held (.bool true))
    have h2 := h (.held (.bool false))
    rw [toD_atKey, e] at h1 h2
    have h3 : Value.bool true = v := by simpa using h1
    have h4 : Value.bool false = v := by simpa using h2
    rw [← h3] at h4
    cases h4

/-- 'range m'. -/
theorem wpList_range_v {ops : Array Oper} {rest : List Oper} {o : Oper} {a : Act} {Q : Exit → Act → World → Prop} (w : World) (hg : o.guard = none) (m : Operand) (t : TypeId) (hop : o.op = Op.range t m) (kt e : TypeId) (hkt : P.underlying kt = some (.int .i64)) (ht : P.underlying t = some (.map kt e)) (b : Nat) (l : List (Int × Value))
    (hV : VMap w P kt b l) (hm : a.eval m = .map (some b))
    (hK : ∀ w', VRange w' P kt b w.heap.size l (fun k => (look k l).isSome) l.length → Fr (fun _ => False) w w' → w'.heap.size = w.heap.size + 1 → wpList P ops Q rest (a.put o.dst (.pointer (some ⟨w.heap.size, 0, none⟩))) w') :
    wpList P ops Q (o :: rest) a w := by
  refine wpList_range_own w hg m t hop kt e (int_keyed hkt) ht rawR b l.length (toD l) hm hV.1 fun w' h1 h2 h3 => hK w' ⟨_, _, by rw [toD_size] at h1; exact h1, hV.2.1, hV.2.2, fun k => toD_has l k⟩ ?_ h3
  exact (Fr.refl (fun _ => False) w).grown h2 (fun b hb => by cases hb)

/-- THE STEP. -/
theorem wpList_next_v {ops : Array Oper} {rest : List Oper} {o : Oper} {a : Act} {Q : Exit → Act → World → Prop} (w : World) (hg : o.guard = none) (it : Operand) (hop : o.op = Op.next it false) (kt : TypeId) (hkt : P.underlying kt = some (.int .i64)) (b r : Nat) (l : List (Int × Value)) (lf : Int → Bool) (cnt : Nat)
    (hit : a.eval it = .pointer (some ⟨r, 0, none⟩)) (h : VRange w P kt b r l lf cnt)
    (hDone : (∀ k, lf k = false) → wpList P ops Q rest (a.put o.dst (.tuple #[.bool false])) w)
    (hMore : ∀ (x : Int) (v : Value) (w' : World) (cnt' : Nat), in64 x → look x l = some v → lf x = true → VRange w' P kt b r l (fun z => lf z && z != x) cnt' → cnt' < cnt →
      Fr (fun j => j = r) w w' → w'.heap.size = w.heap.size → (Instr.entry (.pointer (some ⟨r, 0, none⟩))).run P w' = .ok (.tuple #[.int .i64 x, v]) w' → wpList P ops Q rest (a.put o.dst (.tuple #[.bool true, .int .i64 x, v])) w') :
    wpList P ops Q (o :: rest) a w := by
  obtain ⟨n, left, h1, h2, h3, h4⟩ := h
  refine wpList_next_ranges (α := Int) (β := Value) w hg it hop kt (int_keyed hkt) rawR (Value.int .i64) id (fun key kl hkey => by obtain ⟨x, rfl, _⟩ := Maps.keyOf_int_inv hkt hkey; exact ⟨x, rfl⟩) (fun v y hv => ⟨v, rfl⟩) b r n (toD l) left cnt hit h1 (fun _ hl => hDone fun k => by rw [← h4 k]; exact hl _) ?_
  intro x v kl y w' cnt' hkey hlk hv hat hrg hlt hgr hsz hen
  obtain ⟨x', ex, rfl, hwx⟩ := Maps.keyOf_int_inv hkt hkey
  cases ex
  have hy : y = (.held v, []) := by
    have : rawR v = some y := hv
    unfold rawR at this
    exact (Option.some.inj this).symm
  refine hMore x v w' cnt' (wf_in64 hwx) (look_of_atKey fun zd => by rw [hat zd, hy]) (by rw [← h4 x]; exact hlk) ⟨n, _, hrg, h2, h3, fun k => ?_⟩ hlt ?_ hsz hen
  · show (left (.int .i64 k) && !(Lit.int .i64 k).sameKey (.int .i64 x)) = (lf k && k != x)
    rw [h4 k]
    congr 1
    by_cases e : k = x <;> simp [Lit.sameKey, e]
  · exact (Fr.refl (fun j => j = r) w).grown hgr (fun j hj => .inl (by cases hj; rfl))
end

end Go.Proofs.Ytofnenemjbccgaa
