/- Arguments opened to cells: slices of arrays of one-cell elements. -/
import Derived.Test.YtofnenemjbccgaaOpen
import Derived.Deep.Slices
import Derived.Deep.Fields
import Derived.ChangeSame
import Derived.ProofKit
import Derived.OpenShut
import Derived.ShutString
import Derived.ChangeOld
namespace Go.Proofs.Ytofnenemjbccgaa
open Go.ChangeShapes Go.WideShapes Go.Deep Go.RowKit

section
variable {H : Type} {enc : TypeId × Value → H} {P : Program} {w : World} {base : Nat}

theorem open_arrs {t e e2 : TypeId} {m2 : Nat} (A : Option Addr) (n c : Nat) {d : DataW H} {ps : List MemPlace} (ht : P.underlying t = some (.slice e)) (he : P.underlying e = some (.array m2 e2))
    (h1c : P.cellsOf e2 = 1) (hC : P.cellsOf e = m2) (h0 : 0 < m2) (ok : Nat → Value → Prop)
    (hok : ∀ j (k : Nat) v y, DataW.trod enc P w base (fun _ => true) true k e2 [v] = some y → ok j v)
    (h : DataW.Trod enc P w base (fun _ => true) true t (.slice A n c) d ps) : CellsAt w w.heap.size m2 A n ok ∧ n ≤ maxLen := by
  obtain ⟨fuel, hf⟩ := h
  rcases open_slice ht hf with ⟨hcs, _⟩ | ⟨a, len, cap, m, n', D, Pl, hcs, hb, hl, hm, hmm, hx, hi⟩
  · simp only [Value.cells, List.cons.injEq, Value.slice.injEq, and_true] at hcs
    obtain ⟨rfl, rfl, rfl⟩ := hcs
    exact ⟨fun i hi => by omega, by omega⟩
  · simp only [Value.cells, List.cons.injEq, Value.slice.injEq, and_true] at hcs
    obtain ⟨rfl, rfl, rfl⟩ := hcs
    simp only [if_true] at hmm
    subst hmm
    refine ⟨fun i him => ?_, by omega⟩
    obtain ⟨cs', hc, ht'⟩ := hi i (by omega)
    rw [hC] at hc
    obtain ⟨ys, n2, hn', hy, hlen, hyl, hg⟩ := DataW.trod_array he ht'
    obtain ⟨_, hcl, hat⟩ := World.cells?_some hc
    have hcell : ∀ j, j < m2 → ∃ v, ok j v ∧ w.cell? ((a.add (i * m2)).add j) = some v := by
      intro j hj
      have hv : cs'[j]? = some (cs'[j]'(by omega)) := List.getElem?_eq_getElem (by omega)
      have h1 := hg j hj
      rw [h1c, Nat.mul_one] at h1
      have hone' : (cs'.drop j).take 1 = [cs'[j]'(by omega)] := by
        rw [List.drop_eq_getElem_cons (by omega)]
        rfl
      rw [hone'] at h1
      have hys : ys[j]? = some (ys[j]'(by omega)) := List.getElem?_eq_getElem (by omega)
      exact ⟨_, hok j _ _ _ (h1.trans hys), by rw [hat j hj, hv]⟩
    obtain ⟨b, off, spot⟩ := a
    obtain ⟨v, _, hv⟩ := hcell 0 h0
    have hsp : spot = none := by
      have := World.cell?_spot hv
      have hsz := World.cell?_spot hv
      rw [Addr.add, if_pos rfl] at hsz
      unfold Addr.add at hsz
      split at hsz
      · exact hsz
      · rename_i hne
        obtain ⟨cs0, hc0, _⟩ := hi 0 (by omega)
        rw [hC] at hc0
        obtain ⟨_, _, hat0⟩ := World.cells?_some hc0
        have e0 := hat0 0 h0
        simp only [Nat.zero_mul, Addr.add, if_true] at e0
        have hl0 : cs0[0]? = some (cs0[0]'(by have := (World.cells?_some hc0).2.1; omega)) := List.getElem?_eq_getElem _
        rw [hl0] at e0
        exact World.cell?_spot e0
    subst hsp
    have hadd : ∀ j, ((⟨b, off, none⟩ : Addr).add (i * m2)).add j = ⟨b, off + i * m2 + j, none⟩ := by
      intro j
      unfold Addr.add
      by_cases h1 : i * m2 = 0 <;> by_cases h2 : j = 0 <;> simp [h1, h2]
    refine ⟨b, off, rfl, ?_, fun j hj => ?_⟩
    · rw [hadd] at hv
      exact World.block_lt_of_cell? _ _ hv
    · obtain ⟨u, hu, hcu⟩ := hcell j hj
      rw [hadd] at hcu
      exact ⟨u, hu, hcu⟩
end

end Go.Proofs.Ytofnenemjbccgaa
