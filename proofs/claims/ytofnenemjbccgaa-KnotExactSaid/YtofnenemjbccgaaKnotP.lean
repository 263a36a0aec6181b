/- Who waits for whom: edges. -/
import Derived.Test.YtofnenemjbccgaaKnotR
import Derived.StillTailTactics
namespace Go.Proofs.Ytofnenemjbccgaa
open Go.Maps Go.RowKit

def ecells : ES → List Value
  | [] => []
  | q :: r => .int .i64 q.1 :: .int .i64 q.2 :: ecells r

theorem ecells_append (a b : ES) : ecells (a ++ b) = ecells a ++ ecells b := by
  induction a with
  | nil => rfl
  | cons q r ih => simp [ecells, ih]

theorem ecells_get {E : ES} {i : Nat} {q : Int × Int} (h : E[i]? = some q) : (ecells E)[i * 2]? = some (.int .i64 q.1) ∧ (ecells E)[i * 2 + 1]? = some (.int .i64 q.2) := by
  induction E generalizing i with
  | nil => simp at h
  | cons p r ih =>
    cases i with
    | zero => simp at h; subst h; simp [ecells]
    | succ i =>
      have := ih (i := i) (by simpa using h)
      rw [show (i + 1) * 2 = i * 2 + 1 + 1 by omega]
      simpa [ecells] using this

/-- an own row of edges, read as one -/
theorem edgerow_of {W : World} {base : Nat} {v : Value} {E : ES} (h : W.ownsRow base 38 2 v E.length (ecells E)) : EdgeRow W v E := by
  rcases id h.2 with ⟨rfl, h0⟩ | ⟨g, cap, cur, rfl, hg, hgr, hr⟩
  · refine ⟨none, 0, by rw [h0], fun i q hi => ?_⟩
    have := (List.getElem?_eq_some_iff.1 hi).1
    omega
  · refine ⟨_, cap, rfl, fun i q hi => ⟨g, rfl, (Array.getElem?_eq_some_iff.1 hgr).1, ?_⟩⟩
    have hlt := (List.getElem?_eq_some_iff.1 hi).1
    obtain ⟨h1, h2⟩ := ecells_get hi
    exact ⟨(h.cellAt (i * 2) (by omega)).trans h1, (h.cellAt (i * 2 + 1) (by omega)).trans h2⟩

theorem infoEdge : (Try.prog.info? 38).map (fun i => (i.zero, i.size, i.bytes)) = some (some (.agg #[.int .i64 0, .int .i64 0]), 2, 16) := by kernel_rfl
theorem infoEdgeR : (Try.prog.info? 43).map (fun i => (i.zero, i.size, i.bytes)) = some (some (.agg #[.int .i64 0, .int .i64 0]), 2, 16) := by kernel_rfl

theorem news2 (W : World) (t : TypeId) (x y : Int) : ∀ (j : Nat) (u : Value), [Value.int .i64 x, Value.int .i64 y][j]? = some u → (W.alloc (.cells #[.int .i64 x, .int .i64 y] t)).cell? ((⟨W.heap.size, 0, none⟩ : Addr).add j) = some u := fun j u hu => by
  have := (Blk.new W t [.int .i64 x, .int .i64 y]).cell j
  rw [hu] at this
  rw [← this]
  congr 1
  unfold Addr.add
  by_cases h1 : j = 0 <;> simp [h1]

theorem one2 (x y : Int) : ∀ u ∈ [Value.int .i64 x, Value.int .i64 y], u.oneCell' = true := by
  intro u hu
  simp only [List.mem_cons, List.not_mem_nil, or_false] at hu
  rcases hu with rfl | rfl <;> rfl

/-- the pairs that came in, as edges -/
def pairsE (f : Nat → Nat → Int) (n : Nat) : ES := (List.range n).map fun i => (f i 0, f i 1)

theorem pairsE_succ (f : Nat → Nat → Int) (n : Nat) : pairsE f (n + 1) = pairsE f n ++ [(f n 0, f n 1)] := by simp [pairsE, List.range_succ]
theorem pairsE_len (f : Nat → Nat → Int) (n : Nat) : (pairsE f n).length = n := by simp [pairsE]

end Go.Proofs.Ytofnenemjbccgaa
