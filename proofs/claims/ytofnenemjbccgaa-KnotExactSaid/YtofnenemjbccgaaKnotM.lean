/- Who waits for whom: laws on append in a region that draws its order, of none or some elements. -/
import Derived.Test.YtofnenemjbccgaaKnotFreesW
namespace Go.Proofs.Ytofnenemjbccgaa
open Go.Maps Go.RowKit

section
variable {P : Program} (w : World)

/-- append of m ≥ 0 elements, at a step of a region that draws its order -/
theorem step_append_any {ops : Array Oper} {o : Oper} {a : Act} {K : Act → World → Prop} {Q : Exit → Act → World → Prop} {E : Prop} (hgd : o.guard = none) (s x : Operand) (t : TypeId)
    (ho : o.op = .call { callee := .builtin .append, args := #[s, x], argTypes := #[t, t] })
    (base : Nat) (e : TypeId) (i : TypeInfo) (z : Value) (size bytes : Nat) (ht : P.underlying t = some (.slice e)) (hi : P.info? e = some i) (hz : i.zero = some z)
    (hsize : i.size = size) (hby : i.bytes = bytes) (hzs : z.cells.size = size) (hsz : 0 < size)
    (v : Value) (n : Nat) (xs : List Value) (hs : a.eval s = v) (hown : w.ownsRow base e size v n xs)
    (ad : Addr) (m c : Nat) (news : List Value) (hx : a.eval x = .slice (some ad) m c) (hl : news.length = m * size) (hnews : ∀ j u, news[j]? = some u → w.cell? (ad.add j) = some u) (h1 : ∀ u ∈ news, u.oneCell' = true)
    (h63 : n + m ≤ maxLen) (hbytes : (n + m) * bytes ≤ 140737488355328) (hbase : base ≤ w.heap.size)
    (h : ∀ v' w', w'.ownsRow base e size v' (n + m) (xs ++ news) → w.grownBy w' v.ownBlock → (v'.ownBlock = v.ownBlock ∨ v'.ownBlock = some w.heap.size) → K (a.put o.dst v') w') :
    if Region.wanted o (yielded ops a.tmps) = true then Oper.wp P o a w K Q else E := by
  have hw : Region.wanted o (yielded ops a.tmps) = true := by simp [Region.wanted, hgd]
  rw [if_pos hw]
  obtain ⟨v', w', hr, h2, h3, _, h5⟩ := run_append_own_at (P := P) w base t o.type e i z size bytes ht hi hz hsize hby hzs hsz v n xs hown ad m c news hl hnews h1 h63 hbytes hbase
  unfold Oper.wp execOp
  simp only [ho, resolve, invoke, builtin, Sem.run_bind, Sem.run_pure, Result.andThen_ok, List.map_toArray, List.map_cons, List.map_nil, hs, hx, hr]
  exact h v' w' h2 h3 h5
end

theorem ecells_len (E : ES) : (ecells E).length = E.length * 2 := by
  induction E with
  | nil => rfl
  | cons q r ih => simp only [ecells, List.length_cons, ih]; omega

theorem ecells_drop (E : ES) (k : Nat) : ecells (E.drop k) = (ecells E).drop (k * 2) := by
  induction k generalizing E with
  | zero => simp
  | succ k ih =>
    cases E with
    | nil => simp [ecells]
    | cons q r =>
      rw [show (k + 1) * 2 = k * 2 + 1 + 1 by omega]
      simp only [List.drop_succ_cons, ecells, ih]

theorem ecells_take (E : ES) (k : Nat) : ecells (E.take k) = (ecells E).take (k * 2) := by
  induction k generalizing E with
  | zero => simp [ecells]
  | succ k ih =>
    cases E with
    | nil => simp [ecells]
    | cons q r =>
      rw [show (k + 1) * 2 = k * 2 + 1 + 1 by omega]
      simp only [List.take_succ_cons, ecells, ih]

theorem ecells_one (E : ES) : ∀ u ∈ ecells E, u.oneCell' = true := by
  induction E with
  | nil => intro u hu; cases hu
  | cons q r ih =>
    intro u hu
    simp only [ecells, List.mem_cons] at hu
    rcases hu with rfl | rfl | hu
    · rfl
    · rfl
    · exact ih u hu

/-- the cells of a row of edges from its k-th on -/
theorem erow_news {W : World} {base g n cap : Nat} {E : ES} (h : W.ownsRow base 38 2 (.slice (some ⟨g, 0, none⟩) n cap) n (ecells E)) (k m : Nat) (j : Nat) (u : Value) (hu : (ecells ((E.drop k).take m))[j]? = some u) : W.cell? ((⟨g, k * 2, none⟩ : Addr).add j) = some u := by
  have hadd : (⟨g, k * 2, none⟩ : Addr).add j = ⟨g, k * 2 + j, none⟩ := by unfold Addr.add; split <;> simp_all
  rw [ecells_take, ecells_drop] at hu
  have hlt := (List.getElem?_eq_some_iff.1 hu).1
  rw [List.getElem?_take] at hu
  split at hu
  · rw [List.getElem?_drop] at hu
    rw [hadd, h.cellAt _ (by have := (List.getElem?_eq_some_iff.1 hu).1; have := h.1; omega)]
    exact hu
  · cases hu

theorem row_fr2 {W W' : World} {S : Nat → Prop} {base : Nat} {e : TypeId} {size : Nat} {v : Value} {n : Nat} {xs : List Value} (h : W.ownsRow base e size v n xs) (hF : Fr S W W') (hn : ∀ g, v.ownBlock = some g → ¬ S g) : W'.ownsRow base e size v n xs := by
  refine ⟨h.1, h.2.imp id ?_⟩
  rintro ⟨g, cap, cur, rfl, r2, r3, r4⟩
  exact ⟨g, cap, cur, rfl, r2, (hF.block g (Array.getElem?_eq_some_iff.1 r3).1 (hn g rfl)).trans r3, r4⟩

theorem below_drews {B : Nat} {W w : World} (h : Below B W w) (n : Nat) : Below B W (w.drewN n) := h.trans ⟨rfl, rfl, rfl, Nat.le_refl _, fun _ _ => rfl⟩

theorem mod_bd (x : Int) (m : Int) (hm : 0 < m) (hm' : m < 9223372036854775808) : 0 ≤ wrap64 ((IntKind.u64.wrap x).tmod m) ∧ wrap64 ((IntKind.u64.wrap x).tmod m) < m := by
  have h0 : 0 ≤ IntKind.u64.wrap x := by
    simp only [IntKind.wrap, IntKind.signed, IntKind.bits]
    simp
    omega
  rw [Int.tmod_eq_emod_of_nonneg h0]
  have h1 := Int.emod_nonneg (IntKind.u64.wrap x) (show m ≠ 0 by omega)
  have h2 := Int.emod_lt_of_pos (IntKind.u64.wrap x) hm
  unfold wrap64
  omega

end Go.Proofs.Ytofnenemjbccgaa
