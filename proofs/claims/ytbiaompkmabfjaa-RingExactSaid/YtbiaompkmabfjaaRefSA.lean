/- The ring's reference: All. -/
import Derived.Test.YtbiaompkmabfjaaRefSN
import Derived.Laws.AppendOwn
import Derived.Laws.OwnMore
namespace Go.Proofs.Ytbiaompkmabfjaa
open Go.Maps Go.RowKit

/-- what is at hand, by the frames: its cells in a row -/
def allCells : List (Option (Fm ByteArray)) → List Value
  | [] => []
  | none :: r => allCells r
  | some f :: r => refCells (some f) ++ allCells r

theorem allCells_append (a b : List (Option (Fm ByteArray))) : allCells (a ++ b) = allCells a ++ allCells b := by
  induction a with
  | nil => rfl
  | cons o r ih => cases o <;> simp [allCells, ih]

theorem rCnt_append {V : Type} (a b : List (Option (Fm V))) : rCnt (a ++ b) = rCnt a + rCnt b := by
  induction a with
  | nil => simp [rCnt]
  | cons o r ih => cases o <;> simp [rCnt, ih]; omega

theorem all_step {l : List (Option (Fm ByteArray))} {j : Nat} {o : Option (Fm ByteArray)} (h : l[j]? = some o) : allCells (l.take (j + 1)) = allCells (l.take j) ++ allCells [o] ∧ rCnt (l.take (j + 1)) = rCnt (l.take j) + rCnt [o] := by
  have hlt := (List.getElem?_eq_some_iff.1 h).1
  rw [List.take_succ_eq_append_getElem hlt, allCells_append, rCnt_append, (List.getElem?_eq_some_iff.1 h).2]
  exact ⟨rfl, rfl⟩

/-- the row that All gives -/
def RefAll (w : World) (ub lb : Nat) (st : RS ByteArray) (e : Ending) (w' : World) : Prop :=
  ∃ v, e = .returned v ∧ w'.ownsRow w.heap.size 55 5 v (rCnt st.fs) (allCells st.fs) ∧ IsRef w' ub lb st ∧ Fr (fun _ => False) w w'

theorem refAll_calls (w : World) (ub lb : Nat) (st : RS ByteArray) (hR : IsRef w ub lb st) (hn : st.fs.length ≤ 64) :
    Calls Try.prog 30 #[.pointer (some ⟨ub, 0, none⟩)] w (RefAll w ub lb st) := by
  obtain ⟨i0, hi, hz0, hz1, hz2⟩ := info_parts infoFr
  have c0 := hR.ring.cell 0
  have hrow : (w.alloc (.cells #[] 55)).ownsRow w.heap.size 55 5 (.slice (some ⟨w.heap.size, 0, none⟩) 0 0) 0 [] :=
    w.ownsRow_lit #[] 0 (Nat.le_refl _) (by omega) rfl
  have hF0 : Fr (fun _ => False) w (w.alloc (.cells #[] 55)) := (Fr.refl _ w).alloc _
  go_enter Try.func30, Try.ntmps30
  go_wp2_with fail
  go_loopg [3, 4] st.fs.length (fun g v i wr => ∃ k : Nat, i = .int .i64 k ∧ k ≤ st.fs.length ∧ g = st.fs.length - k ∧ wr.ownsRow w.heap.size 55 5 v (rCnt (st.fs.take k)) (allCells (st.fs.take k)) ∧ IsRef wr ub lb st ∧ Fr (fun _ => False) w wr)
  case atStart => exact ⟨0, rfl, by omega, by omega, hrow, hR.fr hF0 (fun h => h) (fun h => h), hF0⟩
  case round =>
    obtain ⟨k, rfl, hk, rfl, hown, hR', hF⟩ := hrel
    have c0 := hR'.ring.cell 0
    by_cases hlt : k < st.fs.length
    · have hltz : (k : Int) < (st.fs.length : Int) := by omega
      have ho : st.fs[k]? = some st.fs[k] := List.getElem?_eq_getElem hlt
      generalize st.fs[k] = o at ho
      obtain ⟨g1, g2⟩ := all_step ho
      have HG := Lib.hid (And.intro g1 g2)
      clear g1 g2
      cases o with
      | none =>
        obtain ⟨a0, _⟩ := hR'.at_none ho
        clear ho
        go_wp2_with fail
        go_roundg (st.fs.length - (k + 1))
        case measure => omega
        case rel => exact ⟨k + 1, rfl, by omega, rfl, by rw [HG.out.1, HG.out.2]; simpa [allCells, rCnt] using hown, hR', hF⟩
      | some f =>
        obtain ⟨a0, a1, a2, a3, a4⟩ := hR'.at_some ho
        clear ho
        have hlb := hR'.lts.2
        have hcn := rCnt_le (st.fs.take k)
        have hcl : (st.fs.take k).length ≤ 64 := by simp; omega
        have hnews : ∀ (j : Nat) (u : Value), (refCells (some f))[j]? = some u → (wr.alloc (.cells #[.bool true, .int .i64 f.key, .string f.val, .int .i64 f.pins, .bool f.fresh] 55)).cell? ((⟨wr.heap.size, 0, none⟩ : Addr).add j) = some u := fun j u hu => by
          have := (Blk.new wr 55 (refCells (some f))).cell j
          rw [hu] at this
          rw [← this]
          congr 1
          unfold Addr.add
          by_cases h1 : j = 0 <;> simp [h1]
        have hone : ∀ u ∈ refCells (some f), u.oneCell' = true := by
          intro u hu
          simp only [refCells, List.mem_cons, List.not_mem_nil, or_false] at hu
          rcases hu with rfl | rfl | rfl | rfl | rfl <;> rfl
        have hbase : w.heap.size ≤ (wr.alloc (.cells #[.bool true, .int .i64 f.key, .string f.val, .int .i64 f.pins, .bool f.fresh] 55)).heap.size := by
          rw [World.size_alloc]; have := hF.size; omega
        have HN := Lib.hid hnews
        have HO := Lib.hid hone
        have HB := Lib.hid hbase
        clear hnews hone hbase
        go_wp2_with (at_builtin; refine wpList_append_own _ rfl (.tmp 23) (.tmp 31) 61 rfl w.heap.size 55 i0 (frameV none) 5 48 Try.underlying61 hi hz0 hz1 hz2 rfl (by decide) _ _ _ rfl (hown.alloc _) ⟨wr.heap.size, 0, none⟩ 1 1 (refCells (some f)) rfl rfl HN.out HO.out (by unfold maxLen; omega) (by omega) HB.out ?_; intro v' w1 hown' hgrow _)
        have hF' : Fr (fun _ => False) w w1 := (hF.alloc _).grown hgrow (fun b hb => .inr ((hown.alloc (.cells #[.bool true, .int .i64 f.key, .string f.val, .int .i64 f.pins, .bool f.fresh] 55)).lt b hb).1)
        clear hgrow
        go_wp2_with fail
        go_roundg (st.fs.length - (k + 1))
        case measure => omega
        case rel => exact ⟨k + 1, rfl, by omega, rfl, by rw [HG.out.1, HG.out.2]; simpa [allCells, rCnt] using hown', hR.fr hF' (fun h => h) (fun h => h), hF'⟩
    · have e0 : k = st.fs.length := by omega
      have hltz : (st.fs.length : Int) ≤ (k : Int) := by omega
      have ht : st.fs.take k = st.fs := by rw [e0, List.take_length]
      rw [ht] at hown
      clear e0
      go_wp2_with fail
      go_ret
      exact ⟨_, rfl, hown, hR', hF⟩

end Go.Proofs.Ytbiaompkmabfjaa
