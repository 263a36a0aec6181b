/- The reference: in, Same, Without. -/
import Derived.Test.YtofnenemjbccgaaKnotM
namespace Go.Proofs.Ytofnenemjbccgaa
open Go.Maps Go.RowKit

theorem mem_take_succ {l : List Int} {j : Nat} {x k : Int} (h : l[j]? = some x) : k ∈ l.take (j + 1) ↔ k ∈ l.take j ∨ k = x := by
  rw [List.take_add_one, h]
  simp

set_option maxHeartbeats 1000000 in
theorem in_calls (w : World) (v : Value) (l : List Int) (k : Int) (hV : IntRow w v l) (hn : l.length ≤ 1000000) :
    Calls Try.prog 17 #[v, .int .i64 k] w fun e w' => ∃ b : Bool, e = .returned (.bool b) ∧ (b = true ↔ k ∈ l) ∧ w = w' := by
  obtain ⟨A, cap, rfl, hc⟩ := hV
  have HC := Lib.hid hc
  clear hc
  go_enter Try.func17, Try.ntmps17
  go_wp2_with fail
  go_loopg [5] l.length (fun g i wr => ∃ j : Nat, i = .int .i64 j ∧ j ≤ l.length ∧ g = l.length - j ∧ k ∉ l.take j ∧ wr = w)
  case atStart => exact ⟨0, rfl, by omega, by omega, by simp, rfl⟩
  case round =>
    obtain ⟨j, rfl, hj, rfl, hno, rfl⟩ := hrel
    have HNO := Lib.hid hno
    clear hno
    by_cases hlt : j < l.length
    · have hltz : (j : Int) < (l.length : Int) := by omega
      have q1 : (0 : Int) ≤ (j : Int) := by omega
      have ho : l[j]? = some l[j] := List.getElem?_eq_getElem hlt
      generalize l[j] = x at ho
      obtain ⟨g, rfl, _, a0⟩ := HC.out j x ho
      have HO := Lib.hid ho
      clear ho
      by_cases e : x = k
      · have hb : (x == k) = true := by simpa using e
        have E := Lib.hid e
        clear e
        go_wp2_with fail
        go_ret
        exact ⟨true, rfl, by
          have h1 := HO.out
          rw [E.out] at h1
          simp [List.mem_of_getElem? h1], rfl⟩
      · have hb : (x == k) = false := by simpa using e
        have E := Lib.hid e
        clear e
        go_wp2_with fail
        go_roundg (l.length - (j + 1))
        case measure => omega
        case rel => exact ⟨j + 1, by go_num, by omega, rfl, by rw [mem_take_succ HO.out]; exact fun h => h.elim HNO.out (fun h => E.out h.symm), rfl⟩
    · obtain rfl : j = l.length := by omega
      have hltz : (l.length : Int) ≤ (l.length : Int) := by omega
      have h1 := HNO.out
      rw [List.take_length] at h1
      have H1 := Lib.hid h1
      clear h1
      go_wp2_with fail
      go_ret
      exact ⟨false, rfl, by simp [H1.out], rfl⟩

set_option maxHeartbeats 1000000 in
theorem same_calls (w : World) (va vb : Value) (l : List Int) (hA : IntRow w va l) (hB : IntRow w vb l) (hn : l.length ≤ 1000000) :
    Calls Try.prog 12 #[va, vb] w fun e w' => e = .returned (.bool true) ∧ Fr (fun _ => False) w w' := by
  obtain ⟨A, cap, rfl, hc⟩ := hA
  obtain ⟨A', cap', rfl, hc'⟩ := hB
  have HC := Lib.hid hc
  have HC' := Lib.hid hc'
  clear hc hc'
  go_enter Try.func12, Try.ntmps12
  go_wp2_with fail
  go_loopg [5] l.length (fun g i wr => ∃ (k nq : Nat), i = .int .i64 k ∧ k ≤ l.length ∧ g = l.length - k ∧ wr = w.drewN nq)
  case atStart => exact ⟨0, 0, rfl, by omega, by omega, rfl⟩
  case round =>
    obtain ⟨i, nq0, rfl, hi, rfl, rfl⟩ := hrel
    by_cases hlt : i < l.length
    · have hltz : (i : Int) < (l.length : Int) := by omega
      have q1 : (0 : Int) ≤ (i : Int) := by omega
      have ho : l[i]? = some l[i] := List.getElem?_eq_getElem hlt
      generalize l[i] = x at ho
      obtain ⟨g6, rfl, _, a6⟩ := HC.out i x ho
      obtain ⟨g7, rfl, _, a7⟩ := HC'.out i x ho
      have hne : (x != x) = false := by simp
      clear ho
      go_wp2_with fail
      go_quiet (fail)
      go_wp2_with fail
      go_roundg (l.length - (i + 1))
      case measure => omega
      case rel => exact ⟨i + 1, nq0 + nq, by go_num, by omega, rfl, rfl⟩
    · obtain rfl : i = l.length := by omega
      have hltz : (l.length : Int) ≤ (l.length : Int) := by omega
      go_wp2_with fail
      go_ret
      exact ⟨rfl, rfl, rfl, rfl, Nat.le_refl _, fun _ _ _ => rfl⟩

theorem without_snoc {k : Int} {E : ES} {i : Nat} {q : Int × Int} (h : E[i]? = some q) : without k (E.take (i + 1)) = without k (E.take i) ++ (if q.1 != k && q.2 != k then [q] else []) := by
  unfold without
  rw [List.take_add_one, h, List.filter_append]
  cases e : (q.1 != k && q.2 != k) <;> simp [e]

theorem without_le (k : Int) (E : ES) : (without k E).length ≤ E.length := List.length_filter_le _ _

set_option maxHeartbeats 1000000 in
theorem without_calls (w : World) (v : Value) (E : ES) (x : Int) (hR : EdgeRow w v E) (hn : E.length ≤ 1000000) :
    Calls Try.prog 21 #[v, .int .i64 x] w fun e w' => ∃ u, e = .returned u ∧ w'.ownsRow w.heap.size 43 2 u (without x E).length (ecells (without x E)) ∧ Fr (fun _ => False) w w' := by
  obtain ⟨i0, hi, hz0, hz1, hz2⟩ := info_parts infoEdgeR
  obtain ⟨A, cap, rfl, hc⟩ := hR
  have HC := Lib.hid hc
  clear hc
  have hr1 : (w.alloc (.cells #[] 43)).ownsRow w.heap.size 43 2 (.slice (some ⟨w.heap.size, 0, none⟩) 0 0) 0 [] :=
    w.ownsRow_lit #[] 0 (Nat.le_refl _) (by omega) rfl
  have hF0 : Fr (fun _ => False) w (w.alloc (.cells #[] 43)) := (Fr.refl _ w).alloc _
  go_enter Try.func21, Try.ntmps21
  go_wp2_with fail
  go_loopg [5, 6] E.length (fun g u i wr => ∃ k : Nat, i = .int .i64 k ∧ k ≤ E.length ∧ g = E.length - k ∧ wr.ownsRow w.heap.size 43 2 u (without x (E.take k)).length (ecells (without x (E.take k))) ∧ Fr (fun _ => False) w wr)
  case atStart => exact ⟨0, rfl, by omega, by omega, hr1, hF0⟩
  case round =>
    obtain ⟨k, rfl, hk, rfl, hra, hF⟩ := hrel
    have hsz := hF.size
    clear hr1 hF0
    by_cases hlt : k < E.length
    · have hltz : (k : Int) < (E.length : Int) := by omega
      have q1 : (0 : Int) ≤ (k : Int) := by omega
      have ho : E[k]? = some E[k] := List.getElem?_eq_getElem hlt
      generalize E[k] = q at ho
      obtain ⟨g0, rfl, hg0, a0, a1⟩ := HC.out k q ho
      rw [← hF.cell (p := ⟨g0, _, none⟩) hg0 (fun h => h)] at a0 a1
      obtain ⟨qa, qb⟩ := q
      dsimp only at a0 a1
      have HR := Lib.hid hra
      have HF := Lib.hid hF
      have hll := without_le x (E.take k)
      rw [List.length_take] at hll
      have hls := without_snoc (k := x) ho
      have HLS := Lib.hid hls
      clear ho hF hls hra
      cases h1 : (qa != x) with
      | false =>
        have H1 := Lib.hid h1
        go_wp2_with fail
        go_roundg (E.length - (k + 1))
        case measure => omega
        case rel => exact ⟨k + 1, by go_num, by omega, rfl, by rw [HLS.out, H1.out, Bool.false_and, if_neg (by decide), List.append_nil]; exact HR.out, HF.out⟩
      | true =>
        have H1 := Lib.hid h1
        cases h2 : (qb != x) with
        | false =>
          have H2 := Lib.hid h2
          go_wp2_with fail
          go_roundg (E.length - (k + 1))
          case measure => omega
          case rel => exact ⟨k + 1, by go_num, by omega, rfl, by rw [HLS.out, H1.out, H2.out, Bool.and_false, if_neg (by decide), List.append_nil]; exact HR.out, HF.out⟩
        | true =>
          have H2 := Lib.hid h2
          have hRq := HR.out
          have hlow := hRq.lt
          go_wp2_with (at_builtin; refine wpList_append_own _ rfl (.tmp 30) (.tmp 35) 25 rfl w.heap.size 43 i0 _ 2 16 Try.underlying25 hi hz0 hz1 hz2 rfl (by decide) _ _ _ rfl (hRq.alloc _) ⟨wr.heap.size, 0, none⟩ 1 1 [.int .i64 qa, .int .i64 qb] rfl rfl (news2 wr 43 qa qb) (one2 _ _) (by unfold maxLen; omega) (by omega) (by rw [World.size_alloc]; omega) ?_; intro v1 w1 hown1 hgrow1 _hn1; clear _hn1)
          have hFg := ((Fr.refl (fun bl => u5.ownBlock = some bl) wr).alloc (.cells #[.int .i64 qa, .int .i64 qb] 43)).grown hgrow1 (fun b hb => .inl hb)
          have hFn := HF.out.trans hFg (fun b hb e => by have := (hlow _ e).1; omega)
          go_roundg (E.length - (k + 1))
          case measure => omega
          case rel => exact ⟨k + 1, by go_num, by omega, rfl, by rw [HLS.out, H1.out, H2.out, Bool.and_true, if_pos rfl, ecells_append, List.length_append]; exact hown1, hFn⟩
    · obtain rfl : k = E.length := by omega
      have hltz : (E.length : Int) ≤ (E.length : Int) := by omega
      rw [List.take_length] at hra
      go_wp2_with fail
      go_ret
      exact ⟨u5, rfl, hra, hF⟩

end Go.Proofs.Ytofnenemjbccgaa
