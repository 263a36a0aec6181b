/- Who waits for whom: left, the walk. -/
import Derived.Test.YtofnenemjbccgaaKnotQ
namespace Go.Proofs.Ytofnenemjbccgaa
open Go.Maps Go.RowKit

/-- a row of whole numbers -/
def IntRow (w : World) (v : Value) (l : List Int) : Prop :=
  ∃ A cap, v = .slice A l.length cap ∧ ∀ (i : Nat) (q : Int), l[i]? = some q → ∃ g, A = some ⟨g, 0, none⟩ ∧ g < w.heap.size ∧ w.cell? ⟨g, i, none⟩ = some (.int .i64 q)

theorem IntRow.fr {w w' : World} {v : Value} {l : List Int} (h : IntRow w v l) {S : Nat → Prop} (hF : Fr S w w') (hS : ∀ b, b < w.heap.size → ¬ S b) : IntRow w' v l := by
  obtain ⟨A, cap, rfl, hc⟩ := h
  refine ⟨A, cap, rfl, fun i q hq => ?_⟩
  obtain ⟨g, rfl, h1, h2⟩ := hc i q hq
  exact ⟨g, rfl, Nat.lt_of_lt_of_le h1 hF.size, (hF.cell (p := ⟨g, i, none⟩) h1 (hS g h1)).trans h2⟩

theorem introw_of {W : World} {base : Nat} {v : Value} {l : List Int} (h : W.ownsRow base 3 1 v l.length (ivs l)) : IntRow W v l := by
  rcases id h.2 with ⟨rfl, h0⟩ | ⟨g, cap, cur, rfl, hg, hgr, hr⟩
  · refine ⟨none, 0, ?_, fun i q hi => ?_⟩
    · cases l with
      | nil => rfl
      | cons a r => simp at h0
    · cases l with
      | nil => cases hi
      | cons a r => simp at h0
  · refine ⟨_, cap, rfl, fun i q hi => ⟨g, rfl, (Array.getElem?_eq_some_iff.1 hgr).1, ?_⟩⟩
    have hlt := (List.getElem?_eq_some_iff.1 hi).1
    rw [h.cellAt i (by omega)]
    simp [ivs, hi]

def touch (vs : List Int) (q : Int × Int) : Bool := vs.any fun k => q.1 == k || q.2 == k

theorem touch_left (vs : List Int) (E : ES) : leftE vs E = E.filter fun q => !touch vs q := by
  unfold leftE touch
  refine List.filter_congr fun q _ => ?_
  rw [Bool.eq_iff_iff]
  simp [not_or]

theorem touch_succ {vs : List Int} {j : Nat} {x : Int} (h : vs[j]? = some x) (q : Int × Int) : touch (vs.take (j + 1)) q = (touch (vs.take j) q || (q.1 == x || q.2 == x)) := by
  unfold touch
  rw [List.take_add_one, h]
  simp

theorem left_succ {vs : List Int} {E : ES} {i : Nat} {q : Int × Int} (h : E[i]? = some q) : leftE vs (E.take (i + 1)) = leftE vs (E.take i) ++ (if touch vs q then [] else [q]) := by
  rw [touch_left, touch_left, List.take_add_one, h, List.filter_append]
  cases e : touch vs q <;> simp [e]

theorem leftE_le (vs : List Int) (E : ES) : (leftE vs E).length ≤ E.length := List.length_filter_le _ _

set_option maxHeartbeats 1000000 in
theorem left_calls (w : World) (v vn : Value) (E : ES) (vs : List Int) (hR : EdgeRow w v E) (hV : IntRow w vn vs) (hn : E.length ≤ 1000000) (hm : vs.length ≤ 1000000) :
    Calls Try.prog 16 #[v, vn] w fun e w' => ∃ u, e = .returned u ∧ w'.ownsRow w.heap.size 38 2 u (leftE vs E).length (ecells (leftE vs E)) ∧ Fr (fun _ => False) w w' := by
  obtain ⟨i0, hi, hz0, hz1, hz2⟩ := info_parts infoEdge
  obtain ⟨A, cap, rfl, hc⟩ := hR
  obtain ⟨An, capn, rfl, hcn⟩ := hV
  have HC := Lib.hid hc
  have HN := Lib.hid hcn
  clear hc hcn
  have hr1 : (w.alloc (.cells #[] 38)).ownsRow w.heap.size 38 2 (.slice (some ⟨w.heap.size, 0, none⟩) 0 0) 0 [] :=
    w.ownsRow_lit #[] 0 (Nat.le_refl _) (by omega) rfl
  have hF0 : Fr (fun _ => False) w (w.alloc (.cells #[] 38)) := (Fr.refl _ w).alloc _
  go_enter Try.func16, Try.ntmps16
  go_wp2_with fail
  go_loopg [5, 6] E.length (fun g u i wr => ∃ k : Nat, i = .int .i64 k ∧ k ≤ E.length ∧ g = E.length - k ∧ wr.ownsRow w.heap.size 38 2 u (leftE vs (E.take k)).length (ecells (leftE vs (E.take k))) ∧ Fr (fun _ => False) w wr)
  case atStart => exact ⟨0, rfl, by omega, by omega, hr1, hF0⟩
  case round =>
    obtain ⟨k, rfl, hk, rfl, hra, hF⟩ := hrel
    have hsz := hF.size
    clear hr1 hF0
    by_cases hlt : k < E.length
    · have hltz : (k : Int) < (E.length : Int) := by omega
      have q1 : (0 : Int) ≤ (k : Int) := by omega
      have ho : E[k]? = some E[k] := List.getElem?_eq_getElem hlt
      generalize E[k] = q at ho
      obtain ⟨g0, rfl, hg0, a0, a1⟩ := HC.out k q ho
      rw [← hF.cell (p := ⟨g0, _, none⟩) hg0 (fun h => h)] at a0 a1
      obtain ⟨qa, qb⟩ := q
      dsimp only at a0 a1
      have HO := Lib.hid ho
      have HR := Lib.hid hra
      have HF := Lib.hid hF
      have hll := leftE_le vs (E.take k)
      rw [List.length_take] at hll
      clear ho hra hF
      go_wp2_with fail
      go_loopg [7, 8] vs.length (fun g b i wi => ∃ (j : Nat) (bb : Bool) (nq : Nat), i = .int .i64 j ∧ j ≤ vs.length ∧ g = vs.length - j ∧ b = .bool bb ∧ Hid (bb = touch (vs.take j) (qa, qb)) ∧ wi = wr.drewN nq)
      case atStart => exact ⟨0, false, 0, rfl, by omega, by omega, rfl, Lib.hid rfl, rfl⟩
      case round =>
        obtain ⟨j, bb, nq0, rfl, hj, rfl, rfl, hbb, rfl⟩ := hrel
        by_cases hltj : j < vs.length
        · have hltzj : (j : Int) < (vs.length : Int) := by omega
          have q2 : (0 : Int) ≤ (j : Int) := by omega
          have ho : vs[j]? = some vs[j] := List.getElem?_eq_getElem hltj
          generalize vs[j] = x at ho
          obtain ⟨g1, rfl, hg1, b0⟩ := HN.out j x ho
          rw [← HF.out.cell (p := ⟨g1, _, none⟩) hg1 (fun h => h)] at b0
          have HX := Lib.hid (touch_succ ho (qa, qb))
          clear ho
          cases bb with
          | true =>
            go_wp2_with fail
            go_quiet (fail)
            go_wp2_with fail
            go_roundg (vs.length - (j + 1))
            case measure => omega
            case rel => exact ⟨j + 1, true, nq0 + nq, by go_num, by omega, rfl, rfl, Lib.hid (by rw [HX.out, ← hbb.out]; rfl), rfl⟩
          | false =>
            by_cases h1 : (qa == x) = true
            · have H1 := Lib.hid h1
              go_wp2_with fail
              go_quiet (fail)
              go_wp2_with fail
              go_roundg (vs.length - (j + 1))
              case measure => omega
              case rel => exact ⟨j + 1, true, nq0 + nq, by go_num, by omega, rfl, rfl, Lib.hid (by rw [HX.out, ← hbb.out, H1.out]; rfl), rfl⟩
            · have h1 : (qa == x) = false := by simpa using h1
              have H1 := Lib.hid h1
              by_cases h2 : (qb == x) = true
              · have H2 := Lib.hid h2
                go_wp2_with fail
                go_quiet (fail)
                go_wp2_with fail
                go_roundg (vs.length - (j + 1))
                case measure => omega
                case rel => exact ⟨j + 1, true, nq0 + nq, by go_num, by omega, rfl, rfl, Lib.hid (by rw [HX.out, ← hbb.out, H1.out, H2.out]; rfl), rfl⟩
              · have h2 : (qb == x) = false := by simpa using h2
                have H2 := Lib.hid h2
                go_wp2_with fail
                go_quiet (fail)
                go_wp2_with fail
                go_roundg (vs.length - (j + 1))
                case measure => omega
                case rel => exact ⟨j + 1, false, nq0 + nq, by go_num, by omega, rfl, rfl, Lib.hid (by rw [HX.out, ← hbb.out, H1.out, H2.out]; rfl), rfl⟩
        · obtain rfl : j = vs.length := by omega
          have hltzj : (vs.length : Int) ≤ (vs.length : Int) := by omega
          have hb2 := hbb.out
          rw [List.take_length] at hb2
          have HB := Lib.hid hb2
          have hFq : Fr (fun _ => False) w (wr.drewN nq0) := ⟨HF.out.os, HF.out.tape, HF.out.output, HF.out.size, HF.out.block⟩
          have hRq : (wr.drewN nq0).ownsRow w.heap.size 38 2 u5 _ _ := HR.out
          have hls := left_succ (vs := vs) HO.out
          have HLS := Lib.hid hls
          clear hb2 hbb hls
          cases bb with
          | true =>
            have HFQ := Lib.hid hFq
            have HRQ := Lib.hid hRq
            clear hFq hRq
            go_wp2_with fail
            go_roundg (E.length - (k + 1))
            case measure => omega
            case rel => exact ⟨k + 1, by go_num, by omega, rfl, by rw [HLS.out, ← HB.out, if_pos rfl, List.append_nil]; exact HRQ.out, HFQ.out⟩
          | false =>
            have HFQ := Lib.hid hFq
            clear hFq
            have hszq : w.heap.size ≤ (wr.drewN nq0).heap.size := hsz
            generalize hWq : wr.drewN nq0 = wq at *
            have a0' : wq.cell? ⟨g0, k * 2, none⟩ = some (.int .i64 qa) := by rw [← hWq]; exact a0
            have a1' : wq.cell? ⟨g0, k * 2 + 1, none⟩ = some (.int .i64 qb) := by rw [← hWq]; exact a1
            have hcs := hRq.1
            clear hWq a0 a1
            go_wp2_with (at_builtin; refine wpList_append_own _ rfl (.tmp 49) (.tmp 54) 24 rfl w.heap.size 38 i0 _ 2 16 Try.underlying24 hi hz0 hz1 hz2 rfl (by decide) _ _ _ rfl (hRq.alloc _) ⟨wq.heap.size, 0, none⟩ 1 1 [.int .i64 qa, .int .i64 qb] rfl rfl (news2 wq 38 qa qb) (one2 _ _) (by unfold maxLen; omega) (by omega) (by rw [World.size_alloc]; omega) ?_; intro v1 w1 hown1 hgrow1 _hn1; clear _hn1)
            have hFg := ((Fr.refl (fun bl => u5.ownBlock = some bl) wq).alloc (.cells #[.int .i64 qa, .int .i64 qb] 38)).grown hgrow1 (fun b hb => .inl hb)
            have hFn := HFQ.out.trans hFg (fun b hb e => by have := (hRq.lt _ e).1; omega)
            go_roundg (E.length - (k + 1))
            case measure => omega
            case rel => exact ⟨k + 1, by go_num, by omega, rfl, by rw [HLS.out, ← HB.out, if_neg (by decide), ecells_append, List.length_append]; exact hown1, hFn⟩
    · obtain rfl : k = E.length := by omega
      have hltz : (E.length : Int) ≤ (E.length : Int) := by omega
      rw [List.take_length] at hra
      go_wp2_with fail
      go_ret
      exact ⟨u5, rfl, hra, hF⟩

end Go.Proofs.Ytofnenemjbccgaa
