/- The ring's All with Int values: the maker and the iterator. -/
import Derived.Test.YtbiaompkmabfjaaRingHI
import Derived.Test.YtbiaompkmabfjaaAllL
import Derived.RangeFuncBound
import Derived.RangeFuncCalls
import Derived.RangeFuncLeaves
import Derived.Shelf.Abstract
import Derived.Shelf.RegionOpen
import Derived.WalkKit
import Derived.OwnWalkIn
import Derived.TacticsInMore
import Derived.LoopNIn
import Derived.LoopIn
import Derived.Laws.AppendOwn
import Derived.Laws.OwnMore
namespace Go.Proofs.Ytbiaompkmabfjaa
open Go.Maps Go.RowKit Go.Shelf

attribute [local go_sem] Oper.semAt_some

theorem AllI_calls (rb : Nat) (w : World) :
    Calls Try.prog 31 #[.pointer (some ⟨rb, 0, none⟩)] w fun e w' => e = .returned (.func (.func 46) #[] #[.pointer (some ⟨w.heap.size, 0, none⟩)]) ∧ w' = w.alloc (.cells #[.pointer (some ⟨rb, 0, none⟩)] 24) := by
  go_enter Try.func31, Try.ntmps31
  go_wp2_with fail
  go_ret
  exact ⟨rfl, rfl⟩

theorem infoFmI : (Try.prog.info? 74).map (fun i => (i.zero, i.size, i.bytes)) = some (some (.agg #[.int .i64 0, .int .i64 0, .int .i64 0, .bool false]), 4, 32) := by kernel_rfl

/-- how a thing comes to a round -/
def comeI (f : Fm Int) : Array Value := #[.int .i64 (kclip f.key), Value.int .i64 f.val]

theorem encI_one : ∀ v, (encI v).length = 1 := fun _ => rfl

/-- what the second loop goes over -/
theorem rowAtI {wr : World} {base g cap : Nat} {l : List (Fm Int)} (h : wr.ownsRow base 74 4 (.slice (some ⟨g, 0, none⟩) l.length cap) l.length (frRow encI l)) {i : Nat} {f : Fm Int} (hi : l[i]? = some f) :
    wr.cell? ⟨g, i * 4, none⟩ = some (.int .i64 f.key) ∧ wr.cell? ⟨g, i * 4 + 1, none⟩ = some (Value.int .i64 f.val) ∧ wr.cell? ⟨g, i * 4 + 2, none⟩ = some (.int .i64 f.pins) ∧ wr.cell? ⟨g, i * 4 + 3, none⟩ = some (.bool f.fresh) := by
  have hlt := (List.getElem?_eq_some_iff.1 hi).1
  exact ⟨(h.cellAt (i * 4) (by omega)).trans (frRow_get encI_one hi (j := 0) (by omega)), (h.cellAt (i * 4 + 1) (by omega)).trans (frRow_get encI_one hi (j := 1) (by omega)),
    (h.cellAt (i * 4 + 2) (by omega)).trans (frRow_get encI_one hi (j := 2) (by omega)), (h.cellAt (i * 4 + 3) (by omega)).trans (frRow_get encI_one hi (j := 3) (by omega))⟩

set_option maxRecDepth 100000 in
set_option maxHeartbeats 2000000 in
theorem AllI_in (n : Nat) (hn : 1 ≤ n) (l bx n0 : Nat) (rb fb mb : Nat) (bs : List (Option Nat)) (st : RS Int) (top : Int) (J Jx : List (Fm Int) → World → Prop) (W : World)
    (hbx : W.cell? ⟨bx, 0, none⟩ = some (.pointer (some ⟨rb, 0, none⟩))) (hR : RingI W rb fb mb bs st) (hI : RInv st top) (hn0 : n0 ≤ W.heap.size) (hJ : AbidesFrom W.heap.size J)
    (hY : ∀ pre x W1, J pre W1 → pre.length < (rAll st.fs).length → YieldAt Fence.wide (n - 1) Try.prog l (comeI x) W1 fun e W' => (e = .returned (.bool true) ∧ J (pre ++ [x]) W' ∧ KeepC n0 W1 W') ∨ (e = .returned (.bool false) ∧ Jx (pre ++ [x]) W'))
    (h0 : J [] W) :
    CallsIn Fence.wide n Try.prog 46 #[.func (.yield l) #[] #[], .pointer (some ⟨bx, 0, none⟩)] W fun e W' => (∃ v, e = .returned v) ∧
      ((∃ ys, ys = rAll st.fs ∧ J ys W') ∨ (∃ pre, pre <+: rAll st.fs ∧ Jx pre W')) := by
  obtain ⟨i0, hi, hz0, hz1, hz2⟩ := info_parts infoFmI
  have hn64 := hI.n64
  have hkey := Lib.hid hI.key
  refine callsIn_wide.2 ?_
  have c0 := hR.1.ring.cell 0
  have HY := Lib.hid hY
  have HJ := Lib.hid hJ
  clear hY hJ
  go_enter Try.func46, Try.ntmps46
  go_wp2_with fail
  go_loopg [3, 15] st.fs.length (fun g v i wr => ∃ k : Nat, i = .int .i64 k ∧ k ≤ st.fs.length ∧ g = st.fs.length - k ∧ wr.ownsRow W.heap.size 74 4 v (rAll (st.fs.take k)).length (frRow encI (rAll (st.fs.take k))) ∧ Fr (fun _ => False) W wr)
  case atStart => exact ⟨0, rfl, by omega, by omega, World.ownsRow_nil _ _ _ _, Fr.refl _ _⟩
  case round =>
    obtain ⟨k, rfl, hk, rfl, hown, hF⟩ := hrel
    have hRr := hR.keep hF (fun _ _ h => h)
    by_cases hlt : k < st.fs.length
    · have hltz : (k : Int) < (st.fs.length : Int) := by omega
      have ho : st.fs[k]? = some st.fs[k] := List.getElem?_eq_getElem hlt
      generalize st.fs[k] = o at ho
      have HG := Lib.hid (rAll_step ho)
      cases o with
      | none =>
        have a0 := hRr.1.cell_none (hRr.1.at_none ho)
        clear ho
        go_wp2_with fail
        go_roundg (st.fs.length - (k + 1))
        case measure => omega
        case rel => exact ⟨k + 1, rfl, by omega, rfl, by rw [HG.out]; simpa [rAll] using hown, hF⟩
      | some f =>
        obtain ⟨gb, hgb, hB⟩ := hRr.1.at_some ho
        have a0 := hRr.1.cell_some hgb
        obtain ⟨a1, a2, a3, a4⟩ := cellsI f wr gb hB
        clear ho
        have hcn : (rAll (st.fs.take k)).length ≤ 64 := by
          rw [rAll_len]
          have h1 := rCnt_le (st.fs.take k)
          have : (st.fs.take k).length ≤ st.fs.length := by simp; omega
          omega
        have hnews : ∀ (j : Nat) (u : Value), (frCells encI f)[j]? = some u → (wr.alloc (.cells #[.int .i64 f.key, Value.int .i64 f.val, .int .i64 f.pins, .bool f.fresh] 74)).cell? ((⟨wr.heap.size, 0, none⟩ : Addr).add j) = some u := fun j u hu => by
          have := (Blk.new wr 74 (frCells encI f)).cell j
          rw [hu] at this
          rw [← this]
          congr 1
          unfold Addr.add
          by_cases h1 : j = 0 <;> simp [h1]
        have hone : ∀ u ∈ frCells encI f, u.oneCell' = true := by
          intro u hu
          simp only [frCells, encI, List.mem_cons, List.cons_append, List.nil_append, List.not_mem_nil, or_false] at hu
          rcases hu with rfl | rfl | rfl | rfl <;> rfl
        have hbase : W.heap.size ≤ (wr.alloc (.cells #[.int .i64 f.key, Value.int .i64 f.val, .int .i64 f.pins, .bool f.fresh] 74)).heap.size := by
          rw [World.size_alloc]; have := hF.size; omega
        have HN := Lib.hid hnews
        have HO := Lib.hid hone
        have HB := Lib.hid hbase
        clear hnews hone hbase
        go_wp2_with (at_builtin; refine wpList_append_own _ rfl (.tmp 21) (.tmp 25) 91 rfl W.heap.size 74 i0 _ 4 32 Try.underlying91 hi hz0 hz1 hz2 rfl (by decide) _ _ _ rfl (hown.alloc _) ⟨wr.heap.size, 0, none⟩ 1 1 (frCells encI f) rfl rfl HN.out HO.out (by unfold maxLen; omega) (by omega) HB.out ?_; intro v' w1 hown' hgrow _)
        have hF' : Fr (fun _ => False) W w1 := (hF.alloc _).grown hgrow (fun b hb => .inr ((hown.alloc (.cells #[.int .i64 f.key, Value.int .i64 f.val, .int .i64 f.pins, .bool f.fresh] 74)).lt b hb).1)
        clear hgrow
        go_wp2_with fail
        go_roundg (st.fs.length - (k + 1))
        case measure => omega
        case rel => exact ⟨k + 1, rfl, by omega, rfl, by rw [HG.out, frRow_append, List.length_append]; simpa [rAll, frRow] using hown', hF'⟩
    · have e0 : k = st.fs.length := by omega
      have hltz : (st.fs.length : Int) ≤ (k : Int) := by omega
      rw [e0, List.take_length] at hown
      clear e0 c0
      have hJ0 : J [] wr := HJ.out [] W wr none h0 hF.grown_none (fun r e => by cases e)
      have hsz : n0 ≤ wr.heap.size := Nat.le_trans hn0 hF.size
      have hlen : (rAll st.fs).length ≤ 64 := by rw [rAll_len]; have := rCnt_le st.fs; omega
      obtain ⟨wo, rfl⟩ : ∃ wo : World, wo = wr := ⟨_, rfl⟩
      obtain ⟨hl0, ⟨rfl, hnil⟩ | ⟨g, cap, cur, rfl, hg0, hgr⟩⟩ := id hown
      · have hnil' : rAll st.fs = [] := List.length_eq_zero_iff.1 hnil
        clear hl0 hnil hown
        go_wp2_with fail
        refine (wpIn_wide (n := n)).1 ?_
        gi_loopw [30] (fun i wr => i = .int .i64 0 ∧ J [] wr) (fun _ _ => 0)
        case atStart => exact ⟨rfl, hJ0⟩
        case round =>
          obtain ⟨rfl, hJs⟩ := hrel
          gi_wp2
          go_end0
          exact ⟨⟨_, rfl⟩, .inl ⟨[], hnil'.symm, hJs⟩⟩
      · clear hl0 hgr
        have hown1 := Lib.hid hown
        clear hown
        go_wp2_with fail
        refine (wpIn_wide (n := n)).1 ?_
        gi_loopw [30] (fun i wr => ∃ k : Nat, k ≤ (rAll st.fs).length ∧ i = .int .i64 k ∧ J ((rAll st.fs).take k) wr ∧ KeepC n0 wo wr ∧ W.heap.size ≤ wr.heap.size) (fun i _ => (rAll st.fs).length - (intOf i).toNat)
        case atStart => exact ⟨0, Nat.zero_le _, rfl, by simpa using hJ0, KeepC.refl _ _, hF.size⟩
        case round =>
          obtain ⟨k, hk, rfl, hJs, hK, hsz2⟩ := hrel
          have hownx := ownsRow_keepC hown1.out hn0 hK
          by_cases hlt : k < (rAll st.fs).length
          · have hltz : (k : Int) < ((rAll st.fs).length : Int) := by omega
            have ho : (rAll st.fs)[k]? = some (rAll st.fs)[k] := List.getElem?_eq_getElem hlt
            have HTS := Lib.hid (List.take_succ_eq_append_getElem hlt)
            have hin : in64 ((rAll st.fs)[k]).key := by
              obtain ⟨j, hj⟩ := List.mem_iff_getElem?.1 (mem_rAll.1 (List.getElem_mem hlt))
              exact hkey.out j _ hj
            generalize (rAll st.fs)[k] = f at ho HTS hin
            obtain ⟨a1, a2, a3, a4⟩ := rowAtI hownx ho
            have hJ1 : J ((rAll st.fs).take k) (wr.alloc (.cells #[.int .i64 f.key, Value.int .i64 f.val, .int .i64 f.pins, .bool f.fresh] 74)) := HJ.out _ wr _ none hJs (World.grownBy_alloc wr _ none) (fun r e => by cases e)
            obtain ⟨fn, tmps, assign, body, hy, hRd⟩ := HY.out _ f _ hJ1 (by rw [List.length_take]; omega)
            unfold comeI at hy
            rw [kclip_eq hin] at hy
            have HO := Lib.hid ho
            have HIN := Lib.hid hin
            clear ho hin hownx
            gi_wp2
            refine hRd.mono ?_
            rintro e W3 (⟨rfl, hJ3, hk3⟩ | ⟨rfl, hJx3⟩)
            · have hK3 : KeepC n0 wo W3 := keepC_t hK (keepC_t ((KeepC.of_fr (S := fun _ => False) ((Fr.refl _ wr).alloc _) (fun _ h => h.elim))) hk3)
              gi_wp2
              go_roundw
              case rel => exact ⟨k + 1, by omega, by simp, by rw [HTS.out]; exact hJ3, hK3, Nat.le_trans hsz2 (Nat.le_trans (by simp) hk3.1)⟩
              case measure => simp [intOf]; omega
            · gi_wp2
              refine bodyPost_ret (results_none rfl _ _ _) rfl ?_
              exact ⟨⟨_, rfl⟩, .inr ⟨_, by rw [← HTS.out]; exact List.take_prefix _ _, hJx3⟩⟩
          · have e0 : k = (rAll st.fs).length := by omega
            have hltz : ((rAll st.fs).length : Int) ≤ (k : Int) := by omega
            rw [e0, List.take_length] at hJs
            clear e0
            gi_wp2
            go_end0
            exact ⟨⟨_, rfl⟩, .inl ⟨_, rfl, hJs⟩⟩

/-- THE ITERATOR's CONTRACT. -/
theorem AllI_stops (n : Nat) (hn : 1 ≤ n) (bx : Nat) (rb fb mb : Nat) (bs : List (Option Nat)) (st : RS Int) (top : Int) (w : World)
    (hbx : w.cell? ⟨bx, 0, none⟩ = some (.pointer (some ⟨rb, 0, none⟩))) (hR : RingI w rb fb mb bs st) (hI : RInv st top) :
    SeqStopsK Fence.wide n Try.prog 46 #[.pointer (some ⟨bx, 0, none⟩)] comeI (KeepC w.heap.size) (fun ys => ys = rAll st.fs) (fun pre => pre <+: rAll st.fs) (rAll st.fs).length w := fun l J Jx W hW hJ _ hY h0 =>
  AllI_in n hn l bx w.heap.size rb fb mb bs st top J Jx W ((hW.cell (p := ⟨bx, 0, none⟩) (World.block_lt_of_cell? w _ hbx)).trans hbx) (hR.keep (Fr.of_below hW (fun _ => False)) (fun _ _ h => h)) hI hW.size hJ hY h0

end Go.Proofs.Ytbiaompkmabfjaa
