/- The purse's All: the maker and the iterator. -/
import Derived.Test.YtejjfhgfhileeaaPurse
import Derived.Test.YtejjfhgfhileeaaAllX
import Derived.Test.YtejjfhgfhileeaaKeysP
import Derived.RangeFuncBound
import Derived.RangeFuncCalls
import Derived.RangeFuncLeaves
import Derived.Shelf.Abstract
import Derived.Shelf.RegionOpen
import Derived.WalkKit
import Derived.OwnWalkIn
import Derived.TacticsInMore
import Derived.LoopNIn
import Derived.LoopIn
import Derived.KernelRfl
import Derived.Deep.LoopGhost
import Derived.Deep.QuietTactic
import Derived.BigQuiet
import Derived.Deep.RegionWith
import Derived.RegionTactic
import Derived.StillTailTactics
import Derived.Deep.DeepCutAuto
import Derived.Lib.Hide
namespace Go.Proofs.Ytejjfhgfhileeaa
open Go.Maps Go.RowKit Go.Shelf

attribute [local go_sem] Oper.semAt_some

theorem AllP_calls (pb : Nat) (w : World) :
    Calls Try.prog 17 #[.pointer (some ⟨pb, 0, none⟩)] w fun e w' => e = .returned (.func (.func 19) #[] #[.pointer (some ⟨w.heap.size, 0, none⟩)]) ∧ w' = w.alloc (.cells #[.pointer (some ⟨pb, 0, none⟩)] 25) := by
  go_enter Try.func17, Try.ntmps17
  go_wp2_with fail
  go_ret
  exact ⟨rfl, rfl⟩

/-- maps.Clone. -/
theorem clone_calls (b : Nat) (l : List (Int × Value)) (w : World) (hV : VMap w Try.prog 3 b l) :
    Calls Try.prog 20 #[.map (some b)] w fun e w' => e = .returned (.map (some w.heap.size)) ∧ VMap w' Try.prog 3 w.heap.size l ∧ Fr (fun _ => False) w w' := by
  refine (AnyW.maps_Clone_owns cloneA 3 rawR b l.length (toD l) w hV.1).mono fun e w' ⟨h1, h2, _, h4⟩ => ?_
  exact ⟨h1, VMap.of_owns h2 hV.2.1 hV.2.2, Fr.of_below h4 _⟩

/-- how a pair comes to a round -/
def comeP (x : Int × Int) : Array Value := #[.int .i64 (kclip x.1), .int .i64 (kclip x.2)]

set_option maxRecDepth 100000 in
set_option maxHeartbeats 2000000 in
theorem AllP_in (n : Nat) (hn : 1 ≤ n) (l bx n0 : Nat) (pb mb : Nat) (q : PS) (J Jx : List (Int × Int) → World → Prop) (W : World)
    (hbx : W.cell? ⟨bx, 0, none⟩ = some (.pointer (some ⟨pb, 0, none⟩))) (hP : IsPurse W pb mb q) (hI : PInv q) (hlen : q.l.length ≤ 1000000) (hn0 : n0 ≤ W.heap.size) (hJ : AbidesFrom W.heap.size J)
    (hY : ∀ pre x W1, J pre W1 → pre.length < q.l.length → YieldAt Fence.wide (n - 1) Try.prog l (comeP x) W1 fun e W' => (e = .returned (.bool true) ∧ J (pre ++ [x]) W' ∧ KeepX n0 W1 W') ∨ (e = .returned (.bool false) ∧ Jx (pre ++ [x]) W'))
    (h0 : J [] W) :
    CallsIn Fence.wide n Try.prog 19 #[.func (.yield l) #[] #[], .pointer (some ⟨bx, 0, none⟩)] W fun e W' => (∃ v, e = .returned v) ∧
      ((∃ ys, ys = q.l ∧ J ys W') ∨ (∃ pre, pre <+: q.l ∧ Jx pre W')) := by
  refine callsIn_wide.2 ?_
  have c0 := hP.1.cell 0
  have HY := Lib.hid hY
  have HJ := Lib.hid hJ
  clear hY hJ
  go_enter Try.func19, Try.ntmps19
  go_wp2_with fail
  refine (clone_calls mb _ W hP.2).mono ?_
  rintro e W1 ⟨rfl, hV1, hF1⟩
  go_wp2_with fail
  refine (keys_calls _ W1).mono ?_
  rintro e W2 ⟨rfl, rfl⟩
  have hbm := (Blk.new W1 46 [.map (some W.heap.size)]).cell 0
  have hV2 := hV1.alloc (.cells #[.map (some W.heap.size)] 46)
  go_wp2_with fail
  refine (sorted_calls _ W1.heap.size W.heap.size _ hV2 hbm (by rw [length_vmap]; omega)).mono ?_
  rintro e W3 ⟨v, rfl, hrow, -, hb3⟩
  have hF3 : Fr (fun _ => False) W W3 := (hF1.alloc _).trans (Fr.of_below hb3 (fun _ => False)) (fun _ _ h => h)
  have hV3 : VMap W3 Try.prog 3 W.heap.size (vmap vint q.l) := hV2.fr (Fr.of_below hb3 (fun _ => False)) (fun h => h)
  have hl2 : ((vmap vint q.l).map (·.1)).length = q.l.length := by simp [vmap]
  have hks : ((vmap vint q.l).map (·.1)).map (fun k => Value.int .i64 k) = q.l.map fun p => Value.int .i64 p.1 := by simp [vmap]
  rw [hl2, hks] at hrow
  have hsz1 := hF1.size
  have hbase : n0 ≤ (W1.alloc (.cells #[.map (some W.heap.size)] 46)).heap.size := by rw [World.size_alloc]; omega
  generalize (W1.alloc (.cells #[.map (some W.heap.size)] 46)).heap.size = B at hrow hbase
  clear hF1 hV1 hV2 hbm hb3 hl2 hks hP c0 hsz1
  have hJ0 : J [] W3 := HJ.out [] W W3 none h0 hF3.grown_none (fun r e => by cases e)
  obtain ⟨hl0, ⟨rfl, hnil⟩ | ⟨g, cap, cur, rfl, hg0, hgr⟩⟩ := id hrow
  · have hnil' : q.l = [] := List.length_eq_zero_iff.1 hnil
    clear hl0 hnil hrow
    have HN := Lib.hid hnil'
    clear hnil'
    go_wp2_with fail
    refine (wpIn_wide (n := n)).1 ?_
    gi_loopw [17] (fun i wx => i = .int .i64 0 ∧ J [] wx) (fun _ _ => 0)
    case atStart => exact ⟨rfl, hJ0⟩
    case round =>
      obtain ⟨rfl, hJs⟩ := hrel
      gi_wp2
      go_end0
      exact ⟨⟨_, rfl⟩, .inl ⟨[], HN.out.symm, hJs⟩⟩
  · clear hl0 hgr
    have hrow1 := Lib.hid hrow
    have hV1 := Lib.hid hV3
    clear hrow hV3
    have hszW := hF3.size
    go_wp2_with fail
    refine (wpIn_wide (n := n)).1 ?_
    gi_loopw [17] (fun i wx => ∃ k : Nat, k ≤ q.l.length ∧ i = .int .i64 k ∧ J (q.l.take k) wx ∧ KeepX n0 W3 wx) (fun i _ => q.l.length - (intOf i).toNat)
    case atStart => exact ⟨0, Nat.zero_le _, rfl, by simpa using hJ0, KeepX.refl _ _⟩
    case round =>
      obtain ⟨k, hk, rfl, hJs, hK⟩ := hrel
      have hrowx := ownsRow_keepX hrow1.out hbase hK
      have hVx := hV1.out.keepX hK hn0
      by_cases hlt : k < q.l.length
      · have hltz : (k : Int) < (q.l.length : Int) := by omega
        have ho : q.l[k]? = some q.l[k] := List.getElem?_eq_getElem hlt
        have HTS := Lib.hid (List.take_succ_eq_append_getElem hlt)
        have hmem := List.getElem_mem hlt
        have hin := hI.ink _ hmem
        have hpos := hI.pos _ hmem
        have hlook := look_of_mem hI.srt (k := (q.l[k]).1) (v := (q.l[k]).2) hmem
        have hle : (q.l[k]).2 ≤ 9223372036854775807 := by
          have h1 := pOf_bd hI (q.l[k]).1
          unfold pOf at h1
          rw [hlook] at h1
          have := hI.top
          simp at h1
          omega
        have hrun := hVx.find (t := 46) (e := 3) Try.underlying3 Try.underlying46 (zeroInt _) hin
        rw [look_vint, hlook, Option.getD_some] at hrun
        have hcx := (hrowx.cellAt k (by omega)).trans (by rw [List.getElem?_map, ho]; rfl : _ = some (Value.int .i64 (q.l[k]).1))
        generalize q.l[k] = x at ho HTS hin hpos hlook hle hrun hcx hmem
        have hin2 : in64 x.2 := by unfold in64; omega
        obtain ⟨fn, tmps, assign, body, hy, hRd⟩ := HY.out _ x _ hJs (by rw [List.length_take]; omega)
        unfold comeP at hy
        rw [kclip_eq hin, kclip_eq hin2] at hy
        clear ho hin hin2 hrowx hVx hlook hmem hpos hle
        gi_wp2
        refine hRd.mono ?_
        rintro e W4 (⟨rfl, hJ3, hk3⟩ | ⟨rfl, hJx3⟩)
        · have hK3 := keepX_t hK hk3
          clear hrun hcx hy hRd
          gi_wp2
          go_roundw
          case rel => exact ⟨k + 1, by omega, by simp, by rw [HTS.out]; exact hJ3, hK3⟩
          case measure => simp [intOf]; omega
        · gi_wp2
          refine bodyPost_ret (results_none rfl _ _ _) rfl ?_
          exact ⟨⟨_, rfl⟩, .inr ⟨_, by rw [← HTS.out]; exact List.take_prefix _ _, hJx3⟩⟩
      · have e0 : k = q.l.length := by omega
        have hltz : (q.l.length : Int) ≤ (k : Int) := by omega
        rw [e0, List.take_length] at hJs
        clear e0 hrowx hVx
        gi_wp2
        go_end0
        exact ⟨⟨_, rfl⟩, .inl ⟨_, rfl, hJs⟩⟩

/-- THE ITERATOR's CONTRACT. -/
theorem AllP_stops (n : Nat) (hn : 1 ≤ n) (bx : Nat) (pb mb : Nat) (q : PS) (w : World)
    (hbx : w.cell? ⟨bx, 0, none⟩ = some (.pointer (some ⟨pb, 0, none⟩))) (hP : IsPurse w pb mb q) (hI : PInv q) (hlen : q.l.length ≤ 1000000) :
    SeqStopsK Fence.wide n Try.prog 19 #[.pointer (some ⟨bx, 0, none⟩)] comeP (KeepX w.heap.size) (fun ys => ys = q.l) (fun pre => pre <+: q.l) q.l.length w := fun l J Jx W hW hJ _ hY h0 =>
  AllP_in n hn l bx w.heap.size pb mb q J Jx W ((hW.cell (p := ⟨bx, 0, none⟩) (World.block_lt_of_cell? w _ hbx)).trans hbx) ⟨hP.1.below hW hP.1.lt, hP.2.same (hW.block _ hP.2.lt)⟩ hI hlen hW.size hJ hY h0

end Go.Proofs.Ytejjfhgfhileeaa
