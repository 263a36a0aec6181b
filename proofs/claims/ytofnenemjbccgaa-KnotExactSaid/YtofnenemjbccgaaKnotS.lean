/- Who waits for whom: stuck, Stuck, Victim. -/
import Derived.Test.YtofnenemjbccgaaKnotE
namespace Go.Proofs.Ytofnenemjbccgaa
open Go.Maps Go.RowKit

/-- a row of whole numbers of the call's own -/
def IntsRow (w w' : World) (v : Value) (l : List Int) : Prop := w'.ownsRow w.heap.size 3 1 v l.length (ivs l)

/-- What a call leaves that answers who is stuck. -/
def StuckP (w : World) (E : ES) (e : Ending) (w' : World) : Prop :=
  ∃ v l, e = .returned v ∧ IsStuck E l ∧ IntsRow w w' v l ∧ Fr (fun _ => False) w w'

theorem stuck_len {E : ES} {l : List Int} (h : IsStuck E l) : l.length ≤ E.length := by
  have hn : l.Nodup := h.1.imp fun {a b} h => by omega
  have := nodup_len hn (T := E.map (·.1)) fun x hx => by
    obtain ⟨c, hc⟩ := ((h.2 x).1 hx).first
    exact List.mem_map.2 ⟨(x, c), hc, rfl⟩
  simpa using this

/-- Where stuck stands: of the names so far those that wait for themselves. -/
def SoFar (E : ES) (ks L : List Int) : Prop := Rising L ∧ ∀ x, x ∈ L ↔ x ∈ ks ∧ Pth E x x

theorem sofar_snoc {E : ES} {ks L : List Int} {a : Int} (h : SoFar E ks L) (hr : ∀ x ∈ ks, x < a) (b : Bool) (hb : b = true ↔ Pth E a a) : SoFar E (ks ++ [a]) (if b then L ++ [a] else L) := by
  cases b with
  | true =>
    have ha := hb.1 rfl
    refine ⟨List.pairwise_append.2 ⟨h.1, List.pairwise_singleton _ _, fun x hx y hy => ?_⟩, fun x => ?_⟩
    · simp at hy
      subst hy
      exact hr x ((h.2 x).1 hx).1
    · simp only [if_true, List.mem_append, List.mem_singleton, h.2 x]
      constructor
      · rintro (⟨h1, h2⟩ | rfl)
        · exact ⟨.inl h1, h2⟩
        · exact ⟨.inr rfl, ha⟩
      · rintro ⟨h1 | rfl, h2⟩
        · exact .inl ⟨h1, h2⟩
        · exact .inr rfl
  | false =>
    have ha : ¬ Pth E a a := fun h => by have := hb.2 h; cases this
    refine ⟨h.1, fun x => ?_⟩
    simp only [Bool.false_eq_true, if_false, List.mem_append, List.mem_singleton, h.2 x]
    constructor
    · rintro ⟨h1, h2⟩; exact ⟨.inl h1, h2⟩
    · rintro ⟨h1 | rfl, h2⟩
      · exact ⟨h1, h2⟩
      · exact absurd h2 ha

theorem sofar_len {E : ES} {ks L : List Int} (h : SoFar E ks L) : L.length ≤ ks.length :=
  nodup_len (h.1.imp fun {a b} h => by omega) fun x hx => ((h.2 x).1 hx).1

set_option maxHeartbeats 1000000 in
theorem stuckG_calls (w : World) (gb : Nat) (gs : GS) (E : ES) (hM : IsG w gb gs) (hG : GOf E gs) (hn : E.length ≤ 1000000) (hgl : gs.length ≤ 1000000) :
    Calls Try.prog 20 #[.map (some gb)] w (StuckP w E) := by
  obtain ⟨i0, hi, hz0, hz1, hz2⟩ := info_parts infoInt
  have hV := hM.m.alloc (.cells #[.map (some gb)] 47)
  have hbm := (Blk.new w 47 [.map (some gb)]).cell 0
  have hk1 : (vmap mapV gs).map (·.1) = gs.map (·.1) := by simp [vmap]
  have hS := sorted_calls _ w.heap.size gb _ hV hbm (by rw [length_vmap]; omega)
  rw [hk1] at hS
  obtain ⟨ks, hks⟩ : ∃ ks, ks = gs.map (·.1) := ⟨_, rfl⟩
  have hkl : ks.length ≤ 1000000 := by rw [hks]; simpa using hgl
  have hrise : Rising ks := by rw [hks]; unfold Rising; rw [List.pairwise_map]; exact hM.srt
  have hki : ∀ x ∈ ks, in64 x := fun x hx => by
    rw [hks] at hx
    obtain ⟨p, hp, rfl⟩ := List.mem_map.1 hx
    exact hM.ink p hp
  have hke : ∀ x, Pth E x x → x ∈ ks := fun x hx => by
    obtain ⟨c, hc⟩ := hx.first
    obtain ⟨g, l, h1, _⟩ := (hG x c).1 hc
    rw [hks]
    exact List.mem_map.2 ⟨_, mem_of_look h1, rfl⟩
  rw [← hks] at hS
  have HM := Lib.hid hM
  have HG := Lib.hid hG
  have HKI := Lib.hid hki
  have HKE := Lib.hid hke
  clear hV hbm hk1 hks hM hG hki hke
  go_enter Try.func20, Try.ntmps20
  go_wp2_with fail
  refine (keys_calls _ w).mono ?_
  rintro e w1 ⟨rfl, rfl⟩
  go_wp2_with fail
  refine hS.mono ?_
  rintro e w2 ⟨v, rfl, hrow, -, hb⟩
  have hF2 := ((Fr.refl (fun _ => False) w).alloc (.cells #[.map (some gb)] 47)).trans (Fr.of_below hb (fun _ => False)) (fun _ _ h => h)
  have hs2 := hF2.size
  obtain ⟨A, hA⟩ : ∃ A : Option Addr, ∃ cap, v = .slice A ks.length cap ∧ ∀ (i : Nat) (q : Int), ks[i]? = some q → ∃ g, A = some ⟨g, 0, none⟩ ∧ g < w2.heap.size ∧ w2.cell? ⟨g, i, none⟩ = some (.int .i64 q) := by
    rcases hrow.2 with ⟨rfl, h0⟩ | ⟨g, cap, cur, rfl, hg, hgr, hr⟩
    · refine ⟨none, 0, by rw [h0], fun i q hi => ?_⟩
      have := (List.getElem?_eq_some_iff.1 hi).1
      omega
    · refine ⟨_, cap, rfl, fun i q hi => ⟨g, rfl, (Array.getElem?_eq_some_iff.1 hgr).1, ?_⟩⟩
      have hlt := (List.getElem?_eq_some_iff.1 hi).1
      rw [hrow.cellAt i (by omega), List.getElem?_map, hi]
      rfl
  obtain ⟨cap, rfl, hcells⟩ := hA
  have HC := Lib.hid hcells
  clear hcells hrow hb hS
  go_wp2_with fail
  go_loopg [3, 10] ks.length (fun g v i wr => ∃ (k : Nat) (L : List Int), i = .int .i64 k ∧ k ≤ ks.length ∧ g = ks.length - k ∧ SoFar E (ks.take k) L ∧ wr.ownsRow w2.heap.size 3 1 v L.length (ivs L) ∧ Fr (fun _ => False) w2 wr)
  case atStart => exact ⟨0, [], rfl, by omega, by omega, ⟨List.Pairwise.nil, by simp⟩, World.ownsRow_nil _ _ _ _, Fr.refl _ _⟩
  case round =>
    obtain ⟨k, L, rfl, hk, rfl, hSF, hown, hF⟩ := hrel
    have hsz := hF.size
    have hLl := sofar_len hSF
    have htl : (ks.take k).length ≤ ks.length := by simp; omega
    by_cases hlt : k < ks.length
    · have hltz : (k : Int) < (ks.length : Int) := by omega
      have ho : ks[k]? = some ks[k] := List.getElem?_eq_getElem hlt
      have hi64 := HKI.out _ (List.getElem_mem hlt)
      have ht : ks.take (k + 1) = ks.take k ++ [ks[k]] := List.take_succ_eq_append_getElem hlt
      have hbef : ∀ x ∈ ks.take k, x < ks[k] := fun x hx => by
        have h1 : Rising (ks.take (k + 1)) := hrise.sublist (List.take_sublist _ _)
        rw [ht] at h1
        exact (List.pairwise_append.1 h1).2.2 x hx _ (by simp)
      generalize ks[k] = a at ho hi64 ht hbef
      obtain ⟨g0, rfl, hg0, a0⟩ := HC.out k a ho
      rw [← hF.cell (p := ⟨g0, k, none⟩) hg0 (fun h => h)] at a0
      have HT := Lib.hid ht
      have HSF := Lib.hid hSF
      have HB := Lib.hid hbef
      have HFr := Lib.hid hF
      have hlead := leads_calls wr gb gs E a (HM.out.keep (hF2.trans hF (fun _ _ h => h)) (fun _ _ h => h)) HG.out hi64 hn
      clear ho ht hSF hbef hF
      go_wp2_with fail
      refine hlead.mono ?_
      rintro e w3 ⟨b, rfl, hb, hF3⟩
      have hown3 := row_fr hown hF3 (fun _ _ _ _ e => e)
      have hnew := sofar_snoc HSF.out HB.out b hb
      have hF4 := HFr.out.trans hF3 (fun _ _ h => h)
      have hs4 := hF4.size
      clear hlead hb hown
      have HF4 := Lib.hid hF4
      have HN := Lib.hid hnew
      clear hnew hF4 a0
      cases b with
      | false =>
        go_wp2_with fail
        go_roundg (ks.length - (k + 1))
        case measure => omega
        case rel => exact ⟨k + 1, L, rfl, by omega, rfl, by rw [HT.out]; exact HN.out, hown3, HF4.out⟩
      | true =>
        have hbs : ∀ o : Obj, w2.heap.size ≤ (w3.alloc o).heap.size := fun o => by rw [World.size_alloc]; omega
        go_wp2_with (at_builtin; refine wpList_append_own _ rfl (.tmp 17) (.tmp 19) 28 rfl w2.heap.size 3 i0 _ 1 8 Try.underlying28 hi hz0 hz1 hz2 rfl (by decide) _ _ _ rfl (hown3.alloc _) ⟨w3.heap.size, 0, none⟩ 1 1 [.int .i64 a] rfl rfl (news1 w3 a) (one1 a) (by unfold maxLen; omega) (by omega) (hbs _) ?_; intro v4 w4 hown4 hgrow4 _hn4; clear _hn4)
        have hF5 := (HF4.out.alloc _).grown hgrow4 (fun b hb => .inr (hown3.lt b hb).1)
        go_roundg (ks.length - (k + 1))
        case measure => omega
        case rel => exact ⟨k + 1, L ++ [a], rfl, by omega, rfl, by rw [HT.out]; exact HN.out, by simpa [ivs] using hown4, hF5⟩
    · obtain rfl : k = ks.length := by omega
      have hltz : (ks.length : Int) ≤ (ks.length : Int) := by omega
      rw [List.take_length] at hSF
      have HSF := Lib.hid hSF
      have HFr := Lib.hid hF
      clear hSF hF
      go_wp2_with fail
      go_ret
      refine ⟨_, L, rfl, ⟨HSF.out.1, fun x => by rw [HSF.out.2]; exact ⟨fun h => h.2, fun h => ⟨HKE.out x h, h⟩⟩⟩, ⟨hown.1, hown.2.imp id ?_⟩, hF2.trans HFr.out (fun _ _ h => h)⟩
      rintro ⟨g, cap', cur, r1, r2, r3⟩
      exact ⟨g, cap', cur, r1, by omega, r3⟩

theorem StuckK_calls (w : World) (v : Value) (E : ES) (hR : EdgeRow w v E) (hE : InE E) (hn : E.length ≤ 1000000) :
    Calls Try.prog 13 #[v] w (StuckP w E) := by
  have hg := graphOf_calls w v E hR hE hn
  go_enter Try.func13, Try.ntmps13
  go_wp2_with fail
  refine hg.mono ?_
  rintro e w1 ⟨gb, gs, rfl, hM, hfo, hG, hgl, hin, hF1⟩
  go_wp2_with fail
  refine (stuckG_calls w1 gb gs E hM hG hn (by omega)).mono ?_
  rintro e w2 ⟨u, l, rfl, hS, hrow, hF2⟩
  have hs1 := hF1.size
  go_wp2_with fail
  go_ret
  refine ⟨u, l, rfl, hS, ⟨hrow.1, hrow.2.imp id ?_⟩, hF1.trans hF2 (fun _ _ h => h)⟩
  rintro ⟨g, cap', cur, r1, r2, r3⟩
  exact ⟨g, cap', cur, r1, by omega, r3⟩

/-- What Victim answers: the greatest of those that are stuck. -/
def VictimP (w : World) (E : ES) (e : Ending) (w' : World) : Prop :=
  ∃ (l : List Int) (k : Int) (is : Bool), e = .returned (.tuple #[.int .i64 k, .bool is]) ∧ IsStuck E l ∧ (is = true → l.getLast? = some k) ∧ (is = false → l = [] ∧ k = 0) ∧ Fr (fun _ => False) w w'

theorem Victim_calls (w : World) (v : Value) (E : ES) (hR : EdgeRow w v E) (hE : InE E) (hn : E.length ≤ 1000000) :
    Calls Try.prog 11 #[v] w (VictimP w E) := by
  have hS := StuckK_calls w v E hR hE hn
  go_enter Try.func11, Try.ntmps11
  go_wp2_with fail
  refine hS.mono ?_
  rintro e w1 ⟨u, l, rfl, hl, hrow, hF⟩
  have hll := stuck_len hl
  unfold IntsRow at hrow
  rcases List.eq_nil_or_concat l with rfl | ⟨T, a, rfl⟩
  · rcases hrow.2 with ⟨rfl, hz⟩ | ⟨g, cap, cur, rfl, hr⟩
    all_goals
      clear hrow hS
      go_wp2_with fail
      go_ret2
      exact ⟨[], 0, false, rfl, hl, by simp, by simp, hF⟩
  · rw [List.concat_eq_append] at hl hrow hll
    have hlen : (T ++ [a]).length = T.length + 1 := by simp
    rw [hlen] at hrow hll
    obtain ⟨g, cap, rfl, hg, hc1, hc2⟩ := row_some hrow
    have c0 := hrow.cellAt T.length (by omega)
    rw [show ivs (T ++ [a]) = ivs T ++ [.int .i64 a] by simp [ivs], List.getElem?_append_right (by simp [ivs]), show T.length - (ivs T).length = 0 by simp [ivs]] at c0
    clear hrow hS
    go_wp2_with fail
    go_ret2
    exact ⟨T ++ [a], a, true, rfl, hl, by simp, by simp, hF⟩

end Go.Proofs.Ytofnenemjbccgaa
