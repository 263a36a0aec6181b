/- The purse: contracts of its methods over a plain state (who is promised how much, and the sum). -/
import Derived.Test.YtejjfhgfhileeaaMap
import Derived.Test.YtejjfhgfhileeaaProg
import Derived.KernelRfl
namespace Go.Proofs.Ytejjfhgfhileeaa
open Go.Maps Go.RowKit

/-! ### plain -/
def total (l : List (Int × Int)) : Int := (l.map (·.2)).foldr (· + ·) 0

structure PS where
  l : List (Int × Int)
  s : Int

structure PInv (q : PS) : Prop where
  srt : Srt q.l
  ink : InK q.l
  pos : ∀ p ∈ q.l, 1 ≤ p.2
  sum : q.s = total q.l
  top : q.s ≤ 9223372036854775807

def pOf (q : PS) (who : Int) : Int := (look who q.l).getD 0
def pCan (q : PS) (n room : Int) : Bool := decide (1 ≤ n ∧ n ≤ 1048576 ∧ n ≤ room ∧ q.s ≤ room - n)
def pAsk (q : PS) (who n room : Int) : PS := if pCan q n room then ⟨ins who (pOf q who + n) q.l, q.s + n⟩ else q
def pTook (q : PS) (who n : Int) : Int := max (min n (pOf q who)) 0
def pTake (q : PS) (who n : Int) : PS :=
  if pTook q who n = 0 then q else
    ⟨if pOf q who - pTook q who n = 0 then del who (ins who (pOf q who - pTook q who n) q.l) else ins who (pOf q who - pTook q who n) q.l, q.s - pTook q who n⟩

theorem total_nonneg {l : List (Int × Int)} (h : ∀ p ∈ l, 1 ≤ p.2) : (l.length : Int) ≤ total l := by
  induction l with
  | nil => simp [total]
  | cons p r ih =>
    have h1 := h p (by simp)
    have h2 := ih (fun p hp => h p (by simp [hp]))
    simp only [total, List.map_cons, List.foldr_cons, List.length_cons] at h2 ⊢
    omega

theorem total_ins {who v : Int} {l : List (Int × Int)} (hs : Srt l) : total (ins who v l) = total l - (look who l).getD 0 + v := by
  induction l with
  | nil => simp [total, ins, look]
  | cons p r ih =>
    obtain ⟨h1, h2⟩ := List.pairwise_cons.1 hs
    have ih' := ih h2
    unfold ins
    split
    · rename_i hk
      have hn : look who (p :: r) = none := by
        cases e : look who (p :: r) with
        | none => rfl
        | some v =>
          rcases List.mem_cons.1 (mem_of_look e) with e | m
          · rw [← e] at hk; simp at hk
          · have := h1 _ m; simp at this; omega
      rw [hn]
      simp only [total, List.map_cons, List.foldr_cons, Option.getD_none]; omega
    · split
      · rename_i he
        simp only [total, List.map_cons, List.foldr_cons, look, if_pos he, Option.getD_some]; omega
      · rename_i he
        simp only [total, List.map_cons, List.foldr_cons, look, if_neg he] at ih' ⊢; omega

theorem total_del {who : Int} {l : List (Int × Int)} (hs : Srt l) : total (del who l) = total l - (look who l).getD 0 := by
  induction l with
  | nil => simp [total, del, look]
  | cons p r ih =>
    obtain ⟨h1, h2⟩ := List.pairwise_cons.1 hs
    have ih' := ih h2
    by_cases he : p.1 = who
    · have hn : look who r = none := by
        cases e : look who r with
        | none => rfl
        | some v => have := h1 _ (mem_of_look e); simp at this; omega
      have : del who (p :: r) = r := by
        unfold del
        rw [List.filter_cons_of_neg (by simp [he])]
        exact del_of_none hn
      rw [this]
      simp only [total, List.map_cons, List.foldr_cons, look, if_pos he, Option.getD_some]; omega
    · have : del who (p :: r) = p :: del who r := by
        unfold del
        rw [List.filter_cons_of_pos (by simp [he])]
      rw [this]
      simp only [total, List.map_cons, List.foldr_cons, look, if_neg he] at ih' ⊢; omega

theorem pInv_nil : PInv ⟨[], 0⟩ := ⟨srt_nil, by simp [InK], by simp, by simp [total], by show (0 : Int) ≤ _; omega⟩

theorem pOf_bd {q : PS} (h : PInv q) (who : Int) : 0 ≤ pOf q who ∧ pOf q who ≤ q.s := by
  unfold pOf
  have h0 := h.sum
  have h1 := total_nonneg h.pos
  cases e : look who q.l with
  | none => simp; omega
  | some v =>
    have hp := h.pos _ (mem_of_look e)
    have hd := total_del (who := who) h.srt
    have hn := total_nonneg (l := del who q.l) (fun p hp => h.pos p (List.mem_filter.1 hp).1)
    rw [e] at hd
    simp at hd hp ⊢
    omega

theorem pAsk_inv {q : PS} (h : PInv q) {who : Int} (hw : in64 who) {n room : Int} (hr : room ≤ 9223372036854775807) : PInv (pAsk q who n room) := by
  unfold pAsk
  split
  · rename_i hc
    simp only [pCan, decide_eq_true_eq] at hc
    have hb := pOf_bd h who
    refine ⟨srt_ins h.srt, h.ink.ins hw _, fun p hp => ?_, ?_, by show q.s + n ≤ _; omega⟩
    · rcases mem_ins hp with rfl | hp
      · show 1 ≤ pOf q who + n; omega
      · exact h.pos p hp
    · show q.s + n = total _
      rw [total_ins h.srt, h.sum]
      unfold pOf; omega
  · exact h

theorem pTook_bd {q : PS} (h : PInv q) (who n : Int) : 0 ≤ pTook q who n ∧ pTook q who n ≤ pOf q who := by
  have hb := pOf_bd h who
  unfold pTook
  omega

theorem del_ins {α : Type} (who : Int) (v : α) (l : List (Int × α)) (hs : Srt l) : del who (ins who v l) = del who l :=
  srt_ext (srt_del (srt_ins hs)) (srt_del hs) fun k => by
    rw [look_del, look_del, look_ins]
    split <;> rfl

theorem pTake_inv {q : PS} (h : PInv q) {who : Int} (hw : in64 who) (n : Int) : PInv (pTake q who n) := by
  have ht := pTook_bd h who n
  have hb := pOf_bd h who
  have htop := h.top
  unfold pTake
  split
  · exact h
  · split
    · rename_i h0 h1
      rw [del_ins _ _ _ h.srt]
      refine ⟨srt_del h.srt, h.ink.del who, fun p hp => h.pos p (List.mem_filter.1 hp).1, ?_, by show q.s - _ ≤ _; omega⟩
      show q.s - _ = total _
      rw [total_del h.srt, h.sum]
      show _ = total q.l - pOf q who
      omega
    · rename_i h0 h1
      refine ⟨srt_ins h.srt, h.ink.ins hw _, fun p hp => ?_, ?_, by show q.s - _ ≤ _; omega⟩
      · rcases mem_ins hp with rfl | hp
        · show 1 ≤ pOf q who - pTook q who n; omega
        · exact h.pos p hp
      · show q.s - _ = total _
        rw [total_ins h.srt, h.sum]
        show _ = total q.l - pOf q who + (pOf q who - pTook q who n)
        omega

theorem pLen {q : PS} (h : PInv q) : (q.l.length : Int) ≤ q.s := by
  have := total_nonneg h.pos
  have := h.sum
  omega

theorem pAsk_len {q : PS} (who n room : Int) {k : Nat} (h : q.l.length ≤ k) : (pAsk q who n room).l.length ≤ k + 1 := by
  unfold pAsk
  split
  · exact Nat.le_trans length_ins_le (by omega)
  · omega

theorem pTake_len {q : PS} (hs : Srt q.l) (who n : Int) (hn : pTook q who n ≠ 0 → (look who q.l).isSome) : (pTake q who n).l.length ≤ q.l.length := by
  unfold pTake
  split
  · omega
  · rename_i h0
    have h1 : (ins who (pOf q who - pTook q who n) q.l).length = q.l.length := by rw [length_ins hs, if_pos (hn h0)]
    split
    · show (del who _).length ≤ _
      exact Nat.le_trans length_del_le (by omega)
    · show (ins who _ q.l).length ≤ _
      omega

theorem pTook_some {q : PS} {who n : Int} (h : pTook q who n ≠ 0) : (look who q.l).isSome := by
  unfold pTook pOf at h
  cases e : look who q.l with
  | none => rw [e] at h; simp at h; omega
  | some v => rfl

/-! ### in memory -/
def vint (n : Int) : Value := .int .i64 n

def IsPurse (w : World) (pb mb : Nat) (q : PS) : Prop :=
  Blk w pb 48 [.map (some mb), .int .i64 q.s] ∧ VMap w Try.prog 3 mb (vmap vint q.l)

theorem zeroInt (w : World) : (zeroValue 3).run Try.prog w = .ok (.int .i64 0) w := by kernel_rfl

theorem look_vint (who : Int) (l : List (Int × Int)) : (look who (vmap vint l)).getD (.int .i64 0) = .int .i64 ((look who l).getD 0) := by
  rw [look_vmap]; cases look who l <;> rfl

def two (a b : Nat) : Nat → Prop := fun k => k = a ∨ k = b

theorem New_calls (w : World) : Calls Try.prog 8 #[] w fun e w' => e = .returned (.pointer (some ⟨w.heap.size + 1, 0, none⟩)) ∧ IsPurse w' (w.heap.size + 1) w.heap.size ⟨[], 0⟩ ∧ Fr (fun _ => False) w w' := by
  have hmm := @run_makeMap Try.prog
  go_enter Try.func8, Try.ntmps8
  go_wp2_with fail
  go_ret
  refine ⟨rfl, ⟨?_, (VMap.made w _ _).alloc _⟩, ((Fr.refl _ w).alloc _).alloc _⟩
  have := Blk.new (w.alloc (.map #[] 0)) 48 [.map (some w.heap.size), .int .i64 0]
  rwa [World.size_alloc] at this

theorem Sum_calls (pb mb : Nat) (q : PS) (w : World) (hP : IsPurse w pb mb q) :
    Calls Try.prog 12 #[.pointer (some ⟨pb, 0, none⟩)] w fun e w' => e = .returned (.int .i64 q.s) ∧ w = w' := by
  have c1 := hP.1.cell 1
  go_enter Try.func12, Try.ntmps12
  go_wp2_with fail
  go_ret
  exact ⟨rfl, rfl⟩

theorem Of_calls (pb mb : Nat) (q : PS) (w : World) (hP : IsPurse w pb mb q) (who : Int) (hw : in64 who) :
    Calls Try.prog 11 #[.pointer (some ⟨pb, 0, none⟩), .int .i64 who] w fun e w' => e = .returned (.int .i64 (pOf q who)) ∧ w = w' := by
  have c0 := hP.1.cell 0
  go_enter Try.func11, Try.ntmps11
  go_wp2_with (at_lookup; refine wpList_mlook _ rfl _ _ 46 rfl 3 3 mb Try.underlying3 Try.underlying46 _ (zeroInt _) _ hP.2 rfl who rfl hw _ (look_vint _ _) ?_)
  go_ret
  exact ⟨rfl, rfl⟩

theorem Of_calls' (pb mb : Nat) (q : PS) (w : World) (hP : IsPurse w pb mb q) (who : Int) (hw : in64 who) :
    Calls Try.prog 11 #[.pointer (some ⟨pb, 0, none⟩), .int .i64 who] w fun e w' => e = .returned (.int .i64 (pOf q who)) ∧ w' = w :=
  (Of_calls pb mb q w hP who hw).mono fun _ _ ⟨h1, h2⟩ => ⟨h1, h2.symm⟩

theorem Ask_no (pb mb : Nat) (q : PS) (w : World) (hP : IsPurse w pb mb q) (hI : PInv q) (who n room : Int) (_hr : in64 room) (hc : pCan q n room = false) :
    Calls Try.prog 9 #[.pointer (some ⟨pb, 0, none⟩), .int .i64 who, .int .i64 n, .int .i64 room] w fun e w' => e = .returned (.bool false) ∧ w = w' := by
  have c1 := hP.1.cell 1
  have htop := hI.top
  have hlow : 0 ≤ q.s := by have := pLen hI; omega
  unfold in64 at _hr
  simp only [pCan, decide_eq_false_iff_not] at hc
  by_cases h1 : n < 1
  · clear hc
    go_enter Try.func9, Try.ntmps9
    go_wp2_with fail
    go_ret
    exact ⟨rfl, rfl⟩
  · by_cases h2 : 1048576 < n
    · clear hc
      go_enter Try.func9, Try.ntmps9
      go_wp2_with fail
      go_ret
      exact ⟨rfl, rfl⟩
    · by_cases h3 : room < n
      · clear hc
        go_enter Try.func9, Try.ntmps9
        go_wp2_with fail
        go_ret
        exact ⟨rfl, rfl⟩
      · have h4 : room - n < q.s := by omega
        clear hc
        go_enter Try.func9, Try.ntmps9
        go_wp2_with fail
        go_ret
        exact ⟨rfl, rfl⟩

theorem Ask_yes (pb mb : Nat) (q : PS) (w : World) (hP : IsPurse w pb mb q) (hI : PInv q) (who n room : Int) (hw : in64 who) (hr : in64 room) (hl : q.l.length < maxLen) (hc : pCan q n room = true) :
    Calls Try.prog 9 #[.pointer (some ⟨pb, 0, none⟩), .int .i64 who, .int .i64 n, .int .i64 room] w fun e w' => e = .returned (.bool true) ∧ IsPurse w' pb mb ⟨ins who (pOf q who + n) q.l, q.s + n⟩ ∧ Fr (two pb mb) w w' := by
  have c0 := hP.1.cell 0
  have c1 := hP.1.cell 1
  have hlow : 0 ≤ q.s := by have := pLen hI; omega
  have hb := pOf_bd hI who
  unfold pOf at hb
  obtain ⟨hb1, hb2⟩ := hb
  have hr' := hr
  unfold in64 at hr'
  simp only [pCan, decide_eq_true_eq] at hc
  obtain ⟨h1, h2, h3, h4⟩ := hc
  go_enter Try.func9, Try.ntmps9
  go_wp2_with (first
    | (at_lookup; refine wpList_mlook _ rfl _ _ 46 rfl 3 3 mb Try.underlying3 Try.underlying46 _ (zeroInt _) _ hP.2 rfl who rfl hw _ (look_vint _ _) ?_)
    | (at_mapUpdate; refine wpList_mput _ rfl _ _ _ 46 rfl 3 3 mb Try.underlying3 Try.underlying46 _ hP.2 (by rw [length_vmap]; exact hl) rfl who rfl hw (vint ((look who q.l).getD 0 + n)) rfl ?_; intro w1 hV1 ht1; have hB1 := hP.1.turned ht1; have d1 := hB1.cell 1; have e1 := hB1.frozen 1))
  go_ret
  refine ⟨rfl, ⟨hB1.set_ 1 _, ?_⟩, ((Fr.refl _ w).map ht1 (.inl (.inr rfl))).setCell (.inl (.inl rfl)) _⟩
  have := hV1.setCell (p := ⟨pb, 1, none⟩) (Ne.symm (hP.1.ne_map hP.2)) (.int .i64 (q.s + n))
  rw [vmap_ins]
  exact this

theorem Take_no (pb mb : Nat) (q : PS) (w : World) (hP : IsPurse w pb mb q) (hI : PInv q) (who n : Int) (hw : in64 who) (hc : pTook q who n = 0) :
    Calls Try.prog 10 #[.pointer (some ⟨pb, 0, none⟩), .int .i64 who, .int .i64 n] w fun e w' => e = .returned (.int .i64 0) ∧ w = w' := by
  have hb := pOf_bd hI who
  unfold pTook at hc
  by_cases h1 : pOf q who < n
  · have h2 : pOf q who = 0 := by omega
    have h3 : ¬ (0 : Int) < 0 := by omega
    rw [h2] at h1
    clear hc hb
    go_enter Try.func10, Try.ntmps10
    go_wp2_with (go_at_call 11; refine (Of_calls pb mb q _ hP who hw).mono ?_; rintro e w' ⟨rfl, rfl⟩)
    go_ret
    exact ⟨rfl, rfl⟩
  · by_cases h2 : n < 0
    · clear hc
      go_enter Try.func10, Try.ntmps10
      go_wp2_with (go_at_call 11; refine (Of_calls pb mb q _ hP who hw).mono ?_; rintro e w' ⟨rfl, rfl⟩)
      go_ret
      exact ⟨rfl, rfl⟩
    · obtain rfl : n = 0 := by omega
      clear hc
      go_enter Try.func10, Try.ntmps10
      go_wp2_with (go_at_call 11; refine (Of_calls pb mb q _ hP who hw).mono ?_; rintro e w' ⟨rfl, rfl⟩)
      go_ret
      exact ⟨rfl, rfl⟩

theorem Take_yes (pb mb : Nat) (q : PS) (w : World) (hP : IsPurse w pb mb q) (hI : PInv q) (who n : Int) (hw : in64 who) (hl : q.l.length < maxLen) (hc : pTook q who n ≠ 0) :
    Calls Try.prog 10 #[.pointer (some ⟨pb, 0, none⟩), .int .i64 who, .int .i64 n] w fun e w' => e = .returned (.int .i64 (pTook q who n)) ∧ IsPurse w' pb mb (pTake q who n) ∧ Fr (two pb mb) w w' := by
  have hb := pOf_bd hI who
  obtain ⟨hb1, hb2⟩ := hb
  have htop := hI.top
  have hT : pTake q who n = ⟨if pOf q who - pTook q who n = 0 then del who (ins who (pOf q who - pTook q who n) q.l) else ins who (pOf q who - pTook q who n) q.l, q.s - pTook q who n⟩ := if_neg hc
  have hlen : (vmap vint q.l).length < maxLen := by rw [length_vmap]; exact hl
  have c0 := hP.1.cell 0
  have c1 := hP.1.cell 1
  have f1 := hP.1.frozen 1
  by_cases h1 : pOf q who < n
  · have hk : pTook q who n = pOf q who := by unfold pTook; omega
    have hp : 0 < pOf q who := by unfold pTook at hc; omega
    rw [hT, hk, if_pos (by omega)]
    have hB0 := hP.1.set_ 1 (.int .i64 (q.s - pOf q who))
    have hV0 := hP.2.setCell (p := ⟨pb, 1, none⟩) (Ne.symm (hP.1.ne_map hP.2)) (.int .i64 (q.s - pOf q who))
    have b0 := hB0.cell 0
    clear hT hk hc
    go_enter Try.func10, Try.ntmps10
    go_wp2_with (first
      | (go_at_call 11; refine (Of_calls pb mb q _ hP who hw).mono ?_; rintro e w' ⟨rfl, rfl⟩)
      | (at_lookup; have _t := ht1; refine wpList_mlook _ rfl _ _ 46 rfl 3 3 mb Try.underlying3 Try.underlying46 _ (zeroInt _) _ hV1 rfl who rfl hw (.int .i64 (0)) (by rw [look_ins_same]; rfl) ?_)
      | (at_lookup; refine wpList_mlook _ rfl _ _ 46 rfl 3 3 mb Try.underlying3 Try.underlying46 _ (zeroInt _) _ hV0 rfl who rfl hw (.int .i64 (pOf q who)) (look_vint _ _) ?_)
      | (at_mapUpdate; refine wpList_mput _ rfl _ _ _ 46 rfl 3 3 mb Try.underlying3 Try.underlying46 _ hV0 hlen rfl who rfl hw (.int .i64 (0)) rfl ?_; intro w1 hV1 ht1; have hB1 := hB0.turned ht1; have d0 := hB1.cell 0)
      | (at_delete; refine wpList_mdel _ rfl _ _ 46 3 rfl 3 mb Try.underlying3 Try.underlying46 _ hV1 rfl who rfl hw ?_; intro w2 hV2 ht2))
    go_ret
    refine ⟨rfl, ⟨hB1.turned ht2, ?_⟩, (((Fr.refl _ w).setCell (.inl (.inl rfl)) _).map ht1 (.inl (.inr rfl))).map ht2 (.inl (.inr rfl))⟩
    show VMap w2 _ _ mb (vmap vint (del who (ins who (pOf q who - pOf q who) q.l)))
    rw [vmap_del, vmap_ins, show pOf q who - pOf q who = 0 by omega]
    exact hV2
  · have hp : 0 < n := by unfold pTook at hc; omega
    have hk : pTook q who n = n := by unfold pTook; omega
    by_cases h2 : pOf q who = n
    · rw [hT, hk, h2, if_pos (by omega)]
      rw [h2] at h1
      have hB0 := hP.1.set_ 1 (.int .i64 (q.s - n))
      have hV0 := hP.2.setCell (p := ⟨pb, 1, none⟩) (Ne.symm (hP.1.ne_map hP.2)) (.int .i64 (q.s - n))
      have b0 := hB0.cell 0
      clear hT hk hc
      go_enter Try.func10, Try.ntmps10
      go_wp2_with (first
        | (go_at_call 11; refine (Of_calls pb mb q _ hP who hw).mono ?_; rintro e w' ⟨rfl, rfl⟩)
        | (at_lookup; have _t := ht1; refine wpList_mlook _ rfl _ _ 46 rfl 3 3 mb Try.underlying3 Try.underlying46 _ (zeroInt _) _ hV1 rfl who rfl hw (.int .i64 (0)) (by rw [look_ins_same]; rfl) ?_)
        | (at_lookup; refine wpList_mlook _ rfl _ _ 46 rfl 3 3 mb Try.underlying3 Try.underlying46 _ (zeroInt _) _ hV0 rfl who rfl hw (.int .i64 n) (by rw [← h2]; exact look_vint _ _) ?_)
        | (at_mapUpdate; refine wpList_mput _ rfl _ _ _ 46 rfl 3 3 mb Try.underlying3 Try.underlying46 _ hV0 hlen rfl who rfl hw (.int .i64 (0)) rfl ?_; intro w1 hV1 ht1; have hB1 := hB0.turned ht1; have d0 := hB1.cell 0)
        | (at_delete; refine wpList_mdel _ rfl _ _ 46 3 rfl 3 mb Try.underlying3 Try.underlying46 _ hV1 rfl who rfl hw ?_; intro w2 hV2 ht2))
      go_ret
      refine ⟨rfl, ⟨hB1.turned ht2, ?_⟩, (((Fr.refl _ w).setCell (.inl (.inl rfl)) _).map ht1 (.inl (.inr rfl))).map ht2 (.inl (.inr rfl))⟩
      show VMap w2 _ _ mb (vmap vint (del who (ins who (n - n) q.l)))
      rw [vmap_del, vmap_ins, show n - n = 0 by omega]
      exact hV2
    · rw [hT, hk, if_neg (by omega)]
      have h3 : n < pOf q who := by omega
      have h4 : ((pOf q who - n) == 0) = false := by rw [beq_eq_false_iff_ne]; omega
      clear h2
      have hB0 := hP.1.set_ 1 (.int .i64 (q.s - n))
      have hV0 := hP.2.setCell (p := ⟨pb, 1, none⟩) (Ne.symm (hP.1.ne_map hP.2)) (.int .i64 (q.s - n))
      have b0 := hB0.cell 0
      clear hT hk hc
      go_enter Try.func10, Try.ntmps10
      go_wp2_with (first
        | (go_at_call 11; refine (Of_calls pb mb q _ hP who hw).mono ?_; rintro e w' ⟨rfl, rfl⟩)
        | (at_lookup; have _t := ht1; refine wpList_mlook _ rfl _ _ 46 rfl 3 3 mb Try.underlying3 Try.underlying46 _ (zeroInt _) _ hV1 rfl who rfl hw (.int .i64 (pOf q who - n)) (by rw [look_ins_same]; rfl) ?_)
        | (at_lookup; refine wpList_mlook _ rfl _ _ 46 rfl 3 3 mb Try.underlying3 Try.underlying46 _ (zeroInt _) _ hV0 rfl who rfl hw (.int .i64 (pOf q who)) (look_vint _ _) ?_)
        | (at_mapUpdate; refine wpList_mput _ rfl _ _ _ 46 rfl 3 3 mb Try.underlying3 Try.underlying46 _ hV0 hlen rfl who rfl hw (.int .i64 (pOf q who - n)) rfl ?_; intro w1 hV1 ht1; have hB1 := hB0.turned ht1; have d0 := hB1.cell 0)
        | (at_delete; refine wpList_mdel _ rfl _ _ 46 3 rfl 3 mb Try.underlying3 Try.underlying46 _ hV1 rfl who rfl hw ?_; intro w2 hV2 ht2))
      go_ret
      refine ⟨rfl, ⟨hB1, ?_⟩, ((Fr.refl _ w).setCell (.inl (.inl rfl)) _).map ht1 (.inl (.inr rfl))⟩
      show VMap w1 _ _ mb (vmap vint (ins who (pOf q who - n) q.l))
      rw [vmap_ins]
      exact hV1

theorem Ask_calls (pb mb : Nat) (q : PS) (w : World) (hP : IsPurse w pb mb q) (hI : PInv q) (who n room : Int) (hw : in64 who) (hr : in64 room) (hl : q.l.length < maxLen) :
    Calls Try.prog 9 #[.pointer (some ⟨pb, 0, none⟩), .int .i64 who, .int .i64 n, .int .i64 room] w fun e w' => e = .returned (.bool (pCan q n room)) ∧ IsPurse w' pb mb (pAsk q who n room) ∧ Fr (two pb mb) w w' := by
  cases hc : pCan q n room with
  | false =>
    refine (Ask_no pb mb q w hP hI who n room hr hc).mono fun e w' ⟨he, hw'⟩ => ?_
    subst hw'
    exact ⟨he, by unfold pAsk; rw [hc]; exact hP, Fr.refl _ _⟩
  | true =>
    refine (Ask_yes pb mb q w hP hI who n room hw hr hl hc).mono fun e w' ⟨he, h1, h2⟩ => ?_
    exact ⟨he, by unfold pAsk; rw [hc]; exact h1, h2⟩

theorem Take_calls (pb mb : Nat) (q : PS) (w : World) (hP : IsPurse w pb mb q) (hI : PInv q) (who n : Int) (hw : in64 who) (hl : q.l.length < maxLen) :
    Calls Try.prog 10 #[.pointer (some ⟨pb, 0, none⟩), .int .i64 who, .int .i64 n] w fun e w' => e = .returned (.int .i64 (pTook q who n)) ∧ IsPurse w' pb mb (pTake q who n) ∧ Fr (two pb mb) w w' := by
  by_cases hc : pTook q who n = 0
  · refine (Take_no pb mb q w hP hI who n hw hc).mono fun e w' ⟨he, hw'⟩ => ?_
    subst hw'
    exact ⟨by rw [hc]; exact he, by unfold pTake; rw [if_pos hc]; exact hP, Fr.refl _ _⟩
  · exact Take_yes pb mb q w hP hI who n hw hl hc

/-! ### the nil purse -/
theorem Sum_nil (w : World) : Calls Try.prog 12 #[.pointer none] w fun e w' => e = .returned (.int .i64 0) ∧ w = w' := by
  go_enter Try.func12, Try.ntmps12
  go_wp2_with fail
  go_ret
  exact ⟨rfl, rfl⟩

theorem Of_nil (w : World) (who : Int) : Calls Try.prog 11 #[.pointer none, .int .i64 who] w fun e w' => e = .returned (.int .i64 0) ∧ w = w' := by
  go_enter Try.func11, Try.ntmps11
  go_wp2_with fail
  go_ret
  exact ⟨rfl, rfl⟩

theorem Ask_nil (w : World) (who n room : Int) : Calls Try.prog 9 #[.pointer none, .int .i64 who, .int .i64 n, .int .i64 room] w fun e w' => e = .returned (.bool false) ∧ w = w' := by
  go_enter Try.func9, Try.ntmps9
  go_wp2_with fail
  go_ret
  exact ⟨rfl, rfl⟩

theorem Take_nil (w : World) (who : Int) : Calls Try.prog 10 #[.pointer none, .int .i64 who, .int .i64 1] w fun e w' => e = .returned (.int .i64 0) ∧ w = w' := by
  go_enter Try.func10, Try.ntmps10
  go_wp2_with (go_at_call 11; refine (Of_nil _ who).mono ?_; rintro e w' ⟨rfl, rfl⟩)
  go_ret
  exact ⟨rfl, rfl⟩

end Go.Proofs.Ytejjfhgfhileeaa
