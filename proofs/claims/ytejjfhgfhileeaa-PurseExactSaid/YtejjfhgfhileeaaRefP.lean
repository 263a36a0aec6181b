/- The purse's reference: memory and contracts. -/
import Derived.Test.YtejjfhgfhileeaaPurse
import Derived.Laws.AppendOwn
import Derived.Laws.OwnMore
import Derived.Deep.LoopGhost
import Derived.Deep.QuietTactic
import Derived.BigQuiet
import Derived.Deep.RegionWith
import Derived.RegionTactic
import Derived.StillTailTactics
import Derived.Deep.DeepCutAuto
import Derived.Lib.Hide
namespace Go.Proofs.Ytejjfhgfhileeaa
open Go.Maps Go.RowKit

def pcells : List (Int × Int) → List Value
  | [] => []
  | p :: r => .int .i64 p.1 :: .int .i64 p.2 :: pcells r

theorem pcells_append (a b : List (Int × Int)) : pcells (a ++ b) = pcells a ++ pcells b := by
  induction a with
  | nil => rfl
  | cons p r ih => simp [pcells, ih]

theorem pcells_get {l : List (Int × Int)} {i : Nat} {p : Int × Int} (h : l[i]? = some p) : (pcells l)[i * 2]? = some (.int .i64 p.1) ∧ (pcells l)[i * 2 + 1]? = some (.int .i64 p.2) := by
  induction l generalizing i with
  | nil => simp at h
  | cons q r ih =>
    cases i with
    | zero => simp at h; subst h; simp [pcells]
    | succ i =>
      have := ih (i := i) (by simpa using h)
      rw [show (i + 1) * 2 = i * 2 + 1 + 1 by omega]
      simpa [pcells] using this

/-- The reference: its block ub holds a slice whose row, made behind w0, is l. -/
def IsRefP (w0 w : World) (ub : Nat) (l : List (Int × Int)) : Prop :=
  ∃ v, Blk w ub 39 [v] ∧ w.ownsRow w0.heap.size 44 2 v l.length (pcells l)

theorem IsRefP.fr {w0 w w' : World} {ub : Nat} {l : List (Int × Int)} {S : Nat → Prop} (h : IsRefP w0 w ub l) (hF : Fr S w w') (hn : ¬ S ub) (hS : ∀ g, (∃ cur, w.heap[g]? = some (.cells cur 44 (0, 0))) → ¬ S g) : IsRefP w0 w' ub l := by
  obtain ⟨v, hB, hl, hr⟩ := h
  refine ⟨v, hB.fr hF hn, hl, hr.imp id ?_⟩
  rintro ⟨g, cap, cur, r1, r2, r3, r4⟩
  exact ⟨g, cap, cur, r1, r2, (hF.block g (Array.getElem?_eq_some_iff.1 r3).1 (hS g ⟨cur, r3⟩)).trans r3, r4⟩

/-- as a slice, with its cells -/
theorem IsRefP.open_ {w0 w : World} {ub : Nat} {l : List (Int × Int)} (h : IsRefP w0 w ub l) : ∃ A cap, Blk w ub 39 [.slice A l.length cap] ∧ ∀ (i : Nat) (p : Int × Int), l[i]? = some p →
    ∃ g, A = some ⟨g, 0, none⟩ ∧ w0.heap.size ≤ g ∧ (∃ cur, w.heap[g]? = some (.cells cur 44 (0, 0))) ∧ ∀ w' : World, w'.heap[g]? = w.heap[g]? → w'.cell? ⟨g, i * 2, none⟩ = some (.int .i64 p.1) ∧ w'.cell? ⟨g, i * 2 + 1, none⟩ = some (.int .i64 p.2) := by
  obtain ⟨v, hB, hl, ⟨rfl, h0⟩ | ⟨g, cap, cur, rfl, hg, hgr, hr⟩⟩ := h
  · refine ⟨none, 0, by rw [h0]; exact hB, fun i p hi => ?_⟩
    have := (List.getElem?_eq_some_iff.1 hi).1
    omega
  · refine ⟨_, cap, hB, fun i p hi => ⟨g, rfl, hg, ⟨cur, hgr⟩, fun w' hw' => ?_⟩⟩
    have hlt := (List.getElem?_eq_some_iff.1 hi).1
    obtain ⟨g1, g2⟩ := pcells_get hi
    have h' : w'.ownsRow w0.heap.size 44 2 (.slice (some ⟨g, 0, none⟩) l.length cap) l.length (pcells l) := ⟨hl, .inr ⟨g, cap, cur, rfl, hg, hw'.trans hgr, hr⟩⟩
    exact ⟨(h'.cellAt (i * 2) (by omega)).trans g1, (h'.cellAt (i * 2 + 1) (by omega)).trans g2⟩

/-! ### set, plainly -/
def setStep (who n : Int) (s : List (Int × Int) × Bool) (p : Int × Int) : List (Int × Int) × Bool :=
  let s' := if !s.2 && decide (who < p.1) then (s.1 ++ [(who, n)], true) else s
  if p.1 = who then (if s'.2 then s' else (s'.1 ++ [(who, n)], true)) else (s'.1 ++ [p], s'.2)

def setAt (who n : Int) (l : List (Int × Int)) : List (Int × Int) × Bool := l.foldl (setStep who n) ([], n == 0)

def setEnd (who n : Int) (l : List (Int × Int)) : List (Int × Int) := if (setAt who n l).2 then (setAt who n l).1 else (setAt who n l).1 ++ [(who, n)]

theorem setAt_succ (who n : Int) {l : List (Int × Int)} {k : Nat} {p : Int × Int} (h : l[k]? = some p) : setAt who n (l.take (k + 1)) = setStep who n (setAt who n (l.take k)) p := by
  have hlt := (List.getElem?_eq_some_iff.1 h).1
  rw [List.take_succ_eq_append_getElem hlt, (List.getElem?_eq_some_iff.1 h).2]
  simp [setAt]

theorem setStep_len (who n : Int) (s : List (Int × Int) × Bool) (p : Int × Int) : (setStep who n s p).1.length ≤ s.1.length + 2 := by
  have h : ∀ t : List (Int × Int) × Bool, t.1.length ≤ s.1.length + 1 → (if p.1 = who then (if t.2 then t else (t.1 ++ [(who, n)], true)) else (t.1 ++ [p], t.2)).1.length ≤ s.1.length + 2 := by
    intro t ht
    split
    · split
      · omega
      · simp only [List.length_append, List.length_cons, List.length_nil]; omega
    · simp only [List.length_append, List.length_cons, List.length_nil]; omega
  unfold setStep
  refine h _ ?_
  split
  · simp
  · omega

theorem setAt_len (who n : Int) (l : List (Int × Int)) : (setAt who n l).1.length ≤ l.length * 2 := by
  have : ∀ (l : List (Int × Int)) (s : List (Int × Int) × Bool), (l.foldl (setStep who n) s).1.length ≤ s.1.length + l.length * 2 := by
    intro l
    induction l with
    | nil => intro s; simp
    | cons p r ih =>
      intro s
      have h1 := ih (setStep who n s p)
      have h2 := setStep_len who n s p
      simp only [List.foldl_cons, List.length_cons]
      omega
  have h := this l ([], n == 0)
  simp only [List.length_nil, Nat.zero_add] at h
  exact h

theorem setEnd_eq {who n : Int} {l : List (Int × Int)} (hs : Srt l) : setEnd who n l = if n = 0 then del who l else ins who n l := by
  -- behind a done flag all others are copied
  have hdone : ∀ (l : List (Int × Int)) (o : List (Int × Int)), l.foldl (setStep who n) (o, true) = (o ++ del who l, true) := by
    intro l
    induction l with
    | nil => intro o; simp [del]
    | cons p r ih =>
      intro o
      rw [List.foldl_cons]
      by_cases h : p.1 = who
      · have : setStep who n (o, true) p = (o, true) := by simp [setStep, h]
        rw [this, ih]
        simp [del, h]
      · have : setStep who n (o, true) p = (o ++ [p], true) := by simp [setStep, h]
        rw [this, ih]
        simp [del, h]
  unfold setEnd setAt
  by_cases hn : n = 0
  · have hb : (n == 0) = true := by simpa using hn
    rw [hb, hdone, if_pos hn]
    simp
  · have hb : (n == 0) = false := by simpa using hn
    rw [hb, if_neg hn]
    have : ∀ (l : List (Int × Int)) (o : List (Int × Int)), Srt l → (if (l.foldl (setStep who n) (o, false)).2 then (l.foldl (setStep who n) (o, false)).1 else (l.foldl (setStep who n) (o, false)).1 ++ [(who, n)]) = o ++ ins who n l := by
      intro l
      induction l with
      | nil => intro o _; simp [ins]
      | cons p r ih =>
        intro o hs
        obtain ⟨h1, h2⟩ := List.pairwise_cons.1 hs
        rw [List.foldl_cons]
        by_cases h : who < p.1
        · have e : setStep who n (o, false) p = (o ++ [(who, n)] ++ [p], true) := by
            simp [setStep, h, show p.1 ≠ who by omega]
          rw [e, hdone]
          have hd : del who r = r := by
            unfold del
            exact List.filter_eq_self.2 fun x hx => by have := h1 x hx; simp; omega
          simp [ins, h, hd]
        · by_cases h' : p.1 = who
          · have e : setStep who n (o, false) p = (o ++ [(who, n)], true) := by simp [setStep, h']
            rw [e, hdone]
            have hd : del who r = r := by
              unfold del
              exact List.filter_eq_self.2 fun x hx => by have := h1 x hx; simp; omega
            simp [ins, h', hd]
          · have e : setStep who n (o, false) p = (o ++ [p], false) := by simp [setStep, h, h']
            rw [e, ih _ h2]
            simp [ins, h, h']
    have h := this l [] hs
    simpa using h

/-! ### the contracts -/
theorem infoPart : (Try.prog.info? 44).map (fun i => (i.zero, i.size, i.bytes)) = some (some (.agg #[.int .i64 0, .int .i64 0]), 2, 16) := by kernel_rfl

theorem news2 (W : World) (a b : Int) : ∀ (j : Nat) (u : Value), [Value.int .i64 a, Value.int .i64 b][j]? = some u → (W.alloc (.cells #[.int .i64 a, .int .i64 b] 44)).cell? ((⟨W.heap.size, 0, none⟩ : Addr).add j) = some u := fun j u hu => by
  have := (Blk.new W 44 [.int .i64 a, .int .i64 b]).cell j
  rw [hu] at this
  rw [← this]
  congr 1
  unfold Addr.add
  by_cases h1 : j = 0 <;> simp [h1]

theorem one2 (a b : Int) : ∀ u ∈ [Value.int .i64 a, Value.int .i64 b], u.oneCell' = true := by
  intro u hu
  simp only [List.mem_cons, List.not_mem_nil, or_false] at hu
  rcases hu with rfl | rfl <;> rfl

theorem fr_app {w W w1 : World} {base : Nat} {o : Obj} {v : Value} {n : Nat} {xs : List Value} {e : TypeId} {size : Nat} (h : Fr (fun _ => False) w W) (hg : (W.alloc o).grownBy w1 v.ownBlock) (hown : W.ownsRow base e size v n xs) (hb : w.heap.size ≤ base) : Fr (fun _ => False) w w1 :=
  (h.alloc o).grown hg fun b hb' => .inr (by have := (hown.lt b hb').1; omega)

theorem row_succ {W : World} {base : Nat} {e : TypeId} {size : Nat} {v : Value} {k : Nat} {xs : List Value} (h : W.ownsRow base e size v (k + 1) xs) : ∃ g cap, v = .slice (some ⟨g, 0, none⟩) (k + 1) cap := by
  rcases h.2 with ⟨_, h0⟩ | ⟨g, cap, _, rfl, _⟩
  · omega
  · exact ⟨g, cap, rfl⟩

section
variable (w0 w : World) (ub : Nat) (l : List (Int × Int))

theorem refOf_calls (hR : IsRefP w0 w ub l) (hn : l.length ≤ 1000000) (who : Int) :
    Calls Try.prog 15 #[.pointer (some ⟨ub, 0, none⟩), .int .i64 who] w fun e w' => e = .returned (.int .i64 ((look who l).getD 0)) ∧ w = w' := by
  obtain ⟨A, cap, hB, hcells⟩ := hR.open_
  have HC := Lib.hid hcells
  have c0 := hB.cell 0
  clear hcells hB
  go_enter Try.func15, Try.ntmps15
  go_wp2_with fail
  go_loopg [5] l.length (fun g i wr => w = wr ∧ ∃ k : Nat, i = .int .i64 k ∧ k ≤ l.length ∧ g = l.length - k ∧ look who l = look who (l.drop k))
  case atStart => exact ⟨rfl, 0, rfl, by omega, by omega, by simp⟩
  case round =>
    obtain ⟨rfl, k, rfl, hk, rfl, hx⟩ := hrel
    have HX := Lib.hid hx
    clear hx
    by_cases hlt : k < l.length
    · have hltz : (k : Int) < (l.length : Int) := by omega
      have ho : l[k]? = some l[k] := List.getElem?_eq_getElem hlt
      have HD := Lib.hid (List.drop_eq_getElem_cons hlt)
      generalize l[k] = p at ho HD
      obtain ⟨g, rfl, _, _, hc⟩ := HC.out k p ho
      obtain ⟨a0, a1⟩ := hc w rfl
      clear ho hc
      by_cases he : p.1 = who
      · have hb : (p.1 == who) = true := by simpa using he
        have HE := Lib.hid he
        clear he
        go_wp2_with fail
        go_ret
        rw [HX.out, HD.out, look, if_pos HE.out]
        exact ⟨rfl, rfl⟩
      · have hb : (p.1 == who) = false := by simpa using he
        have HE := Lib.hid he
        clear he
        go_wp2_with fail
        go_roundg (l.length - (k + 1))
        case measure => omega
        case rel => exact ⟨rfl, k + 1, rfl, by omega, rfl, by rw [HX.out, HD.out, look, if_neg HE.out]⟩
    · have e0 : k = l.length := by omega
      have hltz : (l.length : Int) ≤ (k : Int) := by omega
      have hfin : look who l = none := by rw [HX.out, e0, List.drop_length]; rfl
      go_wp2_with fail
      go_ret
      rw [hfin]
      exact ⟨rfl, rfl⟩

theorem refSum_calls (hR : IsRefP w0 w ub l) (hn : l.length ≤ 1000000) (hpos : ∀ p ∈ l, 1 ≤ p.2) (htop : total l ≤ 9223372036854775807) :
    Calls Try.prog 16 #[.pointer (some ⟨ub, 0, none⟩)] w fun e w' => e = .returned (.int .i64 (total l)) ∧ w = w' := by
  obtain ⟨A, cap, hB, hcells⟩ := hR.open_
  have HC := Lib.hid hcells
  have HP := Lib.hid hpos
  have c0 := hB.cell 0
  have HT := Lib.hid htop
  clear hcells hB hpos htop
  have hsplit : ∀ k, total l = total (l.take k) + total (l.drop k) := by
    intro k
    have : ∀ a b : List (Int × Int), total (a ++ b) = total a + total b := by
      intro a b
      induction a with
      | nil => simp [total]
      | cons p r ih =>
        simp only [total, List.map_append, List.map_cons, List.cons_append, List.foldr_cons] at ih ⊢
        omega
    rw [← this, List.take_append_drop]
  have HS := Lib.hid hsplit
  clear hsplit
  go_enter Try.func16, Try.ntmps16
  go_wp2_with fail
  go_loopg [3, 4] l.length (fun g s i wr => w = wr ∧ ∃ k : Nat, i = .int .i64 k ∧ k ≤ l.length ∧ g = l.length - k ∧ s = .int .i64 (total (l.take k)))
  case atStart => exact ⟨rfl, 0, rfl, by omega, by omega, by simp [total]⟩
  case round =>
    obtain ⟨rfl, k, rfl, hk, rfl, rfl⟩ := hrel
    have hpt : (0 : Int) ≤ total (l.take k) := by
      have := total_nonneg (l := l.take k) (fun p hp => HP.out p (List.mem_of_mem_take hp))
      omega
    by_cases hlt : k < l.length
    · have hltz : (k : Int) < (l.length : Int) := by omega
      have ho : l[k]? = some l[k] := List.getElem?_eq_getElem hlt
      have h1 := HS.out (k + 1)
      have hd := total_nonneg (l := l.drop (k + 1)) (fun p hp => HP.out p (List.mem_of_mem_drop hp))
      have hts : total (l.take (k + 1)) = total (l.take k) + (l[k]).2 := by
        have h2 := HS.out k
        rw [List.drop_eq_getElem_cons hlt] at h2
        have : total (l[k] :: l.drop (k + 1)) = (l[k]).2 + total (l.drop (k + 1)) := rfl
        omega
      have hpp := HP.out _ (List.getElem_mem hlt)
      have htt := HT.out
      generalize l[k] = p at ho hts hpp
      obtain ⟨g, rfl, _, _, hc⟩ := HC.out k p ho
      obtain ⟨a0, a1⟩ := hc w rfl
      have hle : total (l.take k) + p.2 ≤ 9223372036854775807 := by omega
      have HTS := Lib.hid hts
      clear ho hc hts h1
      generalize total (l.take k) = tk at hpt hle HTS
      go_wp2_with fail
      go_roundg (l.length - (k + 1))
      case measure => omega
      case rel => exact ⟨rfl, k + 1, rfl, by omega, rfl, by rw [HTS.out]⟩
    · have e0 : k = l.length := by omega
      have hltz : (l.length : Int) ≤ (k : Int) := by omega
      have hfin : l.take k = l := by rw [e0, List.take_length]
      rw [hfin] at hpt ⊢
      go_wp2_with fail
      go_ret
      exact ⟨rfl, rfl⟩

set_option maxRecDepth 100000 in
set_option maxHeartbeats 2000000 in
theorem refSet_calls (hw0 : Fr (fun _ => False) w0 w) (hub : w0.heap.size ≤ ub) (hR : IsRefP w0 w ub l) (hn : l.length ≤ 1000000) (who n : Int) :
    Calls Try.prog 18 #[.pointer (some ⟨ub, 0, none⟩), .int .i64 who, .int .i64 n] w fun e w' => e = .returned (.tuple #[]) ∧ IsRefP w0 w' ub (setEnd who n l) ∧ Fr (fun b => b = ub) w w' := by
  obtain ⟨i0, hi, hz0, hz1, hz2⟩ := info_parts infoPart
  obtain ⟨A, cap, hB, hcells⟩ := hR.open_
  have HC := Lib.hid hcells
  have HB := Lib.hid hB
  have HZ := Lib.hid (Nat.le_refl w.heap.size)
  have hblt := hB.lt
  have c0 := hB.cell 0
  have hs0 := hw0.size
  clear hcells hB hR
  have hrow : (w.alloc (.cells #[] 44)).ownsRow w.heap.size 44 2 (.slice (some ⟨w.heap.size, 0, none⟩) 0 0) 0 [] :=
    w.ownsRow_lit #[] 0 (Nat.le_refl _) (by omega) rfl
  have hF0 : Fr (fun _ => False) w (w.alloc (.cells #[] 44)) := (Fr.refl _ w).alloc _
  go_enter Try.func18, Try.ntmps18
  go_wp2_with fail
  go_loopg [6, 7, 8] l.length (fun g v d i wr => ∃ k : Nat, i = .int .i64 k ∧ k ≤ l.length ∧ g = l.length - k ∧ d = .bool (setAt who n (l.take k)).2 ∧ wr.ownsRow w.heap.size 44 2 v (setAt who n (l.take k)).1.length (pcells (setAt who n (l.take k)).1) ∧ Fr (fun _ => False) w wr)
  case atStart => exact ⟨0, rfl, by omega, by omega, rfl, hrow, hF0⟩
  case round =>
    obtain ⟨k, rfl, hk, rfl, rfl, hown, hF⟩ := hrel
    have c0 := (HB.out.fr hF (fun h => h)).cell 0
    have hsz := hF.size
    have HF := Lib.hid hF
    have HF1 := HF
    have hlen := setAt_len who n (l.take k)
    have hl2 : (l.take k).length ≤ 1000000 := by simp; omega
    have hbase : ∀ o : Obj, w.heap.size ≤ (wr.alloc o).heap.size := fun o => by rw [World.size_alloc]; omega
    have HBS := Lib.hid hbase
    clear hF hbase
    by_cases hlt : k < l.length
    · have hltz : (k : Int) < (l.length : Int) := by omega
      have ho : l[k]? = some l[k] := List.getElem?_eq_getElem hlt
      have HS := Lib.hid (setAt_succ who n ho)
      generalize l[k] = p at ho HS
      obtain ⟨g, rfl, _, ⟨cur, hcur⟩, hc⟩ := HC.out k p ho
      obtain ⟨a0, a1⟩ := hc wr (HF.out.block g (Array.getElem?_eq_some_iff.1 hcur).1 (fun h => h))
      have HG := Lib.hid (Array.getElem?_eq_some_iff.1 hcur).1
      have HC2 := Lib.hid (show ∀ w' : World, w'.heap[g]? = w.heap[g]? → w'.cell? ⟨g, k * 2, none⟩ = some (.int .i64 p.1) ∧ w'.cell? ⟨g, k * 2 + 1, none⟩ = some (.int .i64 p.2) from hc)
      clear ho hc hcur
      generalize setAt who n (l.take k) = s at hown hlen HS ⊢
      obtain ⟨o, d⟩ := s
      dsimp only at hown hlen ⊢
      obtain ⟨pk, pn⟩ := p
      dsimp only at a0 a1
      cases d with
      | true =>
        by_cases he : pk = who
        · have hb : (pk != who) = false := by simpa using he
          have HE := Lib.hid he
          clear he
          go_wp2_with fail
          go_roundg (l.length - (k + 1))
          case measure => omega
          case rel => exact ⟨k + 1, rfl, by omega, rfl, by rw [HS.out]; simp [setStep, HE.out], by rw [HS.out]; simpa [setStep, HE.out] using hown, HF.out⟩
        · have hb : (pk != who) = true := by simpa using he
          have HE := Lib.hid he
          clear he
          go_wp2_with (at_builtin; refine wpList_append_own _ rfl (.tmp 51) (.tmp 59) 37 rfl w.heap.size 44 i0 _ 2 16 Try.underlying37 hi hz0 hz1 hz2 rfl (by decide) _ _ _ rfl (hown.alloc _) ⟨wr.heap.size, 0, none⟩ 1 1 [.int .i64 pk, .int .i64 pn] rfl rfl (news2 wr pk pn) (one2 pk pn) (by unfold maxLen; omega) (by omega) (HBS.out _) ?_; intro v1 w1 hown1 hgrow1 _; have hF1 := fr_app (W := wr) HF1.out hgrow1 hown HZ.out; clear hgrow1)
          go_wp2_with fail
          go_roundg (l.length - (k + 1))
          case measure => omega
          case rel => exact ⟨k + 1, rfl, by omega, rfl, by rw [HS.out]; simp [setStep, HE.out], by rw [HS.out]; simpa [setStep, HE.out, pcells_append, pcells] using hown1, hF1⟩
      | false =>
        by_cases hw : who < pk
        · have hb0 : pk ≠ who := by omega
          have hb : (pk != who) = true := by simpa using hb0
          have HE := Lib.hid hb0
          have HW := Lib.hid hw
          clear hb0
          have hd : decide (who < pk) = true := decide_eq_true hw
          go_wp2_with (first | (at_builtin; refine wpList_append_own _ rfl (.tmp 35) (.tmp 39) 37 rfl w.heap.size 44 i0 _ 2 16 Try.underlying37 hi hz0 hz1 hz2 rfl (by decide) _ _ _ rfl (hown.alloc _) ⟨wr.heap.size, 0, none⟩ 1 1 [.int .i64 who, .int .i64 n] rfl rfl (news2 wr who n) (one2 who n) (by unfold maxLen; omega) (by omega) (HBS.out _) ?_; intro v1 w1 hown1 hgrow1 _; have hF1 := fr_app (W := wr) HF1.out hgrow1 hown HZ.out; clear hgrow1; have HF2 := Lib.hid hF1; have hsz1 := hF1.size; have HBS1 := Lib.hid (show ∀ o : Obj, w.heap.size ≤ (w1.alloc o).heap.size from fun o => by rw [World.size_alloc]; omega); have hc1 := (HB.out.fr hF1 (fun h => h)).cell 0; obtain ⟨a0', a1'⟩ := HC2.out w1 (hF1.block g HG.out (fun h => h)); clear hF1) | (at_builtin; refine wpList_append_own _ rfl (.tmp 51) (.tmp 59) 37 rfl w.heap.size 44 i0 _ 2 16 Try.underlying37 hi hz0 hz1 hz2 rfl (by decide) _ _ _ rfl (hown1.alloc _) ⟨w1.heap.size, 0, none⟩ 1 1 [.int .i64 pk, .int .i64 pn] rfl rfl (news2 w1 pk pn) (one2 pk pn) (by unfold maxLen; omega) (by omega) (HBS1.out _) ?_; intro v2 w2 hown2 hgrow2 _; have hF2 := fr_app (W := w1) HF2.out hgrow2 hown1 HZ.out; clear hgrow2))
          go_wp2_with fail
          go_roundg (l.length - (k + 1))
          case measure => omega
          case rel => exact ⟨k + 1, rfl, by omega, rfl, by rw [HS.out]; simp [setStep, HE.out, HW.out], by rw [HS.out]; simpa [setStep, HE.out, HW.out, pcells_append, pcells] using hown2, hF2⟩
        · have hd : decide (who < pk) = false := decide_eq_false hw
          have HW := Lib.hid hw
          by_cases he : pk = who
          · have hb : (pk != who) = false := by simpa using he
            have HE := Lib.hid he
            clear he
            go_wp2_with (at_builtin; refine wpList_append_own _ rfl (.tmp 63) (.tmp 67) 37 rfl w.heap.size 44 i0 _ 2 16 Try.underlying37 hi hz0 hz1 hz2 rfl (by decide) _ _ _ rfl (hown.alloc _) ⟨wr.heap.size, 0, none⟩ 1 1 [.int .i64 who, .int .i64 n] rfl rfl (news2 wr who n) (one2 who n) (by unfold maxLen; omega) (by omega) (HBS.out _) ?_; intro v1 w1 hown1 hgrow1 _; have hF1 := fr_app (W := wr) HF1.out hgrow1 hown HZ.out; clear hgrow1)
            go_wp2_with fail
            go_roundg (l.length - (k + 1))
            case measure => omega
            case rel => exact ⟨k + 1, rfl, by omega, rfl, by rw [HS.out]; simp [setStep, HE.out], by rw [HS.out]; simpa [setStep, HE.out, pcells_append, pcells] using hown1, hF1⟩
          · have hb : (pk != who) = true := by simpa using he
            have HE := Lib.hid he
            clear he
            go_wp2_with (at_builtin; refine wpList_append_own _ rfl (.tmp 51) (.tmp 59) 37 rfl w.heap.size 44 i0 _ 2 16 Try.underlying37 hi hz0 hz1 hz2 rfl (by decide) _ _ _ rfl (hown.alloc _) ⟨wr.heap.size, 0, none⟩ 1 1 [.int .i64 pk, .int .i64 pn] rfl rfl (news2 wr pk pn) (one2 pk pn) (by unfold maxLen; omega) (by omega) (HBS.out _) ?_; intro v1 w1 hown1 hgrow1 _; have hF1 := fr_app (W := wr) HF1.out hgrow1 hown HZ.out; clear hgrow1)
            go_wp2_with fail
            go_roundg (l.length - (k + 1))
            case measure => omega
            case rel => exact ⟨k + 1, rfl, by omega, rfl, by rw [HS.out]; simp [setStep, HE.out, Int.not_lt.2 HW.out], by rw [HS.out]; simpa [setStep, HE.out, Int.not_lt.2 HW.out, pcells_append, pcells] using hown1, hF1⟩
    · have e0 : k = l.length := by omega
      have hltz : (l.length : Int) ≤ (k : Int) := by omega
      have hend : setEnd who n l = if (setAt who n (l.take k)).2 then (setAt who n (l.take k)).1 else (setAt who n (l.take k)).1 ++ [(who, n)] := by rw [e0, List.take_length]; rfl
      have HEND := Lib.hid hend
      clear e0 hend
      generalize setAt who n (l.take k) = s at hown hlen HEND ⊢
      obtain ⟨o, d⟩ := s
      dsimp only at hown hlen ⊢
      have hfin : ∀ (W W' : World) (v : Value) (m : Nat) (xs : List (Int × Int)), Fr (fun _ => False) w W → W.ownsRow w.heap.size 44 2 v m (pcells xs) → m = xs.length → W' = W.setCell ⟨ub, 0, none⟩ v → IsRefP w0 W' ub xs ∧ Fr (fun b => b = ub) w W' := by
        rintro W W' v m xs h1 h2 rfl rfl
        refine ⟨⟨v, (HB.out.fr h1 (fun h => h)).set_ 0 v, h2.1, h2.2.imp id ?_⟩, (h1.mono (S' := fun b => b = ub) (fun _ _ h => h.elim)).setCell (p := ⟨ub, 0, none⟩) (.inl rfl) _⟩
        rintro ⟨g, cap, cur, r1, r2, r3, r4⟩
        exact ⟨g, cap, cur, r1, by omega, (Below.heap_setCell _ _ _ _ (by show g ≠ ub; omega)).trans r3, r4⟩
      have HFIN := Lib.hid hfin
      clear hfin
      have hz0' := (HB.out.fr HF.out (fun h => h)).frozen 0
      cases d with
      | true =>
        rcases hown.2 with ⟨rfl, hz⟩ | ⟨g, cap', cur, rfl, hr⟩
        · go_wp2_with fail
          go_end0
          exact ⟨rfl, by rw [HEND.out]; exact HFIN.out _ _ _ _ _ HF.out hown rfl rfl⟩
        · clear hr
          go_wp2_with fail
          go_end0
          exact ⟨rfl, by rw [HEND.out]; exact HFIN.out _ _ _ _ _ HF.out hown rfl rfl⟩
      | false =>
        go_wp2_with (at_builtin; refine wpList_append_own _ rfl (.tmp 71) (.tmp 75) 37 rfl w.heap.size 44 i0 _ 2 16 Try.underlying37 hi hz0 hz1 hz2 rfl (by decide) _ _ _ rfl (hown.alloc _) ⟨wr.heap.size, 0, none⟩ 1 1 [.int .i64 who, .int .i64 n] rfl rfl (news2 wr who n) (one2 who n) (by unfold maxLen; omega) (by omega) (HBS.out _) ?_; intro v1 w1 hown1 hgrow1 _; have hF1 := fr_app (W := wr) HF1.out hgrow1 hown HZ.out; clear hgrow1; obtain ⟨g1, cap1, rfl⟩ := row_succ hown1; have d0 := (HB.out.fr hF1 (fun h => h)).cell 0; have d1 := (HB.out.fr hF1 (fun h => h)).frozen 0)
        go_wp2_with fail
        go_end0
        exact ⟨rfl, by rw [HEND.out]; exact HFIN.out _ _ _ _ (o ++ [(who, n)]) hF1 (by simpa [pcells_append, pcells] using hown1) (by simp) rfl⟩
end

end Go.Proofs.Ytejjfhgfhileeaa
