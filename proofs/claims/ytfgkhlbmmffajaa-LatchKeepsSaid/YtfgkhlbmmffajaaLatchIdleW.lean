/- LatchIdle: the walk. -/
import Derived.Test.YtfgkhlbmmffajaaLatchH
import Derived.Deep.CutBlock
namespace Go.Proofs.Ytfgkhlbmmffajaa
open Go.Maps Go.RowKit

/-- an act: two whole numbers and a bool -/
def okActL (j : Nat) (v : Value) : Prop := if j = 2 then ∃ b, v = .bool b else ∃ x, v = .int .i64 x ∧ in64 x

/-- nothing is needed, nothing waits -/
def Idle (ls : LS) : Prop := ∀ p ∈ ls, p.2.used = 0 ∧ p.2.wait = 0

theorem idle_at {ls : LS} (h : Idle ls) {p : Int} {k : Lk} (hk : look p ls = some k) : k.used = 0 ∧ k.wait = 0 := h _ (mem_of_look hk)

theorem idle_ins {ls : LS} (h : Idle ls) {p : Int} {k : Lk} (h1 : k.used = 0) (h2 : k.wait = 0) : Idle (ins p k ls) := fun q hq => by
  rcases mem_ins hq with rfl | hq
  · exact ⟨h1, h2⟩
  · exact h q hq

theorem idle_grant {ls : LS} (h : Idle ls) (p : Int) (x : Bool) : Idle (lGrant p x ls) := by
  unfold lGrant
  split
  · rename_i k hk
    obtain ⟨h1, h2⟩ := idle_at h hk
    exact idle_ins h h1 h2
  · exact idle_ins h rfl rfl

/-- had, had as an X, the answer, had behind it, had as an X behind it -/
def IdleCase (x had hadX : Bool) (a : Int) (c1 c2 : Bool) : Prop :=
  (x = true ∧ had = false ∧ hadX = false ∧ a = 0 ∧ c1 = false ∧ c2 = false) ∨ (x = false ∧ had = false ∧ hadX = false ∧ a = 0 ∧ c1 = false ∧ c2 = false) ∨
  (x = true ∧ had = true ∧ hadX = false ∧ a = 1 ∧ c1 = false ∧ c2 = false) ∨ (x = true ∧ had = true ∧ hadX = true ∧ a = 1 ∧ c1 = false ∧ c2 = false) ∨
  (x = false ∧ had = true ∧ hadX = false ∧ a = 0 ∧ c1 = true ∧ c2 = false) ∨ (x = false ∧ had = true ∧ hadX = true ∧ a = 2 ∧ c1 = true ∧ c2 = false)

theorem idle_call {ls : LS} (h : Idle ls) (p : Int) (x : Bool) : Idle (lCall p x ls).2 ∧ IdleCase x (lHas p false ls) (lHas p true ls) (lCall p x ls).1 (lHas p false (lCall p x ls).2) (lHas p true (lCall p x ls).2) := by
  unfold IdleCase
  cases e : look p ls with
  | none =>
    have h1 : ∀ b, lHas p b ls = false := fun b => by unfold lHas; rw [e]
    have h2 : lCall p x ls = (0, ls) := by unfold lCall; rw [e]
    rw [h2]
    simp only [h1]
    refine ⟨h, ?_⟩
    cases x <;> simp
  | some k =>
    obtain ⟨h1, h2⟩ := idle_at h e
    have hf : lHas p false ls = true := by unfold lHas; rw [e]; simp
    have ht : lHas p true ls = k.x := by unfold lHas; rw [e]; simp
    rw [hf, ht]
    cases x with
    | true =>
      have hc : lCall p true ls = (1, del p ls) := by unfold lCall; rw [e]; simp [h1]
      have hd : ∀ b, lHas p b (del p ls) = false := fun b => by unfold lHas; rw [look_del, if_pos rfl]
      rw [hc]
      simp only [hd]
      refine ⟨fun q hq => h q (List.mem_filter.1 hq).1, ?_⟩
      cases k.x <;> simp
    | false =>
      cases hx : k.x with
      | false =>
        have hc : lCall p false ls = (0, ls) := by unfold lCall; rw [e]; simp [hx]
        rw [hc]
        simp only [hf, ht, hx]
        exact ⟨h, by simp⟩
      | true =>
        have hc : lCall p false ls = (2, ins p { k with x := false } ls) := by unfold lCall; rw [e]; simp [hx, h1]
        have hl : look p (ins p { k with x := false } ls) = some { k with x := false } := look_ins_same
        have h3 : lHas p false (ins p { k with x := false } ls) = true := by unfold lHas; rw [hl]; simp
        have h4 : lHas p true (ins p { k with x := false } ls) = false := by unfold lHas; rw [hl]; simp
        rw [hc]
        simp only [h3, h4]
        exact ⟨idle_ins h h1 h2, by simp⟩

theorem idle_outs {ls : LS} (h : Idle ls) : endOuts ls = [] := by
  induction ls with
  | nil => rfl
  | cons q r ih =>
    have h1 := (h q (by simp)).2
    have : endOuts (q :: r) = outOf q ++ endOuts r := by simp [endOuts]
    rw [this, ih (fun p hp => h p (by simp [hp]))]
    simp [outOf, h1]

set_option maxRecDepth 100000 in
set_option maxHeartbeats 4000000 in
theorem idle_calls (A : Option Addr) (n c : Nat) (w : World) (_hn : n ≤ maxLen) (hA : CellsAt w w.heap.size 3 A n okActL) :
    Calls Try.prog 3 #[.slice A n c] w fun e w' => e = .returned (.bool true) ∧ Below w.heap.size w w' := by
  go_enter Try.func3, Try.ntmps3
  go_wp2_with fail
  refine (awake_calls _).mono ?_
  rintro e w1 ⟨rfl, hF1⟩
  go_wp2_with fail
  refine (HasL.new_ w w1 (fun _ => False) (fun _ h => h.elim) hF1).mono ?_
  rintro e w2 ⟨lb, mb, rfl, hH2, -⟩
  clear hF1
  go_wp2_with fail
  go_loopg [4] 200 (fun g i wr => ∃ (k : Nat) (ls : LS), i = .int .i64 k ∧ k ≤ 200 ∧ g = 200 - k ∧ LInv ls ∧ ls.length ≤ k ∧ Idle ls ∧ HasL w (fun _ => False) lb mb ls wr)
  case atStart => exact ⟨0, _, rfl, by omega, by omega, linv_nil, by simp, by simp [Idle], hH2⟩
  case round =>
    obtain ⟨k, ls, rfl, hk2, rfl, hI, hlen, hId, hH⟩ := hrel
    clear hH2
    by_cases hlt : k < n ∧ k < 200
    · obtain ⟨hlt, hlt2⟩ := hlt
      obtain ⟨b, off, rfl, hbb, hcells⟩ := hA k hlt
      obtain ⟨y0, i0, c0⟩ := hcells 0 (by omega)
      obtain ⟨y1, i1, c1⟩ := hcells 1 (by omega)
      obtain ⟨y2, i2, c2⟩ := hcells 2 (by omega)
      obtain ⟨kd, rfl, _⟩ := i0
      obtain ⟨pg, rfl, hpg⟩ := i1
      obtain ⟨x, rfl⟩ := i2
      rw [← hH.fr.cell (p := ⟨b, _, none⟩) hbb (fun h => h)] at c0 c1 c2
      rw [Nat.add_zero] at c0
      have hltz : (k : Int) < (n : Int) := by omega
      have q1 : (0 : Int) ≤ (k : Int) := by omega
      have hHa := hH.alloc (.cells #[.int .i64 kd, .int .i64 pg, .bool x] 27)
      have hXa : Blk (wr.alloc (.cells #[.int .i64 kd, .int .i64 pg, .bool x] 27)) wr.heap.size 27 [.int .i64 kd, .int .i64 pg, .bool x] := Blk.new wr 27 [.int .i64 kd, .int .i64 pg, .bool x]
      have hIC := Lib.hid (lCall_inv hI hpg x)
      have hLC := Lib.hid (lCall_len hI pg x)
      obtain ⟨hId2, hcase⟩ := idle_call hId pg x
      have HID2 := Lib.hid hId2
      have HLEN := Lib.hid hlen
      clear hcells hH hId2 hlen
      by_cases hk1 : kd = 1
      · subst hk1
        clear hcase
        go_wp2_with fail
        refine (hHa.grant (by have := HLEN.out; omega) pg hpg x).mono ?_
        rintro e w3 ⟨rfl, hH3, hF3⟩
        clear hHa hXa c0 c1 c2
        go_wp2_with fail
        go_roundg (200 - (k + 1))
        case measure => omega
        case rel => exact ⟨k + 1, lGrant pg x ls, rfl, by omega, rfl, lGrant_inv hI hpg x, Nat.le_trans (lGrant_len pg x) (by have := HLEN.out; omega), idle_grant hId pg x, hH3.sub (fun _ h => h.elim)⟩
      · have hk1' : (kd == 1) = false := by simpa using hk1
        clear hk1
        have hb1 := hHa.has pg hpg false
        have hb2 := hHa.has pg hpg true
        have hb3 := hHa.call hI pg hpg x
        have hb4 : ∀ W : World, HasL w (fun b => False ∨ b = wr.heap.size) lb mb (lCall pg x ls).2 W → Calls Try.prog 10 #[.pointer (some ⟨lb, 0, none⟩), .int .i64 pg, .bool false] W fun e w' => e = .returned (.bool (lHas pg false (lCall pg x ls).2)) ∧ W = w' := fun W h => h.has pg hpg false
        have hb5 : ∀ W : World, HasL w (fun b => False ∨ b = wr.heap.size) lb mb (lCall pg x ls).2 W → Calls Try.prog 10 #[.pointer (some ⟨lb, 0, none⟩), .int .i64 pg, .bool true] W fun e w' => e = .returned (.bool (lHas pg true (lCall pg x ls).2)) ∧ W = w' := fun W h => h.has pg hpg true
        generalize lHas pg false ls = had at hb1 hcase
        generalize lHas pg true ls = hadX at hb2 hcase
        generalize lHas pg false (lCall pg x ls).2 = c1' at hb4 hcase
        generalize lHas pg true (lCall pg x ls).2 = c2' at hb5 hcase
        rcases hlc : lCall pg x ls with ⟨a, ls'⟩
        rw [hlc] at hb3 hb4 hb5 hcase hIC hLC HID2
        dsimp only at hb3 hb4 hb5 hcase
        clear hlc
        have HB4 := Lib.hid hb4
        have HB5 := Lib.hid hb5
        clear hb4 hb5 hHa
        rcases hcase with ⟨rfl, rfl, rfl, rfl, rfl, rfl⟩ | ⟨rfl, rfl, rfl, rfl, rfl, rfl⟩ | ⟨rfl, rfl, rfl, rfl, rfl, rfl⟩ | ⟨rfl, rfl, rfl, rfl, rfl, rfl⟩ | ⟨rfl, rfl, rfl, rfl, rfl, rfl⟩ | ⟨rfl, rfl, rfl, rfl, rfl, rfl⟩
        all_goals
          as_aux_lemma =>
            go_wp2_with fail
            refine hb1.mono ?_
            rintro e w3 ⟨rfl, rfl⟩
            go_wp2_with fail
            refine hb2.mono ?_
            rintro e w3 ⟨rfl, rfl⟩
            go_wp2_with fail
            refine hb3.mono ?_
            rintro e w3 ⟨rfl, hH3, hF3⟩
            have hX3 := hXa.fr hF3 (fun h => h (.inr (.inr rfl)))
            have x1 := hX3.cell 1
            have x2 := hX3.cell 2
            have hb4 := HB4.out w3 hH3
            have hb5 := HB5.out w3 hH3
            clear hb1 hb2 hb3 hXa hF3 c0 c1 c2
            go_wp2_with (first | (go_at_call 10; with_reducible refine hb4.mono ?_; rintro e w' ⟨rfl, rfl⟩) | (go_at_call 10; with_reducible refine hb5.mono ?_; rintro e w' ⟨rfl, rfl⟩))
            go_roundg (200 - (k + 1))
            case measure => omega
            case rel => exact ⟨k + 1, ls', rfl, by omega, rfl, hIC.out, Nat.le_trans hLC.out (by have := HLEN.out; omega), HID2.out, hH3.sub (fun _ h => h.elim)⟩
    · have hend := hH.end_ hI (by omega)
      have ho := idle_outs hId
      by_cases hlt1 : k < n
      all_goals
        have hlt2 : ¬ k < n ∨ ¬ k < 200 := by omega
        clear hlt
        go_wp2_with fail
        refine hend.mono ?_
        rintro e w3 ⟨v, rfl, ⟨A', cap, rfl, -⟩, hH3, -⟩
        rw [ho]
        go_wp2_with fail
        go_ret
        exact ⟨rfl, hH3.below⟩

end Go.Proofs.Ytfgkhlbmmffajaa
