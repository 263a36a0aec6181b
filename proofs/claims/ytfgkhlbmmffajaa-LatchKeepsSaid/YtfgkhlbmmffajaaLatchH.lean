/- The locks behind a world: contracts over the plain functions; what the laws' own first look answers. -/
import Derived.Test.YtfgkhlbmmffajaaLatchE
namespace Go.Proofs.Ytfgkhlbmmffajaa
open Go.Maps Go.RowKit

/-- the blocks that the locks leave alone -/
def KX (w0 : World) (X : Nat → Prop) : Nat → Prop := fun b => ¬ (b < w0.heap.size ∨ X b)

/-- Locks that came behind w0 and lie outside the blocks X. -/
def HasL (w0 : World) (X : Nat → Prop) (lb mb : Nat) (ls : LS) (w : World) : Prop :=
  ∃ ms, IsL w lb mb ms ∧ vmap (·.2) ms = ls ∧ (∀ b, b < w0.heap.size ∨ X b → b < w.heap.size ∧ ¬ footL lb mb ms b) ∧ Fr (fun _ => False) w0 w

section
variable {w0 w w' : World} {X : Nat → Prop} {lb mb : Nat} {ls ls' : LS}

theorem HasL.fr (h : HasL w0 X lb mb ls w) : Fr (fun _ => False) w0 w := by obtain ⟨ms, h1, h2, h3, h4⟩ := h; exact h4
theorem HasL.below (h : HasL w0 X lb mb ls w) : Below w0.heap.size w0 w := h.fr.to_below

theorem HasL.sub (h : HasL w0 X lb mb ls w) {Y : Nat → Prop} (hY : ∀ b, Y b → X b) : HasL w0 Y lb mb ls w := by
  obtain ⟨ms, h1, h2, h3, h4⟩ := h
  exact ⟨ms, h1, h2, fun b hb => h3 b (hb.imp id (hY b)), h4⟩

/-- More blocks come: the locks do not lie in them. -/
theorem HasL.grow (h : HasL w0 X lb mb ls w) (hF : Fr (fun _ => False) w w') : HasL w0 (fun b => X b ∨ (w.heap.size ≤ b ∧ b < w'.heap.size)) lb mb ls w' := by
  obtain ⟨ms, h1, h2, h3, h4⟩ := h
  have hs := hF.size
  refine ⟨ms, h1.keep hF (fun _ _ e => e), h2, fun b hb => ?_, h4.trans hF (fun _ _ e => e)⟩
  rcases hb with hb | hb | hb
  · have := h3 b (.inl hb); exact ⟨by omega, this.2⟩
  · have := h3 b (.inr hb); exact ⟨by omega, this.2⟩
  · exact ⟨hb.2, fun hf => by have := h1.foot_lt hf; omega⟩

theorem HasL.alloc (h : HasL w0 X lb mb ls w) (o : Obj) : HasL w0 (fun b => X b ∨ b = w.heap.size) lb mb ls (w.alloc o) :=
  (h.grow ((Fr.refl _ w).alloc o)).sub fun b hb => by
    rcases hb with hb | hb
    · exact .inl hb
    · exact .inr ⟨by omega, by rw [World.size_alloc]; omega⟩

/-- What lies elsewhere turns. -/
theorem HasL.far (h : HasL w0 X lb mb ls w) {S : Nat → Prop} (hF : Fr S w w') (hS : ∀ b, S b → X b ∧ w0.heap.size ≤ b) : HasL w0 X lb mb ls w' := by
  obtain ⟨ms, h1, h2, h3, h4⟩ := h
  refine ⟨ms, h1.keep hF fun b hb hs => (h3 b (.inr (hS b hs).1)).2 hb, h2, fun b hb => ⟨Nat.lt_of_lt_of_le (h3 b hb).1 hF.size, (h3 b hb).2⟩, h4.trans hF fun b hb hs => by have := (hS b hs).2; omega⟩

theorem HasL.drewN (h : HasL w0 X lb mb ls w) (n : Nat) : HasL w0 X lb mb ls (w.drewN n) := h.far (S := fun _ => False) ⟨rfl, rfl, rfl, Nat.le_refl _, fun _ _ _ => rfl⟩ (fun _ h => h.elim)

theorem HasL.step {ms : MS} (h3 : ∀ b, b < w0.heap.size ∨ X b → b < w.heap.size ∧ ¬ footL lb mb ms b) (h4 : Fr (fun _ => False) w0 w) (hS : LStep w lb mb ms ls' w') : HasL w0 X lb mb ls' w' ∧ Fr (KX w0 X) w w' := by
  obtain ⟨ms', g1, g2, g3, g4⟩ := hS
  refine ⟨⟨ms', g1, g2, fun b hb => ⟨Nat.lt_of_lt_of_le (h3 b hb).1 g4.size, fun hf => ?_⟩, h4.trans g4 fun b hb hf => ((h3 b (.inl hb)).2 hf).elim⟩, g4.mono fun b _ hf hx => (h3 b hx).2 hf⟩
  rcases g3 b hf with e | e
  · exact (h3 b hb).2 e
  · have := (h3 b hb).1; omega

theorem HasL.new_ (w0 w : World) (X : Nat → Prop) (hX : ∀ b, X b → b < w.heap.size) (hF : Fr (fun _ => False) w0 w) :
    Calls Try.prog 8 #[] w fun e w' => ∃ lb mb, e = .returned (.pointer (some ⟨lb, 0, none⟩)) ∧ HasL w0 X lb mb [] w' ∧ Fr (fun _ => False) w w' := by
  refine (New_calls w).mono fun e w' ⟨h1, h2, h3⟩ => ⟨_, _, h1, ⟨[], h2, rfl, fun b hb => ?_, hF.trans h3 (fun _ _ e => e)⟩, h3⟩
  have hb' : b < w.heap.size := by
    rcases hb with hb | hb
    · exact Nat.lt_of_lt_of_le hb hF.size
    · exact hX b hb
  refine ⟨Nat.lt_of_lt_of_le hb' h3.size, ?_⟩
  rintro (h | h | ⟨p, k, h⟩)
  · omega
  · omega
  · cases h

theorem HasL.has (h : HasL w0 X lb mb ls w) (p : Int) (hp : in64 p) (x : Bool) :
    Calls Try.prog 10 #[.pointer (some ⟨lb, 0, none⟩), .int .i64 p, .bool x] w fun e w' => e = .returned (.bool (lHas p x ls)) ∧ w = w' := by
  obtain ⟨ms, h1, rfl, h3, h4⟩ := h
  exact Has_calls w lb mb ms h1 p hp x

theorem HasL.used (h : HasL w0 X lb mb ls w) (p : Int) (hp : in64 p) :
    Calls Try.prog 21 #[.pointer (some ⟨lb, 0, none⟩), .int .i64 p] w fun e w' => e = .returned (.int .i64 (lUsed p ls)) ∧ w = w' := by
  obtain ⟨ms, h1, rfl, h3, h4⟩ := h
  exact Used_calls w lb mb ms h1 p hp

theorem HasL.grant (h : HasL w0 X lb mb ls w) (hl : ls.length ≤ 1000000) (p : Int) (hp : in64 p) (x : Bool) :
    Calls Try.prog 9 #[.pointer (some ⟨lb, 0, none⟩), .int .i64 p, .bool x] w fun e w' => e = .returned (.tuple #[]) ∧ HasL w0 X lb mb (lGrant p x ls) w' ∧ Fr (KX w0 X) w w' := by
  obtain ⟨ms, h1, rfl, h3, h4⟩ := h
  rw [length_vmap] at hl
  exact (Grant_calls w lb mb ms h1 p hp x hl).mono fun _ _ ⟨g1, g2⟩ => ⟨g1, HasL.step h3 h4 g2⟩

theorem HasL.use (h : HasL w0 X lb mb ls w) (hI : LInv ls) (p : Int) (hp : in64 p) (x : Bool) :
    Calls Try.prog 13 #[.pointer (some ⟨lb, 0, none⟩), .int .i64 p, .bool x] w fun e w' => e = .returned (.int .i64 (lUse p x ls).1) ∧ HasL w0 X lb mb (lUse p x ls).2 w' ∧ Fr (KX w0 X) w w' := by
  obtain ⟨ms, h1, rfl, h3, h4⟩ := h
  exact (Use_calls w lb mb ms h1 hI p hp x).mono fun _ _ ⟨g1, g2⟩ => ⟨g1, HasL.step h3 h4 g2⟩

theorem HasL.call (h : HasL w0 X lb mb ls w) (hI : LInv ls) (p : Int) (hp : in64 p) (x : Bool) :
    Calls Try.prog 11 #[.pointer (some ⟨lb, 0, none⟩), .int .i64 p, .bool x] w fun e w' => e = .returned (.int .i64 (lCall p x ls).1) ∧ HasL w0 X lb mb (lCall p x ls).2 w' ∧ Fr (KX w0 X) w w' := by
  obtain ⟨ms, h1, rfl, h3, h4⟩ := h
  exact (Call_calls w lb mb ms h1 hI p hp x).mono fun _ _ ⟨g1, g2⟩ => ⟨g1, HasL.step h3 h4 g2⟩

theorem HasL.clear (h : HasL w0 X lb mb ls w) :
    Calls Try.prog 19 #[.pointer (some ⟨lb, 0, none⟩)] w fun e w' => e = .returned (.tuple #[]) ∧ HasL w0 X lb mb [] w' ∧ Fr (KX w0 X) w w' := by
  obtain ⟨ms, h1, rfl, h3, h4⟩ := h
  exact (Clear_calls w lb mb ms h1).mono fun _ _ ⟨g1, g2⟩ => ⟨g1, HasL.step h3 h4 g2⟩

/-- a row of lets as a slice, with its cells -/
def LetRow (w w' : World) (os : List (Int × Bool)) (v : Value) : Prop :=
  ∃ A cap, v = .slice A os.length cap ∧ ∀ (i : Nat) (q : Int × Bool), os[i]? = some q → ∃ g, A = some ⟨g, 0, none⟩ ∧ w.heap.size ≤ g ∧ g < w'.heap.size ∧ ∀ W : World, W.heap[g]? = w'.heap[g]? → W.cell? ⟨g, i * 2, none⟩ = some (.int .i64 q.1) ∧ W.cell? ⟨g, i * 2 + 1, none⟩ = some (.bool q.2)

theorem letcells_get {l : List (Int × Bool)} {i : Nat} {p : Int × Bool} (h : l[i]? = some p) : (letcells l)[i * 2]? = some (.int .i64 p.1) ∧ (letcells l)[i * 2 + 1]? = some (.bool p.2) := by
  induction l generalizing i with
  | nil => simp at h
  | cons q r ih =>
    cases i with
    | zero => simp at h; subst h; simp [letcells]
    | succ i =>
      have := ih (i := i) (by simpa using h)
      rw [show (i + 1) * 2 = i * 2 + 1 + 1 by omega]
      simpa [letcells] using this

theorem letrow_of {os : List (Int × Bool)} {v : Value} (h : w'.ownsRow w.heap.size 38 2 v os.length (letcells os)) : LetRow w w' os v := by
  obtain ⟨hl, ⟨rfl, h0⟩ | ⟨g, cap, cur, rfl, hg, hgr, hr⟩⟩ := id h
  · refine ⟨none, 0, by rw [h0], fun i p hi => ?_⟩
    have := (List.getElem?_eq_some_iff.1 hi).1
    omega
  · refine ⟨_, cap, rfl, fun i p hi => ⟨g, rfl, hg, (Array.getElem?_eq_some_iff.1 hgr).1, fun W hW => ?_⟩⟩
    have hlt := (List.getElem?_eq_some_iff.1 hi).1
    obtain ⟨g1, g2⟩ := letcells_get hi
    have h' : W.ownsRow w.heap.size 38 2 (.slice (some ⟨g, 0, none⟩) os.length cap) os.length (letcells os) := ⟨hl, .inr ⟨g, cap, cur, rfl, hg, hW.trans hgr, hr⟩⟩
    exact ⟨(h'.cellAt (i * 2) (by omega)).trans g1, (h'.cellAt (i * 2 + 1) (by omega)).trans g2⟩

/-- What End leaves, behind w0. -/
def EndP (w0 : World) (X : Nat → Prop) (lb mb : Nat) (ls : LS) (w : World) (e : Ending) (w' : World) : Prop :=
  ∃ v, e = .returned v ∧ LetRow w w' (endOuts ls) v ∧ HasL w0 X lb mb (endRest ls) w' ∧ Fr (KX w0 X) w w'

theorem HasL.end_ (h : HasL w0 X lb mb ls w) (hI : LInv ls) (hl : ls.length ≤ 1000000) :
    Calls Try.prog 12 #[.pointer (some ⟨lb, 0, none⟩)] w (EndP w0 X lb mb ls w) := by
  obtain ⟨ms, h1, rfl, h3, h4⟩ := h
  rw [length_vmap] at hl
  refine (End_calls w lb mb ms h1 hI hl).mono fun e w' h => ?_
  obtain ⟨v, g1, g2, g3⟩ := h
  obtain ⟨q1, q2⟩ := HasL.step h3 h4 g3
  exact ⟨v, g1, letrow_of g2, q1, q2⟩

def PagesP (w : World) (ks : List Int) (e : Ending) (w' : World) : Prop :=
  ∃ A cap, e = .returned (.slice A ks.length cap) ∧ (∀ (i : Nat) (q : Int), ks[i]? = some q → ∃ g, A = some ⟨g, 0, none⟩ ∧ w.heap.size ≤ g ∧ g < w'.heap.size ∧ ∀ W : World, W.heap[g]? = w'.heap[g]? → W.cell? ⟨g, i, none⟩ = some (.int .i64 q)) ∧ Fr (fun _ => False) w w'

theorem HasL.pages (h : HasL w0 X lb mb ls w) (hl : ls.length ≤ 1000000) :
    Calls Try.prog 23 #[.pointer (some ⟨lb, 0, none⟩)] w (PagesP w (ls.map (·.1))) := by
  obtain ⟨ms, h1, rfl, h3, h4⟩ := h
  rw [length_vmap] at hl
  refine (Pages_calls w lb mb ms h1 hl).mono fun e w' h => ?_
  obtain ⟨v, rfl, hrow, hF⟩ := h
  have hk : ms.map (·.1) = (vmap (·.2) ms).map (·.1) := by simp [vmap]
  rw [hk] at hrow
  generalize (vmap (·.2) ms).map (·.1) = ks at hrow ⊢
  obtain ⟨hl, ⟨rfl, h0⟩ | ⟨g, cap, cur, rfl, hg, hgr, hr⟩⟩ := id hrow
  · refine ⟨none, 0, by rw [h0], fun i p hi => ?_, hF⟩
    have := (List.getElem?_eq_some_iff.1 hi).1
    omega
  · refine ⟨_, cap, rfl, fun i p hi => ⟨g, rfl, hg, (Array.getElem?_eq_some_iff.1 hgr).1, fun W hW => ?_⟩, hF⟩
    have hlt := (List.getElem?_eq_some_iff.1 hi).1
    have h' : W.ownsRow w.heap.size 3 1 (.slice (some ⟨g, 0, none⟩) ks.length cap) ks.length (ks.map fun k => Value.int .i64 k) := ⟨hl, .inr ⟨g, cap, cur, rfl, hg, hW.trans hgr, hr⟩⟩
    rw [h'.cellAt i (by omega), List.getElem?_map, hi]
    rfl
end

theorem awake_calls (w : World) : Calls Try.prog 7 #[] w fun e w' => e = .returned (.bool true) ∧ Fr (fun _ => False) w w' := by
  have in3 : in64 3 := by unfold in64; omega
  have hnil := Lib.hid linv_nil
  go_enter Try.func7, Try.ntmps7
  go_wp2_with fail
  refine (HasL.new_ w w (fun _ => False) (fun _ h => h.elim) (Fr.refl _ w)).mono ?_
  rintro e w1 ⟨lb, mb, rfl, h1, -⟩
  go_wp2_with fail
  refine (h1.grant (by simp) 3 in3 true).mono ?_
  rintro e w2 ⟨rfl, h2, -⟩
  have i2 := lGrant_inv hnil.out in3 true
  change HasL _ _ _ _ [(3, ⟨true, 0, 0⟩)] _ at h2
  change LInv [(3, ⟨true, 0, 0⟩)] at i2
  clear h1
  go_wp2_with fail
  refine (h2.use i2 3 in3 false).mono ?_
  rintro e w3 ⟨rfl, h3, -⟩
  have i3 := lUse_inv i2 in3 false
  change HasL _ _ _ _ [(3, ⟨true, 1, 0⟩)] _ at h3
  change LInv [(3, ⟨true, 1, 0⟩)] at i3
  clear h2 i2
  have e3 : (lUse 3 false [(3, ⟨true, 0, 0⟩)]).1 = 0 := rfl
  rw [e3]
  go_wp2_with fail
  refine (h3.call i3 3 in3 false).mono ?_
  rintro e w4 ⟨rfl, h4, -⟩
  have i4 := lCall_inv i3 in3 false
  have e4 : (lCall 3 false [(3, ⟨true, 1, 0⟩)]).1 = 2 := rfl
  change HasL _ _ _ _ [(3, ⟨false, 1, 0⟩)] _ at h4
  change LInv [(3, ⟨false, 1, 0⟩)] at i4
  rw [e4]
  clear h3 i3 e3 e4
  go_wp2_with fail
  refine (h4.call i4 3 in3 true).mono ?_
  rintro e w5 ⟨rfl, h5, -⟩
  have i5 := lCall_inv i4 in3 true
  have e5 : (lCall 3 true [(3, ⟨false, 1, 0⟩)]).1 = 3 := rfl
  change HasL _ _ _ _ [(3, ⟨false, 1, 2⟩)] _ at h5
  change LInv [(3, ⟨false, 1, 2⟩)] at i5
  rw [e5]
  clear h4 i4 e5
  go_wp2_with fail
  refine (h5.end_ i5 (by simp)).mono ?_
  rintro e w6 ⟨v, rfl, ⟨A, cap, rfl, hc⟩, h6, -⟩
  change HasL _ _ _ _ [] _ at h6
  have eo : endOuts [(3, ⟨false, 1, 2⟩)] = [(3, false)] := rfl
  rw [eo] at hc ⊢
  obtain ⟨g, rfl, _, _, hg⟩ := hc 0 (3, false) rfl
  obtain ⟨c0, c1⟩ := hg w6 rfl
  clear hc hg h5 i5 eo
  have hb1 := h6.has 3 in3 false
  have hb2 := h6.use hnil.out 3 in3 false
  change Calls _ _ _ _ (fun e w' => e = .returned (.bool false) ∧ _) at hb1
  change Calls _ _ _ _ (fun e w' => e = .returned (.int .i64 12) ∧ HasL _ _ _ _ [] w' ∧ _) at hb2
  simp only [List.length_cons, List.length_nil, Nat.zero_add]
  go_wp2_with (first | (go_at_call 10; refine hb1.mono ?_; clear hb1; rintro e w' ⟨rfl, rfl⟩) | (go_at_call 13; refine hb2.mono ?_; clear hb2; rintro e w8 ⟨rfl, h8, -⟩))
  go_ret
  exact ⟨rfl, h8.fr⟩

end Go.Proofs.Ytfgkhlbmmffajaa
