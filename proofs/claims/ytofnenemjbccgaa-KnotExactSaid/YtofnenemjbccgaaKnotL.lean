/- Who waits for whom: the plain law. -/
import Derived.Test.YtofnenemjbccgaaRange
namespace Go.Proofs.Ytofnenemjbccgaa
open Go.Maps Go.RowKit

abbrev ES := List (Int × Int)

/-- a row of one edge or more -/
inductive Pth (E : ES) : Int → Int → Prop
  | one {a b : Int} : (a, b) ∈ E → Pth E a b
  | more {a b c : Int} : (a, b) ∈ E → Pth E b c → Pth E a c

def Rising (l : List Int) : Prop := l.Pairwise (· < ·)

/-- l: those that wait for themselves, rising -/
def IsStuck (E : ES) (l : List Int) : Prop := Rising l ∧ ∀ k, k ∈ l ↔ Pth E k k

def without (k : Int) (E : ES) : ES := E.filter fun e => e.1 != k && e.2 != k

theorem mem_without {k : Int} {E : ES} {a b : Int} : (a, b) ∈ without k E ↔ (a, b) ∈ E ∧ a ≠ k ∧ b ≠ k := by
  simp [without]

inductive IsVictims : ES → List Int → Prop
  | nil {E : ES} : IsStuck E [] → IsVictims E []
  | cons {E : ES} {l : List Int} {k : Int} {vs : List Int} : IsStuck E l → l.getLast? = some k → IsVictims (without k E) vs → IsVictims E (k :: vs)

theorem Pth.mono {E E' : ES} (h : ∀ a b, (a, b) ∈ E → (a, b) ∈ E') {a b : Int} (p : Pth E a b) : Pth E' a b := by
  induction p with
  | one e => exact .one (h _ _ e)
  | more e _ ih => exact .more (h _ _ e) ih

theorem Pth.trans {E : ES} {a b c : Int} (p : Pth E a b) (q : Pth E b c) : Pth E a c := by
  induction p with
  | one e => exact .more e q
  | more e _ ih => exact .more e (ih q)

theorem Pth.first {E : ES} {a b : Int} (p : Pth E a b) : ∃ c, (a, c) ∈ E := by
  cases p with
  | one e => exact ⟨_, e⟩
  | more e _ => exact ⟨_, e⟩

theorem Pth.last {E : ES} {a b : Int} (p : Pth E a b) : ∃ c, (c, b) ∈ E := by
  induction p with
  | one e => exact ⟨_, e⟩
  | more _ _ ih => exact ih

theorem rising_ext {l l' : List Int} (h : Rising l) (h' : Rising l') (he : ∀ k, k ∈ l ↔ k ∈ l') : l = l' := by
  induction l generalizing l' with
  | nil =>
    cases l' with
    | nil => rfl
    | cons q r => exact absurd ((he q).2 (by simp)) (by simp)
  | cons p r ih =>
    cases l' with
    | nil => exact absurd ((he p).1 (by simp)) (by simp)
    | cons q s =>
      obtain ⟨h1, h2⟩ := List.pairwise_cons.1 h
      obtain ⟨h3, h4⟩ := List.pairwise_cons.1 h'
      have hpq : p = q := by
        have e1 := (he p).1 (by simp)
        have e2 := (he q).2 (by simp)
        rcases List.mem_cons.1 e1 with e | e1
        · exact e
        · rcases List.mem_cons.1 e2 with e | e2
          · exact e.symm
          · have := h3 _ e1
            have := h1 _ e2
            omega
      subst hpq
      rw [ih h2 h4 fun k => ?_]
      have e := he k
      simp only [List.mem_cons] at e
      constructor
      · intro hk
        rcases e.1 (.inr hk) with rfl | hs
        · exact absurd (h1 _ hk) (by omega)
        · exact hs
      · intro hk
        rcases e.2 (.inr hk) with rfl | hs
        · exact absurd (h3 _ hk) (by omega)
        · exact hs

theorem IsStuck.uniq {E E' : ES} {l l' : List Int} (h : IsStuck E l) (h' : IsStuck E' l') (he : ∀ a b, (a, b) ∈ E ↔ (a, b) ∈ E') : l = l' :=
  rising_ext h.1 h'.1 fun k => by
    rw [h.2, h'.2]
    exact ⟨Pth.mono fun a b => (he a b).1, Pth.mono fun a b => (he a b).2⟩

theorem IsVictims.uniq {E E' : ES} {l l' : List Int} (h : IsVictims E l) (h' : IsVictims E' l') (he : ∀ a b, (a, b) ∈ E ↔ (a, b) ∈ E') : l = l' := by
  induction h generalizing E' l' with
  | nil h1 =>
    cases h' with
    | nil _ => rfl
    | cons h2 h3 _ =>
      have := h1.uniq h2 he
      rw [← this] at h3
      cases h3
  | cons h1 h2 _ ih =>
    cases h' with
    | nil h3 =>
      have := h1.uniq h3 he
      rw [this] at h2
      cases h2
    | cons h3 h4 h5 =>
      have e1 := h1.uniq h3 he
      rw [e1, h4] at h2
      cases h2
      rw [ih h5 fun a b => by rw [mem_without, mem_without, he a b]]

/-- A set that is closed under the edges, and from which no edge leads to k. -/
theorem no_way {E : ES} {k : Int} {S : Int → Prop} (hc : ∀ x, x = k ∨ S x → ∀ y, (x, y) ∈ E → S y ∧ y ≠ k) : ¬ Pth E k k := by
  have : ∀ a b, Pth E a b → a = k ∨ S a → b ≠ k := by
    intro a b p
    induction p with
    | one e => exact fun h => (hc _ h _ e).2
    | more e _ ih => exact fun h => ih (.inr (hc _ h _ e).1)
  exact fun p => this k k p (.inl rfl) rfl

/-! ### what the laws say -/
theorem isVictims_mem {E : ES} {vs : List Int} (h : IsVictims E vs) : ∀ {k : Int}, k ∈ vs → Pth E k k := by
  induction h with
  | nil _ => intro k hk; cases hk
  | cons h1 h2 _ ih =>
    intro k hk
    rcases List.mem_cons.1 hk with rfl | hk
    · exact (h1.2 _).1 (List.mem_of_getLast? h2)
    · exact Pth.mono (fun a b hab => (mem_without.1 hab).1) (ih hk)

/-- the edges that touch none of some names -/
def leftE (vs : List Int) (E : ES) : ES := E.filter fun e => vs.all fun k => e.1 != k && e.2 != k

theorem mem_leftE {vs : List Int} {E : ES} {a b : Int} : (a, b) ∈ leftE vs E ↔ (a, b) ∈ E ∧ ∀ k ∈ vs, a ≠ k ∧ b ≠ k := by
  simp [leftE]

theorem frees_all {E : ES} {vs : List Int} (h : IsVictims E vs) : IsStuck (leftE vs E) [] := by
  induction h with
  | @nil E h1 =>
    refine ⟨h1.1, fun k => ?_⟩
    rw [h1.2]
    exact ⟨Pth.mono fun a b hab => mem_leftE.2 ⟨hab, by simp⟩, Pth.mono fun a b hab => (mem_leftE.1 hab).1⟩
  | @cons E l k vs _ _ _ ih =>
    refine ⟨ih.1, fun j => ?_⟩
    rw [ih.2]
    refine ⟨Pth.mono fun a b hab => ?_, Pth.mono fun a b hab => ?_⟩
    · obtain ⟨h1, h2⟩ := mem_leftE.1 hab
      obtain ⟨h3, h4, h5⟩ := mem_without.1 h1
      refine mem_leftE.2 ⟨h3, fun q hq => ?_⟩
      rcases List.mem_cons.1 hq with rfl | hq
      · exact ⟨h4, h5⟩
      · exact h2 q hq
    · obtain ⟨h1, h2⟩ := mem_leftE.1 hab
      exact mem_leftE.2 ⟨mem_without.2 ⟨h1, (h2 k (by simp)).1, (h2 k (by simp)).2⟩, fun q hq => h2 q (by simp [hq])⟩

theorem frees_less {E : ES} {vs : List Int} (h : IsVictims E vs) (hne : vs ≠ []) : ¬ IsStuck (leftE vs.dropLast E) [] := by
  induction h with
  | nil _ => exact absurd rfl hne
  | @cons E l k vs h1 h2 h3 ih =>
    cases vs with
    | nil =>
      intro hs
      have hk : Pth E k k := (h1.2 k).1 (List.mem_of_getLast? h2)
      have : k ∈ ([] : List Int) := (hs.2 k).2 (Pth.mono (fun a b hab => mem_leftE.2 ⟨hab, by simp⟩) hk)
      cases this
    | cons q r =>
      intro hs
      refine ih (by simp) ⟨hs.1, fun j => ?_⟩
      rw [hs.2]
      rw [show (k :: q :: r).dropLast = k :: (q :: r).dropLast from rfl]
      refine ⟨Pth.mono fun a b hab => ?_, Pth.mono fun a b hab => ?_⟩
      · obtain ⟨g1, g2⟩ := mem_leftE.1 hab
        exact mem_leftE.2 ⟨mem_without.2 ⟨g1, (g2 k (by simp)).1, (g2 k (by simp)).2⟩, fun q hq => g2 q (by simp [hq])⟩
      · obtain ⟨g1, g2⟩ := mem_leftE.1 hab
        obtain ⟨g3, g4, g5⟩ := mem_without.1 g1
        refine mem_leftE.2 ⟨g3, fun q hq => ?_⟩
        rcases List.mem_cons.1 hq with rfl | hq
        · exact ⟨g4, g5⟩
        · exact g2 q hq

/-- names that wait for lesser ones alone -/
theorem down_none {E : ES} (h : ∀ a b, (a, b) ∈ E → b < a) : IsStuck E [] ∧ IsVictims E [] := by
  have hp : ∀ a b, Pth E a b → b < a := by
    intro a b p
    induction p with
    | one e => exact h _ _ e
    | more e _ ih => have := h _ _ e; omega
  have : IsStuck E [] := ⟨List.Pairwise.nil, fun k => ⟨(fun h => by cases h), fun p => by have := hp _ _ p; omega⟩⟩
  exact ⟨this, .nil this⟩

/-- two lots without a common name -/
theorem apart_stuck {E F G : ES} {l m : List Int} (hE : IsStuck E l) (hF : IsStuck F m) (h1 : ∀ a b, (a, b) ∈ E → a < 50 ∧ b < 50) (h2 : ∀ a b, (a, b) ∈ F → 50 ≤ a ∧ 50 ≤ b) (hG : ∀ a b, (a, b) ∈ G ↔ (a, b) ∈ E ∨ (a, b) ∈ F) : IsStuck G (l ++ m) := by
  have hp : ∀ a b, Pth G a b → (a < 50 → Pth E a b ∧ b < 50) ∧ (50 ≤ a → Pth F a b ∧ 50 ≤ b) := by
    intro a b p
    induction p with
    | @one a b e =>
      rcases (hG _ _).1 e with e | e
      · have := h1 _ _ e
        exact ⟨fun _ => ⟨.one e, this.2⟩, fun _ => by omega⟩
      · have := h2 _ _ e
        exact ⟨fun _ => by omega, fun _ => ⟨.one e, this.2⟩⟩
    | @more a b c e _ ih =>
      rcases (hG _ _).1 e with e | e
      · have := h1 _ _ e
        exact ⟨fun _ => ⟨.more e (ih.1 this.2).1, (ih.1 this.2).2⟩, fun _ => by omega⟩
      · have := h2 _ _ e
        exact ⟨fun _ => by omega, fun _ => ⟨.more e (ih.2 this.2).1, (ih.2 this.2).2⟩⟩
  have hl : ∀ k ∈ l, k < 50 := fun k hk => by
    obtain ⟨c, hc⟩ := ((hE.2 k).1 hk).first
    exact (h1 _ _ hc).1
  have hm : ∀ k ∈ m, 50 ≤ k := fun k hk => by
    obtain ⟨c, hc⟩ := ((hF.2 k).1 hk).first
    exact (h2 _ _ hc).1
  refine ⟨List.pairwise_append.2 ⟨hE.1, hF.1, fun a ha b hb => by have := hl a ha; have := hm b hb; omega⟩, fun k => ?_⟩
  rw [List.mem_append, hE.2, hF.2]
  constructor
  · rintro (p | p)
    · exact p.mono fun a b hab => (hG _ _).2 (.inl hab)
    · exact p.mono fun a b hab => (hG _ _).2 (.inr hab)
  · intro p
    by_cases hk : k < 50
    · exact .inl ((hp _ _ p).1 hk).1
    · exact .inr ((hp _ _ p).2 (by omega)).1

end Go.Proofs.Ytofnenemjbccgaa
