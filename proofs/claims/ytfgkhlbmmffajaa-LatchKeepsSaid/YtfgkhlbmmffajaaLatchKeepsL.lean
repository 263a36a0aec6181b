/- LatchKeeps: the plain law; the two arrays in memory. -/
import Derived.Test.YtfgkhlbmmffajaaLatchH
namespace Go.Proofs.Ytfgkhlbmmffajaa
open Go.Maps Go.RowKit

/-! ### plain -/
def lOwes (p : Int) (ls : LS) : Bool := match look p ls with
  | some k => k.wait != 0
  | none => false

structure KInv (ls : LS) : Prop where
  inv : LInv ls
  at_ : ∀ p k, look p ls = some k → (0 ≤ p ∧ p < 6) ∧ (k.used = 2 → k.x = true) ∧ (k.wait ≠ 0 → k.used ≠ 0)

theorem in64_6 {p : Int} (h : 0 ≤ p ∧ p < 6) : in64 p := by unfold in64; omega

theorem kinv_nil : KInv [] := ⟨linv_nil, fun p k h => by simp [look] at h⟩

section
variable {ls : LS} {p : Int} {x : Bool}

theorem KInv.ins_ (h : KInv ls) (hp : 0 ≤ p ∧ p < 6) {k : Lk} (hk : LkOk k) (h1 : k.used = 2 → k.x = true) (h2 : k.wait ≠ 0 → k.used ≠ 0) : KInv (ins p k ls) :=
  ⟨h.inv.ins_ (in64_6 hp) hk, fun q k' hq => by
    rw [look_ins] at hq
    split at hq
    · rename_i e
      cases hq
      rw [e]
      exact ⟨hp, h1, h2⟩
    · exact h.at_ q k' hq⟩

theorem KInv.del_ (h : KInv ls) (p : Int) : KInv (del p ls) :=
  ⟨h.inv.del_ p, fun q k' hq => by
    rw [look_del] at hq
    split at hq
    · cases hq
    · exact h.at_ q k' hq⟩

theorem used_ins {k : Lk} (j : Int) : lUsed j (ins p k ls) = if j = p then k.used else lUsed j ls := by
  unfold lUsed
  rw [look_ins]
  by_cases hj : j = p <;> simp [hj]

theorem owes_ins {k : Lk} (j : Int) : lOwes j (ins p k ls) = if j = p then k.wait != 0 else lOwes j ls := by
  unfold lOwes
  rw [look_ins]
  by_cases hj : j = p <;> simp [hj]

theorem used_of {k : Lk} (h : look p ls = some k) : lUsed p ls = k.used := by unfold lUsed; rw [h]
theorem owes_of {k : Lk} (h : look p ls = some k) : lOwes p ls = (k.wait != 0) := by unfold lOwes; rw [h]
theorem used_no (h : look p ls = none) : lUsed p ls = 0 := by unfold lUsed; rw [h]
theorem owes_no (h : look p ls = none) : lOwes p ls = false := by unfold lOwes; rw [h]

theorem kgrant (h : KInv ls) (hp : 0 ≤ p ∧ p < 6) (hx : lUsed p ls = 2 → x = true) : KInv (lGrant p x ls) ∧ (∀ j, lUsed j (lGrant p x ls) = lUsed j ls) ∧ ∀ j, lOwes j (lGrant p x ls) = lOwes j ls := by
  unfold lGrant
  cases e : look p ls with
  | some k =>
    have ho := lok_at h.inv e
    obtain ⟨_, _, h2⟩ := h.at_ p k e
    rw [used_of e] at hx
    refine ⟨h.ins_ hp ho hx h2, fun j => ?_, fun j => ?_⟩
    · show lUsed j (ins p _ ls) = _
      rw [used_ins]
      split
      · rename_i e'; rw [e', used_of e]
      · rfl
    · show lOwes j (ins p _ ls) = _
      rw [owes_ins]
      split
      · rename_i e'; rw [e', owes_of e]
      · rfl
  | none =>
    refine ⟨h.ins_ hp ⟨.inl rfl, .inl rfl⟩ (by simp) (by simp), fun j => ?_, fun j => ?_⟩
    · show lUsed j (ins p _ ls) = _
      rw [used_ins]
      split
      · rename_i e'; rw [e', used_no e]
      · rfl
    · show lOwes j (ins p _ ls) = _
      rw [owes_ins]
      split
      · rename_i e'; rw [e', owes_no e]; rfl
      · rfl

theorem kuse (h : KInv ls) (hp : 0 ≤ p ∧ p < 6) (x : Bool) : KInv (lUse p x ls).2 ∧ (∀ j, lOwes j (lUse p x ls).2 = lOwes j ls) ∧
    (((lUse p x ls).1 = 0 ∧ ∀ j, lUsed j (lUse p x ls).2 = if j = p then (if x then 2 else max (lUsed p ls) 1) else lUsed j ls) ∨ ((lUse p x ls).1 = 12 ∧ ∀ j, lUsed j (lUse p x ls).2 = lUsed j ls)) := by
  unfold lUse
  cases e : look p ls with
  | none => exact ⟨h, fun _ => rfl, .inr ⟨rfl, fun _ => rfl⟩⟩
  | some k =>
    have ho := lok_at h.inv e
    obtain ⟨_, h1, h2⟩ := h.at_ p k e
    dsimp only
    cases hc : (k.x || !x) with
    | false => exact ⟨h, fun _ => rfl, .inr ⟨rfl, fun _ => rfl⟩⟩
    | true =>
      rw [if_pos rfl]
      dsimp only
      refine ⟨h.ins_ hp ⟨?_, ho.2⟩ ?_ ?_, fun j => ?_, .inl ⟨rfl, fun j => ?_⟩⟩
      · have := ho.1
        cases x
        · show max k.used 1 = 0 ∨ max k.used 1 = 1 ∨ max k.used 1 = 2
          omega
        · exact .inr (.inr rfl)
      · cases x
        · intro h3
          change max k.used 1 = 2 at h3
          exact h1 (by omega)
        · intro _
          simpa using hc
      · intro h3
        have h4 := h2 h3
        cases x
        · show max k.used 1 ≠ 0
          omega
        · show (2 : Int) ≠ 0
          decide
      · rw [owes_ins]
        split
        · rename_i e'; rw [e', owes_of e]
        · rfl
      · rw [used_ins, used_of e]

theorem kcall (h : KInv ls) (hp : 0 ≤ p ∧ p < 6) (all : Bool) : KInv (lCall p all ls).2 ∧ (∀ j, lUsed j (lCall p all ls).2 = lUsed j ls) ∧ (∀ j, lOwes j (lCall p all ls).2 = if j = p then (lOwes p ls || (lCall p all ls).1 == 3) else lOwes j ls) ∧
    ((lCall p all ls).1 = 0 ∨ ((lCall p all ls).1 = 1 ∧ lUsed p ls = 0) ∨ ((lCall p all ls).1 = 2 ∧ lUsed p ls ≠ 2) ∨ ((lCall p all ls).1 = 3 ∧ lUsed p ls ≠ 0)) := by
  have hsame : ∀ j, lOwes j ls = if j = p then (lOwes p ls || false) else lOwes j ls := fun j => by
    split
    · rename_i e'; rw [e', Bool.or_false]
    · rfl
  unfold lCall
  cases e : look p ls with
  | none => exact ⟨h, fun _ => rfl, hsame, .inl rfl⟩
  | some k =>
    have ho := lok_at h.inv e
    obtain ⟨_, h1, h2⟩ := h.at_ p k e
    dsimp only
    by_cases c1 : (!all && !k.x) = true
    · rw [if_pos c1]
      exact ⟨h, fun _ => rfl, hsame, .inl rfl⟩
    · rw [if_neg c1]
      cases all with
      | true =>
        rw [if_pos rfl]
        by_cases c2 : 0 < k.used
        · rw [if_pos c2]
          refine ⟨h.ins_ hp ⟨ho.1, .inr (.inr rfl)⟩ h1 (fun _ => by show k.used ≠ 0; omega), fun j => ?_, fun j => ?_, .inr (.inr (.inr ⟨rfl, by rw [used_of e]; omega⟩))⟩
          · rw [used_ins]
            split
            · rename_i e'; rw [e', used_of e]
            · rfl
          · rw [owes_ins]
            split
            · simp
            · rfl
        · rw [if_neg c2]
          have hu : k.used = 0 := by have := ho.1; omega
          have hw : k.wait = 0 := by
            by_cases hw : k.wait = 0
            · exact hw
            · exact absurd hu (h2 hw)
          refine ⟨h.del_ p, fun j => ?_, fun j => ?_, .inr (.inl ⟨rfl, by rw [used_of e, hu]⟩)⟩
          · show lUsed j (del p ls) = _
            unfold lUsed
            rw [look_del]
            by_cases hj : j = p
            · rw [if_pos hj, hj, e]; exact hu.symm
            · rw [if_neg hj]
          · show lOwes j (del p ls) = _
            by_cases hj : j = p
            · rw [if_pos hj, owes_of e, hw]
              unfold lOwes
              rw [look_del, if_pos hj]
              rfl
            · rw [if_neg hj]
              unfold lOwes
              rw [look_del, if_neg hj]
      | false =>
        have hx : k.x = true := by simpa using c1
        rw [if_neg (by decide)]
        by_cases c2 : k.used = 2
        · rw [if_pos c2]
          refine ⟨h.ins_ hp ⟨ho.1, ?_⟩ h1 (fun _ => by show k.used ≠ 0; omega), fun j => ?_, fun j => ?_, .inr (.inr (.inr ⟨rfl, by rw [used_of e]; omega⟩))⟩
          · have := ho.2
            show max k.wait 1 = 0 ∨ max k.wait 1 = 1 ∨ max k.wait 1 = 2
            omega
          · rw [used_ins]
            split
            · rename_i e'; rw [e', used_of e]
            · rfl
          · rw [owes_ins]
            split
            · have : max k.wait 1 ≠ 0 := by omega
              simp [this]
            · rfl
        · rw [if_neg c2]
          refine ⟨h.ins_ hp ho (fun h3 => absurd h3 c2) h2, fun j => ?_, fun j => ?_, .inr (.inr (.inl ⟨rfl, by rw [used_of e]; exact c2⟩))⟩
          · rw [used_ins]
            split
            · rename_i e'; rw [e', used_of e]
            · rfl
          · rw [owes_ins]
            split
            · rw [owes_of e]; simp
            · rfl

/-- what is checked behind each call -/
theorem kcheck (h : KInv ls) (p : Int) : (lUsed p ls = 0 ∨ lUsed p ls = 1 ∨ lUsed p ls = 2) ∧ (0 < lUsed p ls → lHas p (lUsed p ls == 2) ls = true) := by
  cases e : look p ls with
  | none => rw [used_no e]; exact ⟨.inl rfl, by omega⟩
  | some k =>
    have ho := lok_at h.inv e
    obtain ⟨_, h1, _⟩ := h.at_ p k e
    rw [used_of e]
    refine ⟨ho.1, fun h3 => ?_⟩
    unfold lHas
    rw [e]
    dsimp only
    cases hc : (k.used == 2) with
    | false => simp
    | true => rw [h1 (by simpa using hc)]; rfl

theorem kout (h : KInv ls) (hp : 6 ≤ p) : lUsed p ls = 0 ∧ lOwes p ls = false := by
  cases e : look p ls with
  | none => exact ⟨used_no e, owes_no e⟩
  | some k => have := (h.at_ p k e).1; omega

theorem kout_n (h : KInv ls) (i : Nat) : (0 : Int) = if i < 6 then 0 else lUsed (i : Int) ls := by
  by_cases e : i < 6
  · rw [if_pos e]
  · rw [if_neg e]
    exact (kout h (by omega)).1.symm

theorem kout_b (h : KInv ls) (i : Nat) : false = if i < 6 then false else lOwes (i : Int) ls := by
  by_cases e : i < 6
  · rw [if_pos e]
  · rw [if_neg e]
    exact (kout h (by omega)).2.symm

/-! ### End -/
def b2 (b : Bool) : Nat := if b then 1 else 0
def cntTo (f : Nat → Bool) : Nat → Nat
  | 0 => 0
  | k + 1 => cntTo f k + b2 (f k)

theorem cntTo_le (f : Nat → Bool) (k : Nat) : cntTo f k ≤ k := by
  induction k with
  | zero => simp [cntTo]
  | succ k ih =>
    have : b2 (f k) ≤ 1 := by unfold b2; split <;> omega
    unfold cntTo
    omega

theorem cnt_outs (hs : Srt ls) (hk : ∀ q ∈ ls, 0 ≤ q.1 ∧ q.1 < 6) : (endOuts ls).length = cntTo (fun j => lOwes (j : Int) ls) 6 := by
  induction ls with
  | nil => rfl
  | cons q r ih =>
    obtain ⟨h1, h2⟩ := List.pairwise_cons.1 hs
    have h3 := ih h2 (fun p hp => hk p (by simp [hp]))
    have h4 := hk q (by simp)
    have h5 : lOwes q.1 r = false := by
      unfold lOwes
      cases e : look q.1 r with
      | none => rfl
      | some k => have := h1 _ (mem_of_look e); simp at this
    have h6 : (endOuts (q :: r)).length = b2 (q.2.wait != 0) + (endOuts r).length := by
      unfold endOuts
      rw [List.flatMap_cons, List.length_append]
      congr 1
      unfold outOf b2
      by_cases hw : q.2.wait = 0 <;> simp [hw]
    have h7 : ∀ j : Int, lOwes j (q :: r) = if q.1 = j then q.2.wait != 0 else lOwes j r := fun j => by
      unfold lOwes
      rw [show look j (q :: r) = if q.1 = j then some q.2 else look j r from rfl]
      by_cases hj : q.1 = j <;> simp [hj]
    rw [h6, h3]
    obtain ⟨a, k⟩ := q
    dsimp only at h4 h5 h7 ⊢
    have h8 : a = 0 ∨ a = 1 ∨ a = 2 ∨ a = 3 ∨ a = 4 ∨ a = 5 := by omega
    simp only [cntTo, h7]
    rcases h8 with rfl | rfl | rfl | rfl | rfl | rfl
    all_goals
      simp [h5, b2]
      try omega

theorem endRest_look (hs : Srt ls) (p : Int) : look p (endRest ls) = match look p ls with
    | some k => if k.wait = 2 then none else some ⟨k.x && k.wait == 0, 0, 0⟩
    | none => none := by
  induction ls with
  | nil => rfl
  | cons q r ih =>
    obtain ⟨h1, h2⟩ := List.pairwise_cons.1 hs
    have h3 := ih h2
    have he : endRest (q :: r) = restOf q ++ endRest r := by simp [endRest]
    have hno : ∀ j, j = q.1 → look j (endRest r) = none := fun j hj => by
      cases e : look j (endRest r) with
      | none => rfl
      | some k =>
        obtain ⟨s, hs, hs2⟩ := endRest_keys (mem_of_look e)
        have := h1 s hs
        dsimp only at hs2
        omega
    rw [he]
    unfold restOf
    by_cases hq : q.1 = p
    · have hl : look p (q :: r) = some q.2 := by unfold look; rw [if_pos hq]
      rw [hl]
      by_cases hw : q.2.wait = 2
      · rw [if_pos hw, List.nil_append, hno p hq.symm]
        simp [hw]
      · rw [if_neg hw]
        show look p ((q.1, _) :: endRest r) = _
        unfold look
        rw [if_pos hq]
        simp [hw]
    · have hl : look p (q :: r) = look p r := by conv => lhs; unfold look; rw [if_neg hq]
      rw [hl, ← h3]
      split
      · rfl
      · show look p ((q.1, _) :: endRest r) = _
        conv => lhs; unfold look; rw [if_neg hq]

theorem kend (h : KInv ls) : KInv (endRest ls) ∧ (∀ j, lUsed j (endRest ls) = 0) ∧ (∀ j, lOwes j (endRest ls) = false) ∧ (endOuts ls).length = cntTo (fun j => lOwes (j : Int) ls) 6 ∧
    ∀ q ∈ endOuts ls, in64 q.1 ∧ lHas q.1 true (endRest ls) = false ∧ lHas q.1 false (endRest ls) = q.2 := by
  have hs := h.inv.srt
  have hl := endRest_look hs
  refine ⟨⟨(endRest_inv h.inv).1, fun p k hk => ?_⟩, fun j => ?_, fun j => ?_, cnt_outs hs (fun q hq => (h.at_ q.1 q.2 (look_of_mem hs hq)).1), fun q hq => ?_⟩
  · rw [hl] at hk
    split at hk
    · rename_i k' hk'
      split at hk
      · cases hk
      · cases hk
        exact ⟨(h.at_ p k' hk').1, by simp, by simp⟩
    · cases hk
  · unfold lUsed
    rw [hl]
    split
    · rename_i k hk
      split at hk
      · split at hk
        · cases hk
        · cases hk; rfl
      · cases hk
    · rfl
  · unfold lOwes
    rw [hl]
    split
    · rename_i k hk
      split at hk
      · split at hk
        · cases hk
        · cases hk; rfl
      · cases hk
    · rfl
  · unfold endOuts at hq
    obtain ⟨r, hr, hq⟩ := List.mem_flatMap.1 hq
    unfold outOf at hq
    split at hq
    · cases hq
    · rename_i hw
      simp at hq
      subst hq
      have hlk := look_of_mem hs (k := r.1) (v := r.2) hr
      have ho := (lok_at h.inv hlk).2
      have hb : look r.1 (endRest ls) = if r.2.wait = 2 then none else some ⟨r.2.x && r.2.wait == 0, 0, 0⟩ := by rw [hl, hlk]
      refine ⟨in64_6 (h.at_ _ _ hlk).1, ?_, ?_⟩
      · unfold lHas
        rw [hb]
        rcases ho with e | e | e
        · exact absurd e hw
        · simp [e]
        · simp [e]
      · unfold lHas
        rw [hb]
        rcases ho with e | e | e
        · exact absurd e hw
        · simp [e]
        · simp [e]
end

/-! ### the arrays -/
theorem upd_lt {α : Type} (j i : Nat) (a : α) (h : Nat → α) : (if i < j + 1 then a else h i) = if i = j then a else if i < j then a else h i := by
  by_cases e : i = j
  · rw [if_pos e, if_pos (by omega)]
  · rw [if_neg e]
    by_cases e2 : i < j
    · rw [if_pos e2, if_pos (by omega)]
    · rw [if_neg e2, if_neg (by omega)]

def cN (f : Nat → Int) : List Value := (List.range 6).map fun i => .int .i64 (f i)
def cB (f : Nat → Bool) : List Value := (List.range 6).map fun i => .bool (f i)

theorem cN_get (f : Nat → Int) {p : Nat} (hp : p < 6) : (cN f)[p]? = some (.int .i64 (f p)) := by simp [cN, hp]
theorem cB_get (f : Nat → Bool) {p : Nat} (hp : p < 6) : (cB f)[p]? = some (.bool (f p)) := by simp [cB, hp]

theorem cN_set (f g : Nat → Int) {p : Nat} {v : Int} (hv : ∀ j, g j = if j = p then v else f j) : (cN f).set p (.int .i64 v) = cN g := by
  apply List.ext_getElem?
  intro i
  simp only [cN, List.getElem?_set, List.getElem?_map, List.length_map, List.length_range]
  by_cases h1 : i < 6
  · rw [List.getElem?_range h1]
    simp only [Option.map_some, hv i]
    by_cases h2 : p = i
    · subst h2; simp [h1]
    · rw [if_neg h2, if_neg (fun e => h2 e.symm)]
  · have : (List.range 6)[i]? = none := by simp; omega
    rw [this]
    by_cases h2 : p = i
    · subst h2; simp [h1]
    · rw [if_neg h2]; simp

theorem cB_set (f g : Nat → Bool) {p : Nat} {v : Bool} (hv : ∀ j, g j = if j = p then v else f j) : (cB f).set p (.bool v) = cB g := by
  apply List.ext_getElem?
  intro i
  simp only [cB, List.getElem?_set, List.getElem?_map, List.length_map, List.length_range]
  by_cases h1 : i < 6
  · rw [List.getElem?_range h1]
    simp only [Option.map_some, hv i]
    by_cases h2 : p = i
    · subst h2; simp [h1]
    · rw [if_neg h2, if_neg (fun e => h2 e.symm)]
  · have : (List.range 6)[i]? = none := by simp; omega
    rw [this]
    by_cases h2 : p = i
    · subst h2; simp [h1]
    · rw [if_neg h2]; simp

/-- The locks and the two arrays, behind w0. -/
structure EK (w0 : World) (lb mb nb ob : Nat) (ls : LS) (f : Nat → Int) (g : Nat → Bool) (w : World) : Prop where
  l : HasL w0 (fun b => b = nb ∨ b = ob) lb mb ls w
  n : Blk w nb 50 (cN f)
  o : Blk w ob 51 (cB g)
  lo : w0.heap.size ≤ nb ∧ w0.heap.size ≤ ob

section
variable {w0 w w' : World} {lb mb nb ob : Nat} {ls ls' : LS} {f f' : Nat → Int} {g g' : Nat → Bool}

theorem EK.step (h : EK w0 lb mb nb ob ls f g w) (hL : HasL w0 (fun b => b = nb ∨ b = ob) lb mb ls' w') (hF : Fr (KX w0 (fun b => b = nb ∨ b = ob)) w w') : EK w0 lb mb nb ob ls' f g w' :=
  ⟨hL, h.n.fr hF (fun e => e (.inr (.inl rfl))), h.o.fr hF (fun e => e (.inr (.inr rfl))), h.lo⟩

theorem EK.quiet (h : EK w0 lb mb nb ob ls f g w) (hF : Fr (fun _ => False) w w') : EK w0 lb mb nb ob ls f g w' :=
  ⟨h.l.far hF (fun _ e => e.elim), h.n.fr hF (fun e => e), h.o.fr hF (fun e => e), h.lo⟩

theorem EK.drewN (h : EK w0 lb mb nb ob ls f g w) (n : Nat) : EK w0 lb mb nb ob ls f g (w.drewN n) := h.quiet ⟨rfl, rfl, rfl, Nat.le_refl _, fun _ _ _ => rfl⟩

theorem EK.ne_ (h : EK w0 lb mb nb ob ls f g w) : nb ≠ ob := Blk.ne_ h.n h.o (by decide)

theorem EK.setN (h : EK w0 lb mb nb ob ls f g w) (p : Nat) (v : Int) (hv : ∀ j, f' j = if j = p then v else f j) : EK w0 lb mb nb ob ls f' g (w.setCell ⟨nb, p, none⟩ (.int .i64 v)) := by
  have hF := (Fr.refl (fun b => b = nb) w).setCell (p := ⟨nb, p, none⟩) (.inl rfl) (.int .i64 v)
  refine ⟨h.l.far hF (fun b e => ⟨.inl e, by rw [e]; exact h.lo.1⟩), ?_, h.o.fr hF (fun e => h.ne_ e.symm), h.lo⟩
  have := h.n.set_ p (.int .i64 v)
  rwa [cN_set f f' hv] at this

theorem EK.setB (h : EK w0 lb mb nb ob ls f g w) (p : Nat) (v : Bool) (hv : ∀ j, g' j = if j = p then v else g j) : EK w0 lb mb nb ob ls f g' (w.setCell ⟨ob, p, none⟩ (.bool v)) := by
  have hF := (Fr.refl (fun b => b = ob) w).setCell (p := ⟨ob, p, none⟩) (.inl rfl) (.bool v)
  refine ⟨h.l.far hF (fun b e => ⟨.inr e, by rw [e]; exact h.lo.2⟩), h.n.fr hF (fun e => h.ne_ e), ?_, h.lo⟩
  have := h.o.set_ p (.bool v)
  rwa [cB_set g g' hv] at this

theorem EK.cellN (h : EK w0 lb mb nb ob ls f g w) {p : Nat} (hp : p < 6) : w.cell? ⟨nb, p, none⟩ = some (.int .i64 (f p)) ∧ w.frozen? ⟨nb, p, none⟩ = false := ⟨(h.n.cell p).trans (cN_get f hp), h.n.frozen p⟩
theorem EK.cellB (h : EK w0 lb mb nb ob ls f g w) {p : Nat} (hp : p < 6) : w.cell? ⟨ob, p, none⟩ = some (.bool (g p)) ∧ w.frozen? ⟨ob, p, none⟩ = false := ⟨(h.o.cell p).trans (cB_get g hp), h.o.frozen p⟩
end

/-- The state that the law keeps: what is needed is what the locks say, what is owed too. -/
def EKS (w0 : World) (lb mb nb ob : Nat) (ls : LS) (w : World) : Prop := EK w0 lb mb nb ob ls (fun j => lUsed (j : Int) ls) (fun j => lOwes (j : Int) ls) w

theorem EK.congr {w0 w : World} {lb mb nb ob : Nat} {ls : LS} {f f' : Nat → Int} {g g' : Nat → Bool} (h : EK w0 lb mb nb ob ls f g w) (hf : ∀ j, f' j = f j) (hg : ∀ j, g' j = g j) : EK w0 lb mb nb ob ls f' g' w := by
  obtain rfl : f' = f := funext hf
  obtain rfl : g' = g := funext hg
  exact h

theorem End_nil (w : World) : Calls Try.prog 12 #[.pointer none] w fun e w' => e = .returned (.slice none 0 0) ∧ w = w' := by
  go_enter Try.func12, Try.ntmps12
  go_wp2_with (go_at_call 23; refine (Pages_nil _).mono ?_; rintro e w' ⟨rfl, rfl⟩)
  go_loopg [3, 10] 0 (fun g v i wr => g = 0 ∧ v = .slice none 0 0 ∧ i = .int .i64 0 ∧ w = wr)
  case atStart => exact ⟨rfl, rfl, rfl, rfl⟩
  case round =>
    obtain ⟨rfl, rfl, rfl, rfl⟩ := hrel
    go_wp2_with fail
    go_ret
    exact ⟨rfl, rfl⟩

end Go.Proofs.Ytfgkhlbmmffajaa
