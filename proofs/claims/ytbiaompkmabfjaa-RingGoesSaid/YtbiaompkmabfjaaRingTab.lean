/- The ring: plain laws on rings that are filled with the keys 0, 1, .. -/
import Derived.Test.YtbiaompkmabfjaaRingAwake
import Derived.Test.YtbiaompkmabfjaaRingIP
namespace Go.Proofs.Ytbiaompkmabfjaa
open Go.Maps Go.RowKit

section
variable {V : Type}

/-- frames by their numbers -/
def tab (F : Nat) (g : Nat → Option (Fm V)) : List (Option (Fm V)) := (List.range F).map g

theorem tab_len (F : Nat) (g : Nat → Option (Fm V)) : (tab F g).length = F := by simp [tab]
theorem tab_get {F : Nat} {g : Nat → Option (Fm V)} {j : Nat} (h : j < F) : (tab F g)[j]? = some (g j) := by simp [tab, h]
theorem tab_ext {F : Nat} {g : Nat → Option (Fm V)} {l : List (Option (Fm V))} (hl : l.length = F) (h : ∀ j, j < F → l[j]? = some (g j)) : l = tab F g := by
  refine List.ext_getElem? fun j => ?_
  by_cases hj : j < F
  · rw [h j hj, tab_get hj]
  · rw [List.getElem?_eq_none (by omega), List.getElem?_eq_none (by rw [tab_len]; omega)]
theorem tab_set {F : Nat} {g : Nat → Option (Fm V)} {i : Nat} {x : Option (Fm V)} : (tab F g).set i x = tab F (fun j => if j = i then x else g j) := by
  refine tab_ext (by rw [List.length_set, tab_len]) fun j hj => ?_
  rw [List.getElem?_set]
  by_cases h : i = j
  · subst h; rw [if_pos rfl, if_pos (by rw [tab_len]; exact hj)]; simp
  · rw [if_neg h, tab_get hj, if_neg (Ne.symm h)]
theorem tab_congr {F : Nat} {g g' : Nat → Option (Fm V)} (h : ∀ j, j < F → g j = g' j) : tab F g = tab F g' :=
  tab_ext (tab_len _ _) fun j hj => by rw [tab_get hj, h j hj]
theorem tab_mem {F : Nat} {g : Nat → Option (Fm V)} {i : Nat} {f : Fm V} (h : (tab F g)[i]? = some (some f)) : i < F ∧ g i = some f := by
  have hi : i < F := by have := (List.getElem?_eq_some_iff.1 h).1; rwa [tab_len] at this
  rw [tab_get hi] at h
  exact ⟨hi, Option.some.inj h⟩

theorem tab_uniq {F : Nat} {g : Nat → Option (Fm V)} (h : ∀ i j x y, i < F → j < F → g i = some x → g j = some y → x.key = y.key → i = j) : Uniq (tab F g) := by
  intro i j x y hi hj e
  obtain ⟨h1, h2⟩ := tab_mem hi
  obtain ⟨h3, h4⟩ := tab_mem hj
  exact h i j x y h1 h3 h2 h4 e

theorem tab_idx {F : Nat} {g : Nat → Option (Fm V)} (hu : Uniq (tab F g)) {i : Nat} {f : Fm V} (hi : i < F) (hf : g i = some f) : rIdx f.key (tab F g) = some i :=
  rIdx_of hu (by rw [tab_get hi, hf]) rfl

theorem tab_idx_none {F : Nat} {g : Nat → Option (Fm V)} {k : Int} (h : ∀ i f, i < F → g i = some f → f.key ≠ k) : rIdx k (tab F g) = none := by
  cases e : rIdx k (tab F g) with
  | none => rfl
  | some i =>
    obtain ⟨f, hf, hk⟩ := rIdx_some e
    obtain ⟨h1, h2⟩ := tab_mem hf
    exact absurd hk (h i f h1 h2)

theorem tab_vac_none {F : Nat} {g : Nat → Option (Fm V)} (h : ∀ i, i < F → ∃ f, g i = some f) : rVac (tab F g) = none :=
  rVac_full fun j hj => by
    rw [tab_len] at hj
    obtain ⟨f, hf⟩ := h j hj
    exact ⟨f, by rw [tab_get hj, hf]⟩

theorem tab_cnt {F : Nat} {g : Nat → Option (Fm V)} (h : ∀ i, i < F → ∃ f, g i = some f) : rCnt (tab F g) = F := by
  rw [rCnt_full (tab_vac_none h), tab_len]
end

/-- the thing of number j -/
def nth (j : Nat) (fresh : Bool) : Fm Int := ⟨(j : Int), (j : Int), 0, fresh⟩

/-- so many frames of which the first c are filled -/
def fill (F c : Nat) : RS Int := ⟨tab F (fun j => if j < c then some (nth j true) else none), 0⟩

theorem fill_zero (F : Nat) : fill F 0 = ⟨List.replicate F none, 0⟩ := by
  unfold fill
  congr 1
  refine (tab_ext (by simp) fun j hj => ?_).symm
  rw [List.getElem?_replicate, if_pos hj, if_neg (by omega)]

theorem fill_uniq (F c : Nat) : Uniq (fill F c).fs := by
  refine tab_uniq fun i j x y hi hj hx hy e => ?_
  split at hx
  · split at hy
    · cases hx; cases hy
      simp only [nth] at e
      omega
    · cases hy
  · cases hx

theorem fill_put {F c : Nat} (h : c < F) : rPut (c : Int) (c : Int) (fill F c) = (none, true, fill F (c + 1)) := by
  unfold rPut
  have h1 : rIdx (c : Int) (fill F c).fs = none := tab_idx_none fun i f hi hf => by
    split at hf
    · cases hf; simp only [nth]; omega
    · cases hf
  have h2 : rVac (fill F c).fs = some c := rVac_at (by unfold fill; rw [tab_get h, if_neg (by omega)]) fun j hj => ⟨nth j true, by unfold fill; rw [tab_get (by omega), if_pos hj]⟩
  rw [h1]
  simp only [h2]
  unfold fill
  simp only [Prod.mk.injEq, true_and]
  rw [tab_set]
  congr 1
  refine tab_congr fun j hj => ?_
  by_cases e : j = c
  · subst e; rw [if_pos rfl, if_pos (by omega)]; rfl
  · rw [if_neg e]
    by_cases e2 : j < c
    · rw [if_pos e2, if_pos (by omega)]
    · rw [if_neg e2, if_neg (by omega)]

/-- all are there; the first c are not fresh any more -/
def gone (F c : Nat) : RS Int := ⟨tab F (fun j => some (nth j (decide (c ≤ j)))), c % F⟩

theorem gone_step {F c : Nat} (h : c < F) : rStep (gone F c) = gone F (c + 1) := by
  have hc : c % F = c := Nat.mod_eq_of_lt h
  have hf : (gone F c).fs[(gone F c).hand]? = some (some (nth c true)) := by
    show (tab F _)[c % F]? = _
    rw [hc, tab_get h]; simp
  rw [rStep_eq hf]
  unfold gone
  simp only [hc, tab_len]
  rw [tab_set]
  congr 1
  refine tab_congr fun j hj => ?_
  by_cases e : j = c
  · subst e; rw [if_pos rfl]; simp [nth]
  · rw [if_neg e]
    have : decide (c ≤ j) = decide (c + 1 ≤ j) := by rw [decide_eq_decide]; omega
    rw [this]

theorem gone_can {F c : Nat} (h : c < F) : rCan ((gone F c).fs[(gone F c).hand]?.join) = false := by
  show rCan ((tab F _)[c % F]?.join) = _
  rw [Nat.mod_eq_of_lt h, tab_get h]
  simp [rCan, nth]

theorem gone_seek {F : Nat} (hF : 0 < F) (m : Nat) : ∀ c, c ≤ F → F - c < m → rSeek m (gone F c) = some (gone F F) := by
  induction m with
  | zero => intro c _ h; omega
  | succ m ih =>
    intro c hc hm
    unfold rSeek
    by_cases e : c = F
    · subst e
      rw [if_pos]
      show rCan ((tab c _)[c % c]?.join) = true
      rw [Nat.mod_self, tab_get hF]
      simp [rCan, nth]; omega
    · rw [if_neg (by rw [gone_can (by omega)]; simp), gone_step (by omega)]
      exact ih (c + 1) (by omega) (by omega)

theorem gone_zero (F : Nat) : fill F F = gone F 0 := by
  unfold fill gone
  simp only [Nat.zero_mod, Nat.zero_le, decide_true]
  congr 1
  exact tab_congr fun j hj => by rw [if_pos hj]

/-- behind the first that left -/
def second (F : Nat) : RS Int := ⟨tab F (fun j => if j = 0 then some (nth F true) else some (nth j false)), 1 % F⟩

theorem tab_loose {F : Nat} {g : Nat → Option (Fm Int)} {i : Nat} {f : Fm Int} (hi : i < F) (hg : g i = some f) (hp : f.pins = 0) : rPinned (tab F g) = false :=
  rPinned_zero (i := i) (f := f) (by rw [tab_get hi, hg]) hp

theorem fill_leave {F : Nat} (hF : 0 < F) : rPut (F : Int) (F : Int) (fill F F) = (some (nth 0 false), true, second F) := by
  unfold rPut
  have h1 : rIdx (F : Int) (fill F F).fs = none := tab_idx_none fun i f hi hf => by
    rw [if_pos hi] at hf
    cases hf; simp only [nth]; omega
  have h2 : rVac (fill F F).fs = none := tab_vac_none fun i hi => ⟨nth i true, by rw [if_pos hi]⟩
  have h3 : rPinned (fill F F).fs = false := tab_loose (i := 0) (f := nth 0 true) hF (by rw [if_pos hF]) rfl
  have h4 : (fill F F).fs.length = F := tab_len _ _
  have h5 := gone_seek hF (2 * F + 1) 0 (by omega) (by omega)
  rw [← gone_zero] at h5
  rw [h1]
  simp only [h2, h3, h4, h5]
  have h6 : (gone F F).fs[(gone F F).hand]? = some (some (nth 0 false)) := by
    show (tab F _)[F % F]? = _
    rw [Nat.mod_self, tab_get hF, show decide (F ≤ 0) = false by simp; omega]
  simp only [h6, Option.join_some, Bool.false_eq_true, if_false]
  unfold second gone
  simp only [Nat.mod_self, tab_len, Prod.mk.injEq, true_and]
  rw [tab_set]
  congr 1
  refine tab_congr fun j hj => ?_
  by_cases e : j = 0
  · rw [if_pos e, if_pos e]; rfl
  · rw [if_neg e, if_neg e]
    have : decide (F ≤ j) = false := by simp; omega
    rw [this]

theorem second_uniq (F : Nat) : Uniq (second F).fs := by
  refine tab_uniq fun i j x y hi hj hx hy e => ?_
  split at hx <;> split at hy <;> cases hx <;> cases hy <;> simp only [nth] at e <;> omega

theorem second_idx {F k : Nat} (h0 : 0 < k) (hk : k < F) : rIdx (k : Int) (second F).fs = some k ∧ (second F).fs[k]? = some (some (nth k false)) := by
  have h1 : (second F).fs[k]? = some (some (nth k false)) := by
    unfold second; rw [tab_get hk, if_neg (by omega)]
  exact ⟨rIdx_of (second_uniq F) h1 rfl, h1⟩

/-- .. and one of them was asked for -/
def asked (F k : Nat) : RS Int := ⟨(second F).fs.set k (some { nth k false with fresh := true }), (second F).hand⟩

theorem asked_tab {F k : Nat} : (asked F k).fs = tab F (fun j => if j = k then some (nth k true) else if j = 0 then some (nth F true) else some (nth j false)) := by
  unfold asked second
  rw [tab_set]; rfl

/-- what leaves next isn't the thing that was asked for -/
theorem asked_put {F k : Nat} (hF : 3 ≤ F) (hF2 : F ≤ 62) (hk : k < F) (hI : RInv (asked F k) 0) :
    ∃ o st' i f, rPut 1000 0 (asked F k) = (some o, true, st') ∧ o.key ≠ (k : Int) ∧ rIdx (k : Int) st'.fs = some i ∧ st'.fs[i]? = some (some f) := by
  have h1 : rIdx 1000 (asked F k).fs = none := by
    rw [asked_tab]
    refine tab_idx_none fun i f hi hf => ?_
    split at hf
    · cases hf; simp only [nth]; omega
    · split at hf <;> cases hf <;> simp only [nth] <;> omega
  have h2 : rVac (asked F k).fs = none := by
    rw [asked_tab]
    refine tab_vac_none fun i hi => ?_
    split
    · exact ⟨_, rfl⟩
    · split <;> exact ⟨_, rfl⟩
  have h3 : rPinned (asked F k).fs = false := by
    rw [asked_tab]
    exact tab_loose (i := k) (f := nth k true) hk (by rw [if_pos rfl]) rfl
  obtain ⟨e, he⟩ := rSeek_ok hI (full_of_vac h2) h3
  obtain ⟨hIE, hfE, hal, hcan, hidx, _⟩ := rSeek_some he hI (full_of_vac h2)
  obtain ⟨f, hf⟩ := hfE _ hIE.hand
  have hlen : (asked F k).fs.length = F := by rw [asked_tab, tab_len]
  have hhand : (asked F k).hand = 1 := by
    show 1 % F = 1
    exact Nat.mod_eq_of_lt (by omega)
  -- what leaves
  have hfk : f.key ≠ (k : Int) := by
    have hk1 : (asked F k).fs[1]? = some (some (if 1 = k then nth k true else nth 1 false)) := by
      rw [asked_tab, tab_get (by omega)]
      split
      · rfl
      · rfl
    rw [show 2 * (asked F k).fs.length + 1 = (2 * (asked F k).fs.length) + 1 from rfl, rSeek] at he
    by_cases e1 : 1 = k
    · rw [if_pos e1] at hk1
      rw [if_neg (by rw [hhand, hk1]; simp [rCan, nth])] at he
      rw [hlen, show 2 * F = (2 * F - 1) + 1 by omega, rSeek] at he
      have hst : rStep (asked F k) = ⟨(asked F k).fs.set 1 (some { nth k true with fresh := (nth k true).fresh && decide (0 < (nth k true).pins) }), 2 % F⟩ := by
        rw [rStep_eq (f := nth k true) (by rw [hhand, hk1]), hhand, hlen]
      have h2' : (rStep (asked F k)).fs[(rStep (asked F k)).hand]? = some (some (nth 2 false)) := by
        rw [hst]
        show ((asked F k).fs.set 1 _)[2 % F]? = _
        rw [Nat.mod_eq_of_lt (by omega), List.getElem?_set, if_neg (by omega), asked_tab, tab_get (by omega), if_neg (by omega), if_neg (by omega)]
      rw [if_pos (by rw [h2']; simp [rCan, nth])] at he
      cases he
      rw [h2'] at hf
      cases hf
      simp only [nth]; omega
    · rw [if_neg e1] at hk1
      rw [if_pos (by rw [hhand, hk1]; simp [rCan, nth])] at he
      cases he
      rw [hhand, hk1] at hf
      cases hf
      simp only [nth]; omega
  have hput : rPut 1000 0 (asked F k) = (some f, true, ⟨e.fs.set e.hand (some ⟨1000, 0, 0, true⟩), (e.hand + 1) % e.fs.length⟩) := by
    unfold rPut
    rw [h1]
    simp only [h2, h3, he, hf, Option.join_some, Bool.false_eq_true, if_false]
  -- the thing is there still
  have hka : (asked F k).fs[k]? = some (some (nth k true)) := by rw [asked_tab, tab_get hk, if_pos rfl]
  obtain ⟨f', hf', hk', _, _, _⟩ := hal.2 k _ hka
  have hne : e.hand ≠ k := by
    intro e1
    rw [e1] at hf
    rw [hf] at hf'
    cases hf'
    exact hfk hk'
  have hn : ∀ (j : Nat) (x : Fm Int), j ≠ e.hand → e.fs[j]? = some (some x) → x.key ≠ (⟨1000, 0, 0, true⟩ : Fm Int).key := fun j x _ hx => rIdx_none (by rw [hidx]; exact h1) j x hx
  have hfin : (e.fs.set e.hand (some ⟨1000, 0, 0, true⟩))[k]? = some (some f') := by rw [List.getElem?_set, if_neg hne]; exact hf'
  exact ⟨f, _, k, f', hput, hfk, rIdx_of (uniq_put hIE.uniq hIE.hand hn) hfin hk', hfin⟩

end Go.Proofs.Ytbiaompkmabfjaa
