/- The ring: what its methods do to what is at hand by its key. -/
import Derived.Test.YtbiaompkmabfjaaRingH
namespace Go.Proofs.Ytbiaompkmabfjaa
open Go.Maps Go.RowKit

section
variable {V : Type}

/-- a key's value and pins -/
def rLook (k : Int) (st : RS V) : Option (V × Int) := (rAt k st).map fun p => (p.2.val, p.2.pins)

theorem rl_iff {k : Int} {st : RS V} (hu : Uniq st.fs) {p : V × Int} : rLook k st = some p ↔ ∃ (i : Nat) (f : Fm V), st.fs[i]? = some (some f) ∧ f.key = k ∧ (f.val, f.pins) = p := by
  unfold rLook
  rw [Option.map_eq_some_iff]
  constructor
  · rintro ⟨⟨i, f⟩, h, e⟩
    exact ⟨i, f, (rAt_some.1 h).2, rAt_key h, e⟩
  · rintro ⟨i, f, h, hk, e⟩
    exact ⟨(i, f), rAt_some.2 ⟨rIdx_of hu h hk, h⟩, e⟩

theorem rl_none {k : Int} {st : RS V} : rLook k st = none ↔ rIdx k st.fs = none := by
  unfold rLook
  rw [Option.map_eq_none_iff, rAt_none]

theorem rl_at {k : Int} {st : RS V} {i : Nat} {f : Fm V} (h : rAt k st = some (i, f)) : rLook k st = some (f.val, f.pins) := by
  unfold rLook; rw [h]; rfl

/-- the hand plays no part -/
theorem rl_hand {k : Int} {l : List (Option (Fm V))} {a b : Nat} : rLook k (⟨l, a⟩ : RS V) = rLook k ⟨l, b⟩ := rfl

theorem rl_up {l : List (Option (Fm V))} (hu : Uniq l) {i hd hd' : Nat} {f g : Fm V} (h : l[i]? = some (some f)) (hk : g.key = f.key) (k : Int) :
    rLook k (⟨l.set i (some g), hd⟩ : RS V) = if k = f.key then some (g.val, g.pins) else rLook k ⟨l, hd'⟩ := by
  have hu' := uniq_set_some hu h hk
  have hlt := (List.getElem?_eq_some_iff.1 h).1
  split
  · rename_i e
    exact (rl_iff hu').2 ⟨i, g, by simp [hlt], by rw [hk, e], rfl⟩
  · rename_i e
    refine Option.ext fun p => ?_
    rw [rl_iff hu', rl_iff (st := ⟨l, hd'⟩) hu]
    constructor
    · rintro ⟨j, x, hx, hxk, hp⟩
      simp only [List.getElem?_set] at hx
      split at hx
      · cases hx; exact absurd (hxk.symm.trans hk) e
      · exact ⟨j, x, hx, hxk, hp⟩
    · rintro ⟨j, x, hx, hxk, hp⟩
      have hij : i ≠ j := by rintro rfl; simp only at hx; rw [h] at hx; cases hx; exact e hxk.symm
      exact ⟨j, x, by simp only [List.getElem?_set, if_neg hij]; exact hx, hxk, hp⟩

theorem rl_del {l : List (Option (Fm V))} (hu : Uniq l) {i hd hd' : Nat} {f : Fm V} (h : l[i]? = some (some f)) (k : Int) :
    rLook k (⟨l.set i none, hd⟩ : RS V) = if k = f.key then none else rLook k ⟨l, hd'⟩ := by
  have hu' := uniq_none hu i
  split
  · rename_i e
    rw [rl_none, rIdx_del hu h, if_pos e]
  · rename_i e
    refine Option.ext fun p => ?_
    rw [rl_iff hu', rl_iff (st := ⟨l, hd'⟩) hu]
    constructor
    · rintro ⟨j, x, hx, hxk, hp⟩
      simp only [List.getElem?_set] at hx
      split at hx
      · split at hx <;> cases hx
      · exact ⟨j, x, hx, hxk, hp⟩
    · rintro ⟨j, x, hx, hxk, hp⟩
      have hij : i ≠ j := by rintro rfl; simp only at hx; rw [h] at hx; cases hx; exact e hxk.symm
      exact ⟨j, x, by simp only [List.getElem?_set, if_neg hij]; exact hx, hxk, hp⟩

/-- a new key comes to frame i -/
theorem rl_put {l : List (Option (Fm V))} (hu : Uniq l) {i hd hd' : Nat} (hlt : i < l.length) {g : Fm V} (hn : ∀ (j : Nat) (f : Fm V), j ≠ i → l[j]? = some (some f) → f.key ≠ g.key) (k : Int) :
    rLook k (⟨l.set i (some g), hd⟩ : RS V) = if k = g.key then some (g.val, g.pins) else rLook k ⟨l.set i none, hd'⟩ := by
  have hu' := uniq_put hu hlt hn
  have hu0 := uniq_none hu i
  split
  · rename_i e
    exact (rl_iff hu').2 ⟨i, g, by simp [hlt], e.symm, rfl⟩
  · rename_i e
    refine Option.ext fun p => ?_
    rw [rl_iff hu', rl_iff (st := ⟨l.set i none, hd'⟩) hu0]
    constructor
    · rintro ⟨j, x, hx, hxk, hp⟩
      simp only [List.getElem?_set] at hx
      split at hx
      · cases hx; exact absurd hxk.symm e
      · rename_i hij
        exact ⟨j, x, by simp only [List.getElem?_set, if_neg hij]; exact hx, hxk, hp⟩
    · rintro ⟨j, x, hx, hxk, hp⟩
      simp only [List.getElem?_set] at hx
      split at hx
      · cases hx
      · rename_i hij
        exact ⟨j, x, by simp only [List.getElem?_set, if_neg hij]; exact hx, hxk, hp⟩

theorem alike_look {a b : RS V} (hb : Uniq b.fs) (h : Alike a.fs b.fs) (k : Int) (hk : rIdx k b.fs = rIdx k a.fs) : rLook k b = rLook k a := by
  cases e : rAt k a with
  | none => rw [rl_none.2 (rAt_none.1 e), rl_none, hk, rAt_none.1 e]
  | some x =>
    obtain ⟨i, f⟩ := x
    rw [rl_at e]
    obtain ⟨f', h1, h2, h3, h4, _⟩ := h.2 i f (rAt_some.1 e).2
    exact (rl_iff hb).2 ⟨i, f', h1, by rw [h2, rAt_key e], by rw [h3, h4]⟩

theorem vac_of_cnt {l : List (Option (Fm V))} (h : rCnt l < l.length) : ∃ i, rVac l = some i := by
  cases e : rVac l with
  | none => have := rCnt_full e; omega
  | some i => exact ⟨i, rfl⟩

theorem cnt_of_vac {l : List (Option (Fm V))} {i : Nat} (h : rVac l = some i) : rCnt l < l.length := by
  have h1 := rVac_some h
  have h2 : rCnt (l.set i none) = rCnt l := by rw [rIdx_vac h1]
  have hlt := (List.getElem?_eq_some_iff.1 h1).1
  induction l generalizing i with
  | nil => simp at h1
  | cons o r ih =>
    cases o with
    | none => have := rCnt_le r; simp [rCnt]; omega
    | some f =>
      simp only [rVac, Option.map_eq_some_iff] at h
      obtain ⟨j, hj, rfl⟩ := h
      have := ih hj (by simpa using h1) (by rw [rIdx_vac (by simpa using h1)]) (by simpa using hlt)
      simp only [rCnt, List.length_cons]; omega

/-- What Put does to what is at hand. -/
inductive PutLaw (k : Int) (v : V) (st : RS V) : Option (Fm V) → Bool → RS V → Prop
  | have_ (p : V × Int) (st' : RS V) (h : rLook k st = some p) (hl : ∀ k', rLook k' st' = if k' = k then some (v, p.2) else rLook k' st) (hc : rCnt st'.fs = rCnt st.fs) : PutLaw k v st none true st'
  | vacant (st' : RS V) (h : rLook k st = none) (hl : ∀ k', rLook k' st' = if k' = k then some (v, 0) else rLook k' st) (hlt : rCnt st.fs < st.fs.length) (hc : rCnt st'.fs = rCnt st.fs + 1) : PutLaw k v st none true st'
  | full (h : rLook k st = none) (hlt : rCnt st.fs = st.fs.length) (hp : ∀ k' p, rLook k' st = some p → p.2 ≠ 0) : PutLaw k v st none false st
  | leave (f : Fm V) (st' : RS V) (h : rLook k st = none) (hf : rLook f.key st = some (f.val, 0)) (hl : ∀ k', rLook k' st' = if k' = k then some (v, 0) else if k' = f.key then none else rLook k' st) (hlt : rCnt st.fs = st.fs.length) (hc : rCnt st'.fs = rCnt st.fs) : PutLaw k v st (some f) true st'

theorem put_law {st : RS V} {top : Int} (hI : RInv st top) (k : Int) (v : V) : PutLaw k v st (rPut k v st).1 (rPut k v st).2.1 (rPut k v st).2.2 ∧ (rPut k v st).2.2.fs.length = st.fs.length := by
  unfold rPut
  cases hi : rIdx k st.fs with
  | some i =>
    obtain ⟨f, hf, hfk⟩ := rIdx_some hi
    simp only [hf, Option.join_some]
    refine ⟨.have_ (f.val, f.pins) _ (rl_at (rAt_some.2 ⟨hi, hf⟩)) (fun k' => ?_) (rCnt_set_some hf), by simp⟩
    rw [rl_up hI.uniq hf (g := { f with val := v, fresh := true }) (hd' := st.hand) rfl, hfk]
  | none =>
    have hno : rLook k st = none := rl_none.2 hi
    cases hv : rVac st.fs with
    | some i =>
      have h1 := rVac_some hv
      have hlt := (List.getElem?_eq_some_iff.1 h1).1
      refine ⟨.vacant _ hno (fun k' => ?_) (cnt_of_vac hv) (rCnt_put h1), by simp⟩
      simp only
      rw [rl_put hI.uniq hlt (g := ⟨k, v, 0, true⟩) (hd' := st.hand) (fun j f _ hf => rIdx_none hi j f hf), rIdx_vac h1]
    | none =>
      have hfull := rCnt_full hv
      cases hp : rPinned st.fs with
      | true =>
        simp only [if_true]
        refine ⟨.full hno hfull (fun k' p h => ?_), trivial⟩
        obtain ⟨i, f, hf, _, rfl⟩ := (rl_iff hI.uniq).1 h
        exact rPinned_iff hp hf
      | false =>
        obtain ⟨stE, hs⟩ := rSeek_ok hI (full_of_vac hv) hp
        obtain ⟨hIE, hfE, hal, hcan, hidx, hcnt⟩ := rSeek_some hs hI (full_of_vac hv)
        obtain ⟨f, hf⟩ := hfE _ hIE.hand
        simp only [hs, hf, Option.join_some, Bool.false_eq_true, if_false]
        have hlE : ∀ k', rLook k' stE = rLook k' st := fun k' => alike_look hIE.uniq hal k' (hidx k')
        have hfp : f.pins = 0 := by
          rw [hf] at hcan
          simp only [Option.join_some, rCan, Bool.and_eq_true, beq_iff_eq] at hcan
          exact hcan.1
        have hlf : rLook f.key stE = some (f.val, 0) := (rl_iff hIE.uniq).2 ⟨_, f, hf, rfl, by rw [hfp]⟩
        have hnE : ∀ (j : Nat) (x : Fm V), j ≠ stE.hand → stE.fs[j]? = some (some x) → x.key ≠ k := fun j x _ hx => rIdx_none (by rw [hidx]; exact hi) j x hx
        refine ⟨.leave f _ hno (by rw [← hlE]; exact hlf) (fun k' => ?_) hfull ?_, by simp [hal.1]⟩
        · rw [rl_put hIE.uniq hIE.hand (g := ⟨k, v, 0, true⟩) (hd' := stE.hand) hnE, rl_del hIE.uniq hf (hd' := stE.hand), hlE]
        · simp only
          rw [rCnt_set_some hf, hcnt]

theorem get_law {st : RS V} {top : Int} (hI : RInv st top) (k : Int) : (rGet k st).1 = (rLook k st).map (·.1) ∧ (∀ k', rLook k' (rGet k st).2 = rLook k' st) ∧ rCnt (rGet k st).2.fs = rCnt st.fs ∧ (rGet k st).2.fs.length = st.fs.length := by
  unfold rGet
  cases e : rAt k st with
  | none => exact ⟨by rw [rl_none.2 (rAt_none.1 e)]; rfl, fun _ => rfl, rfl, rfl⟩
  | some x =>
    obtain ⟨i, f⟩ := x
    have hf := (rAt_some.1 e).2
    refine ⟨by rw [rl_at e]; rfl, fun k' => ?_, rCnt_set_some hf, by simp [RS.up]⟩
    simp only [RS.up]
    rw [rl_up hI.uniq hf (g := { f with fresh := true }) (hd' := st.hand) rfl]
    split
    · rename_i e1; rw [e1, rAt_key e, rl_at e]
    · rfl

theorem del_law {st : RS V} {top : Int} (hI : RInv st top) (k : Int) : (rDel k st).1 = (rLook k st).map (·.1) ∧ (∀ k', rLook k' (rDel k st).2 = if k' = k then none else rLook k' st) ∧ rCnt (rDel k st).2.fs = rCnt st.fs - (if (rLook k st).isSome then 1 else 0) ∧ (rDel k st).2.fs.length = st.fs.length := by
  unfold rDel
  cases e : rAt k st with
  | none =>
    have h := rl_none.2 (rAt_none.1 e)
    refine ⟨by rw [h]; rfl, fun k' => ?_, by rw [h]; rfl, rfl⟩
    show rLook k' st = _
    split
    · rename_i e1; rw [e1]; exact h
    · rfl
  | some x =>
    obtain ⟨i, f⟩ := x
    have hf := (rAt_some.1 e).2
    refine ⟨by rw [rl_at e]; rfl, fun k' => ?_, ?_, by simp [RS.up]⟩
    · simp only [RS.up]
      rw [rl_del hI.uniq hf (hd' := st.hand), rAt_key e]
    · rw [rl_at e]
      have := rCnt_del hf
      simp only [RS.up, Option.isSome_some, if_true]
      omega

theorem pin_law {st : RS V} {top : Int} (hI : RInv st top) (k : Int) : (rPin k st).1 = (rLook k st).isSome ∧ (∀ k', rLook k' (rPin k st).2 = if k' = k then (rLook k st).map (fun p => (p.1, p.2 + 1)) else rLook k' st) ∧ rCnt (rPin k st).2.fs = rCnt st.fs ∧ (rPin k st).2.fs.length = st.fs.length := by
  unfold rPin
  cases e : rAt k st with
  | none =>
    have h := rl_none.2 (rAt_none.1 e)
    refine ⟨by rw [h]; rfl, fun k' => ?_, rfl, rfl⟩
    show rLook k' st = _
    split
    · rename_i e1; rw [e1, h]; rfl
    · rfl
  | some x =>
    obtain ⟨i, f⟩ := x
    have hf := (rAt_some.1 e).2
    refine ⟨by rw [rl_at e]; rfl, fun k' => ?_, rCnt_set_some hf, by simp [RS.up]⟩
    simp only [RS.up]
    rw [rl_up hI.uniq hf (g := { f with pins := f.pins + 1 }) (hd' := st.hand) rfl, rAt_key e, rl_at e]
    rfl

theorem let_law {st : RS V} {top : Int} (hI : RInv st top) (k : Int) :
    ((rLet k st).1 = match rLook k st with | some p => decide (0 < p.2) | none => false) ∧
    (∀ k', rLook k' (rLet k st).2 = if k' = k ∧ (rLet k st).1 = true then (rLook k st).map (fun p => (p.1, p.2 - 1)) else rLook k' st) ∧ rCnt (rLet k st).2.fs = rCnt st.fs ∧ (rLet k st).2.fs.length = st.fs.length := by
  unfold rLet
  cases e : rAt k st with
  | none =>
    have h := rl_none.2 (rAt_none.1 e)
    exact ⟨by rw [h], fun k' => by rw [if_neg (by simp)], rfl, rfl⟩
  | some x =>
    obtain ⟨i, f⟩ := x
    have hf := (rAt_some.1 e).2
    have hp := hI.pins i f hf
    by_cases hz : f.pins = 0
    · simp only [if_pos hz]
      exact ⟨by rw [rl_at e]; simp [hz], fun k' => by rw [if_neg (by simp)], trivial, trivial⟩
    · simp only [if_neg hz]
      refine ⟨by rw [rl_at e]; simp; omega, fun k' => ?_, rCnt_set_some hf, by simp [RS.up]⟩
      simp only [RS.up]
      rw [rl_up hI.uniq hf (g := { f with pins := f.pins - 1 }) (hd' := st.hand) rfl, rAt_key e, rl_at e]
      simp only [and_true]
      rfl

theorem pins_law {st : RS V} (k : Int) : rPins k st = match rLook k st with | some p => p.2 | none => 0 := by
  unfold rPins
  cases e : rAt k st with
  | none => rw [rl_none.2 (rAt_none.1 e)]
  | some x => obtain ⟨i, f⟩ := x; rw [rl_at e]

theorem rl_new (n : Nat) (k : Int) : rLook k (⟨List.replicate n none, 0⟩ : RS V) = none := by
  rw [rl_none]
  cases e : rIdx k (List.replicate n (none : Option (Fm V))) with
  | none => rfl
  | some i =>
    obtain ⟨f, hf, _⟩ := rIdx_some e
    rw [List.getElem?_replicate] at hf
    split at hf <;> cases hf

theorem cnt_new (n : Nat) : rCnt (List.replicate n (none : Option (Fm V))) = 0 := by
  induction n with
  | zero => rfl
  | succ n ih => rw [List.replicate_succ, rCnt, ih]
end

end Go.Proofs.Ytbiaompkmabfjaa
