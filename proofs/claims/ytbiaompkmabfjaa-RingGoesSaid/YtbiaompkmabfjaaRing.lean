/- The ring: its plain state and what it is in memory; laws for whatever type of values. -/
import Derived.Test.YtbiaompkmabfjaaMap
namespace Go.Proofs.Ytbiaompkmabfjaa
open Go.Maps Go.RowKit

/-! ### plain -/
structure Fm (V : Type) where
  key : Int
  val : V
  pins : Int
  fresh : Bool

structure RS (V : Type) where
  fs : List (Option (Fm V))
  hand : Nat

section plain
variable {V : Type}

/-- where a key's thing is -/
def rIdx (k : Int) : List (Option (Fm V)) → Option Nat
  | [] => none
  | none :: r => (rIdx k r).map (· + 1)
  | some f :: r => if f.key = k then some 0 else (rIdx k r).map (· + 1)

/-- the first vacant frame -/
def rVac : List (Option (Fm V)) → Option Nat
  | [] => none
  | none :: _ => some 0
  | some _ :: r => (rVac r).map (· + 1)

def rCnt : List (Option (Fm V)) → Nat
  | [] => 0
  | none :: r => rCnt r
  | some _ :: r => rCnt r + 1

theorem rIdx_some {k : Int} {l : List (Option (Fm V))} {i : Nat} (h : rIdx k l = some i) : ∃ f, l[i]? = some (some f) ∧ f.key = k := by
  induction l generalizing i with
  | nil => simp [rIdx] at h
  | cons o r ih =>
    cases o with
    | none =>
      simp only [rIdx, Option.map_eq_some_iff] at h
      obtain ⟨j, hj, rfl⟩ := h
      simpa using ih hj
    | some f =>
      unfold rIdx at h
      split at h
      · rename_i hk; cases h; exact ⟨f, by simp, hk⟩
      · simp only [Option.map_eq_some_iff] at h
        obtain ⟨j, hj, rfl⟩ := h
        simpa using ih hj

theorem rIdx_none {k : Int} {l : List (Option (Fm V))} (h : rIdx k l = none) : ∀ (i : Nat) (f : Fm V), l[i]? = some (some f) → f.key ≠ k := by
  induction l with
  | nil => simp
  | cons o r ih =>
    intro i f hf
    cases o with
    | none =>
      simp only [rIdx, Option.map_eq_none_iff] at h
      cases i with
      | zero => simp at hf
      | succ i => exact ih h i f (by simpa using hf)
    | some g =>
      unfold rIdx at h
      split at h
      · cases h
      · rename_i hk
        simp only [Option.map_eq_none_iff] at h
        cases i with
        | zero => simp at hf; rw [← hf]; exact hk
        | succ i => exact ih h i f (by simpa using hf)

def Uniq (l : List (Option (Fm V))) : Prop := ∀ (i j : Nat) (f g : Fm V), l[i]? = some (some f) → l[j]? = some (some g) → f.key = g.key → i = j

theorem rIdx_of {k : Int} {l : List (Option (Fm V))} (hu : Uniq l) {i : Nat} {f : Fm V} (h : l[i]? = some (some f)) (hk : f.key = k) : rIdx k l = some i := by
  cases e : rIdx k l with
  | none => exact absurd hk (rIdx_none e i f h)
  | some j =>
    obtain ⟨g, hg, hgk⟩ := rIdx_some e
    rw [hu j i g f hg h (by rw [hgk, hk])]

theorem rVac_some {l : List (Option (Fm V))} {i : Nat} (h : rVac l = some i) : l[i]? = some none := by
  induction l generalizing i with
  | nil => simp [rVac] at h
  | cons o r ih =>
    cases o with
    | none => simp only [rVac, Option.some.injEq] at h; subst h; simp
    | some f =>
      simp only [rVac, Option.map_eq_some_iff] at h
      obtain ⟨j, hj, rfl⟩ := h
      simpa using ih hj

theorem rVac_before {l : List (Option (Fm V))} {i j : Nat} (h : rVac l = some i) (hj : j < i) : ∃ f, l[j]? = some (some f) := by
  induction l generalizing i j with
  | nil => simp [rVac] at h
  | cons o r ih =>
    cases o with
    | none => simp only [rVac, Option.some.injEq] at h; omega
    | some f =>
      simp only [rVac, Option.map_eq_some_iff] at h
      obtain ⟨i', hi, rfl⟩ := h
      cases j with
      | zero => exact ⟨f, by simp⟩
      | succ j => simpa using ih hi (j := j) (by omega)

theorem rVac_none {l : List (Option (Fm V))} (h : rVac l = none) {j : Nat} (hj : j < l.length) : ∃ f, l[j]? = some (some f) := by
  induction l generalizing j with
  | nil => simp at hj
  | cons o r ih =>
    cases o with
    | none => simp [rVac] at h
    | some f =>
      simp only [rVac, Option.map_eq_none_iff] at h
      cases j with
      | zero => exact ⟨f, by simp⟩
      | succ j => simpa using ih h (j := j) (by simpa using hj)

theorem rVac_at {l : List (Option (Fm V))} {i : Nat} (h : l[i]? = some none) (hb : ∀ j, j < i → ∃ f, l[j]? = some (some f)) : rVac l = some i := by
  induction l generalizing i with
  | nil => simp at h
  | cons o r ih =>
    cases i with
    | zero => simp at h; subst h; rfl
    | succ i =>
      obtain ⟨f, hf⟩ := hb 0 (by omega)
      simp at hf
      subst hf
      rw [rVac, ih (i := i) (by simpa using h) (fun j hj => by simpa using hb (j + 1) (by omega))]
      rfl

theorem rVac_full {l : List (Option (Fm V))} (hb : ∀ j, j < l.length → ∃ f, l[j]? = some (some f)) : rVac l = none := by
  cases e : rVac l with
  | none => rfl
  | some i =>
    have h1 := rVac_some e
    obtain ⟨f, hf⟩ := hb i (List.getElem?_eq_some_iff.1 h1).1
    rw [h1] at hf
    cases hf

/-- whether all things are pinned -/
def rPinned (l : List (Option (Fm V))) : Bool := l.all fun o => match o with | some f => f.pins != 0 | none => false

theorem rPinned_true {l : List (Option (Fm V))} (h : ∀ j, j < l.length → ∃ f, l[j]? = some (some f) ∧ f.pins ≠ 0) : rPinned l = true := by
  unfold rPinned
  rw [List.all_eq_true]
  intro o ho
  obtain ⟨j, hj⟩ := List.mem_iff_getElem?.1 ho
  obtain ⟨f, hf, hp⟩ := h j (List.getElem?_eq_some_iff.1 hj).1
  rw [hj] at hf; cases hf
  simpa using hp

theorem rPinned_none {l : List (Option (Fm V))} {i : Nat} (h : l[i]? = some none) : rPinned l = false := by
  cases e : rPinned l with
  | false => rfl
  | true =>
    unfold rPinned at e
    rw [List.all_eq_true] at e
    have := e none (List.mem_of_getElem? h)
    simp at this

theorem rPinned_zero {l : List (Option (Fm V))} {i : Nat} {f : Fm V} (h : l[i]? = some (some f)) (hp : f.pins = 0) : rPinned l = false := by
  cases e : rPinned l with
  | false => rfl
  | true =>
    unfold rPinned at e
    rw [List.all_eq_true] at e
    have := e (some f) (List.mem_of_getElem? h)
    simp [hp] at this

theorem rPinned_iff {l : List (Option (Fm V))} (h : rPinned l = true) {i : Nat} {f : Fm V} (hf : l[i]? = some (some f)) : f.pins ≠ 0 := by
  unfold rPinned at h
  rw [List.all_eq_true] at h
  simpa using h _ (List.mem_of_getElem? hf)

theorem rIdx_set_some {k : Int} {l : List (Option (Fm V))} (hu : Uniq l) {i : Nat} {f g : Fm V} (h : l[i]? = some (some f)) (hk : g.key = f.key) : rIdx k (l.set i (some g)) = rIdx k l := by
  have hlt : i < l.length := (List.getElem?_eq_some_iff.1 h).1
  have hu' : Uniq (l.set i (some g)) := by
    intro a b x y ha hb e
    rw [List.getElem?_set] at ha hb
    split at ha
    · rename_i h1
      split at hb
      · rename_i h2; omega
      · cases ha
        exact h1 ▸ hu i b f y h hb (by rw [← hk]; exact e)
    · split at hb
      · rename_i h2
        cases hb
        exact (h2 ▸ hu i a f x h ha (by rw [← hk]; exact e.symm)).symm
      · exact hu a b x y ha hb e
  cases e : rIdx k l with
  | none =>
    cases e2 : rIdx k (l.set i (some g)) with
    | none => rfl
    | some j =>
      obtain ⟨y, hy, hyk⟩ := rIdx_some e2
      rw [List.getElem?_set] at hy
      split at hy
      · cases hy
        exact absurd (hk ▸ hyk) (rIdx_none e i f h)
      · exact absurd hyk (rIdx_none e j y hy)
  | some j =>
    obtain ⟨y, hy, hyk⟩ := rIdx_some e
    by_cases hij : i = j
    · subst hij
      rw [h] at hy; cases hy
      exact rIdx_of hu' (by rw [List.getElem?_set, if_pos rfl, if_pos hlt]) (hk.trans hyk)
    · exact rIdx_of hu' (by rw [List.getElem?_set, if_neg hij]; exact hy) hyk

theorem uniq_set_some {l : List (Option (Fm V))} (hu : Uniq l) {i : Nat} {f g : Fm V} (h : l[i]? = some (some f)) (hk : g.key = f.key) : Uniq (l.set i (some g)) := by
  have hlt : i < l.length := (List.getElem?_eq_some_iff.1 h).1
  intro a b x y ha hb e
  rw [List.getElem?_set] at ha hb
  split at ha
  · rename_i h1
    split at hb
    · rename_i h2; omega
    · cases ha
      exact h1 ▸ hu i b f y h hb (by rw [← hk]; exact e)
  · split at hb
    · rename_i h2
      cases hb
      exact (h2 ▸ hu i a f x h ha (by rw [← hk]; exact e.symm)).symm
    · exact hu a b x y ha hb e

/-- a new key comes into frame i -/
theorem uniq_put {l : List (Option (Fm V))} (hu : Uniq l) {i : Nat} (hlt : i < l.length) {g : Fm V} (hn : ∀ (j : Nat) (f : Fm V), j ≠ i → l[j]? = some (some f) → f.key ≠ g.key) : Uniq (l.set i (some g)) := by
  intro a b x y ha hb e
  rw [List.getElem?_set] at ha hb
  split at ha
  · rename_i h1
    split at hb
    · rename_i h2; omega
    · cases ha
      rename_i h2
      exact absurd e.symm (hn b y (fun e => h2 e.symm) hb)
  · split at hb
    · rename_i h1 h2
      cases hb
      exact absurd e (hn a x (fun e => h1 e.symm) ha)
    · exact hu a b x y ha hb e

theorem uniq_none {l : List (Option (Fm V))} (hu : Uniq l) (i : Nat) : Uniq (l.set i none) := by
  intro a b x y ha hb e
  rw [List.getElem?_set] at ha hb
  split at ha
  · split at ha <;> cases ha
  · split at hb
    · split at hb <;> cases hb
    · exact hu a b x y ha hb e

theorem rIdx_put {k : Int} {l : List (Option (Fm V))} (hu : Uniq l) {i : Nat} (hlt : i < l.length) {g : Fm V} (hn : ∀ (j : Nat) (f : Fm V), j ≠ i → l[j]? = some (some f) → f.key ≠ g.key) :
    rIdx k (l.set i (some g)) = if k = g.key then some i else rIdx k (l.set i none) := by
  have hu' := uniq_put hu hlt hn
  have hu0 := uniq_none hu i
  split
  · rename_i hk
    exact rIdx_of hu' (by rw [List.getElem?_set, if_pos rfl, if_pos hlt]) hk.symm
  · rename_i hk
    cases e : rIdx k (l.set i none) with
    | none =>
      cases e2 : rIdx k (l.set i (some g)) with
      | none => rfl
      | some j =>
        obtain ⟨y, hy, hyk⟩ := rIdx_some e2
        rw [List.getElem?_set] at hy
        split at hy
        · cases hy; exact absurd hyk.symm hk
        · rename_i hij
          exact absurd hyk (rIdx_none e j y (by rw [List.getElem?_set, if_neg hij]; exact hy))
    | some j =>
      obtain ⟨y, hy, hyk⟩ := rIdx_some e
      rw [List.getElem?_set] at hy
      split at hy
      · cases hy
      · rename_i hij
        exact rIdx_of hu' (by rw [List.getElem?_set, if_neg hij]; exact hy) hyk

theorem rIdx_del {k : Int} {l : List (Option (Fm V))} (hu : Uniq l) {i : Nat} {f : Fm V} (h : l[i]? = some (some f)) : rIdx k (l.set i none) = if k = f.key then none else rIdx k l := by
  have hu0 := uniq_none hu i
  split
  · rename_i hk
    cases e : rIdx k (l.set i none) with
    | none => rfl
    | some j =>
      obtain ⟨y, hy, hyk⟩ := rIdx_some e
      rw [List.getElem?_set] at hy
      split at hy
      · split at hy <;> cases hy
      · rename_i hij
        exact absurd (hu i j f y h hy (by rw [hyk, hk])) hij
  · rename_i hk
    cases e : rIdx k l with
    | none =>
      cases e2 : rIdx k (l.set i none) with
      | none => rfl
      | some j =>
        obtain ⟨y, hy, hyk⟩ := rIdx_some e2
        rw [List.getElem?_set] at hy
        split at hy
        · split at hy <;> cases hy
        · exact absurd hyk (rIdx_none e j y hy)
    | some j =>
      obtain ⟨y, hy, hyk⟩ := rIdx_some e
      have hij : i ≠ j := by rintro rfl; rw [h] at hy; cases hy; exact hk hyk.symm
      exact rIdx_of hu0 (by rw [List.getElem?_set, if_neg hij]; exact hy) hyk

theorem rIdx_vac {l : List (Option (Fm V))} {i : Nat} (h : l[i]? = some none) : l.set i none = l := by
  refine List.ext_getElem? fun j => ?_
  rw [List.getElem?_set]
  split
  · rename_i e; subst e
    rw [if_pos (List.getElem?_eq_some_iff.1 h).1, h]
  · rfl

theorem rCnt_set_some {l : List (Option (Fm V))} {i : Nat} {f g : Fm V} (h : l[i]? = some (some f)) : rCnt (l.set i (some g)) = rCnt l := by
  induction l generalizing i with
  | nil => simp at h
  | cons o r ih =>
    cases i with
    | zero => simp at h; subst h; rfl
    | succ i =>
      have := ih (i := i) (by simpa using h)
      cases o <;> simp [rCnt, this]

theorem rCnt_del {l : List (Option (Fm V))} {i : Nat} {f : Fm V} (h : l[i]? = some (some f)) : rCnt (l.set i none) + 1 = rCnt l := by
  induction l generalizing i with
  | nil => simp at h
  | cons o r ih =>
    cases i with
    | zero => simp at h; subst h; rfl
    | succ i =>
      have := ih (i := i) (by simpa using h)
      cases o <;> simp [rCnt] <;> omega

theorem rCnt_put {l : List (Option (Fm V))} {i : Nat} {g : Fm V} (h : l[i]? = some none) : rCnt (l.set i (some g)) = rCnt l + 1 := by
  induction l generalizing i with
  | nil => simp at h
  | cons o r ih =>
    cases i with
    | zero => simp at h; subst h; rfl
    | succ i =>
      have := ih (i := i) (by simpa using h)
      cases o <;> simp [rCnt, this]

theorem rCnt_le (l : List (Option (Fm V))) : rCnt l ≤ l.length := by
  induction l with
  | nil => simp [rCnt]
  | cons o r ih => cases o <;> simp [rCnt] <;> omega

theorem rCnt_full {l : List (Option (Fm V))} (h : rVac l = none) : rCnt l = l.length := by
  induction l with
  | nil => rfl
  | cons o r ih =>
    cases o with
    | none => simp [rVac] at h
    | some f => simp only [rVac, Option.map_eq_none_iff] at h; simp [rCnt, ih h]

structure RInv (st : RS V) (top : Int) : Prop where
  n1 : 1 ≤ st.fs.length
  n64 : st.fs.length ≤ 64
  hand : st.hand < st.fs.length
  uniq : Uniq st.fs
  key : ∀ (i : Nat) (f : Fm V), st.fs[i]? = some (some f) → in64 f.key
  pins : ∀ (i : Nat) (f : Fm V), st.fs[i]? = some (some f) → 0 ≤ f.pins ∧ f.pins ≤ top

theorem RInv.top {st : RS V} {a b : Int} (h : RInv st a) (hab : a ≤ b) : RInv st b := ⟨h.n1, h.n64, h.hand, h.uniq, h.key, fun i f hf => ⟨(h.pins i f hf).1, Int.le_trans (h.pins i f hf).2 hab⟩⟩

/-- frame i turns, its key stays -/
theorem RInv.set_ {st : RS V} {top : Int} (h : RInv st top) {i : Nat} {f g : Fm V} (hf : st.fs[i]? = some (some f)) (hk : g.key = f.key) (hp : 0 ≤ g.pins ∧ g.pins ≤ top) (hd : Nat) (hh : hd < st.fs.length) : RInv ⟨st.fs.set i (some g), hd⟩ top := by
  refine ⟨by simpa using h.n1, by simpa using h.n64, by simpa using hh, uniq_set_some h.uniq hf hk, fun j x hx => ?_, fun j x hx => ?_⟩
  · simp only [List.getElem?_set] at hx
    split at hx
    · split at hx
      · cases hx; rw [hk]; exact h.key i f hf
      · cases hx
    · exact h.key j x hx
  · simp only [List.getElem?_set] at hx
    split at hx
    · split at hx
      · cases hx; exact hp
      · cases hx
    · exact h.pins j x hx

theorem RInv.put {st : RS V} {top : Int} (h : RInv st top) {i : Nat} (hi : i < st.fs.length) {g : Fm V} (hn : ∀ (j : Nat) (f : Fm V), j ≠ i → st.fs[j]? = some (some f) → f.key ≠ g.key) (hg : in64 g.key) (hp : 0 ≤ g.pins ∧ g.pins ≤ top) (hd : Nat) (hh : hd < st.fs.length) : RInv ⟨st.fs.set i (some g), hd⟩ top := by
  refine ⟨by simpa using h.n1, by simpa using h.n64, by simpa using hh, uniq_put h.uniq hi hn, fun j x hx => ?_, fun j x hx => ?_⟩
  · simp only [List.getElem?_set] at hx
    split at hx
    · cases hx; exact hg
    · exact h.key j x hx
  · simp only [List.getElem?_set] at hx
    split at hx
    · cases hx; exact hp
    · exact h.pins j x hx

theorem RInv.del {st : RS V} {top : Int} (h : RInv st top) (i : Nat) : RInv ⟨st.fs.set i none, st.hand⟩ top := by
  refine ⟨by simpa using h.n1, by simpa using h.n64, by simpa using h.hand, uniq_none h.uniq i, fun j x hx => ?_, fun j x hx => ?_⟩
  · simp only [List.getElem?_set] at hx
    split at hx
    · split at hx <;> cases hx
    · exact h.key j x hx
  · simp only [List.getElem?_set] at hx
    split at hx
    · split at hx <;> cases hx
    · exact h.pins j x hx

/-! the clock -/

/-- the frame under the hand can leave -/
def rCan (o : Option (Fm V)) : Bool := match o with
  | some f => f.pins == 0 && !f.fresh
  | none => false

/-- the hand goes on -/
def rStep (st : RS V) : RS V := match st.fs[st.hand]? with
  | some (some f) => ⟨st.fs.set st.hand (some { f with fresh := f.fresh && decide (0 < f.pins) }), (st.hand + 1) % st.fs.length⟩
  | _ => ⟨st.fs, (st.hand + 1) % st.fs.length⟩

/-- so many rounds at most: the state in which the frame under the hand can leave -/
def rSeek : Nat → RS V → Option (RS V)
  | 0, _ => none
  | m + 1, st => if rCan (st.fs[st.hand]?.join) then some st else rSeek m (rStep st)

def Full (l : List (Option (Fm V))) : Prop := ∀ j, j < l.length → ∃ f, l[j]? = some (some f)

/-- The same things with the same pins in the same frames; none is fresher. -/
def Alike (a b : List (Option (Fm V))) : Prop := a.length = b.length ∧ ∀ (i : Nat) (f : Fm V), a[i]? = some (some f) → ∃ f', b[i]? = some (some f') ∧ f'.key = f.key ∧ f'.val = f.val ∧ f'.pins = f.pins ∧ (f'.fresh = true → f.fresh = true)

theorem Alike.refl (a : List (Option (Fm V))) : Alike a a := ⟨rfl, fun _ f h => ⟨f, h, rfl, rfl, rfl, fun h => h⟩⟩
theorem Alike.trans {a b c : List (Option (Fm V))} (h : Alike a b) (k : Alike b c) : Alike a c := by
  refine ⟨h.1.trans k.1, fun i f hf => ?_⟩
  obtain ⟨f1, h1, a1, a2, a3, a4⟩ := h.2 i f hf
  obtain ⟨f2, h2, b1, b2, b3, b4⟩ := k.2 i f1 h1
  exact ⟨f2, h2, b1.trans a1, b2.trans a2, b3.trans a3, fun e => a4 (b4 e)⟩

theorem full_at {st : RS V} (hf : Full st.fs) (hh : st.hand < st.fs.length) : ∃ f, st.fs[st.hand]? = some (some f) := hf _ hh

theorem rStep_eq {st : RS V} {f : Fm V} (h : st.fs[st.hand]? = some (some f)) : rStep st = ⟨st.fs.set st.hand (some { f with fresh := f.fresh && decide (0 < f.pins) }), (st.hand + 1) % st.fs.length⟩ := by
  unfold rStep; rw [h]

theorem rStep_len (st : RS V) : (rStep st).fs.length = st.fs.length := by
  unfold rStep; split <;> simp

theorem rStep_hand (st : RS V) : (rStep st).hand = (st.hand + 1) % st.fs.length := by
  unfold rStep; split <;> rfl

theorem rStep_full {st : RS V} (hf : Full st.fs) : Full (rStep st).fs := by
  unfold rStep
  split
  · rename_i f h
    intro j hj
    rw [List.length_set] at hj
    obtain ⟨f', h'⟩ := hf j hj
    by_cases e : st.hand = j
    · exact ⟨_, by rw [List.getElem?_set, if_pos e, if_pos (e ▸ hj)]⟩
    · exact ⟨f', by rw [List.getElem?_set, if_neg e]; exact h'⟩
  · exact hf

theorem rStep_alike (st : RS V) : Alike st.fs (rStep st).fs := by
  unfold rStep
  split
  · rename_i f h
    refine ⟨by simp, fun i x hx => ?_⟩
    have hlt := (List.getElem?_eq_some_iff.1 hx).1
    by_cases e : st.hand = i
    · subst e
      rw [h] at hx; cases hx
      exact ⟨{ f with fresh := f.fresh && decide (0 < f.pins) }, by rw [List.getElem?_set, if_pos rfl, if_pos hlt], rfl, rfl, rfl, fun e => by simp at e; exact e.1⟩
    · exact ⟨x, by rw [List.getElem?_set, if_neg e]; exact hx, rfl, rfl, rfl, fun h => h⟩
  · exact Alike.refl _

theorem rStep_inv {st : RS V} {top : Int} (h : RInv st top) : RInv (rStep st) top := by
  have hh : (st.hand + 1) % st.fs.length < st.fs.length := Nat.mod_lt _ (by have := h.n1; omega)
  unfold rStep
  split
  · rename_i f hf
    exact h.set_ (g := { f with fresh := f.fresh && decide (0 < f.pins) }) hf rfl (h.pins _ f hf) _ hh
  · exact ⟨h.n1, h.n64, hh, h.uniq, h.key, h.pins⟩

theorem rStep_idx {st : RS V} (hu : Uniq st.fs) (k : Int) : rIdx k (rStep st).fs = rIdx k st.fs := by
  unfold rStep
  split
  · rename_i f hf; exact rIdx_set_some hu hf rfl
  · rfl

theorem rStep_cnt (st : RS V) : rCnt (rStep st).fs = rCnt st.fs := by
  unfold rStep
  split
  · rename_i f hf; exact rCnt_set_some hf
  · rfl

theorem rSeek_mono {m : Nat} {st st' : RS V} (h : rSeek m st = some st') (j : Nat) : rSeek (m + j) st = some st' := by
  induction m generalizing st with
  | zero => simp [rSeek] at h
  | succ m ih =>
    rw [show m + 1 + j = (m + j) + 1 by omega]
    unfold rSeek at h ⊢
    split
    · rename_i hc; rw [if_pos hc] at h; exact h
    · rename_i hc; rw [if_neg hc] at h; exact ih h

theorem rSeek_some {m : Nat} {st st' : RS V} {top : Int} (h : rSeek m st = some st') (hI : RInv st top) (hf : Full st.fs) :
    RInv st' top ∧ Full st'.fs ∧ Alike st.fs st'.fs ∧ rCan (st'.fs[st'.hand]?.join) = true ∧ (∀ k, rIdx k st'.fs = rIdx k st.fs) ∧ rCnt st'.fs = rCnt st.fs := by
  induction m generalizing st with
  | zero => simp [rSeek] at h
  | succ m ih =>
    unfold rSeek at h
    split at h
    · rename_i hc; cases h; exact ⟨hI, hf, Alike.refl _, hc, fun _ => rfl, rfl⟩
    · obtain ⟨a, b, c, d, e, f⟩ := ih h (rStep_inv hI) (rStep_full hf)
      exact ⟨a, b, (rStep_alike st).trans c, d, fun k => (e k).trans (rStep_idx hI.uniq k), f.trans (rStep_cnt st)⟩

/-- what is neither pinned nor fresh is met -/
theorem rSeek_stale (d : Nat) : ∀ (st : RS V) (i : Nat) (f : Fm V), 0 < st.fs.length → st.hand < st.fs.length → i = (st.hand + d) % st.fs.length → d < st.fs.length → st.fs[i]? = some (some f) → f.pins = 0 → f.fresh = false → ∃ st', rSeek (d + 1) st = some st' := by
  induction d with
  | zero =>
    intro st i f hn hh hi hd hf hp hfr
    rw [Nat.add_zero, Nat.mod_eq_of_lt hh] at hi
    subst hi
    refine ⟨st, ?_⟩
    unfold rSeek
    rw [if_pos (by rw [hf]; simp [rCan, hp, hfr])]
  | succ d ih =>
    intro st i f hn hh hi hd hf hp hfr
    unfold rSeek
    split
    · exact ⟨st, rfl⟩
    · have hne : i ≠ st.hand := by
        intro e
        have h1 := Nat.div_add_mod (st.hand + (d + 1)) st.fs.length
        rw [← hi, e] at h1
        have : st.fs.length * ((st.hand + (d + 1)) / st.fs.length) = d + 1 := by omega
        rcases Nat.eq_zero_or_pos ((st.hand + (d + 1)) / st.fs.length) with h0 | h0
        · rw [h0] at this; simp at this
        · have := Nat.le_mul_of_pos_right st.fs.length h0
          omega
      have hst : (rStep st).fs[i]? = some (some f) := by
        unfold rStep
        split
        · rw [List.getElem?_set, if_neg (Ne.symm hne)]; exact hf
        · exact hf
      refine ih (rStep st) i f (by rw [rStep_len]; exact hn) (by rw [rStep_len, rStep_hand]; exact Nat.mod_lt _ hn) ?_ (by rw [rStep_len]; omega) hst hp hfr
      rw [rStep_len, rStep_hand, Nat.mod_add_mod, hi]
      congr 1
      omega

/-- what isn't pinned is met -/
theorem rSeek_loose (d : Nat) : ∀ (st : RS V) (i : Nat) (f : Fm V), 0 < st.fs.length → st.hand < st.fs.length → i = (st.hand + d) % st.fs.length → d < st.fs.length → st.fs[i]? = some (some f) → f.pins = 0 → ∃ st', rSeek (d + 1 + st.fs.length) st = some st' := by
  induction d with
  | zero =>
    intro st i f hn hh hi hd hf hp
    rw [Nat.add_zero, Nat.mod_eq_of_lt hh] at hi
    subst hi
    rw [show 0 + 1 + st.fs.length = st.fs.length + 1 by omega]
    unfold rSeek
    split
    · exact ⟨st, rfl⟩
    · obtain ⟨st', h'⟩ := rSeek_stale (st.fs.length - 1) (rStep st) st.hand { f with fresh := f.fresh && decide (0 < f.pins) } (by rw [rStep_len]; exact hn) (by rw [rStep_len, rStep_hand]; exact Nat.mod_lt _ hn)
        (by rw [rStep_len, rStep_hand, Nat.mod_add_mod, show st.hand + 1 + (st.fs.length - 1) = st.hand + st.fs.length by omega, Nat.add_mod_right, Nat.mod_eq_of_lt hh]) (by rw [rStep_len]; omega)
        (by rw [rStep_eq hf]; rw [List.getElem?_set, if_pos rfl, if_pos hh]) hp (by simp [hp])
      rw [show st.fs.length - 1 + 1 = st.fs.length by omega] at h'
      exact ⟨st', h'⟩
  | succ d ih =>
    intro st i f hn hh hi hd hf hp
    rw [show d + 1 + 1 + st.fs.length = (d + 1 + st.fs.length) + 1 by omega]
    unfold rSeek
    split
    · exact ⟨st, rfl⟩
    · obtain ⟨f', hf', _, _, hp', _⟩ := (rStep_alike st).2 i f hf
      have := ih (rStep st) i f' (by rw [rStep_len]; exact hn) (by rw [rStep_len, rStep_hand]; exact Nat.mod_lt _ hn)
        (by rw [rStep_len, rStep_hand, Nat.mod_add_mod, hi]; congr 1; omega) (by rw [rStep_len]; omega) hf' (by rw [hp', hp])
      rw [rStep_len] at this
      exact this

theorem rSeek_ok {st : RS V} {top : Int} (hI : RInv st top) (hf : Full st.fs) (hp : rPinned st.fs = false) : ∃ st', rSeek (2 * st.fs.length + 1) st = some st' := by
  have hn := hI.n1
  have hex : ∃ (i : Nat) (f : Fm V), st.fs[i]? = some (some f) ∧ f.pins = 0 := by
    unfold rPinned at hp
    rw [List.all_eq_false] at hp
    obtain ⟨o, ho, hb⟩ := hp
    obtain ⟨j, hj⟩ := List.mem_iff_getElem?.1 ho
    obtain ⟨f, hf'⟩ := hf j (List.getElem?_eq_some_iff.1 hj).1
    rw [hf'] at hj; cases hj
    exact ⟨j, f, hf', by simpa using hb⟩
  obtain ⟨i, f, hif, hp0⟩ := hex
  have hi := (List.getElem?_eq_some_iff.1 hif).1
  have hh := hI.hand
  obtain ⟨d, hd, hid⟩ : ∃ d, d < st.fs.length ∧ i = (st.hand + d) % st.fs.length := by
    by_cases h : st.hand ≤ i
    · exact ⟨i - st.hand, by omega, by rw [show st.hand + (i - st.hand) = i by omega, Nat.mod_eq_of_lt hi]⟩
    · exact ⟨i + st.fs.length - st.hand, by omega, by rw [show st.hand + (i + st.fs.length - st.hand) = i + st.fs.length by omega, Nat.add_mod_right, Nat.mod_eq_of_lt hi]⟩
  obtain ⟨st', h'⟩ := rSeek_loose d st i f (by omega) hh hid hd hif hp0
  have := rSeek_mono h' (2 * st.fs.length + 1 - (d + 1 + st.fs.length))
  rw [show d + 1 + st.fs.length + (2 * st.fs.length + 1 - (d + 1 + st.fs.length)) = 2 * st.fs.length + 1 by omega] at this
  exact ⟨st', this⟩

def rPut (k : Int) (v : V) (st : RS V) : Option (Fm V) × Bool × RS V :=
  match rIdx k st.fs with
  | some i => match st.fs[i]?.join with
    | some f => (none, true, ⟨st.fs.set i (some { f with val := v, fresh := true }), st.hand⟩)
    | none => (none, false, st)
  | none => match rVac st.fs with
    | some i => (none, true, ⟨st.fs.set i (some ⟨k, v, 0, true⟩), st.hand⟩)
    | none => if rPinned st.fs then (none, false, st) else
      match rSeek (2 * st.fs.length + 1) st with
      | some e => (e.fs[e.hand]?.join, true, ⟨e.fs.set e.hand (some ⟨k, v, 0, true⟩), (e.hand + 1) % e.fs.length⟩)
      | none => (none, false, st)

theorem full_of_vac {l : List (Option (Fm V))} (h : rVac l = none) : Full l := fun _ hj => rVac_none h hj

end plain

/-! ### in memory -/
section memory
variable {V : Type}

def frCells (enc : V → List Value) (f : Fm V) : List Value := .int .i64 f.key :: (enc f.val ++ [.int .i64 f.pins, .bool f.fresh])

def vacVal : Option Nat → Value
  | some i => .tuple #[.int .i64 (i : Int), .bool true]
  | none => .tuple #[.int .i64 0, .bool false]

def ptrOf : Option Nat → Value
  | none => .pointer none
  | some g => .pointer (some ⟨g, 0, none⟩)

/-- Frame o of the plain state is what b leads to. -/
def FrIs (enc : V → List Value) (w : World) (tf : Nat) : Option Nat → Option (Fm V) → Prop
  | none, none => True
  | some g, some f => Blk w g tf (frCells enc f)
  | _, _ => False

/-- The ring without its map of places. -/
structure Ring0 (enc : V → List Value) (tr tp tf : Nat) (w : World) (rb fb mb : Nat) (bs : List (Option Nat)) (st : RS V) : Prop where
  ring : Blk w rb tr [.slice (some ⟨fb, 0, none⟩) st.fs.length st.fs.length, .map (some mb), .int .i64 st.hand]
  arr : Blk w fb tp (bs.map ptrOf)
  len : bs.length = st.fs.length
  fr : ∀ (i : Nat) (b : Option Nat) (o : Option (Fm V)), bs[i]? = some b → st.fs[i]? = some o → FrIs enc w tf b o
  inj : ∀ (i j : Nat) (g : Nat), bs[i]? = some (some g) → bs[j]? = some (some g) → i = j

/-- The map of places of these frames. -/
def MapIs (P : Program) (kt : Nat) (w : World) (mb : Nat) (fs : List (Option (Fm V))) : Prop :=
  ∃ pl : List (Int × Int), VMap w P kt mb (vmap (fun n => Value.int .i64 n) pl) ∧ (∀ k, look k pl = Option.map (fun (i : Nat) => (i : Int)) (rIdx k fs)) ∧ pl.length = rCnt fs

def IsRing (enc : V → List Value) (P : Program) (kt tr tp tf : Nat) (w : World) (rb fb mb : Nat) (bs : List (Option Nat)) (st : RS V) : Prop :=
  Ring0 enc tr tp tf w rb fb mb bs st ∧ MapIs P kt w mb st.fs

/-- The blocks of a ring. -/
def foot (rb fb mb : Nat) (bs : List (Option Nat)) : Nat → Prop := fun b => b = rb ∨ b = fb ∨ b = mb ∨ some b ∈ bs

section
variable {enc : V → List Value} {P : Program} {kt tr tp tf : Nat} {w w' : World} {rb fb mb : Nat} {bs : List (Option Nat)} {st : RS V} {S : Nat → Prop} {fs : List (Option (Fm V))}

theorem FrIs.fr {b : Option Nat} {o : Option (Fm V)} (h : FrIs enc w tf b o) (hf : Fr S w w') (hn : ∀ g, b = some g → ¬ S g) : FrIs enc w' tf b o := by
  cases b with
  | none => cases o with
    | none => trivial
    | some f => exact h.elim
  | some g => cases o with
    | none => exact h.elim
    | some f => exact Blk.fr h hf (hn g rfl)

theorem Ring0.keep (h : Ring0 enc tr tp tf w rb fb mb bs st) (hf : Fr S w w') (h1 : ¬ S rb) (h2 : ¬ S fb) (h3 : ∀ g, some g ∈ bs → ¬ S g) : Ring0 enc tr tp tf w' rb fb mb bs st :=
  ⟨h.ring.fr hf h1, h.arr.fr hf h2, h.len, fun i b o hb ho => (h.fr i b o hb ho).fr hf fun g hg => h3 g (hg ▸ List.mem_of_getElem? hb), h.inj⟩

theorem MapIs.keep (h : MapIs P kt w mb fs) (hf : Fr S w w') (hn : ¬ S mb) : MapIs P kt w' mb fs := by
  obtain ⟨pl, hV, r⟩ := h
  exact ⟨pl, hV.fr hf hn, r⟩

theorem IsRing.keep (h : IsRing enc P kt tr tp tf w rb fb mb bs st) (hf : Fr S w w') (hn : ∀ b, foot rb fb mb bs b → ¬ S b) : IsRing enc P kt tr tp tf w' rb fb mb bs st :=
  ⟨h.1.keep hf (hn _ (.inl rfl)) (hn _ (.inr (.inl rfl))) (fun _ hg => hn _ (.inr (.inr (.inr hg)))), h.2.keep hf (hn _ (.inr (.inr (.inl rfl))))⟩

theorem Ring0.drew (h : Ring0 enc tr tp tf w rb fb mb bs st) : Ring0 enc tr tp tf w.drew rb fb mb bs st := ⟨h.ring, h.arr, h.len, h.fr, h.inj⟩
theorem MapIs.drew (h : MapIs P kt w mb fs) : MapIs P kt w.drew mb fs := h

theorem MapIs.of_idx (h : MapIs P kt w mb fs) {fs' : List (Option (Fm V))} (hi : ∀ k, rIdx k fs' = rIdx k fs) (hc : rCnt fs' = rCnt fs) : MapIs P kt w mb fs' := by
  obtain ⟨pl, hV, h1, h2⟩ := h
  exact ⟨pl, hV, fun k => by rw [h1, hi], by rw [h2, hc]⟩

theorem Ring0.at_some (h : Ring0 enc tr tp tf w rb fb mb bs st) {i : Nat} {f : Fm V} (hf : st.fs[i]? = some (some f)) : ∃ g, bs[i]? = some (some g) ∧ Blk w g tf (frCells enc f) := by
  have hlt : i < bs.length := by rw [h.len]; exact (List.getElem?_eq_some_iff.1 hf).1
  have hb : bs[i]? = some bs[i] := List.getElem?_eq_getElem hlt
  have := h.fr i _ _ hb hf
  cases e : bs[i] with
  | none => rw [e] at this; exact this.elim
  | some g => rw [e] at this hb; exact ⟨g, hb, this⟩

theorem Ring0.at_none (h : Ring0 enc tr tp tf w rb fb mb bs st) {i : Nat} (hf : st.fs[i]? = some none) : bs[i]? = some none := by
  have hlt : i < bs.length := by rw [h.len]; exact (List.getElem?_eq_some_iff.1 hf).1
  have hb : bs[i]? = some bs[i] := List.getElem?_eq_getElem hlt
  have := h.fr i _ _ hb hf
  cases e : bs[i] with
  | none => rw [e] at hb; exact hb
  | some g => rw [e] at this; exact this.elim

theorem Ring0.cell_some (h : Ring0 enc tr tp tf w rb fb mb bs st) {i g : Nat} (hb : bs[i]? = some (some g)) : w.cell? ⟨fb, i, none⟩ = some (.pointer (some ⟨g, 0, none⟩)) := by
  rw [h.arr.cell, List.getElem?_map, hb]; rfl

theorem Ring0.cell_none (h : Ring0 enc tr tp tf w rb fb mb bs st) {i : Nat} (hb : bs[i]? = some none) : w.cell? ⟨fb, i, none⟩ = some (.pointer none) := by
  rw [h.arr.cell, List.getElem?_map, hb]; rfl

theorem Ring0.lt_ (h : Ring0 enc tr tp tf w rb fb mb bs st) {b : Nat} (hb : b = rb ∨ b = fb ∨ some b ∈ bs) (hfull : some b ∈ bs → ∃ (i : Nat) (f : Fm V), bs[i]? = some (some b) ∧ st.fs[i]? = some (some f)) : b < w.heap.size := by
  rcases hb with rfl | rfl | hb
  · exact h.ring.lt
  · exact h.arr.lt
  · obtain ⟨i, f, h1, h2⟩ := hfull hb
    exact Blk.lt (h.fr i _ _ h1 h2)

theorem Ring0.block_lt (h : Ring0 enc tr tp tf w rb fb mb bs st) {g : Nat} (hg : some g ∈ bs) : g < w.heap.size := by
  obtain ⟨i, hi⟩ := List.mem_iff_getElem?.1 hg
  have hlt : i < st.fs.length := by rw [← h.len]; exact (List.getElem?_eq_some_iff.1 hi).1
  have ho : st.fs[i]? = some st.fs[i] := List.getElem?_eq_getElem hlt
  have := h.fr i _ _ hi ho
  cases e : st.fs[i] with
  | none => rw [e] at this; exact this.elim
  | some f => rw [e] at this; exact Blk.lt this

theorem IsRing.foot_lt (h : IsRing enc P kt tr tp tf w rb fb mb bs st) {b : Nat} (hb : foot rb fb mb bs b) : b < w.heap.size := by
  rcases hb with rfl | rfl | rfl | hb
  · exact h.1.ring.lt
  · exact h.1.arr.lt
  · obtain ⟨pl, hV, _⟩ := h.2; exact hV.lt
  · exact h.1.block_lt hb

/-- Block g, to which frame i leads, turns; its key stays. -/
theorem Ring0.set_ (h : Ring0 enc tr tp tf w rb fb mb bs st) {i g : Nat} {f' : Fm V} (hb : bs[i]? = some (some g)) (hF : Fr (fun b => b = g) w w') (hB : Blk w' g tf (frCells enc f')) (hne1 : rb ≠ g) (hne2 : fb ≠ g) :
    Ring0 enc tr tp tf w' rb fb mb bs ⟨st.fs.set i (some f'), st.hand⟩ := by
  refine ⟨?_, h.arr.fr hF hne2, by simpa using h.len, fun j b o hj ho => ?_, h.inj⟩
  · have := h.ring.fr hF hne1
    simpa using this
  · simp only [List.getElem?_set] at ho
    split at ho
    · rename_i hij
      subst hij
      split at ho
      · cases ho
        rw [hb] at hj
        cases hj
        exact hB
      · cases ho
    · rename_i hij
      refine (h.fr j b o hj ho).fr hF fun g' hg' e => ?_
      subst hg' e
      exact hij (h.inj i j _ hb hj)

theorem Ring0.hand_ (h : Ring0 enc tr tp tf w rb fb mb bs st) (hd : Nat) {v : Value} (hv : v = .int .i64 (hd : Int)) (hne2 : fb ≠ rb) (hne3 : ∀ g, some g ∈ bs → g ≠ rb) : Ring0 enc tr tp tf (w.setCell ⟨rb, 2, none⟩ v) rb fb mb bs ⟨st.fs, hd⟩ := by
  subst hv
  have hF : Fr (fun b => b = rb) w (w.setCell ⟨rb, 2, none⟩ (.int .i64 (hd : Int))) := (Fr.refl (fun b => b = rb) w).setCell (p := ⟨rb, 2, none⟩) (.inl rfl) _
  exact ⟨h.ring.set_ 2 _, h.arr.far (p := ⟨rb, 2, none⟩) hne2 _, h.len, fun i b o hb ho => (h.fr i b o hb ho).fr hF fun g hg => hne3 g (hg ▸ List.mem_of_getElem? hb), h.inj⟩

theorem Ring0.ne_fr (h : Ring0 enc tr tp tf w rb fb mb bs st) (h1 : tr ≠ tf) (h2 : tp ≠ tf) {g : Nat} (hg : some g ∈ bs) : g ≠ rb ∧ g ≠ fb := by
  obtain ⟨i, hi⟩ := List.mem_iff_getElem?.1 hg
  have hlt : i < st.fs.length := by rw [← h.len]; exact (List.getElem?_eq_some_iff.1 hi).1
  have ho : st.fs[i]? = some st.fs[i] := List.getElem?_eq_getElem hlt
  have hx := h.fr i _ _ hi ho
  cases e : st.fs[i] with
  | none => rw [e] at hx; exact hx.elim
  | some f =>
    rw [e] at hx
    exact ⟨fun e => (Blk.ne_ hx h.ring (Ne.symm h1)) e, fun e => (Blk.ne_ hx h.arr (Ne.symm h2)) e⟩

theorem Ring0.ne_rf (h : Ring0 enc tr tp tf w rb fb mb bs st) (h1 : tr ≠ tp) : rb ≠ fb := Blk.ne_ h.ring h.arr h1

theorem Ring0.ne_m (h : Ring0 enc tr tp tf w rb fb mb bs st) {l : List (Int × Value)} (hV : VMap w P kt mb l) : rb ≠ mb ∧ fb ≠ mb ∧ ∀ g, some g ∈ bs → g ≠ mb := by
  refine ⟨h.ring.ne_map hV, h.arr.ne_map hV, fun g hg => ?_⟩
  obtain ⟨i, hi⟩ := List.mem_iff_getElem?.1 hg
  have hlt : i < st.fs.length := by rw [← h.len]; exact (List.getElem?_eq_some_iff.1 hi).1
  have ho : st.fs[i]? = some st.fs[i] := List.getElem?_eq_getElem hlt
  have hx := h.fr i _ _ hi ho
  cases e : st.fs[i] with
  | none => rw [e] at hx; exact hx.elim
  | some f => rw [e] at hx; exact Blk.ne_map hx hV

/-- A new block comes into frame i. -/
theorem Ring0.put (h : Ring0 enc tr tp tf w rb fb mb bs st) {i g : Nat} {f : Fm V} (hi : i < st.fs.length) (hF : Fr (fun b => b = fb) w w') (hA : Blk w' fb tp ((bs.set i (some g)).map ptrOf)) (hB : Blk w' g tf (frCells enc f)) (hg : w.heap.size ≤ g) (hne : rb ≠ fb) (hne3 : ∀ g, some g ∈ bs → g ≠ fb) :
    Ring0 enc tr tp tf w' rb fb mb (bs.set i (some g)) ⟨st.fs.set i (some f), st.hand⟩ := by
  have hnew : ∀ j, bs[j]? ≠ some (some g) := fun j hj => by have := h.block_lt (List.mem_of_getElem? hj); omega
  refine ⟨?_, hA, by simpa using h.len, fun j b o hj ho => ?_, fun a b x ha hb => ?_⟩
  · have := h.ring.fr hF hne
    simpa using this
  · simp only [List.getElem?_set] at ho hj
    split at ho
    · rename_i hij
      rw [if_pos hij] at hj
      cases ho
      split at hj
      · cases hj; exact hB
      · cases hj
    · rename_i hij
      rw [if_neg hij] at hj
      exact (h.fr j b o hj ho).fr hF fun g' hg' => hne3 g' (hg' ▸ List.mem_of_getElem? hj)
  · simp only [List.getElem?_set] at ha hb
    split at ha
    · rename_i h1
      split at ha
      · cases ha
        split at hb
        · rename_i h2; omega
        · exact absurd hb (hnew b)
      · cases ha
    · split at hb
      · split at hb
        · cases hb; exact absurd ha (hnew a)
        · cases hb
      · exact h.inj a b x ha hb

/-- Frame i is vacant now. -/
theorem Ring0.del (h : Ring0 enc tr tp tf w rb fb mb bs st) {i : Nat} (hF : Fr (fun b => b = fb) w w') (hA : Blk w' fb tp ((bs.set i none).map ptrOf)) (hne : rb ≠ fb) (hne3 : ∀ g, some g ∈ bs → g ≠ fb) :
    Ring0 enc tr tp tf w' rb fb mb (bs.set i none) ⟨st.fs.set i none, st.hand⟩ := by
  refine ⟨?_, hA, by simpa using h.len, fun j b o hj ho => ?_, fun a b x ha hb => ?_⟩
  · have := h.ring.fr hF hne
    simpa using this
  · simp only [List.getElem?_set] at ho hj
    split at ho
    · rename_i hij
      rw [if_pos hij] at hj
      split at ho
      · split at hj
        · cases ho; cases hj; trivial
        · cases hj
      · cases ho
    · rename_i hij
      rw [if_neg hij] at hj
      exact (h.fr j b o hj ho).fr hF fun g' hg' => hne3 g' (hg' ▸ List.mem_of_getElem? hj)
  · simp only [List.getElem?_set] at ha hb
    split at ha
    · split at ha <;> cases ha
    · split at hb
      · split at hb <;> cases hb
      · exact h.inj a b x ha hb

theorem map_set_ptr (bs : List (Option Nat)) (i : Nat) (o : Option Nat) : (bs.map ptrOf).set i (ptrOf o) = (bs.set i o).map ptrOf := by
  rw [List.map_set]
end

end memory

def newN (n : Int) : Nat := (min (max n 1) 64).toNat

theorem made_replicate (z : Value) (n : Nat) : madeCells #[z] n = (List.replicate n z).toArray := by
  unfold madeCells
  refine Array.ext (by simp) fun i h1 h2 => ?_
  simp [Nat.mod_one]

/-- What becomes of a ring's blocks: none but new ones come. -/
def newer (w : World) (bs bs' : List (Option Nat)) : Prop := ∀ g, some g ∈ bs' → some g ∈ bs ∨ w.heap.size ≤ g

theorem newer_refl (w : World) (bs : List (Option Nat)) : newer w bs bs := fun _ h => .inl h
theorem newer_set {w : World} {bs : List (Option Nat)} (i : Nat) {g : Nat} (hg : w.heap.size ≤ g) : newer w bs (bs.set i (some g)) := by
  intro x hx
  rcases List.mem_or_eq_of_mem_set hx with h | h
  · exact .inl h
  · cases h; exact .inr hg
theorem newer_del {w : World} {bs : List (Option Nat)} (i : Nat) : newer w bs (bs.set i none) := by
  intro x hx
  rcases List.mem_or_eq_of_mem_set hx with h | h
  · exact .inl h
  · cases h

end Go.Proofs.Ytbiaompkmabfjaa
