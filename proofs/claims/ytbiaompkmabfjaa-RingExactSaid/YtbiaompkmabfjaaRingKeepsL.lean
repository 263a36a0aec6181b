/- RingKeeps: the plain laws. -/
import Derived.Test.YtbiaompkmabfjaaRingHS
import Derived.Test.YtbiaompkmabfjaaRingL
import Derived.Test.YtbiaompkmabfjaaRingSecondW
namespace Go.Proofs.Ytbiaompkmabfjaa
open Go.Maps Go.RowKit

theorem bytes_self (a : ByteArray) : (a == a) = true := by
  cases a with | mk d =>
  show (d == d) = true
  simp
theorem bytes_bne_self (a : ByteArray) : (a != a) = false := by
  unfold bne; rw [bytes_self]; rfl

def rowV (g : Nat → Value) : List Value := (List.range 64).map g
theorem rowV_get {g : Nat → Value} {j : Nat} (h : j < 64) : (rowV g)[j]? = some (g j) := by simp [rowV, h]
theorem rowV_set {g g' : Nat → Value} {i : Nat} {x : Value} (h : ∀ j, g' j = if j = i then x else g j) : (rowV g).set i x = rowV g' := by
  refine List.ext_getElem? fun j => ?_
  rw [List.getElem?_set]
  by_cases hj : j < 64
  · rw [rowV_get hj, rowV_get hj, h]
    by_cases e : i = j
    · subst e; rw [if_pos rfl, if_pos (by simpa [rowV] using hj), if_pos rfl]
    · rw [if_neg e, if_neg (Ne.symm e)]
  · have h1 : (rowV g)[j]? = none := by simp [rowV]; omega
    have h2 : (rowV g')[j]? = none := by simp [rowV]; omega
    rw [h1, h2]
    by_cases e : i = j
    · rw [if_pos e, if_neg (by simp [rowV]; omega)]
    · rw [if_neg e]

def upd {α : Type} (f : Nat → α) (k : Nat) (v : α) : Nat → α := fun j => if j = k then v else f j
theorem upd_at {α : Type} (f : Nat → α) (k : Nat) (v : α) : upd f k v k = v := if_pos rfl
theorem upd_ne {α : Type} (f : Nat → α) {k j : Nat} (v : α) (h : j ≠ k) : upd f k v j = f j := if_neg h

theorem upd_self {α : Type} {f : Nat → α} {k : Nat} {v : α} (h : f k = v) : upd f k v = f := by
  funext j
  unfold upd
  split
  · rename_i e; rw [e, h]
  · rfl

theorem cnt_pos {V : Type} {st : RS V} {k : Int} {p : V × Int} (h : rLook k st = some p) : 1 ≤ rCnt st.fs := by
  unfold rLook at h
  cases e : rAt k st with
  | none => rw [e] at h; cases h
  | some x =>
    obtain ⟨i, f⟩ := x
    have := rCnt_del (rAt_some.1 e).2
    omega

/-- what the law's slices say of the ring -/
structure KR (F : Nat) (st : RS ByteArray) (val : Nat → ByteArray) (here : Nat → Bool) (pin : Nat → Int) : Prop where
  len : st.fs.length = F
  at_ : ∀ k : Nat, k < 64 → rLook (k : Int) st = if here k = true then some (val k, pin k) else none
  no : ∀ k : Int, k < 0 ∨ 64 ≤ k → rLook k st = none

theorem KR.same {F : Nat} {st st' : RS ByteArray} {val : Nat → ByteArray} {here : Nat → Bool} {pin : Nat → Int} (h : KR F st val here pin) (hl : ∀ k, rLook k st' = rLook k st) (hn : st'.fs.length = st.fs.length) : KR F st' val here pin :=
  ⟨hn.trans h.len, fun k hk => by rw [hl]; exact h.at_ k hk, fun k hk => by rw [hl]; exact h.no k hk⟩

/-- one key's thing turns -/
theorem KR.turn {F : Nat} {st st' : RS ByteArray} {val val' : Nat → ByteArray} {here here' : Nat → Bool} {pin pin' : Nat → Int} (h : KR F st val here pin) {k : Nat} (hk : k < 64)
    (hl : ∀ k' : Int, k' ≠ k → rLook k' st' = rLook k' st) (hkl : rLook (k : Int) st' = if here' k = true then some (val' k, pin' k) else none) (hn : st'.fs.length = st.fs.length)
    (hv : ∀ j, j ≠ k → val' j = val j) (hh : ∀ j, j ≠ k → here' j = here j) (hp : ∀ j, j ≠ k → pin' j = pin j) : KR F st' val' here' pin' := by
  refine ⟨hn.trans h.len, fun j hj => ?_, fun j hj => ?_⟩
  · by_cases e : j = k
    · subst e; exact hkl
    · rw [hl _ (by omega), hv j e, hh j e, hp j e]; exact h.at_ j hj
  · rw [hl _ (by omega)]; exact h.no j hj

/-- What Put answers to a law that keeps such slices. -/
inductive KPut (F : Nat) (k : Nat) (v : ByteArray) (st : RS ByteArray) (val : Nat → ByteArray) (here : Nat → Bool) (pin : Nat → Int) : Option (Fm ByteArray) → Bool → RS ByteArray → Prop
  | have_ (st' : RS ByteArray) (hh : here k = true) (hK : KR F st' (upd val k v) here pin) (hc : rCnt st'.fs = rCnt st.fs) : KPut F k v st val here pin none true st'
  | vacant (st' : RS ByteArray) (hh : here k = false) (hK : KR F st' (upd val k v) (upd here k true) (upd pin k 0)) (hc : rCnt st'.fs = rCnt st.fs + 1) : KPut F k v st val here pin none true st'
  | full (hh : here k = false) (hc : rCnt st.fs = F) : KPut F k v st val here pin none false st
  | leave (f : Fm ByteArray) (g : Nat) (st' : RS ByteArray) (hk : f.key = (g : Int)) (hv : f.val = val g) (hh : here k = false) (hg : g < 64) (hgk : g ≠ k) (hhg : here g = true) (hpg : pin g = 0) (hK : KR F st' (upd val k v) (upd (upd here g false) k true) (upd pin k 0)) (hc : rCnt st'.fs = rCnt st.fs) (hF : rCnt st.fs = F) : KPut F k v st val here pin (some f) true st'

theorem kput {F k : Nat} {v : ByteArray} {st : RS ByteArray} {val : Nat → ByteArray} {here : Nat → Bool} {pin : Nat → Int} {top : Int} (h : KR F st val here pin) (hI : RInv st top) (hk : k < 64) :
    KPut F k v st val here pin (rPut (k : Int) v st).1 (rPut (k : Int) v st).2.1 (rPut (k : Int) v st).2.2 := by
  obtain ⟨L, hl⟩ := put_law hI (k : Int) v
  rcases hp : rPut (k : Int) v st with ⟨o, ok, st'⟩
  rw [hp] at L hl
  simp only at L hl ⊢
  have hat := h.at_ k hk
  have hlen := h.len
  cases L with
  | have_ p _ g1 g2 g3 =>
    have hh : here k = true := by
      cases e : here k with
      | true => rfl
      | false => rw [e] at hat; rw [hat] at g1; simp at g1
    rw [if_pos hh, g1] at hat
    cases hat
    refine .have_ st' hh (h.turn hk (fun k' hk' => by rw [g2, if_neg hk']) (by rw [g2, if_pos rfl, if_pos hh, upd_at]) hl (fun j hj => upd_ne _ _ hj) (fun _ _ => rfl) (fun _ _ => rfl)) g3
  | vacant _ g1 g2 g3 g4 =>
    have hh : here k = false := by
      cases e : here k with
      | false => rfl
      | true => rw [e, g1] at hat; simp at hat
    refine .vacant st' hh (h.turn hk (fun k' hk' => by rw [g2, if_neg hk']) (by rw [g2, if_pos rfl, upd_at, if_pos rfl, upd_at, upd_at]) hl (fun j hj => upd_ne _ _ hj) (fun j hj => upd_ne _ _ hj) (fun j hj => upd_ne _ _ hj)) g4
  | full g1 g2 g3 =>
    have hh : here k = false := by
      cases e : here k with
      | false => rfl
      | true => rw [e, g1] at hat; simp at hat
    exact .full hh (g2.trans hlen)
  | leave f _ g1 g2 g3 g4 g5 =>
    have hh : here k = false := by
      cases e : here k with
      | false => rfl
      | true => rw [e, g1] at hat; simp at hat
    have hr : 0 ≤ f.key ∧ f.key < 64 := by
      by_cases e : 0 ≤ f.key ∧ f.key < 64
      · exact e
      · rw [h.no f.key (by omega)] at g2; cases g2
    obtain ⟨g, hg⟩ : ∃ g : Nat, f.key = (g : Int) := ⟨f.key.toNat, by omega⟩
    have hg64 : g < 64 := by omega
    have hag := h.at_ g hg64
    rw [← hg, g2] at hag
    have hhg : here g = true := by
      cases e : here g with
      | true => rfl
      | false => rw [e] at hag; simp at hag
    rw [if_pos hhg] at hag
    simp only [Option.some.injEq, Prod.mk.injEq] at hag
    have hgk : g ≠ k := by rintro rfl; rw [hh] at hhg; cases hhg
    refine .leave f g st' hg hag.1 hh hg64 hgk hhg hag.2.symm ⟨hl.trans hlen, fun j hj => ?_, fun j hj => ?_⟩ g5 (g4.trans hlen)
    · rw [g3, hg]
      by_cases e : j = k
      · subst e; rw [if_pos rfl, upd_at, if_pos rfl, upd_at, upd_at]
      · rw [if_neg (by omega), upd_ne _ _ e, upd_ne _ _ e, upd_ne _ _ e]
        by_cases e2 : j = g
        · subst e2; rw [if_pos rfl, upd_at]; rfl
        · rw [if_neg (by omega), upd_ne _ _ e2]; exact h.at_ j hj
    · rw [g3, if_neg (by omega), if_neg (by omega)]; exact h.no j hj

theorem kget {F k : Nat} {st : RS ByteArray} {val : Nat → ByteArray} {here : Nat → Bool} {pin : Nat → Int} {top : Int} (h : KR F st val here pin) (hI : RInv st top) (hk : k < 64) :
    ∃ st', rGet (k : Int) st = (if here k = true then some (val k) else none, st') ∧ KR F st' val here pin ∧ rCnt st'.fs = rCnt st.fs := by
  obtain ⟨g1, g2, g3, g4⟩ := get_law hI (k : Int)
  refine ⟨_, Prod.ext ?_ rfl, h.same g2 g4, g3⟩
  rw [g1, h.at_ k hk]
  split <;> rfl

theorem kdel {F k : Nat} {st : RS ByteArray} {val : Nat → ByteArray} {here : Nat → Bool} {pin : Nat → Int} {top : Int} (h : KR F st val here pin) (hI : RInv st top) (hk : k < 64) :
    ∃ st', rDel (k : Int) st = (if here k = true then some (val k) else none, st') ∧ KR F st' val (upd here k false) pin ∧ rCnt st'.fs = rCnt st.fs - (if here k = true then 1 else 0) := by
  obtain ⟨g1, g2, g3, g4⟩ := del_law hI (k : Int)
  refine ⟨_, Prod.ext ?_ rfl, h.turn hk (fun k' hk' => by rw [g2, if_neg hk']) (by rw [g2, if_pos rfl, upd_at]; rfl) g4 (fun _ _ => rfl) (fun j hj => upd_ne _ _ hj) (fun _ _ => rfl), ?_⟩
  · rw [g1, h.at_ k hk]
    split <;> rfl
  · rw [g3, h.at_ k hk]
    cases here k <;> rfl

theorem kpin {F k : Nat} {st : RS ByteArray} {val : Nat → ByteArray} {here : Nat → Bool} {pin : Nat → Int} {top : Int} (h : KR F st val here pin) (hI : RInv st top) (hk : k < 64) :
    ∃ st', rPin (k : Int) st = (here k, st') ∧ KR F st' val here (if here k = true then upd pin k (pin k + 1) else pin) ∧ rCnt st'.fs = rCnt st.fs := by
  obtain ⟨g1, g2, g3, g4⟩ := pin_law hI (k : Int)
  refine ⟨_, Prod.ext ?_ rfl, ?_, g3⟩
  · rw [g1, h.at_ k hk]
    cases here k <;> rfl
  · cases e : here k with
    | true =>
      simp only [if_true]
      refine h.turn hk (fun k' hk' => by rw [g2, if_neg hk']) ?_ g4 (fun _ _ => rfl) (fun _ _ => rfl) (fun j hj => upd_ne _ _ hj)
      rw [g2, if_pos rfl, h.at_ k hk, if_pos e, if_pos e, upd_at]; rfl
    | false =>
      simp only [Bool.false_eq_true, if_false]
      refine h.same (fun k' => ?_) g4
      rw [g2]
      split
      · rename_i e2; rw [e2, h.at_ k hk, e]; rfl
      · rfl

theorem klet {F k : Nat} {st : RS ByteArray} {val : Nat → ByteArray} {here : Nat → Bool} {pin : Nat → Int} {top : Int} (h : KR F st val here pin) (hI : RInv st top) (hk : k < 64) :
    ∃ st', rLet (k : Int) st = (here k && decide (0 < pin k), st') ∧ KR F st' val here (if (here k && decide (0 < pin k)) = true then upd pin k (pin k - 1) else pin) ∧ rCnt st'.fs = rCnt st.fs := by
  obtain ⟨g1, g2, g3, g4⟩ := let_law hI (k : Int)
  have e1 : (rLet (k : Int) st).1 = (here k && decide (0 < pin k)) := by
    rw [g1, h.at_ k hk]
    cases here k <;> simp
  refine ⟨_, Prod.ext e1 rfl, ?_, g3⟩
  rw [e1] at g2
  cases e : (here k && decide (0 < pin k)) with
  | true =>
    rw [e] at g2
    have hh : here k = true := by rw [Bool.and_eq_true] at e; exact e.1
    simp only [if_true]
    refine h.turn hk (fun k' hk' => by rw [g2, if_neg (fun x => hk' x.1)]) ?_ g4 (fun _ _ => rfl) (fun _ _ => rfl) (fun j hj => upd_ne _ _ hj)
    rw [g2, if_pos ⟨rfl, rfl⟩, h.at_ k hk, if_pos hh, if_pos hh, upd_at]; rfl
  | false =>
    rw [e] at g2
    simp only [Bool.false_eq_true, if_false]
    exact h.same (fun k' => by rw [g2, if_neg (by simp)]) g4

/-- the pins of what is at hand -/
theorem kr_pin {F k : Nat} {st : RS ByteArray} {val : Nat → ByteArray} {here : Nat → Bool} {pin : Nat → Int} {top : Int} (h : KR F st val here pin) (hI : RInv st top) (hk : k < 64) (hh : here k = true) : 0 ≤ pin k ∧ pin k ≤ top := by
  have := h.at_ k hk
  rw [if_pos hh, rl_iff hI.uniq] at this
  obtain ⟨i, f, hf, _, e⟩ := this
  have hp := hI.pins i f hf
  simp only [Prod.mk.injEq] at e
  rw [← e.2]
  exact hp

end Go.Proofs.Ytbiaompkmabfjaa
