/- The ring: what its methods do, plainly. -/
import Derived.Test.YtbiaompkmabfjaaRingTab
namespace Go.Proofs.Ytbiaompkmabfjaa
open Go.Maps Go.RowKit

section
variable {V : Type}

/-- a key's thing and its place -/
def rAt (k : Int) (st : RS V) : Option (Nat × Fm V) := match rIdx k st.fs with
  | none => none
  | some i => match st.fs[i]? with
    | some (some f) => some (i, f)
    | _ => none

theorem rAt_none {k : Int} {st : RS V} : rAt k st = none ↔ rIdx k st.fs = none := by
  unfold rAt
  constructor
  · intro h
    cases e : rIdx k st.fs with
    | none => rfl
    | some i =>
      obtain ⟨f, hf, _⟩ := rIdx_some e
      rw [e] at h
      simp only [hf] at h
      cases h
  · intro h; rw [h]

theorem rAt_some {k : Int} {st : RS V} {i : Nat} {f : Fm V} : rAt k st = some (i, f) ↔ rIdx k st.fs = some i ∧ st.fs[i]? = some (some f) := by
  unfold rAt
  constructor
  · intro h
    cases e : rIdx k st.fs with
    | none => rw [e] at h; cases h
    | some j =>
      rw [e] at h
      obtain ⟨g, hg, _⟩ := rIdx_some e
      simp only [hg] at h
      cases h
      exact ⟨rfl, hg⟩
  · rintro ⟨h1, h2⟩
    rw [h1]
    simp only [h2]

theorem rAt_key {k : Int} {st : RS V} {i : Nat} {f : Fm V} (h : rAt k st = some (i, f)) : f.key = k := by
  obtain ⟨h1, h2⟩ := rAt_some.1 h
  obtain ⟨g, hg, hk⟩ := rIdx_some h1
  rw [h2] at hg; cases hg; exact hk

/-- frame i is f now -/
def RS.up (st : RS V) (i : Nat) (o : Option (Fm V)) : RS V := ⟨st.fs.set i o, st.hand⟩

def rGet (k : Int) (st : RS V) : Option V × RS V := match rAt k st with
  | some (i, f) => (some f.val, st.up i (some { f with fresh := true }))
  | none => (none, st)

def rDel (k : Int) (st : RS V) : Option V × RS V := match rAt k st with
  | some (i, f) => (some f.val, st.up i none)
  | none => (none, st)

def rPin (k : Int) (st : RS V) : Bool × RS V := match rAt k st with
  | some (i, f) => (true, st.up i (some { f with pins := f.pins + 1 }))
  | none => (false, st)

def rLet (k : Int) (st : RS V) : Bool × RS V := match rAt k st with
  | some (i, f) => if f.pins = 0 then (false, st) else (true, st.up i (some { f with pins := f.pins - 1 }))
  | none => (false, st)

def rPins (k : Int) (st : RS V) : Int := match rAt k st with
  | some (_, f) => f.pins
  | none => 0
end

/-- the blocks that a ring leaves alone -/
def KX (w0 : World) (X : Nat → Prop) : Nat → Prop := fun b => ¬ (b < w0.heap.size ∨ X b)

end Go.Proofs.Ytbiaompkmabfjaa
