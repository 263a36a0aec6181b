/- The ring with int values: contracts over the plain functions. -/
import Derived.Test.YtbiaompkmabfjaaRingH
namespace Go.Proofs.Ytbiaompkmabfjaa
open Go.Maps Go.RowKit

/-- A ring that came behind w0 and lies outside the blocks X. -/
def HasI (w0 : World) (X : Nat → Prop) (rb fb mb : Nat) (st : RS Int) (top : Int) (w : World) : Prop :=
  ∃ bs, RingI w rb fb mb bs st ∧ RInv st top ∧ (∀ b, b < w0.heap.size ∨ X b → b < w.heap.size ∧ ¬ foot rb fb mb bs b) ∧ Fr (fun _ => False) w0 w

def valOI : Option Int → Value
  | some v => Value.int .i64 v
  | none => Value.int .i64 0

section
variable {w0 w : World} {X : Nat → Prop} {rb fb mb : Nat} {st st' : RS Int} {top : Int}

theorem HasI.tops (h : HasI w0 X rb fb mb st top w) {t : Int} (ht : top ≤ t) : HasI w0 X rb fb mb st t w := by
  obtain ⟨bs, h1, h2, h3, h4⟩ := h
  exact ⟨bs, h1, h2.top ht, h3, h4⟩

theorem HasI.inv (h : HasI w0 X rb fb mb st top w) : RInv st top := by obtain ⟨bs, h1, h2, h3, h4⟩ := h; exact h2
theorem HasI.fr (h : HasI w0 X rb fb mb st top w) : Fr (fun _ => False) w0 w := by obtain ⟨bs, h1, h2, h3, h4⟩ := h; exact h4
theorem HasI.below (h : HasI w0 X rb fb mb st top w) : Below w0.heap.size w0 w := h.fr.to_below

theorem HasI.sub (h : HasI w0 X rb fb mb st top w) {Y : Nat → Prop} (hY : ∀ b, Y b → X b) : HasI w0 Y rb fb mb st top w := by
  obtain ⟨bs, h1, h2, h3, h4⟩ := h
  exact ⟨bs, h1, h2, fun b hb => h3 b (hb.imp id (hY b)), h4⟩

theorem HasI.alloc (h : HasI w0 X rb fb mb st top w) (o : Obj) : HasI w0 (fun b => X b ∨ b = w.heap.size) rb fb mb st top (w.alloc o) := by
  obtain ⟨bs, h1, h2, h3, h4⟩ := h
  have hA : Fr (fun _ => False) w (w.alloc o) := (Fr.refl _ _).alloc _
  have hs : (w.alloc o).heap.size = w.heap.size + 1 := Array.size_push _
  refine ⟨bs, h1.keep hA (fun _ _ e => e), h2, fun b hb => ?_, h4.trans hA (fun _ _ e => e)⟩
  rcases hb with hb | hb | hb
  · have := h3 b (.inl hb); exact ⟨by omega, this.2⟩
  · have := h3 b (.inr hb); exact ⟨by omega, this.2⟩
  · exact ⟨by omega, fun hf => by have := h1.foot_lt hf; omega⟩

theorem HasI.drew (h : HasI w0 X rb fb mb st top w) : HasI w0 X rb fb mb st top w.drew := by
  obtain ⟨bs, h1, h2, h3, h4⟩ := h
  exact ⟨bs, ⟨h1.1.drew, h1.2.drew⟩, h2, h3, h4.drew⟩

/-- What lies elsewhere turns. -/
theorem HasI.far (h : HasI w0 X rb fb mb st top w) {w' : World} {S : Nat → Prop} (hF : Fr S w w') (hS : ∀ b, S b → X b ∧ w0.heap.size ≤ b) : HasI w0 X rb fb mb st top w' := by
  obtain ⟨bs, h1, h2, h3, h4⟩ := h
  refine ⟨bs, h1.keep hF fun b hb hs => (h3 b (.inr (hS b hs).1)).2 hb, h2, fun b hb => ⟨Nat.lt_of_lt_of_le (h3 b hb).1 hF.size, (h3 b hb).2⟩, h4.trans hF fun b hb hs => by have := (hS b hs).2; omega⟩

theorem HasI.new_ (n : Int) (hn : in64 n) (w0 w : World) (X : Nat → Prop) (hX : ∀ b, X b → b < w.heap.size) (hF : Fr (fun _ => False) w0 w) :
    Calls Try.prog 9 #[.int .i64 n] w fun e w' => ∃ rb fb mb, e = .returned (.pointer (some ⟨rb, 0, none⟩)) ∧
      HasI w0 X rb fb mb ⟨List.replicate (newN n) none, 0⟩ 0 w' ∧ Fr (fun _ => False) w w' := by
  refine (NewI_calls n hn w).mono fun e w' ⟨h1, h2, h3⟩ => ⟨_, _, _, h1, ⟨_, h2, inv_new n, fun b hb => ?_, hF.trans h3 (fun _ _ e => e)⟩, h3⟩
  have hb' : b < w.heap.size := by
    rcases hb with hb | hb
    · exact Nat.lt_of_lt_of_le hb hF.size
    · exact hX b hb
  refine ⟨Nat.lt_of_lt_of_le hb' h3.size, ?_⟩
  rintro (h | h | h | h)
  · omega
  · omega
  · omega
  · have := (List.mem_replicate.1 h).2; cases this

theorem HasI.step {bs bs' : List (Option Nat)} {w' : World} {t : Int} (h3 : ∀ b, b < w0.heap.size ∨ X b → b < w.heap.size ∧ ¬ foot rb fb mb bs b) (h4 : Fr (fun _ => False) w0 w) (hR : RingI w' rb fb mb bs' st') (hI : RInv st' t) (hn : newer w bs bs') (hF : Fr (foot rb fb mb bs) w w') :
    HasI w0 X rb fb mb st' t w' ∧ Fr (KX w0 X) w w' := by
  refine ⟨⟨bs', hR, hI, fun b hb => ⟨Nat.lt_of_lt_of_le (h3 b hb).1 hF.size, foot_newer hn (h3 b hb).1 (h3 b hb).2⟩, h4.trans hF fun b hb hf => ((h3 b (.inl hb)).2 hf).elim⟩, hF.mono fun b _ hf hx => (h3 b hx).2 hf⟩

theorem HasI.kx_refl : Fr (KX w0 X) w w := Fr.refl _ _

theorem HasI.put (h : HasI w0 X rb fb mb st top w) (ht : 0 ≤ top) (k : Int) (hk : in64 k) (v : Int) {o : Option (Fm Int)} {ok : Bool} (hp : rPut k v st = (o, ok, st')) :
    Calls Try.prog 10 #[.pointer (some ⟨rb, 0, none⟩), .int .i64 k, Value.int .i64 v] w fun e w' => e = .returned (.tuple #[outVI o, .bool ok]) ∧
      HasI w0 X rb fb mb st' top w' ∧ Fr (KX w0 X) w w' := by
  obtain ⟨bs, h1, h2, h3, h4⟩ := h
  refine (PutI_eq w rb fb mb bs st h1 h2 ht k hk v hp).mono fun e w' ⟨g1, ⟨bs', gn, g2⟩, g3, g4⟩ => ⟨g1, HasI.step h3 h4 g2 g3 gn g4⟩

theorem HasI.get (h : HasI w0 X rb fb mb st top w) (k : Int) (hk : in64 k) {o : Option Int} (hp : rGet k st = (o, st')) :
    Calls Try.prog 11 #[.pointer (some ⟨rb, 0, none⟩), .int .i64 k] w fun e w' => e = .returned (.tuple #[valOI o, .bool o.isSome]) ∧
      HasI w0 X rb fb mb st' top w' ∧ Fr (KX w0 X) w w' := by
  obtain ⟨bs, h1, h2, h3, h4⟩ := h
  unfold rGet at hp
  cases e : rAt k st with
  | none =>
    rw [e] at hp; cases hp
    refine (GetI_none w rb fb mb bs st h1 k hk (rAt_none.1 e)).mono ?_
    rintro e w' ⟨rfl, rfl⟩
    exact ⟨rfl, HasI.step h3 h4 h1 h2 (newer_refl w bs) (Fr.refl _ _)⟩
  | some x =>
    obtain ⟨i, f⟩ := x
    rw [e] at hp; cases hp
    obtain ⟨hi, hf⟩ := rAt_some.1 e
    refine (GetI_some w rb fb mb bs st h1 h2 k hk i f hi hf).mono fun e w' ⟨g1, g2, g3⟩ => ⟨g1, HasI.step h3 h4 g2 (h2.set_ (g := { f with fresh := true }) hf rfl (h2.pins i f hf) _ h2.hand) (newer_refl w bs) g3⟩

theorem HasI.del (h : HasI w0 X rb fb mb st top w) (k : Int) (hk : in64 k) {o : Option Int} (hp : rDel k st = (o, st')) :
    Calls Try.prog 32 #[.pointer (some ⟨rb, 0, none⟩), .int .i64 k] w fun e w' => e = .returned (.tuple #[valOI o, .bool o.isSome]) ∧
      HasI w0 X rb fb mb st' top w' ∧ Fr (KX w0 X) w w' := by
  obtain ⟨bs, h1, h2, h3, h4⟩ := h
  unfold rDel at hp
  cases e : rAt k st with
  | none =>
    rw [e] at hp; cases hp
    refine (DelI_none w rb fb mb bs st h1 k hk (rAt_none.1 e)).mono ?_
    rintro e w' ⟨rfl, rfl⟩
    exact ⟨rfl, HasI.step h3 h4 h1 h2 (newer_refl w bs) (Fr.refl _ _)⟩
  | some x =>
    obtain ⟨i, f⟩ := x
    rw [e] at hp; cases hp
    obtain ⟨hi, hf⟩ := rAt_some.1 e
    refine (DelI_some w rb fb mb bs st h1 h2 k hk i f hi hf).mono fun e w' ⟨g1, g2, g3⟩ => ⟨g1, HasI.step h3 h4 g2 (h2.del i) (newer_del i) g3⟩

theorem HasI.pin (h : HasI w0 X rb fb mb st top w) (ht : top ≤ 1000000) (k : Int) (hk : in64 k) {o : Bool} (hp : rPin k st = (o, st')) :
    Calls Try.prog 13 #[.pointer (some ⟨rb, 0, none⟩), .int .i64 k] w fun e w' => e = .returned (.bool o) ∧
      HasI w0 X rb fb mb st' (top + 1) w' ∧ Fr (KX w0 X) w w' := by
  obtain ⟨bs, h1, h2, h3, h4⟩ := h
  unfold rPin at hp
  cases e : rAt k st with
  | none =>
    rw [e] at hp; cases hp
    refine (PinI_none w rb fb mb bs st h1 k hk (rAt_none.1 e)).mono ?_
    rintro e w' ⟨rfl, rfl⟩
    exact ⟨rfl, HasI.step h3 h4 h1 (h2.top (by omega)) (newer_refl w bs) (Fr.refl _ _)⟩
  | some x =>
    obtain ⟨i, f⟩ := x
    rw [e] at hp; cases hp
    obtain ⟨hi, hf⟩ := rAt_some.1 e
    have hq := h2.pins i f hf
    refine (PinI_some w rb fb mb bs st h1 h2 k hk i f hi hf ht).mono fun e w' ⟨g1, g2, g3⟩ => ⟨g1, HasI.step h3 h4 g2 ((h2.top (b := top + 1) (by omega)).set_ (g := { f with pins := f.pins + 1 }) hf rfl ⟨by simp only; omega, by simp only; omega⟩ _ h2.hand) (newer_refl w bs) g3⟩

theorem HasI.let_ (h : HasI w0 X rb fb mb st top w) (ht : top ≤ 1000000) (k : Int) (hk : in64 k) {o : Bool} (hp : rLet k st = (o, st')) :
    Calls Try.prog 33 #[.pointer (some ⟨rb, 0, none⟩), .int .i64 k] w fun e w' => e = .returned (.bool o) ∧
      HasI w0 X rb fb mb st' top w' ∧ Fr (KX w0 X) w w' := by
  obtain ⟨bs, h1, h2, h3, h4⟩ := h
  unfold rLet at hp
  cases e : rAt k st with
  | none =>
    rw [e] at hp; cases hp
    refine (LetI_none w rb fb mb bs st h1 k hk (rAt_none.1 e)).mono ?_
    rintro e w' ⟨rfl, rfl⟩
    exact ⟨rfl, HasI.step h3 h4 h1 h2 (newer_refl w bs) (Fr.refl _ _)⟩
  | some x =>
    obtain ⟨i, f⟩ := x
    rw [e] at hp
    obtain ⟨hi, hf⟩ := rAt_some.1 e
    have hq := h2.pins i f hf
    simp only at hp
    split at hp
    · rename_i hz
      cases hp
      refine (LetI_zero w rb fb mb bs st h1 h2 k hk i f hi hf hz).mono ?_
      rintro e w' ⟨rfl, rfl⟩
      exact ⟨rfl, HasI.step h3 h4 h1 h2 (newer_refl w bs) (Fr.refl _ _)⟩
    · cases hp
      refine (LetI_some w rb fb mb bs st h1 h2 k hk i f hi hf ht (by omega)).mono fun e w' ⟨g1, g2, g3⟩ => ⟨g1, HasI.step h3 h4 g2 (h2.set_ (g := { f with pins := f.pins - 1 }) hf rfl ⟨by simp only; omega, by simp only; omega⟩ _ h2.hand) (newer_refl w bs) g3⟩

theorem HasI.pins (h : HasI w0 X rb fb mb st top w) (k : Int) (hk : in64 k) :
    Calls Try.prog 14 #[.pointer (some ⟨rb, 0, none⟩), .int .i64 k] w fun e w' => e = .returned (.int .i64 (rPins k st)) ∧ w = w' := by
  obtain ⟨bs, h1, h2, h3, h4⟩ := h
  unfold rPins
  cases e : rAt k st with
  | none => exact PinsI_none w rb fb mb bs st h1 k hk (rAt_none.1 e)
  | some x =>
    obtain ⟨i, f⟩ := x
    obtain ⟨hi, hf⟩ := rAt_some.1 e
    exact PinsI_some w rb fb mb bs st h1 h2 k hk i f hi hf

theorem HasI.len (h : HasI w0 X rb fb mb st top w) :
    Calls Try.prog 12 #[.pointer (some ⟨rb, 0, none⟩)] w fun e w' => e = .returned (.int .i64 (rCnt st.fs)) ∧ w = w' := by
  obtain ⟨bs, h1, h2, h3, h4⟩ := h
  exact LenI_calls w rb fb mb bs st h1
end

end Go.Proofs.Ytbiaompkmabfjaa
