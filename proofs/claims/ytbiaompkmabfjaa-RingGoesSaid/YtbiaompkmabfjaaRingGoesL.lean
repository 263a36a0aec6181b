/- RingGoes: what becomes of a ring whose things are taken out one by one; the nil ring. -/
import Derived.Test.YtbiaompkmabfjaaRingAllI
import Derived.Test.YtbiaompkmabfjaaRingHI
import Derived.Test.YtbiaompkmabfjaaRingAwake
import Derived.Test.YtbiaompkmabfjaaInts
namespace Go.Proofs.Ytbiaompkmabfjaa
open Go.Maps Go.RowKit

theorem rAll_pop {V : Type} {l : List (Option (Fm V))} {f : Fm V} {r : List (Fm V)} (h : rAll l = f :: r) : ∃ i : Nat, l[i]? = some (some f) ∧ rAll (l.set i none) = r := by
  induction l with
  | nil => simp [rAll] at h
  | cons o t ih =>
    cases o with
    | none =>
      obtain ⟨i, h1, h2⟩ := ih h
      exact ⟨i + 1, by simpa using h1, by simpa [rAll] using h2⟩
    | some g =>
      simp only [rAll, List.cons.injEq] at h
      obtain ⟨rfl, rfl⟩ := h
      exact ⟨0, by simp, by simp [rAll]⟩

def delAll (pre : List (Fm Int)) (st : RS Int) : RS Int := pre.foldl (fun s f => (rDel (kclip f.key) s).2) st

theorem delAll_snoc (pre : List (Fm Int)) (x : Fm Int) (st : RS Int) : delAll (pre ++ [x]) st = (rDel (kclip x.key) (delAll pre st)).2 := by simp [delAll]

theorem rDel_inv {k : Int} {st : RS Int} {top : Int} (hI : RInv st top) : RInv (rDel k st).2 top := by
  unfold rDel
  split
  · exact hI.del _
  · exact hI

theorem delAll_inv (pre : List (Fm Int)) {st : RS Int} {top : Int} (hI : RInv st top) : RInv (delAll pre st) top := by
  induction pre generalizing st with
  | nil => exact hI
  | cons f p ih => exact ih (rDel_inv hI)

theorem delAll_rest {pre rest : List (Fm Int)} {st : RS Int} {top : Int} (hI : RInv st top) (h : rAll st.fs = pre ++ rest) : rAll (delAll pre st).fs = rest := by
  induction pre generalizing st with
  | nil => exact h
  | cons f p ih =>
    obtain ⟨i, h1, h2⟩ := rAll_pop h
    have hk : kclip f.key = f.key := kclip_eq (hI.key i f h1)
    have hr : rAt f.key st = some (i, f) := rAt_some.2 ⟨rIdx_of hI.uniq h1 rfl, h1⟩
    have hd : (rDel (kclip f.key) st).2 = st.up i none := by unfold rDel; rw [hk, hr]
    show rAll (delAll p (rDel (kclip f.key) st).2).fs = rest
    rw [hd]
    exact ih (hI.del i) h2

theorem delAll_cnt {pre : List (Fm Int)} {st : RS Int} {top : Int} (hI : RInv st top) (h : pre <+: rAll st.fs) : rCnt (delAll pre st).fs + pre.length = rCnt st.fs := by
  obtain ⟨rest, hr⟩ := h
  have h1 := delAll_rest hI hr.symm
  rw [← rAll_len, ← rAll_len, h1, ← hr, List.length_append]
  omega

theorem keepsFrom_of_fr {B : Nat} {S : Nat → Prop} {W W' : World} (h : Fr S W W') (hS : ∀ b, S b → b < B) : KeepsFrom B W W' :=
  ⟨h.size, fun k _ hB hk _ => (h.block k (Array.getElem?_eq_some_iff.1 hk).1 (fun hs => by have := hS k hs; omega)).trans hk⟩

theorem DelI_any {w : World} {rb fb mb : Nat} {bs : List (Option Nat)} {st : RS Int} (hR : RingI w rb fb mb bs st) {top : Int} (hI : RInv st top) (k : Int) (hk : in64 k) :
    Calls Try.prog 32 #[.pointer (some ⟨rb, 0, none⟩), .int .i64 k] w fun e w' => (∃ a b, e = .returned (.tuple #[a, b])) ∧
      (∃ bs', RingI w' rb fb mb bs' (rDel k st).2 ∧ ∀ b, foot rb fb mb bs' b → foot rb fb mb bs b) ∧ Fr (foot rb fb mb bs) w w' := by
  unfold rDel
  cases e : rAt k st with
  | none =>
    refine (DelI_none w rb fb mb bs st hR k hk (rAt_none.1 e)).mono ?_
    rintro e w' ⟨rfl, rfl⟩
    exact ⟨⟨_, _, rfl⟩, ⟨bs, hR, fun _ h => h⟩, Fr.refl _ _⟩
  | some x =>
    obtain ⟨i, f⟩ := x
    obtain ⟨hi, hf⟩ := rAt_some.1 e
    refine (DelI_some w rb fb mb bs st hR hI k hk i f hi hf).mono ?_
    rintro e w' ⟨rfl, g2, g3⟩
    refine ⟨⟨_, _, rfl⟩, ⟨bs.set i none, g2, fun b hb => ?_⟩, g3⟩
    rcases hb with h | h | h | h
    · exact .inl h
    · exact .inr (.inl h)
    · exact .inr (.inr (.inl h))
    · rcases List.mem_or_eq_of_mem_set h with h | h
      · exact .inr (.inr (.inr h))
      · cases h

/-- Where RingGoes' loop stands when pre has come: w6 the world in which it began; the number's block nb, the stop's ob, the ring's own pb. -/
structure GoI (w6 : World) (pb ob nb : Nat) (rb fb mb : Nat) (bs : List (Option Nat)) (stop : Int) (st : RS Int) (pre : List (Fm Int)) (W : World) : Prop where
  ring : ∃ bs', RingI W rb fb mb bs' (delAll pre st) ∧ ∀ b, foot rb fb mb bs' b → foot rb fb mb bs b
  fr : Fr (fun b => foot rb fb mb bs b ∨ b = nb) w6 W
  n : Blk W nb 3 [.int .i64 (pre.length : Int)]
  o : Blk W ob 3 [.int .i64 stop]
  p : Blk W pb 24 [.pointer (some ⟨rb, 0, none⟩)]

theorem GoI.grown {w6 : World} {pb ob nb : Nat} {rb fb mb : Nat} {bs : List (Option Nat)} {stop : Int} {st : RS Int} {pre : List (Fm Int)} {W W' : World} {row : Option Nat}
    (h : GoI w6 pb ob nb rb fb mb bs stop st pre W) (h1 : pb < w6.heap.size) (h2 : ob < w6.heap.size) (h3 : nb < w6.heap.size) (hlt : ∀ b, foot rb fb mb bs b → b < w6.heap.size)
    (hg : W.grownBy W' row) (hr : ∀ r, row = some r → w6.heap.size ≤ r ∧ ∃ o : Obj, W.heap[r]? = some o ∧ o.isCells = false) : GoI w6 pb ob nb rb fb mb bs stop st pre W' := by
  obtain ⟨⟨bs', hR, hs⟩, hF, hn, ho, hp⟩ := h
  have hF' : Fr (fun b => w6.heap.size ≤ b) W W' := (Fr.refl _ W).grown hg (fun b hb => .inl (hr b hb).1)
  exact ⟨⟨bs', hR.keep hF' (fun b hb h => by have := hlt b (hs b hb); omega), hs⟩, hF.grown hg (fun b hb => .inr (hr b hb).1), hn.fr hF' (by omega), ho.fr hF' (by omega), hp.fr hF' (by omega)⟩

/-! ### the nil ring -/
section
variable (w : World)
theorem PutI_nil (k v : Int) : Calls Try.prog 10 #[.pointer none, .int .i64 k, .int .i64 v] w fun e w' => e = .returned (.tuple #[outVI none, .bool false]) ∧ Fr (fun _ => False) w w' := by
  go_enter Try.func10, Try.ntmps10
  go_wp2_with fail
  have hO := outBlkI w
  obtain ⟨hOd, hFd⟩ := outStoredI hO rfl (.int .i64 0) (Value.int .i64 0) (.bool false)
  have q0 := hO.cell 0
  have q1 := hO.cell 1
  have q2 := hO.cell 2
  refine bodyPost_ret (v := .tuple #[outVI none, .bool false]) (by simp [results, Try.results10, go_sem, q0, q1, q2, outVI]) rfl ⟨rfl, (Fr.refl _ w).alloc _⟩

theorem GetI_nil (k : Int) : Calls Try.prog 11 #[.pointer none, .int .i64 k] w fun e w' => e = .returned (.tuple #[.int .i64 0, .bool false]) ∧ w = w' := by
  go_enter Try.func11, Try.ntmps11
  go_wp2_with (go_at_call 34; refine (findI_nil _ k).mono ?_; rintro e w' ⟨rfl, rfl⟩)
  go_ret2
  exact ⟨rfl, rfl⟩

theorem LenI_nil : Calls Try.prog 12 #[.pointer none] w fun e w' => e = .returned (.int .i64 0) ∧ w' = w := by
  go_enter Try.func12, Try.ntmps12
  go_wp2_with fail
  go_ret
  exact ⟨rfl, rfl⟩

theorem PinI_nil (k : Int) : Calls Try.prog 13 #[.pointer none, .int .i64 k] w fun e w' => e = .returned (.bool false) ∧ w' = w := by
  go_enter Try.func13, Try.ntmps13
  go_wp2_with (go_at_call 34; refine (findI_nil _ k).mono ?_; rintro e w' ⟨rfl, rfl⟩)
  go_ret
  exact ⟨rfl, rfl⟩

theorem LetI_nil (k : Int) : Calls Try.prog 33 #[.pointer none, .int .i64 k] w fun e w' => e = .returned (.bool false) ∧ w' = w := by
  go_enter Try.func33, Try.ntmps33
  go_wp2_with (go_at_call 34; refine (findI_nil _ k).mono ?_; rintro e w' ⟨rfl, rfl⟩)
  go_ret
  exact ⟨rfl, rfl⟩

theorem PinsI_nil (k : Int) : Calls Try.prog 14 #[.pointer none, .int .i64 k] w fun e w' => e = .returned (.int .i64 0) ∧ w' = w := by
  go_enter Try.func14, Try.ntmps14
  go_wp2_with (go_at_call 34; refine (findI_nil _ k).mono ?_; rintro e w' ⟨rfl, rfl⟩)
  go_ret
  exact ⟨rfl, rfl⟩
end

end Go.Proofs.Ytbiaompkmabfjaa
