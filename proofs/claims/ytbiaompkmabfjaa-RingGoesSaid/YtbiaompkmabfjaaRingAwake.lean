/- The ring: what the laws' own first look answers. -/
import Derived.Test.YtbiaompkmabfjaaRingSP
namespace Go.Proofs.Ytbiaompkmabfjaa
open Go.Maps Go.RowKit

theorem inv_new {V : Type} (n : Int) : RInv (V := V) ⟨List.replicate (newN n) none, 0⟩ 0 := by
  have h1 : 1 ≤ newN n := by unfold newN; omega
  have h2 : newN n ≤ 64 := by unfold newN; omega
  refine ⟨by simpa using h1, by simpa using h2, by simp; omega, ?_, ?_, ?_⟩
  · intro i j f g hf
    rw [List.getElem?_replicate] at hf
    split at hf <;> cases hf
  · intro i f hf
    simp only [List.getElem?_replicate] at hf
    split at hf <;> cases hf
  · intro i f hf
    simp only [List.getElem?_replicate] at hf
    split at hf <;> cases hf

/-- A block that lies outside a ring stays outside, whatever new frames come. -/
theorem foot_newer {w : World} {rb fb mb : Nat} {bs bs' : List (Option Nat)} (h : newer w bs bs') {b : Nat} (hb : b < w.heap.size) (hn : ¬ foot rb fb mb bs b) : ¬ foot rb fb mb bs' b := by
  rintro (e | e | e | e)
  · exact hn (.inl e)
  · exact hn (.inr (.inl e))
  · exact hn (.inr (.inr (.inl e)))
  · rcases h b e with e | e
    · exact hn (.inr (.inr (.inr e)))
    · omega

abbrev sA : ByteArray := { data := #[97] }
abbrev sB : ByteArray := { data := #[98] }
abbrev sC : ByteArray := { data := #[99] }
abbrev sD : ByteArray := { data := #[100] }

set_option maxRecDepth 100000 in
set_option maxHeartbeats 1000000 in
theorem awake_calls (w : World) : Calls Try.prog 8 #[] w fun e w' => e = .returned (.bool true) ∧ Fr (fun _ => False) w w' := by
  have in1 : in64 1 := by unfold in64; omega
  have in2 : in64 2 := by unfold in64; omega
  have in3 : in64 3 := by unfold in64; omega
  have in4 : in64 4 := by unfold in64; omega
  go_enter Try.func8, Try.ntmps8
  go_wp2_with fail
  refine (NewS_calls 2 in2 w).mono ?_
  rintro e w1 ⟨rfl, hR1, hF1⟩
  have hI1 : RInv (V := ByteArray) ⟨[none, none], 0⟩ 0 := inv_new 2
  have hR1 : RingS w1 (w.heap.size + 2) w.heap.size (w.heap.size + 1) [none, none] ⟨[none, none], 0⟩ := hR1
  have hFF1 : Fr (fun _ => False) w w1 := hF1
  have hsz1 : w.heap.size + 3 ≤ w1.heap.size := by have := hR1.1.ring.lt; omega
  have out1 : ∀ b, b < w.heap.size → ¬ foot (w.heap.size + 2) w.heap.size (w.heap.size + 1) [none, none] b := by
    rintro b hb (h | h | h | h)
    · omega
    · omega
    · omega
    · simp at h
  obtain ⟨rb, hrb⟩ : ∃ x, x = w.heap.size + 2 := ⟨_, rfl⟩
  obtain ⟨mb, hmb⟩ : ∃ x, x = w.heap.size + 1 := ⟨_, rfl⟩
  obtain ⟨fb, hfb⟩ : ∃ x, x = w.heap.size := ⟨_, rfl⟩
  have hR1 : RingS w1 rb fb mb [none, none] ⟨[none, none], 0⟩ := by rw [hrb, hmb, hfb]; exact hR1
  have out1 : ∀ b, b < w.heap.size → ¬ foot rb fb mb [none, none] b := by rw [hrb, hmb, hfb]; exact out1
  rw [← hrb]
  clear hrb hmb hfb hsz1
  go_wp2_with fail
  refine (PutS_eq _ rb fb mb [none, none] ⟨[none, none], 0⟩ hR1 hI1 (by omega) 1 in1 sA (o := none) (ok := true) (st' := ⟨[some ⟨1, sA, 0, true⟩, none], 0⟩) rfl).mono ?_
  rintro e w2 ⟨rfl, ⟨bs2, hn2, hR2⟩, hI2, hF2⟩
  simp only [outVS]
  have out2 : ∀ b, b < w.heap.size → ¬ foot rb fb mb bs2 b := fun b hb => foot_newer hn2 (Nat.lt_of_lt_of_le hb hFF1.size) (out1 b hb)
  have hFF2 : Fr (fun _ => False) w w2 := hFF1.trans hF2 (fun b hb h => (out1 b hb h).elim)
  go_wp2_with fail
  have hA2 : Fr (fun _ => False) w2 (w2.alloc (.cells #[.int .i64 0, .string { data := #[] }, .bool false] 46)) := (Fr.refl _ _).alloc _
  have hFF2 : Fr (fun _ => False) w (w2.alloc (.cells #[.int .i64 0, .string { data := #[] }, .bool false] 46)) := hFF2.trans hA2 (fun _ _ h => h)
  have hO2 : Blk (w2.alloc (.cells #[.int .i64 0, .string { data := #[] }, .bool false] 46)) w2.heap.size 46 [.int .i64 0, .string { data := #[] }, .bool false] := Blk.new w2 _ _
  have hN2 : ¬ foot rb fb mb bs2 w2.heap.size := fun h => by have := hR2.foot_lt h; omega
  have hR2 := hR2.keep hA2 (fun _ _ e => e)
  have hQ2 := hO2.lt
  refine (PutS_eq _ rb fb mb bs2 ⟨[some ⟨1, sA, 0, true⟩, none], 0⟩ hR2 hI2 (by omega) 2 in2 sB (o := none) (ok := true) (st' := ⟨[some ⟨1, sA, 0, true⟩, some ⟨2, sB, 0, true⟩], 0⟩) rfl).mono ?_
  rintro e w3 ⟨rfl, ⟨bs3, hn3, hR3⟩, hI3, hF3⟩
  simp only [outVS]
  have hO2 := hO2.fr hF3 hN2
  have hL2 := hF3.size
  have hN2 := foot_newer hn3 (Nat.lt_of_lt_of_le hQ2 (Nat.le_refl _)) hN2
  have out3 : ∀ b, b < w.heap.size → ¬ foot rb fb mb bs3 b := fun b hb => foot_newer hn3 (Nat.lt_of_lt_of_le hb hFF2.size) (out2 b hb)
  have hFF3 : Fr (fun _ => False) w w3 := hFF2.trans hF3 (fun b hb h => (out2 b hb h).elim)
  go_wp2_with fail
  have hA3 : Fr (fun _ => False) w3 (w3.alloc (.cells #[.int .i64 0, .string { data := #[] }, .bool false] 46)) := (Fr.refl _ _).alloc _
  have hFF3 : Fr (fun _ => False) w (w3.alloc (.cells #[.int .i64 0, .string { data := #[] }, .bool false] 46)) := hFF3.trans hA3 (fun _ _ h => h)
  have hO3 : Blk (w3.alloc (.cells #[.int .i64 0, .string { data := #[] }, .bool false] 46)) w3.heap.size 46 [.int .i64 0, .string { data := #[] }, .bool false] := Blk.new w3 _ _
  have hN3 : ¬ foot rb fb mb bs3 w3.heap.size := fun h => by have := hR3.foot_lt h; omega
  have hR3 := hR3.keep hA3 (fun _ _ e => e)
  have hO2 := hO2.fr hA3 (fun e => e)
  have hQ2 := hO2.lt
  have hQ3 := hO3.lt
  refine (PutS_eq _ rb fb mb bs3 ⟨[some ⟨1, sA, 0, true⟩, some ⟨2, sB, 0, true⟩], 0⟩ hR3 hI3 (by omega) 3 in3 sC (o := some ⟨1, sA, 0, false⟩) (ok := true) (st' := ⟨[some ⟨3, sC, 0, true⟩, some ⟨2, sB, 0, false⟩], 1⟩) rfl).mono ?_
  rintro e w4 ⟨rfl, ⟨bs4, hn4, hR4⟩, hI4, hF4⟩
  simp only [outVS]
  have hO2 := hO2.fr hF4 hN2
  have hL2 := hF4.size
  have hN2 := foot_newer hn4 (Nat.lt_of_lt_of_le hQ2 (Nat.le_refl _)) hN2
  have hO3 := hO3.fr hF4 hN3
  have hL3 := hF4.size
  have hN3 := foot_newer hn4 (Nat.lt_of_lt_of_le hQ3 (Nat.le_refl _)) hN3
  have out4 : ∀ b, b < w.heap.size → ¬ foot rb fb mb bs4 b := fun b hb => foot_newer hn4 (Nat.lt_of_lt_of_le hb hFF3.size) (out3 b hb)
  have hFF4 : Fr (fun _ => False) w w4 := hFF3.trans hF4 (fun b hb h => (out3 b hb h).elim)
  go_wp2_with fail
  have hA4 : Fr (fun _ => False) w4 (w4.alloc (.cells #[.int .i64 1, .string sA, .bool true] 46)) := (Fr.refl _ _).alloc _
  have hFF4 : Fr (fun _ => False) w (w4.alloc (.cells #[.int .i64 1, .string sA, .bool true] 46)) := hFF4.trans hA4 (fun _ _ h => h)
  have hO4 : Blk (w4.alloc (.cells #[.int .i64 1, .string sA, .bool true] 46)) w4.heap.size 46 [.int .i64 1, .string sA, .bool true] := Blk.new w4 _ _
  have hN4 : ¬ foot rb fb mb bs4 w4.heap.size := fun h => by have := hR4.foot_lt h; omega
  have hR4 := hR4.keep hA4 (fun _ _ e => e)
  have hO2 := hO2.fr hA4 (fun e => e)
  have hO3 := hO3.fr hA4 (fun e => e)
  have hQ2 := hO2.lt
  have hQ3 := hO3.lt
  have hQ4 := hO4.lt
  refine (PutS_eq _ rb fb mb bs4 ⟨[some ⟨3, sC, 0, true⟩, some ⟨2, sB, 0, false⟩], 1⟩ hR4 hI4 (by omega) 4 in4 sD (o := some ⟨2, sB, 0, false⟩) (ok := true) (st' := ⟨[some ⟨3, sC, 0, true⟩, some ⟨4, sD, 0, true⟩], 0⟩) rfl).mono ?_
  rintro e w5 ⟨rfl, ⟨bs5, hn5, hR5⟩, hI5, hF5⟩
  simp only [outVS]
  have hO2 := hO2.fr hF5 hN2
  have hL2 := hF5.size
  have hN2 := foot_newer hn5 (Nat.lt_of_lt_of_le hQ2 (Nat.le_refl _)) hN2
  have hO3 := hO3.fr hF5 hN3
  have hL3 := hF5.size
  have hN3 := foot_newer hn5 (Nat.lt_of_lt_of_le hQ3 (Nat.le_refl _)) hN3
  have hO4 := hO4.fr hF5 hN4
  have hL4 := hF5.size
  have hN4 := foot_newer hn5 (Nat.lt_of_lt_of_le hQ4 (Nat.le_refl _)) hN4
  have out5 : ∀ b, b < w.heap.size → ¬ foot rb fb mb bs5 b := fun b hb => foot_newer hn5 (Nat.lt_of_lt_of_le hb hFF4.size) (out4 b hb)
  have hFF5 : Fr (fun _ => False) w w5 := hFF4.trans hF5 (fun b hb h => (out4 b hb h).elim)
  go_wp2_with fail
  have hA5 : Fr (fun _ => False) w5 (w5.alloc (.cells #[.int .i64 2, .string sB, .bool true] 46)) := (Fr.refl _ _).alloc _
  have hFF5 : Fr (fun _ => False) w (w5.alloc (.cells #[.int .i64 2, .string sB, .bool true] 46)) := hFF5.trans hA5 (fun _ _ h => h)
  have hO5 : Blk (w5.alloc (.cells #[.int .i64 2, .string sB, .bool true] 46)) w5.heap.size 46 [.int .i64 2, .string sB, .bool true] := Blk.new w5 _ _
  have hN5 : ¬ foot rb fb mb bs5 w5.heap.size := fun h => by have := hR5.foot_lt h; omega
  have hR5 := hR5.keep hA5 (fun _ _ e => e)
  have hO2 := hO2.fr hA5 (fun e => e)
  have hO3 := hO3.fr hA5 (fun e => e)
  have hO4 := hO4.fr hA5 (fun e => e)
  have hQ2 := hO2.lt
  have hQ3 := hO3.lt
  have hQ4 := hO4.lt
  have hQ5 := hO5.lt
  refine (GetS_some _ rb fb mb bs5 _ hR5 hI5 4 in4 1 ⟨4, sD, 0, true⟩ rfl rfl).mono ?_
  rintro e w6 ⟨rfl, hR6, hF6⟩
  have hR6 : RingS w6 rb fb mb bs5 ⟨[some ⟨3, sC, 0, true⟩, some ⟨4, sD, 0, true⟩], 0⟩ := hR6
  have hO2 := hO2.fr hF6 hN2
  have a2 := hO2.cell 0
  have b2 := hO2.cell 1
  have c2 := hO2.cell 2
  have hO3 := hO3.fr hF6 hN3
  have a3 := hO3.cell 0
  have b3 := hO3.cell 1
  have c3 := hO3.cell 2
  have hO4 := hO4.fr hF6 hN4
  have a4 := hO4.cell 0
  have b4 := hO4.cell 1
  have c4 := hO4.cell 2
  have hO5 := hO5.fr hF6 hN5
  have a5 := hO5.cell 0
  have b5 := hO5.cell 1
  have c5 := hO5.cell 2
  have hFF6 : Fr (fun _ => False) w w6 := hFF5.trans hF6 (fun b hb h => (out5 b hb h).elim)
  go_wp2_with fail
  refine (LenS_calls _ rb fb mb bs5 _ hR6).mono ?_
  rintro e w' ⟨rfl, rfl⟩
  rw [show (rCnt [some (⟨3, sC, 0, true⟩ : Fm ByteArray), some ⟨4, sD, 0, true⟩] : Nat) = 2 from rfl]
  go_wp2_with fail
  go_ret
  exact ⟨rfl, hFF6⟩

end Go.Proofs.Ytbiaompkmabfjaa
