/- RingKeeps: the walk. -/
import Derived.Test.YtbiaompkmabfjaaRingKeepsL
import Derived.Deep.CutBlock
import Derived.Deep.RegionHeld3
namespace Go.Proofs.Ytbiaompkmabfjaa
open Go.Maps Go.RowKit

/-- an act: two whole numbers and a text -/
def okAct (j : Nat) (v : Value) : Prop := if j = 2 then ∃ s, v = .string s ∧ s.size ≤ maxLen else ∃ x, v = .int .i64 x ∧ in64 x

structure KM (w0 wr : World) (rb fb mb vb hb pb : Nat) (st : RS ByteArray) (val : Nat → ByteArray) (here : Nat → Bool) (pin : Nat → Int) (top : Int) : Prop where
  has : HasS w0 (fun b => b = vb ∨ b = hb ∨ b = pb) rb fb mb st top wr
  v : Blk wr vb 9 (rowV fun j => .string (val j))
  h : Blk wr hb 4 (rowV fun j => .bool (here j))
  p : Blk wr pb 3 (rowV fun j => .int .i64 (pin j))

section
variable {w0 wr : World} {rb fb mb vb hb pb : Nat} {st : RS ByteArray} {val : Nat → ByteArray} {here : Nat → Bool} {pin : Nat → Int} {top : Int}

theorem KM.alloc (h : KM w0 wr rb fb mb vb hb pb st val here pin top) (o : Obj) : KM w0 (wr.alloc o) rb fb mb vb hb pb st val here pin top :=
  ⟨(h.has.alloc o).sub (fun _ hb => .inl hb), h.v.alloc o, h.h.alloc o, h.p.alloc o⟩

theorem KM.drewN (h : KM w0 wr rb fb mb vb hb pb st val here pin top) (n : Nat) : KM w0 (wr.drewN n) rb fb mb vb hb pb st val here pin top := by
  have hF : Fr (fun _ => False) wr (wr.drewN n) := ⟨rfl, rfl, rfl, Nat.le_refl _, fun _ _ _ => rfl⟩
  exact ⟨h.has.far hF (fun _ hb => hb.elim), h.v.fr hF (fun hb => hb), h.h.fr hF (fun hb => hb), h.p.fr hF (fun hb => hb)⟩

theorem KM.drew (h : KM w0 wr rb fb mb vb hb pb st val here pin top) : KM w0 wr.drew rb fb mb vb hb pb st val here pin top := by
  have hF : Fr (fun _ => False) wr wr.drew := (Fr.refl _ _).drew
  exact ⟨h.has.drew, h.v.fr hF (fun hb => hb), h.h.fr hF (fun hb => hb), h.p.fr hF (fun hb => hb)⟩

theorem KM.ne_ (h : KM w0 wr rb fb mb vb hb pb st val here pin top) : vb ≠ hb ∧ vb ≠ pb ∧ hb ≠ pb :=
  ⟨Blk.ne_ h.v h.h (by decide), Blk.ne_ h.v h.p (by decide), Blk.ne_ h.h h.p (by decide)⟩

theorem KM.setv (h : KM w0 wr rb fb mb vb hb pb st val here pin top) (hw : w0.heap.size ≤ vb) (k : Nat) (x : ByteArray) : KM w0 (wr.setCell ⟨vb, k, none⟩ (.string x)) rb fb mb vb hb pb st (upd val k x) here pin top := by
  obtain ⟨n1, n2, n3⟩ := h.ne_
  refine ⟨h.has.far ((Fr.refl (fun b => b = vb) wr).setCell (p := ⟨vb, k, none⟩) (.inl rfl) _) (fun b hb => ⟨.inl hb, by omega⟩), ?_, h.h.far (p := ⟨vb, k, none⟩) (Ne.symm n1) _, h.p.far (p := ⟨vb, k, none⟩) (Ne.symm n2) _⟩
  have := h.v.set_ k (.string x)
  rwa [rowV_set (g' := fun j => .string (upd val k x j)) (fun j => by unfold upd; split <;> rfl)] at this

theorem KM.seth (h : KM w0 wr rb fb mb vb hb pb st val here pin top) (hw : w0.heap.size ≤ hb) (k : Nat) (x : Bool) : KM w0 (wr.setCell ⟨hb, k, none⟩ (.bool x)) rb fb mb vb hb pb st val (upd here k x) pin top := by
  obtain ⟨n1, n2, n3⟩ := h.ne_
  refine ⟨h.has.far ((Fr.refl (fun b => b = hb) wr).setCell (p := ⟨hb, k, none⟩) (.inl rfl) _) (fun b e => ⟨.inr (.inl e), by omega⟩), h.v.far (p := ⟨hb, k, none⟩) n1 _, ?_, h.p.far (p := ⟨hb, k, none⟩) (Ne.symm n3) _⟩
  have := h.h.set_ k (.bool x)
  rwa [rowV_set (g' := fun j => .bool (upd here k x j)) (fun j => by unfold upd; split <;> rfl)] at this

theorem KM.setp (h : KM w0 wr rb fb mb vb hb pb st val here pin top) (hw : w0.heap.size ≤ pb) (k : Nat) (x : Int) : KM w0 (wr.setCell ⟨pb, k, none⟩ (.int .i64 x)) rb fb mb vb hb pb st val here (upd pin k x) top := by
  obtain ⟨n1, n2, n3⟩ := h.ne_
  refine ⟨h.has.far ((Fr.refl (fun b => b = pb) wr).setCell (p := ⟨pb, k, none⟩) (.inl rfl) _) (fun b e => ⟨.inr (.inr e), by omega⟩), h.v.far (p := ⟨pb, k, none⟩) n2 _, h.h.far (p := ⟨pb, k, none⟩) n3 _, ?_⟩
  have := h.p.set_ k (.int .i64 x)
  rwa [rowV_set (g' := fun j => .int .i64 (upd pin k x j)) (fun j => by unfold upd; split <;> rfl)] at this

theorem KM.tops (h : KM w0 wr rb fb mb vb hb pb st val here pin top) {t : Int} (ht : top ≤ t) : KM w0 wr rb fb mb vb hb pb st val here pin t := ⟨h.has.tops ht, h.v, h.h, h.p⟩

/-- after a call of the ring's -/
theorem KM.call (h : KM w0 wr rb fb mb vb hb pb st val here pin top) {w' : World} {st' : RS ByteArray} {t : Int} (hH : HasS w0 (fun b => b = vb ∨ b = hb ∨ b = pb) rb fb mb st' t w') (hF : Fr (KX w0 (fun b => b = vb ∨ b = hb ∨ b = pb)) wr w') : KM w0 w' rb fb mb vb hb pb st' val here pin t :=
  ⟨hH, h.v.fr hF (fun h => h (.inr (.inl rfl))), h.h.fr hF (fun h => h (.inr (.inr (.inl rfl)))), h.p.fr hF (fun h => h (.inr (.inr (.inr rfl))))⟩

/-- what the three slices have at one place -/
theorem KM.cells (h : KM w0 wr rb fb mb vb hb pb st val here pin top) {k : Nat} (hk : k < 64) : wr.cell? ⟨vb, k, none⟩ = some (.string (val k)) ∧ wr.cell? ⟨hb, k, none⟩ = some (.bool (here k)) ∧ wr.cell? ⟨pb, k, none⟩ = some (.int .i64 (pin k)) ∧
    wr.frozen? ⟨vb, k, none⟩ = false ∧ wr.frozen? ⟨hb, k, none⟩ = false ∧ wr.frozen? ⟨pb, k, none⟩ = false ∧ vb < wr.heap.size ∧ hb < wr.heap.size ∧ pb < wr.heap.size :=
  ⟨(h.v.cell k).trans (rowV_get hk), (h.h.cell k).trans (rowV_get hk), (h.p.cell k).trans (rowV_get hk), h.v.frozen k, h.h.frozen k, h.p.frozen k, h.v.lt, h.h.lt, h.p.lt⟩
end

set_option maxRecDepth 100000 in
set_option maxHeartbeats 8000000 in
theorem keeps_calls (frames : Int) (A : Option Addr) (n c : Nat) (w : World) (_h0 : in64 frames) (_hn : n ≤ maxLen) (hA : CellsAt w w.heap.size 3 A n okAct) :
    Calls Try.prog 5 #[.int .i64 frames, .slice A n c] w fun e w' => e = .returned (.bool true) ∧ Below w.heap.size w w' := by
  obtain ⟨z1, hz1⟩ : ∃ z : List Value, z = List.replicate 64 (Value.string { data := #[] }) := ⟨_, rfl⟩
  obtain ⟨z2, hz2⟩ : ∃ z : List Value, z = List.replicate 64 (Value.bool false) := ⟨_, rfl⟩
  obtain ⟨z3, hz3⟩ : ∃ z : List Value, z = List.replicate 64 (Value.int .i64 0) := ⟨_, rfl⟩
  have hmk1 : ∀ w, (Instr.makeSlice 41 (.int .i64 64) (.int .i64 64)).run Try.prog w = .ok (.slice (some ⟨w.heap.size, 0, none⟩) 64 64) (w.alloc (.cells z1.toArray 9)) := by subst hz1; intro w; kernel_rfl
  have hmk2 : ∀ w, (Instr.makeSlice 42 (.int .i64 64) (.int .i64 64)).run Try.prog w = .ok (.slice (some ⟨w.heap.size, 0, none⟩) 64 64) (w.alloc (.cells z2.toArray 4)) := by subst hz2; intro w; kernel_rfl
  have hmk3 : ∀ w, (Instr.makeSlice 33 (.int .i64 64) (.int .i64 64)).run Try.prog w = .ok (.slice (some ⟨w.heap.size, 0, none⟩) 64 64) (w.alloc (.cells z3.toArray 3)) := by subst hz3; intro w; kernel_rfl
  have hz1' : z1 = rowV fun _ => .string { data := #[] } := by rw [hz1]; rfl
  have hz2' : z2 = rowV fun _ => .bool false := by rw [hz2]; rfl
  have hz3' : z3 = rowV fun _ => .int .i64 0 := by rw [hz3]; rfl
  clear hz1 hz2 hz3
  have hR := mod_bd frames 64 (by omega) (by omega)
  go_enter Try.func5, Try.ntmps5
  go_wp2_with fail
  refine (awake_calls _).mono ?_
  rintro e w1 ⟨rfl, hF1⟩
  go_wp2_with fail
  obtain ⟨hR0, hR1⟩ := hR
  obtain ⟨F, hF⟩ : ∃ F : Nat, 1 + wrap64 ((IntKind.u64.wrap frames).tmod 64) = (F : Int) := ⟨(1 + wrap64 ((IntKind.u64.wrap frames).tmod 64)).toNat, by omega⟩
  rw [hF]
  have hF1' : 1 ≤ F := by omega
  have hF64 : F ≤ 64 := by omega
  clear hF hR0 hR1
  refine (HasS.new_ (F : Int) (by unfold in64; omega) w w1 (fun _ => False) (fun _ h => h.elim) hF1).mono ?_
  rintro e w2 ⟨rb, fb, mb, rfl, hH2, _⟩
  have hN : newN (F : Int) = F := by unfold newN; omega
  rw [hN] at hH2
  clear hN hF1
  have hKM : KM w (((w2.alloc (.cells z1.toArray 9)).alloc (.cells z2.toArray 4)).alloc (.cells z3.toArray 3)) rb fb mb w2.heap.size (w2.heap.size + 1) (w2.heap.size + 2) ⟨List.replicate F none, 0⟩ (fun _ => { data := #[] }) (fun _ => false) (fun _ => 0) 0 := by
    have h1 := hH2.alloc (.cells z1.toArray 9)
    have h2 := h1.alloc (.cells z2.toArray 4)
    have h3 := h2.alloc (.cells z3.toArray 3)
    have b1 := ((Blk.new w2 9 z1).alloc (.cells z2.toArray 4)).alloc (.cells z3.toArray 3)
    have b2 := (Blk.new (w2.alloc (.cells z1.toArray 9)) 4 z2).alloc (.cells z3.toArray 3)
    have b3 := Blk.new ((w2.alloc (.cells z1.toArray 9)).alloc (.cells z2.toArray 4)) 3 z3
    simp only [World.size_alloc] at h3 b2 b3
    exact ⟨h3.sub (fun b hb => by rcases hb with h | h | h <;> simp [h]), by show Blk _ _ _ (rowV fun _ => Value.string { data := #[] }); rw [← hz1']; exact b1, by show Blk _ _ _ (rowV fun _ => Value.bool false); rw [← hz2']; exact b2, by show Blk _ _ _ (rowV fun _ => Value.int .i64 0); rw [← hz3']; exact b3⟩
  have hsz := hH2.fr.size
  have hvb : w.heap.size ≤ w2.heap.size := hsz
  have hhb : w.heap.size ≤ w2.heap.size + 1 := by omega
  have hpb : w.heap.size ≤ w2.heap.size + 2 := by omega
  have hne1 : w2.heap.size ≠ w2.heap.size + 1 := by omega
  have hne2 : w2.heap.size ≠ w2.heap.size + 2 := by omega
  have hne3 : w2.heap.size + 1 ≠ w2.heap.size + 2 := by omega
  clear hsz hH2 hz1' hz2' hz3'
  go_wp2_with fail
  clear hmk1 hmk2 hmk3
  generalize ((w2.alloc (.cells z1.toArray 9)).alloc (.cells z2.toArray 4)).alloc (.cells z3.toArray 3) = w3 at hKM ⊢
  generalize w2.heap.size + 2 = pb at hKM hpb hne2 hne3 ⊢
  generalize w2.heap.size + 1 = hb at hKM hhb hne1 hne3 ⊢
  generalize w2.heap.size = vb at hKM hvb hne1 hne2 ⊢
  go_loopg [9, 10] 200 (fun g s i wr => ∃ (k : Nat) (st : RS ByteArray) (val : Nat → ByteArray) (here : Nat → Bool) (pin : Nat → Int), s = .int .i64 (rCnt st.fs) ∧ i = .int .i64 k ∧ k ≤ 200 ∧ g = 200 - k ∧ KR F st val here pin ∧ KM w wr rb fb mb vb hb pb st val here pin k)
  case atStart =>
    refine ⟨0, _, _, _, _, ?_, rfl, by omega, by omega, ⟨by simp, fun k _ => ?_, fun k _ => rl_new F k⟩, hKM⟩
    · rw [cnt_new]; rfl
    · rw [rl_new]; simp
  case round =>
    obtain ⟨k, st, val, here, pin, rfl, rfl, hk2, rfl, hK, hM⟩ := hrel
    have hcnt := rCnt_le st.fs
    have hlen := hK.len
    by_cases hlt : k < n
    · by_cases hlt2 : k < 200
      · have hz1 : (k : Int) < (n : Int) := by omega
        have hz2 : (k : Int) < 200 := by omega
        obtain ⟨ab, ao, rfl, hab, hcells⟩ := hA k hlt
        obtain ⟨y0, i0, c0⟩ := hcells 0 (by omega)
        obtain ⟨y1, i1, c1⟩ := hcells 1 (by omega)
        obtain ⟨y2, i2, c2⟩ := hcells 2 (by omega)
        obtain ⟨kd, rfl, _⟩ := i0
        obtain ⟨kk, rfl, hkk⟩ := i1
        obtain ⟨sv, rfl, hsv⟩ := i2
        have hbl := hM.has.fr
        have d0 := (hbl.cell (p := ⟨ab, _, none⟩) hab (fun h => h)).trans c0
        have d1 := (hbl.cell (p := ⟨ab, _, none⟩) hab (fun h => h)).trans c1
        have d2 := (hbl.cell (p := ⟨ab, _, none⟩) hab (fun h => h)).trans c2
        rw [Nat.add_zero] at d0
        obtain ⟨hw0, hw4⟩ := mod_bd kk 64 (by omega) (by omega)
        obtain ⟨q, hq⟩ : ∃ q : Nat, wrap64 ((IntKind.u64.wrap kk).tmod 64) = (q : Int) := ⟨(wrap64 ((IntKind.u64.wrap kk).tmod 64)).toNat, by omega⟩
        have hq64 : q < 64 := by omega
        have hQ := Lib.hid hq
        clear hq hw0 hw4 hcells c0 c1 c2
        have htop := hM.has.inv
        go_upto_block 2 with (fail)
        rw [hQ.out]
        go_cut [9] (fun s wx => ∃ (st' : RS ByteArray) (val' : Nat → ByteArray) (here' : Nat → Bool) (pin' : Nat → Int), s = .int .i64 (rCnt st'.fs) ∧ KR F st' val' here' pin' ∧ KM w wx rb fb mb vb hb pb st' val' here' pin' ((k : Int) + 1))
        case first =>
          by_cases hk1 : kd = 1
          · subst hk1
            as_aux_lemma =>
              go_wp2_with fail
              have hkp := kput (v := sv) hK hM.has.inv hq64
              obtain ⟨po, hpo⟩ : ∃ x, x = rPut (q : Int) sv st := ⟨_, rfl⟩
              rw [← hpo] at hkp
              obtain ⟨o, ok, st'⟩ := po
              refine (hM.has.put (by omega) (q : Int) (by unfold in64; omega) sv hpo.symm).mono ?_
              rintro e w4 ⟨rfl, hH4, hF4⟩
              clear hpo
              have hM4 := hM.call hH4 hF4
              have l4 : ab < w4.heap.size := Nat.lt_of_lt_of_le hab (Nat.le_trans hbl.size hF4.size)
              have d2' := (hF4.cell (p := ⟨ab, _, none⟩) (Nat.lt_of_lt_of_le hab hbl.size) (fun h => h (.inl hab))).trans d2
              have n1 : ab ≠ vb := by omega
              have n2 : ab ≠ hb := by omega
              have n3 : ab ≠ pb := by omega
              have n4 := Ne.symm hne1
              have n5 := Ne.symm hne2
              have n6 := Ne.symm hne3
              obtain ⟨t1, t2, t3, t4, t5, t6, t7, t8, t9⟩ := hM4.cells hq64
              clear d0 d1 d2 hH4 hF4
              cases hkp with
              | have_ _ hh hK' hc =>
                as_aux_lemma =>
                  simp only [outVS]
                  rw [hh] at t2
                  have hMz := (hM4.setv hvb q sv).alloc (.cells #[.int .i64 0, .string { data := #[] }, .bool false] 46)
                  go_wp2_with fail
                  go_meet
                  exact ⟨_, _, _, _, by rw [hc], hK', hMz.tops (by omega)⟩
              | vacant _ hh hK' hc =>
                as_aux_lemma =>
                  simp only [outVS]
                  rw [hh] at t2
                  have hMz := (((hM4.seth hhb q true).setp hpb q 0).setv hvb q sv).alloc (.cells #[.int .i64 0, .string { data := #[] }, .bool false] 46)
                  have hc8 := rCnt_le st'.fs
                  have hc7 := hK'.len
                  go_wp2_with fail
                  go_meet
                  exact ⟨_, _, _, _, by rw [hc]; simp, hK', hMz.tops (by omega)⟩
              | full hh hc =>
                as_aux_lemma =>
                  simp only [outVS]
                  rw [hh] at t2
                  have hMz := hM4.alloc (.cells #[.int .i64 0, .string { data := #[] }, .bool false] 46)
                  have hK' := hK
                  have b7 : ((rCnt st'.fs : Int) != (F : Int)) = false := by rw [hc]; simp
                  clear hc
                  go_wp2_with fail
                  go_meet
                  exact ⟨_, _, _, _, rfl, hK', hMz.tops (by omega)⟩
              | leave f g _ e1 e2 hh hg hgk hhg hpg hK' hc hF =>
                as_aux_lemma =>
                  obtain ⟨fk, fv, fp, ff⟩ := f
                  simp only at e1 e2
                  subst e1 e2
                  simp only [outVS]
                  rw [hh] at t2
                  obtain ⟨s1, s2, s3, s4, s5, s6, _, _, _⟩ := hM4.cells hg
                  rw [hhg] at s2
                  rw [hpg] at s3
                  have b1 : decide ((g : Int) < 0) = false := decide_eq_false (by omega)
                  have b2 : decide ((63 : Int) < (g : Int)) = false := decide_eq_false (by omega)
                  have b3 := bytes_bne_self (val g)
                  have b4 : ((rCnt st.fs : Int) != (F : Int)) = false := by rw [hF]; simp
                  clear hF
                  go_wp2_with fail
                  go_quiet (fail)
                  have hM5 := ((hM4.alloc (.cells #[.int .i64 (g : Int), .string (val g), .bool true] 46)).drewN nq)
                  have hMz := (((hM5.seth hhb g false).seth hhb q true).setp hpb q 0).setv hvb q sv
                  go_wp2_with fail
                  go_meet
                  exact ⟨_, _, _, _, by rw [hc], hK', hMz.tops (by omega)⟩
          · have hk1' : (kd == 1) = false := by simpa using hk1
            clear hk1
            by_cases hk2 : kd = 2
            · subst hk2
              as_aux_lemma =>
                go_wp2_with fail
                obtain ⟨st', hgo, hK', hc⟩ := kget hK hM.has.inv hq64
                have hpos : here q = true → 1 ≤ rCnt st.fs := fun h => cnt_pos (p := (val q, pin q)) (by rw [hK.at_ q hq64, if_pos h])
                refine (hM.has.get (q : Int) (by unfold in64; omega) hgo).mono ?_
                rintro e w4 ⟨rfl, hH4, hF4⟩
                clear hgo
                have hM4 := hM.call hH4 hF4
                have n1 : ab ≠ vb := by omega
                have n2 : ab ≠ hb := by omega
                have n3 : ab ≠ pb := by omega
                have n4 := Ne.symm hne1
                have n5 := Ne.symm hne2
                have n6 := Ne.symm hne3
                obtain ⟨t1, t2, t3, t4, t5, t6, t7, t8, t9⟩ := hM4.cells hq64
                clear d0 d1 d2 hH4 hF4
                cases hh : here q with
                | true =>
                  rw [hh] at t2
                  have b1 : (true != true) = false := rfl
                  have b3 := bytes_bne_self (val q)
                  have hpos := hpos hh
                  simp only [if_true, valOS, Option.isSome_some]
                  have hMz := hM4
                  go_wp2_with fail
                  go_meet
                  exact ⟨_, _, _, _, by rw [hc], hK', hMz.tops (by omega)⟩
                | false =>
                  rw [hh] at t2
                  have b1 : (false != false) = false := rfl
                  simp only [Bool.false_eq_true, if_false, valOS, Option.isSome_none]
                  have hMz := hM4
                  go_wp2_with fail
                  go_meet
                  exact ⟨_, _, _, _, by rw [hc], hK', hMz.tops (by omega)⟩
            · have hk2' : (kd == 2) = false := by simpa using hk2
              clear hk2
              by_cases hk3 : kd = 3
              · subst hk3
                as_aux_lemma =>
                  go_wp2_with fail
                  obtain ⟨st', hgo, hK', hc⟩ := kdel hK hM.has.inv hq64
                  have hpos : here q = true → 1 ≤ rCnt st.fs := fun h => cnt_pos (p := (val q, pin q)) (by rw [hK.at_ q hq64, if_pos h])
                  refine (hM.has.del (q : Int) (by unfold in64; omega) hgo).mono ?_
                  rintro e w4 ⟨rfl, hH4, hF4⟩
                  clear hgo
                  have hM4 := hM.call hH4 hF4
                  have n1 : ab ≠ vb := by omega
                  have n2 : ab ≠ hb := by omega
                  have n3 : ab ≠ pb := by omega
                  have n4 := Ne.symm hne1
                  have n5 := Ne.symm hne2
                  have n6 := Ne.symm hne3
                  obtain ⟨t1, t2, t3, t4, t5, t6, t7, t8, t9⟩ := hM4.cells hq64
                  clear d0 d1 d2 hH4 hF4
                  cases hh : here q with
                  | true =>
                    rw [hh] at t2
                    have b1 : (true != true) = false := rfl
                    have b3 := bytes_bne_self (val q)
                    have hpos := hpos hh
                    simp only [if_true, valOS, Option.isSome_some]
                    rw [hh] at hc
                    simp only [if_true] at hc
                    have hMz := hM4.seth hhb q false
                    go_wp2_with fail
                    go_meet
                    exact ⟨_, _, _, _, by rw [show ((rCnt st'.fs : Nat) : Int) = (rCnt st.fs : Int) - 1 by omega], hK', hMz.tops (by omega)⟩
                  | false =>
                    rw [hh] at t2
                    have b1 : (false != false) = false := rfl
                    simp only [Bool.false_eq_true, if_false, valOS, Option.isSome_none]
                    rw [hh] at hc
                    simp only [Bool.false_eq_true, if_false, Nat.sub_zero] at hc
                    rw [upd_self hh] at hK'
                    have hMz := hM4
                    go_wp2_with fail
                    go_meet
                    exact ⟨_, _, _, _, by rw [hc], hK', hMz.tops (by omega)⟩
              · have hk3' : (kd == 3) = false := by simpa using hk3
                clear hk3
                by_cases hk4 : kd = 4
                · subst hk4
                  as_aux_lemma =>
                    go_wp2_with fail
                    obtain ⟨st', hgo, hK', hc⟩ := kpin hK hM.has.inv hq64
                    have hpin := kr_pin (k := q) hK hM.has.inv hq64
                    obtain ⟨t1, t2, t3, t4, t5, t6, t7, t8, t9⟩ := hM.cells hq64
                    have hT : Calls Try.prog 19 #[.pointer (some ⟨rb, 0, none⟩), .int .i64 (q : Int)] wr.drew fun e w' => e = .returned (.bool (here q)) ∧ KM w w' rb fb mb vb hb pb st' val here pin ((k : Int) + 1) ∧ w'.cell? ⟨hb, q, none⟩ = some (.bool (here q)) ∧ w'.cell? ⟨pb, q, none⟩ = some (.int .i64 (pin q)) := by
                      refine (hM.drew.has.pin (by omega) (q : Int) (by unfold in64; omega) hgo).mono fun e w' ⟨he, hH, hF⟩ => ?_
                      have hM' := hM.drew.call hH hF
                      exact ⟨he, hM', (hM'.cells hq64).2.1, (hM'.cells hq64).2.2.1⟩
                    clear hgo d0 d1 d2
                    cases hh : here q with
                    | true =>
                      rw [hh] at t2 hT hK'
                      obtain ⟨hpin1, hpin2⟩ := hpin hh
                      simp only [if_true] at hK'
                      have HT := Lib.hid hT
                      clear hT
                      have b1 : (true != true) = false := rfl
                      have b2 : (false != false) = false := rfl
                      have q1 : (0 : Int) ≤ (q : Int) := by omega
                      have q2 : (q : Int) < 64 := by omega
                      go_region_held3 (fun w' => w'.cell? ⟨hb, q, none⟩ = some (.bool true) ∧ w'.cell? ⟨pb, q, none⟩ = some (.int .i64 (pin q))) (go_keep) ((go_at_call 19; refine HT.out.mono ?_; rintro e wa ⟨rfl, hM4, ga, gb⟩))
                      clear q1 q2 t1 t2 t3 t4 t5 t6 t7 t8 t9
                      obtain ⟨t1, t2, t3, t4, t5, t6, t7, t8, t9⟩ := hM4.cells hq64
                      rw [hh] at t2
                      have hMz := hM4.setp hpb q (pin q + 1)
                      go_wp2_with fail
                      go_meet
                      exact ⟨_, _, _, _, by rw [hc], hK', hMz.tops (by omega)⟩
                    | false =>
                      rw [hh] at t2 hT hK'
                      simp only [Bool.false_eq_true, if_false] at hK'
                      have HT := Lib.hid hT
                      clear hT
                      have b1 : (true != true) = false := rfl
                      have b2 : (false != false) = false := rfl
                      have q1 : (0 : Int) ≤ (q : Int) := by omega
                      have q2 : (q : Int) < 64 := by omega
                      go_region_held3 (fun w' => w'.cell? ⟨hb, q, none⟩ = some (.bool false) ∧ w'.cell? ⟨pb, q, none⟩ = some (.int .i64 (pin q))) (go_keep) ((go_at_call 19; refine HT.out.mono ?_; rintro e wa ⟨rfl, hM4, ga, gb⟩))
                      clear q1 q2 t1 t2 t3 t4 t5 t6 t7 t8 t9
                      obtain ⟨t1, t2, t3, t4, t5, t6, t7, t8, t9⟩ := hM4.cells hq64
                      rw [hh] at t2
                      have hMz := hM4
                      go_wp2_with fail
                      go_meet
                      exact ⟨_, _, _, _, by rw [hc], hK', hMz.tops (by omega)⟩
                · have hk4' : (kd == 4) = false := by simpa using hk4
                  clear hk4
                  by_cases hk5 : kd = 5
                  · subst hk5
                    as_aux_lemma =>
                      go_wp2_with fail
                      obtain ⟨st', hgo, hK', hc⟩ := klet hK hM.has.inv hq64
                      have hpin := kr_pin (k := q) hK hM.has.inv hq64
                      obtain ⟨t1, t2, t3, t4, t5, t6, t7, t8, t9⟩ := hM.cells hq64
                      have hT : Calls Try.prog 20 #[.pointer (some ⟨rb, 0, none⟩), .int .i64 (q : Int)] wr.drew fun e w' => e = .returned (.bool (here q && decide (0 < pin q))) ∧ KM w w' rb fb mb vb hb pb st' val here pin ((k : Int)) ∧ w'.cell? ⟨hb, q, none⟩ = some (.bool (here q)) ∧ w'.cell? ⟨pb, q, none⟩ = some (.int .i64 (pin q)) := by
                        refine (hM.drew.has.let_ (by omega) (q : Int) (by unfold in64; omega) hgo).mono fun e w' ⟨he, hH, hF⟩ => ?_
                        have hM' := hM.drew.call hH hF
                        exact ⟨he, hM', (hM'.cells hq64).2.1, (hM'.cells hq64).2.2.1⟩
                      clear hgo d0 d1 d2
                      cases hh : here q with
                      | true =>
                        obtain ⟨hpin1, hpin2⟩ := hpin hh
                        by_cases hp0 : 0 < pin q
                        · have hp1 : decide (0 < pin q) = true := decide_eq_true hp0
                          rw [hh, hp1] at hT hK'
                          rw [hh] at t2
                          simp only [Bool.and_self, if_true] at hT hK'
                          have HT := Lib.hid hT
                          clear hT
                          have b1 : (true != true) = false := rfl
                          have b2 : (false != false) = false := rfl
                          have q1 : (0 : Int) ≤ (q : Int) := by omega
                          have q2 : (q : Int) < 64 := by omega
                          go_region_held3 (fun w' => w'.cell? ⟨hb, q, none⟩ = some (.bool true) ∧ w'.cell? ⟨pb, q, none⟩ = some (.int .i64 (pin q))) (go_keep) ((go_at_call 20; refine HT.out.mono ?_; rintro e wa ⟨rfl, hM4, ga, gb⟩))
                          clear q1 q2 t1 t2 t3 t4 t5 t6 t7 t8 t9
                          obtain ⟨t1, t2, t3, t4, t5, t6, t7, t8, t9⟩ := hM4.cells hq64
                          rw [hh] at t2
                          have hMz := hM4.setp hpb q (pin q - 1)
                          go_wp2_with fail
                          go_meet
                          exact ⟨_, _, _, _, by rw [hc], hK', hMz.tops (by omega)⟩
                        · have hp1 : decide (0 < pin q) = false := decide_eq_false hp0
                          rw [hh, hp1] at hT hK'
                          rw [hh] at t2
                          simp only [Bool.and_false, Bool.false_eq_true, if_false] at hT hK'
                          have HT := Lib.hid hT
                          clear hT
                          have b1 : (true != true) = false := rfl
                          have b2 : (false != false) = false := rfl
                          have q1 : (0 : Int) ≤ (q : Int) := by omega
                          have q2 : (q : Int) < 64 := by omega
                          go_region_held3 (fun w' => w'.cell? ⟨hb, q, none⟩ = some (.bool true) ∧ w'.cell? ⟨pb, q, none⟩ = some (.int .i64 (pin q))) (go_keep) ((go_at_call 20; refine HT.out.mono ?_; rintro e wa ⟨rfl, hM4, ga, gb⟩))
                          clear q1 q2 t1 t2 t3 t4 t5 t6 t7 t8 t9
                          obtain ⟨t1, t2, t3, t4, t5, t6, t7, t8, t9⟩ := hM4.cells hq64
                          rw [hh] at t2
                          have hMz := hM4
                          go_wp2_with fail
                          go_meet
                          exact ⟨_, _, _, _, by rw [hc], hK', hMz.tops (by omega)⟩
                      | false =>
                        rw [hh] at t2 hK'
                        simp only [Bool.false_and, Bool.false_eq_true, if_false] at hK'
                        clear hT
                        have hq1 : ∀ n : Nat, Calls Try.prog 20 #[.pointer (some ⟨rb, 0, none⟩), .int .i64 (q : Int)] (wr.drewN n) fun e w' => e = .returned (.bool false) ∧ w' = wr.drewN n := fun n => by
                          obtain ⟨bs, hR, _⟩ := (hM.drewN n).has
                          exact (LetS_none (wr.drewN n) rb fb mb bs st hR (q : Int) (by unfold in64; omega) (rl_none.1 (by rw [hK.at_ q hq64, hh]; rfl))).mono fun _ _ ⟨h1, h2⟩ => ⟨h1, h2.symm⟩
                        have b2 : (false != false) = false := rfl
                        have q1 : (0 : Int) ≤ (q : Int) := by omega
                        have q2 : (q : Int) < 64 := by omega
                        go_quiet ((go_at_call 20; exact Calls.quiet_of_same (hq1 _)))
                        have hMz := hM.drewN nq
                        have hK' := hK
                        go_wp2_with fail
                        go_meet
                        exact ⟨_, _, _, _, rfl, hK', hMz.tops (by omega)⟩
                  · have hk5' : (kd == 5) = false := by simpa using hk5
                    clear hk5
                    as_aux_lemma =>
                      have hMz := hM
                      have hK' := hK
                      go_wp2_with fail
                      go_meet
                      exact ⟨_, _, _, _, rfl, hK', hMz.tops (by omega)⟩
        case rest =>
          as_aux_lemma =>
            obtain ⟨st', val', here', pin', rfl, hK', hMz⟩ := hcut
            have hcnt' := rCnt_le st'.fs
            have hlen' := hK'.len
            go_wp2_with fail
            refine hMz.has.len.mono ?_
            rintro e w9 ⟨rfl, rfl⟩
            have b8 : ((rCnt st'.fs : Int) != (rCnt st'.fs : Int)) = false := by simp
            have b9 : decide ((F : Int) < (rCnt st'.fs : Int)) = false := decide_eq_false (by omega)
            go_wp2_with fail
            go_roundg (200 - (k + 1))
            case measure => omega
            case rel => exact ⟨k + 1, _, _, _, _, rfl, rfl, by omega, rfl, hK', hMz⟩
      · have hz1 : (k : Int) < (n : Int) := by omega
        have hz2 : ¬ k < n ∨ ¬ k < 200 := by omega
        have hz3 : ¬ (k : Int) < 200 := by omega
        go_wp2_with fail
        go_ret
        exact ⟨rfl, hM.has.below⟩
    · have hz1 : ¬ (k : Int) < (n : Int) := by omega
      have hz2 : ¬ k < n ∨ ¬ k < 200 := by omega
      go_wp2_with fail
      go_ret
      exact ⟨rfl, hM.has.below⟩

end Go.Proofs.Ytbiaompkmabfjaa
