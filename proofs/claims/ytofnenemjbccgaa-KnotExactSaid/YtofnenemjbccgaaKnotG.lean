/- Who waits for whom: the graph in memory; graphOf. -/
import Derived.Test.YtofnenemjbccgaaKnotL
import Derived.Test.YtofnenemjbccgaaKeysG
import Derived.Deep.LoopGhost
import Derived.Deep.QuietTactic
import Derived.BigQuiet
import Derived.Deep.DeepCutAuto
import Derived.Lib.Hide
namespace Go.Proofs.Ytofnenemjbccgaa
open Go.Maps Go.RowKit

/-! ### plain -/
abbrev GS := List (Int × (Nat × List (Int × Value)))

def EdgeOf (gs : GS) (a b : Int) : Prop := ∃ g l, look a gs = some (g, l) ∧ (look b l).isSome
def GOf (E : ES) (gs : GS) : Prop := ∀ a b, (a, b) ∈ E ↔ EdgeOf gs a b
def InE (E : ES) : Prop := ∀ q ∈ E, in64 q.1 ∧ in64 q.2

section
variable {gs : GS} {p q a b : Int} {g : Nat} {l : List (Int × Value)}

theorem edge_new (h : look p gs = none) : EdgeOf (ins p (g, []) gs) a b ↔ EdgeOf gs a b := by
  unfold EdgeOf
  constructor
  · rintro ⟨g', l', h1, h2⟩
    rw [look_ins] at h1
    split at h1
    · cases h1; simp [look] at h2
    · exact ⟨g', l', h1, h2⟩
  · rintro ⟨g', l', h1, h2⟩
    refine ⟨g', l', ?_, h2⟩
    rw [look_ins, if_neg]
    · exact h1
    · rintro rfl; rw [h] at h1; cases h1

theorem edge_set {v : Value} (h : look p gs = some (g, l)) : EdgeOf (ins p (g, ins q v l) gs) a b ↔ EdgeOf gs a b ∨ (a = p ∧ b = q) := by
  unfold EdgeOf
  constructor
  · rintro ⟨g', l', h1, h2⟩
    rw [look_ins] at h1
    split at h1
    · rename_i e
      cases h1
      rw [look_ins] at h2
      split at h2
      · rename_i e2; exact .inr ⟨e, e2⟩
      · exact .inl ⟨_, l, by rw [e]; exact h, h2⟩
    · exact .inl ⟨g', l', h1, h2⟩
  · rintro (⟨g', l', h1, h2⟩ | ⟨rfl, rfl⟩)
    · by_cases e : a = p
      · subst e
        rw [h] at h1
        cases h1
        refine ⟨g, ins q v l, by rw [look_ins, if_pos rfl], ?_⟩
        rw [look_ins]
        split
        · rfl
        · exact h2
      · exact ⟨g', l', by rw [look_ins, if_neg e]; exact h1, h2⟩
    · exact ⟨g, ins b v l, by rw [look_ins, if_pos rfl], by rw [look_ins, if_pos rfl]; rfl⟩

theorem gof_snoc {E : ES} {gs' : GS} {i : Nat} (h : GOf (E.take i) gs) (hi : E[i]? = some (p, q)) (he : ∀ a b, EdgeOf gs' a b ↔ EdgeOf gs a b ∨ (a = p ∧ b = q)) : GOf (E.take (i + 1)) gs' := fun a b => by
  have hlt := (List.getElem?_eq_some_iff.1 hi).1
  rw [List.take_succ_eq_append_getElem hlt, (List.getElem?_eq_some_iff.1 hi).2, List.mem_append, he, h a b]
  simp
end

/-! ### in memory -/
def mapV (x : Nat × List (Int × Value)) : Value := .map (some x.1)

structure IsG (w : World) (gb : Nat) (gs : GS) : Prop where
  m : VMap w Try.prog 3 gb (vmap mapV gs)
  k : ∀ p g l, look p gs = some (g, l) → VMap w Try.prog 3 g l
  ne : ∀ p g l, look p gs = some (g, l) → g ≠ gb
  inj : ∀ p p' g l l', look p gs = some (g, l) → look p' gs = some (g, l') → p = p'

def footG (gb : Nat) (gs : GS) : Nat → Prop := fun b => b = gb ∨ ∃ p l, look p gs = some (b, l)

section
variable {w w' : World} {gb g : Nat} {gs : GS} {p : Int} {l l' : List (Int × Value)} {S : Nat → Prop}

theorem IsG.srt (h : IsG w gb gs) : Srt gs := (srt_vmap mapV).1 h.m.2.1
theorem IsG.ink (h : IsG w gb gs) : InK gs := fun p hp => h.m.2.2 (p.1, mapV p.2) (by unfold vmap; exact List.mem_map.2 ⟨p, hp, rfl⟩)

theorem IsG.foot_lt (h : IsG w gb gs) {b : Nat} (hb : footG gb gs b) : b < w.heap.size := by
  rcases hb with rfl | ⟨p, l, hl⟩
  · exact h.m.lt
  · exact (h.k p b l hl).lt

theorem IsG.keep (h : IsG w gb gs) (hF : Fr S w w') (hn : ∀ b, footG gb gs b → ¬ S b) : IsG w' gb gs :=
  ⟨h.m.fr hF (hn _ (.inl rfl)), fun p g l hl => (h.k p g l hl).fr hF (hn _ (.inr ⟨p, l, hl⟩)), h.ne, h.inj⟩

/-- a name more, with an empty map of its own -/
theorem IsG.new_ (h : IsG w gb gs) (hF : Fr (fun b => b = gb) w w') (hV : VMap w' Try.prog 3 gb (ins p (.map (some g)) (vmap mapV gs))) (hG : VMap w' Try.prog 3 g []) (hg : w.heap.size ≤ g) : IsG w' gb (ins p (g, []) gs) := by
  have hgb := h.m.lt
  refine ⟨by rw [vmap_ins]; exact hV, fun q g' l2 h2 => ?_, fun q g' l2 h2 => ?_, fun q q' g' l2 l3 h2 h3 => ?_⟩
  · rw [look_ins] at h2
    split at h2
    · cases h2; exact hG
    · exact (h.k q g' l2 h2).fr hF (h.ne q g' l2 h2)
  · rw [look_ins] at h2
    split at h2
    · cases h2; omega
    · exact h.ne q g' l2 h2
  · rw [look_ins] at h2 h3
    split at h2 <;> split at h3
    · rename_i e1 e2; rw [e1, e2]
    · cases h2
      have := (h.k q' _ l3 h3).lt
      omega
    · cases h3
      have := (h.k q _ l2 h2).lt
      omega
    · exact h.inj q q' g' l2 l3 h2 h3

/-- one of the maps turns -/
theorem IsG.set_ (h : IsG w gb gs) (hk : look p gs = some (g, l)) (hF : Fr (fun b => b = g) w w') (hV : VMap w' Try.prog 3 g l') : IsG w' gb (ins p (g, l') gs) := by
  refine ⟨?_, fun q g' l2 h2 => ?_, fun q g' l2 h2 => ?_, fun q q' g' l2 l3 h2 h3 => ?_⟩
  · have hs : ins p (mapV (g, l')) (vmap mapV gs) = vmap mapV gs :=
      srt_ext (srt_ins h.m.2.1) h.m.2.1 fun j => by
        rw [look_ins]
        split
        · rename_i e
          rw [e, look_vmap, hk]
          rfl
        · rfl
    rw [vmap_ins, hs]
    exact h.m.fr hF (fun e => h.ne p g l hk e.symm)
  · rw [look_ins] at h2
    split at h2
    · cases h2; exact hV
    · rename_i hne
      exact (h.k q g' l2 h2).fr hF (fun e => hne (h.inj q p g l2 l (by rw [← e]; exact h2) hk))
  · rw [look_ins] at h2
    split at h2
    · cases h2; exact h.ne p g l hk
    · exact h.ne q g' l2 h2
  · rw [look_ins] at h2 h3
    split at h2 <;> split at h3
    · rename_i e1 e2; rw [e1, e2]
    · rename_i e1 _
      cases h2
      rw [e1]
      exact h.inj p q' g l l3 hk h3
    · rename_i _ e2
      cases h3
      rw [e2]
      exact h.inj q p g l2 l h2 hk
    · exact h.inj q q' g' l2 l3 h2 h3
end

theorem foot_ins {gb g : Nat} {gs : GS} {p : Int} {l : List (Int × Value)} {b : Nat} (hb : footG gb (ins p (g, l) gs) b) : b = g ∨ footG gb gs b := by
  rcases hb with rfl | ⟨q, l2, h2⟩
  · exact .inr (.inl rfl)
  · rw [look_ins] at h2
    split at h2
    · cases h2; exact .inl rfl
    · exact .inr (.inr ⟨q, l2, h2⟩)

/-- a row of edges -/
def EdgeRow (w : World) (v : Value) (E : ES) : Prop :=
  ∃ A cap, v = .slice A E.length cap ∧ ∀ (i : Nat) (q : Int × Int), E[i]? = some q → ∃ g, A = some ⟨g, 0, none⟩ ∧ g < w.heap.size ∧ w.cell? ⟨g, i * 2, none⟩ = some (.int .i64 q.1) ∧ w.cell? ⟨g, i * 2 + 1, none⟩ = some (.int .i64 q.2)

theorem EdgeRow.fr {w w' : World} {v : Value} {E : ES} (h : EdgeRow w v E) {S : Nat → Prop} (hF : Fr S w w') (hS : ∀ b, b < w.heap.size → ¬ S b) : EdgeRow w' v E := by
  obtain ⟨A, cap, rfl, hc⟩ := h
  refine ⟨A, cap, rfl, fun i q hq => ?_⟩
  obtain ⟨g, rfl, h1, h2, h3⟩ := hc i q hq
  exact ⟨g, rfl, Nat.lt_of_lt_of_le h1 hF.size, (hF.cell (p := ⟨g, i * 2, none⟩) h1 (hS g h1)).trans h2, (hF.cell (p := ⟨g, i * 2 + 1, none⟩) h1 (hS g h1)).trans h3⟩

theorem zeroMap (w : World) : (zeroValue 50).run Try.prog w = .ok (.map none) w := by kernel_rfl

/-- What graphOf leaves. -/
def GraphP (w : World) (E : ES) (e : Ending) (w' : World) : Prop :=
  ∃ gb gs, e = .returned (.map (some gb)) ∧ IsG w' gb gs ∧ (∀ b, footG gb gs b → w.heap.size ≤ b) ∧ GOf E gs ∧ gs.length ≤ E.length ∧ (∀ p g l, look p gs = some (g, l) → l.length ≤ E.length) ∧ Fr (fun _ => False) w w'

set_option maxHeartbeats 1000000 in
theorem graphOf_calls (w : World) (v : Value) (E : ES) (hR : EdgeRow w v E) (hE : InE E) (hn : E.length ≤ 1000000) :
    Calls Try.prog 19 #[v] w (GraphP w E) := by
  obtain ⟨A, cap, rfl, hc⟩ := hR
  have HC := Lib.hid hc
  have HE := Lib.hid hE
  clear hc hE
  have hmm := @run_makeMap Try.prog
  have hn0 : ∀ W : World, Sem.run Try.prog (Go.binOp BinOp.eql 50 (.map none) (.map none)) W = .ok (.bool true) W := fun _ => by kernel_rfl
  have hn1 : ∀ (g : Nat) (W : World), Sem.run Try.prog (Go.binOp BinOp.eql 50 (.map (some g)) (.map none)) W = .ok (.bool false) W := fun _ _ => by kernel_rfl
  go_enter Try.func19, Try.ntmps19
  go_wp2_with fail
  go_loopg [9] E.length (fun g i wr => ∃ (k : Nat) (gs : GS), i = .int .i64 k ∧ k ≤ E.length ∧ g = E.length - k ∧ IsG wr w.heap.size gs ∧ (∀ b, footG w.heap.size gs b → w.heap.size ≤ b) ∧ GOf (E.take k) gs ∧ gs.length ≤ k ∧ (∀ p g l, look p gs = some (g, l) → l.length ≤ k) ∧ Fr (fun _ => False) w wr)
  case atStart => exact ⟨0, [], rfl, by omega, by omega, ⟨VMap.made w _ _, by simp [look], by simp [look], by simp [look]⟩, by rintro b (rfl | ⟨p, l, h⟩); exact Nat.le_refl _; simp [look] at h, by simp [GOf, EdgeOf, look], by simp, by simp [look], (Fr.refl _ w).alloc _⟩
  case round =>
    obtain ⟨k, gs, rfl, hk, rfl, hM, hfo, hG, hlen, hin, hF⟩ := hrel
    have hsz := hF.size
    by_cases hlt : k < E.length
    · have hltz : (k : Int) < (E.length : Int) := by omega
      have q1 : (0 : Int) ≤ (k : Int) := by omega
      have ho : E[k]? = some E[k] := List.getElem?_eq_getElem hlt
      have hi64 := HE.out _ (List.getElem_mem hlt)
      generalize E[k] = q at ho hi64
      obtain ⟨g0, rfl, hg0, a0, a1⟩ := HC.out k q ho
      rw [← hF.cell (p := ⟨g0, _, none⟩) hg0 (fun h => h)] at a0 a1
      obtain ⟨qa, qb⟩ := q
      dsimp only at a0 a1 hi64
      obtain ⟨ia, ib⟩ := hi64
      have HO := Lib.hid ho
      have HFO := Lib.hid hfo
      have HG := Lib.hid hG
      have HIN := Lib.hid hin
      have HF := Lib.hid hF
      have hbl := Blk.new wr 38 [.int .i64 qa, .int .i64 qb]
      have hMa := hM.keep ((Fr.refl (fun _ => False) wr).alloc (.cells #[.int .i64 qa, .int .i64 qb] 38)) (fun _ _ h => h)
      have hV0 := hMa.m
      have c0 := hbl.cell 0
      have c1 := hbl.cell 1
      clear ho hfo hG hF
      cases e : look qa gs with
      | none =>
        have he0 : (look qa (vmap mapV gs)).getD (.map none) = .map none := by rw [look_vmap, e]; rfl
        have HM := Lib.hid hM
        have HE0 := Lib.hid e
        clear hM hMa e
        go_wp2_with (first
          | (at_lookup; refine wpList_mlook _ rfl _ _ 47 rfl 3 50 w.heap.size Try.underlying3 Try.underlying47 _ (zeroMap _) _ hV0 rfl qa rfl ia (.map none) he0 ?_)
          | (at_lookup; refine wpList_mlook _ rfl _ _ 47 rfl 3 50 w.heap.size Try.underlying3 Try.underlying47 _ (zeroMap _) _ hV1 rfl qa rfl ia (.map (some (wr.heap.size + 1))) (by rw [look_ins_same]; rfl) ?_)
          | (at_mapUpdate; refine wpList_mput _ rfl _ _ _ 47 rfl 3 50 w.heap.size Try.underlying3 Try.underlying47 _ (hV0.alloc _) (by rw [length_vmap]; unfold maxLen; omega) rfl qa rfl ia (.map (some (wr.heap.size + 1))) rfl ?_; intro w1 hV1 ht1; have hF1 := (((Fr.refl (fun b => b = w.heap.size) wr).alloc _).alloc _).map ht1 (.inl rfl); have hmk := VMap.made (wr.alloc (.cells #[.int .i64 qa, .int .i64 qb] 38)) Try.prog 3; rw [World.size_alloc] at hmk; have hI1 := hmk.turned ht1 (by omega); have hB1 := (hbl.alloc (.map #[] 0)).turned ht1; have d0 := hB1.cell 0; have d1 := hB1.cell 1; have hM1 := HM.out.new_ hF1 hV1 hI1 (by omega); have hs1 := hF1.size)
          | (at_mapUpdate; refine wpList_mput _ rfl _ _ _ 50 rfl 3 4 (wr.heap.size + 1) Try.underlying3 Try.underlying50 _ hI1 (by simp [maxLen]) rfl qb rfl ib (.bool true) rfl ?_; intro w2 hV2 ht2; have hF2 := (Fr.refl (fun b => b = wr.heap.size + 1) w1).map ht2 (.inl rfl); have hM2 := hM1.set_ look_ins_same hF2 hV2))
        go_roundg (E.length - (k + 1))
        case measure => omega
        case rel =>
          refine ⟨k + 1, _, rfl, by omega, rfl, hM2, fun b hb => ?_, gof_snoc HG.out HO.out (fun a b => by rw [edge_set look_ins_same, edge_new HE0.out]), ?_, fun p g l hl => ?_, (HF.out.trans hF1 (fun b hb h => by omega)).trans hF2 (fun b hb h => by omega)⟩
          · rcases foot_ins hb with rfl | hb
            · omega
            · rcases foot_ins hb with rfl | hb
              · omega
              · exact HFO.out b hb
          · rw [length_ins (srt_ins HM.out.srt), look_ins_same]
            have := length_ins_le (k := qa) (v := (wr.heap.size + 1, ([] : List (Int × Value)))) (l := gs)
            simp only [Option.isSome_some, if_true]
            omega
          · rw [look_ins] at hl
            split at hl
            · cases hl; simp [ins]
            · rw [look_ins] at hl
              split at hl
              · cases hl; simp
              · have := HIN.out p g l hl; omega
      | some gl =>
        obtain ⟨g, l⟩ := gl
        have he0 : (look qa (vmap mapV gs)).getD (.map none) = .map (some g) := by rw [look_vmap, e]; rfl
        have HM := Lib.hid hMa
        have HE0 := Lib.hid e
        have hI1 := hMa.k qa g l e
        have hll := hin qa g l e
        clear hM hMa e
        go_wp2_with (first
          | (at_lookup; refine wpList_mlook _ rfl _ _ 47 rfl 3 50 w.heap.size Try.underlying3 Try.underlying47 _ (zeroMap _) _ hV0 rfl qa rfl ia (.map (some g)) he0 ?_)
          | (at_mapUpdate; refine wpList_mput _ rfl _ _ _ 50 rfl 3 4 g Try.underlying3 Try.underlying50 _ hI1 (by unfold maxLen; omega) rfl qb rfl ib (.bool true) rfl ?_; intro w2 hV2 ht2; have hF2 := ((Fr.refl (fun b => b = g) wr).alloc _).map ht2 (.inl rfl); have hF3 := (Fr.refl (fun b => b = g) _).map ht2 (.inl rfl); have hM2 := HM.out.set_ HE0.out hF3 hV2))
        have hgw := HFO.out g (.inr ⟨qa, l, HE0.out⟩)
        go_roundg (E.length - (k + 1))
        case measure => omega
        case rel =>
          refine ⟨k + 1, _, rfl, by omega, rfl, hM2, fun b hb => ?_, gof_snoc HG.out HO.out (fun a b => edge_set HE0.out), ?_, fun p g' l' hl => ?_, HF.out.trans hF2 (fun b hb h => by omega)⟩
          · rcases foot_ins hb with rfl | hb
            · exact hgw
            · exact HFO.out b hb
          · rw [length_ins HM.out.srt, HE0.out]
            simp only [Option.isSome_some, if_true]
            omega
          · rw [look_ins] at hl
            split at hl
            · cases hl
              have := length_ins_le (k := qb) (v := Value.bool true) (l := l)
              omega
            · have := HIN.out p g' l' hl; omega
    · obtain rfl : k = E.length := by omega
      have hltz : (E.length : Int) ≤ (E.length : Int) := by omega
      rw [List.take_length] at hG
      go_wp2_with fail
      go_ret
      exact ⟨_, gs, rfl, hM, hfo, hG, hlen, hin, hF⟩

end Go.Proofs.Ytofnenemjbccgaa
