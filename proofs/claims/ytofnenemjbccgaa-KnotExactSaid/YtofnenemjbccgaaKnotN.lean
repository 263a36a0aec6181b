/- The reference: back, the walk. -/
import Derived.Test.YtofnenemjbccgaaKnotK
namespace Go.Proofs.Ytofnenemjbccgaa
open Go.Maps Go.RowKit

/-- which edges from a are still to be looked at -/
def restF (E : ES) (a : Int) (j : Nat) (y : Int) : Bool := (E.drop j).any fun q => q.1 == a && q.2 == y

theorem restF_all {E : ES} {a y : Int} (h : (a, y) ∈ E) : restF E a 0 y = true := by
  unfold restF
  rw [List.drop_zero, List.any_eq_true]
  exact ⟨(a, y), h, by simp⟩

theorem restF_end {E : ES} {a y : Int} : restF E a E.length y = false := by simp [restF]

theorem restF_step {E : ES} {a y : Int} {j : Nat} {q : Int × Int} (h : E[j]? = some q) : restF E a j y = ((q.1 == a && q.2 == y) || restF E a (j + 1) y) := by
  have hlt := (List.getElem?_eq_some_iff.1 h).1
  unfold restF
  rw [List.drop_eq_getElem_cons hlt, (List.getElem?_eq_some_iff.1 h).2, List.any_cons]

section
variable {E : ES} {k a : Int} {S : Int → Prop} {T : List Int}

theorem DInv.popf (h : DInv E k S (a :: T) (fun _ _ => False)) : DInv E k S T (fun x y => x = a ∧ restF E a 0 y = true) ∧ (a = k ∨ S a) :=
  ⟨⟨fun x hx => h.todo x (by simp [hx]), h.way, fun x hx hn y hy => by
    by_cases e : x = a
    · exact .inr ⟨e, restF_all (by rw [← e]; exact hy)⟩
    · rcases h.done x hx (by simp [hn, e]) y hy with g | g
      · exact .inl g
      · exact g.elim⟩, h.todo a (by simp)⟩

theorem DInv.skip {j : Nat} {q : Int × Int} (h : DInv E k S T (fun x y => x = a ∧ restF E a j y = true)) (hq : E[j]? = some q) (hne : q.1 ≠ a) : DInv E k S T (fun x y => x = a ∧ restF E a (j + 1) y = true) :=
  h.weaken fun x y _ ⟨h1, h2⟩ => by
    rw [restF_step hq] at h2
    simp only [beq_eq_false_iff_ne.2 hne, Bool.false_and, Bool.false_or] at h2
    exact .inr ⟨h1, h2⟩

theorem rest_ne {j : Nat} {q : Int × Int} (hq : E[j]? = some q) {y : Int} (h : (restF E a j y && y != q.2) = true) : restF E a (j + 1) y = true := by
  rw [Bool.and_eq_true] at h
  obtain ⟨h1, h2⟩ := h
  rw [restF_step hq] at h1
  have : (q.2 == y) = false := by rw [beq_eq_false_iff_ne]; rw [bne_iff_ne] at h2; exact fun e => h2 e.symm
  simpa [this] using h1

theorem DInv.old {j : Nat} {q : Int × Int} (h : DInv E k S T (fun x y => x = a ∧ restF E a j y = true)) (hq : E[j]? = some q) (hs : S q.2) (hk : q.2 ≠ k) : DInv E k S T (fun x y => x = a ∧ restF E a (j + 1) y = true) :=
  (h.seen hs hk).weaken fun _ _ _ ⟨h1, h2⟩ => .inr ⟨h1, rest_ne hq h2⟩

theorem DInv.young {j : Nat} {q : Int × Int} (h : DInv E k S T (fun x y => x = a ∧ restF E a j y = true)) (ha : a = k ∨ S a) (hq : E[j]? = some q) (he : q.1 = a) (hk : q.2 ≠ k) {S' : Int → Prop} (hS : ∀ x, S' x ↔ S x ∨ x = q.2) : DInv E k S' (T ++ [q.2]) (fun x y => x = a ∧ restF E a (j + 1) y = true) :=
  (h.fresh ha (by rw [← he]; exact List.mem_of_getElem? hq) hk hS).weaken fun _ _ _ ⟨h1, h2⟩ => .inr ⟨h1, rest_ne hq h2⟩
end

/-- Where the reference's search stands. -/
structure BkSt (w : World) (E : ES) (k : Int) (Sl T : List Int) (P : Int → Int → Prop) (gs cs gt ct : Nat) (wr : World) : Prop where
  seen : wr.ownsRow w.heap.size 3 1 (.slice (some ⟨gs, 0, none⟩) Sl.length cs) Sl.length (ivs Sl)
  todo : wr.ownsRow w.heap.size 3 1 (.slice (some ⟨gt, 0, none⟩) (Sl.length + 1) ct) (Sl.length + 1) (ivs (k :: Sl))
  ne : gs ≠ gt
  nd : Sl.Nodup
  inv : DInv E k (· ∈ Sl) T P
  fr : Fr (fun _ => False) w wr

theorem BkSt.len {w wr : World} {E : ES} {k : Int} {Sl T : List Int} {P : Int → Int → Prop} {gs cs gt ct : Nat} (h : BkSt w E k Sl T P gs cs gt ct wr) : Sl.length ≤ E.length := by
  have := nodup_len h.nd (T := E.map (·.2)) fun x hx => by
    obtain ⟨c, hc⟩ := (h.inv.way x hx).last
    exact List.mem_map.2 ⟨(c, x), hc, rfl⟩
  simpa using this

theorem BkSt.drews {w wr : World} {E : ES} {k : Int} {Sl T : List Int} {P : Int → Int → Prop} {gs cs gt ct : Nat} (h : BkSt w E k Sl T P gs cs gt ct wr) (n : Nat) : BkSt w E k Sl T P gs cs gt ct (wr.drewN n) :=
  ⟨h.seen, h.todo, h.ne, h.nd, h.inv, ⟨h.fr.os, h.fr.tape, h.fr.output, h.fr.size, h.fr.block⟩⟩

theorem BkSt.inv' {w wr : World} {E : ES} {k : Int} {Sl T T' : List Int} {P P' : Int → Int → Prop} {gs cs gt ct : Nat} (h : BkSt w E k Sl T P gs cs gt ct wr) (hi : DInv E k (· ∈ Sl) T' P') : BkSt w E k Sl T' P' gs cs gt ct wr :=
  ⟨h.seen, h.todo, h.ne, h.nd, hi, h.fr⟩

theorem ivs_append (a b : List Int) : ivs (a ++ b) = ivs a ++ ivs b := by simp [ivs]
theorem ivs_len (a : List Int) : (ivs a).length = a.length := by simp [ivs]

set_option maxHeartbeats 2000000 in
theorem back_calls (w : World) (v : Value) (E : ES) (k : Int) (hR : EdgeRow w v E) (hn : E.length ≤ 100000) :
    Calls Try.prog 18 #[v, .int .i64 k] w fun e w' => ∃ b : Bool, e = .returned (.bool b) ∧ (b = true ↔ Pth E k k) ∧ Fr (fun _ => False) w w' := by
  obtain ⟨i0, hi, hz0, hz1, hz2⟩ := info_parts infoInt
  obtain ⟨A, cap, rfl, hc⟩ := hR
  have HC := Lib.hid hc
  clear hc
  have hst : BkSt w E k [] [k] (fun _ _ => False) w.heap.size 0 (w.heap.size + 1) 1 ((w.alloc (.cells #[] 3)).alloc (.cells #[.int .i64 k] 3)) := by
    have hr := (w.alloc (.cells #[] 3)).ownsRow_lit (e := 3) (size := 1) (base := w.heap.size) #[.int .i64 k] 1 (by rw [World.size_alloc]; omega) (by unfold maxLen; omega) rfl
    rw [World.size_alloc] at hr
    refine ⟨(w.ownsRow_lit #[] 0 (Nat.le_refl _) (by omega) rfl).alloc _, hr, by omega, by simp, ?_, ((Fr.refl _ w).alloc _).alloc _⟩
    have := DInv.start (E := E) (k := k)
    exact ⟨fun x hx => .inl (by simpa using hx), fun x hx => by simp at hx, fun x hx hn => by
      rcases hx with rfl | h
      · exact absurd (by simp) hn
      · simp at h⟩
  go_enter Try.func18, Try.ntmps18
  go_wp2_with fail
  go_loopg [5, 6, 7] (E.length + 1) (fun g vs vt i wr => ∃ (Sl : List Int) (j gs cs gt ct : Nat), i = .int .i64 j ∧ vs = .slice (some ⟨gs, 0, none⟩) Sl.length cs ∧ vt = .slice (some ⟨gt, 0, none⟩) (Sl.length + 1) ct ∧ j ≤ Sl.length + 1 ∧ g = E.length + 1 - j ∧ BkSt w E k Sl ((k :: Sl).drop j) (fun _ _ => False) gs cs gt ct wr)
  case atStart => exact ⟨[], 0, _, _, _, _, rfl, rfl, rfl, by simp, by simp, hst⟩
  case round =>
    obtain ⟨Sl, i, gs, cs, gt, ct, rfl, rfl, rfl, hi1, rfl, hB⟩ := hrel
    have hSl := hB.len
    clear hst
    by_cases hlt : i < Sl.length + 1
    · have hltz : (i : Int) < ((Sl.length + 1 : Nat) : Int) := by omega
      have hld : decide ((i : Int) < (Sl.length : Int) + 1) = true := by simp; omega
      have q1 : (0 : Int) ≤ (i : Int) := by omega
      have hex : ∃ a, (k :: Sl)[i]? = some a := ⟨_, List.getElem?_eq_getElem (by simpa using hlt)⟩
      obtain ⟨a, ha⟩ := hex
      have hdr : (k :: Sl).drop i = a :: (k :: Sl).drop (i + 1) := by
        have := List.drop_eq_getElem_cons (l := k :: Sl) (i := i) (by simpa using hlt)
        rw [this, (List.getElem?_eq_some_iff.1 ha).2]
      have hB0 := hB
      rw [hdr] at hB
      obtain ⟨hinv, hat⟩ := hB.inv.popf
      have hB1 := hB.inv' hinv
      have HAT := Lib.hid ha
      clear hB hinv ha hdr hB0
      go_wp2_with fail
      go_loopg [5, 6, 8] E.length (fun g vs vt jj wr2 => ∃ (S2 : List Int) (j gs cs gt ct : Nat), jj = .int .i64 j ∧ vs = .slice (some ⟨gs, 0, none⟩) S2.length cs ∧ vt = .slice (some ⟨gt, 0, none⟩) (S2.length + 1) ct ∧ j ≤ E.length ∧ g = E.length - j ∧ i < S2.length + 1 ∧ (k :: S2)[i]? = some a ∧ (a = k ∨ a ∈ S2) ∧ BkSt w E k S2 ((k :: S2).drop (i + 1)) (fun x y => x = a ∧ restF E a j y = true) gs cs gt ct wr2)
      case atStart => exact ⟨Sl, 0, gs, cs, gt, ct, rfl, rfl, rfl, by omega, by omega, hlt, HAT.out, hat, hB1⟩
      case round =>
        obtain ⟨S2, j, gs2, cs2, gt2, ct2, rfl, rfl, rfl, hj, rfl, hi2, ha2, hat2, hC⟩ := hrel
        have hS2 := hC.len
        clear hB1 hat
        by_cases hltj : j < E.length
        · have hltzj : (j : Int) < (E.length : Int) := by omega
          have hlt2 : (i : Int) < ((S2.length + 1 : Nat) : Int) := by omega
          have q2 : (0 : Int) ≤ (j : Int) := by omega
          have ho : E[j]? = some E[j] := List.getElem?_eq_getElem hltj
          generalize E[j] = q at ho
          obtain ⟨g0, rfl, hg0, a0, a1⟩ := HC.out j q ho
          rw [← hC.fr.cell (p := ⟨g0, _, none⟩) hg0 (fun h => h)] at a0 a1
          obtain ⟨qa, qb⟩ := q
          dsimp only at a0 a1
          have at0 := hC.todo.cellAt i (by omega)
          rw [show (ivs (k :: S2))[i]? = some (.int .i64 a) by simp only [ivs, List.getElem?_map, ha2]; rfl] at at0
          have HO := Lib.hid ho
          have HC2 := Lib.hid hC
          have HA2 := Lib.hid ha2
          clear ho hC ha2
          by_cases h1 : qa = a
          · have h1b : (qa != a) = false := by simpa using h1
            have H1 := Lib.hid h1
            clear h1
            go_wp2_with fail
            go_quiet (fail)
            have hCq := HC2.out.drews nq
            have b1 : (wr.drewN nq).cell? ⟨g0, j * 2 + 1, none⟩ = some (.int .i64 qb) := a1
            generalize hWq : wr.drewN nq = wq at *
            have hfw := hCq.fr.size
            have hrch := hCq.inv.reach hat2 (by have := List.mem_of_getElem? HO.out; rw [H1.out] at this; exact this)
            have hFq := hCq.fr
            have HCQ := Lib.hid hCq
            clear a0 a1 at0 hWq hCq
            by_cases h2 : qb = k
            · have h2b : (qb == k) = true := by simpa using h2
              rw [h2] at hrch
              clear h2
              go_wp2_with fail
              go_ret
              exact ⟨true, rfl, by simp [hrch], hFq⟩
            · have h2b : (qb == k) = false := by simpa using h2
              have H2 := Lib.hid h2
              have hIR : IntRow wq (.slice (some ⟨gs2, 0, none⟩) S2.length cs2) S2 := introw_of HCQ.out.seen
              clear h2 hrch hFq
              go_wp2_with fail
              refine (in_calls wq _ S2 qb hIR (by omega)).mono ?_
              rintro e w' ⟨b, rfl, hb, rfl⟩
              cases b with
              | true =>
                have hmem := hb.1 rfl
                have HMEM := Lib.hid hmem
                clear hb hmem hIR
                go_wp2_with fail
                go_roundg (E.length - (j + 1))
                case measure => omega
                case rel => exact ⟨S2, j + 1, gs2, cs2, gt2, ct2, by go_num, rfl, rfl, by omega, rfl, hi2, HA2.out, hat2, HCQ.out.inv' (HCQ.out.inv.old HO.out HMEM.out H2.out)⟩
              | false =>
                have hnm : qb ∉ S2 := fun h => by have := hb.2 h; cases this
                have HNM := Lib.hid hnm
                have hsn := HCQ.out.seen
                have htd := HCQ.out.todo
                have hnst := HCQ.out.ne
                obtain ⟨hs1, hs2⟩ := hsn.lt gs2 rfl
                obtain ⟨ht1, ht2⟩ := htd.lt gt2 rfl
                have HTD := Lib.hid htd
                clear hb hnm hIR htd
                go_wp2_with (first
                  | (at_builtin
                     refine wpList_append_lies _ rfl (.tmp 49) (.tmp 55) 28 rfl w.heap.size 3 i0 _ 1 8 Try.underlying28 hi hz0 hz1 hz2 rfl (by decide) (.slice (some ⟨gs2, 0, none⟩) S2.length cs2) S2.length (ivs S2) rfl (hsn.alloc _) ⟨wq.heap.size, 0, none⟩ 1 1 [.int .i64 qb] rfl rfl (news1 wq qb) (one1 qb) (by omega) (by unfold maxLen; omega) (by omega) (by rw [World.size_alloc]; omega) (wq.heap.size + 1) (World.size_alloc _ _) ?_
                     intro g3 c3 w3 hown3 hgrow3 hat3 hlt3
                     have hF3 := ((Fr.refl (fun bl => bl = gs2) wq).alloc (.cells #[.int .i64 qb] 3)).grown hgrow3 (fun b hb => .inl (by cases hb; rfl))
                     have a3 := (hF3.cell (p := ⟨g0, j * 2 + 1, none⟩) (by show g0 < _; omega) (by show ¬ g0 = gs2; omega)).trans b1
                     have htd3 := row_fr2 HTD.out hF3 (fun gg hg e => by
                       have h2 : gt2 = gg := by simpa [Value.ownBlock] using hg
                       omega)
                     have hg3 : g3 ≠ gt2 := by
                       rcases hat3 with h | h
                       · have : gs2 = g3 := by simpa [Value.ownBlock] using h
                         omega
                       · omega
                     have hs3 := hF3.size
                     have hFF3 := HCQ.out.fr.trans hF3 (fun b hb e => by omega)
                     clear hgrow3 hF3 hat3)
                  | (at_builtin
                     refine wpList_append_lies _ rfl (.tmp 57) (.tmp 63) 28 rfl w.heap.size 3 i0 _ 1 8 Try.underlying28 hi hz0 hz1 hz2 rfl (by decide) (.slice (some ⟨gt2, 0, none⟩) (S2.length + 1) ct2) (S2.length + 1) (ivs (k :: S2)) rfl (htd3.alloc _) ⟨w3.heap.size, 0, none⟩ 1 1 [.int .i64 qb] rfl rfl (news1 w3 qb) (one1 qb) (by omega) (by unfold maxLen; omega) (by omega) (by rw [World.size_alloc]; omega) (w3.heap.size + 1) (World.size_alloc _ _) ?_
                     intro g4 c4 w4 hown4 hgrow4 hat4 hlt4
                     have hF4 := ((Fr.refl (fun bl => bl = gt2) w3).alloc (.cells #[.int .i64 qb] 3)).grown hgrow4 (fun b hb => .inl (by cases hb; rfl))
                     have hsn4 := row_fr2 hown3 hF4 (fun gg hg e => by
                       have h2 : g3 = gg := by simpa [Value.ownBlock] using hg
                       omega)
                     have hg4 : g3 ≠ g4 := by
                       rcases hat4 with h | h
                       · have : gt2 = g4 := by simpa [Value.ownBlock] using h
                         omega
                       · omega
                     have hFF4 := hFF3.trans hF4 (fun b hb e => by omega)
                     clear hgrow4 hF4 hat4))
                have hsl : (S2 ++ [qb]).length = S2.length + 1 := by simp
                have hst4 : BkSt w E k (S2 ++ [qb]) ((k :: (S2 ++ [qb])).drop (i + 1)) (fun x y => x = a ∧ restF E a (j + 1) y = true) g3 c3 g4 c4 w4 := by
                  refine ⟨by rw [hsl, ivs_append]; exact hsn4, by rw [hsl, ← List.cons_append, ivs_append]; exact hown4, hg4, List.nodup_append.2 ⟨HCQ.out.nd, by simp, ?_⟩, ?_, hFF4⟩
                  · intro x hx y hy
                    simp at hy
                    rintro rfl
                    exact HNM.out (hy ▸ hx)
                  · have hdi : (k :: (S2 ++ [qb])).drop (i + 1) = (k :: S2).drop (i + 1) ++ [qb] := by
                      rw [← List.cons_append, List.drop_append_of_le_length (by simp; omega)]
                    rw [hdi]
                    exact HCQ.out.inv.young hat2 HO.out H1.out H2.out (fun x => by simp)
                have hle := hst4.len
                rw [hsl] at hle
                go_roundg (E.length - (j + 1))
                case measure => omega
                case rel => exact ⟨S2 ++ [qb], j + 1, g3, c3, g4, c4, by go_num, by rw [hsl], by rw [hsl], by omega, rfl, by rw [hsl]; omega, by
                  rw [← List.cons_append, List.getElem?_append_left (by simpa using hi2)]; exact HA2.out, hat2.imp id (fun h => by simp [h]), hst4⟩
          · have h1b : (qa != a) = true := by simpa using h1
            have H1 := Lib.hid h1
            clear h1
            go_wp2_with fail
            go_quiet (fail)
            go_wp2_with fail
            go_roundg (E.length - (j + 1))
            case measure => omega
            case rel => exact ⟨S2, j + 1, gs2, cs2, gt2, ct2, by go_num, rfl, rfl, by omega, rfl, hi2, HA2.out, hat2, (HC2.out.inv' (HC2.out.inv.skip HO.out H1.out)).drews nq⟩
        · obtain rfl : j = E.length := by omega
          have hltzj : (E.length : Int) ≤ (E.length : Int) := by omega
          have HC2 := Lib.hid hC
          clear hC
          go_wp2_with fail
          go_roundg (E.length + 1 - (i + 1))
          case measure => omega
          case rel => exact ⟨S2, i + 1, gs2, cs2, gt2, ct2, by go_num, rfl, rfl, by omega, by omega, HC2.out.inv' (HC2.out.inv.weaken fun x y _ h => by rw [restF_end] at h; cases h.2)⟩
    · obtain rfl : i = Sl.length + 1 := by omega
      have hltz : ((Sl.length + 1 : Nat) : Int) ≤ ((Sl.length + 1 : Nat) : Int) := by omega
      have hinv := hB.inv
      rw [List.drop_of_length_le (by simp)] at hinv
      have hfin := hinv.fin
      have hF := hB.fr
      clear hB hinv
      go_wp2_with fail
      go_ret
      exact ⟨false, rfl, by simp [hfin], hF⟩

end Go.Proofs.Ytofnenemjbccgaa
