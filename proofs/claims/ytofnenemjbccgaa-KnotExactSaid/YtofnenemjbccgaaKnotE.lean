/- Who waits for whom: leads, the walk. -/
import Derived.Test.YtofnenemjbccgaaKnotD
namespace Go.Proofs.Ytofnenemjbccgaa
open Go.Maps Go.RowKit

theorem zeroBoolK (w : World) : (zeroValue 4).run Try.prog w = .ok (.bool false) w := by kernel_rfl

/-- what was seen, as a map's list -/
def SeenL (S : List (Int × Value)) : Prop := Srt S ∧ ∀ x v, look x S = some v → v = .bool true

/-- Where the search stands. -/
structure LdSt (w : World) (E : ES) (k : Int) (S : List (Int × Value)) (T : List Int) (P : Int → Int → Prop) (t : Value) (wr : World) : Prop where
  seen : VMap wr Try.prog 3 w.heap.size S
  tru : ∀ x v, look x S = some v → v = .bool true
  row : wr.ownsRow (w.heap.size + 1) 3 1 t T.length (ivs T)
  inv : DInv E k (fun x => (look x S).isSome) T P
  fr : Fr (fun _ => False) w wr

theorem row_blk {W : World} {base : Nat} {e : TypeId} {size : Nat} {v : Value} {n : Nat} {xs : List Value} (h : W.ownsRow base e size v n xs) {b : Nat} (hb : v.ownBlock = some b) : ∃ cs, Blk W b e cs := by
  rcases h.2 with ⟨rfl, _⟩ | ⟨g, cap, cur, rfl, _, r3, _⟩
  · cases hb
  · cases hb
    exact ⟨cur.toList, r3⟩

theorem LdSt.len {w wr : World} {E : ES} {k : Int} {S : List (Int × Value)} {T : List Int} {P : Int → Int → Prop} {t : Value} (h : LdSt w E k S T P t wr) : S.length ≤ E.length :=
  keys_len h.seen.2.1 fun x v hx => (h.inv.way x (by rw [hx]; rfl)).last

theorem LdSt.quiet {w wr w' : World} {E : ES} {k : Int} {S : List (Int × Value)} {T : List Int} {P : Int → Int → Prop} {t : Value} (h : LdSt w E k S T P t wr) (hF : Fr (fun _ => False) wr w') : LdSt w E k S T P t w' :=
  ⟨h.seen.fr hF (fun e => e), h.tru, row_fr h.row hF (fun _ _ _ _ e => e), h.inv, h.fr.trans hF (fun _ _ e => e)⟩

theorem LdSt.weaken {w wr : World} {E : ES} {k : Int} {S : List (Int × Value)} {T : List Int} {P P' : Int → Int → Prop} {t : Value} (h : LdSt w E k S T P t wr) (hp : ∀ x y, (x, y) ∈ E → P x y → P' x y) : LdSt w E k S T P' t wr :=
  ⟨h.seen, h.tru, h.row, h.inv.weaken fun x y hxy hx => .inr (hp x y hxy hx), h.fr⟩

/-- the iterator turns -/
theorem LdSt.iter {w wr w' : World} {E : ES} {k : Int} {S : List (Int × Value)} {T : List Int} {P : Int → Int → Prop} {t : Value} {gi r cnt : Nat} {li : List (Int × Value)} {lf : Int → Bool} (h : LdSt w E k S T P t wr) (hr : VRange wr Try.prog 3 gi r li lf cnt) (hF : Fr (fun j => j = r) wr w') (hw : w.heap.size ≤ r) : LdSt w E k S T P t w' :=
  ⟨h.seen.fr hF (fun e => hr.ne_map h.seen e), h.tru, row_fr h.row hF (fun g cs _ hB e => hr.ne_blk hB e), h.inv, h.fr.trans hF (fun b hb e => by omega)⟩

theorem edges_in {w : World} {gb : Nat} {gs : GS} {E : ES} (h : IsG w gb gs) (hG : GOf E gs) {a b : Int} (he : (a, b) ∈ E) : in64 a ∧ in64 b := by
  obtain ⟨g, l, h1, h2⟩ := (hG a b).1 he
  cases e : look b l with
  | none => rw [e] at h2; cases h2
  | some v => exact ⟨h.ink _ (mem_of_look h1), (h.k a g l h1).2.2 _ (mem_of_look e)⟩

set_option maxHeartbeats 2000000 in
theorem leads_calls (w : World) (gb : Nat) (gs : GS) (E : ES) (k : Int) (hM : IsG w gb gs) (hG : GOf E gs) (hk : in64 k) (hn : E.length ≤ 1000000) :
    Calls Try.prog 24 #[.map (some gb), .int .i64 k] w fun e w' => ∃ b : Bool, e = .returned (.bool b) ∧ (b = true ↔ Pth E k k) ∧ Fr (fun _ => False) w w' := by
  obtain ⟨i0, hi, hz0, hz1, hz2⟩ := info_parts infoInt
  have hmm := @run_makeMap Try.prog
  have HM := Lib.hid hM
  have HG := Lib.hid hG
  have hgbl := hM.m.lt
  have hst : LdSt w E k [] [k] (fun _ _ => False) (.slice (some ⟨w.heap.size + 1, 0, none⟩) 1 1) ((w.alloc (.map #[] 0)).alloc (.cells #[.int .i64 k] 3)) := by
    have hr := (w.alloc (.map #[] 0)).ownsRow_lit (e := 3) (size := 1) (base := w.heap.size + 1) #[.int .i64 k] 1 (by rw [World.size_alloc]; omega) (by unfold maxLen; omega) rfl
    rw [World.size_alloc] at hr
    refine ⟨(VMap.made w _ _).alloc _, by simp [look], hr, ?_, ((Fr.refl _ w).alloc _).alloc _⟩
    have := DInv.start (E := E) (k := k)
    exact ⟨fun x hx => .inl (by simpa using hx), fun x hx => by simp [look] at hx, fun x hx hn => by
      rcases hx with rfl | h
      · exact absurd (by simp) hn
      · simp [look] at h⟩
  clear hM hG
  go_enter Try.func24, Try.ntmps24
  go_wp2_with fail
  go_loopg [6] (2 * E.length + 1) (fun g t wr => ∃ (S : List (Int × Value)) (T : List Int), g = 2 * (E.length - S.length) + T.length ∧ T.length ≤ S.length + 1 ∧ LdSt w E k S T (fun _ _ => False) t wr)
  case atStart => exact ⟨[], [k], by simp, by simp, hst⟩
  case round =>
    obtain ⟨S, T, rfl, hTS, hL⟩ := hrel
    clear hst
    have hSl := hL.len
    rcases List.eq_nil_or_concat T with rfl | ⟨T', a, rfl⟩
    · have hrow := hL.row
      have hfin := hL.inv.fin
      have hF := hL.fr
      rcases hrow.2 with ⟨rfl, hz⟩ | ⟨g, cap, cur, rfl, hr⟩
      all_goals
        clear hrow
        go_wp2_with fail
        go_ret
        exact ⟨false, rfl, by simp [hfin], hF⟩
    · rw [List.concat_eq_append] at hL
      have hrow := hL.row
      have hlen : (T' ++ [a]).length = T'.length + 1 := by simp
      have hiv : ivs (T' ++ [a]) = ivs T' ++ [.int .i64 a] := by simp [ivs]
      rw [hlen, hiv] at hrow
      try rw [hlen]
      obtain ⟨g, cap, rfl, hg, hc1, hc2⟩ := row_some hrow
      have c0 := hrow.cellAt T'.length (by omega)
      rw [List.getElem?_append_right (by simp [ivs]), show T'.length - (ivs T').length = 0 by simp [ivs]] at c0
      have hpop := row_pop hrow
      have hT : T'.length ≤ 1000000 := by rw [List.concat_eq_append, hlen] at hTS; omega
      have hzT : ((T'.length + 1 : Nat) : Int) - 1 = (T'.length : Int) := by omega
      obtain ⟨hinv, hat⟩ := hL.inv.pop
      have hL' : LdSt w E k S T' (fun x _ => x = a) (.slice (some ⟨g, 0, none⟩) T'.length cap) wr := ⟨hL.seen, hL.tru, hpop, hinv, hL.fr⟩
      have hia : in64 a := by
        rcases hat with rfl | h
        · exact hk
        · obtain ⟨c, hc⟩ := (hL.inv.way a h).last
          exact (edges_in HM.out HG.out hc).2
      have hMr := HM.out.keep hL.fr (fun _ _ h => h)
      have hV0 := hMr.m
      have HL := Lib.hid hL'
      clear hL hL' hpop hrow hiv
      cases e : look a gs with
      | none =>
        have he0 : (look a (vmap mapV gs)).getD (.map none) = .map none := by rw [look_vmap, e]; rfl
        have hrgn := run_range_nilMap (P := Try.prog) wr 50 3 4 Try.underlying50
        have hnx : ∀ ty, (Instr.next (.pointer (some ⟨wr.heap.size, 0, none⟩)) false ty).run Try.prog (wr.alloc (.mapIter none 0 #[] 0)) = _ := fun ty => run_next_nilMap wr ty 0 0 #[]
        have hno : ∀ x y, (x, y) ∈ E → x = a → False := fun x y hxy hx => by
          obtain ⟨g', l', h1, _⟩ := (HG.out x y).1 hxy
          rw [hx, e] at h1
          cases h1
        have HNO := Lib.hid hno
        clear hno e hinv hMr
        go_wp2_with (first
          | (at_lookup; refine wpList_mlook _ rfl _ _ 47 rfl 3 50 gb Try.underlying3 Try.underlying47 _ (zeroMap _) _ hV0 rfl a rfl hia (.map none) he0 ?_))
        refine wp_loop_rounds 1 ?_
        rw [rounds_succ]
        go_wp2_with fail
        have hLq := HL.out.quiet ((Fr.refl (fun _ => False) wr).alloc (.mapIter none 0 #[] 0))
        go_roundg (2 * (E.length - S.length) + T'.length)
        case measure => rw [List.concat_eq_append, hlen]; omega
        case rel =>
          rw [List.concat_eq_append, hlen] at hTS
          exact ⟨S, T', rfl, by omega, hLq.weaken (fun x y hxy hx => (HNO.out x y hxy hx).elim)⟩
      | some gl =>
        obtain ⟨gi, li⟩ := gl
        have he0 : (look a (vmap mapV gs)).getD (.map none) = .map (some gi) := by rw [look_vmap, e]; rfl
        have hVi := hMr.k a gi li e
        go_wp2_with (first
          | (at_lookup; refine wpList_mlook _ rfl _ _ 47 rfl 3 50 gb Try.underlying3 Try.underlying47 _ (zeroMap _) _ hV0 rfl a rfl hia (.map (some gi)) he0 ?_)
          | (at_range; refine wpList_range_v _ rfl _ 50 rfl 3 4 Try.underlying3 Try.underlying50 gi li hVi rfl ?_; intro w0 hrg0 hF0 hs0))
        go_frame
        rw [List.concat_eq_append, hlen] at hTS
        have hgi := HM.out.foot_lt (.inr ⟨a, li, e⟩)
        have hpend : ∀ x y, (x, y) ∈ E → x = a → (look y li).isSome = true := fun x y hxy hx => by
          obtain ⟨g', l', h1, h2⟩ := (HG.out x y).1 hxy
          rw [hx, e] at h1
          cases h1
          exact h2
        have hedge : ∀ y, (look y li).isSome = true → (a, y) ∈ E := fun y hy => (HG.out a y).2 ⟨gi, li, e, hy⟩
        have hL0 := (HL.out.quiet hF0).weaken (P' := fun x y => x = a ∧ (look y li).isSome = true) (fun x y hxy hx => ⟨hx, hpend x y hxy hx⟩)
        have HED := Lib.hid hedge
        have hrl := hL0.fr.size
        have hrs := HL.out.fr.size
        go_loopg [6] li.length (fun gg t wq => ∃ (S2 : List (Int × Value)) (T2 : List Int) (lf : Int → Bool), VRange wq Try.prog 3 gi wr.heap.size li lf gg ∧ LdSt w E k S2 T2 (fun x y => x = a ∧ lf y = true) t wq ∧ T2.length ≤ S2.length ∧ 2 * (E.length - S2.length) + T2.length ≤ 2 * (E.length - S.length) + T'.length ∧ (a = k ∨ (look a S2).isSome))
        case atStart => exact ⟨S, T', _, hrg0, hL0, by omega, Nat.le_refl _, hat⟩
        case round =>
          obtain ⟨S2, T2, lf, hrg, hL2, hTS2, hms, hat2⟩ := hrel
          have hS2 := hL2.len
          clear hrg0 hL0 hF0 hs0 hpend hedge
          go_wp2_with (at_next; refine wpList_next_v _ rfl _ rfl 3 Try.underlying3 gi _ li _ _ rfl hrg ?_ ?_)
          · intro hl0
            go_wp2_with fail
            go_roundg (2 * (E.length - S2.length) + T2.length)
            case measure => rw [List.concat_eq_append, hlen]; omega
            case rel => exact ⟨S2, T2, rfl, by omega, hL2.weaken (fun x y _ hx => by rw [hl0 y] at hx; cases hx.2)⟩
          · intro x v w1 cnt1 hix hlx hlf hrg1 hlt1 hF1 hs1 hen
            have hL1 := hL2.iter hrg hF1 hrs
            have hxe := HED.out x (by rw [hlx]; rfl)
            have hrch := hL1.inv.reach hat2 hxe
            have hFw := hL1.fr
            have hsv := hL1.seen
            clear hL2 hrg
            by_cases hxk : x = k
            · have hb : (x == k) = true := by simpa using hxk
              rw [hxk] at hrch
              clear hxk
              go_wp2_with fail
              go_ret
              exact ⟨true, rfl, by simp [hrch], hFw⟩
            · have hb : (x == k) = false := by simpa using hxk
              have HXK := Lib.hid hxk
              clear hxk
              cases hsx : look x S2 with
              | some v' =>
                obtain rfl := hL1.tru x v' hsx
                have hv0 : (look x S2).getD (.bool false) = .bool true := by rw [hsx]; rfl
                have hLn : LdSt w E k S2 T2 (fun x' y => x' = a ∧ (lf y && y != x) = true) _ w1 := ⟨hL1.seen, hL1.tru, hL1.row, hL1.inv.seen (by rw [hsx]; rfl) HXK.out, hL1.fr⟩
                clear hsx hL1
                go_wp2_with (at_lookup; refine wpList_mlook _ rfl _ _ 50 rfl 3 4 w.heap.size Try.underlying3 Try.underlying50 _ (zeroBoolK _) _ hsv rfl x rfl hix (.bool true) hv0 ?_)
                go_roundg cnt1
                case measure => exact hlt1
                case rel => exact ⟨S2, T2, _, hrg1, hLn, hTS2, hms, hat2⟩
              | none =>
                have hv0 : (look x S2).getD (.bool false) = .bool false := by rw [hsx]; rfl
                have HSX := Lib.hid hsx
                have HL1 := Lib.hid hL1
                have hrow1 := hL1.row
                have hw1 := hL1.fr.size
                have hr1 := hrg1.ne_map hsv
                have hgi2 : gi ≠ w.heap.size := by have := HM.out.foot_lt (.inr ⟨a, li, e⟩); omega
                clear hsx hL1 hinv hMr
                go_wp2_with (first
                  | (at_lookup; refine wpList_mlook _ rfl _ _ 50 rfl 3 4 w.heap.size Try.underlying3 Try.underlying50 _ (zeroBoolK _) _ hsv rfl x rfl hix (.bool false) hv0 ?_)
                  | (at_mapUpdate; refine wpList_mput _ rfl _ _ _ 50 rfl 3 4 w.heap.size Try.underlying3 Try.underlying50 _ hsv (by unfold maxLen; omega) rfl x rfl hix (.bool true) rfl ?_; intro w2 hV2 ht2; have hF2 := (Fr.refl (fun b => b = w.heap.size) w1).map ht2 (.inl rfl); have hrow2 := row_fr hrow1 hF2 (fun g cs hg _ e => by omega); have hs2 := hF2.size; have hbs2 : ∀ o : Obj, w.heap.size + 1 ≤ (w2.alloc o).heap.size := fun o => by rw [World.size_alloc]; omega)
                  | (at_builtin; refine wpList_append_own _ rfl (.tmp 43) (.tmp 45) 28 rfl (w.heap.size + 1) 3 i0 _ 1 8 Try.underlying28 hi hz0 hz1 hz2 rfl (by decide) _ _ _ rfl (hrow2.alloc _) ⟨w2.heap.size, 0, none⟩ 1 1 [.int .i64 x] rfl rfl (news1 w2 x) (one1 x) (by unfold maxLen; omega) (by omega) (hbs2 _) ?_; intro v3 w3 hown3 hgrow3 _hn3; clear _hn3))
                have hFg := ((Fr.refl (fun b => Value.ownBlock _ = some b) w2).alloc _).grown hgrow3 (fun b hb => .inl hb)
                have hrg2 := hrg1.fr hF2 hgi2 (fun e => hr1 e.symm)
                have hrg3 := hrg2.fr hFg (fun h => by have := (hrow2.lt _ h).1; omega) (fun h => by
                  obtain ⟨cs, hB⟩ := row_blk hrow2 h
                  exact hrg2.ne_blk hB rfl)
                have hlen2 : (T2 ++ [x]).length = T2.length + 1 := by simp
                have hiv2 : ivs (T2 ++ [x]) = ivs T2 ++ [.int .i64 x] := by simp [ivs]
                have hlS : (ins x (Value.bool true) S2).length = S2.length + 1 := by rw [length_ins HL1.out.seen.2.1, HSX.out]; rfl
                have hLn : LdSt w E k (ins x (.bool true) S2) (T2 ++ [x]) (fun x' y => x' = a ∧ (lf y && y != x) = true) v3 w3 := by
                  refine ⟨hV2.fr hFg (fun h => by have := (hrow2.lt _ h).1; omega), fun y u hy => ?_, by rw [hlen2, hiv2]; exact hown3, HL1.out.inv.fresh hat2 hxe HXK.out (fun y => ?_), (hFw.trans hF2 (fun b hb e => by omega)).trans hFg (fun b hb e => by have := (hrow2.lt _ e).1; omega)⟩
                  · rw [look_ins] at hy
                    split at hy
                    · cases hy; rfl
                    · exact HL1.out.tru y u hy
                  · rw [look_ins]
                    split
                    · rename_i e'; simp [e']
                    · rename_i e'; simp [e']
                have hlE := hLn.len
                rw [hlS] at hlE
                go_roundg cnt1
                case measure => exact hlt1
                case rel => exact ⟨_, _, _, hrg3, hLn, by rw [hlS, hlen2]; omega, by rw [hlS, hlen2]; omega, by
                  rcases hat2 with h | h
                  · exact .inl h
                  · right
                    rw [look_ins]
                    split
                    · rfl
                    · exact h⟩

end Go.Proofs.Ytofnenemjbccgaa
