/- The reference: Stuck, the walk. -/
import Derived.Test.YtofnenemjbccgaaKnotN
namespace Go.Proofs.Ytofnenemjbccgaa
open Go.Maps Go.RowKit

/-- p: what was gone through of a rising list without k; next: with k in its place, if that was met. -/
def InsSt (k : Int) (p : List Int) (done : Bool) (next : List Int) : Prop :=
  (done = false ∧ next = p ∧ ∀ x ∈ p, x < k) ∨
  (done = true ∧ Rising next ∧ (∀ x, x ∈ next ↔ x ∈ p ∨ x = k) ∧ next.length = p.length + 1 ∧ ∃ x ∈ p, k < x)

theorem ins_start (k : Int) : InsSt k [] false [] := .inl ⟨rfl, rfl, by simp⟩

theorem rising_snoc {l : List Int} {y : Int} (h : Rising l) (hy : ∀ x ∈ l, x < y) : Rising (l ++ [y]) := by
  unfold Rising at *
  rw [List.pairwise_append]
  exact ⟨h, by simp, fun a ha b hb => by simp at hb; rw [hb]; exact hy a ha⟩

theorem ins_len {k : Int} {p next : List Int} {done : Bool} (h : InsSt k p done next) : next.length ≤ p.length + 1 := by
  rcases h with ⟨_, rfl, _⟩ | ⟨_, _, _, h, _⟩ <;> omega

theorem ins_new {k y : Int} {p next : List Int} (h : InsSt k p false next) (hp : Rising p) (hy : ∀ x ∈ p, x < y) (hk : k < y) : InsSt k (p ++ [y]) true (next ++ [k] ++ [y]) := by
  rcases h with ⟨_, rfl, h1⟩ | ⟨h, _⟩
  · refine .inr ⟨rfl, rising_snoc (rising_snoc hp h1) (fun x hx => ?_), fun x => by simp only [List.mem_append, List.mem_singleton]; grind, by simp, y, by simp, hk⟩
    rcases List.mem_append.1 hx with h | h
    · exact hy x h
    · simp at h; omega
  · cases h

theorem ins_low {k y : Int} {p next : List Int} (h : InsSt k p false next) (hk : ¬ k < y) (hne : y ≠ k) : InsSt k (p ++ [y]) false (next ++ [y]) := by
  rcases h with ⟨_, rfl, h1⟩ | ⟨h, _⟩
  · refine .inl ⟨rfl, rfl, fun x hx => ?_⟩
    rcases List.mem_append.1 hx with h | h
    · exact h1 x h
    · simp at h; omega
  · cases h

theorem ins_past {k y : Int} {p next : List Int} (h : InsSt k p true next) (hy : ∀ x ∈ p, x < y) : InsSt k (p ++ [y]) true (next ++ [y]) := by
  rcases h with ⟨h, _⟩ | ⟨_, h1, h2, h3, z, h4, h5⟩
  · cases h
  · refine .inr ⟨rfl, rising_snoc h1 (fun x hx => ?_), fun x => by simp only [List.mem_append, List.mem_singleton, h2]; grind, by simp [h3], z, by simp [h4], h5⟩
    rcases (h2 x).1 hx with h | h
    · exact hy x h
    · have := hy z h4; omega

/-- the whole list was gone through -/
theorem ins_fin_new {k : Int} {p next : List Int} (h : InsSt k p false next) (hp : Rising p) : Rising (next ++ [k]) ∧ ∀ x, x ∈ next ++ [k] ↔ x ∈ p ∨ x = k := by
  rcases h with ⟨_, rfl, h1⟩ | ⟨h, _⟩
  · exact ⟨rising_snoc hp h1, fun x => by simp⟩
  · cases h

theorem ins_fin_old {k : Int} {p next : List Int} (h : InsSt k p true next) : Rising next ∧ ∀ x, x ∈ next ↔ x ∈ p ∨ x = k := by
  rcases h with ⟨h, _⟩ | ⟨_, h1, h2, _⟩
  · cases h
  · exact ⟨h1, h2⟩

/-- of the edges so far those that wait for themselves -/
def Partly (E : ES) (i : Nat) (out : List Int) : Prop := Rising out ∧ ∀ x, x ∈ out ↔ (∃ q ∈ E.take i, q.1 = x) ∧ Pth E x x

theorem partly_len {E : ES} {i : Nat} {out : List Int} (h : Partly E i out) : out.length ≤ E.length := by
  have hn : out.Nodup := h.1.imp fun {a b} h => by omega
  have := nodup_len hn (T := E.map (·.1)) fun x hx => by
    obtain ⟨⟨q, hq, rfl⟩, _⟩ := (h.2 x).1 hx
    exact List.mem_map.2 ⟨q, List.mem_of_mem_take hq, rfl⟩
  simpa using this

theorem take_fst {E : ES} {i : Nat} {q : Int × Int} (h : E[i]? = some q) (x : Int) : (∃ p ∈ E.take (i + 1), p.1 = x) ↔ (∃ p ∈ E.take i, p.1 = x) ∨ x = q.1 := by
  rw [List.take_add_one, h]
  simp only [Option.toList_some, List.mem_append, List.mem_singleton]
  constructor
  · rintro ⟨p, hp | hp, rfl⟩
    · exact .inl ⟨p, hp, rfl⟩
    · exact .inr (by rw [hp])
  · rintro (⟨p, hp, rfl⟩ | rfl)
    · exact ⟨p, .inl hp, rfl⟩
    · exact ⟨q, .inr rfl, rfl⟩

theorem partly_skip {E : ES} {i : Nat} {q : Int × Int} {out : List Int} (h : Partly E i out) (hq : E[i]? = some q) (hs : q.1 ∈ out ∨ ¬ Pth E q.1 q.1) : Partly E (i + 1) out := by
  refine ⟨h.1, fun x => ?_⟩
  rw [take_fst hq, h.2]
  constructor
  · exact fun ⟨h1, h2⟩ => ⟨.inl h1, h2⟩
  · rintro ⟨h1 | rfl, h2⟩
    · exact ⟨h1, h2⟩
    · rcases hs with hs | hs
      · exact (h.2 _).1 hs
      · exact absurd h2 hs

theorem partly_add {E : ES} {i : Nat} {q : Int × Int} {out out' : List Int} (h : Partly E i out) (hq : E[i]? = some q) (hs : Pth E q.1 q.1) (h' : Rising out' ∧ ∀ x, x ∈ out' ↔ x ∈ out ∨ x = q.1) : Partly E (i + 1) out' := by
  refine ⟨h'.1, fun x => ?_⟩
  rw [take_fst hq, h'.2, h.2]
  constructor
  · rintro (⟨h1, h2⟩ | rfl)
    · exact ⟨.inl h1, h2⟩
    · exact ⟨.inr rfl, hs⟩
  · rintro ⟨h1 | rfl, h2⟩
    · exact .inl ⟨h1, h2⟩
    · exact .inr rfl

theorem partly_fin {E : ES} {out : List Int} (h : Partly E E.length out) : IsStuck E out := by
  refine ⟨h.1, fun x => ?_⟩
  rw [h.2, List.take_length]
  exact ⟨fun h => h.2, fun p => ⟨by obtain ⟨c, hc⟩ := p.first; exact ⟨_, hc, rfl⟩, p⟩⟩

set_option maxHeartbeats 2000000 in
theorem stuckR_calls (w : World) (v : Value) (E : ES) (hR : EdgeRow w v E) (hn : E.length ≤ 10000) :
    Calls Try.prog 10 #[v] w (StuckP w E) := by
  obtain ⟨i0, hi, hz0, hz1, hz2⟩ := info_parts infoInt
  have HR := Lib.hid hR
  obtain ⟨A, cap, rfl, hc⟩ := hR
  have HC := Lib.hid hc
  clear hc
  have hr1 : (w.alloc (.cells #[] 3)).ownsRow w.heap.size 3 1 (.slice (some ⟨w.heap.size, 0, none⟩) 0 0) 0 (ivs []) :=
    w.ownsRow_lit #[] 0 (Nat.le_refl _) (by omega) rfl
  have hF0 : Fr (fun _ => False) w (w.alloc (.cells #[] 3)) := (Fr.refl _ w).alloc _
  have hP0 : Partly E 0 [] := ⟨List.Pairwise.nil, by simp⟩
  go_enter Try.func10, Try.ntmps10
  go_wp2_with fail
  go_loopg [3, 4] E.length (fun g u i wr => ∃ (out : List Int) (k go co : Nat), i = .int .i64 k ∧ k ≤ E.length ∧ g = E.length - k ∧ u = .slice (some ⟨go, 0, none⟩) out.length co ∧ wr.ownsRow w.heap.size 3 1 u out.length (ivs out) ∧ Partly E k out ∧ Fr (fun _ => False) w wr)
  case atStart => exact ⟨[], 0, _, _, rfl, by omega, by omega, rfl, hr1, hP0, hF0⟩
  case round =>
    obtain ⟨out, i, go, co, rfl, hi1, rfl, rfl, hro, hP, hF⟩ := hrel
    have hol := partly_len hP
    have hsz := hF.size
    clear hr1 hF0 hP0
    by_cases hlt : i < E.length
    · have hltz : (i : Int) < (E.length : Int) := by omega
      have q1 : (0 : Int) ≤ (i : Int) := by omega
      have ho : E[i]? = some E[i] := List.getElem?_eq_getElem hlt
      generalize E[i] = q at ho
      obtain ⟨g0, rfl, hg0, a0, a1⟩ := HC.out i q ho
      rw [← hF.cell (p := ⟨g0, _, none⟩) hg0 (fun h => h)] at a0
      obtain ⟨k, qb⟩ := q
      dsimp only at a0
      clear a1
      have HO := Lib.hid ho
      have HP := Lib.hid hP
      have HF := Lib.hid hF
      have HRO := Lib.hid hro
      have hIR := introw_of hro
      have hRw := HR.out.fr hF (fun _ _ h => h)
      clear ho hP hF hro
      go_wp2_with fail
      refine (in_calls wr _ out k hIR (by omega)).mono ?_
      rintro e w' ⟨b, rfl, hb, rfl⟩
      cases b with
      | true =>
        have hmem := hb.1 rfl
        have hPn := partly_skip HP.out HO.out (.inl hmem)
        have HPN := Lib.hid hPn
        clear hb hmem hIR hRw hPn
        go_wp2_with fail
        go_roundg (E.length - (i + 1))
        case measure => omega
        case rel => exact ⟨out, i + 1, go, co, by go_num, by omega, rfl, rfl, HRO.out, HPN.out, HF.out⟩
      | false =>
        have hnm : k ∉ out := fun h => by have := hb.2 h; cases this
        have HNM := Lib.hid hnm
        clear hb hnm hIR
        go_wp2_with fail
        refine (back_calls wr _ E k hRw (by omega)).mono ?_
        rintro e w3 ⟨b, rfl, hb, hF3⟩
        have hFF := HF.out.trans hF3 (fun _ _ h => h)
        have hro3 := row_keep HRO.out hF3
        clear hF3 hRw a0
        cases b with
        | false =>
          have hnp : ¬ Pth E k k := fun h => by have := hb.2 h; cases this
          have hPn := partly_skip HP.out HO.out (.inr hnp)
          have HPN := Lib.hid hPn
          have HFF := Lib.hid hFF
          have HR3 := Lib.hid hro3
          clear hb hnp hPn hFF hro3
          go_wp2_with fail
          go_roundg (E.length - (i + 1))
          case measure => omega
          case rel => exact ⟨out, i + 1, go, co, by go_num, by omega, rfl, rfl, HR3.out, HPN.out, HFF.out⟩
        | true =>
          have hp := hb.1 rfl
          have HPT := Lib.hid hp
          have hs3 := hFF.size
          have hrn := w3.ownsRow_lit (e := 3) (size := 1) (base := w.heap.size) #[] 0 hs3 (by omega) rfl
          have hroa := hro3.alloc (.cells #[] 3)
          have hFa := hFF.alloc (.cells #[] 3)
          have hgo := hro3.lt go rfl
          have hne : w3.heap.size ≠ go := by omega
          clear hb hp hFF hro3
          go_wp2_with fail
          go_loopg [6, 7, 8] out.length (fun g vn vd jj wq => ∃ (next : List Int) (done : Bool) (j gn cn : Nat), jj = .int .i64 j ∧ j ≤ out.length ∧ g = out.length - j ∧ vd = .bool done ∧ vn = .slice (some ⟨gn, 0, none⟩) next.length cn ∧ wq.ownsRow w.heap.size 3 1 vn next.length (ivs next) ∧ gn ≠ go ∧ wq.ownsRow w.heap.size 3 1 (.slice (some ⟨go, 0, none⟩) out.length co) out.length (ivs out) ∧ InsSt k (out.take j) done next ∧ Fr (fun _ => False) w wq)
          case atStart => exact ⟨[], false, 0, _, _, rfl, by omega, by omega, rfl, rfl, hrn, hne, hroa, ins_start k, hFa⟩
          case round =>
            obtain ⟨next, done, j, gn, cn, rfl, hj, rfl, rfl, rfl, hrn2, hne2, hro2, hI, hF2⟩ := hrel
            clear hrn hroa hFa hgo hne
            have hs2 := hF2.size
            have hgo2 := hro2.lt go rfl
            have hgn2 := hrn2.lt gn rfl
            have hil := ins_len hI
            rw [List.length_take] at hil
            have HRN := Lib.hid hrn2
            have HRO2 := Lib.hid hro2
            have HI := Lib.hid hI
            have HF2 := Lib.hid hF2
            by_cases hltj : j < out.length
            · have hltzj : (j : Int) < (out.length : Int) := by omega
              have q2 : (0 : Int) ≤ (j : Int) := by omega
              have hoj : out[j]? = some out[j] := List.getElem?_eq_getElem hltj
              generalize hy : out[j] = y at hoj
              have at0 := hro2.cellAt j (by omega)
              rw [show (ivs out)[j]? = some (.int .i64 y) by simp only [ivs, List.getElem?_map, hoj]; rfl] at at0
              have htk : out.take (j + 1) = out.take j ++ [y] := by rw [List.take_add_one, hoj]; rfl
              have hyl : ∀ x ∈ out.take j, x < y := by
                have hr := HP.out.1
                rw [← List.take_append_drop (j + 1) out, htk] at hr
                unfold Rising at hr
                rw [List.pairwise_append, List.pairwise_append] at hr
                exact fun x hx => hr.1.2.2 x hx y (by simp)
              have hyk : y ≠ k := fun e => HNM.out (by rw [← e]; exact List.mem_of_getElem? hoj)
              have hrt : Rising (out.take j) := List.Pairwise.sublist (List.take_sublist j out) HP.out.1
              have HTK := Lib.hid htk
              have HYL := Lib.hid hyl
              have HYK := Lib.hid hyk
              have HRT := Lib.hid hrt
              clear hrn2 hro2 hI hF2 hoj hy htk hyl hyk hrt
              cases done with
              | true =>
                have hrnx := HRN.out
                have hlen := hrnx.1
                go_wp2_with (
                  (at_builtin
                   refine wpList_append_lies _ rfl (.tmp 51) (.tmp 56) 28 rfl w.heap.size 3 i0 _ 1 8 Try.underlying28 hi hz0 hz1 hz2 rfl (by decide) (.slice (some ⟨gn, 0, none⟩) next.length cn) next.length (ivs next) rfl (hrnx.alloc _) ⟨wr.heap.size, 0, none⟩ 1 1 [.int .i64 y] rfl rfl (news1 wr y) (one1 y) (by omega) (by unfold maxLen; omega) (by omega) (by rw [World.size_alloc]; omega) (wr.heap.size + 1) (World.size_alloc _ _) ?_
                   intro g3 c3 w3x hown3 hgrow hat hlt
                   have hFz := ((Fr.refl (fun bl => bl = gn) wr).alloc (.cells #[.int .i64 y] 3)).grown hgrow (fun b hb => .inl (by cases hb; rfl))
                   have hro3 := row_fr2 HRO2.out hFz (fun gg hg e => by
                     have h2 : go = gg := by simpa [Value.ownBlock] using hg
                     omega)
                   have hne_g3 : g3 ≠ go := by
                     rcases hat with h | h
                     · have : gn = g3 := by simpa [Value.ownBlock] using h
                       omega
                     · omega
                   have hsz_g3 := hFz.size
                   have hF3x := (HF2.out).trans hFz (fun b hb e => by omega)
                   have hlo_g3 := hown3.lt g3 rfl
                   clear hgrow hFz hat))
                have hI3 := ins_past HI.out HYL.out
                rw [← HTK.out] at hI3
                have hnl : (next ++ [y]).length = next.length + 1 := by simp
                go_roundg (out.length - (j + 1))
                case measure => omega
                case rel => exact ⟨next ++ [y], true, j + 1, g3, c3, by go_num, by omega, rfl, rfl, by rw [hnl], by rw [hnl, ivs_append]; exact hown3, hne_g3, hro3, hI3, hF3x⟩
              | false =>
                by_cases hky : k < y
                · have hkb : decide (k < y) = true := by simpa using hky
                  have HKY := Lib.hid hky
                  have hrnx := HRN.out
                  have hlen := hrnx.1
                  clear hky
                  go_wp2_with (first
                    |
                      (at_builtin
                       refine wpList_append_lies _ rfl (.tmp 47) (.tmp 49) 28 rfl w.heap.size 3 i0 _ 1 8 Try.underlying28 hi hz0 hz1 hz2 rfl (by decide) (.slice (some ⟨gn, 0, none⟩) next.length cn) next.length (ivs next) rfl (hrnx.alloc _) ⟨wr.heap.size, 0, none⟩ 1 1 [.int .i64 k] rfl rfl (news1 wr k) (one1 k) (by omega) (by unfold maxLen; omega) (by omega) (by rw [World.size_alloc]; omega) (wr.heap.size + 1) (World.size_alloc _ _) ?_
                       intro g3 c3 w3x hown3 hgrow hat hlt
                       have hFz := ((Fr.refl (fun bl => bl = gn) wr).alloc (.cells #[.int .i64 k] 3)).grown hgrow (fun b hb => .inl (by cases hb; rfl))
                       have at3 := (hFz.cell (p := ⟨go, j, none⟩) (by show go < _; omega) (by show ¬ go = gn; omega)).trans at0
                       have hro3 := row_fr2 HRO2.out hFz (fun gg hg e => by
                         have h2 : go = gg := by simpa [Value.ownBlock] using hg
                         omega)
                       have hne_g3 : g3 ≠ go := by
                         rcases hat with h | h
                         · have : gn = g3 := by simpa [Value.ownBlock] using h
                           omega
                         · omega
                       have hsz_g3 := hFz.size
                       have hF3x := (HF2.out).trans hFz (fun b hb e => by omega)
                       have hlo_g3 := hown3.lt g3 rfl
                       clear hgrow hFz hat)
                    |
                      (at_builtin
                       refine wpList_append_lies _ rfl (.tmp 51) (.tmp 56) 28 rfl w.heap.size 3 i0 _ 1 8 Try.underlying28 hi hz0 hz1 hz2 rfl (by decide) (.slice (some ⟨g3, 0, none⟩) (next.length + 1) c3) (next.length + 1) (ivs next ++ [.int .i64 k]) rfl (hown3.alloc _) ⟨w3x.heap.size, 0, none⟩ 1 1 [.int .i64 y] rfl rfl (news1 w3x y) (one1 y) (by omega) (by unfold maxLen; omega) (by omega) (by rw [World.size_alloc]; omega) (w3x.heap.size + 1) (World.size_alloc _ _) ?_
                       intro g4 c4 w4x hown4 hgrow hat hlt
                       have hFz := ((Fr.refl (fun bl => bl = g3) w3x).alloc (.cells #[.int .i64 y] 3)).grown hgrow (fun b hb => .inl (by cases hb; rfl))
                       have hro4 := row_fr2 hro3 hFz (fun gg hg e => by
                         have h2 : go = gg := by simpa [Value.ownBlock] using hg
                         omega)
                       have hne_g4 : g4 ≠ go := by
                         rcases hat with h | h
                         · have : g3 = g4 := by simpa [Value.ownBlock] using h
                           omega
                         · omega
                       have hsz_g4 := hFz.size
                       have hF4x := (hF3x).trans hFz (fun b hb e => by omega)
                       have hlo_g4 := hown4.lt g4 rfl
                       clear hgrow hFz hat))
                  have hI3 := ins_new HI.out HRT.out HYL.out HKY.out
                  rw [← HTK.out] at hI3
                  have hnl : (next ++ [k] ++ [y]).length = next.length + 1 + 1 := by simp
                  go_roundg (out.length - (j + 1))
                  case measure => omega
                  case rel => exact ⟨next ++ [k] ++ [y], true, j + 1, g4, c4, by go_num, by omega, rfl, rfl, by rw [hnl], by rw [hnl, ivs_append, ivs_append]; exact hown4, hne_g4, hro4, hI3, hF4x⟩
                · have hkb : decide (k < y) = false := by simpa using hky
                  have HKY := Lib.hid hky
                  have hrnx := HRN.out
                  have hlen := hrnx.1
                  clear hky
                  go_wp2_with (
                    (at_builtin
                     refine wpList_append_lies _ rfl (.tmp 51) (.tmp 56) 28 rfl w.heap.size 3 i0 _ 1 8 Try.underlying28 hi hz0 hz1 hz2 rfl (by decide) (.slice (some ⟨gn, 0, none⟩) next.length cn) next.length (ivs next) rfl (hrnx.alloc _) ⟨wr.heap.size, 0, none⟩ 1 1 [.int .i64 y] rfl rfl (news1 wr y) (one1 y) (by omega) (by unfold maxLen; omega) (by omega) (by rw [World.size_alloc]; omega) (wr.heap.size + 1) (World.size_alloc _ _) ?_
                     intro g3 c3 w3x hown3 hgrow hat hlt
                     have hFz := ((Fr.refl (fun bl => bl = gn) wr).alloc (.cells #[.int .i64 y] 3)).grown hgrow (fun b hb => .inl (by cases hb; rfl))
                     have hro3 := row_fr2 HRO2.out hFz (fun gg hg e => by
                       have h2 : go = gg := by simpa [Value.ownBlock] using hg
                       omega)
                     have hne_g3 : g3 ≠ go := by
                       rcases hat with h | h
                       · have : gn = g3 := by simpa [Value.ownBlock] using h
                         omega
                       · omega
                     have hsz_g3 := hFz.size
                     have hF3x := (HF2.out).trans hFz (fun b hb e => by omega)
                     have hlo_g3 := hown3.lt g3 rfl
                     clear hgrow hFz hat))
                  have hI3 := ins_low HI.out (Int.not_lt.2 HKY.out) HYK.out
                  rw [← HTK.out] at hI3
                  have hnl : (next ++ [y]).length = next.length + 1 := by simp
                  go_roundg (out.length - (j + 1))
                  case measure => omega
                  case rel => exact ⟨next ++ [y], false, j + 1, g3, c3, by go_num, by omega, rfl, rfl, by rw [hnl], by rw [hnl, ivs_append]; exact hown3, hne_g3, hro3, hI3, hF3x⟩
            · obtain rfl : j = out.length := by omega
              have hltzj : (out.length : Int) ≤ (out.length : Int) := by omega
              have hI2 := HI.out
              rw [List.take_length] at hI2
              have HI2 := Lib.hid hI2
              clear hrn2 hro2 hI hF2 hI2
              cases done with
              | true =>
                have hPn := partly_add HP.out HO.out HPT.out (ins_fin_old HI2.out)
                have HPN := Lib.hid hPn
                clear hPn
                go_wp2_with fail
                go_roundg (E.length - (i + 1))
                case measure => omega
                case rel => exact ⟨next, i + 1, gn, cn, by go_num, by omega, rfl, rfl, HRN.out, HPN.out, HF2.out⟩
              | false =>
                have hrnx := HRN.out
                have hlen := hrnx.1
                have hPn := partly_add HP.out HO.out HPT.out (ins_fin_new HI2.out HP.out.1)
                have HPN := Lib.hid hPn
                clear hPn
                go_wp2_with (
                  (at_builtin
                   refine wpList_append_lies _ rfl (.tmp 60) (.tmp 62) 28 rfl w.heap.size 3 i0 _ 1 8 Try.underlying28 hi hz0 hz1 hz2 rfl (by decide) (.slice (some ⟨gn, 0, none⟩) next.length cn) next.length (ivs next) rfl (hrnx.alloc _) ⟨wr.heap.size, 0, none⟩ 1 1 [.int .i64 k] rfl rfl (news1 wr k) (one1 k) (by omega) (by unfold maxLen; omega) (by omega) (by rw [World.size_alloc]; omega) (wr.heap.size + 1) (World.size_alloc _ _) ?_
                   intro g3 c3 w3x hown3 hgrow hat hlt
                   have hFz := ((Fr.refl (fun bl => bl = gn) wr).alloc (.cells #[.int .i64 k] 3)).grown hgrow (fun b hb => .inl (by cases hb; rfl))
                   have hro3 := row_fr2 HRO2.out hFz (fun gg hg e => by
                     have h2 : go = gg := by simpa [Value.ownBlock] using hg
                     omega)
                   have hne_g3 : g3 ≠ go := by
                     rcases hat with h | h
                     · have : gn = g3 := by simpa [Value.ownBlock] using h
                       omega
                     · omega
                   have hsz_g3 := hFz.size
                   have hF3x := (HF2.out).trans hFz (fun b hb e => by omega)
                   have hlo_g3 := hown3.lt g3 rfl
                   clear hgrow hFz hat))
                have hnl : (next ++ [k]).length = next.length + 1 := by simp
                go_roundg (E.length - (i + 1))
                case measure => omega
                case rel => exact ⟨next ++ [k], i + 1, g3, c3, by go_num, by omega, rfl, by rw [hnl], by rw [hnl, ivs_append]; exact hown3, HPN.out, hF3x⟩
    · obtain rfl : i = E.length := by omega
      have hltz : (E.length : Int) ≤ (E.length : Int) := by omega
      have HP := Lib.hid hP
      clear hP
      go_wp2_with fail
      go_ret
      exact ⟨_, out, rfl, partly_fin HP.out, hro, hF⟩

end Go.Proofs.Ytofnenemjbccgaa
