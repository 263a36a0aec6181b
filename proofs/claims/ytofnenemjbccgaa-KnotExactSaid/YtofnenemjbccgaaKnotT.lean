/- The reference: Victims, the walk. -/
import Derived.Test.YtofnenemjbccgaaKnotO
namespace Go.Proofs.Ytofnenemjbccgaa
open Go.Maps Go.RowKit

theorem EdgeRow.fr2 {w w' : World} {v : Value} {E : ES} (h : EdgeRow w v E) {S : Nat → Prop} (hF : Fr S w w') (hS : ∀ b, v.ownBlock = some b → ¬ S b) : EdgeRow w' v E := by
  obtain ⟨A, cap, rfl, hc⟩ := h
  refine ⟨A, cap, rfl, fun i q hq => ?_⟩
  obtain ⟨g, rfl, h1, h2, h3⟩ := hc i q hq
  exact ⟨g, rfl, Nat.lt_of_lt_of_le h1 hF.size, (hF.cell (p := ⟨g, i * 2, none⟩) h1 (hS g rfl)).trans h2, (hF.cell (p := ⟨g, i * 2 + 1, none⟩) h1 (hS g rfl)).trans h3⟩

theorem edgerow_any {W : World} {base : Nat} {e : TypeId} {v : Value} {E : ES} (h : W.ownsRow base e 2 v E.length (ecells E)) : EdgeRow W v E := by
  rcases id h.2 with ⟨rfl, h0⟩ | ⟨g, cap, cur, rfl, hg, hgr, hr⟩
  · refine ⟨none, 0, by rw [h0], fun i q hi => ?_⟩
    have := (List.getElem?_eq_some_iff.1 hi).1
    omega
  · refine ⟨_, cap, rfl, fun i q hi => ⟨g, rfl, (Array.getElem?_eq_some_iff.1 hgr).1, ?_⟩⟩
    have hlt := (List.getElem?_eq_some_iff.1 hi).1
    obtain ⟨h1, h2⟩ := ecells_get hi
    exact ⟨(h.cellAt (i * 2) (by omega)).trans h1, (h.cellAt (i * 2 + 1) (by omega)).trans h2⟩

theorem without_lt {E : ES} {k : Int} (h : Pth E k k) : (without k E).length < E.length := by
  obtain ⟨c, hc⟩ := h.first
  unfold without
  exact List.length_filter_lt_length_iff_exists.2 ⟨(k, c), hc, by simp⟩

set_option maxHeartbeats 2000000 in
theorem victimsR_calls (w : World) (v : Value) (E : ES) (hR : EdgeRow w v E) (hv : ∀ b, v.ownBlock = some b → b < w.heap.size) (hn : E.length ≤ 10000) :
    Calls Try.prog 15 #[v] w (VictimsP w E) := by
  obtain ⟨i0, hi, hz0, hz1, hz2⟩ := info_parts infoInt
  have hr1 : (w.alloc (.cells #[] 3)).ownsRow w.heap.size 3 1 (.slice (some ⟨w.heap.size, 0, none⟩) 0 0) 0 (ivs []) :=
    w.ownsRow_lit #[] 0 (Nat.le_refl _) (by omega) rfl
  have hF0 : Fr (fun _ => False) w (w.alloc (.cells #[] 3)) := (Fr.refl _ w).alloc _
  have hR0 := hR.fr hF0 (fun _ _ h => h)
  clear hR
  go_enter Try.func15, Try.ntmps15
  go_wp2_with fail
  refine (stuckR_calls _ _ E hR0 hn).mono ?_
  rintro e w2 ⟨u, l, rfl, hS, hrow, hF2⟩
  have hr2 := row_keep hr1 hF2
  have hR2 := hR0.fr hF2 (fun _ _ h => h)
  have hrow2 : w2.ownsRow w.heap.size 3 1 u l.length (ivs l) := row_base hrow (by rw [World.size_alloc]; omega)
  have hFF := hF0.trans hF2 (fun _ _ h => h)
  have hun : ∀ b, u.ownBlock = some b → b ≠ w.heap.size := fun b hb e => by have := (hrow.lt b hb).1; rw [World.size_alloc] at this; omega
  have hvn : ∀ b, v.ownBlock = some b → b ≠ w.heap.size := fun b hb e => by have := hv b hb; omega
  have hvl : ∀ b, v.ownBlock = some b → b < w2.heap.size := fun b hb => by have := hv b hb; have := hFF.size; omega
  clear hr1 hF0 hR0 hrow hF2 hv
  go_wp2_with fail
  go_loopg [0, 3, 4] E.length (fun gg v0 out u wr => ∃ (E' : ES) (vs l : List Int) (go co : Nat), gg = E'.length ∧ vs.length + E'.length ≤ E.length ∧ out = .slice (some ⟨go, 0, none⟩) vs.length co ∧ wr.ownsRow w.heap.size 3 1 out vs.length (ivs vs) ∧ EdgeRow wr v0 E' ∧ (∀ b, v0.ownBlock = some b → b ≠ go) ∧ (∀ b, v0.ownBlock = some b → b < wr.heap.size) ∧ IsStuck E' l ∧ wr.ownsRow w.heap.size 3 1 u l.length (ivs l) ∧ (∀ b, u.ownBlock = some b → b ≠ go) ∧ (∀ us, IsVictims E' us → IsVictims E (vs ++ us)) ∧ Fr (fun _ => False) w wr)
  case atStart => exact ⟨E, [], l, _, _, rfl, by simp, rfl, hr2, hR2, hvn, hvl, hS, hrow2, hun, fun us h => h, hFF⟩
  case round =>
    obtain ⟨E', vs, l, go, co, rfl, hle, rfl, hro, hRE, hvne, hvlt, hSt, hru, hune, hvic, hF⟩ := hrel
    clear hr2 hR2 hvn hvl hS hrow2 hun hFF
    have hsz := hF.size
    have hsl := stuck_len hSt
    rcases List.eq_nil_or_concat l with rfl | ⟨l', k, rfl⟩
    · obtain ⟨A, c, rfl⟩ := rowN hru
      have hres := hvic [] (.nil hSt)
      rw [List.append_nil] at hres
      have HRES := Lib.hid hres
      clear hres hvic
      simp only [List.length_nil]
      go_wp2_with fail
      go_ret
      exact ⟨_, vs, rfl, HRES.out, hro, hF⟩
    · rw [List.concat_eq_append] at hSt hru hsl
      have hlen : (l' ++ [k]).length = l'.length + 1 := by simp
      obtain ⟨A, c, rfl, hcl⟩ := introw_of hru
      obtain ⟨gu, rfl, hgu, ak⟩ := hcl l'.length k (by simp)
      have hp : Pth E' k k := (hSt.2 k).1 (by simp)
      have hwl := without_lt hp
      have hnx := fun us h => hvic (k :: us) (.cons hSt (by simp) h)
      have HNX := Lib.hid hnx
      have hgo := hro.lt go rfl
      have hlv := hro.1
      have hgun : gu ≠ go := hune gu rfl
      have HVN := Lib.hid hvne
      have HVL := Lib.hid hvlt
      have HRE := Lib.hid hRE
      have HF := Lib.hid hF
      rw [hlen] at hsl
      have hl60 : l'.length ≤ 10000 := by omega
      rw [hlen]
      have hzl : ((l'.length + 1 : Nat) : Int) - 1 = (l'.length : Int) := by omega
      have hzp : (0 : Int) < ((l'.length + 1 : Nat) : Int) := by omega
      clear hcl hp hnx hvic hSt hru hune hvne hvlt hRE hF hlen
      go_wp2_with (at_builtin
                   refine wpList_append_lies _ rfl (.tmp 18) (.tmp 20) 28 rfl w.heap.size 3 i0 _ 1 8 Try.underlying28 hi hz0 hz1 hz2 rfl (by decide) (.slice (some ⟨go, 0, none⟩) vs.length co) vs.length (ivs vs) rfl (hro.alloc _) ⟨wr.heap.size, 0, none⟩ 1 1 [.int .i64 k] rfl rfl (news1 wr k) (one1 k) (by omega) (by unfold maxLen; omega) (by omega) (by rw [World.size_alloc]; omega) (wr.heap.size + 1) (World.size_alloc _ _) ?_
                   intro g3 c3 w3 hown3 hgrow hat hlt)
      have hFz := ((Fr.refl (fun bl => bl = go) wr).alloc (.cells #[.int .i64 k] 3)).grown hgrow (fun b hb => .inl (by cases hb; rfl))
      have hRE3 := HRE.out.fr2 hFz (fun b hb e => HVN.out b hb e)
      have hFF := HF.out.trans hFz (fun b hb e => by omega)
      have hs3 := hFz.size
      have hlo3 := hown3.lt g3 rfl
      clear hgrow hFz hat
      refine (without_calls w3 u0 E' k hRE3 (by omega)).mono ?_
      rintro e w4 ⟨v4, rfl, hr4, hF4⟩
      have hRE4 := edgerow_any hr4
      have hown4 := row_keep hown3 hF4
      have hFF4 := hFF.trans hF4 (fun _ _ h => h)
      have hv4 : ∀ b, v4.ownBlock = some b → b ≠ g3 := fun b hb e => by have := (hr4.lt b hb).1; omega
      have hv4' : ∀ b, v4.ownBlock = some b → b < w4.heap.size := fun b hb => (hr4.lt b hb).2
      have hs4 := hF4.size
      clear hr4 hown3 hFF hF4 hRE3
      go_wp2_with fail
      refine (stuckR_calls _ _ (without k E') hRE4 (by omega)).mono ?_
      rintro e w5 ⟨u5, l5, rfl, hS5, hr5, hF5⟩
      have hRE5 := hRE4.fr hF5 (fun _ _ h => h)
      have hown5 := row_keep hown4 hF5
      have hFF5 := hFF4.trans hF5 (fun _ _ h => h)
      have hu5 : ∀ b, u5.ownBlock = some b → b ≠ g3 := fun b hb e => by have := (hr5.lt b hb).1; omega
      have hv5 : ∀ b, v4.ownBlock = some b → b < w5.heap.size := fun b hb => by have := hv4' b hb; have := hF5.size; omega
      have hr5' : w5.ownsRow w.heap.size 3 1 u5 l5.length (ivs l5) := row_base hr5 (by omega)
      have HS5 := Lib.hid hS5
      clear hS5 hr5 hF5 hown4 hFF4 hRE4 hv4'
      go_wp2_with fail
      have hvl : (vs ++ [k]).length = vs.length + 1 := by simp
      go_roundg (without k E').length
      case measure => omega
      case rel => exact ⟨without k E', vs ++ [k], l5, g3, c3, rfl, by rw [hvl]; omega, by rw [hvl], by rw [hvl, ivs_append]; exact hown5, hRE5, hv4, hv5, HS5.out, hr5', hu5, fun us h => by rw [List.append_assoc]; exact HNX.out us h, hFF5⟩

end Go.Proofs.Ytofnenemjbccgaa
