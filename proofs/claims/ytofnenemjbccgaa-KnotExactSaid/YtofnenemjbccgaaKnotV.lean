/- Who waits for whom: Victims. -/
import Derived.Test.YtofnenemjbccgaaKnotS
namespace Go.Proofs.Ytofnenemjbccgaa
open Go.Maps Go.RowKit

section
variable {w w' : World} {gb g : Nat} {gs gs1 gs2 : GS} {p a : Int} {l : List (Int × Value)}

theorem IsG.del_ (h : IsG w gb gs) (p : Int) (hF : Fr (fun b => b = gb) w w') (hV : VMap w' Try.prog 3 gb (del p (vmap mapV gs))) : IsG w' gb (del p gs) := by
  have hsub : ∀ {q g l}, look q (del p gs) = some (g, l) → look q gs = some (g, l) := fun {q g l} hq => by
    rw [look_del] at hq
    split at hq
    · cases hq
    · exact hq
  exact ⟨by rw [vmap_del]; exact hV, fun q g l hq => (h.k q g l (hsub hq)).fr hF (h.ne q g l (hsub hq)), fun q g l hq => h.ne q g l (hsub hq), fun q q' g l l' h1 h2 => h.inj q q' g l l' (hsub h1) (hsub h2)⟩

theorem edge_del {x y : Int} : EdgeOf (del p gs) x y ↔ EdgeOf gs x y ∧ x ≠ p := by
  unfold EdgeOf
  constructor
  · rintro ⟨g, l, h1, h2⟩
    rw [look_del] at h1
    split at h1
    · cases h1
    · rename_i hne
      exact ⟨⟨g, l, h1, h2⟩, hne⟩
  · rintro ⟨⟨g, l, h1, h2⟩, hne⟩
    exact ⟨g, l, by rw [look_del, if_neg hne]; exact h1, h2⟩

/-- How far the round over the inner maps is: a name that is still to come has its map as it was, another one's lost a. -/
def Midway (a : Int) (gs1 gs2 : GS) (lf : Int → Bool) : Prop :=
  vmap mapV gs2 = vmap mapV gs1 ∧ ∀ p g l2, look p gs2 = some (g, l2) → ∃ l1, look p gs1 = some (g, l1) ∧ l2 = if lf p then l1 else del a l1

theorem midway_start : Midway a gs1 gs1 (fun k => (look k (vmap mapV gs1)).isSome) :=
  ⟨rfl, fun p g l2 h => ⟨l2, h, by simp [look_vmap, h]⟩⟩

theorem mid_keys (h : vmap mapV gs2 = vmap mapV gs1) {l1 : List (Int × Value)} (h1 : look p gs1 = some (g, l1)) : ∃ l2, look p gs2 = some (g, l2) := by
  have e := congrArg (look p) h
  rw [look_vmap, look_vmap, h1] at e
  cases e2 : look p gs2 with
  | none => rw [e2] at e; cases e
  | some x =>
    obtain ⟨g', l2⟩ := x
    rw [e2] at e
    have : mapV (g', l2) = mapV (g, l1) := by simpa using e
    unfold mapV at this
    have hg : g' = g := by simpa using this
    rw [hg]
    exact ⟨l2, rfl⟩

theorem midway_end (h : Midway a gs1 gs2 (fun _ => false)) {x y : Int} : EdgeOf gs2 x y ↔ EdgeOf gs1 x y ∧ y ≠ a := by
  unfold EdgeOf
  constructor
  · rintro ⟨g, l2, h1, h2⟩
    obtain ⟨l1, h3, rfl⟩ := h.2 x g l2 h1
    simp only [Bool.false_eq_true, if_false] at h2
    rw [look_del] at h2
    split at h2
    · cases h2
    · rename_i hne
      exact ⟨⟨g, l1, h3, h2⟩, hne⟩
  · rintro ⟨⟨g, l1, h1, h2⟩, hne⟩
    obtain ⟨l2, h3⟩ := mid_keys h.1 h1
    obtain ⟨l1', h4, h5⟩ := h.2 x g l2 h3
    rw [h1] at h4
    cases h4
    refine ⟨g, l2, h3, ?_⟩
    rw [h5]
    simp only [Bool.false_eq_true, if_false]
    rw [look_del, if_neg hne]
    exact h2

theorem midway_step {lf : Int → Bool} (h : Midway a gs1 gs2 lf) (hs : Srt gs2) {x : Int} {l1 : List (Int × Value)} (h1 : look x gs1 = some (g, l1)) (hx : lf x = true) : look x gs2 = some (g, l1) ∧ Midway a gs1 (ins x (g, del a l1) gs2) (fun z => lf z && z != x) := by
  obtain ⟨l2, h2⟩ := mid_keys h.1 h1
  obtain ⟨l1', h3, h4⟩ := h.2 x g l2 h2
  rw [h1] at h3
  cases h3
  rw [hx] at h4
  simp only [if_true] at h4
  subst h4
  refine ⟨h2, ?_, fun q g' l' hq => ?_⟩
  · rw [vmap_ins, ← h.1]
    exact srt_ext (srt_ins ((srt_vmap mapV).2 hs)) ((srt_vmap mapV).2 hs) fun j => by
      rw [look_ins]
      split
      · rename_i e
        rw [e, look_vmap, h2]
        rfl
      · rfl
  · rw [look_ins] at hq
    split at hq
    · rename_i e
      cases hq
      exact ⟨l2, by rw [e]; exact h1, by simp [e]⟩
    · rename_i e
      obtain ⟨l1, h5, h6⟩ := h.2 q g' l' hq
      exact ⟨l1, h5, by rw [h6]; simp [e]⟩
end

theorem gof_without {E : ES} {gs gs2 : GS} {a : Int} (h : GOf E gs) (h2 : Midway a (del a gs) gs2 (fun _ => false)) : GOf (without a E) gs2 := fun x y => by
  rw [mem_without, midway_end h2, edge_del, h x y]
  exact ⟨fun ⟨p, q, r⟩ => ⟨⟨p, q⟩, r⟩, fun ⟨⟨p, q⟩, r⟩ => ⟨p, q, r⟩⟩

def VictimsP (w : World) (E : ES) (e : Ending) (w' : World) : Prop :=
  ∃ u vs, e = .returned u ∧ IsVictims E vs ∧ IntsRow w w' u vs ∧ Fr (fun _ => False) w w'

theorem row_keep {W W' : World} {base : Nat} {v : Value} {n : Nat} {xs : List Value} (h : W.ownsRow base 3 1 v n xs) (hF : Fr (fun _ => False) W W') : W'.ownsRow base 3 1 v n xs := row_fr h hF (fun _ _ _ _ e => e)

theorem row_base {W : World} {base base' : Nat} {e : TypeId} {size : Nat} {v : Value} {n : Nat} {xs : List Value} (h : W.ownsRow base e size v n xs) (hb : base' ≤ base) : W.ownsRow base' e size v n xs := by
  refine ⟨h.1, h.2.imp id ?_⟩
  rintro ⟨g, cap, cur, r1, r2, r3⟩
  exact ⟨g, cap, cur, r1, by omega, r3⟩

set_option maxHeartbeats 1000000 in
theorem VictimsK_calls (w : World) (v : Value) (E : ES) (hR : EdgeRow w v E) (hE : InE E) (hn : E.length ≤ 1000000) :
    Calls Try.prog 14 #[v] w (VictimsP w E) := by
  obtain ⟨i0, hi, hz0, hz1, hz2⟩ := info_parts infoInt
  have hg := graphOf_calls w v E hR hE hn
  clear hR hE
  go_enter Try.func14, Try.ntmps14
  go_wp2_with fail
  refine hg.mono ?_
  rintro e w1 ⟨gb, gs, rfl, hM, hfo, hG, hgl, -, hF1⟩
  clear hg
  go_wp2_with fail
  refine (stuckG_calls w1 gb gs E hM hG hn (by omega)).mono ?_
  rintro e w2 ⟨u, l, rfl, hS, hrow, hF2⟩
  have hs1 := hF1.size
  have hgb := hfo gb (.inl rfl)
  have hM2 := hM.keep hF2 (fun _ _ h => h)
  have hrow2 : w2.ownsRow w.heap.size 3 1 u l.length (ivs l) := row_base hrow hs1
  have hF12 := hF1.trans hF2 (fun _ _ h => h)
  clear hM hF1 hF2 hrow
  go_wp2_with fail
  go_loopg [3, 5] gs.length (fun gg out u wr => ∃ (E' : ES) (gs' : GS) (vs l : List Int), gg = gs'.length ∧ vs.length + gs'.length ≤ E.length ∧ E'.length ≤ E.length ∧ IsG wr gb gs' ∧ (∀ b, footG gb gs' b → w.heap.size ≤ b) ∧ GOf E' gs' ∧ IsStuck E' l ∧ wr.ownsRow w.heap.size 3 1 u l.length (ivs l) ∧ wr.ownsRow w.heap.size 3 1 out vs.length (ivs vs) ∧ (∀ us, IsVictims E' us → IsVictims E (vs ++ us)) ∧ Fr (fun _ => False) w wr)
  case atStart => exact ⟨E, gs, [], l, rfl, by simpa using hgl, Nat.le_refl _, hM2, hfo, hG, hS, hrow2, World.ownsRow_nil _ _ _ _, fun us h => h, hF12⟩
  case round =>
    obtain ⟨E', gs', vs, l', rfl, hvl, hEl, hM', hfo', hG', hS', hrl, hro, hV', hF'⟩ := hrel
    clear hM2 hfo hG hS hrow2 hF12 hgl
    have hszw := hF'.size
    rcases List.eq_nil_or_concat l' with rfl | ⟨T, a, rfl⟩
    · have hfin := hV' [] (.nil hS')
      rw [List.append_nil] at hfin
      have HFIN := Lib.hid hfin
      have HF' := Lib.hid hF'
      rcases hrl.2 with ⟨rfl, hz⟩ | ⟨g, cap, cur, rfl, hr⟩
      all_goals
        clear hrl hV' hfin hF' hS' hG' hM' hfo'
        go_wp2_with fail
        go_ret
        exact ⟨_, vs, rfl, HFIN.out, hro, HF'.out⟩
    · rw [List.concat_eq_append] at hS' hrl
      have hll := stuck_len hS'
      have hlen : (T ++ [a]).length = T.length + 1 := by simp
      rw [hlen] at hrl hll
      obtain ⟨g, cap, rfl, hg, hc1, hc2⟩ := row_some hrl
      have c0 := hrl.cellAt T.length (by omega)
      rw [show ivs (T ++ [a]) = ivs T ++ [.int .i64 a] by simp [ivs], List.getElem?_append_right (by simp [ivs]), show T.length - (ivs T).length = 0 by simp [ivs]] at c0
      have hT : T.length ≤ 1000000 := by omega
      have hpa : Pth E' a a := (hS'.2 a).1 (by simp)
      obtain ⟨ca, hca⟩ := hpa.first
      obtain ⟨ga, la, hla, -⟩ := (hG' a ca).1 hca
      have hia := hM'.ink _ (mem_of_look hla)
      dsimp only at hia
      have hdl := length_del (k := a) hM'.srt
      rw [hla] at hdl
      simp only [Option.isSome_some, if_true] at hdl
      have hbs : ∀ o : Obj, w.heap.size ≤ (wr.alloc o).heap.size := fun o => by rw [World.size_alloc]; omega
      have HS' := Lib.hid hS'
      have HG' := Lib.hid hG'
      have HM' := Lib.hid hM'
      have HFO := Lib.hid hfo'
      have HV' := Lib.hid hV'
      have HF' := Lib.hid hF'
      have hvn : vs.length ≤ 1000000 := by omega
      clear hS' hG' hM' hfo' hV' hF' hrl hpa hca hla
      go_wp2_with (first
        | (at_builtin; refine wpList_append_own _ rfl (.tmp 24) (.tmp 26) 28 rfl w.heap.size 3 i0 _ 1 8 Try.underlying28 hi hz0 hz1 hz2 rfl (by decide) _ _ _ rfl (hro.alloc _) ⟨wr.heap.size, 0, none⟩ 1 1 [.int .i64 a] rfl rfl (news1 wr a) (one1 a) (by unfold maxLen; omega) (by omega) (hbs _) ?_; intro v3 w3 hown3 hgrow3 _hn3; clear _hn3; have hFg := ((Fr.refl (fun b => Value.ownBlock _ = some b) wr).alloc _).grown hgrow3 (fun b hb => .inl hb); have hM3 := HM'.out.keep hFg (fun b hb h => by obtain ⟨cs, hB⟩ := row_blk hro h; rcases hb with rfl | ⟨q, l2, h2⟩; exact Blk.ne_map hB HM'.out.m rfl; exact Blk.ne_map hB (HM'.out.k q b l2 h2) rfl); have hF3 := HF'.out.trans hFg (fun b hb h => by have := (hro.lt _ h).1; omega); have hV3 := hM3.m)
        | (at_delete; refine wpList_mdel _ rfl _ _ 47 3 rfl 50 gb Try.underlying3 Try.underlying47 _ hV3 rfl a rfl hia ?_; intro w4 hV4 ht4; have hF34 := (Fr.refl (fun b => b = gb) w3).map ht4 (.inl rfl); have hM4 := hM3.del_ a hF34 hV4; have hown4 := row_fr hown3 hF34 (fun g cs _ hB e => Blk.ne_map hB hV3 e); have hF4 := hF3.trans hF34 (fun b hb e => by omega); have hVm := hM4.m)
        | (at_range; refine wpList_range_v _ rfl _ 47 rfl 3 50 Try.underlying3 Try.underlying47 gb _ hVm rfl ?_; intro w5 hrg5 hF5 hs5))
      go_frame
      have hM5 := hM4.keep hF5 (fun _ _ h => h)
      have hown5 := row_keep hown4 hF5
      have hF05 := hF4.trans hF5 (fun _ _ h => h)
      have hz4 := hF4.size
      have hfo4 : ∀ b, footG gb (del a gs') b → w.heap.size ≤ b := fun b hb => by
        rcases hb with rfl | ⟨q, l2, h2⟩
        · exact HFO.out _ (.inl rfl)
        · rw [look_del] at h2
          split at h2
          · cases h2
          · exact HFO.out _ (.inr ⟨q, l2, h2⟩)
      have HFO4 := Lib.hid hfo4
      clear hV3 hV4 hVm hM3 hM4 hF3 hF34 hF4 hown3 hown4 hFg hF5 hs5 hfo4 hro
      go_loopg [8] (vmap mapV (del a gs')).length (fun gg _ wq => ∃ (gs2 : GS) (lf : Int → Bool), VRange wq Try.prog 3 gb w4.heap.size (vmap mapV (del a gs')) lf gg ∧ IsG wq gb gs2 ∧ Midway a (del a gs') gs2 lf ∧ (∀ b, footG gb gs2 b → w.heap.size ≤ b) ∧ wq.ownsRow w.heap.size 3 1 v3 (vs.length + 1) (ivs vs ++ [.int .i64 a]) ∧ Fr (fun _ => False) w wq)
      case atStart => exact ⟨_, _, hrg5, hM5, midway_start, HFO4.out, hown5, hF05⟩
      case round =>
        obtain ⟨gs2, lf, hrg, hM2, hmid, hfo2, hown2, hF2⟩ := hrel
        clear hrg5 hM5 hown5 hF05
        go_wp2_with (at_next; refine wpList_next_v _ rfl _ rfl 3 Try.underlying3 gb _ _ _ _ rfl hrg ?_ ?_)
        · intro hl0
          obtain rfl : lf = fun _ => false := funext hl0
          have hG2 := gof_without HG'.out hmid
          have hl2 : gs2.length = (del a gs').length := by
            have := congrArg List.length hmid.1
            rwa [length_vmap, length_vmap] at this
          have hwl : (without a E').length ≤ E'.length := List.length_filter_le _ _
          have HM2 := Lib.hid hM2
          have HFO2 := Lib.hid hfo2
          have HG2 := Lib.hid hG2
          have HF2 := Lib.hid hF2
          have hsz2 := hF2.size
          have hst := stuckG_calls wr gb gs2 (without a E') hM2 hG2 (by omega) (by omega)
          clear hl0 hmid hrg hM2 hfo2 hG2 hF2
          go_wp2_with fail
          refine hst.mono ?_
          rintro e w6 ⟨u6, l6, rfl, hS6, hrow6, hF6⟩
          have hown6 := row_keep hown2 hF6
          clear hst
          go_wp2_with fail
          go_roundg gs2.length
          case measure => omega
          case rel =>
            refine ⟨without a E', gs2, vs ++ [a], l6, rfl, by simp; omega, by omega, HM2.out.keep hF6 (fun _ _ h => h), HFO2.out, HG2.out, hS6, row_base hrow6 hsz2, by simpa [ivs] using hown6, fun us hus => ?_, HF2.out.trans hF6 (fun _ _ h => h)⟩
            have := HV'.out (a :: us) (.cons HS'.out (by simp) hus)
            simpa using this
        · intro x v w6 cnt6 hix hlx hlf hrg6 hlt6 hF6 hs6 hen
          rw [look_vmap] at hlx
          obtain ⟨gl, hgl, rfl⟩ := Option.map_eq_some_iff.1 hlx
          obtain ⟨g', l1⟩ := gl
          obtain ⟨hk2, hmid2⟩ := midway_step hmid hM2.srt hgl hlf
          have hM6 := hM2.keep hF6 (fun b hb e => by
            rcases hb with rfl | ⟨q, l2, h2⟩
            · exact hrg.ne_map hM2.m e
            · exact hrg.ne_map (hM2.k q b l2 h2) e)
          have hVg := hM6.k x g' l1 hk2
          have hown6 := row_fr hown2 hF6 (fun g cs _ hB e => hrg.ne_blk hB e)
          have hF26 := hF2.trans hF6 (fun b hb e => by omega)
          have hne := hM6.ne x g' l1 hk2
          have hner := hrg6.ne_map hVg
          have hgw := hfo2 g' (.inr ⟨x, l1, hk2⟩)
          have HM6 := Lib.hid hM6
          have HMD := Lib.hid hmid2
          have HK2 := Lib.hid hk2
          have HFO2 := Lib.hid hfo2
          have HF26 := Lib.hid hF26
          have HRG := Lib.hid hrg6
          unfold mapV at hen
          dsimp only at hen
          clear hrg hM2 hmid hfo2 hown2 hF2 hlx hlf hgl hM6 hmid2 hk2 hF26 hF6 hrg6
          go_wp2_with (at_delete; refine wpList_mdel _ rfl _ _ 50 3 rfl 4 g' Try.underlying3 Try.underlying50 _ hVg rfl a rfl hia ?_; intro w7 hV7 ht7; go_frame)
          have hF7 := (Fr.refl (fun b => b = g') w6).map ht7 (.inl rfl)
          go_roundg cnt6
          case measure => exact hlt6
          case rel =>
            refine ⟨_, _, HRG.out.fr hF7 (fun e => hne e.symm) (fun e => hner e.symm), HM6.out.set_ HK2.out hF7 hV7, HMD.out, fun b hb => ?_, row_fr hown6 hF7 (fun g cs _ hB e => Blk.ne_map hB hVg e), HF26.out.trans hF7 (fun b hb e => by omega)⟩
            rcases foot_ins hb with rfl | hb
            · exact hgw
            · exact HFO2.out b hb

end Go.Proofs.Ytofnenemjbccgaa
