/- The locks: End. -/
import Derived.Test.YtfgkhlbmmffajaaLatchC
import Derived.Laws.AppendOwn
import Derived.Laws.OwnMore
namespace Go.Proofs.Ytfgkhlbmmffajaa
open Go.Maps Go.RowKit

/-! ### plain -/
def outOf (q : Int × Lk) : List (Int × Bool) := if q.2.wait = 0 then [] else [(q.1, q.2.wait == 1)]
def endOuts (ls : LS) : List (Int × Bool) := ls.flatMap outOf
def restOf (q : Int × Lk) : LS := if q.2.wait = 2 then [] else [(q.1, ⟨q.2.x && q.2.wait == 0, 0, 0⟩)]
def endRest (ls : LS) : LS := ls.flatMap restOf

theorem endRest_keys {ls : LS} {q : Int × Lk} (h : q ∈ endRest ls) : ∃ r ∈ ls, r.1 = q.1 := by
  unfold endRest at h
  obtain ⟨r, hr, hq⟩ := List.mem_flatMap.1 h
  unfold restOf at hq
  split at hq
  · cases hq
  · simp at hq
    exact ⟨r, hr, by rw [hq]⟩

theorem look_behind {α : Type} {A : List (Int × α)} {p : Int} {k : α} {B : List (Int × α)} (h : ∀ q ∈ A, q.1 < p) : look p (A ++ (p, k) :: B) = some k := by
  induction A with
  | nil => simp [look]
  | cons q r ih =>
    have h1 := h q (by simp)
    rw [List.cons_append, look, if_neg (by omega)]
    exact ih (fun q hq => h q (by simp [hq]))

theorem ins_behind {α : Type} {A : List (Int × α)} {p : Int} {k k' : α} {B : List (Int × α)} (h : ∀ q ∈ A, q.1 < p) : ins p k' (A ++ (p, k) :: B) = A ++ (p, k') :: B := by
  induction A with
  | nil => simp [ins]
  | cons q r ih =>
    have h1 := h q (by simp)
    rw [List.cons_append, ins, if_neg (by omega), if_neg (by omega), ih (fun q hq => h q (by simp [hq]))]
    rfl

theorem del_behind {α : Type} {A : List (Int × α)} {p : Int} {k : α} {B : List (Int × α)} (h : ∀ q ∈ A, q.1 < p) (hB : ∀ q ∈ B, p < q.1) : del p (A ++ (p, k) :: B) = A ++ B := by
  unfold del
  rw [List.filter_append, List.filter_cons_of_neg (by simp)]
  congr 1
  · exact List.filter_eq_self.2 fun q hq => by have := h q hq; simp; omega
  · exact List.filter_eq_self.2 fun q hq => by have := hB q hq; simp; omega

theorem ins_ins {α : Type} {l : List (Int × α)} (hs : Srt l) (p : Int) (a b : α) : ins p b (ins p a l) = ins p b l :=
  srt_ext (srt_ins (srt_ins hs)) (srt_ins hs) fun k => by
    rw [look_ins, look_ins, look_ins]
    split <;> rfl

theorem del_ins_same {α : Type} {l : List (Int × α)} (hs : Srt l) (p : Int) (a : α) : del p (ins p a l) = del p l :=
  srt_ext (srt_del (srt_ins hs)) (srt_del hs) fun k => by
    rw [look_del, look_del, look_ins]
    split <;> rfl

/-- Where the loop stands: what is done, and what is still to come. -/
def stAt (ls : LS) (i : Nat) : LS := endRest (ls.take i) ++ ls.drop i

theorem stAt_split {ls : LS} (hs : Srt ls) {i : Nat} {p : Int} {k : Lk} (h : ls[i]? = some (p, k)) :
    (∀ q ∈ endRest (ls.take i), q.1 < p) ∧ (∀ q ∈ ls.drop (i + 1), p < q.1) ∧ stAt ls i = endRest (ls.take i) ++ (p, k) :: ls.drop (i + 1) ∧ stAt ls (i + 1) = endRest (ls.take i) ++ restOf (p, k) ++ ls.drop (i + 1) ∧ endOuts (ls.take (i + 1)) = endOuts (ls.take i) ++ outOf (p, k) := by
  have hlt := (List.getElem?_eq_some_iff.1 h).1
  have he := (List.getElem?_eq_some_iff.1 h).2
  have hd : ls.drop i = (p, k) :: ls.drop (i + 1) := by rw [List.drop_eq_getElem_cons hlt, he]
  have ht : ls.take (i + 1) = ls.take i ++ [(p, k)] := by rw [List.take_succ_eq_append_getElem hlt, he]
  have hs' : Srt (ls.take i ++ (p, k) :: ls.drop (i + 1)) := by rw [← hd, List.take_append_drop]; exact hs
  obtain ⟨h1, h2, h3⟩ := List.pairwise_append.1 hs'
  refine ⟨fun q hq => ?_, fun q hq => (List.pairwise_cons.1 h2).1 q hq, by unfold stAt; rw [hd], ?_, ?_⟩
  · obtain ⟨r, hr, e⟩ := endRest_keys hq
    have := h3 r hr (p, k) (by simp)
    simp at this
    omega
  · unfold stAt
    rw [ht]
    simp [endRest]
  · rw [ht]
    simp [endOuts]

theorem endOuts_len (ls : LS) : (endOuts ls).length ≤ ls.length := by
  induction ls with
  | nil => simp [endOuts]
  | cons q r ih =>
    unfold endOuts at ih ⊢
    rw [List.flatMap_cons, List.length_append]
    have : (outOf q).length ≤ 1 := by unfold outOf; split <;> simp
    simp only [List.length_cons]
    omega

theorem endRest_inv {ls : LS} (h : LInv ls) : LInv (endRest ls) ∧ (endRest ls).length ≤ ls.length := by
  induction ls with
  | nil => exact ⟨linv_nil, Nat.le_refl _⟩
  | cons q r ih =>
    obtain ⟨h1, h2⟩ := List.pairwise_cons.1 h.srt
    obtain ⟨ih1, ih2⟩ := ih ⟨h2, fun p hp => h.ink p (by simp [hp]), fun p hp => h.ok p (by simp [hp])⟩
    have he : endRest (q :: r) = restOf q ++ endRest r := by simp [endRest]
    rw [he]
    unfold restOf
    split
    · exact ⟨ih1, by simp only [List.nil_append, List.length_cons]; omega⟩
    · refine ⟨⟨List.pairwise_cons.2 ⟨fun p hp => ?_, ih1.srt⟩, fun p hp => ?_, fun p hp => ?_⟩, by simp only [List.cons_append, List.nil_append, List.length_cons]; omega⟩
      · obtain ⟨s, hs, e⟩ := endRest_keys hp
        have := h1 s hs
        show q.1 < p.1
        omega
      · rcases List.mem_cons.1 hp with rfl | hp
        · exact h.ink q (by simp)
        · exact ih1.ink p hp
      · rcases List.mem_cons.1 hp with rfl | hp
        · exact ⟨.inl rfl, .inl rfl⟩
        · exact ih1.ok p hp

/-! ### in memory -/
def letcells : List (Int × Bool) → List Value
  | [] => []
  | p :: r => .int .i64 p.1 :: .bool p.2 :: letcells r

theorem letcells_append (a b : List (Int × Bool)) : letcells (a ++ b) = letcells a ++ letcells b := by
  induction a with
  | nil => rfl
  | cons p r ih => simp [letcells, ih]

theorem infoLet : (Try.prog.info? 38).map (fun i => (i.zero, i.size, i.bytes)) = some (some (.agg #[.int .i64 0, .bool false]), 2, 16) := by kernel_rfl

theorem newsL (W : World) (a : Int) (b : Bool) : ∀ (j : Nat) (u : Value), [Value.int .i64 a, Value.bool b][j]? = some u → (W.alloc (.cells #[.int .i64 a, .bool b] 38)).cell? ((⟨W.heap.size, 0, none⟩ : Addr).add j) = some u := fun j u hu => by
  have := (Blk.new W 38 [.int .i64 a, .bool b]).cell j
  rw [hu] at this
  rw [← this]
  congr 1
  unfold Addr.add
  by_cases h1 : j = 0 <;> simp [h1]

theorem oneL (a : Int) (b : Bool) : ∀ u ∈ [Value.int .i64 a, Value.bool b], u.oneCell' = true := by
  intro u hu
  simp only [List.mem_cons, List.not_mem_nil, or_false] at hu
  rcases hu with rfl | rfl <;> rfl

theorem ownsRow_fr {S : Nat → Prop} {W W' : World} {base : Nat} {e : TypeId} {size : Nat} {v : Value} {n : Nat} {xs : List Value} (h : W.ownsRow base e size v n xs) (hS : ∀ b, S b → b < base) (hk : Fr S W W') : W'.ownsRow base e size v n xs := by
  refine ⟨h.1, h.2.imp id ?_⟩
  rintro ⟨g, cap, cur, r1, r2, r3, r4⟩
  exact ⟨g, cap, cur, r1, r2, (hk.block g (Array.getElem?_eq_some_iff.1 r3).1 (fun hs => by have := hS g hs; omega)).trans r3, r4⟩

section
variable {w w' : World} {lb mb : Nat} {ms : MS}

theorem IsL.set1 (h : IsL w lb mb ms) {p : Int} {g : Nat} {k : Lk} (hk : look p ms = some (g, k)) (j : Nat) (u : Value) (k' : Lk) (he : (lkCells k).set j u = lkCells k') : IsL (w.setCell ⟨g, j, none⟩ u) lb mb (ins p (g, k') ms) :=
  h.set_ hk ((Fr.refl (fun b => b = g) w).setCell (p := ⟨g, j, none⟩) (.inl rfl) _) (by rw [← he]; exact (h.k p g k hk).set_ j u)

theorem foot_ins {p : Int} {g : Nat} {k k' : Lk} (hk : look p ms = some (g, k)) {b : Nat} (hb : footL lb mb (ins p (g, k') ms) b) : footL lb mb ms b := by
  rcases hb with e | e | ⟨q, k2, h2⟩
  · exact .inl e
  · exact .inr (.inl e)
  · rw [look_ins] at h2
    split at h2
    · cases h2; exact .inr (.inr ⟨p, k, hk⟩)
    · exact .inr (.inr ⟨q, k2, h2⟩)

theorem foot_del {p : Int} {b : Nat} (hb : footL lb mb (del p ms) b) : footL lb mb ms b := by
  rcases hb with e | e | ⟨q, k2, h2⟩
  · exact .inl e
  · exact .inr (.inl e)
  · rw [look_del] at h2
    split at h2
    · cases h2
    · exact .inr (.inr ⟨q, k2, h2⟩)

/-- the lock that went is no more in the way -/
theorem IsL.gone (h : IsL w lb mb ms) {p : Int} {g : Nat} {k : Lk} (hk : look p ms = some (g, k)) {b : Nat} (hb : footL lb mb (del p ms) b) : b ≠ g := by
  obtain ⟨n1, n2, n3⟩ := h.ne_ hk
  rcases hb with rfl | rfl | ⟨q, k2, h2⟩
  · exact n1
  · exact fun e => n2 e.symm
  · rw [look_del] at h2
    split at h2
    · cases h2
    · rename_i hne
      rintro rfl
      exact hne (h.inj q p b k2 k h2 hk)
end

/-- What End leaves. -/
def EndPost (w : World) (lb mb : Nat) (ms : MS) (e : Ending) (w' : World) : Prop :=
  ∃ v, e = .returned v ∧ w'.ownsRow w.heap.size 38 2 v (endOuts (vmap (·.2) ms)).length (letcells (endOuts (vmap (·.2) ms))) ∧ LStep w lb mb ms (endRest (vmap (·.2) ms)) w'

set_option maxRecDepth 100000 in
set_option maxHeartbeats 2000000 in
theorem End_calls (w : World) (lb mb : Nat) (ms : MS) (hL : IsL w lb mb ms) (hI : LInv (vmap (·.2) ms)) (hlen : ms.length ≤ 1000000) :
    Calls Try.prog 12 #[.pointer (some ⟨lb, 0, none⟩)] w (EndPost w lb mb ms) := by
  obtain ⟨i0, hi, hz0, hz1, hz2⟩ := info_parts infoLet
  unfold EndPost
  have hlt0 : ∀ b, footL lb mb ms b → b < w.heap.size := fun b hb => hL.foot_lt hb
  have HLT := Lib.hid hlt0
  have hll : (vmap (·.2) ms).length = ms.length := length_vmap _ _
  have hkeys : ms.map (·.1) = (vmap (·.2) ms).map (·.1) := by simp [vmap]
  have hp := Pages_calls w lb mb ms hL hlen
  unfold PagesRow at hp
  rw [hkeys] at hp
  rw [← hll] at hlen
  obtain ⟨ls, hls⟩ : ∃ ls, ls = vmap (·.2) ms := ⟨_, rfl⟩
  have HLS := Lib.hid hls
  rw [← hls] at hp hI hlen ⊢
  have hSRT := Lib.hid hI.srt
  have hOK := Lib.hid hI.ok
  have hINK := Lib.hid hI.ink
  clear hls hll hkeys hlt0
  go_enter Try.func12, Try.ntmps12
  go_wp2_with fail
  refine hp.mono ?_
  clear hp
  rintro e w2 ⟨vp, rfl, hrow, hF2⟩
  have hlk : (ls.map (·.1)).length = ls.length := by simp
  rw [hlk, List.map_map] at hrow
  have hL2 := hL.keep hF2 (fun _ _ h => h)
  have hsz2 := hF2.size
  have hbl0 := hL.b.lt
  have HF20 := Lib.hid hF2
  clear hL hlk hF2
  obtain ⟨A, hA⟩ : ∃ A : Option Addr, ∃ cap, vp = .slice A ls.length cap ∧ ∀ (i : Nat) (q : Int × Lk), ls[i]? = some q → ∃ g, A = some ⟨g, 0, none⟩ ∧ w.heap.size ≤ g ∧ g < w2.heap.size ∧ w2.cell? ⟨g, i, none⟩ = some (.int .i64 q.1) := by
    rcases hrow.2 with ⟨rfl, h0⟩ | ⟨g, cap, cur, rfl, hg, hgr, hr⟩
    · refine ⟨none, 0, by rw [h0], fun i q hi => ?_⟩
      have := (List.getElem?_eq_some_iff.1 hi).1
      omega
    · refine ⟨_, cap, rfl, fun i q hi => ⟨g, rfl, hg, (Array.getElem?_eq_some_iff.1 hgr).1, ?_⟩⟩
      have hlt := (List.getElem?_eq_some_iff.1 hi).1
      rw [hrow.cellAt i (by omega), List.getElem?_map, hi]
      rfl
  obtain ⟨cap, rfl, hcells⟩ := hA
  have HC := Lib.hid hcells
  clear hcells hrow
  go_wp2_with fail
  go_loopg [3, 10] ls.length (fun g v i wr => ∃ k : Nat, i = .int .i64 k ∧ k ≤ ls.length ∧ g = ls.length - k ∧ wr.ownsRow w2.heap.size 38 2 v (endOuts (ls.take k)).length (letcells (endOuts (ls.take k))) ∧ (∃ ms', IsL wr lb mb ms' ∧ vmap (·.2) ms' = stAt ls k ∧ ∀ b, footL lb mb ms' b → footL lb mb ms b) ∧ Fr (footL lb mb ms) w2 wr)
  case atStart => exact ⟨0, rfl, by omega, by omega, World.ownsRow_nil _ _ _ _, ⟨ms, hL2, by rw [← HLS.out]; simp [stAt, endRest], fun _ h => h⟩, Fr.refl _ _⟩
  case round =>
    obtain ⟨i, rfl, hi1, rfl, hown, ⟨ms', hM, hst, hfo⟩, hF⟩ := hrel
    clear hL2
    have hszr := hF.size
    have HFO := Lib.hid hfo
    have hb0 := hM.b.cell 0
    by_cases hlt : i < ls.length
    · have hltz : (i : Int) < (ls.length : Int) := by omega
      have ho : ls[i]? = some ls[i] := List.getElem?_eq_getElem hlt
      have hok := hOK.out _ (List.getElem_mem hlt)
      have hin := hINK.out _ (List.getElem_mem hlt)
      generalize ls[i] = q at ho hok hin
      obtain ⟨g0, rfl, hg0, hg1, hc0⟩ := HC.out i q ho
      obtain ⟨p, k⟩ := q
      have hc := (hF.cell (p := ⟨g0, i, none⟩) hg1 (fun h => by have := HLT.out g0 h; omega)).trans hc0
      obtain ⟨s1, s2, s3, s4, s5⟩ := stAt_split hSRT.out ho
      have hlook0 : look p (vmap (·.2) ms') = some k := by rw [hst, s3]; exact look_behind s1
      obtain ⟨g, hg⟩ := abs_some hlook0
      have hB := hM.k p g k hg
      have hgl : footL lb mb ms g := hfo _ (.inr (.inr ⟨p, k, hg⟩))
      have hgw := HLT.out g hgl
      have hrun := hM.m.find (t := 53) (e := 56) Try.underlying3 Try.underlying53 (zeroPtr wr) hin
      rw [look_vmap, hg] at hrun
      change _ = Result.ok (Value.pointer (some ⟨g, 0, none⟩)) wr at hrun
      have hS1 := Lib.hid s1
      have hS2 := Lib.hid s2
      have hS3 := Lib.hid s3
      have hS4 := Lib.hid s4
      have hS5 := Lib.hid s5
      have hST := Lib.hid hst
      have HG := Lib.hid hg
      have HM := Lib.hid hM
      have HF := Lib.hid hF
      have hlenO := endOuts_len (ls.take i)
      have hlt1 : (ls.take i).length ≤ 1000000 := by simp; omega
      obtain ⟨kx, ku, kw⟩ := k
      have hMA := hM.set1 hg 1 (.int .i64 0) ⟨kx, 0, kw⟩ rfl
      have hFA : Fr (footL lb mb ms) w2 (wr.setCell ⟨g, 1, none⟩ (.int .i64 0)) := hF.setCell (p := ⟨g, 1, none⟩) (.inl hgl) _
      have hownA : (wr.setCell ⟨g, 1, none⟩ (.int .i64 0)).ownsRow w2.heap.size 38 2 _ (endOuts (ls.take i)).length (letcells (endOuts (ls.take i))) := ownsRow_fr hown (S := fun b => b = g) (fun b hb => by omega) ((Fr.refl (fun b => b = g) wr).setCell (p := ⟨g, 1, none⟩) (.inl rfl) _)
      obtain ⟨a0, a1, a2, z0, z1, z2⟩ := lk_cells hB
      dsimp only at a0 a1 a2
      have hlookA : look p (ins p (g, (⟨kx, 0, kw⟩ : Lk)) ms') = some (g, ⟨kx, 0, kw⟩) := look_ins_same
      have hBA := hMA.k p g _ hlookA
      have hVA := hMA.m
      have HMA := Lib.hid hMA
      have HLA := Lib.hid hlookA
      have hbs : w2.heap.size ≤ (wr.setCell ⟨g, 1, none⟩ (.int .i64 0)).heap.size := hFA.size
      have hbase : ∀ o : Obj, w2.heap.size ≤ ((wr.setCell ⟨g, 1, none⟩ (.int .i64 0)).alloc o).heap.size := fun o => by rw [World.size_alloc]; omega
      have hss : (wr.setCell ⟨g, 1, none⟩ (.int .i64 0)).heap.size = wr.heap.size := by simp [World.setCell]
      have hnews : ∀ b : Bool, ∀ (j : Nat) (u : Value), [Value.int .i64 p, Value.bool b][j]? = some u → ((wr.setCell ⟨g, 1, none⟩ (.int .i64 0)).alloc (.cells #[.int .i64 p, .bool b] 38)).cell? ((⟨wr.heap.size, 0, none⟩ : Addr).add j) = some u := fun b => by
        have := newsL (wr.setCell ⟨g, 1, none⟩ (.int .i64 0)) p b
        rwa [hss] at this
      have HN := Lib.hid hnews
      have HBS := Lib.hid hbase
      obtain ⟨_, hw⟩ := hok
      dsimp only at hw hin hc hrun hB
      have hFAh := Lib.hid hFA
      have hsrt' := Lib.hid ((srt_vmap ptrV).1 hM.m.2.1)
      clear s1 s2 s3 s4 s5 hst hg hM hF hlook0 hlookA hMA hFA hfo ho hc0 hB hgl hown hbase hnews hss hbs
      rcases hw with rfl | rfl | rfl
      · as_aux_lemma =>
          go_wp2_with fail
          go_roundg (ls.length - (i + 1))
          case measure => omega
          case rel =>
            refine ⟨i + 1, rfl, by omega, rfl, by rw [hS5.out]; simpa [outOf] using hownA, ⟨_, HMA.out, ?_, fun b hb => HFO.out b (foot_ins HG.out hb)⟩, hFAh.out⟩
            rw [vmap_ins, hST.out, hS3.out, ins_behind hS1.out, hS4.out]
            simp [restOf]
      · as_aux_lemma =>
          go_wp2_with (at_builtin; refine wpList_append_own _ rfl (.tmp 28) (.tmp 36) 31 rfl w2.heap.size 38 i0 _ 2 16 Try.underlying31 hi hz0 hz1 hz2 rfl (by decide) _ _ _ rfl (hownA.alloc _) ⟨wr.heap.size, 0, none⟩ 1 1 [.int .i64 p, .bool true] rfl rfl (HN.out true) (oneL p true) (by unfold maxLen; omega) (by omega) (HBS.out _) ?_; intro v1 w1 hown1 hgrow _hnil; clear _hnil; have hFB : Fr (footL lb mb ms) w2 w1 := (hFAh.out.alloc _).grown hgrow (fun b hb => .inr ((hownA.lt b hb).1)); have hMB := HMA.out.keep (((Fr.refl (fun b => w2.heap.size ≤ b) _).alloc _).grown hgrow (fun b hb => .inl ((hownA.lt b hb).1))) (fun b hb h => by have := HLT.out b (HFO.out b (foot_ins HG.out hb)); omega); have hBB := hMB.k p g _ HLA.out; obtain ⟨b0, b1, b2, y0, y1, y2⟩ := lk_cells hBB; have hVB := hMB.m; have hl1 := hMB.b.cell 0; have HMB := Lib.hid hMB; have HFB := Lib.hid hFB; clear hMB hFB hgrow)
          go_roundg (ls.length - (i + 1))
          case measure => omega
          case rel =>
            have hMC := HMB.out.set1 HLA.out 0 (.bool false) ⟨false, 0, 1⟩ rfl
            have hMD := hMC.set1 look_ins_same 2 (.int .i64 0) ⟨false, 0, 0⟩ rfl
            have hgf : footL lb mb ms g := HFO.out g (.inr (.inr ⟨p, _, HG.out⟩))
            have hFz := (HFB.out.setCell (p := ⟨g, 0, none⟩) (.inl hgf) (.bool false)).setCell (p := ⟨g, 2, none⟩) (.inl hgf) (.int .i64 0)
            have hro := ownsRow_fr hown1 (S := fun b => b = g) (fun b hb => by omega) (((Fr.refl (fun b => b = g) w1).setCell (p := ⟨g, 0, none⟩) (.inl rfl) (.bool false)).setCell (p := ⟨g, 2, none⟩) (.inl rfl) (.int .i64 0))
            refine ⟨i + 1, rfl, by omega, rfl, by rw [hS5.out]; simpa [outOf, letcells_append, letcells] using hro, ⟨_, hMD, ?_, fun b hb => HFO.out b (foot_ins HG.out (foot_ins HLA.out (foot_ins look_ins_same hb)))⟩, hFz⟩
            rw [ins_ins (srt_ins hsrt'.out), ins_ins hsrt'.out, vmap_ins, hST.out, hS3.out, ins_behind hS1.out, hS4.out]
            simp [restOf]
      · as_aux_lemma =>
          go_wp2_with (first
            | (at_builtin; refine wpList_append_own _ rfl (.tmp 28) (.tmp 36) 31 rfl w2.heap.size 38 i0 _ 2 16 Try.underlying31 hi hz0 hz1 hz2 rfl (by decide) _ _ _ rfl (hownA.alloc _) ⟨wr.heap.size, 0, none⟩ 1 1 [.int .i64 p, .bool false] rfl rfl (HN.out false) (oneL p false) (by unfold maxLen; omega) (by omega) (HBS.out _) ?_; intro v1 w1 hown1 hgrow _hnil; clear _hnil; have hFB : Fr (footL lb mb ms) w2 w1 := (hFAh.out.alloc _).grown hgrow (fun b hb => .inr ((hownA.lt b hb).1)); have hMB := HMA.out.keep (((Fr.refl (fun b => w2.heap.size ≤ b) _).alloc _).grown hgrow (fun b hb => .inl ((hownA.lt b hb).1))) (fun b hb h => by have := HLT.out b (HFO.out b (foot_ins HG.out hb)); omega); have hBB := hMB.k p g _ HLA.out; obtain ⟨b0, b1, b2, y0, y1, y2⟩ := lk_cells hBB; have hVB := hMB.m; have hl1 := hMB.b.cell 0; have HMB := Lib.hid hMB; have HFB := Lib.hid hFB; clear hMB hFB hgrow)
            | (at_delete; refine wpList_mdel _ rfl _ _ 53 3 rfl 56 mb Try.underlying3 Try.underlying53 _ hVB rfl p rfl hin ?_; intro w3 hV3 ht3; have hB3 := hBB.turned ht3; obtain ⟨d0, d1, d2, x0, x1, x2⟩ := lk_cells hB3))
          go_roundg (ls.length - (i + 1))
          case measure => omega
          case rel =>
            have hFm : Fr (fun b => b = mb) w1 w3 := (Fr.refl (fun b => b = mb) w1).map ht3 (.inl rfl)
            have hMC := HMB.out.del_ p hFm hV3
            have hFg : Fr (fun b => b = g) w3 ((w3.setCell ⟨g, 0, none⟩ (.bool false)).setCell ⟨g, 2, none⟩ (.int .i64 0)) := ((Fr.refl (fun b => b = g) w3).setCell (p := ⟨g, 0, none⟩) (.inl rfl) (.bool false)).setCell (p := ⟨g, 2, none⟩) (.inl rfl) (.int .i64 0)
            have hMD := hMC.keep hFg (fun b hb => HMB.out.gone HLA.out hb)
            have hgf : footL lb mb ms g := HFO.out g (.inr (.inr ⟨p, _, HG.out⟩))
            have hmf : footL lb mb ms mb := .inr (.inl rfl)
            have hFz : Fr (footL lb mb ms) w2 ((w3.setCell ⟨g, 0, none⟩ (.bool false)).setCell ⟨g, 2, none⟩ (.int .i64 0)) := ((HFB.out.map ht3 (.inl hmf)).setCell (p := ⟨g, 0, none⟩) (.inl hgf) (.bool false)).setCell (p := ⟨g, 2, none⟩) (.inl hgf) (.int .i64 0)
            have hmw := HLT.out mb hmf
            have hro := ownsRow_fr (ownsRow_fr hown1 (S := fun b => b = mb) (fun b hb => by omega) hFm) (S := fun b => b = g) (fun b hb => by omega) hFg
            refine ⟨i + 1, rfl, by omega, rfl, by rw [hS5.out]; simpa [outOf, letcells_append, letcells] using hro, ⟨_, hMD, ?_, fun b hb => HFO.out b (foot_ins HG.out (foot_del hb))⟩, hFz⟩
            rw [del_ins_same hsrt'.out, vmap_del, hST.out, hS3.out, del_behind hS1.out hS2.out, hS4.out]
            simp [restOf]
    · have e0 : i = ls.length := by omega
      have hltz : (ls.length : Int) ≤ (i : Int) := by omega
      have hl1 : ls.take i = ls := by rw [e0, List.take_length]
      have hl2 : stAt ls i = endRest ls := by unfold stAt; rw [e0, List.take_length, List.drop_length, List.append_nil]
      rw [hl1] at hown
      rw [hl2] at hst
      clear e0 hl1 hl2
      have HR := Lib.hid hst
      have HM := Lib.hid hM
      have HFz := Lib.hid hF
      clear hst hM hfo hF
      go_wp2_with fail
      go_ret
      refine ⟨_, rfl, ⟨hown.1, hown.2.imp id ?_⟩, ms', HM.out, HR.out, fun b hb => .inl (HFO.out b hb), (HF20.out.mono (S' := footL lb mb ms) (fun _ _ h => h.elim)).trans HFz.out (fun _ _ h => h)⟩
      rintro ⟨g, cap, cur, r1, r2, r3⟩
      exact ⟨g, cap, cur, r1, by omega, r3⟩

end Go.Proofs.Ytfgkhlbmmffajaa
