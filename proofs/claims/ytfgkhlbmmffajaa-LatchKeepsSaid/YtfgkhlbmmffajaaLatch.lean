/- The locks that a client has: a plain state, what it is in memory, contracts of the methods but End. -/
import Derived.Test.YtfgkhlbmmffajaaKeysL
import Derived.Deep.LoopGhost
import Derived.Deep.QuietTactic
import Derived.BigQuiet
import Derived.Deep.RegionWith
import Derived.RegionTactic
import Derived.StillTailTactics
import Derived.Deep.DeepCutAuto
import Derived.Lib.Hide
namespace Go.Proofs.Ytfgkhlbmmffajaa
open Go.Maps Go.RowKit

/-! ### plain -/
structure Lk where
  x : Bool
  used : Int
  wait : Int

abbrev LS := List (Int × Lk)

def LkOk (k : Lk) : Prop := (k.used = 0 ∨ k.used = 1 ∨ k.used = 2) ∧ (k.wait = 0 ∨ k.wait = 1 ∨ k.wait = 2)

structure LInv (ls : LS) : Prop where
  srt : Srt ls
  ink : InK ls
  ok : ∀ p ∈ ls, LkOk p.2

def lGrant (p : Int) (x : Bool) (ls : LS) : LS := match look p ls with
  | some k => ins p { k with x := x } ls
  | none => ins p ⟨x, 0, 0⟩ ls

def lHas (p : Int) (x : Bool) (ls : LS) : Bool := match look p ls with
  | some k => k.x || !x
  | none => false

def lUse (p : Int) (x : Bool) (ls : LS) : Int × LS := match look p ls with
  | some k => if k.x || !x then (0, ins p { k with used := if x then 2 else max k.used 1 } ls) else (12, ls)
  | none => (12, ls)

def lUsed (p : Int) (ls : LS) : Int := match look p ls with
  | some k => k.used
  | none => 0

def lCall (p : Int) (all : Bool) (ls : LS) : Int × LS := match look p ls with
  | none => (0, ls)
  | some k =>
    if !all && !k.x then (0, ls)
    else if all then (if 0 < k.used then (3, ins p { k with wait := 2 } ls) else (1, del p ls))
    else if k.used = 2 then (3, ins p { k with wait := max k.wait 1 } ls)
    else (2, ins p { k with x := false } ls)

theorem lok_at {ls : LS} (h : LInv ls) {p : Int} {k : Lk} (hk : look p ls = some k) : LkOk k := h.ok _ (mem_of_look hk)

theorem LInv.ins_ {ls : LS} (h : LInv ls) {p : Int} (hp : in64 p) {k : Lk} (hk : LkOk k) : LInv (ins p k ls) :=
  ⟨srt_ins h.srt, h.ink.ins hp k, fun q hq => by
    rcases mem_ins hq with rfl | hq
    · exact hk
    · exact h.ok q hq⟩

theorem LInv.del_ {ls : LS} (h : LInv ls) (p : Int) : LInv (del p ls) := ⟨srt_del h.srt, h.ink.del p, fun q hq => h.ok q (List.mem_filter.1 hq).1⟩

theorem linv_nil : LInv [] := ⟨srt_nil, by simp [InK], by simp⟩

theorem lGrant_inv {ls : LS} (h : LInv ls) {p : Int} (hp : in64 p) (x : Bool) : LInv (lGrant p x ls) := by
  unfold lGrant
  split
  · rename_i k hk
    have := lok_at h hk
    exact h.ins_ hp this
  · exact h.ins_ hp ⟨.inl rfl, .inl rfl⟩

theorem lUse_inv {ls : LS} (h : LInv ls) {p : Int} (hp : in64 p) (x : Bool) : LInv (lUse p x ls).2 := by
  unfold lUse
  split
  · rename_i k hk
    have ho := lok_at h hk
    split
    · refine h.ins_ hp ⟨?_, ho.2⟩
      have := ho.1
      cases x
      · show max k.used 1 = 0 ∨ max k.used 1 = 1 ∨ max k.used 1 = 2
        omega
      · exact .inr (.inr rfl)
    · exact h
  · exact h

theorem lCall_inv {ls : LS} (h : LInv ls) {p : Int} (hp : in64 p) (all : Bool) : LInv (lCall p all ls).2 := by
  unfold lCall
  split
  · exact h
  · rename_i k hk
    have ho := lok_at h hk
    split
    · exact h
    · split
      · split
        · exact h.ins_ hp ⟨ho.1, .inr (.inr rfl)⟩
        · exact h.del_ p
      · split
        · refine h.ins_ hp ⟨ho.1, ?_⟩
          have := ho.2
          show max k.wait 1 = 0 ∨ max k.wait 1 = 1 ∨ max k.wait 1 = 2
          omega
        · exact h.ins_ hp ho

theorem lGrant_len {ls : LS} (p : Int) (x : Bool) : (lGrant p x ls).length ≤ ls.length + 1 := by
  unfold lGrant
  split <;> exact length_ins_le

theorem ins_look_len {α : Type} {l : List (Int × α)} (hs : Srt l) {p : Int} {k k' : α} (h : look p l = some k) : (ins p k' l).length = l.length := by
  rw [length_ins hs, h]; rfl

theorem lUse_len {ls : LS} (h : LInv ls) (p : Int) (x : Bool) : (lUse p x ls).2.length = ls.length := by
  unfold lUse
  split
  · rename_i k hk
    split
    · exact ins_look_len h.srt hk
    · rfl
  · rfl

theorem lCall_len {ls : LS} (h : LInv ls) (p : Int) (all : Bool) : (lCall p all ls).2.length ≤ ls.length := by
  unfold lCall
  split
  · exact Nat.le_refl _
  · rename_i k hk
    have h1 : ∀ k' : Lk, (ins p k' ls).length ≤ ls.length := fun k' => Nat.le_of_eq (ins_look_len h.srt hk)
    split
    · exact Nat.le_refl _
    · split
      · split
        · exact h1 _
        · exact length_del_le
      · split <;> exact h1 _

theorem ins_same {α : Type} {l : List (Int × α)} (hs : Srt l) {p : Int} {k : α} (h : look p l = some k) : ins p k l = l :=
  srt_ext (srt_ins hs) hs fun j => by
    rw [look_ins]
    split
    · rename_i e; rw [e, h]
    · rfl

/-! ### in memory -/
def lkCells (k : Lk) : List Value := [.bool k.x, .int .i64 k.used, .int .i64 k.wait]
def ptrV (x : Nat × Lk) : Value := .pointer (some ⟨x.1, 0, none⟩)

abbrev MS := List (Int × (Nat × Lk))

structure IsL (w : World) (lb mb : Nat) (ms : MS) : Prop where
  b : Blk w lb 55 [.map (some mb)]
  m : VMap w Try.prog 3 mb (vmap ptrV ms)
  k : ∀ p g k, look p ms = some (g, k) → Blk w g 59 (lkCells k)
  inj : ∀ p p' g k k', look p ms = some (g, k) → look p' ms = some (g, k') → p = p'

def footL (lb mb : Nat) (ms : MS) : Nat → Prop := fun b => b = lb ∨ b = mb ∨ ∃ p k, look p ms = some (b, k)

/-- What a method leaves: the state ls', no old block come in. -/
def LStep (w : World) (lb mb : Nat) (ms : MS) (ls' : LS) (w' : World) : Prop :=
  ∃ ms', IsL w' lb mb ms' ∧ vmap (·.2) ms' = ls' ∧ (∀ b, footL lb mb ms' b → footL lb mb ms b ∨ w.heap.size ≤ b) ∧ Fr (footL lb mb ms) w w'

section
variable {w w' : World} {lb mb : Nat} {ms : MS} {S : Nat → Prop}

theorem IsL.srt (h : IsL w lb mb ms) : Srt ms := (srt_vmap ptrV).1 h.m.2.1
theorem IsL.ink (h : IsL w lb mb ms) : InK ms := fun p hp => h.m.2.2 (p.1, ptrV p.2) (by unfold vmap; exact List.mem_map.2 ⟨p, hp, rfl⟩)

theorem IsL.foot_lt (h : IsL w lb mb ms) {b : Nat} (hb : footL lb mb ms b) : b < w.heap.size := by
  rcases hb with rfl | rfl | ⟨p, k, hk⟩
  · exact h.b.lt
  · exact h.m.lt
  · exact (h.k p b k hk).lt

theorem IsL.keep (h : IsL w lb mb ms) (hF : Fr S w w') (hn : ∀ b, footL lb mb ms b → ¬ S b) : IsL w' lb mb ms :=
  ⟨h.b.fr hF (hn _ (.inl rfl)), h.m.fr hF (hn _ (.inr (.inl rfl))), fun p g k hk => (h.k p g k hk).fr hF (hn _ (.inr (.inr ⟨p, k, hk⟩))), h.inj⟩

theorem IsL.ne_ (h : IsL w lb mb ms) {p : Int} {g : Nat} {k : Lk} (hk : look p ms = some (g, k)) : lb ≠ g ∧ g ≠ mb ∧ lb ≠ mb :=
  ⟨Blk.ne_ h.b (h.k p g k hk) (by decide), Blk.ne_map (h.k p g k hk) h.m, Blk.ne_map h.b h.m⟩

/-- one lock turns -/
theorem IsL.set_ (h : IsL w lb mb ms) {p : Int} {g : Nat} {k k' : Lk} (hk : look p ms = some (g, k)) (hF : Fr (fun b => b = g) w w') (hB : Blk w' g 59 (lkCells k')) : IsL w' lb mb (ins p (g, k') ms) := by
  obtain ⟨n1, n2, n3⟩ := h.ne_ hk
  refine ⟨h.b.fr hF n1, ?_, fun q g' k2 h2 => ?_, fun q q' g' k2 k3 h2 h3 => ?_⟩
  · rw [vmap_ins]
    have : ptrV (g, k') = ptrV (g, k) := rfl
    rw [this, ins_same h.m.2.1 (by rw [look_vmap, hk]; rfl)]
    exact h.m.fr hF (fun e => n2 e.symm)
  · rw [look_ins] at h2
    split at h2
    · cases h2; exact hB
    · rename_i hne
      refine (h.k q g' k2 h2).fr hF (fun e => ?_)
      subst e
      exact hne (h.inj q p g' k2 k h2 hk)
  · rw [look_ins] at h2 h3
    split at h2
    · rename_i e1
      cases h2
      split at h3
      · rename_i e2; rw [e1, e2]
      · rw [e1]; exact h.inj p q' g k k3 hk h3
    · split at h3
      · rename_i e2; cases h3; rw [e2]; exact h.inj q p g k2 k h2 hk
      · exact h.inj q q' g' k2 k3 h2 h3

theorem LStep.of_set (h : IsL w lb mb ms) {p : Int} {g : Nat} {k k' : Lk} (hk : look p ms = some (g, k)) (hF : Fr (fun b => b = g) w w') (hB : Blk w' g 59 (lkCells k')) : LStep w lb mb ms (ins p k' (vmap (·.2) ms)) w' := by
  refine ⟨_, h.set_ hk hF hB, by rw [vmap_ins], fun b hb => ?_, hF.mono fun _ _ hb => by subst hb; exact .inr (.inr ⟨p, k, hk⟩)⟩
  rcases hb with e | e | ⟨q, k2, h2⟩
  · exact .inl (.inl e)
  · exact .inl (.inr (.inl e))
  · rw [look_ins] at h2
    split at h2
    · cases h2; exact .inl (.inr (.inr ⟨p, k, hk⟩))
    · exact .inl (.inr (.inr ⟨q, k2, h2⟩))

theorem LStep.same (h : IsL w lb mb ms) : LStep w lb mb ms (vmap (·.2) ms) w := ⟨ms, h, rfl, fun _ hb => .inl hb, Fr.refl _ _⟩

/-- one lock goes -/
theorem IsL.del_ (h : IsL w lb mb ms) (p : Int) (hF : Fr (fun b => b = mb) w w') (hV : VMap w' Try.prog 3 mb (del p (vmap ptrV ms))) : IsL w' lb mb (del p ms) := by
  have hsub : ∀ {q g k}, look q (del p ms) = some (g, k) → look q ms = some (g, k) := fun {q g k} hq => by
    rw [look_del] at hq
    split at hq
    · cases hq
    · exact hq
  refine ⟨h.b.fr hF (Blk.ne_map h.b h.m), by rw [vmap_del]; exact hV, fun q g k hq => (h.k q g k (hsub hq)).fr hF (Blk.ne_map (h.k q g k (hsub hq)) h.m), fun q q' g k k' h1 h2 => h.inj q q' g k k' (hsub h1) (hsub h2)⟩

theorem LStep.of_del (h : IsL w lb mb ms) (p : Int) (hF : Fr (fun b => b = mb) w w') (hV : VMap w' Try.prog 3 mb (del p (vmap ptrV ms))) : LStep w lb mb ms (del p (vmap (·.2) ms)) w' := by
  refine ⟨_, h.del_ p hF hV, by rw [vmap_del], fun b hb => .inl ?_, hF.mono fun _ _ hb => .inr (.inl hb)⟩
  rcases hb with e | e | ⟨q, k2, h2⟩
  · exact .inl e
  · exact .inr (.inl e)
  · rw [look_del] at h2
    split at h2
    · cases h2
    · exact .inr (.inr ⟨q, k2, h2⟩)

/-- a new lock comes -/
theorem LStep.of_put (h : IsL w lb mb ms) {p : Int} {g : Nat} {k : Lk} (hF : Fr (fun b => b = mb) w w') (hg : w.heap.size ≤ g) (hB : Blk w' g 59 (lkCells k)) (hV : VMap w' Try.prog 3 mb (ins p (.pointer (some ⟨g, 0, none⟩)) (vmap ptrV ms))) : LStep w lb mb ms (ins p k (vmap (·.2) ms)) w' := by
  have hnew : ∀ q k2, look q ms ≠ some (g, k2) := fun q k2 hq => by have := (h.k q g k2 hq).lt; omega
  refine ⟨ins p (g, k) ms, ⟨h.b.fr hF (Blk.ne_map h.b h.m), by rw [vmap_ins]; exact hV, fun q g' k2 h2 => ?_, fun q q' g' k2 k3 h2 h3 => ?_⟩, by rw [vmap_ins], fun b hb => ?_, hF.mono fun _ _ hb => .inr (.inl hb)⟩
  · rw [look_ins] at h2
    split at h2
    · cases h2; exact hB
    · exact (h.k q g' k2 h2).fr hF (Blk.ne_map (h.k q g' k2 h2) h.m)
  · rw [look_ins] at h2 h3
    split at h2
    · rename_i e1
      cases h2
      split at h3
      · rename_i e2; rw [e1, e2]
      · exact absurd h3 (hnew _ _)
    · split at h3
      · cases h3; exact absurd h2 (hnew _ _)
      · exact h.inj q q' g' k2 k3 h2 h3
  · rcases hb with e | e | ⟨q, k2, h2⟩
    · exact .inl (.inl e)
    · exact .inl (.inr (.inl e))
    · rw [look_ins] at h2
      split at h2
      · cases h2; exact .inr hg
      · exact .inl (.inr (.inr ⟨q, k2, h2⟩))

theorem look_abs (p : Int) (ms : MS) : look p (vmap (·.2) ms) = (look p ms).map (·.2) := look_vmap _ _ _

theorem abs_some {p : Int} {ms : MS} {k : Lk} (h : look p (vmap (·.2) ms) = some k) : ∃ g, look p ms = some (g, k) := by
  rw [look_abs] at h
  cases e : look p ms with
  | none => rw [e] at h; cases h
  | some x => rw [e] at h; cases h; exact ⟨x.1, rfl⟩

theorem abs_none {p : Int} {ms : MS} (h : look p (vmap (·.2) ms) = none) : look p ms = none := by
  rw [look_abs] at h
  cases e : look p ms with
  | none => rfl
  | some x => rw [e] at h; cases h
end

theorem zeroPtr (w : World) : (zeroValue 56).run Try.prog w = .ok (.pointer none) w := by kernel_rfl

theorem New_calls (w : World) : Calls Try.prog 8 #[] w fun e w' => e = .returned (.pointer (some ⟨w.heap.size + 1, 0, none⟩)) ∧ IsL w' (w.heap.size + 1) w.heap.size [] ∧ Fr (fun _ => False) w w' := by
  have hmm := @run_makeMap Try.prog
  go_enter Try.func8, Try.ntmps8
  go_wp2_with fail
  go_ret
  refine ⟨rfl, ⟨?_, (VMap.made w _ _).alloc _, (fun p g k h => by cases h), (fun p p' g k k' h => by cases h)⟩, ((Fr.refl _ w).alloc _).alloc _⟩
  have := Blk.new (w.alloc (.map #[] 0)) 55 [.map (some w.heap.size)]
  rwa [World.size_alloc] at this

section
variable (w : World) (lb mb : Nat) (ms : MS)

theorem find_calls (hL : IsL w lb mb ms) (p : Int) (hp : in64 p) :
    Calls Try.prog 24 #[.pointer (some ⟨lb, 0, none⟩), .int .i64 p] w fun e w' => e = .returned ((look p (vmap ptrV ms)).getD (.pointer none)) ∧ w = w' := by
  have c0 := hL.b.cell 0
  have hrun := hL.m.find (t := 53) (e := 56) Try.underlying3 Try.underlying53 (zeroPtr w) hp
  generalize (look p (vmap ptrV ms)).getD (.pointer none) = v at hrun
  go_enter Try.func24, Try.ntmps24
  go_wp2_with fail
  go_ret
  exact ⟨rfl, rfl⟩

theorem find_none (hL : IsL w lb mb ms) (p : Int) (hp : in64 p) (h : look p ms = none) :
    Calls Try.prog 24 #[.pointer (some ⟨lb, 0, none⟩), .int .i64 p] w fun e w' => e = .returned (.pointer none) ∧ w = w' := by
  have := find_calls w lb mb ms hL p hp
  rw [look_vmap, h] at this
  exact this

theorem find_some (hL : IsL w lb mb ms) (p : Int) (hp : in64 p) {g : Nat} {k : Lk} (h : look p ms = some (g, k)) :
    Calls Try.prog 24 #[.pointer (some ⟨lb, 0, none⟩), .int .i64 p] w fun e w' => e = .returned (.pointer (some ⟨g, 0, none⟩)) ∧ w = w' := by
  have := find_calls w lb mb ms hL p hp
  rw [look_vmap, h] at this
  exact this

theorem lk_cells {w : World} {g : Nat} {k : Lk} (h : Blk w g 59 (lkCells k)) : w.cell? ⟨g, 0, none⟩ = some (.bool k.x) ∧ w.cell? ⟨g, 1, none⟩ = some (.int .i64 k.used) ∧ w.cell? ⟨g, 2, none⟩ = some (.int .i64 k.wait) ∧ w.frozen? ⟨g, 0, none⟩ = false ∧ w.frozen? ⟨g, 1, none⟩ = false ∧ w.frozen? ⟨g, 2, none⟩ = false :=
  ⟨h.cell 0, h.cell 1, h.cell 2, h.frozen 0, h.frozen 1, h.frozen 2⟩

theorem Has_calls (hL : IsL w lb mb ms) (p : Int) (hp : in64 p) (x : Bool) :
    Calls Try.prog 10 #[.pointer (some ⟨lb, 0, none⟩), .int .i64 p, .bool x] w fun e w' => e = .returned (.bool (lHas p x (vmap (·.2) ms))) ∧ w = w' := by
  unfold lHas
  cases e : look p (vmap (·.2) ms) with
  | none =>
    have hf := find_none w lb mb ms hL p hp (abs_none e)
    go_enter Try.func10, Try.ntmps10
    go_wp2_with (go_at_call 24; refine hf.mono ?_; rintro e w' ⟨rfl, rfl⟩)
    go_ret
    exact ⟨rfl, rfl⟩
  | some k =>
    obtain ⟨g, hg⟩ := abs_some e
    have hf := find_some w lb mb ms hL p hp hg
    obtain ⟨a0, a1, a2, _⟩ := lk_cells (hL.k p g k hg)
    obtain ⟨kx, ku, kw⟩ := k
    dsimp only at a0
    clear e hg
    cases kx <;> cases x
    all_goals
      go_enter Try.func10, Try.ntmps10
      go_wp2_with (go_at_call 24; refine hf.mono ?_; rintro e w' ⟨rfl, rfl⟩)
      go_ret
      exact ⟨rfl, rfl⟩

theorem Used_calls (hL : IsL w lb mb ms) (p : Int) (hp : in64 p) :
    Calls Try.prog 21 #[.pointer (some ⟨lb, 0, none⟩), .int .i64 p] w fun e w' => e = .returned (.int .i64 (lUsed p (vmap (·.2) ms))) ∧ w = w' := by
  unfold lUsed
  cases e : look p (vmap (·.2) ms) with
  | none =>
    have hf := find_none w lb mb ms hL p hp (abs_none e)
    go_enter Try.func21, Try.ntmps21
    go_wp2_with (go_at_call 24; refine hf.mono ?_; rintro e w' ⟨rfl, rfl⟩)
    go_ret
    exact ⟨rfl, rfl⟩
  | some k =>
    obtain ⟨g, hg⟩ := abs_some e
    have hf := find_some w lb mb ms hL p hp hg
    obtain ⟨a0, a1, a2, _⟩ := lk_cells (hL.k p g k hg)
    clear e hg
    go_enter Try.func21, Try.ntmps21
    go_wp2_with (go_at_call 24; refine hf.mono ?_; rintro e w' ⟨rfl, rfl⟩)
    go_ret
    exact ⟨rfl, rfl⟩

theorem Grant_calls (hL : IsL w lb mb ms) (p : Int) (hp : in64 p) (x : Bool) (hlen : ms.length ≤ 1000000) :
    Calls Try.prog 9 #[.pointer (some ⟨lb, 0, none⟩), .int .i64 p, .bool x] w fun e w' => e = .returned (.tuple #[]) ∧ LStep w lb mb ms (lGrant p x (vmap (·.2) ms)) w' := by
  have c0 := hL.b.cell 0
  unfold lGrant
  cases e : look p (vmap (·.2) ms) with
  | none =>
    have hf := find_none w lb mb ms hL p hp (abs_none e)
    have hV := hL.m.alloc (.cells #[.bool false, .int .i64 0, .int .i64 0] 59)
    have hB := Blk.new w 59 [.bool false, .int .i64 0, .int .i64 0]
    have hF0 : Fr (fun b => b = mb) w (w.alloc (.cells #[.bool false, .int .i64 0, .int .i64 0] 59)) := (Fr.refl _ w).alloc _
    have hml := hL.m.lt
    have c1 := (hL.b.alloc (.cells #[.bool false, .int .i64 0, .int .i64 0] 59)).cell 0
    clear e
    go_enter Try.func9, Try.ntmps9
    go_wp2_with (first
      | (go_at_call 24; refine hf.mono ?_; clear hf; rintro e w' ⟨rfl, rfl⟩)
      | (at_mapUpdate; refine wpList_mput _ rfl _ _ _ 53 rfl 3 56 mb Try.underlying3 Try.underlying53 _ hV (by rw [length_vmap]; unfold maxLen; omega) rfl p rfl hp (.pointer (some ⟨w.heap.size, 0, none⟩)) rfl ?_; intro w1 hV1 ht1; have hB1 := hB.turned ht1; have hF1 := hF0.map ht1 (.inl rfl); have b0 := hB1.cell 0; have b1 := hB1.frozen 0))
    go_end0
    refine ⟨rfl, LStep.of_put hL (g := w.heap.size) (hF1.setCell (p := ⟨w.heap.size, 0, none⟩) (.inr (Nat.le_refl _)) _) (Nat.le_refl _) (hB1.set_ 0 (.bool x)) (hV1.setCell (by show mb ≠ w.heap.size; omega) _)⟩
  | some k =>
    obtain ⟨g, hg⟩ := abs_some e
    have hf := find_some w lb mb ms hL p hp hg
    have hB := hL.k p g k hg
    obtain ⟨a0, a1, a2, z0, _⟩ := lk_cells hB
    have HG := Lib.hid hg
    clear e hg
    go_enter Try.func9, Try.ntmps9
    go_wp2_with (go_at_call 24; refine hf.mono ?_; clear hf; rintro e w' ⟨rfl, rfl⟩)
    go_end0
    exact ⟨rfl, LStep.of_set hL HG.out ((Fr.refl (fun b => b = g) w).setCell (p := ⟨g, 0, none⟩) (.inl rfl) _) (hB.set_ 0 (.bool x))⟩

theorem Use_calls (hL : IsL w lb mb ms) (hI : LInv (vmap (·.2) ms)) (p : Int) (hp : in64 p) (x : Bool) :
    Calls Try.prog 13 #[.pointer (some ⟨lb, 0, none⟩), .int .i64 p, .bool x] w fun e w' => e = .returned (.int .i64 (lUse p x (vmap (·.2) ms)).1) ∧ LStep w lb mb ms (lUse p x (vmap (·.2) ms)).2 w' := by
  have hhas := Has_calls w lb mb ms hL p hp x
  unfold lHas at hhas
  unfold lUse
  cases e : look p (vmap (·.2) ms) with
  | none =>
    rw [e] at hhas
    have hs := LStep.same hL
    clear e
    go_enter Try.func13, Try.ntmps13
    go_wp2_with (go_at_call 10; refine hhas.mono ?_; clear hhas; rintro e w' ⟨rfl, rfl⟩)
    go_ret
    exact ⟨rfl, hs⟩
  | some k =>
    rw [e] at hhas
    have ho := lok_at hI e
    obtain ⟨g, hg⟩ := abs_some e
    have hf := find_some w lb mb ms hL p hp hg
    have hB := hL.k p g k hg
    obtain ⟨a0, a1, a2, z0, z1, _⟩ := lk_cells hB
    have HG := Lib.hid hg
    obtain ⟨kx, ku, kw⟩ := k
    dsimp only at a0 a1 a2 hhas ⊢
    clear e hg
    cases hc : (kx || !x) with
    | false =>
      rw [hc] at hhas
      have hs := LStep.same hL
      clear hc
      go_enter Try.func13, Try.ntmps13
      go_wp2_with (go_at_call 10; refine hhas.mono ?_; clear hhas; rintro e w' ⟨rfl, rfl⟩)
      go_ret
      exact ⟨rfl, hs⟩
    | true =>
      rw [hc] at hhas
      clear hc
      have hset : ∀ (u : Int) (w' : World), w' = w.setCell ⟨g, 1, none⟩ (.int .i64 u) → LStep w lb mb ms (ins p ⟨kx, u, kw⟩ (vmap (·.2) ms)) w' := by
        rintro u w' rfl
        exact LStep.of_set hL HG.out ((Fr.refl (fun b => b = g) w).setCell (p := ⟨g, 1, none⟩) (.inl rfl) _) (hB.set_ 1 (.int .i64 u))
      have hset2 : ∀ (u v : Int) (w' : World), w' = (w.setCell ⟨g, 1, none⟩ (.int .i64 v)).setCell ⟨g, 1, none⟩ (.int .i64 u) → LStep w lb mb ms (ins p ⟨kx, u, kw⟩ (vmap (·.2) ms)) w' := by
        rintro u v w' rfl
        refine LStep.of_set hL HG.out (((Fr.refl (fun b => b = g) w).setCell (p := ⟨g, 1, none⟩) (.inl rfl) _).setCell (p := ⟨g, 1, none⟩) (.inl rfl) _) ?_
        have := (hB.set_ 1 (.int .i64 v)).set_ 1 (.int .i64 u)
        exact this
      have HS := Lib.hid hset
      have HS2 := Lib.hid hset2
      clear hset hset2
      obtain ⟨hu, _⟩ := ho
      dsimp only at hu
      cases x with
      | false =>
        rcases hu with rfl | rfl | rfl
        all_goals
          go_enter Try.func13, Try.ntmps13
          go_wp2_with (first | (go_at_call 10; refine hhas.mono ?_; clear hhas; rintro e w' ⟨rfl, rfl⟩) | (go_at_call 24; refine hf.mono ?_; clear hf; rintro e w' ⟨rfl, rfl⟩))
          go_ret
          exact ⟨rfl, HS.out _ _ rfl⟩
      | true =>
        rcases hu with rfl | rfl | rfl
        all_goals
          go_enter Try.func13, Try.ntmps13
          go_wp2_with (first | (go_at_call 10; refine hhas.mono ?_; clear hhas; rintro e w' ⟨rfl, rfl⟩) | (go_at_call 24; refine hf.mono ?_; clear hf; rintro e w' ⟨rfl, rfl⟩))
          go_ret
          first | exact ⟨rfl, HS2.out _ _ _ rfl⟩ | exact ⟨rfl, HS.out _ _ rfl⟩

theorem Clear_calls (hL : IsL w lb mb ms) :
    Calls Try.prog 19 #[.pointer (some ⟨lb, 0, none⟩)] w fun e w' => e = .returned (.tuple #[]) ∧ LStep w lb mb ms [] w' := by
  have c0 := hL.b.cell 0
  have hV := hL.m
  have HL := Lib.hid hL
  have hblb := Blk.ne_map hL.b hL.m
  go_enter Try.func19, Try.ntmps19
  go_wp2_with (refine wpList_mclear _ rfl (.tmp 7) 53 rfl 3 56 mb Try.underlying53 _ hV rfl ?_; intro w1 hV1 ht1)
  go_end0
  have hF1 : Fr (fun b => b = mb) w w1 := (Fr.refl (fun b => b = mb) w).map ht1 (.inl rfl)
  refine ⟨rfl, [], ⟨HL.out.b.fr hF1 hblb, hV1, (fun p g k h => by cases h), (fun p p' g k k' h => by cases h)⟩, rfl, fun b hb => ?_, hF1.mono fun b _ hb => .inr (.inl hb)⟩
  rcases hb with e | e | ⟨p, k, h⟩
  · exact .inl (.inl e)
  · exact .inl (.inr (.inl e))
  · cases h
end

end Go.Proofs.Ytfgkhlbmmffajaa
