/- LatchExact: the locks and their reference side by side in memory; two lists of lets. -/
import Derived.Test.YtfgkhlbmmffajaaRefLE
namespace Go.Proofs.Ytfgkhlbmmffajaa
open Go.Maps Go.RowKit

/-- The locks (ls) and the reference (rs) behind w0. -/
structure EL (w0 : World) (lb mb ub : Nat) (ls rs : LS) (wr : World) : Prop where
  l : ∃ ms, IsL wr lb mb ms ∧ vmap (·.2) ms = ls ∧ ∀ b, footL lb mb ms b → w0.heap.size ≤ b
  r : IsRefL w0 wr ub rs
  fr : Fr (fun _ => False) w0 wr
  lo : w0.heap.size ≤ ub

/-- the round's own copy of the act -/
def XBl (wr : World) (xb : Nat) (kd pg : Int) (x : Bool) : Prop := Blk wr xb 27 [.int .i64 kd, .int .i64 pg, .bool x]

/-- the cells that a round's region reads -/
def twoX (xb : Nat) (pg : Int) (x : Bool) (w' : World) : Prop := w'.cell? ⟨xb, 1, none⟩ = some (.int .i64 pg) ∧ w'.cell? ⟨xb, 2, none⟩ = some (.bool x)

section
variable {w0 wr w' : World} {lb mb ub xb : Nat} {ls ls' rs rs' : LS} {kd pg : Int} {x : Bool} {ms : MS}

theorem XBl.two (h : XBl wr xb kd pg x) : twoX xb pg x wr := ⟨Blk.cell h 1, Blk.cell h 2⟩

theorem IsL.foot_ne (h : IsL wr lb mb ms) {g : Nat} {t : TypeId} {cs : List Value} (hB : Blk wr g t cs) (h1 : t ≠ 55) (h2 : t ≠ 59) : ¬ footL lb mb ms g := by
  rintro (rfl | rfl | ⟨p, k, hk⟩)
  · exact Blk.ne_ hB h.b h1 rfl
  · exact Blk.ne_map hB h.m rfl
  · exact Blk.ne_ hB (h.k p g k hk) h2 rfl

theorem EL.ub_ (h : EL w0 lb mb ub ls rs wr) : ∃ v, Blk wr ub 43 [v] := by obtain ⟨v, hB, _⟩ := h.r; exact ⟨v, hB⟩

theorem EL.quiet (h : EL w0 lb mb ub ls rs wr) (hF : Fr (fun _ => False) wr w') : EL w0 lb mb ub ls rs w' := by
  obtain ⟨ms, h1, h2, h3⟩ := h.l
  exact ⟨⟨ms, h1.keep hF (fun _ _ e => e), h2, h3⟩, h.r.fr hF (fun e => e) (fun _ _ e => e), h.fr.trans hF (fun _ _ e => e), h.lo⟩

theorem EL.drewN (h : EL w0 lb mb ub ls rs wr) (n : Nat) : EL w0 lb mb ub ls rs (wr.drewN n) := h.quiet ⟨rfl, rfl, rfl, Nat.le_refl _, fun _ _ _ => rfl⟩

theorem XBl.quiet (h : XBl wr xb kd pg x) (hF : Fr (fun _ => False) wr w') : XBl w' xb kd pg x := Blk.fr h hF (fun e => e)

/-- the locks go on, the reference stays -/
theorem EL.stepl (h3 : ∀ b, footL lb mb ms b → w0.heap.size ≤ b) (h1 : IsL wr lb mb ms) (hr : IsRefL w0 wr ub rs) (hf : Fr (fun _ => False) w0 wr) (hlo : w0.heap.size ≤ ub) (hX : XBl wr xb kd pg x) (hS : LStep wr lb mb ms ls' w') : EL w0 lb mb ub ls' rs w' ∧ XBl w' xb kd pg x := by
  obtain ⟨ms', g1, g2, g3, g4⟩ := hS
  obtain ⟨v, hB, hv⟩ := hr
  refine ⟨⟨⟨ms', g1, g2, fun b hb => ?_⟩, IsRefL.fr ⟨v, hB, hv⟩ g4 (h1.foot_ne hB (by decide) (by decide)) (fun g hg => ?_), hf.trans g4 (fun b hb e => by have := h3 b e; omega), hlo⟩, Blk.fr hX g4 (h1.foot_ne hX (by decide) (by decide))⟩
  · rcases g3 b hb with e | e
    · exact h3 b e
    · exact Nat.le_trans hf.size e
  · obtain ⟨cur, hcur⟩ := hg
    have hB : Blk wr g 49 cur.toList := hcur
    exact h1.foot_ne hB (by decide) (by decide)

/-- the reference goes on, the locks stay -/
theorem EL.stepr (h : EL w0 lb mb ub ls rs wr) (hX : XBl wr xb kd pg x) (hS : RefStep w0 wr ub rs rs' w') : EL w0 lb mb ub ls rs' w' ∧ XBl w' xb kd pg x := by
  obtain ⟨g1, g2⟩ := hS
  obtain ⟨v, hu⟩ := h.ub_
  obtain ⟨ms, h1, h2, h3⟩ := h.l
  refine ⟨⟨⟨ms, h1.keep g2 (fun b hb e => ?_), h2, h3⟩, g1, h.fr.trans g2 (fun b hb e => ?_), h.lo⟩, Blk.fr hX g2 (fun e => ?_)⟩
  · rcases e with rfl | ⟨_, cur, hcur⟩
    · exact h1.foot_ne hu (by decide) (by decide) hb
    · have hB : Blk wr b 49 cur.toList := hcur
      exact h1.foot_ne hB (by decide) (by decide) hb
  · rcases e with rfl | ⟨hge, _⟩
    · have := h.lo; omega
    · omega
  · rcases e with rfl | ⟨_, cur, hcur⟩
    · exact Blk.ne_ hX hu (by decide) rfl
    · have hB : Blk wr xb 49 cur.toList := hcur
      exact Blk.ne_ hX hB (by decide) rfl

theorem EL.grant (h : EL w0 lb mb ub ls rs wr) (hX : XBl wr xb kd pg x) (hl : ls.length ≤ 1000000) (hp : in64 pg) :
    Calls Try.prog 9 #[.pointer (some ⟨lb, 0, none⟩), .int .i64 pg, .bool x] wr fun e w' => e = .returned (.tuple #[]) ∧ EL w0 lb mb ub (lGrant pg x ls) rs w' ∧ XBl w' xb kd pg x := by
  obtain ⟨ms, h1, rfl, h3⟩ := h.l
  rw [length_vmap] at hl
  exact (Grant_calls wr lb mb ms h1 pg hp x hl).mono fun _ _ ⟨g1, g2⟩ => ⟨g1, EL.stepl h3 h1 h.r h.fr h.lo hX g2⟩

theorem EL.rgrant (h : EL w0 lb mb ub ls rs wr) (hX : XBl wr xb kd pg x) (hI : LInv rs) (hl : rs.length ≤ 1000000) :
    Calls Try.prog 14 #[.pointer (some ⟨ub, 0, none⟩), .int .i64 pg, .bool x] wr fun e w' => e = .returned (.tuple #[]) ∧ EL w0 lb mb ub ls (lGrant pg x rs) w' ∧ XBl w' xb kd pg x :=
  (refGrant_calls w0 wr ub rs h.fr.size h.r hI.srt hl pg x).mono fun _ _ ⟨g1, g2⟩ => ⟨g1, h.stepr hX g2⟩

theorem EL.use (h : EL w0 lb mb ub ls rs wr) (hX : XBl wr xb kd pg x) (hI : LInv ls) (hp : in64 pg) :
    Calls Try.prog 13 #[.pointer (some ⟨lb, 0, none⟩), .int .i64 pg, .bool x] wr fun e w' => e = .returned (.int .i64 (lUse pg x ls).1) ∧ EL w0 lb mb ub (lUse pg x ls).2 rs w' ∧ XBl w' xb kd pg x ∧ twoX xb pg x w' := by
  obtain ⟨ms, h1, rfl, h3⟩ := h.l
  refine (Use_calls wr lb mb ms h1 hI pg hp x).mono fun _ _ ⟨g1, g2⟩ => ?_
  have h4 := EL.stepl h3 h1 h.r h.fr h.lo hX g2
  exact ⟨g1, h4.1, h4.2, h4.2.two⟩

theorem EL.ruse (h : EL w0 lb mb ub ls rs wr) (hX : XBl wr xb kd pg x) (hI : LInv rs) (hl : rs.length ≤ 1000000) :
    Calls Try.prog 15 #[.pointer (some ⟨ub, 0, none⟩), .int .i64 pg, .bool x] wr fun e w' => e = .returned (.int .i64 (lUse pg x rs).1) ∧ EL w0 lb mb ub ls (lUse pg x rs).2 w' ∧ XBl w' xb kd pg x ∧ twoX xb pg x w' :=
  (refUse_calls w0 wr ub rs h.r hI hl pg x).mono fun _ _ ⟨g1, g2⟩ => ⟨g1, (h.stepr hX g2).1, (h.stepr hX g2).2, (h.stepr hX g2).2.two⟩

theorem EL.call (h : EL w0 lb mb ub ls rs wr) (hX : XBl wr xb kd pg x) (hI : LInv ls) (hp : in64 pg) :
    Calls Try.prog 11 #[.pointer (some ⟨lb, 0, none⟩), .int .i64 pg, .bool x] wr fun e w' => e = .returned (.int .i64 (lCall pg x ls).1) ∧ EL w0 lb mb ub (lCall pg x ls).2 rs w' ∧ XBl w' xb kd pg x ∧ twoX xb pg x w' := by
  obtain ⟨ms, h1, rfl, h3⟩ := h.l
  refine (Call_calls wr lb mb ms h1 hI pg hp x).mono fun _ _ ⟨g1, g2⟩ => ?_
  have h4 := EL.stepl h3 h1 h.r h.fr h.lo hX g2
  exact ⟨g1, h4.1, h4.2, h4.2.two⟩

theorem EL.rcall (h : EL w0 lb mb ub ls rs wr) (hX : XBl wr xb kd pg x) (hI : LInv rs) (hl : rs.length ≤ 1000000) :
    Calls Try.prog 16 #[.pointer (some ⟨ub, 0, none⟩), .int .i64 pg, .bool x] wr fun e w' => e = .returned (.int .i64 (lCall pg x rs).1) ∧ EL w0 lb mb ub ls (lCall pg x rs).2 w' ∧ XBl w' xb kd pg x ∧ twoX xb pg x w' :=
  (refCall_calls w0 wr ub rs h.fr.size h.r hI hl pg x).mono fun _ _ ⟨g1, g2⟩ => ⟨g1, (h.stepr hX g2).1, (h.stepr hX g2).2, (h.stepr hX g2).2.two⟩

theorem EL.clear (h : EL w0 lb mb ub ls rs wr) (hX : XBl wr xb kd pg x) :
    Calls Try.prog 19 #[.pointer (some ⟨lb, 0, none⟩)] wr fun e w' => e = .returned (.tuple #[]) ∧ EL w0 lb mb ub [] rs w' ∧ XBl w' xb kd pg x := by
  obtain ⟨ms, h1, rfl, h3⟩ := h.l
  exact (Clear_calls wr lb mb ms h1).mono fun _ _ ⟨g1, g2⟩ => ⟨g1, EL.stepl h3 h1 h.r h.fr h.lo hX g2⟩

/-- the reference is emptied -/
theorem EL.nil (h : EL w0 lb mb ub ls rs wr) (hX : XBl wr xb kd pg x) : EL w0 lb mb ub ls [] (wr.setCell ⟨ub, 0, none⟩ (.slice none 0 0)) ∧ XBl (wr.setCell ⟨ub, 0, none⟩ (.slice none 0 0)) xb kd pg x := by
  obtain ⟨v, hu⟩ := h.ub_
  have h0 : RefStep w0 wr ub rs [] (wr.setCell ⟨ub, 0, none⟩ (.slice none 0 0)) :=
    ⟨⟨_, hu.set_ 0 _, World.ownsRow_nil _ _ _ _⟩, (Fr.refl _ wr).setCell (p := ⟨ub, 0, none⟩) (.inl (.inl rfl)) _⟩
  exact h.stepr hX h0

/-- a row of lets, wherever it lies -/
def LetAt (w' : World) (os : List (Int × Bool)) (v : Value) : Prop :=
  ∃ A cap, v = .slice A os.length cap ∧ ∀ (i : Nat) (q : Int × Bool), os[i]? = some q → ∃ g, A = some ⟨g, 0, none⟩ ∧ w'.cell? ⟨g, i * 2, none⟩ = some (.int .i64 q.1) ∧ w'.cell? ⟨g, i * 2 + 1, none⟩ = some (.bool q.2)

/-- End of both, one behind the other -/
theorem EL.end_ (h : EL w0 lb mb ub ls rs wr) (hX : XBl wr xb kd pg x) (hI : LInv ls) (hl : ls.length ≤ 1000000) :
    Calls Try.prog 12 #[.pointer (some ⟨lb, 0, none⟩)] wr fun e w' => ∃ v, e = .returned v ∧ w'.ownsRow wr.heap.size 38 2 v (endOuts ls).length (letcells (endOuts ls)) ∧ EL w0 lb mb ub (endRest ls) rs w' ∧ XBl w' xb kd pg x := by
  obtain ⟨ms, h1, rfl, h3⟩ := h.l
  rw [length_vmap] at hl
  refine (End_calls wr lb mb ms h1 hI hl).mono fun e w' h' => ?_
  obtain ⟨v, g1, g2, g3⟩ := h'
  exact ⟨v, g1, g2, EL.stepl h3 h1 h.r h.fr h.lo hX g3⟩

theorem EL.rend (h : EL w0 lb mb ub ls rs wr) (hX : XBl wr xb kd pg x) (hI : LInv rs) (hl : rs.length ≤ 1000000) {v0 : Value} {base : Nat} {os : List (Int × Bool)} (hv : wr.ownsRow base 38 2 v0 os.length (letcells os)) :
    Calls Try.prog 18 #[.pointer (some ⟨ub, 0, none⟩)] wr fun e w' => ∃ v, e = .returned v ∧ LetAt w' os v0 ∧ LetAt w' (endOuts rs) v ∧ EL w0 lb mb ub ls (endRest rs) w' ∧ XBl w' xb kd pg x := by
  refine (refEnd_calls w0 wr ub rs h.fr.size h.r hI hl).mono fun e w' h' => ?_
  obtain ⟨v, g1, g2, g3⟩ := h'
  obtain ⟨q1, q2⟩ := h.stepr hX g3
  refine ⟨v, g1, ?_, ?_, q1, q2⟩
  · obtain ⟨hl, ⟨rfl, h0⟩ | ⟨g, cap, cur, rfl, hg, hgr, hr⟩⟩ := id hv
    · refine ⟨none, 0, by rw [h0], fun i p hi => ?_⟩
      have := (List.getElem?_eq_some_iff.1 hi).1
      omega
    · have hB : Blk wr g 38 cur.toList := hgr
      have hk : w'.heap[g]? = wr.heap[g]? := g3.2.block g hB.lt fun e => by
        obtain ⟨u, hu⟩ := h.ub_
        rcases e with rfl | ⟨_, cur', hcur'⟩
        · exact Blk.ne_ hB hu (by decide) rfl
        · have hB' : Blk wr g 49 cur'.toList := hcur'
          exact Blk.ne_ hB hB' (by decide) rfl
      have h' : w'.ownsRow base 38 2 (.slice (some ⟨g, 0, none⟩) os.length cap) os.length (letcells os) := ⟨hl, .inr ⟨g, cap, cur, rfl, hg, hk.trans hgr, hr⟩⟩
      refine ⟨_, cap, rfl, fun i p hi => ⟨g, rfl, ?_⟩⟩
      have hlt := (List.getElem?_eq_some_iff.1 hi).1
      obtain ⟨q1, q2⟩ := letcells_get hi
      exact ⟨(h'.cellAt (i * 2) (by omega)).trans q1, (h'.cellAt (i * 2 + 1) (by omega)).trans q2⟩
  · obtain ⟨A, cap, e1, e2⟩ := letrow_of g2
    refine ⟨A, cap, e1, fun i q hi => ?_⟩
    obtain ⟨g, e3, _, _, e4⟩ := e2 i q hi
    exact ⟨g, e3, e4 w' rfl⟩

theorem EL.has (h : EL w0 lb mb ub ls rs wr) (hp : in64 pg) :
    Calls Try.prog 10 #[.pointer (some ⟨lb, 0, none⟩), .int .i64 pg, .bool x] wr fun e w' => e = .returned (.bool (lHas pg x ls)) ∧ wr = w' := by
  obtain ⟨ms, h1, rfl, h3⟩ := h.l
  exact Has_calls wr lb mb ms h1 pg hp x

theorem EL.used (h : EL w0 lb mb ub ls rs wr) (hp : in64 pg) :
    Calls Try.prog 21 #[.pointer (some ⟨lb, 0, none⟩), .int .i64 pg] wr fun e w' => e = .returned (.int .i64 (lUsed pg ls)) ∧ wr = w' := by
  obtain ⟨ms, h1, rfl, h3⟩ := h.l
  exact Used_calls wr lb mb ms h1 pg hp

/-- the pages, in a row of their own; both stay as they are -/
theorem EL.pages (h : EL w0 lb mb ub ls rs wr) (hl : ls.length ≤ 1000000) :
    Calls Try.prog 23 #[.pointer (some ⟨lb, 0, none⟩)] wr fun e w' => PagesP wr (ls.map (·.1)) e w' ∧ EL w0 lb mb ub ls rs w' := by
  obtain ⟨ms, h1, h2, h3⟩ := h.l
  have hH : HasL wr (fun _ => False) lb mb ls wr → True := fun _ => trivial
  refine (Pages_calls wr lb mb ms h1 (by rw [← h2, length_vmap] at hl; exact hl)).mono fun e w' hp => ?_
  have hq := hp
  obtain ⟨v, rfl, hrow, hF⟩ := hp
  refine ⟨?_, h.quiet hF⟩
  have hk : ms.map (·.1) = ls.map (·.1) := by rw [← h2]; simp [vmap]
  rw [hk] at hrow
  generalize ls.map (·.1) = ks at hrow ⊢
  obtain ⟨hl, ⟨rfl, h0⟩ | ⟨g, cap, cur, rfl, hg, hgr, hr⟩⟩ := id hrow
  · refine ⟨none, 0, by rw [h0], fun i p hi => ?_, hF⟩
    have := (List.getElem?_eq_some_iff.1 hi).1
    omega
  · refine ⟨_, cap, rfl, fun i p hi => ⟨g, rfl, hg, (Array.getElem?_eq_some_iff.1 hgr).1, fun W hW => ?_⟩, hF⟩
    have hlt := (List.getElem?_eq_some_iff.1 hi).1
    have h' : W.ownsRow wr.heap.size 3 1 (.slice (some ⟨g, 0, none⟩) ks.length cap) ks.length (ks.map fun k => Value.int .i64 k) := ⟨hl, .inr ⟨g, cap, cur, rfl, hg, hW.trans hgr, hr⟩⟩
    rw [h'.cellAt i (by omega), List.getElem?_map, hi]
    rfl
end

set_option maxHeartbeats 1000000 in
theorem lets_calls (w : World) (os : List (Int × Bool)) (v1 v2 : Value) (h1 : LetAt w os v1) (h2 : LetAt w os v2) (hn : os.length ≤ 1000000) :
    Calls Try.prog 17 #[v1, v2] w fun e w' => e = .returned (.bool true) ∧ Fr (fun _ => False) w w' := by
  obtain ⟨A, cap, rfl, hA⟩ := h1
  obtain ⟨B, cap', rfl, hB⟩ := h2
  have HA := Lib.hid hA
  have HB := Lib.hid hB
  clear hA hB
  go_enter Try.func17, Try.ntmps17
  go_wp2_with fail
  go_loopg [5] os.length (fun g i wr => ∃ k : Nat, i = .int .i64 k ∧ k ≤ os.length ∧ g = os.length - k ∧ Fr (fun _ => False) w wr ∧ ∀ p : Addr, wr.cell? p = w.cell? p)
  case atStart => exact ⟨0, rfl, by omega, by omega, Fr.refl _ _, fun _ => rfl⟩
  case round =>
    obtain ⟨k, rfl, hk, rfl, hF, hc⟩ := hrel
    have HF := Lib.hid hF
    have HCl := Lib.hid hc
    clear hF
    by_cases hlt : k < os.length
    · have hltz : (k : Int) < (os.length : Int) := by omega
      have q1 : (0 : Int) ≤ (k : Int) := by omega
      have ho : os[k]? = some os[k] := List.getElem?_eq_getElem hlt
      generalize os[k] = q at ho
      obtain ⟨g, rfl, a0, a1⟩ := HA.out k q ho
      obtain ⟨g', rfl, b0, b1⟩ := HB.out k q ho
      rw [← hc] at a0 a1 b0 b1
      obtain ⟨qp, qx⟩ := q
      dsimp only at a0 a1 b0 b1
      clear ho hc
      go_wp2_with fail
      go_quiet (fail)
      go_wp2_with fail
      go_roundg (os.length - (k + 1))
      case measure => omega
      case rel => exact ⟨k + 1, rfl, by omega, rfl, HF.out.trans (S' := fun _ => False) ⟨rfl, rfl, rfl, Nat.le_refl _, fun _ _ _ => rfl⟩ (fun _ _ h => h), fun p => HCl.out p⟩
    · have hltz : (os.length : Int) ≤ (k : Int) := by omega
      clear hc
      go_wp2_with fail
      go_ret
      exact ⟨rfl, HF.out⟩

end Go.Proofs.Ytfgkhlbmmffajaa
