/- PurseExact: the purse and its reference side by side in memory. -/
import Derived.Test.YtejjfhgfhileeaaPurseAwake
import Derived.Test.YtejjfhgfhileeaaRefPA
namespace Go.Proofs.Ytejjfhgfhileeaa
open Go.Maps Go.RowKit

/-- The purse (state q) and the reference (list l) behind w0; the result's cell ob; the variable ux that leads to the reference. -/
structure EP (w0 : World) (ob pb mb ub ux : Nat) (q : PS) (l : List (Int × Int)) (wr : World) : Prop where
  p : IsPurse wr pb mb q
  r : IsRefP w0 wr ub l
  o : Blk wr ob 4 [.bool false]
  x : Blk wr ux 36 [.pointer (some ⟨ub, 0, none⟩)]
  fr : Fr (fun _ => False) w0 wr
  lo : w0.heap.size ≤ pb ∧ w0.heap.size ≤ mb ∧ w0.heap.size ≤ ub

/-- the round's own copy of the act -/
def XBp (wr : World) (xb : Nat) (kd who n room : Int) : Prop := Blk wr xb 29 [.int .i64 kd, .int .i64 who, .int .i64 n, .int .i64 room]

section
variable {w0 wr w' : World} {ob pb mb ub ux xb : Nat} {q q' : PS} {l l' : List (Int × Int)} {kd who n room : Int}

theorem EP.ub_ (h : EP w0 ob pb mb ub ux q l wr) : ∃ v, Blk wr ub 39 [v] := by obtain ⟨v, hB, _⟩ := h.r; exact ⟨v, hB⟩

theorem EP.quiet (h : EP w0 ob pb mb ub ux q l wr) (hF : Fr (fun _ => False) wr w') : EP w0 ob pb mb ub ux q l w' :=
  ⟨⟨h.p.1.fr hF (fun e => e), h.p.2.fr hF (fun e => e)⟩, h.r.fr hF (fun e => e) (fun _ _ e => e), h.o.fr hF (fun e => e), h.x.fr hF (fun e => e), h.fr.trans hF (fun _ _ e => e), h.lo⟩

theorem EP.drewN (h : EP w0 ob pb mb ub ux q l wr) (n : Nat) : EP w0 ob pb mb ub ux q l (wr.drewN n) := h.quiet ⟨rfl, rfl, rfl, Nat.le_refl _, fun _ _ _ => rfl⟩

theorem EP.callp (h : EP w0 ob pb mb ub ux q l wr) (hP : IsPurse w' pb mb q') (hF : Fr (two pb mb) wr w') : EP w0 ob pb mb ub ux q' l w' := by
  obtain ⟨v, hu⟩ := h.ub_
  refine ⟨hP, h.r.fr hF (fun e => ?_) (fun g hg e => ?_), h.o.fr hF (fun e => ?_), h.x.fr hF (fun e => ?_), h.fr.trans hF (fun b hb e => ?_), h.lo⟩
  · rcases e with e | e
    · exact (Blk.ne_ hu h.p.1 (by decide)) e
    · exact (Blk.ne_map hu h.p.2) e
  · obtain ⟨cur, hcur⟩ := hg
    have hB : Blk wr g 44 cur.toList := hcur
    rcases e with e | e
    · exact (Blk.ne_ hB h.p.1 (by decide)) e
    · exact (Blk.ne_map hB h.p.2) e
  · rcases e with e | e
    · exact (Blk.ne_ h.o h.p.1 (by decide)) e
    · exact (Blk.ne_map h.o h.p.2) e
  · rcases e with e | e
    · exact (Blk.ne_ h.x h.p.1 (by decide)) e
    · exact (Blk.ne_map h.x h.p.2) e
  · obtain ⟨l1, l2, l3⟩ := h.lo
    rcases e with e | e <;> omega

theorem EP.callr (h : EP w0 ob pb mb ub ux q l wr) (hR : IsRefP w0 w' ub l') (hF : Fr (fun b => b = ub) wr w') : EP w0 ob pb mb ub ux q l' w' := by
  obtain ⟨v, hu⟩ := h.ub_
  refine ⟨⟨h.p.1.fr hF (fun e => (Blk.ne_ hu h.p.1 (by decide)) e.symm), h.p.2.fr hF (fun e => (Blk.ne_map hu h.p.2) e.symm)⟩, hR, h.o.fr hF (fun e => (Blk.ne_ h.o hu (by decide)) e), h.x.fr hF (fun e => (Blk.ne_ h.x hu (by decide)) e), h.fr.trans hF (fun b hb e => ?_), h.lo⟩
  have := h.lo.2.2
  omega

theorem XBp.callp (h : XBp wr xb kd who n room) (hE : EP w0 ob pb mb ub ux q l wr) (hF : Fr (two pb mb) wr w') : XBp w' xb kd who n room :=
  Blk.fr h hF (fun e => by
    rcases e with e | e
    · exact (Blk.ne_ h hE.p.1 (by decide)) e
    · exact (Blk.ne_map h hE.p.2) e)

theorem XBp.callr (h : XBp wr xb kd who n room) (hE : EP w0 ob pb mb ub ux q l wr) (hF : Fr (fun b => b = ub) wr w') : XBp w' xb kd who n room := by
  obtain ⟨v, hu⟩ := hE.ub_
  exact Blk.fr h hF (fun e => (Blk.ne_ h hu (by decide)) e)

/-- the four cells that a round's region reads -/
def four (xb ux ub : Nat) (who n room : Int) (w' : World) : Prop :=
  w'.cell? ⟨xb, 1, none⟩ = some (.int .i64 who) ∧ w'.cell? ⟨xb, 2, none⟩ = some (.int .i64 n) ∧ w'.cell? ⟨xb, 3, none⟩ = some (.int .i64 room) ∧ w'.cell? ⟨ux, 0, none⟩ = some (.pointer (some ⟨ub, 0, none⟩))

theorem four_of (h : XBp wr xb kd who n room) (hE : EP w0 ob pb mb ub ux q l wr) : four xb ux ub who n room wr := ⟨Blk.cell h 1, Blk.cell h 2, Blk.cell h 3, hE.x.cell 0⟩

theorem EP.ask (h : EP w0 ob pb mb ub ux q l wr) (hX : XBp wr xb kd who n room) (hI : PInv q) (hw : in64 who) (hr : in64 room) (hl : q.l.length ≤ 1000000) :
    Calls Try.prog 9 #[.pointer (some ⟨pb, 0, none⟩), .int .i64 who, .int .i64 n, .int .i64 room] wr fun e w' => e = .returned (.bool (pCan q n room)) ∧ EP w0 ob pb mb ub ux (pAsk q who n room) l w' ∧ XBp w' xb kd who n room ∧ four xb ux ub who n room w' :=
  (Ask_calls pb mb q wr h.p hI who n room hw hr (by unfold maxLen; omega)).mono fun _ _ ⟨h1, h2, h3⟩ => ⟨h1, h.callp h2 h3, hX.callp h h3, four_of (hX.callp h h3) (h.callp h2 h3)⟩

theorem EP.take (h : EP w0 ob pb mb ub ux q l wr) (hX : XBp wr xb kd who n room) (hI : PInv q) (hw : in64 who) (hl : q.l.length ≤ 1000000) :
    Calls Try.prog 10 #[.pointer (some ⟨pb, 0, none⟩), .int .i64 who, .int .i64 n] wr fun e w' => e = .returned (.int .i64 (pTook q who n)) ∧ EP w0 ob pb mb ub ux (pTake q who n) l w' ∧ XBp w' xb kd who n room ∧ four xb ux ub who n room w' :=
  (Take_calls pb mb q wr h.p hI who n hw (by unfold maxLen; omega)).mono fun _ _ ⟨h1, h2, h3⟩ => ⟨h1, h.callp h2 h3, hX.callp h h3, four_of (hX.callp h h3) (h.callp h2 h3)⟩

theorem EP.rask (h : EP w0 ob pb mb ub ux q' q.l wr) (hX : XBp wr xb kd who n room) (hI : PInv q) (hr : in64 room) (hl : q.l.length ≤ 1000000) :
    Calls Try.prog 13 #[.pointer (some ⟨ub, 0, none⟩), .int .i64 who, .int .i64 n, .int .i64 room] wr fun e w' => e = .returned (.bool (pCan q n room)) ∧ EP w0 ob pb mb ub ux q' (pAsk q who n room).l w' ∧ XBp w' xb kd who n room ∧ four xb ux ub who n room w' :=
  (refAsk_calls w0 wr ub q h.fr h.lo.2.2 h.r hI hl who n room hr).mono fun _ _ ⟨h1, h2, h3⟩ => ⟨h1, h.callr h2 h3, hX.callr h h3, four_of (hX.callr h h3) (h.callr h2 h3)⟩

theorem EP.rtake (h : EP w0 ob pb mb ub ux q' q.l wr) (hX : XBp wr xb kd who n room) (hI : PInv q) (hl : q.l.length ≤ 1000000) :
    Calls Try.prog 14 #[.pointer (some ⟨ub, 0, none⟩), .int .i64 who, .int .i64 n] wr fun e w' => e = .returned (.int .i64 (pTook q who n)) ∧ EP w0 ob pb mb ub ux q' (pTake q who n).l w' ∧ XBp w' xb kd who n room ∧ four xb ux ub who n room w' :=
  (refTake_calls w0 wr ub q h.fr h.lo.2.2 h.r hI hl who n).mono fun _ _ ⟨h1, h2, h3⟩ => ⟨h1, h.callr h2 h3, hX.callr h h3, four_of (hX.callr h h3) (h.callr h2 h3)⟩
end

end Go.Proofs.Ytejjfhgfhileeaa
