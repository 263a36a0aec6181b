/- The locks' reference: memory and contracts. -/
import Derived.Test.YtfgkhlbmmffajaaLatchE
namespace Go.Proofs.Ytfgkhlbmmffajaa
open Go.Maps Go.RowKit

/-! ### rows of structs, whatever they hold -/
section
variable {α : Type}
def rcells (c : α → List Value) : List α → List Value
  | [] => []
  | x :: r => c x ++ rcells c r

theorem rcells_append (c : α → List Value) (a b : List α) : rcells c (a ++ b) = rcells c a ++ rcells c b := by
  induction a with
  | nil => rfl
  | cons x r ih => simp [rcells, ih]

theorem rcells_get {c : α → List Value} {m : Nat} (hc : ∀ x, (c x).length = m) {l : List α} {i : Nat} {x : α} (h : l[i]? = some x) {j : Nat} (hj : j < m) : (rcells c l)[i * m + j]? = (c x)[j]? := by
  induction l generalizing i with
  | nil => simp at h
  | cons y r ih =>
    cases i with
    | zero =>
      simp at h; subst h
      rw [rcells, List.getElem?_append_left (by rw [hc]; omega)]
      simp
    | succ i =>
      rw [rcells, List.getElem?_append_right (by rw [hc, Nat.succ_mul]; omega), hc, show (i + 1) * m + j - m = i * m + j by rw [Nat.succ_mul]; omega]
      exact ih (by simpa using h)

theorem rcells_set {c : α → List Value} {m : Nat} (hc : ∀ x, (c x).length = m) {l : List α} {i : Nat} {x x' : α} (h : l[i]? = some x) {j : Nat} (hj : j < m) {v : Value} (he : (c x).set j v = c x') : (rcells c l).set (i * m + j) v = rcells c (l.set i x') := by
  induction l generalizing i with
  | nil => simp at h
  | cons y r ih =>
    cases i with
    | zero =>
      simp at h; subst h
      rw [List.set_cons_zero, rcells, rcells, ← he, List.set_append_left _ _ (by rw [hc]; omega)]
      simp
    | succ i =>
      rw [List.set_cons_succ, rcells, rcells, List.set_append_right _ _ (by rw [hc, Nat.succ_mul]; omega), hc, show (i + 1) * m + j - m = i * m + j by rw [Nat.succ_mul]; omega, ih (by simpa using h)]
end

/-! ### plain -/
def c4 (q : Int × Lk) : List Value := [.int .i64 q.1, .bool q.2.x, .int .i64 q.2.used, .int .i64 q.2.wait]
theorem c4_len (q : Int × Lk) : (c4 q).length = 4 := rfl

def lIdx (p : Int) : LS → Option Nat
  | [] => none
  | q :: r => if q.1 = p then some 0 else (lIdx p r).map (· + 1)

def placeV : Option Nat → Int
  | some i => (i : Int)
  | none => -1

theorem lIdx_look {p : Int} {ls : LS} {k : Lk} (h : look p ls = some k) : ∃ i, lIdx p ls = some i ∧ ls[i]? = some (p, k) := by
  induction ls with
  | nil => simp [look] at h
  | cons q r ih =>
    unfold look at h
    unfold lIdx
    split at h
    · rename_i e
      cases h
      exact ⟨0, by rw [if_pos e], by simp [← e]⟩
    · rename_i e
      obtain ⟨i, h1, h2⟩ := ih h
      exact ⟨i + 1, by rw [if_neg e, h1]; rfl, by simpa using h2⟩

theorem lIdx_none {p : Int} {ls : LS} (h : look p ls = none) : lIdx p ls = none := by
  induction ls with
  | nil => rfl
  | cons q r ih =>
    unfold look at h
    unfold lIdx
    split at h
    · cases h
    · rename_i e
      rw [if_neg e, ih h]; rfl

theorem set_ins {ls : LS} (hs : Srt ls) {i : Nat} {p : Int} {k k' : Lk} (h : ls[i]? = some (p, k)) : ls.set i (p, k') = ins p k' ls := by
  induction ls generalizing i with
  | nil => simp at h
  | cons q r ih =>
    obtain ⟨h1, h2⟩ := List.pairwise_cons.1 hs
    cases i with
    | zero =>
      simp at h; subst h
      simp [ins]
    | succ i =>
      have h3 := h1 (p, k) (List.mem_of_getElem? (by simpa using h))
      simp at h3
      rw [List.set_cons_succ, ih h2 (by simpa using h), ins, if_neg (by omega), if_neg (by omega)]

def grStep (p : Int) (k : Lk) (s : LS × Bool) (q : Int × Lk) : LS × Bool := if !s.2 && decide (p < q.1) then (s.1 ++ [(p, k)] ++ [q], true) else (s.1 ++ [q], s.2)
def grAt (p : Int) (k : Lk) (ls : LS) : LS × Bool := ls.foldl (grStep p k) ([], false)
def grEnd (p : Int) (k : Lk) (ls : LS) : LS := if (grAt p k ls).2 then (grAt p k ls).1 else (grAt p k ls).1 ++ [(p, k)]

theorem grAt_succ (p : Int) (k : Lk) {ls : LS} {i : Nat} {q : Int × Lk} (h : ls[i]? = some q) : grAt p k (ls.take (i + 1)) = grStep p k (grAt p k (ls.take i)) q := by
  have hlt := (List.getElem?_eq_some_iff.1 h).1
  rw [List.take_succ_eq_append_getElem hlt, (List.getElem?_eq_some_iff.1 h).2]
  simp [grAt]

theorem grStep_len (p : Int) (k : Lk) (s : LS × Bool) (q : Int × Lk) : (grStep p k s q).1.length ≤ s.1.length + 2 := by
  unfold grStep
  split <;> simp

theorem grAt_len (p : Int) (k : Lk) (ls : LS) : (grAt p k ls).1.length ≤ ls.length * 2 := by
  have : ∀ (l : LS) (s : LS × Bool), (l.foldl (grStep p k) s).1.length ≤ s.1.length + l.length * 2 := by
    intro l
    induction l with
    | nil => intro s; simp
    | cons q r ih =>
      intro s
      have h1 := ih (grStep p k s q)
      have h2 := grStep_len p k s q
      simp only [List.foldl_cons, List.length_cons]
      omega
  have h := this ls ([], false)
  simp only [List.length_nil, Nat.zero_add] at h
  exact h

theorem grEnd_eq {p : Int} {k : Lk} {ls : LS} (hs : Srt ls) (hn : look p ls = none) : grEnd p k ls = ins p k ls := by
  have hdone : ∀ (l o : LS), l.foldl (grStep p k) (o, true) = (o ++ l, true) := by
    intro l
    induction l with
    | nil => intro o; simp
    | cons q r ih =>
      intro o
      rw [List.foldl_cons]
      have : grStep p k (o, true) q = (o ++ [q], true) := by simp [grStep]
      rw [this, ih]
      simp
  unfold grEnd grAt
  have : ∀ (l o : LS), Srt l → look p l = none → (if (l.foldl (grStep p k) (o, false)).2 then (l.foldl (grStep p k) (o, false)).1 else (l.foldl (grStep p k) (o, false)).1 ++ [(p, k)]) = o ++ ins p k l := by
    intro l
    induction l with
    | nil => intro o _ _; simp [ins]
    | cons q r ih =>
      intro o hs hn
      obtain ⟨h1, h2⟩ := List.pairwise_cons.1 hs
      have hq : q.1 ≠ p := look_none hn q (by simp)
      have hr : look p r = none := by rw [look, if_neg hq] at hn; exact hn
      rw [List.foldl_cons]
      by_cases h : p < q.1
      · have e : grStep p k (o, false) q = (o ++ [(p, k)] ++ [q], true) := by simp [grStep, h]
        rw [e, hdone]
        simp [ins, h]
      · have e : grStep p k (o, false) q = (o ++ [q], false) := by simp [grStep, h]
        rw [e, ih _ h2 hr]
        simp [ins, h, hq]
  have h := this ls [] hs hn
  simpa using h

/-! ### in memory -/
/-- The reference: its block ub holds a slice whose row, made behind w0, is ls. -/
def IsRefL (w0 w : World) (ub : Nat) (ls : LS) : Prop :=
  ∃ v, Blk w ub 43 [v] ∧ w.ownsRow w0.heap.size 49 4 v ls.length (rcells c4 ls)

theorem IsRefL.fr {w0 w w' : World} {ub : Nat} {ls : LS} {S : Nat → Prop} (h : IsRefL w0 w ub ls) (hF : Fr S w w') (hn : ¬ S ub) (hS : ∀ g, (∃ cur, w.heap[g]? = some (.cells cur 49 (0, 0))) → ¬ S g) : IsRefL w0 w' ub ls := by
  obtain ⟨v, hB, hl, hr⟩ := h
  refine ⟨v, hB.fr hF hn, hl, hr.imp id ?_⟩
  rintro ⟨g, cap, cur, r1, r2, r3, r4⟩
  exact ⟨g, cap, cur, r1, r2, (hF.block g (Array.getElem?_eq_some_iff.1 r3).1 (hS g ⟨cur, r3⟩)).trans r3, r4⟩

/-- as a slice, with its cells -/
theorem IsRefL.open_ {w0 w : World} {ub : Nat} {ls : LS} (h : IsRefL w0 w ub ls) : ∃ A cap, Blk w ub 43 [.slice A ls.length cap] ∧ ∀ (i : Nat) (q : Int × Lk), ls[i]? = some q →
    ∃ g, A = some ⟨g, 0, none⟩ ∧ w0.heap.size ≤ g ∧ (∃ cur, w.heap[g]? = some (.cells cur 49 (0, 0))) ∧ (∀ w' : World, w'.heap[g]? = w.heap[g]? → w'.cell? ⟨g, i * 4, none⟩ = some (.int .i64 q.1) ∧ w'.cell? ⟨g, i * 4 + 1, none⟩ = some (.bool q.2.x) ∧ w'.cell? ⟨g, i * 4 + 2, none⟩ = some (.int .i64 q.2.used) ∧ w'.cell? ⟨g, i * 4 + 3, none⟩ = some (.int .i64 q.2.wait) ∧ ∀ j, w'.frozen? ⟨g, j, none⟩ = false) ∧
      ∀ (j : Nat) (v : Value) (q' : Int × Lk), j < 4 → (c4 q).set j v = c4 q' → IsRefL w0 (w.setCell ⟨g, i * 4 + j, none⟩ v) ub (ls.set i q') := by
  obtain ⟨v, hB, hl, ⟨rfl, h0⟩ | ⟨g, cap, cur, rfl, hg, hgr, hr⟩⟩ := h
  · refine ⟨none, 0, by rw [h0]; exact hB, fun i p hi => ?_⟩
    have := (List.getElem?_eq_some_iff.1 hi).1
    omega
  · refine ⟨_, cap, hB, fun i q hi => ⟨g, rfl, hg, ⟨cur, hgr⟩, fun w' hw' => ?_, fun j v q' hj he => ?_⟩⟩
    · have hlt := (List.getElem?_eq_some_iff.1 hi).1
      have h' : w'.ownsRow w0.heap.size 49 4 (.slice (some ⟨g, 0, none⟩) ls.length cap) ls.length (rcells c4 ls) := ⟨hl, .inr ⟨g, cap, cur, rfl, hg, hw'.trans hgr, hr⟩⟩
      exact ⟨(h'.cellAt (i * 4) (by omega)).trans (rcells_get c4_len hi (j := 0) (by omega)), (h'.cellAt (i * 4 + 1) (by omega)).trans (rcells_get c4_len hi (j := 1) (by omega)), (h'.cellAt (i * 4 + 2) (by omega)).trans (rcells_get c4_len hi (j := 2) (by omega)), (h'.cellAt (i * 4 + 3) (by omega)).trans (rcells_get c4_len hi (j := 3) (by omega)), fun j => h'.frozenAt j⟩
    · have h' : w.ownsRow w0.heap.size 49 4 (.slice (some ⟨g, 0, none⟩) ls.length cap) ls.length (rcells c4 ls) := ⟨hl, .inr ⟨g, cap, cur, rfl, hg, hgr, hr⟩⟩
      have hne : ub ≠ g := by
        have : Blk w g 49 cur.toList := hgr
        exact Blk.ne_ hB this (by decide)
      have h2 := h'.stored (i * 4 + j) v
      rw [rcells_set c4_len hi hj he] at h2
      refine ⟨_, ?_, by simpa using h2.1⟩
      have := hB.far (p := ⟨g, i * 4 + j, none⟩) hne v
      simpa using this

theorem infoLock : (Try.prog.info? 49).map (fun i => (i.zero, i.size, i.bytes)) = some (some (.agg #[.int .i64 0, .bool false, .int .i64 0, .int .i64 0]), 4, 32) := by kernel_rfl

theorem news4 (W : World) (a : Int) (b : Bool) (c d : Int) : ∀ (j : Nat) (u : Value), [Value.int .i64 a, Value.bool b, Value.int .i64 c, Value.int .i64 d][j]? = some u → (W.alloc (.cells #[.int .i64 a, .bool b, .int .i64 c, .int .i64 d] 49)).cell? ((⟨W.heap.size, 0, none⟩ : Addr).add j) = some u := fun j u hu => by
  have := (Blk.new W 49 [.int .i64 a, .bool b, .int .i64 c, .int .i64 d]).cell j
  rw [hu] at this
  rw [← this]
  congr 1
  unfold Addr.add
  by_cases h1 : j = 0 <;> simp [h1]

theorem one4 (a : Int) (b : Bool) (c d : Int) : ∀ u ∈ [Value.int .i64 a, Value.bool b, Value.int .i64 c, Value.int .i64 d], u.oneCell' = true := by
  intro u hu
  simp only [List.mem_cons, List.not_mem_nil, or_false] at hu
  rcases hu with rfl | rfl | rfl | rfl <;> rfl

theorem fr_app {w W w1 : World} {base : Nat} {o : Obj} {v : Value} {n : Nat} {xs : List Value} {e : TypeId} {size : Nat} (h : Fr (fun _ => False) w W) (hg : (W.alloc o).grownBy w1 v.ownBlock) (hown : W.ownsRow base e size v n xs) (hb : w.heap.size ≤ base) : Fr (fun _ => False) w w1 :=
  (h.alloc o).grown hg fun b hb' => .inr (by have := (hown.lt b hb').1; omega)

theorem row_succ {W : World} {base : Nat} {e : TypeId} {size : Nat} {v : Value} {k : Nat} {xs : List Value} (h : W.ownsRow base e size v (k + 1) xs) : ∃ g cap, v = .slice (some ⟨g, 0, none⟩) (k + 1) cap := by
  rcases h.2 with ⟨_, h0⟩ | ⟨g, cap, _, rfl, _⟩
  · omega
  · exact ⟨g, cap, rfl⟩

/-- the field takes the new row -/
theorem ref_end {w0 w W : World} {ub : Nat} {u v : Value} {xs : LS} {m : Nat} (hw0 : w0.heap.size ≤ w.heap.size) (hub : ub < w.heap.size) (hB : Blk w ub 43 [u]) (h1 : Fr (fun _ => False) w W) (h2 : W.ownsRow w.heap.size 49 4 v m (rcells c4 xs)) (hm : m = xs.length) :
    IsRefL w0 (W.setCell ⟨ub, 0, none⟩ v) ub xs ∧ Fr (fun b => b = ub) w (W.setCell ⟨ub, 0, none⟩ v) := by
  subst hm
  refine ⟨⟨v, (hB.fr h1 (fun h => h)).set_ 0 v, h2.1, h2.2.imp id ?_⟩, (h1.mono (S' := fun b => b = ub) (fun _ _ h => h.elim)).setCell (p := ⟨ub, 0, none⟩) (.inl rfl) _⟩
  rintro ⟨g, cap, cur, r1, r2, r3, r4⟩
  exact ⟨g, cap, cur, r1, by omega, (Below.heap_setCell _ _ _ _ (by show g ≠ ub; omega)).trans r3, r4⟩

section
variable (w0 w : World) (ub : Nat) (ls : LS)

theorem refAt_calls (hR : IsRefL w0 w ub ls) (hn : ls.length ≤ 1000000) (p : Int) :
    Calls Try.prog 25 #[.pointer (some ⟨ub, 0, none⟩), .int .i64 p] w fun e w' => e = .returned (.int .i64 (placeV (lIdx p ls))) ∧ w = w' := by
  obtain ⟨A, cap, hB, hcells⟩ := hR.open_
  have HC := Lib.hid hcells
  have c0 := hB.cell 0
  clear hcells hB
  go_enter Try.func25, Try.ntmps25
  go_wp2_with fail
  go_loopg [5] ls.length (fun g i wr => w = wr ∧ ∃ k : Nat, i = .int .i64 k ∧ k ≤ ls.length ∧ g = ls.length - k ∧ lIdx p ls = (lIdx p (ls.drop k)).map (· + k))
  case atStart => exact ⟨rfl, 0, rfl, by omega, by omega, by simp⟩
  case round =>
    obtain ⟨rfl, k, rfl, hk, rfl, hx⟩ := hrel
    have HX := Lib.hid hx
    clear hx
    by_cases hlt : k < ls.length
    · have hltz : (k : Int) < (ls.length : Int) := by omega
      have ho : ls[k]? = some ls[k] := List.getElem?_eq_getElem hlt
      have HD := Lib.hid (List.drop_eq_getElem_cons hlt)
      generalize ls[k] = q at ho HD
      obtain ⟨g, rfl, _, _, hc, _⟩ := HC.out k q ho
      obtain ⟨a0, _⟩ := hc w rfl
      clear ho hc
      by_cases he : q.1 = p
      · have hb : (q.1 == p) = true := by simpa using he
        have HE := Lib.hid he
        clear he
        go_wp2_with fail
        go_ret
        rw [HX.out, HD.out, lIdx, if_pos HE.out]
        exact ⟨by simp [placeV], rfl⟩
      · have hb : (q.1 == p) = false := by simpa using he
        have HE := Lib.hid he
        clear he
        go_wp2_with fail
        go_roundg (ls.length - (k + 1))
        case measure => omega
        case rel =>
          refine ⟨rfl, k + 1, rfl, by omega, rfl, ?_⟩
          rw [HX.out, HD.out, lIdx, if_neg HE.out, Option.map_map]
          congr 1
          funext x
          simp only [Function.comp]
          omega
    · have e0 : k = ls.length := by omega
      have hltz : (ls.length : Int) ≤ (k : Int) := by omega
      have hfin : lIdx p ls = none := by rw [HX.out, e0, List.drop_length]; rfl
      go_wp2_with fail
      go_ret
      rw [hfin]
      exact ⟨rfl, rfl⟩

theorem refAt_none (hR : IsRefL w0 w ub ls) (hn : ls.length ≤ 1000000) (p : Int) (h : look p ls = none) :
    Calls Try.prog 25 #[.pointer (some ⟨ub, 0, none⟩), .int .i64 p] w fun e w' => e = .returned (.int .i64 (-1)) ∧ w = w' := by
  have := refAt_calls w0 w ub ls hR hn p
  rw [lIdx_none h] at this
  exact this

/-- a lock that is there: its place, its cells, and how one turns -/
theorem refAt_some (hR : IsRefL w0 w ub ls) (hs : Srt ls) (hn : ls.length ≤ 1000000) (p : Int) {k : Lk} (h : look p ls = some k) :
    ∃ (i g cap : Nat), i < ls.length ∧ (Calls Try.prog 25 #[.pointer (some ⟨ub, 0, none⟩), .int .i64 p] w fun e w' => e = .returned (.int .i64 (i : Int)) ∧ w = w') ∧
      Blk w ub 43 [.slice (some ⟨g, 0, none⟩) ls.length cap] ∧ w.cell? ⟨g, i * 4 + 1, none⟩ = some (.bool k.x) ∧ w.cell? ⟨g, i * 4 + 2, none⟩ = some (.int .i64 k.used) ∧ w.cell? ⟨g, i * 4 + 3, none⟩ = some (.int .i64 k.wait) ∧
      w0.heap.size ≤ g ∧ (∃ cur, w.heap[g]? = some (.cells cur 49 (0, 0))) ∧ (∀ j, w.frozen? ⟨g, j, none⟩ = false) ∧ (∀ (j : Nat) (v : Value) (k' : Lk), j < 4 → (c4 (p, k)).set j v = c4 (p, k') → IsRefL w0 (w.setCell ⟨g, i * 4 + j, none⟩ v) ub (ins p k' ls)) := by
  obtain ⟨i, h1, h2⟩ := lIdx_look h
  have h0 := refAt_calls w0 w ub ls hR hn p
  rw [h1] at h0
  obtain ⟨A, cap, hB, hcells⟩ := hR.open_
  obtain ⟨g, rfl, hg, hcur, hc, hset⟩ := hcells i _ h2
  obtain ⟨_, a1, a2, a3, z⟩ := hc w rfl
  refine ⟨i, g, cap, (List.getElem?_eq_some_iff.1 h2).1, h0, hB, a1, a2, a3, hg, hcur, z, fun j v k' hj he => ?_⟩
  rw [← set_ins hs h2]
  exact hset j v (p, k') hj he

theorem refHas_calls (hR : IsRefL w0 w ub ls) (hs : Srt ls) (hn : ls.length ≤ 1000000) (p : Int) (x : Bool) :
    Calls Try.prog 20 #[.pointer (some ⟨ub, 0, none⟩), .int .i64 p, .bool x] w fun e w' => e = .returned (.bool (lHas p x ls)) ∧ w = w' := by
  unfold lHas
  cases e : look p ls with
  | none =>
    have hf := refAt_none w0 w ub ls hR hn p e
    clear e
    go_enter Try.func20, Try.ntmps20
    go_wp2_with (go_at_call 25; refine hf.mono ?_; clear hf; rintro e w' ⟨rfl, rfl⟩)
    go_ret
    exact ⟨rfl, rfl⟩
  | some k =>
    obtain ⟨i, g, cap, hi, hf, hB, a1, a2, a3, _, _, _, _⟩ := refAt_some w0 w ub ls hR hs hn p e
    have c0 := hB.cell 0
    obtain ⟨kx, ku, kw⟩ := k
    dsimp only at a1
    have hi1 : (i : Int) < (ls.length : Int) := by omega
    have hi2 : (0 : Int) ≤ (i : Int) := by omega
    have d1 : decide ((0 : Int) ≤ (i : Int)) = true := decide_eq_true hi2
    clear e hR hs
    cases kx <;> cases x
    all_goals
      go_enter Try.func20, Try.ntmps20
      go_wp2_with (go_at_call 25; refine hf.mono ?_; clear hf; rintro e w' ⟨rfl, rfl⟩)
      go_ret
      exact ⟨rfl, rfl⟩

theorem refUsed_calls (hR : IsRefL w0 w ub ls) (hs : Srt ls) (hn : ls.length ≤ 1000000) (p : Int) :
    Calls Try.prog 22 #[.pointer (some ⟨ub, 0, none⟩), .int .i64 p] w fun e w' => e = .returned (.int .i64 (lUsed p ls)) ∧ w = w' := by
  unfold lUsed
  cases e : look p ls with
  | none =>
    have hf := refAt_none w0 w ub ls hR hn p e
    clear e
    go_enter Try.func22, Try.ntmps22
    go_wp2_with (go_at_call 25; refine hf.mono ?_; clear hf; rintro e w' ⟨rfl, rfl⟩)
    go_ret
    exact ⟨rfl, rfl⟩
  | some k =>
    obtain ⟨i, g, cap, hi, hf, hB, a1, a2, a3, _, _, _, _⟩ := refAt_some w0 w ub ls hR hs hn p e
    have c0 := hB.cell 0
    have hi1 : (i : Int) < (ls.length : Int) := by omega
    have hi2 : (0 : Int) ≤ (i : Int) := by omega
    have d1 : decide ((0 : Int) ≤ (i : Int)) = true := decide_eq_true hi2
    clear e hR hs
    go_enter Try.func22, Try.ntmps22
    go_wp2_with (go_at_call 25; refine hf.mono ?_; clear hf; rintro e w' ⟨rfl, rfl⟩)
    go_ret
    exact ⟨rfl, rfl⟩
end

end Go.Proofs.Ytfgkhlbmmffajaa
