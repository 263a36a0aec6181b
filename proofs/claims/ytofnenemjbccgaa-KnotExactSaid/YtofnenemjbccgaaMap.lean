/- Maps with int keys as sorted lists of pairs (key, value): laws on the operations of a map that a call owns. -/
import Derived.Maps.OwnSet
import Derived.Maps.RangeWalk
import Derived.WalkKit
namespace Go.Proofs.Ytofnenemjbccgaa
open Go.Maps Go.RowKit

/-! ### sorted lists of pairs -/
section plain
variable {α β : Type}

def ins (k : Int) (v : α) : List (Int × α) → List (Int × α)
  | [] => [(k, v)]
  | p :: r => if k < p.1 then (k, v) :: p :: r else if p.1 = k then (k, v) :: r else p :: ins k v r

def del (k : Int) (l : List (Int × α)) : List (Int × α) := l.filter (fun p => decide (p.1 ≠ k))

def look (k : Int) : List (Int × α) → Option α
  | [] => none
  | p :: r => if p.1 = k then some p.2 else look k r

def Srt (l : List (Int × α)) : Prop := l.Pairwise (fun p q => p.1 < q.1)

def vmap (f : α → β) (l : List (Int × α)) : List (Int × β) := l.map (fun p => (p.1, f p.2))

theorem srt_nil : Srt ([] : List (Int × α)) := List.Pairwise.nil

theorem mem_ins {k : Int} {v : α} {l : List (Int × α)} {p : Int × α} (h : p ∈ ins k v l) : p = (k, v) ∨ p ∈ l := by
  induction l with
  | nil => simp [ins] at h; exact .inl h
  | cons q r ih =>
    unfold ins at h
    split at h
    · simp only [List.mem_cons] at h ⊢; rcases h with h | h | h <;> simp [h]
    · split at h
      · simp only [List.mem_cons] at h ⊢; rcases h with h | h <;> simp [h]
      · simp only [List.mem_cons] at h ⊢
        rcases h with h | h
        · simp [h]
        · rcases ih h with h | h <;> simp [h]

theorem srt_ins {k : Int} {v : α} {l : List (Int × α)} (h : Srt l) : Srt (ins k v l) := by
  induction l with
  | nil => simp [ins, Srt]
  | cons q r ih =>
    obtain ⟨h1, h2⟩ := List.pairwise_cons.1 h
    unfold ins
    split
    · rename_i hk
      exact List.pairwise_cons.2 ⟨fun p hp => by
        rcases List.mem_cons.1 hp with rfl | hp
        · exact hk
        · have := h1 p hp; show k < p.1; omega, h⟩
    · split
      · rename_i hk he
        exact List.pairwise_cons.2 ⟨fun p hp => by have := h1 p hp; show k < p.1; omega, h2⟩
      · rename_i hk he
        refine List.pairwise_cons.2 ⟨fun p hp => ?_, ih h2⟩
        rcases mem_ins hp with rfl | hp
        · show q.1 < k; omega
        · exact h1 p hp

theorem srt_del {k : Int} {l : List (Int × α)} (h : Srt l) : Srt (del k l) := List.Pairwise.filter _ h

theorem look_ins_same {k : Int} {v : α} {l : List (Int × α)} : look k (ins k v l) = some v := by
  induction l with
  | nil => simp [ins, look]
  | cons q r ih =>
    unfold ins
    split
    · simp [look]
    · split
      · simp [look]
      · rename_i he; simp [look, he, ih]

theorem look_ins_other {k j : Int} {v : α} {l : List (Int × α)} (h : j ≠ k) : look j (ins k v l) = look j l := by
  induction l with
  | nil => simp [ins, look, Ne.symm h]
  | cons q r ih =>
    unfold ins
    split
    · simp [look, Ne.symm h]
    · split
      · rename_i he; simp [look, he, Ne.symm h]
      · simp [look, ih]

theorem look_ins {k j : Int} {v : α} {l : List (Int × α)} : look j (ins k v l) = if j = k then some v else look j l := by
  split
  · rename_i h; rw [h, look_ins_same]
  · rename_i h; exact look_ins_other h

theorem look_del {k j : Int} {l : List (Int × α)} : look j (del k l) = if j = k then none else look j l := by
  induction l with
  | nil => simp [del, look]
  | cons q r ih =>
    unfold del at ih ⊢
    by_cases hq : q.1 = k
    · rw [List.filter_cons_of_neg (by simp [hq]), ih]
      by_cases hj : j = k
      · simp [hj]
      · rw [if_neg hj, if_neg hj]; simp [look, hq, Ne.symm hj]
    · rw [List.filter_cons_of_pos (by simp [hq])]
      by_cases hj : j = k
      · subst hj; simpa [look, hq] using ih
      · rw [if_neg hj] at ih ⊢; rw [look, look, ih]

theorem mem_of_look {k : Int} {v : α} {l : List (Int × α)} (h : look k l = some v) : (k, v) ∈ l := by
  induction l with
  | nil => simp [look] at h
  | cons q r ih =>
    unfold look at h
    split at h
    · rename_i hq; cases h; rw [← hq]; simp
    · exact List.mem_cons_of_mem _ (ih h)

theorem look_of_mem {k : Int} {v : α} {l : List (Int × α)} (hs : Srt l) (h : (k, v) ∈ l) : look k l = some v := by
  induction l with
  | nil => cases h
  | cons q r ih =>
    obtain ⟨h1, h2⟩ := List.pairwise_cons.1 hs
    rcases List.mem_cons.1 h with rfl | h
    · simp [look]
    · have := h1 _ h
      rw [look, if_neg (by simp at this; omega)]
      exact ih h2 h

theorem look_none {k : Int} {l : List (Int × α)} (h : look k l = none) : ∀ p ∈ l, p.1 ≠ k := by
  induction l with
  | nil => simp
  | cons q r ih =>
    unfold look at h
    split at h
    · cases h
    · rename_i hq
      intro p hp
      rcases List.mem_cons.1 hp with rfl | hp
      · exact hq
      · exact ih h p hp

theorem del_of_none {k : Int} {l : List (Int × α)} (h : look k l = none) : del k l = l := by
  refine List.filter_eq_self.2 fun p hp => ?_
  simpa using look_none h p hp

theorem srt_ext {l l' : List (Int × α)} (h : Srt l) (h' : Srt l') (he : ∀ k, look k l = look k l') : l = l' := by
  induction l generalizing l' with
  | nil =>
    cases l' with
    | nil => rfl
    | cons q r => have := he q.1; simp [look] at this
  | cons p r ih =>
    cases l' with
    | nil => have := he p.1; simp [look] at this
    | cons q s =>
      obtain ⟨h1, h2⟩ := List.pairwise_cons.1 h
      obtain ⟨h3, h4⟩ := List.pairwise_cons.1 h'
      have hpq : p.1 = q.1 := by
        have e1 := he p.1
        rw [look, if_pos rfl] at e1
        have m1 := mem_of_look e1.symm
        have e2 := he q.1
        rw [look.eq_2 q.1 q, if_pos rfl] at e2
        have m2 := mem_of_look e2
        rcases List.mem_cons.1 m1 with e | m1
        · rw [← e]
        · rcases List.mem_cons.1 m2 with e | m2
          · rw [← e]
          · have a1 := h3 _ m1
            have a2 := h1 _ m2
            simp at a1 a2; omega
      have hv : p = q := by
        have e1 := he p.1
        rw [look, if_pos rfl, look, if_pos hpq.symm] at e1
        exact Prod.ext hpq (Option.some.inj e1)
      subst hv
      rw [ih h2 h4 fun k => ?_]
      have e1 := he k
      by_cases hk : p.1 = k
      · have n1 : look k r = none := by
          cases e : look k r with
          | none => rfl
          | some v => have := h1 _ (mem_of_look e); simp at this; omega
        have n2 : look k s = none := by
          cases e : look k s with
          | none => rfl
          | some v => have := h3 _ (mem_of_look e); simp at this; omega
        rw [n1, n2]
      · simpa [look, hk] using e1

theorem length_ins {k : Int} {v : α} {l : List (Int × α)} (hs : Srt l) : (ins k v l).length = if (look k l).isSome then l.length else l.length + 1 := by
  induction l with
  | nil => simp [ins, look]
  | cons q r ih =>
    obtain ⟨h1, h2⟩ := List.pairwise_cons.1 hs
    unfold ins
    split
    · rename_i hk
      have : look k (q :: r) = none := by
        cases e : look k (q :: r) with
        | none => rfl
        | some v =>
          rcases List.mem_cons.1 (mem_of_look e) with e | m
          · rw [← e] at hk; simp at hk
          · have := h1 _ m; simp at this; omega
      simp [this]
    · split
      · rename_i he; simp [look, he]
      · rename_i he
        simp only [List.length_cons, ih h2, look, if_neg he]
        split <;> rfl

theorem length_ins_le {k : Int} {v : α} {l : List (Int × α)} : (ins k v l).length ≤ l.length + 1 := by
  induction l with
  | nil => simp [ins]
  | cons q r ih =>
    unfold ins
    split
    · simp
    · split
      · simp
      · simp [ih]

theorem length_del {k : Int} {l : List (Int × α)} (hs : Srt l) : (del k l).length + (if (look k l).isSome then 1 else 0) = l.length := by
  induction l with
  | nil => simp [del, look]
  | cons q r ih =>
    obtain ⟨h1, h2⟩ := List.pairwise_cons.1 hs
    by_cases hq : q.1 = k
    · have hn : look k r = none := by
        cases e : look k r with
        | none => rfl
        | some v => have := h1 _ (mem_of_look e); simp at this; omega
      have : del k (q :: r) = r := by
        unfold del
        rw [List.filter_cons_of_neg (by simp [hq])]
        exact del_of_none hn
      rw [this]
      simp [look, hq]
    · have : del k (q :: r) = q :: del k r := by
        unfold del
        rw [List.filter_cons_of_pos (by simp [hq])]
      rw [this]
      simp only [List.length_cons, look, if_neg hq]
      have := ih h2
      omega

theorem length_del_le {k : Int} {l : List (Int × α)} : (del k l).length ≤ l.length := List.length_filter_le _ _

theorem vmap_ins (f : α → β) (k : Int) (v : α) (l : List (Int × α)) : vmap f (ins k v l) = ins k (f v) (vmap f l) := by
  induction l with
  | nil => rfl
  | cons q r ih =>
    unfold ins vmap
    simp only [List.map_cons]
    split
    · simp
    · split
      · simp
      · simp only [List.map_cons]; congr 1

theorem vmap_del (f : α → β) (k : Int) (l : List (Int × α)) : vmap f (del k l) = del k (vmap f l) := by
  unfold vmap del; rw [List.filter_map]; rfl

theorem look_vmap (f : α → β) (k : Int) (l : List (Int × α)) : look k (vmap f l) = (look k l).map f := by
  induction l with
  | nil => rfl
  | cons q r ih =>
    unfold vmap at ih ⊢
    simp only [List.map_cons, look]
    split
    · rfl
    · exact ih

theorem srt_vmap (f : α → β) {l : List (Int × α)} : Srt (vmap f l) ↔ Srt l := by
  unfold Srt vmap; rw [List.pairwise_map]

theorem length_vmap (f : α → β) (l : List (Int × α)) : (vmap f l).length = l.length := by simp [vmap]
end plain

/-! ### a map's block -/

/-- How an element reads: as itself. -/
def rawR (v : Value) : Option (DataW Value × List MemPlace) := some (.held v, [])

def toD (l : List (Int × Value)) : DataW Value := .map (l.map fun p => (Lit.int .i64 p.1, .held p.2))

def in64 (x : Int) : Prop := -9223372036854775808 ≤ x ∧ x ≤ 9223372036854775807

theorem in64_wf {x : Int} (h : in64 x) : (Lit.int .i64 x).wf = true := by
  unfold in64 at h
  exact WalkArith.wf_i64 h

theorem wf_in64 {x : Int} (h : (Lit.int .i64 x).wf = true) : in64 x := by
  unfold in64
  simp [Lit.wf, IntKind.min, IntKind.max, IntKind.bits, IntKind.signed] at h
  omega

def InK {α : Type} (l : List (Int × α)) : Prop := ∀ p ∈ l, in64 p.1

/-- BLOCK b IS A MAP WITH int KEYS THAT HOLDS JUST THE PAIRS OF l. -/
def VMap (w : World) (P : Program) (kt b : Nat) (l : List (Int × Value)) : Prop :=
  w.ownsMap P kt rawR b l.length (toD l) ∧ Srt l ∧ InK l

theorem toD_put {l : List (Int × Value)} (hs : Srt l) (k : Int) (v : Value) : (toD l).put (.int .i64 k) (.held v) = toD (ins k v l) := by
  unfold toD
  rw [DataW.put_eq]
  congr 1
  unfold ChangeMaps.putKey
  induction l with
  | nil => rfl
  | cons q r ih =>
    obtain ⟨h1, h2⟩ := List.pairwise_cons.1 hs
    have hall : ∀ {m : List (Int × Value)}, (∀ p ∈ m, p.1 ≠ k) → (m.map fun p => (Lit.int .i64 p.1, DataW.held p.2)).filter (ChangeMaps.notKey (.int .i64 k)) = m.map fun p => (Lit.int .i64 p.1, DataW.held p.2) := by
      intro m hm
      refine List.filter_eq_self.2 fun x hx => ?_
      obtain ⟨p, hp, rfl⟩ := List.mem_map.1 hx
      simpa [ChangeMaps.notKey, Lit.sameKey] using hm p hp
    unfold ins
    by_cases hk : k < q.1
    · rw [if_pos hk, hall (m := q :: r) (fun p hp => by
        rcases List.mem_cons.1 hp with rfl | hp
        · omega
        · have := h1 p hp; omega)]
      simp [DataW.insert, Lit.before, hk]
    · rw [if_neg hk]
      by_cases he : q.1 = k
      · rw [if_pos he]
        have hr := hall (m := r) (fun p hp => by have := h1 p hp; omega)
        simp only [List.map_cons]
        rw [List.filter_cons_of_neg (by simp [ChangeMaps.notKey, Lit.sameKey, he]), hr]
        cases r with
        | nil => rfl
        | cons p r' =>
          have := h1 p (by simp)
          simp [DataW.insert, Lit.before, show k < p.1 by omega]
      · rw [if_neg he]
        simp only [List.map_cons]
        rw [List.filter_cons_of_pos (by simp [ChangeMaps.notKey, Lit.sameKey, he])]
        rw [DataW.insert, if_neg (by simp [Lit.before]; omega), ih h2]

theorem toD_del (l : List (Int × Value)) (k : Int) : (toD l).del (.int .i64 k) = toD (del k l) := by
  unfold toD
  rw [DataW.del_eq]
  congr 1
  unfold ChangeMaps.delKey del
  rw [List.filter_map]
  congr 1
  apply List.filter_congr
  intro p _
  simp [ChangeMaps.notKey, Lit.sameKey]

theorem toD_atKey (l : List (Int × Value)) (k : Int) (z : Value) : (toD l).atKey (.int .i64 k) (.held z) = .held ((look k l).getD z) := by
  unfold toD DataW.atKey
  induction l with
  | nil => rfl
  | cons q r ih =>
    simp only [List.map_cons, List.find?_cons, look]
    by_cases he : q.1 = k
    · simp [Lit.sameKey, he]
    · simpa [Lit.sameKey, he] using ih

theorem toD_has (l : List (Int × Value)) (k : Int) : Maps.has (toD l) (.int .i64 k) = (look k l).isSome := by
  unfold toD
  rw [Maps.has_eq]
  induction l with
  | nil => rfl
  | cons q r ih =>
    simp only [List.map_cons, List.any_cons, look]
    by_cases he : q.1 = k
    · simp [Lit.sameKey, he]
    · simpa [Lit.sameKey, he] using ih

theorem toD_size (l : List (Int × Value)) : Maps.size (toD l) = l.length := by simp [toD, Maps.size]

section
variable {P : Program} {kt b : Nat} {w : World} {l : List (Int × Value)}

theorem ownsMap_exact {H : Type} {k : TypeId} {R : Value → Option (DataW H × List MemPlace)} {n : Nat} {D : DataW H} (h : w.ownsMap P k R b n D) : w.ownsMap P k R b (Maps.size D) D := by
  obtain ⟨es, clock, hb, F, hs, rfl⟩ := h
  refine ⟨es, clock, hb, F, ?_, rfl⟩
  simp [Maps.size, length_sorted]

theorem VMap.of_owns {n : Nat} (h : w.ownsMap P kt rawR b n (toD l)) (hs : Srt l) (hk : InK l) : VMap w P kt b l :=
  ⟨by have := ownsMap_exact h; rwa [toD_size] at this, hs, hk⟩

theorem VMap.lt (h : VMap w P kt b l) : b < w.heap.size := h.1.lt

theorem VMap.made (w : World) (P : Program) (kt : Nat) : VMap (w.alloc (.map #[] 0)) P kt w.heap.size [] :=
  ⟨World.ownsMap_made _ _ _ _, srt_nil, by simp [InK]⟩

theorem VMap.same {w' : World} (h : VMap w P kt b l) (hb : w'.heap[b]? = w.heap[b]?) : VMap w' P kt b l := by
  obtain ⟨⟨es, clock, h1, r⟩, h2⟩ := h
  exact ⟨⟨es, clock, hb.trans h1, r⟩, h2⟩

theorem VMap.find {t e : TypeId} (h : VMap w P kt b l) (hkt : P.underlying kt = some (.int .i64)) (ht : P.underlying t = some (.map kt e)) {z : Value} (hz : (zeroValue e).run P w = .ok z w) {k : Int} (hk : in64 k) :
    (Instr.lookup t (.map (some b)) (.int .i64 k) false).run P w = .ok ((look k l).getD z) w := by
  obtain ⟨v, ps, hrun, hv⟩ := h.1.lookup (int_keyed hkt) ht hz (zd := .held z) (zp := []) rfl (keyOf_int_mk hkt (in64_wf hk))
  rw [toD_atKey] at hv
  simp only [rawR, Option.some.injEq, Prod.mk.injEq, DataW.held.injEq] at hv
  rw [hrun, hv.1]

theorem VMap.find_ok {t e : TypeId} (h : VMap w P kt b l) (hkt : P.underlying kt = some (.int .i64)) (ht : P.underlying t = some (.map kt e)) {z : Value} (hz : (zeroValue e).run P w = .ok z w) {k : Int} (hk : in64 k) :
    (Instr.lookup t (.map (some b)) (.int .i64 k) true).run P w = .ok (.tuple #[(look k l).getD z, .bool (look k l).isSome]) w := by
  obtain ⟨v, ps, hrun, hv⟩ := h.1.look_ok (int_keyed hkt) ht hz (zd := .held z) (zp := []) rfl (keyOf_int_mk hkt (in64_wf hk))
  rw [toD_atKey] at hv
  simp only [rawR, Option.some.injEq, Prod.mk.injEq, DataW.held.injEq] at hv
  rw [hrun, hv.1, toD_has]

theorem InK.ins {α : Type} {l : List (Int × α)} (h : InK l) {k : Int} (hk : in64 k) (v : α) : InK (ins k v l) := by
  intro p hp
  rcases mem_ins hp with rfl | hp
  · exact hk
  · exact h p hp

theorem InK.del {α : Type} {l : List (Int × α)} (h : InK l) (k : Int) : InK (del k l) := fun p hp => h p (List.mem_filter.1 hp).1

theorem VMap.put {t e : TypeId} (h : VMap w P kt b l) (hkt : P.underlying kt = some (.int .i64)) (ht : P.underlying t = some (.map kt e)) {k : Int} (hk : in64 k) (v : Value) (hn : l.length < maxLen) :
    ∃ w', (Instr.mapUpdate t (.map (some b)) (.int .i64 k) v).run P w = .ok () w' ∧ VMap w' P kt b (ins k v l) ∧ w.mapTurned w' b := by
  obtain ⟨w', hrun, hown, ht'⟩ := h.1.store (int_keyed hkt) ht hn (keyOf_int_mk hkt (in64_wf hk)) (val := v) (d := .held v) (ps := []) rfl
  rw [toD_put h.2.1] at hown
  exact ⟨w', hrun, VMap.of_owns hown (srt_ins h.2.1) (h.2.2.ins hk v), ht'⟩

theorem VMap.drop {t e : TypeId} (h : VMap w P kt b l) (hkt : P.underlying kt = some (.int .i64)) (ht : P.underlying t = some (.map kt e)) {k : Int} (hk : in64 k) (ty : TypeId) :
    ∃ w', (Builtin.delete_ #[t, kt] ty #[.map (some b), .int .i64 k]).run P w = .ok (.tuple #[]) w' ∧ VMap w' P kt b (del k l) ∧ w.mapTurned w' b := by
  obtain ⟨w', hrun, hown, ht'⟩ := h.1.drop (int_keyed hkt) ht (keyOf_int_mk hkt (in64_wf hk)) ty
  rw [toD_del] at hown
  exact ⟨w', hrun, VMap.of_owns hown (srt_del h.2.1) (h.2.2.del k), ht'⟩

theorem VMap.len {t e : TypeId} (h : VMap w P kt b l) (ht : P.underlying t = some (.map kt e)) (ty : TypeId) :
    (Builtin.len_ #[t] ty #[.map (some b)]).run P w = .ok (.int .i64 l.length) w := by
  rw [h.1.len ht ty, toD_size]

theorem VMap.clear {t e : TypeId} (h : VMap w P kt b l) (ht : P.underlying t = some (.map kt e)) (ty : TypeId) :
    ∃ w', (Builtin.clear_ #[t] ty #[.map (some b)]).run P w = .ok (.tuple #[]) w' ∧ VMap w' P kt b [] ∧ w.mapTurned w' b := by
  obtain ⟨⟨es, clock, hb, F, hs, hD⟩, _, _⟩ := h
  refine ⟨ChangeMaps.setBlock w b (.map #[] clock), ?_, ⟨⟨#[], clock, ChangeMaps.heap_setBlock_same hb _, ⟨by simp, MapKept.stamped_empty clock, by simp⟩, Nat.le_refl _, rfl⟩, srt_nil, by simp [InK]⟩, ⟨es, clock, #[], clock, hb, rfl⟩⟩
  simp [Builtin.clear_, run_underlying ht, MapKept.run_getObj_map hb, MapKept.run_setObj_map _ hb, Result.andThen, ChangeMaps.setBlock]
end

/-! ### at the operation -/
section
variable {P : Program} (w : World) {ops : Array Oper} {rest : List Oper} {o : Oper} {a : Act} {Q : Exit → Act → World → Prop}

theorem wpList_mlook (hg : o.guard = none) (m x : Operand) (t : TypeId) (hop : o.op = Op.lookup t m x false) (kt e b : Nat) (hkt : P.underlying kt = some (.int .i64)) (ht : P.underlying t = some (.map kt e))
    (z : Value) (hz : (zeroValue e).run P w = .ok z w) (l : List (Int × Value)) (hV : VMap w P kt b l) (hm : a.eval m = .map (some b)) (k : Int) (hx : a.eval x = .int .i64 k) (hk : in64 k) (v : Value) (hv : (look k l).getD z = v)
    (hK : wpList P ops Q rest (a.put o.dst v) w) : wpList P ops Q (o :: rest) a w := by
  refine wpList_plain hg fun K' hK' => ?_
  unfold Oper.wp
  simp [execOp, hop, hm, hx, hV.find hkt ht hz hk, Result.andThen, hv]
  exact hK' _ _ hK

theorem wpList_mlook_ok (hg : o.guard = none) (m x : Operand) (t : TypeId) (hop : o.op = Op.lookup t m x true) (kt e b : Nat) (hkt : P.underlying kt = some (.int .i64)) (ht : P.underlying t = some (.map kt e))
    (z : Value) (hz : (zeroValue e).run P w = .ok z w) (l : List (Int × Value)) (hV : VMap w P kt b l) (hm : a.eval m = .map (some b)) (k : Int) (hx : a.eval x = .int .i64 k) (hk : in64 k) (v : Value) (hv : (look k l).getD z = v)
    (c : Bool) (hc : (look k l).isSome = c)
    (hK : wpList P ops Q rest (a.put o.dst (.tuple #[v, .bool c])) w) : wpList P ops Q (o :: rest) a w := by
  refine wpList_plain hg fun K' hK' => ?_
  unfold Oper.wp
  simp [execOp, hop, hm, hx, hV.find_ok hkt ht hz hk, Result.andThen, hv, hc]
  exact hK' _ _ hK

theorem wpList_mput (hg : o.guard = none) (m x y : Operand) (t : TypeId) (hop : o.op = Op.mapUpdate t m x y) (kt e b : Nat) (hkt : P.underlying kt = some (.int .i64)) (ht : P.underlying t = some (.map kt e))
    (l : List (Int × Value)) (hV : VMap w P kt b l) (hn : l.length < maxLen) (hm : a.eval m = .map (some b)) (k : Int) (hx : a.eval x = .int .i64 k) (hk : in64 k) (v : Value) (hv : a.eval y = v)
    (hK : ∀ w', VMap w' P kt b (ins k v l) → w.mapTurned w' b → wpList P ops Q rest (a.put o.dst undef) w') : wpList P ops Q (o :: rest) a w := by
  refine wpList_plain hg fun K' hK' => ?_
  obtain ⟨w', hrun, r1, r2⟩ := hV.put hkt ht hk v hn
  unfold Oper.wp
  simp [execOp, hop, hm, hx, hv, hrun, Result.andThen]
  exact hK' _ _ (hK w' r1 r2)

theorem wpList_mdel (hg : o.guard = none) (m x : Operand) (t kt : TypeId) (hop : o.op = Op.call { callee := Callee.builtin Builtin.delete, args := #[m, x], argTypes := #[t, kt] }) (e b : Nat) (hkt : P.underlying kt = some (.int .i64)) (ht : P.underlying t = some (.map kt e))
    (l : List (Int × Value)) (hV : VMap w P kt b l) (hm : a.eval m = .map (some b)) (k : Int) (hx : a.eval x = .int .i64 k) (hk : in64 k)
    (hK : ∀ w', VMap w' P kt b (del k l) → w.mapTurned w' b → wpList P ops Q rest (a.put o.dst (.tuple #[])) w') : wpList P ops Q (o :: rest) a w := by
  refine wpList_plain hg fun K' hK' => ?_
  obtain ⟨w', hrun, r1, r2⟩ := hV.drop hkt ht hk o.type
  unfold Oper.wp
  simp [execOp, hop, resolve, invoke, builtin, hm, hx, hrun, Result.andThen]
  exact hK' _ _ (hK w' r1 r2)

theorem wpList_mlen (hg : o.guard = none) (m : Operand) (t : TypeId) (hop : o.op = Op.call { callee := Callee.builtin Builtin.len, args := #[m], argTypes := #[t] }) (kt e b : Nat) (ht : P.underlying t = some (.map kt e))
    (l : List (Int × Value)) (hV : VMap w P kt b l) (hm : a.eval m = .map (some b))
    (hK : wpList P ops Q rest (a.put o.dst (.int .i64 l.length)) w) : wpList P ops Q (o :: rest) a w := by
  refine wpList_plain hg fun K' hK' => ?_
  unfold Oper.wp
  simp [execOp, hop, resolve, invoke, builtin, hm, hV.len ht o.type, Result.andThen]
  exact hK' _ _ hK

theorem wpList_mclear (hg : o.guard = none) (m : Operand) (t : TypeId) (hop : o.op = Op.call { callee := Callee.builtin Builtin.clear, args := #[m], argTypes := #[t] }) (kt e b : Nat) (ht : P.underlying t = some (.map kt e))
    (l : List (Int × Value)) (hV : VMap w P kt b l) (hm : a.eval m = .map (some b))
    (hK : ∀ w', VMap w' P kt b [] → w.mapTurned w' b → wpList P ops Q rest (a.put o.dst (.tuple #[])) w') : wpList P ops Q (o :: rest) a w := by
  refine wpList_plain hg fun K' hK' => ?_
  obtain ⟨w', hrun, r1, r2⟩ := hV.clear ht o.type
  unfold Oper.wp
  simp [execOp, hop, resolve, invoke, builtin, hm, hrun, Result.andThen]
  exact hK' _ _ (hK w' r1 r2)
end

/-! ### frames -/

/-- Of what was there all but the blocks of S is as it was. -/
structure Fr (S : Nat → Prop) (w w' : World) : Prop where
  os : w'.os = w.os
  tape : w'.tape = w.tape
  output : w'.output = w.output
  size : w.heap.size ≤ w'.heap.size
  block : ∀ k, k < w.heap.size → ¬ S k → w'.heap[k]? = w.heap[k]?

section
variable {S S' : Nat → Prop} {w w' w1 w2 : World}

theorem Fr.refl (S : Nat → Prop) (w : World) : Fr S w w := ⟨rfl, rfl, rfl, Nat.le_refl _, fun _ _ _ => rfl⟩

theorem Fr.trans (h : Fr S w w1) (k : Fr S' w1 w2) (hs : ∀ b, b < w.heap.size → S' b → S b) : Fr S w w2 :=
  ⟨k.os.trans h.os, k.tape.trans h.tape, k.output.trans h.output, Nat.le_trans h.size k.size, fun i hi hn => (k.block i (Nat.lt_of_lt_of_le hi h.size) (fun e => hn (hs i hi e))).trans (h.block i hi hn)⟩

theorem Fr.mono (h : Fr S w w1) (hs : ∀ b, b < w.heap.size → S b → S' b) : Fr S' w w1 :=
  ⟨h.os, h.tape, h.output, h.size, fun i hi hn => h.block i hi (fun e => hn (hs i hi e))⟩

theorem Fr.alloc (h : Fr S w w1) (o : Obj) : Fr S w (w1.alloc o) :=
  ⟨h.os, h.tape, h.output, Nat.le_trans h.size (by simp), fun i hi hn => (Below.heap_alloc _ _ _ (Nat.lt_of_lt_of_le hi h.size)).trans (h.block i hi hn)⟩

theorem Fr.setCell (h : Fr S w w1) {p : Addr} (hp : S p.block ∨ w.heap.size ≤ p.block) (u : Value) : Fr S w (w1.setCell p u) :=
  ⟨h.os, h.tape, h.output, by simpa [World.setCell] using h.size, fun i hi hn => (Below.heap_setCell _ _ _ _ (fun e => by
    subst e
    rcases hp with hp | hp
    · exact hn hp
    · omega)).trans (h.block i hi hn)⟩

theorem Fr.drew (h : Fr S w w1) : Fr S w w1.drew := ⟨h.os, h.tape, h.output, h.size, h.block⟩

theorem Fr.map (h : Fr S w w1) {b : Nat} (ht : w1.mapTurned w2 b) (hp : S b ∨ w.heap.size ≤ b) : Fr S w w2 := by
  have hg := ht.grown
  exact ⟨hg.os.trans h.os, hg.tape.trans h.tape, hg.output.trans h.output, Nat.le_trans h.size hg.size, fun i hi hn => (hg.block i (Nat.lt_of_lt_of_le hi h.size) (fun e => by
    cases e
    rcases hp with hp | hp
    · exact hn hp
    · omega)).trans (h.block i hi hn)⟩

theorem Fr.grown (h : Fr S w w1) {row : Option Nat} (hg : w1.grownBy w2 row) (hp : ∀ b, row = some b → S b ∨ w.heap.size ≤ b) : Fr S w w2 :=
  ⟨hg.os.trans h.os, hg.tape.trans h.tape, hg.output.trans h.output, Nat.le_trans h.size hg.size, fun i hi hn => (hg.block i (Nat.lt_of_lt_of_le hi h.size) (fun e => by
    rcases hp i e.symm with hp | hp
    · exact hn hp
    · omega)).trans (h.block i hi hn)⟩

theorem Fr.below {B : Nat} (h : Fr S w w1) (hs : ∀ b, S b → B ≤ b) (hB : B ≤ w.heap.size) : Below B w w1 :=
  ⟨h.os, h.tape, h.output, h.size, fun i hi => h.block i (by omega) (fun e => by have := hs i e; omega)⟩

theorem Fr.of_below (h : Below w.heap.size w w1) (S : Nat → Prop) : Fr S w w1 := ⟨h.os, h.tape, h.output, h.size, fun i hi _ => h.block i hi⟩

theorem Fr.to_below (h : Fr (fun _ => False) w w1) : Below w.heap.size w w1 := ⟨h.os, h.tape, h.output, h.size, fun i hi => h.block i hi (fun e => e)⟩

theorem Fr.cell (h : Fr S w w1) {p : Addr} (hp : p.block < w.heap.size) (hn : ¬ S p.block) : w1.cell? p = w.cell? p := World.cell?_of_block (h.block p.block hp hn)
theorem Fr.frozen (h : Fr S w w1) {p : Addr} (hp : p.block < w.heap.size) (hn : ¬ S p.block) : w1.frozen? p = w.frozen? p := World.frozen?_of_block (h.block p.block hp hn)

theorem VMap.fr {P : Program} {kt b : Nat} {l : List (Int × Value)} (h : VMap w P kt b l) (hf : Fr S w w1) (hn : ¬ S b) : VMap w1 P kt b l := h.same (hf.block b h.lt hn)
theorem VMap.alloc {P : Program} {kt b : Nat} {l : List (Int × Value)} (h : VMap w P kt b l) (o : Obj) : VMap (w.alloc o) P kt b l := h.same (Below.heap_alloc _ _ _ h.lt)
theorem VMap.setCell {P : Program} {kt b : Nat} {l : List (Int × Value)} (h : VMap w P kt b l) {p : Addr} (hp : b ≠ p.block) (u : Value) : VMap (w.setCell p u) P kt b l := h.same (Below.heap_setCell _ _ _ _ hp)
theorem VMap.drew {P : Program} {kt b : Nat} {l : List (Int × Value)} (h : VMap w P kt b l) : VMap w.drew P kt b l := h
theorem VMap.turned {P : Program} {kt b b' : Nat} {l : List (Int × Value)} (h : VMap w P kt b l) (ht : w.mapTurned w1 b') (hn : b ≠ b') : VMap w1 P kt b l := h.same (ht.grown.block b h.lt (fun e => hn (by cases e; rfl)))
end

/-! ### a block of cells, known whole -/

/-- Block g is just the cells cs of element type t, none frozen. -/
def Blk (w : World) (g : Nat) (t : TypeId) (cs : List Value) : Prop := w.heap[g]? = some (.cells cs.toArray t (0, 0))

section
variable {w w' w1 : World} {g : Nat} {t : TypeId} {cs : List Value} {S : Nat → Prop}
theorem Blk.lt (h : Blk w g t cs) : g < w.heap.size := (Array.getElem?_eq_some_iff.1 h).1
theorem Blk.cell (h : Blk w g t cs) (i : Nat) : w.cell? ⟨g, i, none⟩ = cs[i]? := by
  unfold Blk at h
  simp [World.cell?, h]
theorem Blk.frozen (h : Blk w g t cs) (i : Nat) : w.frozen? ⟨g, i, none⟩ = false := by
  unfold Blk at h
  simp [World.frozen?, h]
theorem Blk.same (h : Blk w g t cs) (hb : w'.heap[g]? = w.heap[g]?) : Blk w' g t cs := hb.trans h
theorem Blk.new (w : World) (t : TypeId) (cs : List Value) : Blk (w.alloc (.cells cs.toArray t)) w.heap.size t cs := by
  exact heap_alloc_new w _
theorem Blk.drew (h : Blk w g t cs) : Blk w.drew g t cs := h
theorem Blk.alloc (h : Blk w g t cs) (o : Obj) : Blk (w.alloc o) g t cs := h.same (Below.heap_alloc w o g h.lt)
theorem Blk.set_ (h : Blk w g t cs) (i : Nat) (u : Value) : Blk (w.setCell ⟨g, i, none⟩ u) g t (cs.set i u) := by
  unfold Blk at h ⊢
  simp [World.setCell, Array.getElem?_modify, h]
theorem Blk.far (h : Blk w g t cs) {p : Addr} (hp : g ≠ p.block) (u : Value) : Blk (w.setCell p u) g t cs := h.same (Below.heap_setCell w p u g hp)
theorem Blk.fr (h : Blk w g t cs) (hf : Fr S w w1) (hn : ¬ S g) : Blk w1 g t cs := h.same (hf.block g h.lt hn)
theorem Blk.turned {b : Nat} (h : Blk w g t cs) (ht : w.mapTurned w1 b) : Blk w1 g t cs := h.same (ht.grown.block g h.lt (fun e => by
  cases e
  obtain ⟨_, _, _, _, hb, _⟩ := ht
  unfold Blk at h
  rw [h] at hb
  cases hb))
theorem Blk.ne_map {P : Program} {kt b : Nat} {l : List (Int × Value)} (h : Blk w g t cs) (hV : VMap w P kt b l) : g ≠ b := by
  rintro rfl
  obtain ⟨⟨es, clock, hb, _⟩, _⟩ := hV
  unfold Blk at h
  rw [h] at hb
  cases hb
theorem Blk.ne_ {g' : Nat} {t' : TypeId} {cs' : List Value} (h : Blk w g t cs) (h' : Blk w g' t' cs') (hne : t ≠ t') : g ≠ g' := by
  rintro rfl
  unfold Blk at h h'
  rw [h] at h'
  injection h' with h'
  injection h' with _ ht
  exact hne ht
theorem Blk.below {B : Nat} (h : Blk w g t cs) (hb : Below B w w') (hg : g < B) : Blk w' g t cs := h.same (hb.block g hg)
end

/-- A slice of structs of m whole numbers each, that lies below block B. -/
def ActsAt (w : World) (B m : Nat) (A : Option Addr) (n : Nat) (f : Nat → Nat → Int) : Prop :=
  ∀ i, i < n → ∃ b off, A = some ⟨b, off, none⟩ ∧ b < B ∧ ∀ j, j < m → in64 (f i j) ∧ w.cell? ⟨b, off + i * m + j, none⟩ = some (.int .i64 (f i j))


/-- A slice of structs of m one-cell fields that lies below block B: its cells. -/
def CellsAt (w : World) (B m : Nat) (A : Option Addr) (n : Nat) (ok : Nat → Value → Prop) : Prop :=
  ∀ i, i < n → ∃ b off, A = some ⟨b, off, none⟩ ∧ b < B ∧ ∀ j, j < m → ∃ v, ok j v ∧ w.cell? ⟨b, off + i * m + j, none⟩ = some v

def okInts (_ : Nat) (v : Value) : Prop := ∃ x, v = .int .i64 x ∧ in64 x

open Classical in
theorem acts_of_cells {w : World} {B m : Nat} {A : Option Addr} {n : Nat} (h : CellsAt w B m A n okInts) : ∃ f, ActsAt w B m A n f := by
  refine ⟨fun i j => if h : ∃ x b off, A = some ⟨b, off, none⟩ ∧ in64 x ∧ w.cell? ⟨b, off + i * m + j, none⟩ = some (.int .i64 x) then h.choose else 0, fun i hi => ?_⟩
  obtain ⟨b, off, rfl, hb, hc⟩ := h i hi
  refine ⟨b, off, rfl, hb, fun j hj => ?_⟩
  obtain ⟨v, ⟨x, rfl, hx⟩, hv⟩ := hc j hj
  have hex : ∃ y b' off', (some ⟨b, off, none⟩ : Option Addr) = some ⟨b', off', none⟩ ∧ in64 y ∧ w.cell? ⟨b', off' + i * m + j, none⟩ = some (.int .i64 y) := ⟨x, b, off, rfl, hx, hv⟩
  dsimp only
  rw [dif_pos hex]
  obtain ⟨b', off', e, h1, h2⟩ := hex.choose_spec
  cases e
  exact ⟨h1, h2⟩

end Go.Proofs.Ytofnenemjbccgaa
