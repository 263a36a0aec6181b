/- Who waits for whom: leads. -/
import Derived.Test.YtofnenemjbccgaaKnotG
import Derived.Laws.AppendOwn
import Derived.Laws.OwnMore
namespace Go.Proofs.Ytofnenemjbccgaa
open Go.Maps Go.RowKit

/-! ### plain -/
/-- k: where it began; S: what was seen; T: what is to do; P: the edges that are still to be looked at. -/
structure DInv (E : ES) (k : Int) (S : Int → Prop) (T : List Int) (P : Int → Int → Prop) : Prop where
  todo : ∀ x ∈ T, x = k ∨ S x
  way : ∀ x, S x → Pth E k x
  done : ∀ x, x = k ∨ S x → x ∉ T → ∀ y, (x, y) ∈ E → (S y ∧ y ≠ k) ∨ P x y

section
variable {E : ES} {k : Int} {S : Int → Prop} {T : List Int} {P : Int → Int → Prop} {at_ z : Int} {lf : Int → Bool}

theorem DInv.start : DInv E k (fun _ => False) [k] (fun _ _ => False) :=
  ⟨fun x hx => .inl (by simpa using hx), fun _ h => h.elim, fun x hx hn => by rcases hx with rfl | h; exact absurd (by simp) hn; exact h.elim⟩

theorem DInv.pop (h : DInv E k S (T ++ [at_]) (fun _ _ => False)) : DInv E k S T (fun x _ => x = at_) ∧ (at_ = k ∨ S at_) :=
  ⟨⟨fun x hx => h.todo x (by simp [hx]), h.way, fun x hx hn y hy => by
    by_cases e : x = at_
    · exact .inr e
    · rcases h.done x hx (by simp [hn, e]) y hy with g | g
      · exact .inl g
      · exact g.elim⟩, h.todo at_ (by simp)⟩

theorem DInv.weaken {P' : Int → Int → Prop} (h : DInv E k S T P) (hp : ∀ x y, (x, y) ∈ E → P x y → (S y ∧ y ≠ k) ∨ P' x y) : DInv E k S T P' :=
  ⟨h.todo, h.way, fun x hx hn y hy => by
    rcases h.done x hx hn y hy with g | g
    · exact .inl g
    · exact hp x y hy g⟩

theorem DInv.seen (h : DInv E k S T (fun x y => x = at_ ∧ lf y = true)) (hz : S z) (hk : z ≠ k) : DInv E k S T (fun x y => x = at_ ∧ (lf y && y != z) = true) :=
  h.weaken fun x y _ ⟨h1, h2⟩ => by
    by_cases e : y = z
    · subst e; exact .inl ⟨hz, hk⟩
    · exact .inr ⟨h1, by simp [h2, e]⟩

theorem DInv.reach (h : DInv E k S T P) (ha : at_ = k ∨ S at_) (he : (at_, z) ∈ E) : Pth E k z := by
  rcases ha with rfl | ha
  · exact .one he
  · exact (h.way _ ha).trans (.one he)

theorem DInv.fresh (h : DInv E k S T (fun x y => x = at_ ∧ lf y = true)) (ha : at_ = k ∨ S at_) (he : (at_, z) ∈ E) (hk : z ≠ k) {S' : Int → Prop} (hS : ∀ x, S' x ↔ S x ∨ x = z) : DInv E k S' (T ++ [z]) (fun x y => x = at_ ∧ (lf y && y != z) = true) := by
  refine ⟨fun x hx => ?_, fun x hx => ?_, fun x hx hn y hy => ?_⟩
  · rcases List.mem_append.1 hx with hx | hx
    · rcases h.todo x hx with e | e
      · exact .inl e
      · exact .inr ((hS x).2 (.inl e))
    · exact .inr ((hS x).2 (.inr (by simpa using hx)))
  · rcases (hS x).1 hx with e | rfl
    · exact h.way x e
    · exact h.reach ha he
  · have hnT : x ∉ T := fun e => hn (by simp [e])
    have hxz : x ≠ z := fun e => hn (by simp [e])
    have hx' : x = k ∨ S x := by
      rcases hx with e | e
      · exact .inl e
      · rcases (hS x).1 e with e | e
        · exact .inr e
        · exact absurd e hxz
    rcases h.done x hx' hnT y hy with ⟨g1, g2⟩ | ⟨g1, g2⟩
    · exact .inl ⟨(hS y).2 (.inl g1), g2⟩
    · by_cases e : y = z
      · subst e; exact .inl ⟨(hS y).2 (.inr rfl), hk⟩
      · exact .inr ⟨g1, by simp [g2, e]⟩

theorem DInv.fin (h : DInv E k S [] (fun _ _ => False)) : ¬ Pth E k k :=
  no_way (S := S) fun x hx y hy => by
    rcases h.done x hx (by simp) y hy with g | g
    · exact g
    · exact g.elim
end

theorem nodup_len {l : List Int} (hn : l.Nodup) : ∀ {T : List Int}, (∀ x ∈ l, x ∈ T) → l.length ≤ T.length := by
  induction l with
  | nil => intro T _; simp
  | cons a r ih =>
    intro T h
    obtain ⟨h1, h2⟩ := List.nodup_cons.1 hn
    have ha := h a (by simp)
    have := ih h2 (T := T.erase a) fun x hx => (List.mem_erase_of_ne (fun e => h1 (by rw [← e]; exact hx))).2 (h x (by simp [hx]))
    rw [List.length_erase_of_mem ha] at this
    have := List.length_pos_of_mem ha
    simp only [List.length_cons]
    omega

theorem keys_len {α : Type} {S : List (Int × α)} {E : ES} (hs : Srt S) (h : ∀ x v, look x S = some v → ∃ c, (c, x) ∈ E) : S.length ≤ E.length := by
  have h1 : (S.map (·.1)).Nodup := by
    unfold List.Nodup
    rw [List.pairwise_map]
    exact hs.imp fun {a b} h => by omega
  have := nodup_len h1 (T := E.map (·.2)) fun x hx => by
    obtain ⟨p, hp, rfl⟩ := List.mem_map.1 hx
    obtain ⟨c, hc⟩ := h p.1 p.2 (look_of_mem hs hp)
    exact List.mem_map.2 ⟨(c, p.1), hc, rfl⟩
  simpa using this

/-! ### rows -/
theorem infoInt : (Try.prog.info? 3).map (fun i => (i.zero, i.size, i.bytes)) = some (some (.int .i64 0), 1, 8) := by kernel_rfl

def ivs (l : List Int) : List Value := l.map fun x => .int .i64 x

theorem row_fr {W W' : World} {S : Nat → Prop} {base : Nat} {e : TypeId} {size : Nat} {v : Value} {n : Nat} {xs : List Value} (h : W.ownsRow base e size v n xs) (hF : Fr S W W') (hn : ∀ g cs, base ≤ g → Blk W g e cs → ¬ S g) : W'.ownsRow base e size v n xs := by
  refine ⟨h.1, h.2.imp id ?_⟩
  rintro ⟨g, cap, cur, r1, r2, r3, r4⟩
  exact ⟨g, cap, cur, r1, r2, (hF.block g (Array.getElem?_eq_some_iff.1 r3).1 (hn g cur.toList r2 r3)).trans r3, r4⟩

/-- the last is dropped -/
theorem row_pop {W : World} {base : Nat} {e : TypeId} {g n cap : Nat} {xs : List Value} {x : Value} (h : W.ownsRow base e 1 (.slice (some ⟨g, 0, none⟩) (n + 1) cap) (n + 1) (xs ++ [x])) : W.ownsRow base e 1 (.slice (some ⟨g, 0, none⟩) n cap) n xs := by
  obtain ⟨h0, h1⟩ := h
  have hl : xs.length = n := by simp at h0; omega
  refine ⟨by omega, .inr ?_⟩
  rcases h1 with ⟨e, _⟩ | ⟨g', cap', cur, r1, r2, r3, r4, r5, r6, r7⟩
  · cases e
  · cases r1
    refine ⟨g, cap, cur, rfl, r2, r3, by omega, r5, r6, ?_⟩
    have := congrArg (List.take (n * 1)) r7
    rw [List.take_take] at this
    rw [show min (n * 1) ((n + 1) * 1) = n * 1 by omega] at this
    rw [this, List.take_append_of_le_length (by omega), List.take_of_length_le (by omega)]

theorem row_some {W : World} {base : Nat} {e : TypeId} {size : Nat} {v : Value} {n : Nat} {xs : List Value} (h : W.ownsRow base e size v (n + 1) xs) : ∃ g cap, v = .slice (some ⟨g, 0, none⟩) (n + 1) cap ∧ base ≤ g ∧ n + 1 ≤ cap ∧ cap ≤ maxLen := by
  rcases h.2 with ⟨_, h0⟩ | ⟨g, cap, _, rfl, r2, _, r4, r5, _⟩
  · omega
  · exact ⟨g, cap, rfl, r2, r4, r5⟩

theorem news1 (W : World) (x : Int) : ∀ (j : Nat) (u : Value), [Value.int .i64 x][j]? = some u → (W.alloc (.cells #[.int .i64 x] 3)).cell? ((⟨W.heap.size, 0, none⟩ : Addr).add j) = some u := fun j u hu => by
  have := (Blk.new W 3 [.int .i64 x]).cell j
  rw [hu] at this
  rw [← this]
  congr 1
  unfold Addr.add
  by_cases h1 : j = 0 <;> simp [h1]

theorem one1 (x : Int) : ∀ u ∈ [Value.int .i64 x], u.oneCell' = true := by
  intro u hu
  simp only [List.mem_cons, List.not_mem_nil, or_false] at hu
  subst hu; rfl

end Go.Proofs.Ytofnenemjbccgaa
