/- PurseRows, plainly: the sum, the last name, and who comes when a purse is gone over. -/
import Derived.Test.YtejjfhgfhileeaaPurseAwake
import Derived.Test.YtejjfhgfhileeaaAllX
namespace Go.Proofs.Ytejjfhgfhileeaa
open Go.Maps Go.RowKit

def plast (pre : List (Int × Int)) : Int := match pre.getLast? with | some x => kclip x.1 | none => 0
def psum (pre : List (Int × Int)) : Int := pre.foldl (fun s x => wrap64 (s + kclip x.2)) 0

theorem plast_snoc (pre : List (Int × Int)) (x : Int × Int) : plast (pre ++ [x]) = kclip x.1 := by simp [plast]
theorem psum_snoc (pre : List (Int × Int)) (x : Int × Int) : psum (pre ++ [x]) = wrap64 (psum pre + kclip x.2) := by simp [psum]

theorem psum_from {l : List (Int × Int)} (h : ∀ p ∈ l, in64 p.2 ∧ 1 ≤ p.2) : ∀ s : Int, 0 ≤ s → s + total l ≤ 9223372036854775807 → l.foldl (fun s x => wrap64 (s + kclip x.2)) s = s + total l := by
  induction l with
  | nil => intro s _ _; simp [total]
  | cons p r ih =>
    intro s hs ht
    obtain ⟨h1, h2⟩ := h p (by simp)
    have hr : ∀ p ∈ r, 1 ≤ p.2 := fun p hp => (h p (by simp [hp])).2
    have h3 := total_nonneg hr
    have ht' : total (p :: r) = p.2 + total r := rfl
    rw [ht'] at ht ⊢
    rw [List.foldl_cons, kclip_eq h1, IntWalk.wrap64_in (s + p.2) ⟨by omega, by omega⟩, ih (fun p hp => h p (by simp [hp])) _ (by omega) (by omega)]
    omega

theorem pin64 {q : PS} (hI : PInv q) : ∀ p ∈ q.l, in64 p.2 ∧ 1 ≤ p.2 := by
  intro p hp
  have h1 := hI.pos p hp
  have hl := look_of_mem hI.srt (k := p.1) (v := p.2) hp
  have h2 := pOf_bd hI p.1
  unfold pOf at h2
  rw [hl] at h2
  simp at h2
  have := hI.top
  exact ⟨by unfold in64; omega, h1⟩

theorem psum_all {q : PS} (hI : PInv q) : psum q.l = q.s := by
  have := psum_from (pin64 hI) 0 (by omega) (by have := hI.top; have := hI.sum; omega)
  unfold psum
  rw [this, hI.sum]
  omega

theorem psum_bd (pre : List (Int × Int)) : in64 (psum pre) := by
  rcases List.eq_nil_or_concat pre with rfl | ⟨l, x, rfl⟩
  · unfold psum in64; simp
  · rw [List.concat_eq_append, psum_snoc]
    unfold in64 wrap64
    omega

/-- whoever comes as he must -/
theorem pcome {q : PS} (hI : PInv q) {pre : List (Int × Int)} {x : Int × Int} (h : pre ++ [x] <+: q.l) :
    kclip x.1 = x.1 ∧ kclip x.2 = x.2 ∧ 1 ≤ x.2 ∧ pOf q x.1 = x.2 ∧ (pre ≠ [] → plast pre < x.1) := by
  obtain ⟨rest, hr⟩ := h
  have hx : x ∈ q.l := by rw [← hr]; simp
  obtain ⟨h1, h2⟩ := pin64 hI x hx
  have h3 := hI.ink x hx
  refine ⟨kclip_eq h3, kclip_eq h1, h2, ?_, fun hne => ?_⟩
  · unfold pOf
    rw [look_of_mem hI.srt (k := x.1) (v := x.2) hx]
    rfl
  · rcases List.eq_nil_or_concat pre with rfl | ⟨l, y, rfl⟩
    · exact absurd rfl hne
    · rw [List.concat_eq_append] at hr ⊢
      rw [plast_snoc]
      have hy : y ∈ q.l := by rw [← hr]; simp
      rw [kclip_eq (hI.ink y hy)]
      have hs := hI.srt
      rw [← hr] at hs
      unfold Srt at hs
      rw [List.append_assoc, List.append_assoc, List.pairwise_append] at hs
      have := (List.pairwise_append.1 hs.2.1).2.2 y (by simp) x (by simp)
      exact this

/-- Where PurseRows' loop stands when pre has come. -/
structure GoP (w6 : World) (ob sb lb nb : Nat) (pre : List (Int × Int)) (W : World) : Prop where
  fr : Fr (fun b => b = ob ∨ b = sb ∨ b = lb ∨ b = nb) w6 W
  o : Blk W ob 4 [.bool false]
  s : Blk W sb 3 [.int .i64 (psum pre)]
  l : Blk W lb 3 [.int .i64 (plast pre)]
  n : Blk W nb 3 [.int .i64 (pre.length : Int)]

theorem GoP.grown {w6 : World} {ob sb lb nb : Nat} {pre : List (Int × Int)} {W W' : World} {row : Option Nat} (h : GoP w6 ob sb lb nb pre W) (h1 : ob < w6.heap.size) (h2 : sb < w6.heap.size) (h3 : lb < w6.heap.size) (h4 : nb < w6.heap.size)
    (hg : W.grownBy W' row) (hr : ∀ r, row = some r → w6.heap.size ≤ r ∧ ∃ o : Obj, W.heap[r]? = some o ∧ o.isCells = false) : GoP w6 ob sb lb nb pre W' := by
  have hF' : Fr (fun b => w6.heap.size ≤ b) W W' := (Fr.refl _ W).grown hg (fun b hb => .inl (hr b hb).1)
  exact ⟨h.fr.grown hg (fun b hb => .inr (hr b hb).1), h.o.fr hF' (by omega), h.s.fr hF' (by omega), h.l.fr hF' (by omega), h.n.fr hF' (by omega)⟩

end Go.Proofs.Ytejjfhgfhileeaa
