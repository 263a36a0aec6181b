/- A region that draws its order and only reads, in a round of a loop over a function: one walk in the order of the text. -/
import Derived.Sort.BigQuietIn
import Derived.TacticsIn
namespace Go.Proofs.Ytejjfhgfhileeaa
open Go

section
variable {F : Fence} {n : Nat} {P : Program} {ops : Array Oper} {md : Region.Mode} {C : World → Prop}

/-- no operation defers -/
def plainOps (ops : Array Oper) : Bool := ops.all fun o => match o.op with | .defer _ => false | _ => true

theorem plainOps_at (h : plainOps ops = true) {i : Nat} {o : Oper} (hi : ops[i]? = some o) : ∀ c, o.op ≠ .defer c := by
  intro c e
  unfold plainOps at h
  rw [Array.all_eq_true] at h
  obtain ⟨hlt, he⟩ := Array.getElem?_eq_some_iff.1 hi
  have := h i hlt
  rw [he, e] at this
  cases this

theorem round_op {i : Nat} {a : Act} {K : Act → Prop} {K' : Act → World → Prop} {Q' : Exit → Act → World → Prop} {w : World} (hp : plainOps ops = true) (hC : C w) (h : ∀ a w', C w' → K a → K' a w')
    (hh : qOpIn F n P ops C i K a) : wpOpIn F n P ops Q' i K' a w := by
  unfold qOpIn at hh
  unfold wpOpIn
  split
  · rename_i ho
    simp only [ho] at hh
    exact h _ _ hC hh
  · rename_i o ho
    simp only [ho] at hh
    obtain ⟨ha, hh⟩ := hh
    split
    · rename_i hw
      simp only [hw, if_true] at hh
      obtain ⟨v, h1, h2⟩ := hh
      have h3 := h1 w hC
      unfold Oper.quietAtIn at h3
      unfold Oper.wpIn
      refine ⟨ha w hC, ?_⟩
      rw [Oper.semAt_eq F.round _ _ (plainOps_at hp ho)]
      generalize (execOp a.eval o).run P w = r at h3
      cases r with
      | halt x w' => simp only [Oper.quietUponIn] at h3
      | ok x w' =>
        cases x <;> simp only [Oper.quietUponIn] at h3 <;> simp only [Oper.uponIn]
        case value u =>
          obtain ⟨rfl, rfl⟩ := h3
          exact h _ _ hC h2
        case skip =>
          obtain ⟨rfl, rfl⟩ := h3
          exact h _ _ hC h2
        case enter f args =>
          obtain ⟨rfl, hd, hc⟩ := h3
          exact ⟨hd, hc.mono fun e w'' ⟨he, hw''⟩ => by subst he; exact h _ _ hw'' h2⟩
    · rename_i hw
      simp only [hw] at hh
      exact ⟨ha w hC, h _ _ hC hh⟩

theorem round_any {Q : Act → Prop} {Q' : Exit → Act → World → Prop} (hp : plainOps ops = true) (hQ : ∀ a w, C w → Q a → Q' .normal a w) (fuel : Nat) : ∀ (listed : Array Bool) (a : Act) (w : World), C w →
    wpAnyQIn F n P md ops C Q fuel listed a → wpAnyIn F n P md ops Q' fuel listed a w := by
  induction fuel with
  | zero => exact fun _ _ _ hw h => ⟨h.1, hQ _ _ hw h.2⟩
  | succ fuel ih => exact fun _ _ _ hw h => ⟨fun h0 => hQ _ _ hw (h.1 h0), fun i hi => round_op hp hw (fun a' w' hw' hk => ih _ a' w' hw' hk) (h.2 i hi)⟩

theorem wpIn_region_round {id : Nat} {Q : Exit → Act → World → Prop} {a : Act} {w : World} {l : List Oper} (hp : plainOps l.toArray = true) (hm : P.follows .mixedOrders = true) (hB : Region.lexB .any l.toArray = true)
    (h : wpQuietIn F n P l.toArray (fun w' => ∃ n, w' = w.drewN n) (fun a' => ∀ w', (∃ n, w' = w.drewN n) → Q .normal a' w') l a) : (Code.region id l.toArray true).wpIn F n P Q a w := by
  simp only [Region.lexB, Bool.and_eq_true] at hB
  refine wpIn_region_any hm (round_any (C := fun w' => ∃ n, w' = w.drewN n) (Q := fun a' => ∀ w', (∃ n, w' = w.drewN n) → Q .normal a' w') hp (fun _ w' hw' h => h w' hw') _ _ _ _ ⟨1, rfl⟩ ?_)
  have := wpAnyQIn_lex (F := F) (n := n) (P := P) (ops := l.toArray) (C := fun w' => ∃ n, w' = w.drewN n) (Q := fun a' => ∀ w', (∃ n, w' = w.drewN n) → Q .normal a' w') (md := .any) hB.1 l 0 (Array.replicate l.toArray.size false) a (by simp) (by simpa using hB.2) h
  simpa using this
end

end Go.Proofs.Ytejjfhgfhileeaa
