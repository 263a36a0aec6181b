/- The purse's reference: Ask and Take. -/
import Derived.Test.YtejjfhgfhileeaaRefP
namespace Go.Proofs.Ytejjfhgfhileeaa
open Go.Maps Go.RowKit

section
variable (w0 w : World) (ub : Nat) (q : PS)

theorem refAsk_calls (hw0 : Fr (fun _ => False) w0 w) (hub : w0.heap.size ≤ ub) (hR : IsRefP w0 w ub q.l) (hI : PInv q) (hn : q.l.length ≤ 1000000) (who n room : Int) (hr : in64 room) :
    Calls Try.prog 13 #[.pointer (some ⟨ub, 0, none⟩), .int .i64 who, .int .i64 n, .int .i64 room] w fun e w' => e = .returned (.bool (pCan q n room)) ∧ IsRefP w0 w' ub (pAsk q who n room).l ∧ Fr (fun b => b = ub) w w' := by
  have hsum := refSum_calls w0 w ub q.l hR hn hI.pos (by have := hI.sum; have := hI.top; omega)
  rw [← hI.sum] at hsum
  have hof := refOf_calls w0 w ub q.l hR hn who
  have htop := hI.top
  have hlow : 0 ≤ q.s := by have := pLen hI; omega
  unfold in64 at hr
  have hno : pCan q n room = false → IsRefP w0 w ub (pAsk q who n room).l ∧ Fr (fun b => b = ub) w w := fun h => by
    have : pAsk q who n room = q := by unfold pAsk; rw [h]; rfl
    rw [this]
    exact ⟨hR, Fr.refl _ _⟩
  have HNO := Lib.hid hno
  clear hno
  cases hc : pCan q n room with
  | false =>
    have HNO := Lib.hid (HNO.out hc)
    simp only [pCan, decide_eq_false_iff_not] at hc
    by_cases h1 : n < 1
    · clear hc hsum hof hR
      go_enter Try.func13, Try.ntmps13
      go_wp2_with fail
      go_ret
      exact ⟨rfl, HNO.out⟩
    · by_cases h2 : 1048576 < n
      · clear hc hsum hof hR
        go_enter Try.func13, Try.ntmps13
        go_wp2_with fail
        go_ret
        exact ⟨rfl, HNO.out⟩
      · by_cases h3 : room < n
        · clear hc hsum hof hR
          go_enter Try.func13, Try.ntmps13
          go_wp2_with fail
          go_ret
          exact ⟨rfl, HNO.out⟩
        · have h4 : room - n < q.s := by omega
          clear hc hof hR
          go_enter Try.func13, Try.ntmps13
          go_wp2_with (go_at_call 16; refine hsum.mono ?_; rintro e w' ⟨rfl, rfl⟩)
          go_ret
          exact ⟨rfl, HNO.out⟩
  | true =>
    have hc' := hc
    simp only [pCan, decide_eq_true_eq] at hc'
    obtain ⟨h1, h2, h3, h4⟩ := hc'
    have h5 : ¬ n < 1 := by omega
    have h6 : ¬ (1048576 : Int) < n := by omega
    have h7 : ¬ room < n := by omega
    have h8 : ¬ room - n < q.s := by omega
    have hb := pOf_bd hI who
    have hset := refSet_calls w0 w ub q.l hw0 hub hR hn who ((look who q.l).getD 0 + n)
    have hE : setEnd who ((look who q.l).getD 0 + n) q.l = (pAsk q who n room).l := by
      rw [setEnd_eq hI.srt, if_neg (by unfold pOf at hb; omega)]
      unfold pAsk
      rw [if_pos hc]
      rfl
    rw [hE] at hset
    have HSET := Lib.hid hset
    unfold pOf at hb
    obtain ⟨b1, b2⟩ := hb
    clear hset hE HNO hc hR
    go_enter Try.func13, Try.ntmps13
    go_wp2_with (first | (go_at_call 16; refine hsum.mono ?_; clear hsum; rintro e w' ⟨rfl, rfl⟩) | (go_at_call 15; refine hof.mono ?_; clear hof; rintro e w' ⟨rfl, rfl⟩) | (go_at_call 18; refine HSET.out.mono ?_; rintro e w' ⟨rfl, hRz, hFz⟩))
    go_ret
    exact ⟨rfl, hRz, hFz⟩

theorem refTake_calls (hw0 : Fr (fun _ => False) w0 w) (hub : w0.heap.size ≤ ub) (hR : IsRefP w0 w ub q.l) (hI : PInv q) (hn : q.l.length ≤ 1000000) (who n : Int) :
    Calls Try.prog 14 #[.pointer (some ⟨ub, 0, none⟩), .int .i64 who, .int .i64 n] w fun e w' => e = .returned (.int .i64 (pTook q who n)) ∧ IsRefP w0 w' ub (pTake q who n).l ∧ Fr (fun b => b = ub) w w' := by
  have hof := refOf_calls w0 w ub q.l hR hn who
  have hb := pOf_bd hI who
  have htop := hI.top
  by_cases h1 : n < 1
  · have ht : pTook q who n = 0 := by unfold pTook; omega
    have hq : pTake q who n = q := by unfold pTake; rw [if_pos ht]
    rw [ht, hq]
    clear hof
    go_enter Try.func14, Try.ntmps14
    go_wp2_with fail
    go_ret
    exact ⟨rfl, hR, Fr.refl _ _⟩
  · have hE : ∀ m, m = min n (pOf q who) → pTook q who n = m ∧ setEnd who (pOf q who - m) q.l = (pTake q who n).l := by
      rintro m rfl
      have ht : pTook q who n = min n (pOf q who) := by unfold pTook; omega
      refine ⟨ht, ?_⟩
      rw [setEnd_eq hI.srt]
      unfold pTake
      rw [ht]
      by_cases h0 : min n (pOf q who) = 0
      · have hz : pOf q who = 0 := by omega
        rw [if_pos h0, if_pos (by omega)]
        refine del_of_none ?_
        cases e : look who q.l with
        | none => rfl
        | some v =>
          have := hI.pos _ (mem_of_look e)
          unfold pOf at hz
          rw [e] at hz
          simp at hz this
          omega
      · rw [if_neg h0]
        show _ = if _ then _ else _
        split
        · rw [del_ins _ _ _ hI.srt]
        · rfl
    have hset := fun m => refSet_calls w0 w ub q.l hw0 hub hR hn who m
    have HSET := Lib.hid hset
    have HE := Lib.hid hE
    have hof' : Calls Try.prog 15 #[.pointer (some ⟨ub, 0, none⟩), .int .i64 who] w fun e w' => e = .returned (.int .i64 (pOf q who)) ∧ w = w' := hof
    obtain ⟨b1, b2⟩ := hb
    clear hset hE hof hR
    generalize pOf q who = has at b1 b2 HE hof'
    by_cases h2 : has < n
    · obtain ⟨e1, e2⟩ := HE.out has (by omega)
      have hs := HSET.out (has - has)
      rw [e2] at hs
      have h0 : has - has = 0 := by omega
      rw [h0] at hs
      have HS := Lib.hid hs
      rw [e1]
      clear hs h0 e1 e2 HE HSET
      go_enter Try.func14, Try.ntmps14
      go_wp2_with (first | (go_at_call 15; refine hof'.mono ?_; clear hof'; rintro e w' ⟨rfl, rfl⟩) | (go_at_call 18; refine HS.out.mono ?_; rintro e w' ⟨rfl, hRz, hFz⟩))
      go_ret
      exact ⟨rfl, hRz, hFz⟩
    · obtain ⟨e1, e2⟩ := HE.out n (by omega)
      have hs := HSET.out (has - n)
      rw [e2] at hs
      have HS := Lib.hid hs
      rw [e1]
      clear hs e1 e2 HE HSET
      go_enter Try.func14, Try.ntmps14
      go_wp2_with (first | (go_at_call 15; refine hof'.mono ?_; clear hof'; rintro e w' ⟨rfl, rfl⟩) | (go_at_call 18; refine HS.out.mono ?_; rintro e w' ⟨rfl, hRz, hFz⟩))
      go_ret
      exact ⟨rfl, hRz, hFz⟩
end

end Go.Proofs.Ytejjfhgfhileeaa
