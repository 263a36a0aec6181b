/-
  No cell of these rows narrows 'for every input' (looked for: loops, veiled, ifaces, maps, wideKeys, modest, calm, conditions, laid).
  DERIVED. THE GIVEN ROWS OF THIS SEAT. 5 by the template 'for every input the law returns true; each argument reads behind the call as it read before'; 0 by the template 'total and deterministic' (their statements: YtofnenemjbccgaaTotals.lean).
  GIVEN WITH THE SEED: the statements are not yours to turn. If you find one false, say at which input.
  Laid BY PROGRAM, IN A SANDBOX (cutbox-rows.mjs): the forced cells as the released guide's own fill.sh prints them over the translation 1f6cdecb72fc23e2… (all of the seat's roots in one cut). By AI agents, Wed Nov 11 2026. No macro, syntax, notation, axiom, sorry.
-/
import Derived.Test.YtofnenemjbccgaaChecked
import GoSem.Claim
import GoSem.ClaimJoined
import GoSem.ClaimMapViews
import Derived.JoinedTies
import Derived.KernelRfl
namespace Go.Proofs.Ytofnenemjbccgaa
/- THE CELL 'sum', in the pinned program and in every row, IS THE sha256 OF THE DUMP (.gsa) THAT YtofnenemjbccgaaProg.lean LOADS. Nothing in Lean hashes anything: it is a label: what it is worth is what the hold of that sum in a sandbox is worth. -/
noncomputable def Try.pinned : Pinned := { name := "ytofnenemjbccgaa", sum := "1f6cdecb72fc23e2958a72cbd4677b43943bd779a1206cdfa86c62e2e124ce07", checked := Try.checked }
namespace Rows
def none {H : Type} : Left H := { results := [], args := [] }

/-- 'seneschallaw15.KnotExact': WHATEVER THE INPUT: true; the input reads as it did. -/
def knotExactSpec : ChangeSpec := { name := "knotExact", fn := fun _ => fun
  | [d] => { results := [.lit (.bool true)], args := [d] }
  | _ => none }
def knotExactRow : OpenClaim := { program := "ytofnenemjbccgaa", sum := "1f6cdecb72fc23e2958a72cbd4677b43943bd779a1206cdfa86c62e2e124ce07", func := "seneschal/seneschallaw15.KnotExact", spec := "knotExact", unfollowed := true, recurses := true, apart := false }
def KnotExactSaid : Prop := knotExactRow.holds Try.pinned (OpenSpec.ofChange knotExactSpec)

/-- ITS FALSE NEIGHBOUR: 'it returns false'. Refute it at one input. -/
def knotExactWrong : ChangeSpec := { name := "knotExact", fn := fun _ => fun
  | [d] => { results := [.lit (.bool false)], args := [d] }
  | _ => none }
def KnotExactWrongFalsely : Prop := knotExactRow.holds Try.pinned (OpenSpec.ofChange knotExactWrong)

/-- 'seneschallaw15.KnotFrees': WHATEVER THE INPUT: true; the input reads as it did. -/
def knotFreesSpec : ChangeSpec := { name := "knotFrees", fn := fun _ => fun
  | [d] => { results := [.lit (.bool true)], args := [d] }
  | _ => none }
def knotFreesRow : OpenClaim := { program := "ytofnenemjbccgaa", sum := "1f6cdecb72fc23e2958a72cbd4677b43943bd779a1206cdfa86c62e2e124ce07", func := "seneschal/seneschallaw15.KnotFrees", spec := "knotFrees", unfollowed := true, recurses := true, apart := false }
def KnotFreesSaid : Prop := knotFreesRow.holds Try.pinned (OpenSpec.ofChange knotFreesSpec)

/-- ITS FALSE NEIGHBOUR: 'it returns false'. Refute it at one input. -/
def knotFreesWrong : ChangeSpec := { name := "knotFrees", fn := fun _ => fun
  | [d] => { results := [.lit (.bool false)], args := [d] }
  | _ => none }
def KnotFreesWrongFalsely : Prop := knotFreesRow.holds Try.pinned (OpenSpec.ofChange knotFreesWrong)

/-- 'seneschallaw15.KnotTurns': WHATEVER THE INPUT: true; the input reads as it did. -/
def knotTurnsSpec : ChangeSpec := { name := "knotTurns", fn := fun _ => fun
  | [d1, d2, d3] => { results := [.lit (.bool true)], args := [d1, d2, d3] }
  | _ => none }
def knotTurnsRow : OpenClaim := { program := "ytofnenemjbccgaa", sum := "1f6cdecb72fc23e2958a72cbd4677b43943bd779a1206cdfa86c62e2e124ce07", func := "seneschal/seneschallaw15.KnotTurns", spec := "knotTurns", unfollowed := true, recurses := true, apart := false }
def KnotTurnsSaid : Prop := knotTurnsRow.holds Try.pinned (OpenSpec.ofChange knotTurnsSpec)

/-- ITS FALSE NEIGHBOUR: 'it returns false'. Refute it at one input. -/
def knotTurnsWrong : ChangeSpec := { name := "knotTurns", fn := fun _ => fun
  | [d1, d2, d3] => { results := [.lit (.bool false)], args := [d1, d2, d3] }
  | _ => none }
def KnotTurnsWrongFalsely : Prop := knotTurnsRow.holds Try.pinned (OpenSpec.ofChange knotTurnsWrong)

/-- 'seneschallaw15.KnotRow': WHATEVER THE INPUT: true; the input reads as it did. -/
def knotRowSpec : ChangeSpec := { name := "knotRow", fn := fun _ => fun
  | [d1, d2] => { results := [.lit (.bool true)], args := [d1, d2] }
  | _ => none }
def knotRowRow : OpenClaim := { program := "ytofnenemjbccgaa", sum := "1f6cdecb72fc23e2958a72cbd4677b43943bd779a1206cdfa86c62e2e124ce07", func := "seneschal/seneschallaw15.KnotRow", spec := "knotRow", unfollowed := true, recurses := true, apart := false }
def KnotRowSaid : Prop := knotRowRow.holds Try.pinned (OpenSpec.ofChange knotRowSpec)

/-- ITS FALSE NEIGHBOUR: 'it returns false'. Refute it at one input. -/
def knotRowWrong : ChangeSpec := { name := "knotRow", fn := fun _ => fun
  | [d1, d2] => { results := [.lit (.bool false)], args := [d1, d2] }
  | _ => none }
def KnotRowWrongFalsely : Prop := knotRowRow.holds Try.pinned (OpenSpec.ofChange knotRowWrong)

/-- 'seneschallaw15.KnotApart': WHATEVER THE INPUT: true; the input reads as it did. -/
def knotApartSpec : ChangeSpec := { name := "knotApart", fn := fun _ => fun
  | [d1, d2] => { results := [.lit (.bool true)], args := [d1, d2] }
  | _ => none }
def knotApartRow : OpenClaim := { program := "ytofnenemjbccgaa", sum := "1f6cdecb72fc23e2958a72cbd4677b43943bd779a1206cdfa86c62e2e124ce07", func := "seneschal/seneschallaw15.KnotApart", spec := "knotApart", unfollowed := true, recurses := true, apart := false }
def KnotApartSaid : Prop := knotApartRow.holds Try.pinned (OpenSpec.ofChange knotApartSpec)

/-- ITS FALSE NEIGHBOUR: 'it returns false'. Refute it at one input. -/
def knotApartWrong : ChangeSpec := { name := "knotApart", fn := fun _ => fun
  | [d1, d2] => { results := [.lit (.bool false)], args := [d1, d2] }
  | _ => none }
def KnotApartWrongFalsely : Prop := knotApartRow.holds Try.pinned (OpenSpec.ofChange knotApartWrong)

/- THE SECOND FORM. 'bulk': how many values and letters a reading holds, each counted each time it is reached (what is shared counts as often as it is met; a slice's spare places count too). A statement '..UptoSaid' is the law's where the arguments, and the package variables that the reading takes, are together of bulk at most 1048576: NARROWER than '..Said'. Prove '..Said' where nothing that the law and all that it calls make is longer than what came in: it says more and counts as full. Else prove '..UptoSaid'. A law counts once. -/
mutual
def uptoBulk {H : Type} : DataW H → Nat
  | .lit (.string bytes) => bytes.length + 1
  | .lit _ => 1
  | .nil => 1
  | .ptr d => uptoBulk d + 1
  | .slice elems spare => uptoBulkAll elems + uptoBulkAll spare + 1
  | .agg parts => uptoBulkAll parts + 1
  | .iface _ d => uptoBulk d + 1
  | .map entries => uptoBulkEntries entries + 1
  | .held _ => 1
def uptoBulkAll {H : Type} : List (DataW H) → Nat
  | [] => 0
  | d :: r => uptoBulk d + uptoBulkAll r
def uptoBulkEntries {H : Type} : List (Lit × DataW H) → Nat
  | [] => 0
  | x :: r => uptoBulkEntry x + uptoBulkEntries r
def uptoBulkEntry {H : Type} : Lit × DataW H → Nat
  | (.string bytes, d) => bytes.length + uptoBulk d + 1
  | (_, d) => uptoBulk d + 1
 end
def uptoSmall : (H : Type) → List (DataW H) → Bool := fun _ ds => decide (uptoBulkAll ds ≤ 1048576)
def OpenSpec.upto (s : _root_.Go.ChangeSpec) : _root_.Go.OpenSpec := { _root_.Go.OpenSpec.ofChange s with cond := some uptoSmall }

/-- 'seneschallaw15.KnotExact', WHERE WHAT IT READS IS OF BULK AT MOST 1048576: true; the input reads as it did. -/
def knotExactUptoRow : OpenClaim := { program := "ytofnenemjbccgaa", sum := "1f6cdecb72fc23e2958a72cbd4677b43943bd779a1206cdfa86c62e2e124ce07", func := "seneschal/seneschallaw15.KnotExact", spec := "knotExact", unfollowed := true, recurses := true, apart := false, narrowed := true }
def KnotExactUptoSaid : Prop := knotExactUptoRow.holds Try.pinned (OpenSpec.upto knotExactSpec)

/-- 'seneschallaw15.KnotFrees', WHERE WHAT IT READS IS OF BULK AT MOST 1048576: true; the input reads as it did. -/
def knotFreesUptoRow : OpenClaim := { program := "ytofnenemjbccgaa", sum := "1f6cdecb72fc23e2958a72cbd4677b43943bd779a1206cdfa86c62e2e124ce07", func := "seneschal/seneschallaw15.KnotFrees", spec := "knotFrees", unfollowed := true, recurses := true, apart := false, narrowed := true }
def KnotFreesUptoSaid : Prop := knotFreesUptoRow.holds Try.pinned (OpenSpec.upto knotFreesSpec)

/-- 'seneschallaw15.KnotTurns', WHERE WHAT IT READS IS OF BULK AT MOST 1048576: true; the input reads as it did. -/
def knotTurnsUptoRow : OpenClaim := { program := "ytofnenemjbccgaa", sum := "1f6cdecb72fc23e2958a72cbd4677b43943bd779a1206cdfa86c62e2e124ce07", func := "seneschal/seneschallaw15.KnotTurns", spec := "knotTurns", unfollowed := true, recurses := true, apart := false, narrowed := true }
def KnotTurnsUptoSaid : Prop := knotTurnsUptoRow.holds Try.pinned (OpenSpec.upto knotTurnsSpec)

/-- 'seneschallaw15.KnotRow', WHERE WHAT IT READS IS OF BULK AT MOST 1048576: true; the input reads as it did. -/
def knotRowUptoRow : OpenClaim := { program := "ytofnenemjbccgaa", sum := "1f6cdecb72fc23e2958a72cbd4677b43943bd779a1206cdfa86c62e2e124ce07", func := "seneschal/seneschallaw15.KnotRow", spec := "knotRow", unfollowed := true, recurses := true, apart := false, narrowed := true }
def KnotRowUptoSaid : Prop := knotRowUptoRow.holds Try.pinned (OpenSpec.upto knotRowSpec)

/-- 'seneschallaw15.KnotApart', WHERE WHAT IT READS IS OF BULK AT MOST 1048576: true; the input reads as it did. -/
def knotApartUptoRow : OpenClaim := { program := "ytofnenemjbccgaa", sum := "1f6cdecb72fc23e2958a72cbd4677b43943bd779a1206cdfa86c62e2e124ce07", func := "seneschal/seneschallaw15.KnotApart", spec := "knotApart", unfollowed := true, recurses := true, apart := false, narrowed := true }
def KnotApartUptoSaid : Prop := knotApartUptoRow.holds Try.pinned (OpenSpec.upto knotApartSpec)

end Rows
end Go.Proofs.Ytofnenemjbccgaa
