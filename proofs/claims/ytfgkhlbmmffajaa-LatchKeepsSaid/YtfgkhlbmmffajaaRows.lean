/-
  No cell of these rows narrows 'for every input' (looked for: loops, veiled, ifaces, maps, wideKeys, modest, calm, conditions, laid).
  DERIVED. THE GIVEN ROWS OF THIS SEAT. 4 by the template 'for every input the law returns true; each argument reads behind the call as it read before'; 0 by the template 'total and deterministic' (their statements: YtfgkhlbmmffajaaTotals.lean).
  GIVEN WITH THE SEED: the statements are not yours to turn. If you find one false, say at which input.
  Laid BY PROGRAM, IN A SANDBOX (cutbox-rows.mjs): the forced cells as the released guide's own fill.sh prints them over the translation b2d6e41533edb184… (all of the seat's roots in one cut). By AI agents, Wed Nov 11 2026. No macro, syntax, notation, axiom, sorry.
-/
import Derived.Test.YtfgkhlbmmffajaaChecked
import GoSem.Claim
import GoSem.ClaimJoined
import GoSem.ClaimMapViews
import Derived.JoinedTies
import Derived.KernelRfl
namespace Go.Proofs.Ytfgkhlbmmffajaa
/- THE CELL 'sum', in the pinned program and in every row, IS THE sha256 OF THE DUMP (.gsa) THAT YtfgkhlbmmffajaaProg.lean LOADS. Nothing in Lean hashes anything: it is a label: what it is worth is what the hold of that sum in a sandbox is worth. -/
noncomputable def Try.pinned : Pinned := { name := "ytfgkhlbmmffajaa", sum := "b2d6e41533edb1847c4111de9e6c4fcfaf53a344cefeb6f832ee834b2c20fe73", checked := Try.checked }
namespace Rows
def none {H : Type} : Left H := { results := [], args := [] }

/-- 'seneschallaw16.LatchIdle': WHATEVER THE INPUT: true; the input reads as it did. -/
def latchIdleSpec : ChangeSpec := { name := "latchIdle", fn := fun _ => fun
  | [d] => { results := [.lit (.bool true)], args := [d] }
  | _ => none }
def latchIdleRow : OpenClaim := { program := "ytfgkhlbmmffajaa", sum := "b2d6e41533edb1847c4111de9e6c4fcfaf53a344cefeb6f832ee834b2c20fe73", func := "seneschal/seneschallaw16.LatchIdle", spec := "latchIdle", unfollowed := true, recurses := true, apart := false }
def LatchIdleSaid : Prop := latchIdleRow.holds Try.pinned (OpenSpec.ofChange latchIdleSpec)

/-- ITS FALSE NEIGHBOUR: 'it returns false'. Refute it at one input. -/
def latchIdleWrong : ChangeSpec := { name := "latchIdle", fn := fun _ => fun
  | [d] => { results := [.lit (.bool false)], args := [d] }
  | _ => none }
def LatchIdleWrongFalsely : Prop := latchIdleRow.holds Try.pinned (OpenSpec.ofChange latchIdleWrong)

/-- 'seneschallaw16.LatchStrong': WHATEVER THE INPUT: true; the input reads as it did. -/
def latchStrongSpec : ChangeSpec := { name := "latchStrong", fn := fun _ => fun
  | [d1, d2] => { results := [.lit (.bool true)], args := [d1, d2] }
  | _ => none }
def latchStrongRow : OpenClaim := { program := "ytfgkhlbmmffajaa", sum := "b2d6e41533edb1847c4111de9e6c4fcfaf53a344cefeb6f832ee834b2c20fe73", func := "seneschal/seneschallaw16.LatchStrong", spec := "latchStrong", unfollowed := true, recurses := true, apart := false }
def LatchStrongSaid : Prop := latchStrongRow.holds Try.pinned (OpenSpec.ofChange latchStrongSpec)

/-- ITS FALSE NEIGHBOUR: 'it returns false'. Refute it at one input. -/
def latchStrongWrong : ChangeSpec := { name := "latchStrong", fn := fun _ => fun
  | [d1, d2] => { results := [.lit (.bool false)], args := [d1, d2] }
  | _ => none }
def LatchStrongWrongFalsely : Prop := latchStrongRow.holds Try.pinned (OpenSpec.ofChange latchStrongWrong)

/-- 'seneschallaw16.LatchExact': WHATEVER THE INPUT: true; the input reads as it did. -/
def latchExactSpec : ChangeSpec := { name := "latchExact", fn := fun _ => fun
  | [d] => { results := [.lit (.bool true)], args := [d] }
  | _ => none }
def latchExactRow : OpenClaim := { program := "ytfgkhlbmmffajaa", sum := "b2d6e41533edb1847c4111de9e6c4fcfaf53a344cefeb6f832ee834b2c20fe73", func := "seneschal/seneschallaw16.LatchExact", spec := "latchExact", unfollowed := true, recurses := true, apart := false }
def LatchExactSaid : Prop := latchExactRow.holds Try.pinned (OpenSpec.ofChange latchExactSpec)

/-- ITS FALSE NEIGHBOUR: 'it returns false'. Refute it at one input. -/
def latchExactWrong : ChangeSpec := { name := "latchExact", fn := fun _ => fun
  | [d] => { results := [.lit (.bool false)], args := [d] }
  | _ => none }
def LatchExactWrongFalsely : Prop := latchExactRow.holds Try.pinned (OpenSpec.ofChange latchExactWrong)

/-- 'seneschallaw16.LatchKeeps': WHATEVER THE INPUT: true; the input reads as it did. -/
def latchKeepsSpec : ChangeSpec := { name := "latchKeeps", fn := fun _ => fun
  | [d] => { results := [.lit (.bool true)], args := [d] }
  | _ => none }
def latchKeepsRow : OpenClaim := { program := "ytfgkhlbmmffajaa", sum := "b2d6e41533edb1847c4111de9e6c4fcfaf53a344cefeb6f832ee834b2c20fe73", func := "seneschal/seneschallaw16.LatchKeeps", spec := "latchKeeps", unfollowed := true, recurses := true, apart := false }
def LatchKeepsSaid : Prop := latchKeepsRow.holds Try.pinned (OpenSpec.ofChange latchKeepsSpec)

/-- ITS FALSE NEIGHBOUR: 'it returns false'. Refute it at one input. -/
def latchKeepsWrong : ChangeSpec := { name := "latchKeeps", fn := fun _ => fun
  | [d] => { results := [.lit (.bool false)], args := [d] }
  | _ => none }
def LatchKeepsWrongFalsely : Prop := latchKeepsRow.holds Try.pinned (OpenSpec.ofChange latchKeepsWrong)

/- THE SECOND FORM. 'bulk': how many values and letters a reading holds, each counted each time it is reached (what is shared counts as often as it is met; a slice's spare places count too). A statement '..UptoSaid' is the law's where the arguments, and the package variables that the reading takes, are together of bulk at most 1048576: NARROWER than '..Said'. Prove '..Said' where nothing that the law and all that it calls make is longer than what came in: it says more and counts as full. Else prove '..UptoSaid'. A law counts once. -/
mutual
def uptoBulk {H : Type} : DataW H → Nat
  | .lit (.string bytes) => bytes.length + 1
  | .lit _ => 1
  | .nil => 1
  | .ptr d => uptoBulk d + 1
  | .slice elems spare => uptoBulkAll elems + uptoBulkAll spare + 1
  | .agg parts => uptoBulkAll parts + 1
  | .iface _ d => uptoBulk d + 1
  | .map entries => uptoBulkEntries entries + 1
  | .held _ => 1
def uptoBulkAll {H : Type} : List (DataW H) → Nat
  | [] => 0
  | d :: r => uptoBulk d + uptoBulkAll r
def uptoBulkEntries {H : Type} : List (Lit × DataW H) → Nat
  | [] => 0
  | x :: r => uptoBulkEntry x + uptoBulkEntries r
def uptoBulkEntry {H : Type} : Lit × DataW H → Nat
  | (.string bytes, d) => bytes.length + uptoBulk d + 1
  | (_, d) => uptoBulk d + 1
 end
def uptoSmall : (H : Type) → List (DataW H) → Bool := fun _ ds => decide (uptoBulkAll ds ≤ 1048576)
def OpenSpec.upto (s : _root_.Go.ChangeSpec) : _root_.Go.OpenSpec := { _root_.Go.OpenSpec.ofChange s with cond := some uptoSmall }

/-- 'seneschallaw16.LatchIdle', WHERE WHAT IT READS IS OF BULK AT MOST 1048576: true; the input reads as it did. -/
def latchIdleUptoRow : OpenClaim := { program := "ytfgkhlbmmffajaa", sum := "b2d6e41533edb1847c4111de9e6c4fcfaf53a344cefeb6f832ee834b2c20fe73", func := "seneschal/seneschallaw16.LatchIdle", spec := "latchIdle", unfollowed := true, recurses := true, apart := false, narrowed := true }
def LatchIdleUptoSaid : Prop := latchIdleUptoRow.holds Try.pinned (OpenSpec.upto latchIdleSpec)

/-- 'seneschallaw16.LatchStrong', WHERE WHAT IT READS IS OF BULK AT MOST 1048576: true; the input reads as it did. -/
def latchStrongUptoRow : OpenClaim := { program := "ytfgkhlbmmffajaa", sum := "b2d6e41533edb1847c4111de9e6c4fcfaf53a344cefeb6f832ee834b2c20fe73", func := "seneschal/seneschallaw16.LatchStrong", spec := "latchStrong", unfollowed := true, recurses := true, apart := false, narrowed := true }
def LatchStrongUptoSaid : Prop := latchStrongUptoRow.holds Try.pinned (OpenSpec.upto latchStrongSpec)

/-- 'seneschallaw16.LatchExact', WHERE WHAT IT READS IS OF BULK AT MOST 1048576: true; the input reads as it did. -/
def latchExactUptoRow : OpenClaim := { program := "ytfgkhlbmmffajaa", sum := "b2d6e41533edb1847c4111de9e6c4fcfaf53a344cefeb6f832ee834b2c20fe73", func := "seneschal/seneschallaw16.LatchExact", spec := "latchExact", unfollowed := true, recurses := true, apart := false, narrowed := true }
def LatchExactUptoSaid : Prop := latchExactUptoRow.holds Try.pinned (OpenSpec.upto latchExactSpec)

/-- 'seneschallaw16.LatchKeeps', WHERE WHAT IT READS IS OF BULK AT MOST 1048576: true; the input reads as it did. -/
def latchKeepsUptoRow : OpenClaim := { program := "ytfgkhlbmmffajaa", sum := "b2d6e41533edb1847c4111de9e6c4fcfaf53a344cefeb6f832ee834b2c20fe73", func := "seneschal/seneschallaw16.LatchKeeps", spec := "latchKeeps", unfollowed := true, recurses := true, apart := false, narrowed := true }
def LatchKeepsUptoSaid : Prop := latchKeepsUptoRow.holds Try.pinned (OpenSpec.upto latchKeepsSpec)

end Rows
end Go.Proofs.Ytfgkhlbmmffajaa
