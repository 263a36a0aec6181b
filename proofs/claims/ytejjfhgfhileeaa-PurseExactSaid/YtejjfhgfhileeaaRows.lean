/-
  No cell of these rows narrows 'for every input' (looked for: loops, veiled, ifaces, maps, wideKeys, modest, calm, conditions, laid).
  DERIVED. THE GIVEN ROWS OF THIS SEAT. 4 by the template 'for every input the law returns true; each argument reads behind the call as it read before'; 0 by the template 'total and deterministic' (their statements: YtejjfhgfhileeaaTotals.lean).
  GIVEN WITH THE SEED: the statements are not yours to turn. If you find one false, say at which input.
  Laid BY PROGRAM, IN A SANDBOX (cutbox-rows.mjs): the forced cells as the released guide's own fill.sh prints them over the translation 4cdd3300f4eeec3b… (all of the seat's roots in one cut). By AI agents, Wed Nov 11 2026. No macro, syntax, notation, axiom, sorry.
-/
import Derived.Test.YtejjfhgfhileeaaChecked
import GoSem.Claim
import GoSem.ClaimJoined
import GoSem.ClaimMapViews
import Derived.JoinedTies
import Derived.KernelRfl
namespace Go.Proofs.Ytejjfhgfhileeaa
/- THE CELL 'sum', in the pinned program and in every row, IS THE sha256 OF THE DUMP (.gsa) THAT YtejjfhgfhileeaaProg.lean LOADS. Nothing in Lean hashes anything: it is a label: what it is worth is what the hold of that sum in a sandbox is worth. -/
noncomputable def Try.pinned : Pinned := { name := "ytejjfhgfhileeaa", sum := "4cdd3300f4eeec3b8181fa0ec20806e8a33ff1a249ddf0b60b9cec65e39affd3", checked := Try.checked }
namespace Rows
def none {H : Type} : Left H := { results := [], args := [] }

/-- 'seneschallaw10.PurseKeeps': WHATEVER THE INPUT: true; the input reads as it did. -/
def purseKeepsSpec : ChangeSpec := { name := "purseKeeps", fn := fun _ => fun
  | [d1, d2] => { results := [.lit (.bool true)], args := [d1, d2] }
  | _ => none }
def purseKeepsRow : OpenClaim := { program := "ytejjfhgfhileeaa", sum := "4cdd3300f4eeec3b8181fa0ec20806e8a33ff1a249ddf0b60b9cec65e39affd3", func := "seneschal/seneschallaw10.PurseKeeps", spec := "purseKeeps", apart := false }
def PurseKeepsSaid : Prop := purseKeepsRow.holds Try.pinned (OpenSpec.ofChange purseKeepsSpec)

/-- ITS FALSE NEIGHBOUR: 'it returns false'. Refute it at one input. -/
def purseKeepsWrong : ChangeSpec := { name := "purseKeeps", fn := fun _ => fun
  | [d1, d2] => { results := [.lit (.bool false)], args := [d1, d2] }
  | _ => none }
def PurseKeepsWrongFalsely : Prop := purseKeepsRow.holds Try.pinned (OpenSpec.ofChange purseKeepsWrong)

/-- 'seneschallaw10.PurseBack': WHATEVER THE INPUT: true; the input reads as it did. -/
def purseBackSpec : ChangeSpec := { name := "purseBack", fn := fun _ => fun
  | [d1, d2] => { results := [.lit (.bool true)], args := [d1, d2] }
  | _ => none }
def purseBackRow : OpenClaim := { program := "ytejjfhgfhileeaa", sum := "4cdd3300f4eeec3b8181fa0ec20806e8a33ff1a249ddf0b60b9cec65e39affd3", func := "seneschal/seneschallaw10.PurseBack", spec := "purseBack", apart := false }
def PurseBackSaid : Prop := purseBackRow.holds Try.pinned (OpenSpec.ofChange purseBackSpec)

/-- ITS FALSE NEIGHBOUR: 'it returns false'. Refute it at one input. -/
def purseBackWrong : ChangeSpec := { name := "purseBack", fn := fun _ => fun
  | [d1, d2] => { results := [.lit (.bool false)], args := [d1, d2] }
  | _ => none }
def PurseBackWrongFalsely : Prop := purseBackRow.holds Try.pinned (OpenSpec.ofChange purseBackWrong)

/-- 'seneschallaw10.PurseExact': WHATEVER THE INPUT: true; the input reads as it did. -/
def purseExactSpec : ChangeSpec := { name := "purseExact", fn := fun _ => fun
  | [d] => { results := [.lit (.bool true)], args := [d] }
  | _ => none }
def purseExactRow : OpenClaim := { program := "ytejjfhgfhileeaa", sum := "4cdd3300f4eeec3b8181fa0ec20806e8a33ff1a249ddf0b60b9cec65e39affd3", func := "seneschal/seneschallaw10.PurseExact", spec := "purseExact", inPlace := ["maps.clone"], unfollowed := true, recurses := true, apart := false }
def PurseExactSaid : Prop := purseExactRow.holds Try.pinned (OpenSpec.ofChange purseExactSpec)

/-- ITS FALSE NEIGHBOUR: 'it returns false'. Refute it at one input. -/
def purseExactWrong : ChangeSpec := { name := "purseExact", fn := fun _ => fun
  | [d] => { results := [.lit (.bool false)], args := [d] }
  | _ => none }
def PurseExactWrongFalsely : Prop := purseExactRow.holds Try.pinned (OpenSpec.ofChange purseExactWrong)

/-- 'seneschallaw10.PurseRows': WHATEVER THE INPUT: true; the input reads as it did. -/
def purseRowsSpec : ChangeSpec := { name := "purseRows", fn := fun _ => fun
  | [d] => { results := [.lit (.bool true)], args := [d] }
  | _ => none }
def purseRowsRow : OpenClaim := { program := "ytejjfhgfhileeaa", sum := "4cdd3300f4eeec3b8181fa0ec20806e8a33ff1a249ddf0b60b9cec65e39affd3", func := "seneschal/seneschallaw10.PurseRows", spec := "purseRows", inPlace := ["maps.clone"], unfollowed := true, recurses := true, apart := false }
def PurseRowsSaid : Prop := purseRowsRow.holds Try.pinned (OpenSpec.ofChange purseRowsSpec)

/-- ITS FALSE NEIGHBOUR: 'it returns false'. Refute it at one input. -/
def purseRowsWrong : ChangeSpec := { name := "purseRows", fn := fun _ => fun
  | [d] => { results := [.lit (.bool false)], args := [d] }
  | _ => none }
def PurseRowsWrongFalsely : Prop := purseRowsRow.holds Try.pinned (OpenSpec.ofChange purseRowsWrong)

/- THE SECOND FORM. 'bulk': how many values and letters a reading holds, each counted each time it is reached (what is shared counts as often as it is met; a slice's spare places count too). A statement '..UptoSaid' is the law's where the arguments, and the package variables that the reading takes, are together of bulk at most 1048576: NARROWER than '..Said'. Prove '..Said' where nothing that the law and all that it calls make is longer than what came in: it says more and counts as full. Else prove '..UptoSaid'. A law counts once. -/
mutual
def uptoBulk {H : Type} : DataW H → Nat
  | .lit (.string bytes) => bytes.length + 1
  | .lit _ => 1
  | .nil => 1
  | .ptr d => uptoBulk d + 1
  | .slice elems spare => uptoBulkAll elems + uptoBulkAll spare + 1
  | .agg parts => uptoBulkAll parts + 1
  | .iface _ d => uptoBulk d + 1
  | .map entries => uptoBulkEntries entries + 1
  | .held _ => 1
def uptoBulkAll {H : Type} : List (DataW H) → Nat
  | [] => 0
  | d :: r => uptoBulk d + uptoBulkAll r
def uptoBulkEntries {H : Type} : List (Lit × DataW H) → Nat
  | [] => 0
  | x :: r => uptoBulkEntry x + uptoBulkEntries r
def uptoBulkEntry {H : Type} : Lit × DataW H → Nat
  | (.string bytes, d) => bytes.length + uptoBulk d + 1
  | (_, d) => uptoBulk d + 1
 end
def uptoSmall : (H : Type) → List (DataW H) → Bool := fun _ ds => decide (uptoBulkAll ds ≤ 1048576)
def OpenSpec.upto (s : _root_.Go.ChangeSpec) : _root_.Go.OpenSpec := { _root_.Go.OpenSpec.ofChange s with cond := some uptoSmall }

/-- 'seneschallaw10.PurseKeeps', WHERE WHAT IT READS IS OF BULK AT MOST 1048576: true; the input reads as it did. -/
def purseKeepsUptoRow : OpenClaim := { program := "ytejjfhgfhileeaa", sum := "4cdd3300f4eeec3b8181fa0ec20806e8a33ff1a249ddf0b60b9cec65e39affd3", func := "seneschal/seneschallaw10.PurseKeeps", spec := "purseKeeps", apart := false, narrowed := true }
def PurseKeepsUptoSaid : Prop := purseKeepsUptoRow.holds Try.pinned (OpenSpec.upto purseKeepsSpec)

/-- 'seneschallaw10.PurseBack', WHERE WHAT IT READS IS OF BULK AT MOST 1048576: true; the input reads as it did. -/
def purseBackUptoRow : OpenClaim := { program := "ytejjfhgfhileeaa", sum := "4cdd3300f4eeec3b8181fa0ec20806e8a33ff1a249ddf0b60b9cec65e39affd3", func := "seneschal/seneschallaw10.PurseBack", spec := "purseBack", apart := false, narrowed := true }
def PurseBackUptoSaid : Prop := purseBackUptoRow.holds Try.pinned (OpenSpec.upto purseBackSpec)

/-- 'seneschallaw10.PurseExact', WHERE WHAT IT READS IS OF BULK AT MOST 1048576: true; the input reads as it did. -/
def purseExactUptoRow : OpenClaim := { program := "ytejjfhgfhileeaa", sum := "4cdd3300f4eeec3b8181fa0ec20806e8a33ff1a249ddf0b60b9cec65e39affd3", func := "seneschal/seneschallaw10.PurseExact", spec := "purseExact", inPlace := ["maps.clone"], unfollowed := true, recurses := true, apart := false, narrowed := true }
def PurseExactUptoSaid : Prop := purseExactUptoRow.holds Try.pinned (OpenSpec.upto purseExactSpec)

/-- 'seneschallaw10.PurseRows', WHERE WHAT IT READS IS OF BULK AT MOST 1048576: true; the input reads as it did. -/
def purseRowsUptoRow : OpenClaim := { program := "ytejjfhgfhileeaa", sum := "4cdd3300f4eeec3b8181fa0ec20806e8a33ff1a249ddf0b60b9cec65e39affd3", func := "seneschal/seneschallaw10.PurseRows", spec := "purseRows", inPlace := ["maps.clone"], unfollowed := true, recurses := true, apart := false, narrowed := true }
def PurseRowsUptoSaid : Prop := purseRowsUptoRow.holds Try.pinned (OpenSpec.upto purseRowsSpec)

end Rows
end Go.Proofs.Ytejjfhgfhileeaa
