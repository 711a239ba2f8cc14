/-
  No cell of these rows narrows 'for every input' (looked for: loops, veiled, ifaces, maps, wideKeys, modest, calm, conditions, laid).
  DERIVED. THE GIVEN ROWS OF THIS SEAT. 3 by the template 'for every input the law returns true; each argument reads behind the call as it read before'; 0 by the template 'total and deterministic' (their statements: YtefhmlgepnlaoaaTotals.lean).
  GIVEN WITH THE SEED: the statements are not yours to turn. If you find one false, say at which input.
  Laid BY PROGRAM, IN A SANDBOX (cutbox-rows.mjs): the forced cells as the released guide's own fill.sh prints them over the translation 7659287a1f8b6e5a… (all of the seat's roots in one cut). By AI agents, Wed Nov 11 2026. No macro, syntax, notation, axiom, sorry.
-/
import Derived.Test.YtefhmlgepnlaoaaChecked
import GoSem.Claim
import GoSem.ClaimJoined
import GoSem.ClaimMapViews
import Derived.JoinedTies
import Derived.KernelRfl
namespace Go.Proofs.Ytefhmlgepnlaoaa
/- THE CELL 'sum', in the pinned program and in every row, IS THE sha256 OF THE DUMP (.gsa) THAT YtefhmlgepnlaoaaProg.lean LOADS. Nothing in Lean hashes anything: it is a label: what it is worth is what the hold of that sum in a sandbox is worth. -/
noncomputable def Try.pinned : Pinned := { name := "ytefhmlgepnlaoaa", sum := "7659287a1f8b6e5a58a92c395fa23234e128741552bd8382495ad4da56925c1a", checked := Try.checked }
namespace Rows
def none {H : Type} : Left H := { results := [], args := [] }

/-- 'tracerylaw07.FaceOnce': WHATEVER THE INPUT: true; the input reads as it did. -/
def faceOnceSpec : ChangeSpec := { name := "faceOnce", fn := fun _ => fun
  | [d1, d2, d3] => { results := [.lit (.bool true)], args := [d1, d2, d3] }
  | _ => none }
def faceOnceRow : OpenClaim := { program := "ytefhmlgepnlaoaa", sum := "7659287a1f8b6e5a58a92c395fa23234e128741552bd8382495ad4da56925c1a", func := "tracery/tracerylaw07.FaceOnce", spec := "faceOnce", unfollowed := true, recurses := true, apart := false }
def FaceOnceSaid : Prop := faceOnceRow.holds Try.pinned (OpenSpec.ofChange faceOnceSpec)

/-- ITS FALSE NEIGHBOUR: 'it returns false'. Refute it at one input. -/
def faceOnceWrong : ChangeSpec := { name := "faceOnce", fn := fun _ => fun
  | [d1, d2, d3] => { results := [.lit (.bool false)], args := [d1, d2, d3] }
  | _ => none }
def FaceOnceWrongFalsely : Prop := faceOnceRow.holds Try.pinned (OpenSpec.ofChange faceOnceWrong)

/-- 'tracerylaw07.FaceKeys': WHATEVER THE INPUT: true; the input reads as it did. -/
def faceKeysSpec : ChangeSpec := { name := "faceKeys", fn := fun _ => fun
  | [d1, d2, d3, d4] => { results := [.lit (.bool true)], args := [d1, d2, d3, d4] }
  | _ => none }
def faceKeysRow : OpenClaim := { program := "ytefhmlgepnlaoaa", sum := "7659287a1f8b6e5a58a92c395fa23234e128741552bd8382495ad4da56925c1a", func := "tracery/tracerylaw07.FaceKeys", spec := "faceKeys", unfollowed := true, recurses := true, apart := false }
def FaceKeysSaid : Prop := faceKeysRow.holds Try.pinned (OpenSpec.ofChange faceKeysSpec)

/-- ITS FALSE NEIGHBOUR: 'it returns false'. Refute it at one input. -/
def faceKeysWrong : ChangeSpec := { name := "faceKeys", fn := fun _ => fun
  | [d1, d2, d3, d4] => { results := [.lit (.bool false)], args := [d1, d2, d3, d4] }
  | _ => none }
def FaceKeysWrongFalsely : Prop := faceKeysRow.holds Try.pinned (OpenSpec.ofChange faceKeysWrong)

/-- 'tracerylaw07.FaceGenus': WHATEVER THE INPUT: true; the input reads as it did. -/
def faceGenusSpec : ChangeSpec := { name := "faceGenus", fn := fun _ => fun
  | [d1, d2, d3] => { results := [.lit (.bool true)], args := [d1, d2, d3] }
  | _ => none }
def faceGenusRow : OpenClaim := { program := "ytefhmlgepnlaoaa", sum := "7659287a1f8b6e5a58a92c395fa23234e128741552bd8382495ad4da56925c1a", func := "tracery/tracerylaw07.FaceGenus", spec := "faceGenus", unfollowed := true, recurses := true, apart := false }
def FaceGenusSaid : Prop := faceGenusRow.holds Try.pinned (OpenSpec.ofChange faceGenusSpec)

/-- ITS FALSE NEIGHBOUR: 'it returns false'. Refute it at one input. -/
def faceGenusWrong : ChangeSpec := { name := "faceGenus", fn := fun _ => fun
  | [d1, d2, d3] => { results := [.lit (.bool false)], args := [d1, d2, d3] }
  | _ => none }
def FaceGenusWrongFalsely : Prop := faceGenusRow.holds Try.pinned (OpenSpec.ofChange faceGenusWrong)

/- THE SECOND FORM. 'bulk': how many values and letters a reading holds, each counted each time it is reached (what is shared counts as often as it is met; a slice's spare places count too). A statement '..UptoSaid' is the law's where the arguments, and the package variables that the reading takes, are together of bulk at most 1048576: NARROWER than '..Said'. Prove '..Said' where nothing that the law and all that it calls make is longer than what came in: it says more and counts as full. Else prove '..UptoSaid'. A law counts once. -/
mutual
def uptoBulk {H : Type} : DataW H → Nat
  | .lit (.string bytes) => bytes.length + 1
  | .lit _ => 1
  | .nil => 1
  | .ptr d => uptoBulk d + 1
  | .slice elems spare => uptoBulkAll elems + uptoBulkAll spare + 1
  | .agg parts => uptoBulkAll parts + 1
  | .iface _ d => uptoBulk d + 1
  | .map entries => uptoBulkEntries entries + 1
  | .held _ => 1
def uptoBulkAll {H : Type} : List (DataW H) → Nat
  | [] => 0
  | d :: r => uptoBulk d + uptoBulkAll r
def uptoBulkEntries {H : Type} : List (Lit × DataW H) → Nat
  | [] => 0
  | x :: r => uptoBulkEntry x + uptoBulkEntries r
def uptoBulkEntry {H : Type} : Lit × DataW H → Nat
  | (.string bytes, d) => bytes.length + uptoBulk d + 1
  | (_, d) => uptoBulk d + 1
 end
def uptoSmall : (H : Type) → List (DataW H) → Bool := fun _ ds => decide (uptoBulkAll ds ≤ 1048576)
def OpenSpec.upto (s : _root_.Go.ChangeSpec) : _root_.Go.OpenSpec := { _root_.Go.OpenSpec.ofChange s with cond := some uptoSmall }

/-- 'tracerylaw07.FaceOnce', WHERE WHAT IT READS IS OF BULK AT MOST 1048576: true; the input reads as it did. -/
def faceOnceUptoRow : OpenClaim := { program := "ytefhmlgepnlaoaa", sum := "7659287a1f8b6e5a58a92c395fa23234e128741552bd8382495ad4da56925c1a", func := "tracery/tracerylaw07.FaceOnce", spec := "faceOnce", unfollowed := true, recurses := true, apart := false, narrowed := true }
def FaceOnceUptoSaid : Prop := faceOnceUptoRow.holds Try.pinned (OpenSpec.upto faceOnceSpec)

/-- 'tracerylaw07.FaceKeys', WHERE WHAT IT READS IS OF BULK AT MOST 1048576: true; the input reads as it did. -/
def faceKeysUptoRow : OpenClaim := { program := "ytefhmlgepnlaoaa", sum := "7659287a1f8b6e5a58a92c395fa23234e128741552bd8382495ad4da56925c1a", func := "tracery/tracerylaw07.FaceKeys", spec := "faceKeys", unfollowed := true, recurses := true, apart := false, narrowed := true }
def FaceKeysUptoSaid : Prop := faceKeysUptoRow.holds Try.pinned (OpenSpec.upto faceKeysSpec)

/-- 'tracerylaw07.FaceGenus', WHERE WHAT IT READS IS OF BULK AT MOST 1048576: true; the input reads as it did. -/
def faceGenusUptoRow : OpenClaim := { program := "ytefhmlgepnlaoaa", sum := "7659287a1f8b6e5a58a92c395fa23234e128741552bd8382495ad4da56925c1a", func := "tracery/tracerylaw07.FaceGenus", spec := "faceGenus", unfollowed := true, recurses := true, apart := false, narrowed := true }
def FaceGenusUptoSaid : Prop := faceGenusUptoRow.holds Try.pinned (OpenSpec.upto faceGenusSpec)

end Rows
end Go.Proofs.Ytefhmlgepnlaoaa
