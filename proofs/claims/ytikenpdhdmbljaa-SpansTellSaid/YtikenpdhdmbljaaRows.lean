/-
  No cell of these rows narrows 'for every input' (looked for: loops, veiled, ifaces, maps, wideKeys, modest, calm, conditions, laid).
  DERIVED. THE GIVEN ROWS OF THIS SEAT. 6 by the template 'for every input the law returns true; each argument reads behind the call as it read before'; 0 by the template 'total and deterministic' (their statements: YtikenpdhdmbljaaTotals.lean).
  GIVEN WITH THE SEED: the statements are not yours to turn. If you find one false, say at which input.
  Laid BY PROGRAM, IN A SANDBOX (cutbox-rows.mjs): the forced cells as the released guide's own fill.sh prints them over the translation 8d1c01e24cb9fc01… (all of the seat's roots in one cut). By AI agents, Wed Nov 11 2026. No macro, syntax, notation, axiom, sorry.
-/
import Derived.Test.YtikenpdhdmbljaaChecked
import GoSem.Claim
import GoSem.ClaimJoined
import GoSem.ClaimMapViews
import Derived.JoinedTies
import Derived.KernelRfl
namespace Go.Proofs.Ytikenpdhdmbljaa
/- THE CELL 'sum', in the pinned program and in every row, IS THE sha256 OF THE DUMP (.gsa) THAT YtikenpdhdmbljaaProg.lean LOADS. Nothing in Lean hashes anything: it is a label: what it is worth is what the hold of that sum in a sandbox is worth. -/
noncomputable def Try.pinned : Pinned := { name := "ytikenpdhdmbljaa", sum := "8d1c01e24cb9fc01c12258bae1f183473021e1a58aa6b5385512d8b7787ee031", checked := Try.checked }
namespace Rows
def none {H : Type} : Left H := { results := [], args := [] }

/-- 'fourinhandlaw04.SpansBack': WHATEVER THE INPUT: true; the input reads as it did. -/
def spansBackSpec : ChangeSpec := { name := "spansBack", fn := fun _ => fun
  | [d1, d2, d3] => { results := [.lit (.bool true)], args := [d1, d2, d3] }
  | _ => none }
def spansBackRow : OpenClaim := { program := "ytikenpdhdmbljaa", sum := "8d1c01e24cb9fc01c12258bae1f183473021e1a58aa6b5385512d8b7787ee031", func := "fourinhand/fourinhandlaw04.SpansBack", spec := "spansBack", unfollowed := true, recurses := true, apart := false }
def SpansBackSaid : Prop := spansBackRow.holds Try.pinned (OpenSpec.ofChange spansBackSpec)

/-- ITS FALSE NEIGHBOUR: 'it returns false'. Refute it at one input. -/
def spansBackWrong : ChangeSpec := { name := "spansBack", fn := fun _ => fun
  | [d1, d2, d3] => { results := [.lit (.bool false)], args := [d1, d2, d3] }
  | _ => none }
def SpansBackWrongFalsely : Prop := spansBackRow.holds Try.pinned (OpenSpec.ofChange spansBackWrong)

/-- 'fourinhandlaw04.SpansApart': WHATEVER THE INPUT: true; the input reads as it did. -/
def spansApartSpec : ChangeSpec := { name := "spansApart", fn := fun _ => fun
  | [d1, d2] => { results := [.lit (.bool true)], args := [d1, d2] }
  | _ => none }
def spansApartRow : OpenClaim := { program := "ytikenpdhdmbljaa", sum := "8d1c01e24cb9fc01c12258bae1f183473021e1a58aa6b5385512d8b7787ee031", func := "fourinhand/fourinhandlaw04.SpansApart", spec := "spansApart", unfollowed := true, recurses := true, apart := false }
def SpansApartSaid : Prop := spansApartRow.holds Try.pinned (OpenSpec.ofChange spansApartSpec)

/-- ITS FALSE NEIGHBOUR: 'it returns false'. Refute it at one input. -/
def spansApartWrong : ChangeSpec := { name := "spansApart", fn := fun _ => fun
  | [d1, d2] => { results := [.lit (.bool false)], args := [d1, d2] }
  | _ => none }
def SpansApartWrongFalsely : Prop := spansApartRow.holds Try.pinned (OpenSpec.ofChange spansApartWrong)

/-- 'fourinhandlaw04.SpansNumbers': WHATEVER THE INPUT: true; the input reads as it did. -/
def spansNumbersSpec : ChangeSpec := { name := "spansNumbers", fn := fun _ => fun
  | [d1, d2, d3] => { results := [.lit (.bool true)], args := [d1, d2, d3] }
  | _ => none }
def spansNumbersRow : OpenClaim := { program := "ytikenpdhdmbljaa", sum := "8d1c01e24cb9fc01c12258bae1f183473021e1a58aa6b5385512d8b7787ee031", func := "fourinhand/fourinhandlaw04.SpansNumbers", spec := "spansNumbers", unfollowed := true, recurses := true, apart := false }
def SpansNumbersSaid : Prop := spansNumbersRow.holds Try.pinned (OpenSpec.ofChange spansNumbersSpec)

/-- ITS FALSE NEIGHBOUR: 'it returns false'. Refute it at one input. -/
def spansNumbersWrong : ChangeSpec := { name := "spansNumbers", fn := fun _ => fun
  | [d1, d2, d3] => { results := [.lit (.bool false)], args := [d1, d2, d3] }
  | _ => none }
def SpansNumbersWrongFalsely : Prop := spansNumbersRow.holds Try.pinned (OpenSpec.ofChange spansNumbersWrong)

/-- 'fourinhandlaw04.SpansGap': WHATEVER THE INPUT: true; the input reads as it did. -/
def spansGapSpec : ChangeSpec := { name := "spansGap", fn := fun _ => fun
  | [d1, d2] => { results := [.lit (.bool true)], args := [d1, d2] }
  | _ => none }
def spansGapRow : OpenClaim := { program := "ytikenpdhdmbljaa", sum := "8d1c01e24cb9fc01c12258bae1f183473021e1a58aa6b5385512d8b7787ee031", func := "fourinhand/fourinhandlaw04.SpansGap", spec := "spansGap", unfollowed := true, recurses := true, apart := false }
def SpansGapSaid : Prop := spansGapRow.holds Try.pinned (OpenSpec.ofChange spansGapSpec)

/-- ITS FALSE NEIGHBOUR: 'it returns false'. Refute it at one input. -/
def spansGapWrong : ChangeSpec := { name := "spansGap", fn := fun _ => fun
  | [d1, d2] => { results := [.lit (.bool false)], args := [d1, d2] }
  | _ => none }
def SpansGapWrongFalsely : Prop := spansGapRow.holds Try.pinned (OpenSpec.ofChange spansGapWrong)

/-- 'fourinhandlaw04.SpansTell': WHATEVER THE INPUT: true; the input reads as it did. -/
def spansTellSpec : ChangeSpec := { name := "spansTell", fn := fun _ => fun
  | [d1, d2, d3] => { results := [.lit (.bool true)], args := [d1, d2, d3] }
  | _ => none }
def spansTellRow : OpenClaim := { program := "ytikenpdhdmbljaa", sum := "8d1c01e24cb9fc01c12258bae1f183473021e1a58aa6b5385512d8b7787ee031", func := "fourinhand/fourinhandlaw04.SpansTell", spec := "spansTell", unfollowed := true, recurses := true, apart := false }
def SpansTellSaid : Prop := spansTellRow.holds Try.pinned (OpenSpec.ofChange spansTellSpec)

/-- ITS FALSE NEIGHBOUR: 'it returns false'. Refute it at one input. -/
def spansTellWrong : ChangeSpec := { name := "spansTell", fn := fun _ => fun
  | [d1, d2, d3] => { results := [.lit (.bool false)], args := [d1, d2, d3] }
  | _ => none }
def SpansTellWrongFalsely : Prop := spansTellRow.holds Try.pinned (OpenSpec.ofChange spansTellWrong)

/-- 'fourinhandlaw04.SpansSize': WHATEVER THE INPUT: true; the input reads as it did. -/
def spansSizeSpec : ChangeSpec := { name := "spansSize", fn := fun _ => fun
  | [d1, d2] => { results := [.lit (.bool true)], args := [d1, d2] }
  | _ => none }
def spansSizeRow : OpenClaim := { program := "ytikenpdhdmbljaa", sum := "8d1c01e24cb9fc01c12258bae1f183473021e1a58aa6b5385512d8b7787ee031", func := "fourinhand/fourinhandlaw04.SpansSize", spec := "spansSize", unfollowed := true, recurses := true, apart := false }
def SpansSizeSaid : Prop := spansSizeRow.holds Try.pinned (OpenSpec.ofChange spansSizeSpec)

/-- ITS FALSE NEIGHBOUR: 'it returns false'. Refute it at one input. -/
def spansSizeWrong : ChangeSpec := { name := "spansSize", fn := fun _ => fun
  | [d1, d2] => { results := [.lit (.bool false)], args := [d1, d2] }
  | _ => none }
def SpansSizeWrongFalsely : Prop := spansSizeRow.holds Try.pinned (OpenSpec.ofChange spansSizeWrong)

/- THE SECOND FORM. 'bulk': how many values and letters a reading holds, each counted each time it is reached (what is shared counts as often as it is met; a slice's spare places count too). A statement '..UptoSaid' is the law's where the arguments, and the package variables that the reading takes, are together of bulk at most 1048576: NARROWER than '..Said'. Prove '..Said' where nothing that the law and all that it calls make is longer than what came in: it says more and counts as full. Else prove '..UptoSaid'. A law counts once. -/
mutual
def uptoBulk {H : Type} : DataW H → Nat
  | .lit (.string bytes) => bytes.length + 1
  | .lit _ => 1
  | .nil => 1
  | .ptr d => uptoBulk d + 1
  | .slice elems spare => uptoBulkAll elems + uptoBulkAll spare + 1
  | .agg parts => uptoBulkAll parts + 1
  | .iface _ d => uptoBulk d + 1
  | .map entries => uptoBulkEntries entries + 1
  | .held _ => 1
def uptoBulkAll {H : Type} : List (DataW H) → Nat
  | [] => 0
  | d :: r => uptoBulk d + uptoBulkAll r
def uptoBulkEntries {H : Type} : List (Lit × DataW H) → Nat
  | [] => 0
  | x :: r => uptoBulkEntry x + uptoBulkEntries r
def uptoBulkEntry {H : Type} : Lit × DataW H → Nat
  | (.string bytes, d) => bytes.length + uptoBulk d + 1
  | (_, d) => uptoBulk d + 1
 end
def uptoSmall : (H : Type) → List (DataW H) → Bool := fun _ ds => decide (uptoBulkAll ds ≤ 1048576)
def OpenSpec.upto (s : _root_.Go.ChangeSpec) : _root_.Go.OpenSpec := { _root_.Go.OpenSpec.ofChange s with cond := some uptoSmall }

/-- 'fourinhandlaw04.SpansBack', WHERE WHAT IT READS IS OF BULK AT MOST 1048576: true; the input reads as it did. -/
def spansBackUptoRow : OpenClaim := { program := "ytikenpdhdmbljaa", sum := "8d1c01e24cb9fc01c12258bae1f183473021e1a58aa6b5385512d8b7787ee031", func := "fourinhand/fourinhandlaw04.SpansBack", spec := "spansBack", unfollowed := true, recurses := true, apart := false, narrowed := true }
def SpansBackUptoSaid : Prop := spansBackUptoRow.holds Try.pinned (OpenSpec.upto spansBackSpec)

/-- 'fourinhandlaw04.SpansApart', WHERE WHAT IT READS IS OF BULK AT MOST 1048576: true; the input reads as it did. -/
def spansApartUptoRow : OpenClaim := { program := "ytikenpdhdmbljaa", sum := "8d1c01e24cb9fc01c12258bae1f183473021e1a58aa6b5385512d8b7787ee031", func := "fourinhand/fourinhandlaw04.SpansApart", spec := "spansApart", unfollowed := true, recurses := true, apart := false, narrowed := true }
def SpansApartUptoSaid : Prop := spansApartUptoRow.holds Try.pinned (OpenSpec.upto spansApartSpec)

/-- 'fourinhandlaw04.SpansNumbers', WHERE WHAT IT READS IS OF BULK AT MOST 1048576: true; the input reads as it did. -/
def spansNumbersUptoRow : OpenClaim := { program := "ytikenpdhdmbljaa", sum := "8d1c01e24cb9fc01c12258bae1f183473021e1a58aa6b5385512d8b7787ee031", func := "fourinhand/fourinhandlaw04.SpansNumbers", spec := "spansNumbers", unfollowed := true, recurses := true, apart := false, narrowed := true }
def SpansNumbersUptoSaid : Prop := spansNumbersUptoRow.holds Try.pinned (OpenSpec.upto spansNumbersSpec)

/-- 'fourinhandlaw04.SpansGap', WHERE WHAT IT READS IS OF BULK AT MOST 1048576: true; the input reads as it did. -/
def spansGapUptoRow : OpenClaim := { program := "ytikenpdhdmbljaa", sum := "8d1c01e24cb9fc01c12258bae1f183473021e1a58aa6b5385512d8b7787ee031", func := "fourinhand/fourinhandlaw04.SpansGap", spec := "spansGap", unfollowed := true, recurses := true, apart := false, narrowed := true }
def SpansGapUptoSaid : Prop := spansGapUptoRow.holds Try.pinned (OpenSpec.upto spansGapSpec)

/-- 'fourinhandlaw04.SpansTell', WHERE WHAT IT READS IS OF BULK AT MOST 1048576: true; the input reads as it did. -/
def spansTellUptoRow : OpenClaim := { program := "ytikenpdhdmbljaa", sum := "8d1c01e24cb9fc01c12258bae1f183473021e1a58aa6b5385512d8b7787ee031", func := "fourinhand/fourinhandlaw04.SpansTell", spec := "spansTell", unfollowed := true, recurses := true, apart := false, narrowed := true }
def SpansTellUptoSaid : Prop := spansTellUptoRow.holds Try.pinned (OpenSpec.upto spansTellSpec)

/-- 'fourinhandlaw04.SpansSize', WHERE WHAT IT READS IS OF BULK AT MOST 1048576: true; the input reads as it did. -/
def spansSizeUptoRow : OpenClaim := { program := "ytikenpdhdmbljaa", sum := "8d1c01e24cb9fc01c12258bae1f183473021e1a58aa6b5385512d8b7787ee031", func := "fourinhand/fourinhandlaw04.SpansSize", spec := "spansSize", unfollowed := true, recurses := true, apart := false, narrowed := true }
def SpansSizeUptoSaid : Prop := spansSizeUptoRow.holds Try.pinned (OpenSpec.upto spansSizeSpec)

end Rows
end Go.Proofs.Ytikenpdhdmbljaa
