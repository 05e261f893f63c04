/-
  No cell of these rows narrows 'for every input' (looked for: loops, veiled, ifaces, maps, wideKeys, modest, calm, conditions, laid).
  DERIVED. THE GIVEN ROWS OF THIS SEAT. 5 by the template 'for every input the law returns true; each argument reads behind the call as it read before'; 0 by the template 'total and deterministic' (their statements: YtkmkidbajmbigaaTotals.lean).
  GIVEN WITH THE SEED: the statements are not yours to turn. If you find one false, say at which input.
  Laid BY PROGRAM, IN A SANDBOX (cutbox-rows.mjs): the forced cells as the released guide's own fill.sh prints them over the translation 886de9a8e9f7a9ff… (all of the seat's roots in one cut). By AI agents, Wed Nov 11 2026. No macro, syntax, notation, axiom, sorry.
-/
import Derived.Test.YtkmkidbajmbigaaChecked
import GoSem.Claim
import GoSem.ClaimJoined
import GoSem.ClaimMapViews
import Derived.JoinedTies
import Derived.KernelRfl
namespace Go.Proofs.Ytkmkidbajmbigaa
/- THE CELL 'sum', in the pinned program and in every row, IS THE sha256 OF THE DUMP (.gsa) THAT YtkmkidbajmbigaaProg.lean LOADS. Nothing in Lean hashes anything: it is a label: what it is worth is what the hold of that sum in a sandbox is worth. -/
noncomputable def Try.pinned : Pinned := { name := "ytkmkidbajmbigaa", sum := "886de9a8e9f7a9ff15a01e6990d25febb83e90838f9944f4724ce2a3d3fe4ce8", checked := Try.checked }
namespace Rows
def none {H : Type} : Left H := { results := [], args := [] }

/-- 'bulletinlaw02.Base64Encode': WHATEVER THE INPUT: true; the input reads as it did. -/
def base64EncodeSpec : ChangeSpec := { name := "base64Encode", fn := fun _ => fun
  | [d1, d2] => { results := [.lit (.bool true)], args := [d1, d2] }
  | _ => none }
def base64EncodeRow : OpenClaim := { program := "ytkmkidbajmbigaa", sum := "886de9a8e9f7a9ff15a01e6990d25febb83e90838f9944f4724ce2a3d3fe4ce8", func := "bulletin/bulletinlaw02.Base64Encode", spec := "base64Encode", inPlace := ["internal/abi.NoEscape"], unfollowed := true, recurses := true, apart := false }
def Base64EncodeSaid : Prop := base64EncodeRow.holds Try.pinned (OpenSpec.ofChange base64EncodeSpec)

/-- ITS FALSE NEIGHBOUR: 'it returns false'. Refute it at one input. -/
def base64EncodeWrong : ChangeSpec := { name := "base64Encode", fn := fun _ => fun
  | [d1, d2] => { results := [.lit (.bool false)], args := [d1, d2] }
  | _ => none }
def Base64EncodeWrongFalsely : Prop := base64EncodeRow.holds Try.pinned (OpenSpec.ofChange base64EncodeWrong)

/-- 'bulletinlaw02.Base64Canonical': WHATEVER THE INPUT: true; the input reads as it did. -/
def base64CanonicalSpec : ChangeSpec := { name := "base64Canonical", fn := fun _ => fun
  | [d] => { results := [.lit (.bool true)], args := [d] }
  | _ => none }
def base64CanonicalRow : OpenClaim := { program := "ytkmkidbajmbigaa", sum := "886de9a8e9f7a9ff15a01e6990d25febb83e90838f9944f4724ce2a3d3fe4ce8", func := "bulletin/bulletinlaw02.Base64Canonical", spec := "base64Canonical", inPlace := ["internal/abi.NoEscape"], unfollowed := true, recurses := true, apart := false }
def Base64CanonicalSaid : Prop := base64CanonicalRow.holds Try.pinned (OpenSpec.ofChange base64CanonicalSpec)

/-- ITS FALSE NEIGHBOUR: 'it returns false'. Refute it at one input. -/
def base64CanonicalWrong : ChangeSpec := { name := "base64Canonical", fn := fun _ => fun
  | [d] => { results := [.lit (.bool false)], args := [d] }
  | _ => none }
def Base64CanonicalWrongFalsely : Prop := base64CanonicalRow.holds Try.pinned (OpenSpec.ofChange base64CanonicalWrong)

/-- 'bulletinlaw02.Base64Concatenation': WHATEVER THE INPUT: true; the input reads as it did. -/
def base64ConcatenationSpec : ChangeSpec := { name := "base64Concatenation", fn := fun _ => fun
  | [d1, d2] => { results := [.lit (.bool true)], args := [d1, d2] }
  | _ => none }
def base64ConcatenationRow : OpenClaim := { program := "ytkmkidbajmbigaa", sum := "886de9a8e9f7a9ff15a01e6990d25febb83e90838f9944f4724ce2a3d3fe4ce8", func := "bulletin/bulletinlaw02.Base64Concatenation", spec := "base64Concatenation", inPlace := ["internal/abi.NoEscape"], unfollowed := true, recurses := true, apart := false }
def Base64ConcatenationSaid : Prop := base64ConcatenationRow.holds Try.pinned (OpenSpec.ofChange base64ConcatenationSpec)

/-- ITS FALSE NEIGHBOUR: 'it returns false'. Refute it at one input. -/
def base64ConcatenationWrong : ChangeSpec := { name := "base64Concatenation", fn := fun _ => fun
  | [d1, d2] => { results := [.lit (.bool false)], args := [d1, d2] }
  | _ => none }
def Base64ConcatenationWrongFalsely : Prop := base64ConcatenationRow.holds Try.pinned (OpenSpec.ofChange base64ConcatenationWrong)

/-- 'bulletinlaw02.Base64RoundTrip': WHATEVER THE INPUT: true; the input reads as it did. -/
def base64RoundTripSpec : ChangeSpec := { name := "base64RoundTrip", fn := fun _ => fun
  | [d] => { results := [.lit (.bool true)], args := [d] }
  | _ => none }
def base64RoundTripRow : OpenClaim := { program := "ytkmkidbajmbigaa", sum := "886de9a8e9f7a9ff15a01e6990d25febb83e90838f9944f4724ce2a3d3fe4ce8", func := "bulletin/bulletinlaw02.Base64RoundTrip", spec := "base64RoundTrip", inPlace := ["internal/abi.NoEscape"], unfollowed := true, recurses := true, apart := false }
def Base64RoundTripSaid : Prop := base64RoundTripRow.holds Try.pinned (OpenSpec.ofChange base64RoundTripSpec)

/-- ITS FALSE NEIGHBOUR: 'it returns false'. Refute it at one input. -/
def base64RoundTripWrong : ChangeSpec := { name := "base64RoundTrip", fn := fun _ => fun
  | [d] => { results := [.lit (.bool false)], args := [d] }
  | _ => none }
def Base64RoundTripWrongFalsely : Prop := base64RoundTripRow.holds Try.pinned (OpenSpec.ofChange base64RoundTripWrong)

/-- 'bulletinlaw02.Base64Pieces': WHATEVER THE INPUT: true; the input reads as it did. -/
def base64PiecesSpec : ChangeSpec := { name := "base64Pieces", fn := fun _ => fun
  | [d] => { results := [.lit (.bool true)], args := [d] }
  | _ => none }
def base64PiecesRow : OpenClaim := { program := "ytkmkidbajmbigaa", sum := "886de9a8e9f7a9ff15a01e6990d25febb83e90838f9944f4724ce2a3d3fe4ce8", func := "bulletin/bulletinlaw02.Base64Pieces", spec := "base64Pieces", inPlace := ["internal/abi.NoEscape"], unfollowed := true, recurses := true, apart := false }
def Base64PiecesSaid : Prop := base64PiecesRow.holds Try.pinned (OpenSpec.ofChange base64PiecesSpec)

/-- ITS FALSE NEIGHBOUR: 'it returns false'. Refute it at one input. -/
def base64PiecesWrong : ChangeSpec := { name := "base64Pieces", fn := fun _ => fun
  | [d] => { results := [.lit (.bool false)], args := [d] }
  | _ => none }
def Base64PiecesWrongFalsely : Prop := base64PiecesRow.holds Try.pinned (OpenSpec.ofChange base64PiecesWrong)

/- THE SECOND FORM. 'bulk': how many values and letters a reading holds, each counted each time it is reached (what is shared counts as often as it is met; a slice's spare places count too). A statement '..UptoSaid' is the law's where the arguments, and the package variables that the reading takes, are together of bulk at most 1048576: NARROWER than '..Said'. Prove '..Said' where nothing that the law and all that it calls make is longer than what came in: it says more and counts as full. Else prove '..UptoSaid'. A law counts once. -/
mutual
def uptoBulk {H : Type} : DataW H → Nat
  | .lit (.string bytes) => bytes.length + 1
  | .lit _ => 1
  | .nil => 1
  | .ptr d => uptoBulk d + 1
  | .slice elems spare => uptoBulkAll elems + uptoBulkAll spare + 1
  | .agg parts => uptoBulkAll parts + 1
  | .iface _ d => uptoBulk d + 1
  | .map entries => uptoBulkEntries entries + 1
  | .held _ => 1
def uptoBulkAll {H : Type} : List (DataW H) → Nat
  | [] => 0
  | d :: r => uptoBulk d + uptoBulkAll r
def uptoBulkEntries {H : Type} : List (Lit × DataW H) → Nat
  | [] => 0
  | x :: r => uptoBulkEntry x + uptoBulkEntries r
def uptoBulkEntry {H : Type} : Lit × DataW H → Nat
  | (.string bytes, d) => bytes.length + uptoBulk d + 1
  | (_, d) => uptoBulk d + 1
 end
def uptoSmall : (H : Type) → List (DataW H) → Bool := fun _ ds => decide (uptoBulkAll ds ≤ 1048576)
def OpenSpec.upto (s : _root_.Go.ChangeSpec) : _root_.Go.OpenSpec := { _root_.Go.OpenSpec.ofChange s with cond := some uptoSmall }

/-- 'bulletinlaw02.Base64Encode', WHERE WHAT IT READS IS OF BULK AT MOST 1048576: true; the input reads as it did. -/
def base64EncodeUptoRow : OpenClaim := { program := "ytkmkidbajmbigaa", sum := "886de9a8e9f7a9ff15a01e6990d25febb83e90838f9944f4724ce2a3d3fe4ce8", func := "bulletin/bulletinlaw02.Base64Encode", spec := "base64Encode", inPlace := ["internal/abi.NoEscape"], unfollowed := true, recurses := true, apart := false, narrowed := true }
def Base64EncodeUptoSaid : Prop := base64EncodeUptoRow.holds Try.pinned (OpenSpec.upto base64EncodeSpec)

/-- 'bulletinlaw02.Base64Canonical', WHERE WHAT IT READS IS OF BULK AT MOST 1048576: true; the input reads as it did. -/
def base64CanonicalUptoRow : OpenClaim := { program := "ytkmkidbajmbigaa", sum := "886de9a8e9f7a9ff15a01e6990d25febb83e90838f9944f4724ce2a3d3fe4ce8", func := "bulletin/bulletinlaw02.Base64Canonical", spec := "base64Canonical", inPlace := ["internal/abi.NoEscape"], unfollowed := true, recurses := true, apart := false, narrowed := true }
def Base64CanonicalUptoSaid : Prop := base64CanonicalUptoRow.holds Try.pinned (OpenSpec.upto base64CanonicalSpec)

/-- 'bulletinlaw02.Base64Concatenation', WHERE WHAT IT READS IS OF BULK AT MOST 1048576: true; the input reads as it did. -/
def base64ConcatenationUptoRow : OpenClaim := { program := "ytkmkidbajmbigaa", sum := "886de9a8e9f7a9ff15a01e6990d25febb83e90838f9944f4724ce2a3d3fe4ce8", func := "bulletin/bulletinlaw02.Base64Concatenation", spec := "base64Concatenation", inPlace := ["internal/abi.NoEscape"], unfollowed := true, recurses := true, apart := false, narrowed := true }
def Base64ConcatenationUptoSaid : Prop := base64ConcatenationUptoRow.holds Try.pinned (OpenSpec.upto base64ConcatenationSpec)

/-- 'bulletinlaw02.Base64RoundTrip', WHERE WHAT IT READS IS OF BULK AT MOST 1048576: true; the input reads as it did. -/
def base64RoundTripUptoRow : OpenClaim := { program := "ytkmkidbajmbigaa", sum := "886de9a8e9f7a9ff15a01e6990d25febb83e90838f9944f4724ce2a3d3fe4ce8", func := "bulletin/bulletinlaw02.Base64RoundTrip", spec := "base64RoundTrip", inPlace := ["internal/abi.NoEscape"], unfollowed := true, recurses := true, apart := false, narrowed := true }
def Base64RoundTripUptoSaid : Prop := base64RoundTripUptoRow.holds Try.pinned (OpenSpec.upto base64RoundTripSpec)

/-- 'bulletinlaw02.Base64Pieces', WHERE WHAT IT READS IS OF BULK AT MOST 1048576: true; the input reads as it did. -/
def base64PiecesUptoRow : OpenClaim := { program := "ytkmkidbajmbigaa", sum := "886de9a8e9f7a9ff15a01e6990d25febb83e90838f9944f4724ce2a3d3fe4ce8", func := "bulletin/bulletinlaw02.Base64Pieces", spec := "base64Pieces", inPlace := ["internal/abi.NoEscape"], unfollowed := true, recurses := true, apart := false, narrowed := true }
def Base64PiecesUptoSaid : Prop := base64PiecesUptoRow.holds Try.pinned (OpenSpec.upto base64PiecesSpec)

end Rows
end Go.Proofs.Ytkmkidbajmbigaa
