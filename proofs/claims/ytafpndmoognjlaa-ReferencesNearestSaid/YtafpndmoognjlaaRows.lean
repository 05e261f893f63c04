/-
  No cell of these rows narrows 'for every input' (looked for: loops, veiled, ifaces, maps, wideKeys, modest, calm, conditions, laid).
  DERIVED. THE GIVEN ROWS OF THIS SEAT. 8 by the template 'for every input the law returns true; each argument reads behind the call as it read before'; 0 by the template 'total and deterministic' (their statements: YtafpndmoognjlaaTotals.lean).
  GIVEN WITH THE SEED: the statements are not yours to turn. If you find one false, say at which input.
  Laid BY PROGRAM, IN A SANDBOX (cutbox-rows.mjs): the forced cells as the released guide's own fill.sh prints them over the translation 90abf3350ea57ed4… (all of the seat's roots in one cut). By AI agents, Wed Nov 11 2026. No macro, syntax, notation, axiom, sorry.
-/
import Derived.Test.YtafpndmoognjlaaChecked
import GoSem.Claim
import GoSem.ClaimJoined
import GoSem.ClaimMapViews
import Derived.JoinedTies
import Derived.KernelRfl
namespace Go.Proofs.Ytafpndmoognjlaa
/- THE CELL 'sum', in the pinned program and in every row, IS THE sha256 OF THE DUMP (.gsa) THAT YtafpndmoognjlaaProg.lean LOADS. Nothing in Lean hashes anything: it is a label: what it is worth is what the hold of that sum in a sandbox is worth. -/
noncomputable def Try.pinned : Pinned := { name := "ytafpndmoognjlaa", sum := "90abf3350ea57ed4679c8531d5c76655c5c2fc6bcc5e19ddacb657c36f8d91f7", checked := Try.checked }
namespace Rows
def none {H : Type} : Left H := { results := [], args := [] }

/-- 'bulletinlaw14.ReferencesTrim': WHATEVER THE INPUT: true; the input reads as it did. -/
def referencesTrimSpec : ChangeSpec := { name := "referencesTrim", fn := fun _ => fun
  | [d1, d2, d3] => { results := [.lit (.bool true)], args := [d1, d2, d3] }
  | _ => none }
def referencesTrimRow : OpenClaim := { program := "ytafpndmoognjlaa", sum := "90abf3350ea57ed4679c8531d5c76655c5c2fc6bcc5e19ddacb657c36f8d91f7", func := "bulletin/bulletinlaw14.ReferencesTrim", spec := "referencesTrim", plainKeys := false, apart := false }
def ReferencesTrimSaid : Prop := referencesTrimRow.holds Try.pinned (OpenSpec.ofChange referencesTrimSpec)

/-- ITS FALSE NEIGHBOUR: 'it returns false'. Refute it at one input. -/
def referencesTrimWrong : ChangeSpec := { name := "referencesTrim", fn := fun _ => fun
  | [d1, d2, d3] => { results := [.lit (.bool false)], args := [d1, d2, d3] }
  | _ => none }
def ReferencesTrimWrongFalsely : Prop := referencesTrimRow.holds Try.pinned (OpenSpec.ofChange referencesTrimWrong)

/-- 'bulletinlaw14.ReferencesNearest': WHATEVER THE INPUT: true; the input reads as it did. -/
def referencesNearestSpec : ChangeSpec := { name := "referencesNearest", fn := fun _ => fun
  | [d1, d2] => { results := [.lit (.bool true)], args := [d1, d2] }
  | _ => none }
def referencesNearestRow : OpenClaim := { program := "ytafpndmoognjlaa", sum := "90abf3350ea57ed4679c8531d5c76655c5c2fc6bcc5e19ddacb657c36f8d91f7", func := "bulletin/bulletinlaw14.ReferencesNearest", spec := "referencesNearest", unfollowed := true, recurses := true, plainKeys := false, apart := false }
def ReferencesNearestSaid : Prop := referencesNearestRow.holds Try.pinned (OpenSpec.ofChange referencesNearestSpec)

/-- ITS FALSE NEIGHBOUR: 'it returns false'. Refute it at one input. -/
def referencesNearestWrong : ChangeSpec := { name := "referencesNearest", fn := fun _ => fun
  | [d1, d2] => { results := [.lit (.bool false)], args := [d1, d2] }
  | _ => none }
def ReferencesNearestWrongFalsely : Prop := referencesNearestRow.holds Try.pinned (OpenSpec.ofChange referencesNearestWrong)

/-- 'bulletinlaw14.ReferencesKept': WHATEVER THE INPUT: true; the input reads as it did. -/
def referencesKeptSpec : ChangeSpec := { name := "referencesKept", fn := fun _ => fun
  | [d1, d2] => { results := [.lit (.bool true)], args := [d1, d2] }
  | _ => none }
def referencesKeptRow : OpenClaim := { program := "ytafpndmoognjlaa", sum := "90abf3350ea57ed4679c8531d5c76655c5c2fc6bcc5e19ddacb657c36f8d91f7", func := "bulletin/bulletinlaw14.ReferencesKept", spec := "referencesKept", plainKeys := false, apart := false }
def ReferencesKeptSaid : Prop := referencesKeptRow.holds Try.pinned (OpenSpec.ofChange referencesKeptSpec)

/-- ITS FALSE NEIGHBOUR: 'it returns false'. Refute it at one input. -/
def referencesKeptWrong : ChangeSpec := { name := "referencesKept", fn := fun _ => fun
  | [d1, d2] => { results := [.lit (.bool false)], args := [d1, d2] }
  | _ => none }
def ReferencesKeptWrongFalsely : Prop := referencesKeptRow.holds Try.pinned (OpenSpec.ofChange referencesKeptWrong)

/-- 'bulletinlaw14.ReferencesReply': WHATEVER THE INPUT: true; the input reads as it did. -/
def referencesReplySpec : ChangeSpec := { name := "referencesReply", fn := fun _ => fun
  | [d1, d2] => { results := [.lit (.bool true)], args := [d1, d2] }
  | _ => none }
def referencesReplyRow : OpenClaim := { program := "ytafpndmoognjlaa", sum := "90abf3350ea57ed4679c8531d5c76655c5c2fc6bcc5e19ddacb657c36f8d91f7", func := "bulletin/bulletinlaw14.ReferencesReply", spec := "referencesReply", plainKeys := false, apart := false }
def ReferencesReplySaid : Prop := referencesReplyRow.holds Try.pinned (OpenSpec.ofChange referencesReplySpec)

/-- ITS FALSE NEIGHBOUR: 'it returns false'. Refute it at one input. -/
def referencesReplyWrong : ChangeSpec := { name := "referencesReply", fn := fun _ => fun
  | [d1, d2] => { results := [.lit (.bool false)], args := [d1, d2] }
  | _ => none }
def ReferencesReplyWrongFalsely : Prop := referencesReplyRow.holds Try.pinned (OpenSpec.ofChange referencesReplyWrong)

/-- 'bulletinlaw14.ReferencesChain': WHATEVER THE INPUT: true; the input reads as it did. -/
def referencesChainSpec : ChangeSpec := { name := "referencesChain", fn := fun _ => fun
  | [d] => { results := [.lit (.bool true)], args := [d] }
  | _ => none }
def referencesChainRow : OpenClaim := { program := "ytafpndmoognjlaa", sum := "90abf3350ea57ed4679c8531d5c76655c5c2fc6bcc5e19ddacb657c36f8d91f7", func := "bulletin/bulletinlaw14.ReferencesChain", spec := "referencesChain", plainKeys := false, apart := false }
def ReferencesChainSaid : Prop := referencesChainRow.holds Try.pinned (OpenSpec.ofChange referencesChainSpec)

/-- ITS FALSE NEIGHBOUR: 'it returns false'. Refute it at one input. -/
def referencesChainWrong : ChangeSpec := { name := "referencesChain", fn := fun _ => fun
  | [d] => { results := [.lit (.bool false)], args := [d] }
  | _ => none }
def ReferencesChainWrongFalsely : Prop := referencesChainRow.holds Try.pinned (OpenSpec.ofChange referencesChainWrong)

/-- 'bulletinlaw14.ReferencesParse': WHATEVER THE INPUT: true; the input reads as it did. -/
def referencesParseSpec : ChangeSpec := { name := "referencesParse", fn := fun _ => fun
  | [d] => { results := [.lit (.bool true)], args := [d] }
  | _ => none }
def referencesParseRow : OpenClaim := { program := "ytafpndmoognjlaa", sum := "90abf3350ea57ed4679c8531d5c76655c5c2fc6bcc5e19ddacb657c36f8d91f7", func := "bulletin/bulletinlaw14.ReferencesParse", spec := "referencesParse", inPlace := ["internal/abi.NoEscape", "internal/bytealg.IndexByteString"], unfollowed := true, recurses := true, plainKeys := false, apart := false }
def ReferencesParseSaid : Prop := referencesParseRow.holds Try.pinned (OpenSpec.ofChange referencesParseSpec)

/-- ITS FALSE NEIGHBOUR: 'it returns false'. Refute it at one input. -/
def referencesParseWrong : ChangeSpec := { name := "referencesParse", fn := fun _ => fun
  | [d] => { results := [.lit (.bool false)], args := [d] }
  | _ => none }
def ReferencesParseWrongFalsely : Prop := referencesParseRow.holds Try.pinned (OpenSpec.ofChange referencesParseWrong)

/-- 'bulletinlaw14.ReferencesPrint': WHATEVER THE INPUT: true; the input reads as it did. -/
def referencesPrintSpec : ChangeSpec := { name := "referencesPrint", fn := fun _ => fun
  | [d] => { results := [.lit (.bool true)], args := [d] }
  | _ => none }
def referencesPrintRow : OpenClaim := { program := "ytafpndmoognjlaa", sum := "90abf3350ea57ed4679c8531d5c76655c5c2fc6bcc5e19ddacb657c36f8d91f7", func := "bulletin/bulletinlaw14.ReferencesPrint", spec := "referencesPrint", inPlace := ["internal/abi.NoEscape", "internal/bytealg.MakeNoZero"], plainKeys := false, apart := false }
def ReferencesPrintSaid : Prop := referencesPrintRow.holds Try.pinned (OpenSpec.ofChange referencesPrintSpec)

/-- ITS FALSE NEIGHBOUR: 'it returns false'. Refute it at one input. -/
def referencesPrintWrong : ChangeSpec := { name := "referencesPrint", fn := fun _ => fun
  | [d] => { results := [.lit (.bool false)], args := [d] }
  | _ => none }
def ReferencesPrintWrongFalsely : Prop := referencesPrintRow.holds Try.pinned (OpenSpec.ofChange referencesPrintWrong)

/-- 'bulletinlaw14.ReferencesRoundTrip': WHATEVER THE INPUT: true; the input reads as it did. -/
def referencesRoundTripSpec : ChangeSpec := { name := "referencesRoundTrip", fn := fun _ => fun
  | [d1, d2] => { results := [.lit (.bool true)], args := [d1, d2] }
  | _ => none }
def referencesRoundTripRow : OpenClaim := { program := "ytafpndmoognjlaa", sum := "90abf3350ea57ed4679c8531d5c76655c5c2fc6bcc5e19ddacb657c36f8d91f7", func := "bulletin/bulletinlaw14.ReferencesRoundTrip", spec := "referencesRoundTrip", inPlace := ["internal/abi.NoEscape", "internal/bytealg.MakeNoZero", "internal/bytealg.IndexByteString"], unfollowed := true, recurses := true, plainKeys := false, apart := false }
def ReferencesRoundTripSaid : Prop := referencesRoundTripRow.holds Try.pinned (OpenSpec.ofChange referencesRoundTripSpec)

/-- ITS FALSE NEIGHBOUR: 'it returns false'. Refute it at one input. -/
def referencesRoundTripWrong : ChangeSpec := { name := "referencesRoundTrip", fn := fun _ => fun
  | [d1, d2] => { results := [.lit (.bool false)], args := [d1, d2] }
  | _ => none }
def ReferencesRoundTripWrongFalsely : Prop := referencesRoundTripRow.holds Try.pinned (OpenSpec.ofChange referencesRoundTripWrong)

/- THE SECOND FORM. 'bulk': how many values and letters a reading holds, each counted each time it is reached (what is shared counts as often as it is met; a slice's spare places count too). A statement '..UptoSaid' is the law's where the arguments, and the package variables that the reading takes, are together of bulk at most 1048576: NARROWER than '..Said'. Prove '..Said' where nothing that the law and all that it calls make is longer than what came in: it says more and counts as full. Else prove '..UptoSaid'. A law counts once. -/
mutual
def uptoBulk {H : Type} : DataW H → Nat
  | .lit (.string bytes) => bytes.length + 1
  | .lit _ => 1
  | .nil => 1
  | .ptr d => uptoBulk d + 1
  | .slice elems spare => uptoBulkAll elems + uptoBulkAll spare + 1
  | .agg parts => uptoBulkAll parts + 1
  | .iface _ d => uptoBulk d + 1
  | .map entries => uptoBulkEntries entries + 1
  | .held _ => 1
def uptoBulkAll {H : Type} : List (DataW H) → Nat
  | [] => 0
  | d :: r => uptoBulk d + uptoBulkAll r
def uptoBulkEntries {H : Type} : List (Lit × DataW H) → Nat
  | [] => 0
  | x :: r => uptoBulkEntry x + uptoBulkEntries r
def uptoBulkEntry {H : Type} : Lit × DataW H → Nat
  | (.string bytes, d) => bytes.length + uptoBulk d + 1
  | (_, d) => uptoBulk d + 1
 end
def uptoSmall : (H : Type) → List (DataW H) → Bool := fun _ ds => decide (uptoBulkAll ds ≤ 1048576)
def OpenSpec.upto (s : _root_.Go.ChangeSpec) : _root_.Go.OpenSpec := { _root_.Go.OpenSpec.ofChange s with cond := some uptoSmall }

/-- 'bulletinlaw14.ReferencesTrim', WHERE WHAT IT READS IS OF BULK AT MOST 1048576: true; the input reads as it did. -/
def referencesTrimUptoRow : OpenClaim := { program := "ytafpndmoognjlaa", sum := "90abf3350ea57ed4679c8531d5c76655c5c2fc6bcc5e19ddacb657c36f8d91f7", func := "bulletin/bulletinlaw14.ReferencesTrim", spec := "referencesTrim", plainKeys := false, apart := false, narrowed := true }
def ReferencesTrimUptoSaid : Prop := referencesTrimUptoRow.holds Try.pinned (OpenSpec.upto referencesTrimSpec)

/-- 'bulletinlaw14.ReferencesNearest', WHERE WHAT IT READS IS OF BULK AT MOST 1048576: true; the input reads as it did. -/
def referencesNearestUptoRow : OpenClaim := { program := "ytafpndmoognjlaa", sum := "90abf3350ea57ed4679c8531d5c76655c5c2fc6bcc5e19ddacb657c36f8d91f7", func := "bulletin/bulletinlaw14.ReferencesNearest", spec := "referencesNearest", unfollowed := true, recurses := true, plainKeys := false, apart := false, narrowed := true }
def ReferencesNearestUptoSaid : Prop := referencesNearestUptoRow.holds Try.pinned (OpenSpec.upto referencesNearestSpec)

/-- 'bulletinlaw14.ReferencesKept', WHERE WHAT IT READS IS OF BULK AT MOST 1048576: true; the input reads as it did. -/
def referencesKeptUptoRow : OpenClaim := { program := "ytafpndmoognjlaa", sum := "90abf3350ea57ed4679c8531d5c76655c5c2fc6bcc5e19ddacb657c36f8d91f7", func := "bulletin/bulletinlaw14.ReferencesKept", spec := "referencesKept", plainKeys := false, apart := false, narrowed := true }
def ReferencesKeptUptoSaid : Prop := referencesKeptUptoRow.holds Try.pinned (OpenSpec.upto referencesKeptSpec)

/-- 'bulletinlaw14.ReferencesReply', WHERE WHAT IT READS IS OF BULK AT MOST 1048576: true; the input reads as it did. -/
def referencesReplyUptoRow : OpenClaim := { program := "ytafpndmoognjlaa", sum := "90abf3350ea57ed4679c8531d5c76655c5c2fc6bcc5e19ddacb657c36f8d91f7", func := "bulletin/bulletinlaw14.ReferencesReply", spec := "referencesReply", plainKeys := false, apart := false, narrowed := true }
def ReferencesReplyUptoSaid : Prop := referencesReplyUptoRow.holds Try.pinned (OpenSpec.upto referencesReplySpec)

/-- 'bulletinlaw14.ReferencesChain', WHERE WHAT IT READS IS OF BULK AT MOST 1048576: true; the input reads as it did. -/
def referencesChainUptoRow : OpenClaim := { program := "ytafpndmoognjlaa", sum := "90abf3350ea57ed4679c8531d5c76655c5c2fc6bcc5e19ddacb657c36f8d91f7", func := "bulletin/bulletinlaw14.ReferencesChain", spec := "referencesChain", plainKeys := false, apart := false, narrowed := true }
def ReferencesChainUptoSaid : Prop := referencesChainUptoRow.holds Try.pinned (OpenSpec.upto referencesChainSpec)

/-- 'bulletinlaw14.ReferencesParse', WHERE WHAT IT READS IS OF BULK AT MOST 1048576: true; the input reads as it did. -/
def referencesParseUptoRow : OpenClaim := { program := "ytafpndmoognjlaa", sum := "90abf3350ea57ed4679c8531d5c76655c5c2fc6bcc5e19ddacb657c36f8d91f7", func := "bulletin/bulletinlaw14.ReferencesParse", spec := "referencesParse", inPlace := ["internal/abi.NoEscape", "internal/bytealg.IndexByteString"], unfollowed := true, recurses := true, plainKeys := false, apart := false, narrowed := true }
def ReferencesParseUptoSaid : Prop := referencesParseUptoRow.holds Try.pinned (OpenSpec.upto referencesParseSpec)

/-- 'bulletinlaw14.ReferencesPrint', WHERE WHAT IT READS IS OF BULK AT MOST 1048576: true; the input reads as it did. -/
def referencesPrintUptoRow : OpenClaim := { program := "ytafpndmoognjlaa", sum := "90abf3350ea57ed4679c8531d5c76655c5c2fc6bcc5e19ddacb657c36f8d91f7", func := "bulletin/bulletinlaw14.ReferencesPrint", spec := "referencesPrint", inPlace := ["internal/abi.NoEscape", "internal/bytealg.MakeNoZero"], plainKeys := false, apart := false, narrowed := true }
def ReferencesPrintUptoSaid : Prop := referencesPrintUptoRow.holds Try.pinned (OpenSpec.upto referencesPrintSpec)

/-- 'bulletinlaw14.ReferencesRoundTrip', WHERE WHAT IT READS IS OF BULK AT MOST 1048576: true; the input reads as it did. -/
def referencesRoundTripUptoRow : OpenClaim := { program := "ytafpndmoognjlaa", sum := "90abf3350ea57ed4679c8531d5c76655c5c2fc6bcc5e19ddacb657c36f8d91f7", func := "bulletin/bulletinlaw14.ReferencesRoundTrip", spec := "referencesRoundTrip", inPlace := ["internal/abi.NoEscape", "internal/bytealg.MakeNoZero", "internal/bytealg.IndexByteString"], unfollowed := true, recurses := true, plainKeys := false, apart := false, narrowed := true }
def ReferencesRoundTripUptoSaid : Prop := referencesRoundTripUptoRow.holds Try.pinned (OpenSpec.upto referencesRoundTripSpec)

end Rows
end Go.Proofs.Ytafpndmoognjlaa
