/-
  No cell of these rows narrows 'for every input' (looked for: loops, veiled, ifaces, maps, wideKeys, modest, calm, conditions, laid).
  DERIVED. THE GIVEN ROWS OF THIS SEAT. 3 by the template 'for every input the law returns true; each argument reads behind the call as it read before'; 0 by the template 'total and deterministic' (their statements: YtdndppfjkcfecaaTotals.lean).
  GIVEN WITH THE SEED: the statements are not yours to turn. If you find one false, say at which input.
  Laid BY PROGRAM, IN A SANDBOX (cutbox-rows.mjs): the forced cells as the released guide's own fill.sh prints them over the translation b07a7fdcd9b4ef1e… (all of the seat's roots in one cut). By AI agents, Wed Nov 11 2026. No macro, syntax, notation, axiom, sorry.
-/
import Derived.Test.YtdndppfjkcfecaaChecked
import GoSem.Claim
import GoSem.ClaimJoined
import GoSem.ClaimMapViews
import Derived.JoinedTies
import Derived.KernelRfl
namespace Go.Proofs.Ytdndppfjkcfecaa
/- THE CELL 'sum', in the pinned program and in every row, IS THE sha256 OF THE DUMP (.gsa) THAT YtdndppfjkcfecaaProg.lean LOADS. Nothing in Lean hashes anything: it is a label: what it is worth is what the hold of that sum in a sandbox is worth. -/
noncomputable def Try.pinned : Pinned := { name := "ytdndppfjkcfecaa", sum := "b07a7fdcd9b4ef1eb3832d4c54d47619b58c5dc476901c90d477b2550da9dd25", checked := Try.checked }
namespace Rows
def none {H : Type} : Left H := { results := [], args := [] }

/-- 'jalousielaw06.PadGrows': WHATEVER THE INPUT: true; the input reads as it did. -/
def padGrowsSpec : ChangeSpec := { name := "padGrows", fn := fun _ => fun
  | [d1, d2] => { results := [.lit (.bool true)], args := [d1, d2] }
  | _ => none }
def padGrowsRow : OpenClaim := { program := "ytdndppfjkcfecaa", sum := "b07a7fdcd9b4ef1eb3832d4c54d47619b58c5dc476901c90d477b2550da9dd25", func := "jalousie/jalousielaw06.PadGrows", spec := "padGrows", apart := false }
def PadGrowsSaid : Prop := padGrowsRow.holds Try.pinned (OpenSpec.ofChange padGrowsSpec)

/-- ITS FALSE NEIGHBOUR: 'it returns false'. Refute it at one input. -/
def padGrowsWrong : ChangeSpec := { name := "padGrows", fn := fun _ => fun
  | [d1, d2] => { results := [.lit (.bool false)], args := [d1, d2] }
  | _ => none }
def PadGrowsWrongFalsely : Prop := padGrowsRow.holds Try.pinned (OpenSpec.ofChange padGrowsWrong)

/-- 'jalousielaw06.PadBuckets': WHATEVER THE INPUT: true; the input reads as it did. -/
def padBucketsSpec : ChangeSpec := { name := "padBuckets", fn := fun _ => fun
  | [d] => { results := [.lit (.bool true)], args := [d] }
  | _ => none }
def padBucketsRow : OpenClaim := { program := "ytdndppfjkcfecaa", sum := "b07a7fdcd9b4ef1eb3832d4c54d47619b58c5dc476901c90d477b2550da9dd25", func := "jalousie/jalousielaw06.PadBuckets", spec := "padBuckets", apart := false }
def PadBucketsSaid : Prop := padBucketsRow.holds Try.pinned (OpenSpec.ofChange padBucketsSpec)

/-- ITS FALSE NEIGHBOUR: 'it returns false'. Refute it at one input. -/
def padBucketsWrong : ChangeSpec := { name := "padBuckets", fn := fun _ => fun
  | [d] => { results := [.lit (.bool false)], args := [d] }
  | _ => none }
def PadBucketsWrongFalsely : Prop := padBucketsRow.holds Try.pinned (OpenSpec.ofChange padBucketsWrong)

/-- 'jalousielaw06.PadAlike': WHATEVER THE INPUT: true; the input reads as it did. -/
def padAlikeSpec : ChangeSpec := { name := "padAlike", fn := fun _ => fun
  | [d1, d2] => { results := [.lit (.bool true)], args := [d1, d2] }
  | _ => none }
def padAlikeRow : OpenClaim := { program := "ytdndppfjkcfecaa", sum := "b07a7fdcd9b4ef1eb3832d4c54d47619b58c5dc476901c90d477b2550da9dd25", func := "jalousie/jalousielaw06.PadAlike", spec := "padAlike", apart := false }
def PadAlikeSaid : Prop := padAlikeRow.holds Try.pinned (OpenSpec.ofChange padAlikeSpec)

/-- ITS FALSE NEIGHBOUR: 'it returns false'. Refute it at one input. -/
def padAlikeWrong : ChangeSpec := { name := "padAlike", fn := fun _ => fun
  | [d1, d2] => { results := [.lit (.bool false)], args := [d1, d2] }
  | _ => none }
def PadAlikeWrongFalsely : Prop := padAlikeRow.holds Try.pinned (OpenSpec.ofChange padAlikeWrong)

/- THE SECOND FORM. 'bulk': how many values and letters a reading holds, each counted each time it is reached (what is shared counts as often as it is met; a slice's spare places count too). A statement '..UptoSaid' is the law's where the arguments, and the package variables that the reading takes, are together of bulk at most 1048576: NARROWER than '..Said'. Prove '..Said' where nothing that the law and all that it calls make is longer than what came in: it says more and counts as full. Else prove '..UptoSaid'. A law counts once. -/
mutual
def uptoBulk {H : Type} : DataW H → Nat
  | .lit (.string bytes) => bytes.length + 1
  | .lit _ => 1
  | .nil => 1
  | .ptr d => uptoBulk d + 1
  | .slice elems spare => uptoBulkAll elems + uptoBulkAll spare + 1
  | .agg parts => uptoBulkAll parts + 1
  | .iface _ d => uptoBulk d + 1
  | .map entries => uptoBulkEntries entries + 1
  | .held _ => 1
def uptoBulkAll {H : Type} : List (DataW H) → Nat
  | [] => 0
  | d :: r => uptoBulk d + uptoBulkAll r
def uptoBulkEntries {H : Type} : List (Lit × DataW H) → Nat
  | [] => 0
  | x :: r => uptoBulkEntry x + uptoBulkEntries r
def uptoBulkEntry {H : Type} : Lit × DataW H → Nat
  | (.string bytes, d) => bytes.length + uptoBulk d + 1
  | (_, d) => uptoBulk d + 1
 end
def uptoSmall : (H : Type) → List (DataW H) → Bool := fun _ ds => decide (uptoBulkAll ds ≤ 1048576)
def OpenSpec.upto (s : _root_.Go.ChangeSpec) : _root_.Go.OpenSpec := { _root_.Go.OpenSpec.ofChange s with cond := some uptoSmall }

/-- 'jalousielaw06.PadGrows', WHERE WHAT IT READS IS OF BULK AT MOST 1048576: true; the input reads as it did. -/
def padGrowsUptoRow : OpenClaim := { program := "ytdndppfjkcfecaa", sum := "b07a7fdcd9b4ef1eb3832d4c54d47619b58c5dc476901c90d477b2550da9dd25", func := "jalousie/jalousielaw06.PadGrows", spec := "padGrows", apart := false, narrowed := true }
def PadGrowsUptoSaid : Prop := padGrowsUptoRow.holds Try.pinned (OpenSpec.upto padGrowsSpec)

/-- 'jalousielaw06.PadBuckets', WHERE WHAT IT READS IS OF BULK AT MOST 1048576: true; the input reads as it did. -/
def padBucketsUptoRow : OpenClaim := { program := "ytdndppfjkcfecaa", sum := "b07a7fdcd9b4ef1eb3832d4c54d47619b58c5dc476901c90d477b2550da9dd25", func := "jalousie/jalousielaw06.PadBuckets", spec := "padBuckets", apart := false, narrowed := true }
def PadBucketsUptoSaid : Prop := padBucketsUptoRow.holds Try.pinned (OpenSpec.upto padBucketsSpec)

/-- 'jalousielaw06.PadAlike', WHERE WHAT IT READS IS OF BULK AT MOST 1048576: true; the input reads as it did. -/
def padAlikeUptoRow : OpenClaim := { program := "ytdndppfjkcfecaa", sum := "b07a7fdcd9b4ef1eb3832d4c54d47619b58c5dc476901c90d477b2550da9dd25", func := "jalousie/jalousielaw06.PadAlike", spec := "padAlike", apart := false, narrowed := true }
def PadAlikeUptoSaid : Prop := padAlikeUptoRow.holds Try.pinned (OpenSpec.upto padAlikeSpec)

end Rows
end Go.Proofs.Ytdndppfjkcfecaa
