/-
  NARROWER THAN 'FOR EVERY INPUT', by the rows' own cells (each row's printed sentence says how): KeccakSponge: laid · KeccakPermutes: laid · KeccakSums: laid · KeccakApart: laid · KeccakPieces: laid · MerkleHalves: laid · MerkleProves: laid · MerkleTrees: laid · MerkleFolds: laid.
  DERIVED. THE GIVEN ROWS OF THIS SEAT. 9 by the template 'for every input the law returns true; each argument reads behind the call as it read before'; 0 by the template 'total and deterministic' (their statements: YtikkebjhnechdaaDoorTotals.lean).
  GIVEN WITH THE SEED: the statements are not yours to turn. If you find one false, say at which input.
  Laid BY PROGRAM, IN A SANDBOX (cutbox-rows.mjs): the forced cells as the released guide's own fill.sh prints them over the translation 3522f04ec2c25cc4… (all of the seat's roots in one cut). By AI agents, Wed Nov 11 2026. No macro, syntax, notation, axiom, sorry.
-/
import Derived.Test.YtikkebjhnechdaaDoorChecked
import GoSem.Claim
import GoSem.ClaimJoined
import GoSem.ClaimMapViews
import Derived.JoinedTies
import Derived.KernelRfl
namespace Go.Proofs.YtikkebjhnechdaaDoor
/- THE CELL 'sum', in the pinned program and in every row, IS THE sha256 OF THE DUMP (.gsa) THAT YtikkebjhnechdaaDoorProg.lean LOADS. Nothing in Lean hashes anything: it is a label: what it is worth is what the hold of that sum in a sandbox is worth. -/
noncomputable def Tryd.pinned : Pinned := { name := "ytikkebjhnechdaadoor", sum := "3522f04ec2c25cc473b4255aa51231d570bdac4a6ba797714f67e2a159759438", checked := Tryd.checked }
namespace Rows
def none {H : Type} : Left H := { results := [], args := [] }

/- WHAT THE LISTED PACKAGE-LEVEL VARIABLES READ AS WHEN THE CALL BEGINS. Each datum BY PROGRAM (the guide's laid-datum.mjs) off the statement by which the dump's own 'gosem.cut.vars' lays the variable. In a bare row this is a premise. The card (YtikkebjhnechdaaDoorCards.lean) ties it to the program's text. -/
def laid_moot_keccak_rounds {H : Type} : DataW H := .agg [.lit (.int .u64 1), .lit (.int .u64 32898), .lit (.int .u64 9223372036854808714), .lit (.int .u64 9223372039002292224), .lit (.int .u64 32907), .lit (.int .u64 2147483649), .lit (.int .u64 9223372039002292353), .lit (.int .u64 9223372036854808585), .lit (.int .u64 138), .lit (.int .u64 136), .lit (.int .u64 2147516425), .lit (.int .u64 2147483658), .lit (.int .u64 2147516555), .lit (.int .u64 9223372036854775947), .lit (.int .u64 9223372036854808713), .lit (.int .u64 9223372036854808579), .lit (.int .u64 9223372036854808578), .lit (.int .u64 9223372036854775936), .lit (.int .u64 32778), .lit (.int .u64 9223372039002259466), .lit (.int .u64 9223372039002292353), .lit (.int .u64 9223372036854808704), .lit (.int .u64 2147483649), .lit (.int .u64 9223372039002292232)]
def laid_moot_keccak_lanes {H : Type} : DataW H := .agg [.lit (.int .i64 10), .lit (.int .i64 7), .lit (.int .i64 11), .lit (.int .i64 17), .lit (.int .i64 18), .lit (.int .i64 3), .lit (.int .i64 5), .lit (.int .i64 16), .lit (.int .i64 8), .lit (.int .i64 21), .lit (.int .i64 24), .lit (.int .i64 4), .lit (.int .i64 15), .lit (.int .i64 23), .lit (.int .i64 19), .lit (.int .i64 13), .lit (.int .i64 12), .lit (.int .i64 2), .lit (.int .i64 20), .lit (.int .i64 14), .lit (.int .i64 22), .lit (.int .i64 9), .lit (.int .i64 6), .lit (.int .i64 1)]
def laid_moot_keccak_turns {H : Type} : DataW H := .agg [.lit (.int .i64 1), .lit (.int .i64 3), .lit (.int .i64 6), .lit (.int .i64 10), .lit (.int .i64 15), .lit (.int .i64 21), .lit (.int .i64 28), .lit (.int .i64 36), .lit (.int .i64 45), .lit (.int .i64 55), .lit (.int .i64 2), .lit (.int .i64 14), .lit (.int .i64 27), .lit (.int .i64 41), .lit (.int .i64 56), .lit (.int .i64 8), .lit (.int .i64 25), .lit (.int .i64 43), .lit (.int .i64 62), .lit (.int .i64 18), .lit (.int .i64 39), .lit (.int .i64 61), .lit (.int .i64 20), .lit (.int .i64 44)]
def laid_errors_errorType {H : Type} : DataW H := .iface "internal/reflectlite.rtype" (.agg [.ptr (.lit (.string [101, 114, 114, 111, 114]))])

/-- 'mootlaw02.KeccakSponge': WHATEVER THE INPUT: true; the input reads as it did. -/
def keccakSpongeSpec : ChangeSpec := { name := "keccakSponge", fn := fun _ => fun
  | [d] => { results := [.lit (.bool true)], args := [d] }
  | _ => none }
def keccakSpongeRow : OpenClaim := { program := "ytikkebjhnechdaadoor", sum := "3522f04ec2c25cc473b4255aa51231d570bdac4a6ba797714f67e2a159759438", func := "moot/mootlaw02.KeccakSponge", spec := "keccakSponge", named := ["moot/keccak.rounds", "moot/keccak.lanes", "moot/keccak.turns"], apart := false, laid := [("moot/keccak.rounds", laid_moot_keccak_rounds), ("moot/keccak.lanes", laid_moot_keccak_lanes), ("moot/keccak.turns", laid_moot_keccak_turns)] }
def KeccakSpongeSaid : Prop := keccakSpongeRow.holds Tryd.pinned (OpenSpec.ofChange keccakSpongeSpec)

/-- ITS FALSE NEIGHBOUR: 'it returns false'. Refute it at one input. -/
def keccakSpongeWrong : ChangeSpec := { name := "keccakSponge", fn := fun _ => fun
  | [d] => { results := [.lit (.bool false)], args := [d] }
  | _ => none }
def KeccakSpongeWrongFalsely : Prop := keccakSpongeRow.holds Tryd.pinned (OpenSpec.ofChange keccakSpongeWrong)

/-- 'mootlaw02.KeccakPermutes': WHATEVER THE INPUT: true; the input reads as it did. -/
def keccakPermutesSpec : ChangeSpec := { name := "keccakPermutes", fn := fun _ => fun
  | [d1, d2] => { results := [.lit (.bool true)], args := [d1, d2] }
  | _ => none }
def keccakPermutesRow : OpenClaim := { program := "ytikkebjhnechdaadoor", sum := "3522f04ec2c25cc473b4255aa51231d570bdac4a6ba797714f67e2a159759438", func := "moot/mootlaw02.KeccakPermutes", spec := "keccakPermutes", named := ["moot/keccak.rounds", "moot/keccak.lanes", "moot/keccak.turns"], apart := false, laid := [("moot/keccak.rounds", laid_moot_keccak_rounds), ("moot/keccak.lanes", laid_moot_keccak_lanes), ("moot/keccak.turns", laid_moot_keccak_turns)] }
def KeccakPermutesSaid : Prop := keccakPermutesRow.holds Tryd.pinned (OpenSpec.ofChange keccakPermutesSpec)

/-- ITS FALSE NEIGHBOUR: 'it returns false'. Refute it at one input. -/
def keccakPermutesWrong : ChangeSpec := { name := "keccakPermutes", fn := fun _ => fun
  | [d1, d2] => { results := [.lit (.bool false)], args := [d1, d2] }
  | _ => none }
def KeccakPermutesWrongFalsely : Prop := keccakPermutesRow.holds Tryd.pinned (OpenSpec.ofChange keccakPermutesWrong)

/-- 'mootlaw02.KeccakSums': WHATEVER THE INPUT: true; the input reads as it did. -/
def keccakSumsSpec : ChangeSpec := { name := "keccakSums", fn := fun _ => fun
  | [d1, d2, d3] => { results := [.lit (.bool true)], args := [d1, d2, d3] }
  | _ => none }
def keccakSumsRow : OpenClaim := { program := "ytikkebjhnechdaadoor", sum := "3522f04ec2c25cc473b4255aa51231d570bdac4a6ba797714f67e2a159759438", func := "moot/mootlaw02.KeccakSums", spec := "keccakSums", named := ["moot/keccak.rounds", "moot/keccak.lanes", "moot/keccak.turns"], apart := false, laid := [("moot/keccak.rounds", laid_moot_keccak_rounds), ("moot/keccak.lanes", laid_moot_keccak_lanes), ("moot/keccak.turns", laid_moot_keccak_turns)] }
def KeccakSumsSaid : Prop := keccakSumsRow.holds Tryd.pinned (OpenSpec.ofChange keccakSumsSpec)

/-- ITS FALSE NEIGHBOUR: 'it returns false'. Refute it at one input. -/
def keccakSumsWrong : ChangeSpec := { name := "keccakSums", fn := fun _ => fun
  | [d1, d2, d3] => { results := [.lit (.bool false)], args := [d1, d2, d3] }
  | _ => none }
def KeccakSumsWrongFalsely : Prop := keccakSumsRow.holds Tryd.pinned (OpenSpec.ofChange keccakSumsWrong)

/-- 'mootlaw02.KeccakApart': WHATEVER THE INPUT: true; the input reads as it did. -/
def keccakApartSpec : ChangeSpec := { name := "keccakApart", fn := fun _ => fun
  | [d1, d2] => { results := [.lit (.bool true)], args := [d1, d2] }
  | _ => none }
def keccakApartRow : OpenClaim := { program := "ytikkebjhnechdaadoor", sum := "3522f04ec2c25cc473b4255aa51231d570bdac4a6ba797714f67e2a159759438", func := "moot/mootlaw02.KeccakApart", spec := "keccakApart", inPlace := ["internal/reflectlite.TypeOf"], unfollowed := true, recurses := true, named := ["moot/keccak.rounds", "moot/keccak.lanes", "moot/keccak.turns"], apart := false, laid := [("moot/keccak.rounds", laid_moot_keccak_rounds), ("moot/keccak.lanes", laid_moot_keccak_lanes), ("moot/keccak.turns", laid_moot_keccak_turns)] }
def KeccakApartSaid : Prop := keccakApartRow.holds Tryd.pinned (OpenSpec.ofChange keccakApartSpec)

/-- ITS FALSE NEIGHBOUR: 'it returns false'. Refute it at one input. -/
def keccakApartWrong : ChangeSpec := { name := "keccakApart", fn := fun _ => fun
  | [d1, d2] => { results := [.lit (.bool false)], args := [d1, d2] }
  | _ => none }
def KeccakApartWrongFalsely : Prop := keccakApartRow.holds Tryd.pinned (OpenSpec.ofChange keccakApartWrong)

/-- 'mootlaw02.KeccakPieces': WHATEVER THE INPUT: true; the input reads as it did. -/
def keccakPiecesSpec : ChangeSpec := { name := "keccakPieces", fn := fun _ => fun
  | [d] => { results := [.lit (.bool true)], args := [d] }
  | _ => none }
def keccakPiecesRow : OpenClaim := { program := "ytikkebjhnechdaadoor", sum := "3522f04ec2c25cc473b4255aa51231d570bdac4a6ba797714f67e2a159759438", func := "moot/mootlaw02.KeccakPieces", spec := "keccakPieces", inPlace := ["internal/reflectlite.TypeOf"], unfollowed := true, recurses := true, named := ["moot/keccak.rounds", "moot/keccak.lanes", "moot/keccak.turns"], apart := false, laid := [("moot/keccak.rounds", laid_moot_keccak_rounds), ("moot/keccak.lanes", laid_moot_keccak_lanes), ("moot/keccak.turns", laid_moot_keccak_turns)] }
def KeccakPiecesSaid : Prop := keccakPiecesRow.holds Tryd.pinned (OpenSpec.ofChange keccakPiecesSpec)

/-- ITS FALSE NEIGHBOUR: 'it returns false'. Refute it at one input. -/
def keccakPiecesWrong : ChangeSpec := { name := "keccakPieces", fn := fun _ => fun
  | [d] => { results := [.lit (.bool false)], args := [d] }
  | _ => none }
def KeccakPiecesWrongFalsely : Prop := keccakPiecesRow.holds Tryd.pinned (OpenSpec.ofChange keccakPiecesWrong)

/-- 'mootlaw05.MerkleHalves': WHATEVER THE INPUT: true; the input reads as it did. -/
def merkleHalvesSpec : ChangeSpec := { name := "merkleHalves", fn := fun _ => fun
  | [d1, d2, d3] => { results := [.lit (.bool true)], args := [d1, d2, d3] }
  | _ => none }
def merkleHalvesRow : OpenClaim := { program := "ytikkebjhnechdaadoor", sum := "3522f04ec2c25cc473b4255aa51231d570bdac4a6ba797714f67e2a159759438", func := "moot/mootlaw05.MerkleHalves", spec := "merkleHalves", inPlace := ["internal/reflectlite.TypeOf"], unfollowed := true, recurses := true, named := ["moot/keccak.rounds", "moot/keccak.lanes", "moot/keccak.turns"], apart := false, laid := [("moot/keccak.rounds", laid_moot_keccak_rounds), ("moot/keccak.lanes", laid_moot_keccak_lanes), ("moot/keccak.turns", laid_moot_keccak_turns)] }
def MerkleHalvesSaid : Prop := merkleHalvesRow.holds Tryd.pinned (OpenSpec.ofChange merkleHalvesSpec)

/-- ITS FALSE NEIGHBOUR: 'it returns false'. Refute it at one input. -/
def merkleHalvesWrong : ChangeSpec := { name := "merkleHalves", fn := fun _ => fun
  | [d1, d2, d3] => { results := [.lit (.bool false)], args := [d1, d2, d3] }
  | _ => none }
def MerkleHalvesWrongFalsely : Prop := merkleHalvesRow.holds Tryd.pinned (OpenSpec.ofChange merkleHalvesWrong)

/-- 'mootlaw05.MerkleProves': WHATEVER THE INPUT: true; the input reads as it did. -/
def merkleProvesSpec : ChangeSpec := { name := "merkleProves", fn := fun _ => fun
  | [d1, d2, d3, d4] => { results := [.lit (.bool true)], args := [d1, d2, d3, d4] }
  | _ => none }
def merkleProvesRow : OpenClaim := { program := "ytikkebjhnechdaadoor", sum := "3522f04ec2c25cc473b4255aa51231d570bdac4a6ba797714f67e2a159759438", func := "moot/mootlaw05.MerkleProves", spec := "merkleProves", inPlace := ["internal/reflectlite.TypeOf"], unfollowed := true, recurses := true, named := ["moot/keccak.rounds", "moot/keccak.lanes", "moot/keccak.turns"], apart := false, laid := [("moot/keccak.rounds", laid_moot_keccak_rounds), ("moot/keccak.lanes", laid_moot_keccak_lanes), ("moot/keccak.turns", laid_moot_keccak_turns)] }
def MerkleProvesSaid : Prop := merkleProvesRow.holds Tryd.pinned (OpenSpec.ofChange merkleProvesSpec)

/-- ITS FALSE NEIGHBOUR: 'it returns false'. Refute it at one input. -/
def merkleProvesWrong : ChangeSpec := { name := "merkleProves", fn := fun _ => fun
  | [d1, d2, d3, d4] => { results := [.lit (.bool false)], args := [d1, d2, d3, d4] }
  | _ => none }
def MerkleProvesWrongFalsely : Prop := merkleProvesRow.holds Tryd.pinned (OpenSpec.ofChange merkleProvesWrong)

/-- 'mootlaw05.MerkleTrees': WHATEVER THE INPUT: true; the input reads as it did. -/
def merkleTreesSpec : ChangeSpec := { name := "merkleTrees", fn := fun _ => fun
  | [d1, d2, d3, d4] => { results := [.lit (.bool true)], args := [d1, d2, d3, d4] }
  | _ => none }
def merkleTreesRow : OpenClaim := { program := "ytikkebjhnechdaadoor", sum := "3522f04ec2c25cc473b4255aa51231d570bdac4a6ba797714f67e2a159759438", func := "moot/mootlaw05.MerkleTrees", spec := "merkleTrees", inPlace := ["internal/reflectlite.TypeOf", "internal/reflectlite.ValueOf", "(internal/reflectlite.Value).Type", "(internal/reflectlite.Value).IsNil", "(internal/reflectlite.Value).Elem", "(internal/reflectlite.Value).Set"], unfollowed := true, recurses := true, named := ["moot/keccak.rounds", "moot/keccak.lanes", "moot/keccak.turns", "errors.errorType"], apart := false, laid := [("errors.errorType", laid_errors_errorType), ("moot/keccak.rounds", laid_moot_keccak_rounds), ("moot/keccak.lanes", laid_moot_keccak_lanes), ("moot/keccak.turns", laid_moot_keccak_turns)] }
def MerkleTreesSaid : Prop := merkleTreesRow.holds Tryd.pinned (OpenSpec.ofChange merkleTreesSpec)

/-- ITS FALSE NEIGHBOUR: 'it returns false'. Refute it at one input. -/
def merkleTreesWrong : ChangeSpec := { name := "merkleTrees", fn := fun _ => fun
  | [d1, d2, d3, d4] => { results := [.lit (.bool false)], args := [d1, d2, d3, d4] }
  | _ => none }
def MerkleTreesWrongFalsely : Prop := merkleTreesRow.holds Tryd.pinned (OpenSpec.ofChange merkleTreesWrong)

/-- 'mootlaw05.MerkleFolds': WHATEVER THE INPUT: true; the input reads as it did. -/
def merkleFoldsSpec : ChangeSpec := { name := "merkleFolds", fn := fun _ => fun
  | [d1, d2, d3, d4, d5] => { results := [.lit (.bool true)], args := [d1, d2, d3, d4, d5] }
  | _ => none }
def merkleFoldsRow : OpenClaim := { program := "ytikkebjhnechdaadoor", sum := "3522f04ec2c25cc473b4255aa51231d570bdac4a6ba797714f67e2a159759438", func := "moot/mootlaw05.MerkleFolds", spec := "merkleFolds", inPlace := ["internal/reflectlite.TypeOf", "internal/reflectlite.ValueOf", "(internal/reflectlite.Value).Type", "(internal/reflectlite.Value).IsNil", "(internal/reflectlite.Value).Elem", "(internal/reflectlite.Value).Set"], unfollowed := true, recurses := true, named := ["moot/keccak.rounds", "moot/keccak.lanes", "moot/keccak.turns", "errors.errorType"], apart := false, laid := [("errors.errorType", laid_errors_errorType), ("moot/keccak.rounds", laid_moot_keccak_rounds), ("moot/keccak.lanes", laid_moot_keccak_lanes), ("moot/keccak.turns", laid_moot_keccak_turns)] }
def MerkleFoldsSaid : Prop := merkleFoldsRow.holds Tryd.pinned (OpenSpec.ofChange merkleFoldsSpec)

/-- ITS FALSE NEIGHBOUR: 'it returns false'. Refute it at one input. -/
def merkleFoldsWrong : ChangeSpec := { name := "merkleFolds", fn := fun _ => fun
  | [d1, d2, d3, d4, d5] => { results := [.lit (.bool false)], args := [d1, d2, d3, d4, d5] }
  | _ => none }
def MerkleFoldsWrongFalsely : Prop := merkleFoldsRow.holds Tryd.pinned (OpenSpec.ofChange merkleFoldsWrong)

/- THE SECOND FORM. 'bulk': how many values and letters a reading holds, each counted each time it is reached (what is shared counts as often as it is met; a slice's spare places count too). A statement '..UptoSaid' is the law's where the arguments, and the package variables that the reading takes, are together of bulk at most 1048576: NARROWER than '..Said'. Prove '..Said' where nothing that the law and all that it calls make is longer than what came in: it says more and counts as full. Else prove '..UptoSaid'. A law counts once. -/
mutual
def uptoBulk {H : Type} : DataW H → Nat
  | .lit (.string bytes) => bytes.length + 1
  | .lit _ => 1
  | .nil => 1
  | .ptr d => uptoBulk d + 1
  | .slice elems spare => uptoBulkAll elems + uptoBulkAll spare + 1
  | .agg parts => uptoBulkAll parts + 1
  | .iface _ d => uptoBulk d + 1
  | .map entries => uptoBulkEntries entries + 1
  | .held _ => 1
def uptoBulkAll {H : Type} : List (DataW H) → Nat
  | [] => 0
  | d :: r => uptoBulk d + uptoBulkAll r
def uptoBulkEntries {H : Type} : List (Lit × DataW H) → Nat
  | [] => 0
  | x :: r => uptoBulkEntry x + uptoBulkEntries r
def uptoBulkEntry {H : Type} : Lit × DataW H → Nat
  | (.string bytes, d) => bytes.length + uptoBulk d + 1
  | (_, d) => uptoBulk d + 1
 end
def uptoSmall : (H : Type) → List (DataW H) → Bool := fun _ ds => decide (uptoBulkAll ds ≤ 1048576)
def OpenSpec.upto (s : _root_.Go.ChangeSpec) : _root_.Go.OpenSpec := { _root_.Go.OpenSpec.ofChange s with cond := some uptoSmall }

/-- 'mootlaw02.KeccakSponge', WHERE WHAT IT READS IS OF BULK AT MOST 1048576: true; the input reads as it did. -/
def keccakSpongeUptoRow : OpenClaim := { program := "ytikkebjhnechdaadoor", sum := "3522f04ec2c25cc473b4255aa51231d570bdac4a6ba797714f67e2a159759438", func := "moot/mootlaw02.KeccakSponge", spec := "keccakSponge", named := ["moot/keccak.rounds", "moot/keccak.lanes", "moot/keccak.turns"], apart := false, laid := [("moot/keccak.rounds", laid_moot_keccak_rounds), ("moot/keccak.lanes", laid_moot_keccak_lanes), ("moot/keccak.turns", laid_moot_keccak_turns)], narrowed := true }
def KeccakSpongeUptoSaid : Prop := keccakSpongeUptoRow.holds Tryd.pinned (OpenSpec.upto keccakSpongeSpec)

/-- 'mootlaw02.KeccakPermutes', WHERE WHAT IT READS IS OF BULK AT MOST 1048576: true; the input reads as it did. -/
def keccakPermutesUptoRow : OpenClaim := { program := "ytikkebjhnechdaadoor", sum := "3522f04ec2c25cc473b4255aa51231d570bdac4a6ba797714f67e2a159759438", func := "moot/mootlaw02.KeccakPermutes", spec := "keccakPermutes", named := ["moot/keccak.rounds", "moot/keccak.lanes", "moot/keccak.turns"], apart := false, laid := [("moot/keccak.rounds", laid_moot_keccak_rounds), ("moot/keccak.lanes", laid_moot_keccak_lanes), ("moot/keccak.turns", laid_moot_keccak_turns)], narrowed := true }
def KeccakPermutesUptoSaid : Prop := keccakPermutesUptoRow.holds Tryd.pinned (OpenSpec.upto keccakPermutesSpec)

/-- 'mootlaw02.KeccakSums', WHERE WHAT IT READS IS OF BULK AT MOST 1048576: true; the input reads as it did. -/
def keccakSumsUptoRow : OpenClaim := { program := "ytikkebjhnechdaadoor", sum := "3522f04ec2c25cc473b4255aa51231d570bdac4a6ba797714f67e2a159759438", func := "moot/mootlaw02.KeccakSums", spec := "keccakSums", named := ["moot/keccak.rounds", "moot/keccak.lanes", "moot/keccak.turns"], apart := false, laid := [("moot/keccak.rounds", laid_moot_keccak_rounds), ("moot/keccak.lanes", laid_moot_keccak_lanes), ("moot/keccak.turns", laid_moot_keccak_turns)], narrowed := true }
def KeccakSumsUptoSaid : Prop := keccakSumsUptoRow.holds Tryd.pinned (OpenSpec.upto keccakSumsSpec)

/-- 'mootlaw02.KeccakApart', WHERE WHAT IT READS IS OF BULK AT MOST 1048576: true; the input reads as it did. -/
def keccakApartUptoRow : OpenClaim := { program := "ytikkebjhnechdaadoor", sum := "3522f04ec2c25cc473b4255aa51231d570bdac4a6ba797714f67e2a159759438", func := "moot/mootlaw02.KeccakApart", spec := "keccakApart", inPlace := ["internal/reflectlite.TypeOf"], unfollowed := true, recurses := true, named := ["moot/keccak.rounds", "moot/keccak.lanes", "moot/keccak.turns"], apart := false, laid := [("moot/keccak.rounds", laid_moot_keccak_rounds), ("moot/keccak.lanes", laid_moot_keccak_lanes), ("moot/keccak.turns", laid_moot_keccak_turns)], narrowed := true }
def KeccakApartUptoSaid : Prop := keccakApartUptoRow.holds Tryd.pinned (OpenSpec.upto keccakApartSpec)

/-- 'mootlaw02.KeccakPieces', WHERE WHAT IT READS IS OF BULK AT MOST 1048576: true; the input reads as it did. -/
def keccakPiecesUptoRow : OpenClaim := { program := "ytikkebjhnechdaadoor", sum := "3522f04ec2c25cc473b4255aa51231d570bdac4a6ba797714f67e2a159759438", func := "moot/mootlaw02.KeccakPieces", spec := "keccakPieces", inPlace := ["internal/reflectlite.TypeOf"], unfollowed := true, recurses := true, named := ["moot/keccak.rounds", "moot/keccak.lanes", "moot/keccak.turns"], apart := false, laid := [("moot/keccak.rounds", laid_moot_keccak_rounds), ("moot/keccak.lanes", laid_moot_keccak_lanes), ("moot/keccak.turns", laid_moot_keccak_turns)], narrowed := true }
def KeccakPiecesUptoSaid : Prop := keccakPiecesUptoRow.holds Tryd.pinned (OpenSpec.upto keccakPiecesSpec)

/-- 'mootlaw05.MerkleHalves', WHERE WHAT IT READS IS OF BULK AT MOST 1048576: true; the input reads as it did. -/
def merkleHalvesUptoRow : OpenClaim := { program := "ytikkebjhnechdaadoor", sum := "3522f04ec2c25cc473b4255aa51231d570bdac4a6ba797714f67e2a159759438", func := "moot/mootlaw05.MerkleHalves", spec := "merkleHalves", inPlace := ["internal/reflectlite.TypeOf"], unfollowed := true, recurses := true, named := ["moot/keccak.rounds", "moot/keccak.lanes", "moot/keccak.turns"], apart := false, laid := [("moot/keccak.rounds", laid_moot_keccak_rounds), ("moot/keccak.lanes", laid_moot_keccak_lanes), ("moot/keccak.turns", laid_moot_keccak_turns)], narrowed := true }
def MerkleHalvesUptoSaid : Prop := merkleHalvesUptoRow.holds Tryd.pinned (OpenSpec.upto merkleHalvesSpec)

/-- 'mootlaw05.MerkleProves', WHERE WHAT IT READS IS OF BULK AT MOST 1048576: true; the input reads as it did. -/
def merkleProvesUptoRow : OpenClaim := { program := "ytikkebjhnechdaadoor", sum := "3522f04ec2c25cc473b4255aa51231d570bdac4a6ba797714f67e2a159759438", func := "moot/mootlaw05.MerkleProves", spec := "merkleProves", inPlace := ["internal/reflectlite.TypeOf"], unfollowed := true, recurses := true, named := ["moot/keccak.rounds", "moot/keccak.lanes", "moot/keccak.turns"], apart := false, laid := [("moot/keccak.rounds", laid_moot_keccak_rounds), ("moot/keccak.lanes", laid_moot_keccak_lanes), ("moot/keccak.turns", laid_moot_keccak_turns)], narrowed := true }
def MerkleProvesUptoSaid : Prop := merkleProvesUptoRow.holds Tryd.pinned (OpenSpec.upto merkleProvesSpec)

/-- 'mootlaw05.MerkleTrees', WHERE WHAT IT READS IS OF BULK AT MOST 1048576: true; the input reads as it did. -/
def merkleTreesUptoRow : OpenClaim := { program := "ytikkebjhnechdaadoor", sum := "3522f04ec2c25cc473b4255aa51231d570bdac4a6ba797714f67e2a159759438", func := "moot/mootlaw05.MerkleTrees", spec := "merkleTrees", inPlace := ["internal/reflectlite.TypeOf", "internal/reflectlite.ValueOf", "(internal/reflectlite.Value).Type", "(internal/reflectlite.Value).IsNil", "(internal/reflectlite.Value).Elem", "(internal/reflectlite.Value).Set"], unfollowed := true, recurses := true, named := ["moot/keccak.rounds", "moot/keccak.lanes", "moot/keccak.turns", "errors.errorType"], apart := false, laid := [("errors.errorType", laid_errors_errorType), ("moot/keccak.rounds", laid_moot_keccak_rounds), ("moot/keccak.lanes", laid_moot_keccak_lanes), ("moot/keccak.turns", laid_moot_keccak_turns)], narrowed := true }
def MerkleTreesUptoSaid : Prop := merkleTreesUptoRow.holds Tryd.pinned (OpenSpec.upto merkleTreesSpec)

/-- 'mootlaw05.MerkleFolds', WHERE WHAT IT READS IS OF BULK AT MOST 1048576: true; the input reads as it did. -/
def merkleFoldsUptoRow : OpenClaim := { program := "ytikkebjhnechdaadoor", sum := "3522f04ec2c25cc473b4255aa51231d570bdac4a6ba797714f67e2a159759438", func := "moot/mootlaw05.MerkleFolds", spec := "merkleFolds", inPlace := ["internal/reflectlite.TypeOf", "internal/reflectlite.ValueOf", "(internal/reflectlite.Value).Type", "(internal/reflectlite.Value).IsNil", "(internal/reflectlite.Value).Elem", "(internal/reflectlite.Value).Set"], unfollowed := true, recurses := true, named := ["moot/keccak.rounds", "moot/keccak.lanes", "moot/keccak.turns", "errors.errorType"], apart := false, laid := [("errors.errorType", laid_errors_errorType), ("moot/keccak.rounds", laid_moot_keccak_rounds), ("moot/keccak.lanes", laid_moot_keccak_lanes), ("moot/keccak.turns", laid_moot_keccak_turns)], narrowed := true }
def MerkleFoldsUptoSaid : Prop := merkleFoldsUptoRow.holds Tryd.pinned (OpenSpec.upto merkleFoldsSpec)

end Rows
end Go.Proofs.YtikkebjhnechdaaDoor
