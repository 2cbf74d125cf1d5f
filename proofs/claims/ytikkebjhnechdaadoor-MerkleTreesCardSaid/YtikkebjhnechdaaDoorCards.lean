/-
  DERIVED. GIVEN WITH THE SEED: THE CARDS: each row of YtikkebjhnechdaaDoorRows.lean that lists a variable, with what it lists TIED to the program's text (the seventh form; the later family's looks); each row that meets fmt, with fmt's text TOLD by the authors' own Lean function (tested against real Go, not proved from fmt's source: count such statements apart). THE CARD IS WHAT COUNTS. Prove the row's statement (the work); the ties are given (YtikkebjhnechdaaDoorTie.lean); close each card by the builder's one call (the guide's Derived/Test/ToyasCard.lean, 'card_holds'). Laid BY PROGRAM, IN A SANDBOX (cutbox-door.mjs). By AI agents, Wed Nov 11 2026. No macro, syntax, notation, axiom, sorry.
-/
import Derived.Test.YtikkebjhnechdaaDoorRows
import GoSem.ClaimSeven
namespace Go.Proofs.YtikkebjhnechdaaDoor
namespace Rows

/-- THE TIED CARD OF 'mootlaw02.KeccakSponge'. -/
def keccakSpongeCard : Claim7 := { stood := { row := keccakSpongeRow, standIns := [], harness := (true, "a6656a60d6a00163f9a56ac5e446584ceb62fde965cb87cf0df548ddd09671c1"), looks := true }, kinds := [], alts := [], laidByText := true, laidKinds := [.data, .data, .data], laidTests := true, laidLooks := .later }
def KeccakSpongeCardSaid : Prop := Claim7.holds Tryd.pinned (.plain (OpenSpec.ofChange keccakSpongeSpec)) keccakSpongeCard

/-- THE TIED CARD OF 'mootlaw02.KeccakPermutes'. -/
def keccakPermutesCard : Claim7 := { stood := { row := keccakPermutesRow, standIns := [], harness := (true, "a6656a60d6a00163f9a56ac5e446584ceb62fde965cb87cf0df548ddd09671c1"), looks := true }, kinds := [], alts := [], laidByText := true, laidKinds := [.data, .data, .data], laidTests := true, laidLooks := .later }
def KeccakPermutesCardSaid : Prop := Claim7.holds Tryd.pinned (.plain (OpenSpec.ofChange keccakPermutesSpec)) keccakPermutesCard

/-- THE TIED CARD OF 'mootlaw02.KeccakSums'. -/
def keccakSumsCard : Claim7 := { stood := { row := keccakSumsRow, standIns := [], harness := (true, "a6656a60d6a00163f9a56ac5e446584ceb62fde965cb87cf0df548ddd09671c1"), looks := true }, kinds := [], alts := [], laidByText := true, laidKinds := [.data, .data, .data], laidTests := true, laidLooks := .later }
def KeccakSumsCardSaid : Prop := Claim7.holds Tryd.pinned (.plain (OpenSpec.ofChange keccakSumsSpec)) keccakSumsCard

/-- THE TIED CARD OF 'mootlaw02.KeccakApart'. -/
def keccakApartCard : Claim7 := { stood := { row := keccakApartRow, standIns := [], harness := (true, "a6656a60d6a00163f9a56ac5e446584ceb62fde965cb87cf0df548ddd09671c1"), looks := true }, kinds := [], alts := [], laidByText := true, laidKinds := [.data, .data, .data], laidTests := true, laidLooks := .later }
def KeccakApartCardSaid : Prop := Claim7.holds Tryd.pinned (.plain (OpenSpec.ofChange keccakApartSpec)) keccakApartCard

/-- THE TIED CARD OF 'mootlaw02.KeccakPieces'. -/
def keccakPiecesCard : Claim7 := { stood := { row := keccakPiecesRow, standIns := [], harness := (true, "a6656a60d6a00163f9a56ac5e446584ceb62fde965cb87cf0df548ddd09671c1"), looks := true }, kinds := [], alts := [], laidByText := true, laidKinds := [.data, .data, .data], laidTests := true, laidLooks := .later }
def KeccakPiecesCardSaid : Prop := Claim7.holds Tryd.pinned (.plain (OpenSpec.ofChange keccakPiecesSpec)) keccakPiecesCard

/-- THE TIED CARD OF 'mootlaw05.MerkleHalves'. -/
def merkleHalvesCard : Claim7 := { stood := { row := merkleHalvesRow, standIns := [], harness := (true, "a6656a60d6a00163f9a56ac5e446584ceb62fde965cb87cf0df548ddd09671c1"), looks := true }, kinds := [], alts := [], laidByText := true, laidKinds := [.data, .data, .data], laidTests := true, laidLooks := .later }
def MerkleHalvesCardSaid : Prop := Claim7.holds Tryd.pinned (.plain (OpenSpec.ofChange merkleHalvesSpec)) merkleHalvesCard

/-- THE TIED CARD OF 'mootlaw05.MerkleProves'. -/
def merkleProvesCard : Claim7 := { stood := { row := merkleProvesRow, standIns := [], harness := (true, "a6656a60d6a00163f9a56ac5e446584ceb62fde965cb87cf0df548ddd09671c1"), looks := true }, kinds := [], alts := [], laidByText := true, laidKinds := [.data, .data, .data], laidTests := true, laidLooks := .later }
def MerkleProvesCardSaid : Prop := Claim7.holds Tryd.pinned (.plain (OpenSpec.ofChange merkleProvesSpec)) merkleProvesCard

/-- THE TIED CARD OF 'mootlaw05.MerkleTrees'. -/
def merkleTreesCard : Claim7 := { stood := { row := merkleTreesRow, standIns := [], harness := (true, "a6656a60d6a00163f9a56ac5e446584ceb62fde965cb87cf0df548ddd09671c1"), looks := true }, kinds := [], alts := [], laidByText := true, laidKinds := [.handle, .data, .data, .data], laidTests := true, laidLooks := .later }
def MerkleTreesCardSaid : Prop := Claim7.holds Tryd.pinned (.plain (OpenSpec.ofChange merkleTreesSpec)) merkleTreesCard

/-- THE TIED CARD OF 'mootlaw05.MerkleFolds'. -/
def merkleFoldsCard : Claim7 := { stood := { row := merkleFoldsRow, standIns := [], harness := (true, "a6656a60d6a00163f9a56ac5e446584ceb62fde965cb87cf0df548ddd09671c1"), looks := true }, kinds := [], alts := [], laidByText := true, laidKinds := [.handle, .data, .data, .data], laidTests := true, laidLooks := .later }
def MerkleFoldsCardSaid : Prop := Claim7.holds Tryd.pinned (.plain (OpenSpec.ofChange merkleFoldsSpec)) merkleFoldsCard

/-- THE SECOND FORM's CARD OF 'mootlaw02.KeccakSponge'. -/
def keccakSpongeUptoCard : Claim7 := { stood := { row := keccakSpongeUptoRow, standIns := [], harness := (true, "a6656a60d6a00163f9a56ac5e446584ceb62fde965cb87cf0df548ddd09671c1"), looks := true }, kinds := [], alts := [], laidByText := true, laidKinds := [.data, .data, .data], laidTests := true, laidLooks := .later }
def KeccakSpongeUptoCardSaid : Prop := Claim7.holds Tryd.pinned (.plain (OpenSpec.upto keccakSpongeSpec)) keccakSpongeUptoCard

/-- THE SECOND FORM's CARD OF 'mootlaw02.KeccakPermutes'. -/
def keccakPermutesUptoCard : Claim7 := { stood := { row := keccakPermutesUptoRow, standIns := [], harness := (true, "a6656a60d6a00163f9a56ac5e446584ceb62fde965cb87cf0df548ddd09671c1"), looks := true }, kinds := [], alts := [], laidByText := true, laidKinds := [.data, .data, .data], laidTests := true, laidLooks := .later }
def KeccakPermutesUptoCardSaid : Prop := Claim7.holds Tryd.pinned (.plain (OpenSpec.upto keccakPermutesSpec)) keccakPermutesUptoCard

/-- THE SECOND FORM's CARD OF 'mootlaw02.KeccakSums'. -/
def keccakSumsUptoCard : Claim7 := { stood := { row := keccakSumsUptoRow, standIns := [], harness := (true, "a6656a60d6a00163f9a56ac5e446584ceb62fde965cb87cf0df548ddd09671c1"), looks := true }, kinds := [], alts := [], laidByText := true, laidKinds := [.data, .data, .data], laidTests := true, laidLooks := .later }
def KeccakSumsUptoCardSaid : Prop := Claim7.holds Tryd.pinned (.plain (OpenSpec.upto keccakSumsSpec)) keccakSumsUptoCard

/-- THE SECOND FORM's CARD OF 'mootlaw02.KeccakApart'. -/
def keccakApartUptoCard : Claim7 := { stood := { row := keccakApartUptoRow, standIns := [], harness := (true, "a6656a60d6a00163f9a56ac5e446584ceb62fde965cb87cf0df548ddd09671c1"), looks := true }, kinds := [], alts := [], laidByText := true, laidKinds := [.data, .data, .data], laidTests := true, laidLooks := .later }
def KeccakApartUptoCardSaid : Prop := Claim7.holds Tryd.pinned (.plain (OpenSpec.upto keccakApartSpec)) keccakApartUptoCard

/-- THE SECOND FORM's CARD OF 'mootlaw02.KeccakPieces'. -/
def keccakPiecesUptoCard : Claim7 := { stood := { row := keccakPiecesUptoRow, standIns := [], harness := (true, "a6656a60d6a00163f9a56ac5e446584ceb62fde965cb87cf0df548ddd09671c1"), looks := true }, kinds := [], alts := [], laidByText := true, laidKinds := [.data, .data, .data], laidTests := true, laidLooks := .later }
def KeccakPiecesUptoCardSaid : Prop := Claim7.holds Tryd.pinned (.plain (OpenSpec.upto keccakPiecesSpec)) keccakPiecesUptoCard

/-- THE SECOND FORM's CARD OF 'mootlaw05.MerkleHalves'. -/
def merkleHalvesUptoCard : Claim7 := { stood := { row := merkleHalvesUptoRow, standIns := [], harness := (true, "a6656a60d6a00163f9a56ac5e446584ceb62fde965cb87cf0df548ddd09671c1"), looks := true }, kinds := [], alts := [], laidByText := true, laidKinds := [.data, .data, .data], laidTests := true, laidLooks := .later }
def MerkleHalvesUptoCardSaid : Prop := Claim7.holds Tryd.pinned (.plain (OpenSpec.upto merkleHalvesSpec)) merkleHalvesUptoCard

/-- THE SECOND FORM's CARD OF 'mootlaw05.MerkleProves'. -/
def merkleProvesUptoCard : Claim7 := { stood := { row := merkleProvesUptoRow, standIns := [], harness := (true, "a6656a60d6a00163f9a56ac5e446584ceb62fde965cb87cf0df548ddd09671c1"), looks := true }, kinds := [], alts := [], laidByText := true, laidKinds := [.data, .data, .data], laidTests := true, laidLooks := .later }
def MerkleProvesUptoCardSaid : Prop := Claim7.holds Tryd.pinned (.plain (OpenSpec.upto merkleProvesSpec)) merkleProvesUptoCard

/-- THE SECOND FORM's CARD OF 'mootlaw05.MerkleTrees'. -/
def merkleTreesUptoCard : Claim7 := { stood := { row := merkleTreesUptoRow, standIns := [], harness := (true, "a6656a60d6a00163f9a56ac5e446584ceb62fde965cb87cf0df548ddd09671c1"), looks := true }, kinds := [], alts := [], laidByText := true, laidKinds := [.handle, .data, .data, .data], laidTests := true, laidLooks := .later }
def MerkleTreesUptoCardSaid : Prop := Claim7.holds Tryd.pinned (.plain (OpenSpec.upto merkleTreesSpec)) merkleTreesUptoCard

/-- THE SECOND FORM's CARD OF 'mootlaw05.MerkleFolds'. -/
def merkleFoldsUptoCard : Claim7 := { stood := { row := merkleFoldsUptoRow, standIns := [], harness := (true, "a6656a60d6a00163f9a56ac5e446584ceb62fde965cb87cf0df548ddd09671c1"), looks := true }, kinds := [], alts := [], laidByText := true, laidKinds := [.handle, .data, .data, .data], laidTests := true, laidLooks := .later }
def MerkleFoldsUptoCardSaid : Prop := Claim7.holds Tryd.pinned (.plain (OpenSpec.upto merkleFoldsSpec)) merkleFoldsUptoCard
end Rows
end Go.Proofs.YtikkebjhnechdaaDoor
