/-
  No cell of these rows narrows 'for every input' (looked for: loops, veiled, ifaces, maps, wideKeys, modest, calm, conditions, laid).
  DERIVED. THE GIVEN ROWS OF THIS SEAT. 7 by the template 'for every input the law returns true; each argument reads behind the call as it read before'; 0 by the template 'total and deterministic' (their statements: YtmckfppemhnhmaaTotals.lean).
  GIVEN WITH THE SEED: the statements are not yours to turn. If you find one false, say at which input.
  Laid BY PROGRAM, IN A SANDBOX (cutbox-rows.mjs): the forced cells as the released guide's own fill.sh prints them over the translation 0bd9c07e601dc5f4… (all of the seat's roots in one cut). By AI agents, Wed Nov 11 2026. No macro, syntax, notation, axiom, sorry.
-/
import Derived.Test.YtmckfppemhnhmaaChecked
import GoSem.Claim
import GoSem.ClaimJoined
import GoSem.ClaimMapViews
import Derived.JoinedTies
import Derived.KernelRfl
namespace Go.Proofs.Ytmckfppemhnhmaa
/- THE CELL 'sum', in the pinned program and in every row, IS THE sha256 OF THE DUMP (.gsa) THAT YtmckfppemhnhmaaProg.lean LOADS. Nothing in Lean hashes anything: it is a label: what it is worth is what the hold of that sum in a sandbox is worth. -/
noncomputable def Try.pinned : Pinned := { name := "ytmckfppemhnhmaa", sum := "0bd9c07e601dc5f420a87785796d10791f974b886505175fec9b06db24609d7e", checked := Try.checked }
namespace Rows
def none {H : Type} : Left H := { results := [], args := [] }

/-- 'swatchlaw05.MipTells': WHATEVER THE INPUT: true; the input reads as it did. -/
def mipTellsSpec : ChangeSpec := { name := "mipTells", fn := fun _ => fun
  | [d1, d2, d3] => { results := [.lit (.bool true)], args := [d1, d2, d3] }
  | _ => none }
def mipTellsRow : OpenClaim := { program := "ytmckfppemhnhmaa", sum := "0bd9c07e601dc5f420a87785796d10791f974b886505175fec9b06db24609d7e", func := "swatch/swatchlaw05.MipTells", spec := "mipTells", unfollowed := true, recurses := true, apart := false }
def MipTellsSaid : Prop := mipTellsRow.holds Try.pinned (OpenSpec.ofChange mipTellsSpec)

/-- ITS FALSE NEIGHBOUR: 'it returns false'. Refute it at one input. -/
def mipTellsWrong : ChangeSpec := { name := "mipTells", fn := fun _ => fun
  | [d1, d2, d3] => { results := [.lit (.bool false)], args := [d1, d2, d3] }
  | _ => none }
def MipTellsWrongFalsely : Prop := mipTellsRow.holds Try.pinned (OpenSpec.ofChange mipTellsWrong)

/-- 'swatchlaw05.MipBetween': WHATEVER THE INPUT: true; the input reads as it did. -/
def mipBetweenSpec : ChangeSpec := { name := "mipBetween", fn := fun _ => fun
  | [d] => { results := [.lit (.bool true)], args := [d] }
  | _ => none }
def mipBetweenRow : OpenClaim := { program := "ytmckfppemhnhmaa", sum := "0bd9c07e601dc5f420a87785796d10791f974b886505175fec9b06db24609d7e", func := "swatch/swatchlaw05.MipBetween", spec := "mipBetween", unfollowed := true, recurses := true, apart := false }
def MipBetweenSaid : Prop := mipBetweenRow.holds Try.pinned (OpenSpec.ofChange mipBetweenSpec)

/-- ITS FALSE NEIGHBOUR: 'it returns false'. Refute it at one input. -/
def mipBetweenWrong : ChangeSpec := { name := "mipBetween", fn := fun _ => fun
  | [d] => { results := [.lit (.bool false)], args := [d] }
  | _ => none }
def MipBetweenWrongFalsely : Prop := mipBetweenRow.holds Try.pinned (OpenSpec.ofChange mipBetweenWrong)

/-- 'swatchlaw04.ImageTells': WHATEVER THE INPUT: true; the input reads as it did. -/
def imageTellsSpec : ChangeSpec := { name := "imageTells", fn := fun _ => fun
  | [d1, d2, d3] => { results := [.lit (.bool true)], args := [d1, d2, d3] }
  | _ => none }
def imageTellsRow : OpenClaim := { program := "ytmckfppemhnhmaa", sum := "0bd9c07e601dc5f420a87785796d10791f974b886505175fec9b06db24609d7e", func := "swatch/swatchlaw04.ImageTells", spec := "imageTells", unfollowed := true, recurses := true, apart := false }
def ImageTellsSaid : Prop := imageTellsRow.holds Try.pinned (OpenSpec.ofChange imageTellsSpec)

/-- ITS FALSE NEIGHBOUR: 'it returns false'. Refute it at one input. -/
def imageTellsWrong : ChangeSpec := { name := "imageTells", fn := fun _ => fun
  | [d1, d2, d3] => { results := [.lit (.bool false)], args := [d1, d2, d3] }
  | _ => none }
def ImageTellsWrongFalsely : Prop := imageTellsRow.holds Try.pinned (OpenSpec.ofChange imageTellsWrong)

/-- 'swatchlaw04.ImageWhole': WHATEVER THE INPUT: true; the input reads as it did. -/
def imageWholeSpec : ChangeSpec := { name := "imageWhole", fn := fun _ => fun
  | [d] => { results := [.lit (.bool true)], args := [d] }
  | _ => none }
def imageWholeRow : OpenClaim := { program := "ytmckfppemhnhmaa", sum := "0bd9c07e601dc5f420a87785796d10791f974b886505175fec9b06db24609d7e", func := "swatch/swatchlaw04.ImageWhole", spec := "imageWhole", unfollowed := true, recurses := true, apart := false }
def ImageWholeSaid : Prop := imageWholeRow.holds Try.pinned (OpenSpec.ofChange imageWholeSpec)

/-- ITS FALSE NEIGHBOUR: 'it returns false'. Refute it at one input. -/
def imageWholeWrong : ChangeSpec := { name := "imageWhole", fn := fun _ => fun
  | [d] => { results := [.lit (.bool false)], args := [d] }
  | _ => none }
def ImageWholeWrongFalsely : Prop := imageWholeRow.holds Try.pinned (OpenSpec.ofChange imageWholeWrong)

/-- 'swatchlaw04.ImageLays': WHATEVER THE INPUT: true; the input reads as it did. -/
def imageLaysSpec : ChangeSpec := { name := "imageLays", fn := fun _ => fun
  | [d1, d2, d3] => { results := [.lit (.bool true)], args := [d1, d2, d3] }
  | _ => none }
def imageLaysRow : OpenClaim := { program := "ytmckfppemhnhmaa", sum := "0bd9c07e601dc5f420a87785796d10791f974b886505175fec9b06db24609d7e", func := "swatch/swatchlaw04.ImageLays", spec := "imageLays", unfollowed := true, recurses := true, apart := false }
def ImageLaysSaid : Prop := imageLaysRow.holds Try.pinned (OpenSpec.ofChange imageLaysSpec)

/-- ITS FALSE NEIGHBOUR: 'it returns false'. Refute it at one input. -/
def imageLaysWrong : ChangeSpec := { name := "imageLays", fn := fun _ => fun
  | [d1, d2, d3] => { results := [.lit (.bool false)], args := [d1, d2, d3] }
  | _ => none }
def ImageLaysWrongFalsely : Prop := imageLaysRow.holds Try.pinned (OpenSpec.ofChange imageLaysWrong)

/-- 'swatchlaw04.ImageTiles': WHATEVER THE INPUT: true; the input reads as it did. -/
def imageTilesSpec : ChangeSpec := { name := "imageTiles", fn := fun _ => fun
  | [d1, d2, d3] => { results := [.lit (.bool true)], args := [d1, d2, d3] }
  | _ => none }
def imageTilesRow : OpenClaim := { program := "ytmckfppemhnhmaa", sum := "0bd9c07e601dc5f420a87785796d10791f974b886505175fec9b06db24609d7e", func := "swatch/swatchlaw04.ImageTiles", spec := "imageTiles", unfollowed := true, recurses := true, apart := false }
def ImageTilesSaid : Prop := imageTilesRow.holds Try.pinned (OpenSpec.ofChange imageTilesSpec)

/-- ITS FALSE NEIGHBOUR: 'it returns false'. Refute it at one input. -/
def imageTilesWrong : ChangeSpec := { name := "imageTiles", fn := fun _ => fun
  | [d1, d2, d3] => { results := [.lit (.bool false)], args := [d1, d2, d3] }
  | _ => none }
def ImageTilesWrongFalsely : Prop := imageTilesRow.holds Try.pinned (OpenSpec.ofChange imageTilesWrong)

/-- 'swatchlaw05.MipTurns': WHATEVER THE INPUT: true; the input reads as it did. -/
def mipTurnsSpec : ChangeSpec := { name := "mipTurns", fn := fun _ => fun
  | [d1, d2] => { results := [.lit (.bool true)], args := [d1, d2] }
  | _ => none }
def mipTurnsRow : OpenClaim := { program := "ytmckfppemhnhmaa", sum := "0bd9c07e601dc5f420a87785796d10791f974b886505175fec9b06db24609d7e", func := "swatch/swatchlaw05.MipTurns", spec := "mipTurns", unfollowed := true, recurses := true, apart := false }
def MipTurnsSaid : Prop := mipTurnsRow.holds Try.pinned (OpenSpec.ofChange mipTurnsSpec)

/-- ITS FALSE NEIGHBOUR: 'it returns false'. Refute it at one input. -/
def mipTurnsWrong : ChangeSpec := { name := "mipTurns", fn := fun _ => fun
  | [d1, d2] => { results := [.lit (.bool false)], args := [d1, d2] }
  | _ => none }
def MipTurnsWrongFalsely : Prop := mipTurnsRow.holds Try.pinned (OpenSpec.ofChange mipTurnsWrong)

/- THE SECOND FORM. 'bulk': how many values and letters a reading holds, each counted each time it is reached (what is shared counts as often as it is met; a slice's spare places count too). A statement '..UptoSaid' is the law's where the arguments, and the package variables that the reading takes, are together of bulk at most 1048576: NARROWER than '..Said'. Prove '..Said' where nothing that the law and all that it calls make is longer than what came in: it says more and counts as full. Else prove '..UptoSaid'. A law counts once. -/
mutual
def uptoBulk {H : Type} : DataW H → Nat
  | .lit (.string bytes) => bytes.length + 1
  | .lit _ => 1
  | .nil => 1
  | .ptr d => uptoBulk d + 1
  | .slice elems spare => uptoBulkAll elems + uptoBulkAll spare + 1
  | .agg parts => uptoBulkAll parts + 1
  | .iface _ d => uptoBulk d + 1
  | .map entries => uptoBulkEntries entries + 1
  | .held _ => 1
def uptoBulkAll {H : Type} : List (DataW H) → Nat
  | [] => 0
  | d :: r => uptoBulk d + uptoBulkAll r
def uptoBulkEntries {H : Type} : List (Lit × DataW H) → Nat
  | [] => 0
  | x :: r => uptoBulkEntry x + uptoBulkEntries r
def uptoBulkEntry {H : Type} : Lit × DataW H → Nat
  | (.string bytes, d) => bytes.length + uptoBulk d + 1
  | (_, d) => uptoBulk d + 1
 end
def uptoSmall : (H : Type) → List (DataW H) → Bool := fun _ ds => decide (uptoBulkAll ds ≤ 1048576)
def OpenSpec.upto (s : _root_.Go.ChangeSpec) : _root_.Go.OpenSpec := { _root_.Go.OpenSpec.ofChange s with cond := some uptoSmall }

/-- 'swatchlaw05.MipTells', WHERE WHAT IT READS IS OF BULK AT MOST 1048576: true; the input reads as it did. -/
def mipTellsUptoRow : OpenClaim := { program := "ytmckfppemhnhmaa", sum := "0bd9c07e601dc5f420a87785796d10791f974b886505175fec9b06db24609d7e", func := "swatch/swatchlaw05.MipTells", spec := "mipTells", unfollowed := true, recurses := true, apart := false, narrowed := true }
def MipTellsUptoSaid : Prop := mipTellsUptoRow.holds Try.pinned (OpenSpec.upto mipTellsSpec)

/-- 'swatchlaw05.MipBetween', WHERE WHAT IT READS IS OF BULK AT MOST 1048576: true; the input reads as it did. -/
def mipBetweenUptoRow : OpenClaim := { program := "ytmckfppemhnhmaa", sum := "0bd9c07e601dc5f420a87785796d10791f974b886505175fec9b06db24609d7e", func := "swatch/swatchlaw05.MipBetween", spec := "mipBetween", unfollowed := true, recurses := true, apart := false, narrowed := true }
def MipBetweenUptoSaid : Prop := mipBetweenUptoRow.holds Try.pinned (OpenSpec.upto mipBetweenSpec)

/-- 'swatchlaw04.ImageTells', WHERE WHAT IT READS IS OF BULK AT MOST 1048576: true; the input reads as it did. -/
def imageTellsUptoRow : OpenClaim := { program := "ytmckfppemhnhmaa", sum := "0bd9c07e601dc5f420a87785796d10791f974b886505175fec9b06db24609d7e", func := "swatch/swatchlaw04.ImageTells", spec := "imageTells", unfollowed := true, recurses := true, apart := false, narrowed := true }
def ImageTellsUptoSaid : Prop := imageTellsUptoRow.holds Try.pinned (OpenSpec.upto imageTellsSpec)

/-- 'swatchlaw04.ImageWhole', WHERE WHAT IT READS IS OF BULK AT MOST 1048576: true; the input reads as it did. -/
def imageWholeUptoRow : OpenClaim := { program := "ytmckfppemhnhmaa", sum := "0bd9c07e601dc5f420a87785796d10791f974b886505175fec9b06db24609d7e", func := "swatch/swatchlaw04.ImageWhole", spec := "imageWhole", unfollowed := true, recurses := true, apart := false, narrowed := true }
def ImageWholeUptoSaid : Prop := imageWholeUptoRow.holds Try.pinned (OpenSpec.upto imageWholeSpec)

/-- 'swatchlaw04.ImageLays', WHERE WHAT IT READS IS OF BULK AT MOST 1048576: true; the input reads as it did. -/
def imageLaysUptoRow : OpenClaim := { program := "ytmckfppemhnhmaa", sum := "0bd9c07e601dc5f420a87785796d10791f974b886505175fec9b06db24609d7e", func := "swatch/swatchlaw04.ImageLays", spec := "imageLays", unfollowed := true, recurses := true, apart := false, narrowed := true }
def ImageLaysUptoSaid : Prop := imageLaysUptoRow.holds Try.pinned (OpenSpec.upto imageLaysSpec)

/-- 'swatchlaw04.ImageTiles', WHERE WHAT IT READS IS OF BULK AT MOST 1048576: true; the input reads as it did. -/
def imageTilesUptoRow : OpenClaim := { program := "ytmckfppemhnhmaa", sum := "0bd9c07e601dc5f420a87785796d10791f974b886505175fec9b06db24609d7e", func := "swatch/swatchlaw04.ImageTiles", spec := "imageTiles", unfollowed := true, recurses := true, apart := false, narrowed := true }
def ImageTilesUptoSaid : Prop := imageTilesUptoRow.holds Try.pinned (OpenSpec.upto imageTilesSpec)

/-- 'swatchlaw05.MipTurns', WHERE WHAT IT READS IS OF BULK AT MOST 1048576: true; the input reads as it did. -/
def mipTurnsUptoRow : OpenClaim := { program := "ytmckfppemhnhmaa", sum := "0bd9c07e601dc5f420a87785796d10791f974b886505175fec9b06db24609d7e", func := "swatch/swatchlaw05.MipTurns", spec := "mipTurns", unfollowed := true, recurses := true, apart := false, narrowed := true }
def MipTurnsUptoSaid : Prop := mipTurnsUptoRow.holds Try.pinned (OpenSpec.upto mipTurnsSpec)

end Rows
end Go.Proofs.Ytmckfppemhnhmaa
