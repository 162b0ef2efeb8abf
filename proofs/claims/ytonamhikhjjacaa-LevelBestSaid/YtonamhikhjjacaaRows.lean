/-
  No cell of these rows narrows 'for every input' (looked for: loops, veiled, ifaces, maps, wideKeys, modest, calm, conditions, laid).
  DERIVED. THE GIVEN ROWS OF THIS SEAT. 4 by the template 'for every input the law returns true; each argument reads behind the call as it read before'; 0 by the template 'total and deterministic' (their statements: YtonamhikhjjacaaTotals.lean).
  GIVEN WITH THE SEED: the statements are not yours to turn. If you find one false, say at which input.
  Laid BY PROGRAM, IN A SANDBOX (cutbox-rows.mjs): the forced cells as the released guide's own fill.sh prints them over the translation b8856113b789da49… (all of the seat's roots in one cut). By AI agents, Wed Nov 11 2026. No macro, syntax, notation, axiom, sorry.
-/
import Derived.Test.YtonamhikhjjacaaChecked
import GoSem.Claim
import GoSem.ClaimJoined
import GoSem.ClaimMapViews
import Derived.JoinedTies
import Derived.KernelRfl
namespace Go.Proofs.Ytonamhikhjjacaa
/- THE CELL 'sum', in the pinned program and in every row, IS THE sha256 OF THE DUMP (.gsa) THAT YtonamhikhjjacaaProg.lean LOADS. Nothing in Lean hashes anything: it is a label: what it is worth is what the hold of that sum in a sandbox is worth. -/
noncomputable def Try.pinned : Pinned := { name := "ytonamhikhjjacaa", sum := "b8856113b789da495d8c0030bc5a56b90b60e132db62233258c10068058cc977", checked := Try.checked }
namespace Rows
def none {H : Type} : Left H := { results := [], args := [] }

/-- 'swatchlaw03.LevelTells': WHATEVER THE INPUT: true; the input reads as it did. -/
def levelTellsSpec : ChangeSpec := { name := "levelTells", fn := fun _ => fun
  | [d1, d2, d3] => { results := [.lit (.bool true)], args := [d1, d2, d3] }
  | _ => none }
def levelTellsRow : OpenClaim := { program := "ytonamhikhjjacaa", sum := "b8856113b789da495d8c0030bc5a56b90b60e132db62233258c10068058cc977", func := "swatch/swatchlaw03.LevelTells", spec := "levelTells", unfollowed := true, recurses := true, apart := false }
def LevelTellsSaid : Prop := levelTellsRow.holds Try.pinned (OpenSpec.ofChange levelTellsSpec)

/-- ITS FALSE NEIGHBOUR: 'it returns false'. Refute it at one input. -/
def levelTellsWrong : ChangeSpec := { name := "levelTells", fn := fun _ => fun
  | [d1, d2, d3] => { results := [.lit (.bool false)], args := [d1, d2, d3] }
  | _ => none }
def LevelTellsWrongFalsely : Prop := levelTellsRow.holds Try.pinned (OpenSpec.ofChange levelTellsWrong)

/-- 'swatchlaw03.LevelBest': WHATEVER THE INPUT: true; the input reads as it did. -/
def levelBestSpec : ChangeSpec := { name := "levelBest", fn := fun _ => fun
  | [d1, d2, d3] => { results := [.lit (.bool true)], args := [d1, d2, d3] }
  | _ => none }
def levelBestRow : OpenClaim := { program := "ytonamhikhjjacaa", sum := "b8856113b789da495d8c0030bc5a56b90b60e132db62233258c10068058cc977", func := "swatch/swatchlaw03.LevelBest", spec := "levelBest", unfollowed := true, recurses := true, apart := false }
def LevelBestSaid : Prop := levelBestRow.holds Try.pinned (OpenSpec.ofChange levelBestSpec)

/-- ITS FALSE NEIGHBOUR: 'it returns false'. Refute it at one input. -/
def levelBestWrong : ChangeSpec := { name := "levelBest", fn := fun _ => fun
  | [d1, d2, d3] => { results := [.lit (.bool false)], args := [d1, d2, d3] }
  | _ => none }
def LevelBestWrongFalsely : Prop := levelBestRow.holds Try.pinned (OpenSpec.ofChange levelBestWrong)

/-- 'swatchlaw03.LevelRises': WHATEVER THE INPUT: true; the input reads as it did. -/
def levelRisesSpec : ChangeSpec := { name := "levelRises", fn := fun _ => fun
  | [d1, d2] => { results := [.lit (.bool true)], args := [d1, d2] }
  | _ => none }
def levelRisesRow : OpenClaim := { program := "ytonamhikhjjacaa", sum := "b8856113b789da495d8c0030bc5a56b90b60e132db62233258c10068058cc977", func := "swatch/swatchlaw03.LevelRises", spec := "levelRises", unfollowed := true, recurses := true, apart := false }
def LevelRisesSaid : Prop := levelRisesRow.holds Try.pinned (OpenSpec.ofChange levelRisesSpec)

/-- ITS FALSE NEIGHBOUR: 'it returns false'. Refute it at one input. -/
def levelRisesWrong : ChangeSpec := { name := "levelRises", fn := fun _ => fun
  | [d1, d2] => { results := [.lit (.bool false)], args := [d1, d2] }
  | _ => none }
def LevelRisesWrongFalsely : Prop := levelRisesRow.holds Try.pinned (OpenSpec.ofChange levelRisesWrong)

/-- 'swatchlaw03.LevelNone': WHATEVER THE INPUT: true; the input reads as it did. -/
def levelNoneSpec : ChangeSpec := { name := "levelNone", fn := fun _ => fun
  | [d1, d2, d3] => { results := [.lit (.bool true)], args := [d1, d2, d3] }
  | _ => none }
def levelNoneRow : OpenClaim := { program := "ytonamhikhjjacaa", sum := "b8856113b789da495d8c0030bc5a56b90b60e132db62233258c10068058cc977", func := "swatch/swatchlaw03.LevelNone", spec := "levelNone", unfollowed := true, recurses := true, apart := false }
def LevelNoneSaid : Prop := levelNoneRow.holds Try.pinned (OpenSpec.ofChange levelNoneSpec)

/-- ITS FALSE NEIGHBOUR: 'it returns false'. Refute it at one input. -/
def levelNoneWrong : ChangeSpec := { name := "levelNone", fn := fun _ => fun
  | [d1, d2, d3] => { results := [.lit (.bool false)], args := [d1, d2, d3] }
  | _ => none }
def LevelNoneWrongFalsely : Prop := levelNoneRow.holds Try.pinned (OpenSpec.ofChange levelNoneWrong)

/- THE SECOND FORM. 'bulk': how many values and letters a reading holds, each counted each time it is reached (what is shared counts as often as it is met; a slice's spare places count too). A statement '..UptoSaid' is the law's where the arguments, and the package variables that the reading takes, are together of bulk at most 1048576: NARROWER than '..Said'. Prove '..Said' where nothing that the law and all that it calls make is longer than what came in: it says more and counts as full. Else prove '..UptoSaid'. A law counts once. -/
mutual
def uptoBulk {H : Type} : DataW H → Nat
  | .lit (.string bytes) => bytes.length + 1
  | .lit _ => 1
  | .nil => 1
  | .ptr d => uptoBulk d + 1
  | .slice elems spare => uptoBulkAll elems + uptoBulkAll spare + 1
  | .agg parts => uptoBulkAll parts + 1
  | .iface _ d => uptoBulk d + 1
  | .map entries => uptoBulkEntries entries + 1
  | .held _ => 1
def uptoBulkAll {H : Type} : List (DataW H) → Nat
  | [] => 0
  | d :: r => uptoBulk d + uptoBulkAll r
def uptoBulkEntries {H : Type} : List (Lit × DataW H) → Nat
  | [] => 0
  | x :: r => uptoBulkEntry x + uptoBulkEntries r
def uptoBulkEntry {H : Type} : Lit × DataW H → Nat
  | (.string bytes, d) => bytes.length + uptoBulk d + 1
  | (_, d) => uptoBulk d + 1
 end
def uptoSmall : (H : Type) → List (DataW H) → Bool := fun _ ds => decide (uptoBulkAll ds ≤ 1048576)
def OpenSpec.upto (s : _root_.Go.ChangeSpec) : _root_.Go.OpenSpec := { _root_.Go.OpenSpec.ofChange s with cond := some uptoSmall }

/-- 'swatchlaw03.LevelTells', WHERE WHAT IT READS IS OF BULK AT MOST 1048576: true; the input reads as it did. -/
def levelTellsUptoRow : OpenClaim := { program := "ytonamhikhjjacaa", sum := "b8856113b789da495d8c0030bc5a56b90b60e132db62233258c10068058cc977", func := "swatch/swatchlaw03.LevelTells", spec := "levelTells", unfollowed := true, recurses := true, apart := false, narrowed := true }
def LevelTellsUptoSaid : Prop := levelTellsUptoRow.holds Try.pinned (OpenSpec.upto levelTellsSpec)

/-- 'swatchlaw03.LevelBest', WHERE WHAT IT READS IS OF BULK AT MOST 1048576: true; the input reads as it did. -/
def levelBestUptoRow : OpenClaim := { program := "ytonamhikhjjacaa", sum := "b8856113b789da495d8c0030bc5a56b90b60e132db62233258c10068058cc977", func := "swatch/swatchlaw03.LevelBest", spec := "levelBest", unfollowed := true, recurses := true, apart := false, narrowed := true }
def LevelBestUptoSaid : Prop := levelBestUptoRow.holds Try.pinned (OpenSpec.upto levelBestSpec)

/-- 'swatchlaw03.LevelRises', WHERE WHAT IT READS IS OF BULK AT MOST 1048576: true; the input reads as it did. -/
def levelRisesUptoRow : OpenClaim := { program := "ytonamhikhjjacaa", sum := "b8856113b789da495d8c0030bc5a56b90b60e132db62233258c10068058cc977", func := "swatch/swatchlaw03.LevelRises", spec := "levelRises", unfollowed := true, recurses := true, apart := false, narrowed := true }
def LevelRisesUptoSaid : Prop := levelRisesUptoRow.holds Try.pinned (OpenSpec.upto levelRisesSpec)

/-- 'swatchlaw03.LevelNone', WHERE WHAT IT READS IS OF BULK AT MOST 1048576: true; the input reads as it did. -/
def levelNoneUptoRow : OpenClaim := { program := "ytonamhikhjjacaa", sum := "b8856113b789da495d8c0030bc5a56b90b60e132db62233258c10068058cc977", func := "swatch/swatchlaw03.LevelNone", spec := "levelNone", unfollowed := true, recurses := true, apart := false, narrowed := true }
def LevelNoneUptoSaid : Prop := levelNoneUptoRow.holds Try.pinned (OpenSpec.upto levelNoneSpec)

end Rows
end Go.Proofs.Ytonamhikhjjacaa
