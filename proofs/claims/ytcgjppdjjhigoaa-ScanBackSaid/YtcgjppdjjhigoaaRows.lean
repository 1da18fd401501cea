/-
  No cell of these rows narrows 'for every input' (looked for: loops, veiled, ifaces, maps, wideKeys, modest, calm, conditions, laid).
  DERIVED. THE GIVEN ROWS OF THIS SEAT. 12 by the template 'for every input the law returns true; each argument reads behind the call as it read before'; 0 by the template 'total and deterministic' (their statements: YtcgjppdjjhigoaaTotals.lean).
  GIVEN WITH THE SEED: the statements are not yours to turn. If you find one false, say at which input.
  Laid BY PROGRAM, IN A SANDBOX (cutbox-rows.mjs): the forced cells as the released guide's own fill.sh prints them over the translation ae589cd023618077… (all of the seat's roots in one cut). By AI agents, Wed Nov 11 2026. No macro, syntax, notation, axiom, sorry.
-/
import Derived.Test.YtcgjppdjjhigoaaChecked
import GoSem.Claim
import GoSem.ClaimJoined
import GoSem.ClaimMapViews
import Derived.JoinedTies
import Derived.KernelRfl
namespace Go.Proofs.Ytcgjppdjjhigoaa
/- THE CELL 'sum', in the pinned program and in every row, IS THE sha256 OF THE DUMP (.gsa) THAT YtcgjppdjjhigoaaProg.lean LOADS. Nothing in Lean hashes anything: it is a label: what it is worth is what the hold of that sum in a sandbox is worth. -/
noncomputable def Try.pinned : Pinned := { name := "ytcgjppdjjhigoaa", sum := "ae589cd023618077da07990d6fe3366a643d6362d84cc99f4594013fe29ae061", checked := Try.checked }
namespace Rows
def none {H : Type} : Left H := { results := [], args := [] }

/-- 'dioptralaw04.PageTells': WHATEVER THE INPUT: true; the input reads as it did. -/
def pageTellsSpec : ChangeSpec := { name := "pageTells", fn := fun _ => fun
  | [d1, d2] => { results := [.lit (.bool true)], args := [d1, d2] }
  | _ => none }
def pageTellsRow : OpenClaim := { program := "ytcgjppdjjhigoaa", sum := "ae589cd023618077da07990d6fe3366a643d6362d84cc99f4594013fe29ae061", func := "dioptra/dioptralaw04.PageTells", spec := "pageTells", unfollowed := true, recurses := true, apart := false }
def PageTellsSaid : Prop := pageTellsRow.holds Try.pinned (OpenSpec.ofChange pageTellsSpec)

/-- ITS FALSE NEIGHBOUR: 'it returns false'. Refute it at one input. -/
def pageTellsWrong : ChangeSpec := { name := "pageTells", fn := fun _ => fun
  | [d1, d2] => { results := [.lit (.bool false)], args := [d1, d2] }
  | _ => none }
def PageTellsWrongFalsely : Prop := pageTellsRow.holds Try.pinned (OpenSpec.ofChange pageTellsWrong)

/-- 'dioptralaw04.PageCounts': WHATEVER THE INPUT: true; the input reads as it did. -/
def pageCountsSpec : ChangeSpec := { name := "pageCounts", fn := fun _ => fun
  | [d1, d2, d3] => { results := [.lit (.bool true)], args := [d1, d2, d3] }
  | _ => none }
def pageCountsRow : OpenClaim := { program := "ytcgjppdjjhigoaa", sum := "ae589cd023618077da07990d6fe3366a643d6362d84cc99f4594013fe29ae061", func := "dioptra/dioptralaw04.PageCounts", spec := "pageCounts", unfollowed := true, recurses := true, apart := false }
def PageCountsSaid : Prop := pageCountsRow.holds Try.pinned (OpenSpec.ofChange pageCountsSpec)

/-- ITS FALSE NEIGHBOUR: 'it returns false'. Refute it at one input. -/
def pageCountsWrong : ChangeSpec := { name := "pageCounts", fn := fun _ => fun
  | [d1, d2, d3] => { results := [.lit (.bool false)], args := [d1, d2, d3] }
  | _ => none }
def PageCountsWrongFalsely : Prop := pageCountsRow.holds Try.pinned (OpenSpec.ofChange pageCountsWrong)

/-- 'dioptralaw04.PageBack': WHATEVER THE INPUT: true; the input reads as it did. -/
def pageBackSpec : ChangeSpec := { name := "pageBack", fn := fun _ => fun
  | [d1, d2, d3] => { results := [.lit (.bool true)], args := [d1, d2, d3] }
  | _ => none }
def pageBackRow : OpenClaim := { program := "ytcgjppdjjhigoaa", sum := "ae589cd023618077da07990d6fe3366a643d6362d84cc99f4594013fe29ae061", func := "dioptra/dioptralaw04.PageBack", spec := "pageBack", unfollowed := true, recurses := true, apart := false }
def PageBackSaid : Prop := pageBackRow.holds Try.pinned (OpenSpec.ofChange pageBackSpec)

/-- ITS FALSE NEIGHBOUR: 'it returns false'. Refute it at one input. -/
def pageBackWrong : ChangeSpec := { name := "pageBack", fn := fun _ => fun
  | [d1, d2, d3] => { results := [.lit (.bool false)], args := [d1, d2, d3] }
  | _ => none }
def PageBackWrongFalsely : Prop := pageBackRow.holds Try.pinned (OpenSpec.ofChange pageBackWrong)

/-- 'dioptralaw04.PageTorn': WHATEVER THE INPUT: true; the input reads as it did. -/
def pageTornSpec : ChangeSpec := { name := "pageTorn", fn := fun _ => fun
  | [d1, d2, d3] => { results := [.lit (.bool true)], args := [d1, d2, d3] }
  | _ => none }
def pageTornRow : OpenClaim := { program := "ytcgjppdjjhigoaa", sum := "ae589cd023618077da07990d6fe3366a643d6362d84cc99f4594013fe29ae061", func := "dioptra/dioptralaw04.PageTorn", spec := "pageTorn", unfollowed := true, recurses := true, apart := false }
def PageTornSaid : Prop := pageTornRow.holds Try.pinned (OpenSpec.ofChange pageTornSpec)

/-- ITS FALSE NEIGHBOUR: 'it returns false'. Refute it at one input. -/
def pageTornWrong : ChangeSpec := { name := "pageTorn", fn := fun _ => fun
  | [d1, d2, d3] => { results := [.lit (.bool false)], args := [d1, d2, d3] }
  | _ => none }
def PageTornWrongFalsely : Prop := pageTornRow.holds Try.pinned (OpenSpec.ofChange pageTornWrong)

/-- 'dioptralaw04.PagePlaces': WHATEVER THE INPUT: true; the input reads as it did. -/
def pagePlacesSpec : ChangeSpec := { name := "pagePlaces", fn := fun _ => fun
  | [d1, d2] => { results := [.lit (.bool true)], args := [d1, d2] }
  | _ => none }
def pagePlacesRow : OpenClaim := { program := "ytcgjppdjjhigoaa", sum := "ae589cd023618077da07990d6fe3366a643d6362d84cc99f4594013fe29ae061", func := "dioptra/dioptralaw04.PagePlaces", spec := "pagePlaces", unfollowed := true, recurses := true, apart := false }
def PagePlacesSaid : Prop := pagePlacesRow.holds Try.pinned (OpenSpec.ofChange pagePlacesSpec)

/-- ITS FALSE NEIGHBOUR: 'it returns false'. Refute it at one input. -/
def pagePlacesWrong : ChangeSpec := { name := "pagePlaces", fn := fun _ => fun
  | [d1, d2] => { results := [.lit (.bool false)], args := [d1, d2] }
  | _ => none }
def PagePlacesWrongFalsely : Prop := pagePlacesRow.holds Try.pinned (OpenSpec.ofChange pagePlacesWrong)

/-- 'dioptralaw04.PageOne': WHATEVER THE INPUT: true; the input reads as it did. -/
def pageOneSpec : ChangeSpec := { name := "pageOne", fn := fun _ => fun
  | [d1, d2, d3] => { results := [.lit (.bool true)], args := [d1, d2, d3] }
  | _ => none }
def pageOneRow : OpenClaim := { program := "ytcgjppdjjhigoaa", sum := "ae589cd023618077da07990d6fe3366a643d6362d84cc99f4594013fe29ae061", func := "dioptra/dioptralaw04.PageOne", spec := "pageOne", unfollowed := true, recurses := true, apart := false }
def PageOneSaid : Prop := pageOneRow.holds Try.pinned (OpenSpec.ofChange pageOneSpec)

/-- ITS FALSE NEIGHBOUR: 'it returns false'. Refute it at one input. -/
def pageOneWrong : ChangeSpec := { name := "pageOne", fn := fun _ => fun
  | [d1, d2, d3] => { results := [.lit (.bool false)], args := [d1, d2, d3] }
  | _ => none }
def PageOneWrongFalsely : Prop := pageOneRow.holds Try.pinned (OpenSpec.ofChange pageOneWrong)

/-- 'dioptralaw06.ScanTells': WHATEVER THE INPUT: true; the input reads as it did. -/
def scanTellsSpec : ChangeSpec := { name := "scanTells", fn := fun _ => fun
  | [d] => { results := [.lit (.bool true)], args := [d] }
  | _ => none }
def scanTellsRow : OpenClaim := { program := "ytcgjppdjjhigoaa", sum := "ae589cd023618077da07990d6fe3366a643d6362d84cc99f4594013fe29ae061", func := "dioptra/dioptralaw06.ScanTells", spec := "scanTells", unfollowed := true, recurses := true, apart := false }
def ScanTellsSaid : Prop := scanTellsRow.holds Try.pinned (OpenSpec.ofChange scanTellsSpec)

/-- ITS FALSE NEIGHBOUR: 'it returns false'. Refute it at one input. -/
def scanTellsWrong : ChangeSpec := { name := "scanTells", fn := fun _ => fun
  | [d] => { results := [.lit (.bool false)], args := [d] }
  | _ => none }
def ScanTellsWrongFalsely : Prop := scanTellsRow.holds Try.pinned (OpenSpec.ofChange scanTellsWrong)

/-- 'dioptralaw06.ScanBlocks': WHATEVER THE INPUT: true; the input reads as it did. -/
def scanBlocksSpec : ChangeSpec := { name := "scanBlocks", fn := fun _ => fun
  | [d] => { results := [.lit (.bool true)], args := [d] }
  | _ => none }
def scanBlocksRow : OpenClaim := { program := "ytcgjppdjjhigoaa", sum := "ae589cd023618077da07990d6fe3366a643d6362d84cc99f4594013fe29ae061", func := "dioptra/dioptralaw06.ScanBlocks", spec := "scanBlocks", unfollowed := true, recurses := true, apart := false }
def ScanBlocksSaid : Prop := scanBlocksRow.holds Try.pinned (OpenSpec.ofChange scanBlocksSpec)

/-- ITS FALSE NEIGHBOUR: 'it returns false'. Refute it at one input. -/
def scanBlocksWrong : ChangeSpec := { name := "scanBlocks", fn := fun _ => fun
  | [d] => { results := [.lit (.bool false)], args := [d] }
  | _ => none }
def ScanBlocksWrongFalsely : Prop := scanBlocksRow.holds Try.pinned (OpenSpec.ofChange scanBlocksWrong)

/-- 'dioptralaw06.ScanBack': WHATEVER THE INPUT: true; the input reads as it did. -/
def scanBackSpec : ChangeSpec := { name := "scanBack", fn := fun _ => fun
  | [d] => { results := [.lit (.bool true)], args := [d] }
  | _ => none }
def scanBackRow : OpenClaim := { program := "ytcgjppdjjhigoaa", sum := "ae589cd023618077da07990d6fe3366a643d6362d84cc99f4594013fe29ae061", func := "dioptra/dioptralaw06.ScanBack", spec := "scanBack", unfollowed := true, recurses := true, apart := false }
def ScanBackSaid : Prop := scanBackRow.holds Try.pinned (OpenSpec.ofChange scanBackSpec)

/-- ITS FALSE NEIGHBOUR: 'it returns false'. Refute it at one input. -/
def scanBackWrong : ChangeSpec := { name := "scanBack", fn := fun _ => fun
  | [d] => { results := [.lit (.bool false)], args := [d] }
  | _ => none }
def ScanBackWrongFalsely : Prop := scanBackRow.holds Try.pinned (OpenSpec.ofChange scanBackWrong)

/-- 'dioptralaw06.ScanApart': WHATEVER THE INPUT: true; the input reads as it did. -/
def scanApartSpec : ChangeSpec := { name := "scanApart", fn := fun _ => fun
  | [d1, d2, d3] => { results := [.lit (.bool true)], args := [d1, d2, d3] }
  | _ => none }
def scanApartRow : OpenClaim := { program := "ytcgjppdjjhigoaa", sum := "ae589cd023618077da07990d6fe3366a643d6362d84cc99f4594013fe29ae061", func := "dioptra/dioptralaw06.ScanApart", spec := "scanApart", unfollowed := true, recurses := true, apart := false }
def ScanApartSaid : Prop := scanApartRow.holds Try.pinned (OpenSpec.ofChange scanApartSpec)

/-- ITS FALSE NEIGHBOUR: 'it returns false'. Refute it at one input. -/
def scanApartWrong : ChangeSpec := { name := "scanApart", fn := fun _ => fun
  | [d1, d2, d3] => { results := [.lit (.bool false)], args := [d1, d2, d3] }
  | _ => none }
def ScanApartWrongFalsely : Prop := scanApartRow.holds Try.pinned (OpenSpec.ofChange scanApartWrong)

/-- 'dioptralaw06.ScanSizes': WHATEVER THE INPUT: true; the input reads as it did. -/
def scanSizesSpec : ChangeSpec := { name := "scanSizes", fn := fun _ => fun
  | [d1, d2] => { results := [.lit (.bool true)], args := [d1, d2] }
  | _ => none }
def scanSizesRow : OpenClaim := { program := "ytcgjppdjjhigoaa", sum := "ae589cd023618077da07990d6fe3366a643d6362d84cc99f4594013fe29ae061", func := "dioptra/dioptralaw06.ScanSizes", spec := "scanSizes", unfollowed := true, recurses := true, apart := false }
def ScanSizesSaid : Prop := scanSizesRow.holds Try.pinned (OpenSpec.ofChange scanSizesSpec)

/-- ITS FALSE NEIGHBOUR: 'it returns false'. Refute it at one input. -/
def scanSizesWrong : ChangeSpec := { name := "scanSizes", fn := fun _ => fun
  | [d1, d2] => { results := [.lit (.bool false)], args := [d1, d2] }
  | _ => none }
def ScanSizesWrongFalsely : Prop := scanSizesRow.holds Try.pinned (OpenSpec.ofChange scanSizesWrong)

/-- 'dioptralaw06.ScanNext': WHATEVER THE INPUT: true; the input reads as it did. -/
def scanNextSpec : ChangeSpec := { name := "scanNext", fn := fun _ => fun
  | [d] => { results := [.lit (.bool true)], args := [d] }
  | _ => none }
def scanNextRow : OpenClaim := { program := "ytcgjppdjjhigoaa", sum := "ae589cd023618077da07990d6fe3366a643d6362d84cc99f4594013fe29ae061", func := "dioptra/dioptralaw06.ScanNext", spec := "scanNext", unfollowed := true, recurses := true, apart := false }
def ScanNextSaid : Prop := scanNextRow.holds Try.pinned (OpenSpec.ofChange scanNextSpec)

/-- ITS FALSE NEIGHBOUR: 'it returns false'. Refute it at one input. -/
def scanNextWrong : ChangeSpec := { name := "scanNext", fn := fun _ => fun
  | [d] => { results := [.lit (.bool false)], args := [d] }
  | _ => none }
def ScanNextWrongFalsely : Prop := scanNextRow.holds Try.pinned (OpenSpec.ofChange scanNextWrong)

/- THE SECOND FORM. 'bulk': how many values and letters a reading holds, each counted each time it is reached (what is shared counts as often as it is met; a slice's spare places count too). A statement '..UptoSaid' is the law's where the arguments, and the package variables that the reading takes, are together of bulk at most 1048576: NARROWER than '..Said'. Prove '..Said' where nothing that the law and all that it calls make is longer than what came in: it says more and counts as full. Else prove '..UptoSaid'. A law counts once. -/
mutual
def uptoBulk {H : Type} : DataW H → Nat
  | .lit (.string bytes) => bytes.length + 1
  | .lit _ => 1
  | .nil => 1
  | .ptr d => uptoBulk d + 1
  | .slice elems spare => uptoBulkAll elems + uptoBulkAll spare + 1
  | .agg parts => uptoBulkAll parts + 1
  | .iface _ d => uptoBulk d + 1
  | .map entries => uptoBulkEntries entries + 1
  | .held _ => 1
def uptoBulkAll {H : Type} : List (DataW H) → Nat
  | [] => 0
  | d :: r => uptoBulk d + uptoBulkAll r
def uptoBulkEntries {H : Type} : List (Lit × DataW H) → Nat
  | [] => 0
  | x :: r => uptoBulkEntry x + uptoBulkEntries r
def uptoBulkEntry {H : Type} : Lit × DataW H → Nat
  | (.string bytes, d) => bytes.length + uptoBulk d + 1
  | (_, d) => uptoBulk d + 1
 end
def uptoSmall : (H : Type) → List (DataW H) → Bool := fun _ ds => decide (uptoBulkAll ds ≤ 1048576)
def OpenSpec.upto (s : _root_.Go.ChangeSpec) : _root_.Go.OpenSpec := { _root_.Go.OpenSpec.ofChange s with cond := some uptoSmall }

/-- 'dioptralaw04.PageTells', WHERE WHAT IT READS IS OF BULK AT MOST 1048576: true; the input reads as it did. -/
def pageTellsUptoRow : OpenClaim := { program := "ytcgjppdjjhigoaa", sum := "ae589cd023618077da07990d6fe3366a643d6362d84cc99f4594013fe29ae061", func := "dioptra/dioptralaw04.PageTells", spec := "pageTells", unfollowed := true, recurses := true, apart := false, narrowed := true }
def PageTellsUptoSaid : Prop := pageTellsUptoRow.holds Try.pinned (OpenSpec.upto pageTellsSpec)

/-- 'dioptralaw04.PageCounts', WHERE WHAT IT READS IS OF BULK AT MOST 1048576: true; the input reads as it did. -/
def pageCountsUptoRow : OpenClaim := { program := "ytcgjppdjjhigoaa", sum := "ae589cd023618077da07990d6fe3366a643d6362d84cc99f4594013fe29ae061", func := "dioptra/dioptralaw04.PageCounts", spec := "pageCounts", unfollowed := true, recurses := true, apart := false, narrowed := true }
def PageCountsUptoSaid : Prop := pageCountsUptoRow.holds Try.pinned (OpenSpec.upto pageCountsSpec)

/-- 'dioptralaw04.PageBack', WHERE WHAT IT READS IS OF BULK AT MOST 1048576: true; the input reads as it did. -/
def pageBackUptoRow : OpenClaim := { program := "ytcgjppdjjhigoaa", sum := "ae589cd023618077da07990d6fe3366a643d6362d84cc99f4594013fe29ae061", func := "dioptra/dioptralaw04.PageBack", spec := "pageBack", unfollowed := true, recurses := true, apart := false, narrowed := true }
def PageBackUptoSaid : Prop := pageBackUptoRow.holds Try.pinned (OpenSpec.upto pageBackSpec)

/-- 'dioptralaw04.PageTorn', WHERE WHAT IT READS IS OF BULK AT MOST 1048576: true; the input reads as it did. -/
def pageTornUptoRow : OpenClaim := { program := "ytcgjppdjjhigoaa", sum := "ae589cd023618077da07990d6fe3366a643d6362d84cc99f4594013fe29ae061", func := "dioptra/dioptralaw04.PageTorn", spec := "pageTorn", unfollowed := true, recurses := true, apart := false, narrowed := true }
def PageTornUptoSaid : Prop := pageTornUptoRow.holds Try.pinned (OpenSpec.upto pageTornSpec)

/-- 'dioptralaw04.PagePlaces', WHERE WHAT IT READS IS OF BULK AT MOST 1048576: true; the input reads as it did. -/
def pagePlacesUptoRow : OpenClaim := { program := "ytcgjppdjjhigoaa", sum := "ae589cd023618077da07990d6fe3366a643d6362d84cc99f4594013fe29ae061", func := "dioptra/dioptralaw04.PagePlaces", spec := "pagePlaces", unfollowed := true, recurses := true, apart := false, narrowed := true }
def PagePlacesUptoSaid : Prop := pagePlacesUptoRow.holds Try.pinned (OpenSpec.upto pagePlacesSpec)

/-- 'dioptralaw04.PageOne', WHERE WHAT IT READS IS OF BULK AT MOST 1048576: true; the input reads as it did. -/
def pageOneUptoRow : OpenClaim := { program := "ytcgjppdjjhigoaa", sum := "ae589cd023618077da07990d6fe3366a643d6362d84cc99f4594013fe29ae061", func := "dioptra/dioptralaw04.PageOne", spec := "pageOne", unfollowed := true, recurses := true, apart := false, narrowed := true }
def PageOneUptoSaid : Prop := pageOneUptoRow.holds Try.pinned (OpenSpec.upto pageOneSpec)

/-- 'dioptralaw06.ScanTells', WHERE WHAT IT READS IS OF BULK AT MOST 1048576: true; the input reads as it did. -/
def scanTellsUptoRow : OpenClaim := { program := "ytcgjppdjjhigoaa", sum := "ae589cd023618077da07990d6fe3366a643d6362d84cc99f4594013fe29ae061", func := "dioptra/dioptralaw06.ScanTells", spec := "scanTells", unfollowed := true, recurses := true, apart := false, narrowed := true }
def ScanTellsUptoSaid : Prop := scanTellsUptoRow.holds Try.pinned (OpenSpec.upto scanTellsSpec)

/-- 'dioptralaw06.ScanBlocks', WHERE WHAT IT READS IS OF BULK AT MOST 1048576: true; the input reads as it did. -/
def scanBlocksUptoRow : OpenClaim := { program := "ytcgjppdjjhigoaa", sum := "ae589cd023618077da07990d6fe3366a643d6362d84cc99f4594013fe29ae061", func := "dioptra/dioptralaw06.ScanBlocks", spec := "scanBlocks", unfollowed := true, recurses := true, apart := false, narrowed := true }
def ScanBlocksUptoSaid : Prop := scanBlocksUptoRow.holds Try.pinned (OpenSpec.upto scanBlocksSpec)

/-- 'dioptralaw06.ScanBack', WHERE WHAT IT READS IS OF BULK AT MOST 1048576: true; the input reads as it did. -/
def scanBackUptoRow : OpenClaim := { program := "ytcgjppdjjhigoaa", sum := "ae589cd023618077da07990d6fe3366a643d6362d84cc99f4594013fe29ae061", func := "dioptra/dioptralaw06.ScanBack", spec := "scanBack", unfollowed := true, recurses := true, apart := false, narrowed := true }
def ScanBackUptoSaid : Prop := scanBackUptoRow.holds Try.pinned (OpenSpec.upto scanBackSpec)

/-- 'dioptralaw06.ScanApart', WHERE WHAT IT READS IS OF BULK AT MOST 1048576: true; the input reads as it did. -/
def scanApartUptoRow : OpenClaim := { program := "ytcgjppdjjhigoaa", sum := "ae589cd023618077da07990d6fe3366a643d6362d84cc99f4594013fe29ae061", func := "dioptra/dioptralaw06.ScanApart", spec := "scanApart", unfollowed := true, recurses := true, apart := false, narrowed := true }
def ScanApartUptoSaid : Prop := scanApartUptoRow.holds Try.pinned (OpenSpec.upto scanApartSpec)

/-- 'dioptralaw06.ScanSizes', WHERE WHAT IT READS IS OF BULK AT MOST 1048576: true; the input reads as it did. -/
def scanSizesUptoRow : OpenClaim := { program := "ytcgjppdjjhigoaa", sum := "ae589cd023618077da07990d6fe3366a643d6362d84cc99f4594013fe29ae061", func := "dioptra/dioptralaw06.ScanSizes", spec := "scanSizes", unfollowed := true, recurses := true, apart := false, narrowed := true }
def ScanSizesUptoSaid : Prop := scanSizesUptoRow.holds Try.pinned (OpenSpec.upto scanSizesSpec)

/-- 'dioptralaw06.ScanNext', WHERE WHAT IT READS IS OF BULK AT MOST 1048576: true; the input reads as it did. -/
def scanNextUptoRow : OpenClaim := { program := "ytcgjppdjjhigoaa", sum := "ae589cd023618077da07990d6fe3366a643d6362d84cc99f4594013fe29ae061", func := "dioptra/dioptralaw06.ScanNext", spec := "scanNext", unfollowed := true, recurses := true, apart := false, narrowed := true }
def ScanNextUptoSaid : Prop := scanNextUptoRow.holds Try.pinned (OpenSpec.upto scanNextSpec)

end Rows
end Go.Proofs.Ytcgjppdjjhigoaa
