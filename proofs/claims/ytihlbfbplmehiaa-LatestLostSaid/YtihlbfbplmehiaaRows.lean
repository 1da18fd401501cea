/-
  No cell of these rows narrows 'for every input' (looked for: loops, veiled, ifaces, maps, wideKeys, modest, calm, conditions, laid).
  DERIVED. THE GIVEN ROWS OF THIS SEAT. 5 by the template 'for every input the law returns true; each argument reads behind the call as it read before'; 0 by the template 'total and deterministic' (their statements: YtihlbfbplmehiaaTotals.lean).
  GIVEN WITH THE SEED: the statements are not yours to turn. If you find one false, say at which input.
  Laid BY PROGRAM, IN A SANDBOX (cutbox-rows.mjs): the forced cells as the released guide's own fill.sh prints them over the translation 20287ff2d5613e8d… (all of the seat's roots in one cut). By AI agents, Wed Nov 11 2026. No macro, syntax, notation, axiom, sorry.
-/
import Derived.Test.YtihlbfbplmehiaaChecked
import GoSem.Claim
import GoSem.ClaimJoined
import GoSem.ClaimMapViews
import Derived.JoinedTies
import Derived.KernelRfl
namespace Go.Proofs.Ytihlbfbplmehiaa
/- THE CELL 'sum', in the pinned program and in every row, IS THE sha256 OF THE DUMP (.gsa) THAT YtihlbfbplmehiaaProg.lean LOADS. Nothing in Lean hashes anything: it is a label: what it is worth is what the hold of that sum in a sandbox is worth. -/
noncomputable def Try.pinned : Pinned := { name := "ytihlbfbplmehiaa", sum := "20287ff2d5613e8d2836848964768ef11f2b0dc256b7c41924ed44ff23a53bc5", checked := Try.checked }
namespace Rows
def none {H : Type} : Left H := { results := [], args := [] }

/-- 'dioptralaw07.LatestFinds': WHATEVER THE INPUT: true; the input reads as it did. -/
def latestFindsSpec : ChangeSpec := { name := "latestFinds", fn := fun _ => fun
  | [d1, d2] => { results := [.lit (.bool true)], args := [d1, d2] }
  | _ => none }
def latestFindsRow : OpenClaim := { program := "ytihlbfbplmehiaa", sum := "20287ff2d5613e8d2836848964768ef11f2b0dc256b7c41924ed44ff23a53bc5", func := "dioptra/dioptralaw07.LatestFinds", spec := "latestFinds", unfollowed := true, recurses := true, apart := false }
def LatestFindsSaid : Prop := latestFindsRow.holds Try.pinned (OpenSpec.ofChange latestFindsSpec)

/-- ITS FALSE NEIGHBOUR: 'it returns false'. Refute it at one input. -/
def latestFindsWrong : ChangeSpec := { name := "latestFinds", fn := fun _ => fun
  | [d1, d2] => { results := [.lit (.bool false)], args := [d1, d2] }
  | _ => none }
def LatestFindsWrongFalsely : Prop := latestFindsRow.holds Try.pinned (OpenSpec.ofChange latestFindsWrong)

/-- 'dioptralaw07.LatestGreatest': WHATEVER THE INPUT: true; the input reads as it did. -/
def latestGreatestSpec : ChangeSpec := { name := "latestGreatest", fn := fun _ => fun
  | [d] => { results := [.lit (.bool true)], args := [d] }
  | _ => none }
def latestGreatestRow : OpenClaim := { program := "ytihlbfbplmehiaa", sum := "20287ff2d5613e8d2836848964768ef11f2b0dc256b7c41924ed44ff23a53bc5", func := "dioptra/dioptralaw07.LatestGreatest", spec := "latestGreatest", unfollowed := true, recurses := true, apart := false }
def LatestGreatestSaid : Prop := latestGreatestRow.holds Try.pinned (OpenSpec.ofChange latestGreatestSpec)

/-- ITS FALSE NEIGHBOUR: 'it returns false'. Refute it at one input. -/
def latestGreatestWrong : ChangeSpec := { name := "latestGreatest", fn := fun _ => fun
  | [d] => { results := [.lit (.bool false)], args := [d] }
  | _ => none }
def LatestGreatestWrongFalsely : Prop := latestGreatestRow.holds Try.pinned (OpenSpec.ofChange latestGreatestWrong)

/-- 'dioptralaw07.LatestLost': WHATEVER THE INPUT: true; the input reads as it did. -/
def latestLostSpec : ChangeSpec := { name := "latestLost", fn := fun _ => fun
  | [d1, d2] => { results := [.lit (.bool true)], args := [d1, d2] }
  | _ => none }
def latestLostRow : OpenClaim := { program := "ytihlbfbplmehiaa", sum := "20287ff2d5613e8d2836848964768ef11f2b0dc256b7c41924ed44ff23a53bc5", func := "dioptra/dioptralaw07.LatestLost", spec := "latestLost", unfollowed := true, recurses := true, apart := false }
def LatestLostSaid : Prop := latestLostRow.holds Try.pinned (OpenSpec.ofChange latestLostSpec)

/-- ITS FALSE NEIGHBOUR: 'it returns false'. Refute it at one input. -/
def latestLostWrong : ChangeSpec := { name := "latestLost", fn := fun _ => fun
  | [d1, d2] => { results := [.lit (.bool false)], args := [d1, d2] }
  | _ => none }
def LatestLostWrongFalsely : Prop := latestLostRow.holds Try.pinned (OpenSpec.ofChange latestLostWrong)

/-- 'dioptralaw07.LatestNone': WHATEVER THE INPUT: true; the input reads as it did. -/
def latestNoneSpec : ChangeSpec := { name := "latestNone", fn := fun _ => fun
  | [d1, d2] => { results := [.lit (.bool true)], args := [d1, d2] }
  | _ => none }
def latestNoneRow : OpenClaim := { program := "ytihlbfbplmehiaa", sum := "20287ff2d5613e8d2836848964768ef11f2b0dc256b7c41924ed44ff23a53bc5", func := "dioptra/dioptralaw07.LatestNone", spec := "latestNone", unfollowed := true, recurses := true, apart := false }
def LatestNoneSaid : Prop := latestNoneRow.holds Try.pinned (OpenSpec.ofChange latestNoneSpec)

/-- ITS FALSE NEIGHBOUR: 'it returns false'. Refute it at one input. -/
def latestNoneWrong : ChangeSpec := { name := "latestNone", fn := fun _ => fun
  | [d1, d2] => { results := [.lit (.bool false)], args := [d1, d2] }
  | _ => none }
def LatestNoneWrongFalsely : Prop := latestNoneRow.holds Try.pinned (OpenSpec.ofChange latestNoneWrong)

/-- 'dioptralaw07.LatestAdds': WHATEVER THE INPUT: true; the input reads as it did. -/
def latestAddsSpec : ChangeSpec := { name := "latestAdds", fn := fun _ => fun
  | [d1, d2] => { results := [.lit (.bool true)], args := [d1, d2] }
  | _ => none }
def latestAddsRow : OpenClaim := { program := "ytihlbfbplmehiaa", sum := "20287ff2d5613e8d2836848964768ef11f2b0dc256b7c41924ed44ff23a53bc5", func := "dioptra/dioptralaw07.LatestAdds", spec := "latestAdds", unfollowed := true, recurses := true, apart := false }
def LatestAddsSaid : Prop := latestAddsRow.holds Try.pinned (OpenSpec.ofChange latestAddsSpec)

/-- ITS FALSE NEIGHBOUR: 'it returns false'. Refute it at one input. -/
def latestAddsWrong : ChangeSpec := { name := "latestAdds", fn := fun _ => fun
  | [d1, d2] => { results := [.lit (.bool false)], args := [d1, d2] }
  | _ => none }
def LatestAddsWrongFalsely : Prop := latestAddsRow.holds Try.pinned (OpenSpec.ofChange latestAddsWrong)

/- THE SECOND FORM. 'bulk': how many values and letters a reading holds, each counted each time it is reached (what is shared counts as often as it is met; a slice's spare places count too). A statement '..UptoSaid' is the law's where the arguments, and the package variables that the reading takes, are together of bulk at most 1048576: NARROWER than '..Said'. Prove '..Said' where nothing that the law and all that it calls make is longer than what came in: it says more and counts as full. Else prove '..UptoSaid'. A law counts once. -/
mutual
def uptoBulk {H : Type} : DataW H → Nat
  | .lit (.string bytes) => bytes.length + 1
  | .lit _ => 1
  | .nil => 1
  | .ptr d => uptoBulk d + 1
  | .slice elems spare => uptoBulkAll elems + uptoBulkAll spare + 1
  | .agg parts => uptoBulkAll parts + 1
  | .iface _ d => uptoBulk d + 1
  | .map entries => uptoBulkEntries entries + 1
  | .held _ => 1
def uptoBulkAll {H : Type} : List (DataW H) → Nat
  | [] => 0
  | d :: r => uptoBulk d + uptoBulkAll r
def uptoBulkEntries {H : Type} : List (Lit × DataW H) → Nat
  | [] => 0
  | x :: r => uptoBulkEntry x + uptoBulkEntries r
def uptoBulkEntry {H : Type} : Lit × DataW H → Nat
  | (.string bytes, d) => bytes.length + uptoBulk d + 1
  | (_, d) => uptoBulk d + 1
 end
def uptoSmall : (H : Type) → List (DataW H) → Bool := fun _ ds => decide (uptoBulkAll ds ≤ 1048576)
def OpenSpec.upto (s : _root_.Go.ChangeSpec) : _root_.Go.OpenSpec := { _root_.Go.OpenSpec.ofChange s with cond := some uptoSmall }

/-- 'dioptralaw07.LatestFinds', WHERE WHAT IT READS IS OF BULK AT MOST 1048576: true; the input reads as it did. -/
def latestFindsUptoRow : OpenClaim := { program := "ytihlbfbplmehiaa", sum := "20287ff2d5613e8d2836848964768ef11f2b0dc256b7c41924ed44ff23a53bc5", func := "dioptra/dioptralaw07.LatestFinds", spec := "latestFinds", unfollowed := true, recurses := true, apart := false, narrowed := true }
def LatestFindsUptoSaid : Prop := latestFindsUptoRow.holds Try.pinned (OpenSpec.upto latestFindsSpec)

/-- 'dioptralaw07.LatestGreatest', WHERE WHAT IT READS IS OF BULK AT MOST 1048576: true; the input reads as it did. -/
def latestGreatestUptoRow : OpenClaim := { program := "ytihlbfbplmehiaa", sum := "20287ff2d5613e8d2836848964768ef11f2b0dc256b7c41924ed44ff23a53bc5", func := "dioptra/dioptralaw07.LatestGreatest", spec := "latestGreatest", unfollowed := true, recurses := true, apart := false, narrowed := true }
def LatestGreatestUptoSaid : Prop := latestGreatestUptoRow.holds Try.pinned (OpenSpec.upto latestGreatestSpec)

/-- 'dioptralaw07.LatestLost', WHERE WHAT IT READS IS OF BULK AT MOST 1048576: true; the input reads as it did. -/
def latestLostUptoRow : OpenClaim := { program := "ytihlbfbplmehiaa", sum := "20287ff2d5613e8d2836848964768ef11f2b0dc256b7c41924ed44ff23a53bc5", func := "dioptra/dioptralaw07.LatestLost", spec := "latestLost", unfollowed := true, recurses := true, apart := false, narrowed := true }
def LatestLostUptoSaid : Prop := latestLostUptoRow.holds Try.pinned (OpenSpec.upto latestLostSpec)

/-- 'dioptralaw07.LatestNone', WHERE WHAT IT READS IS OF BULK AT MOST 1048576: true; the input reads as it did. -/
def latestNoneUptoRow : OpenClaim := { program := "ytihlbfbplmehiaa", sum := "20287ff2d5613e8d2836848964768ef11f2b0dc256b7c41924ed44ff23a53bc5", func := "dioptra/dioptralaw07.LatestNone", spec := "latestNone", unfollowed := true, recurses := true, apart := false, narrowed := true }
def LatestNoneUptoSaid : Prop := latestNoneUptoRow.holds Try.pinned (OpenSpec.upto latestNoneSpec)

/-- 'dioptralaw07.LatestAdds', WHERE WHAT IT READS IS OF BULK AT MOST 1048576: true; the input reads as it did. -/
def latestAddsUptoRow : OpenClaim := { program := "ytihlbfbplmehiaa", sum := "20287ff2d5613e8d2836848964768ef11f2b0dc256b7c41924ed44ff23a53bc5", func := "dioptra/dioptralaw07.LatestAdds", spec := "latestAdds", unfollowed := true, recurses := true, apart := false, narrowed := true }
def LatestAddsUptoSaid : Prop := latestAddsUptoRow.holds Try.pinned (OpenSpec.upto latestAddsSpec)

end Rows
end Go.Proofs.Ytihlbfbplmehiaa
