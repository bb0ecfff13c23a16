/-
  No cell of these rows narrows 'for every input' (looked for: loops, veiled, ifaces, maps, wideKeys, modest, calm, conditions, laid).
  DERIVED. THE GIVEN ROWS OF THIS SEAT. 11 by the template 'for every input the law returns true; each argument reads behind the call as it read before'; 0 by the template 'total and deterministic' (their statements: YtiogdklmhpllfaaTotals.lean).
  GIVEN WITH THE SEED: the statements are not yours to turn. If you find one false, say at which input.
  Laid BY PROGRAM, IN A SANDBOX (cutbox-rows.mjs): the forced cells as the released guide's own fill.sh prints them over the translation c2dcdd8e4c548cb6… (all of the seat's roots in one cut). By AI agents, Wed Nov 11 2026. No macro, syntax, notation, axiom, sorry.
-/
import Derived.Test.YtiogdklmhpllfaaChecked
import GoSem.Claim
import GoSem.ClaimJoined
import GoSem.ClaimMapViews
import Derived.JoinedTies
import Derived.KernelRfl
namespace Go.Proofs.Ytiogdklmhpllfaa
/- THE CELL 'sum', in the pinned program and in every row, IS THE sha256 OF THE DUMP (.gsa) THAT YtiogdklmhpllfaaProg.lean LOADS. Nothing in Lean hashes anything: it is a label: what it is worth is what the hold of that sum in a sandbox is worth. -/
noncomputable def Try.pinned : Pinned := { name := "ytiogdklmhpllfaa", sum := "c2dcdd8e4c548cb60964a3ce55a246de76b5e064a08c41d1a8b6a7785ff81d32", checked := Try.checked }
namespace Rows
def none {H : Type} : Left H := { results := [], args := [] }

/-- 'thalweglaw18.LinksTurn': WHATEVER THE INPUT: true; the input reads as it did. -/
def linksTurnSpec : ChangeSpec := { name := "linksTurn", fn := fun _ => fun
  | [d1, d2] => { results := [.lit (.bool true)], args := [d1, d2] }
  | _ => none }
def linksTurnRow : OpenClaim := { program := "ytiogdklmhpllfaa", sum := "c2dcdd8e4c548cb60964a3ce55a246de76b5e064a08c41d1a8b6a7785ff81d32", func := "thalweg/thalweglaw18.LinksTurn", spec := "linksTurn", unfollowed := true, recurses := true, apart := false }
def LinksTurnSaid : Prop := linksTurnRow.holds Try.pinned (OpenSpec.ofChange linksTurnSpec)

/-- ITS FALSE NEIGHBOUR: 'it returns false'. Refute it at one input. -/
def linksTurnWrong : ChangeSpec := { name := "linksTurn", fn := fun _ => fun
  | [d1, d2] => { results := [.lit (.bool false)], args := [d1, d2] }
  | _ => none }
def LinksTurnWrongFalsely : Prop := linksTurnRow.holds Try.pinned (OpenSpec.ofChange linksTurnWrong)

/-- 'thalweglaw18.LinksSplit': WHATEVER THE INPUT: true; the input reads as it did. -/
def linksSplitSpec : ChangeSpec := { name := "linksSplit", fn := fun _ => fun
  | [d1, d2] => { results := [.lit (.bool true)], args := [d1, d2] }
  | _ => none }
def linksSplitRow : OpenClaim := { program := "ytiogdklmhpllfaa", sum := "c2dcdd8e4c548cb60964a3ce55a246de76b5e064a08c41d1a8b6a7785ff81d32", func := "thalweg/thalweglaw18.LinksSplit", spec := "linksSplit", unfollowed := true, recurses := true, apart := false }
def LinksSplitSaid : Prop := linksSplitRow.holds Try.pinned (OpenSpec.ofChange linksSplitSpec)

/-- ITS FALSE NEIGHBOUR: 'it returns false'. Refute it at one input. -/
def linksSplitWrong : ChangeSpec := { name := "linksSplit", fn := fun _ => fun
  | [d1, d2] => { results := [.lit (.bool false)], args := [d1, d2] }
  | _ => none }
def LinksSplitWrongFalsely : Prop := linksSplitRow.holds Try.pinned (OpenSpec.ofChange linksSplitWrong)

/-- 'thalweglaw12.ViewsOrder': WHATEVER THE INPUT: true; the input reads as it did. -/
def viewsOrderSpec : ChangeSpec := { name := "viewsOrder", fn := fun _ => fun
  | [d1, d2, d3, d4, d5] => { results := [.lit (.bool true)], args := [d1, d2, d3, d4, d5] }
  | _ => none }
def viewsOrderRow : OpenClaim := { program := "ytiogdklmhpllfaa", sum := "c2dcdd8e4c548cb60964a3ce55a246de76b5e064a08c41d1a8b6a7785ff81d32", func := "thalweg/thalweglaw12.ViewsOrder", spec := "viewsOrder", inPlace := ["slices.overlaps[thalweg/api.View]"], unfollowed := true, recurses := true, apart := false }
def ViewsOrderSaid : Prop := viewsOrderRow.holds Try.pinned (OpenSpec.ofChange viewsOrderSpec)

/-- ITS FALSE NEIGHBOUR: 'it returns false'. Refute it at one input. -/
def viewsOrderWrong : ChangeSpec := { name := "viewsOrder", fn := fun _ => fun
  | [d1, d2, d3, d4, d5] => { results := [.lit (.bool false)], args := [d1, d2, d3, d4, d5] }
  | _ => none }
def ViewsOrderWrongFalsely : Prop := viewsOrderRow.holds Try.pinned (OpenSpec.ofChange viewsOrderWrong)

/-- 'thalweglaw12.ViewsForget': WHATEVER THE INPUT: true; the input reads as it did. -/
def viewsForgetSpec : ChangeSpec := { name := "viewsForget", fn := fun _ => fun
  | [d1, d2, d3] => { results := [.lit (.bool true)], args := [d1, d2, d3] }
  | _ => none }
def viewsForgetRow : OpenClaim := { program := "ytiogdklmhpllfaa", sum := "c2dcdd8e4c548cb60964a3ce55a246de76b5e064a08c41d1a8b6a7785ff81d32", func := "thalweg/thalweglaw12.ViewsForget", spec := "viewsForget", inPlace := ["slices.overlaps[thalweg/api.View]"], unfollowed := true, recurses := true, apart := false }
def ViewsForgetSaid : Prop := viewsForgetRow.holds Try.pinned (OpenSpec.ofChange viewsForgetSpec)

/-- ITS FALSE NEIGHBOUR: 'it returns false'. Refute it at one input. -/
def viewsForgetWrong : ChangeSpec := { name := "viewsForget", fn := fun _ => fun
  | [d1, d2, d3] => { results := [.lit (.bool false)], args := [d1, d2, d3] }
  | _ => none }
def ViewsForgetWrongFalsely : Prop := viewsForgetRow.holds Try.pinned (OpenSpec.ofChange viewsForgetWrong)

/-- 'thalweglaw12.ViewsSplit': WHATEVER THE INPUT: true; the input reads as it did. -/
def viewsSplitSpec : ChangeSpec := { name := "viewsSplit", fn := fun _ => fun
  | [d1, d2] => { results := [.lit (.bool true)], args := [d1, d2] }
  | _ => none }
def viewsSplitRow : OpenClaim := { program := "ytiogdklmhpllfaa", sum := "c2dcdd8e4c548cb60964a3ce55a246de76b5e064a08c41d1a8b6a7785ff81d32", func := "thalweg/thalweglaw12.ViewsSplit", spec := "viewsSplit", inPlace := ["slices.overlaps[thalweg/api.View]"], unfollowed := true, recurses := true, apart := false }
def ViewsSplitSaid : Prop := viewsSplitRow.holds Try.pinned (OpenSpec.ofChange viewsSplitSpec)

/-- ITS FALSE NEIGHBOUR: 'it returns false'. Refute it at one input. -/
def viewsSplitWrong : ChangeSpec := { name := "viewsSplit", fn := fun _ => fun
  | [d1, d2] => { results := [.lit (.bool false)], args := [d1, d2] }
  | _ => none }
def ViewsSplitWrongFalsely : Prop := viewsSplitRow.holds Try.pinned (OpenSpec.ofChange viewsSplitWrong)

/-- 'thalweglaw12.ViewsLie': WHATEVER THE INPUT: true; the input reads as it did. -/
def viewsLieSpec : ChangeSpec := { name := "viewsLie", fn := fun _ => fun
  | [d1, d2, d3, d4] => { results := [.lit (.bool true)], args := [d1, d2, d3, d4] }
  | _ => none }
def viewsLieRow : OpenClaim := { program := "ytiogdklmhpllfaa", sum := "c2dcdd8e4c548cb60964a3ce55a246de76b5e064a08c41d1a8b6a7785ff81d32", func := "thalweg/thalweglaw12.ViewsLie", spec := "viewsLie", inPlace := ["slices.overlaps[thalweg/api.View]"], unfollowed := true, recurses := true, apart := false }
def ViewsLieSaid : Prop := viewsLieRow.holds Try.pinned (OpenSpec.ofChange viewsLieSpec)

/-- ITS FALSE NEIGHBOUR: 'it returns false'. Refute it at one input. -/
def viewsLieWrong : ChangeSpec := { name := "viewsLie", fn := fun _ => fun
  | [d1, d2, d3, d4] => { results := [.lit (.bool false)], args := [d1, d2, d3, d4] }
  | _ => none }
def ViewsLieWrongFalsely : Prop := viewsLieRow.holds Try.pinned (OpenSpec.ofChange viewsLieWrong)

/-- 'thalweglaw18.LinksMore': WHATEVER THE INPUT: true; the input reads as it did. -/
def linksMoreSpec : ChangeSpec := { name := "linksMore", fn := fun _ => fun
  | [d1, d2, d3, d4] => { results := [.lit (.bool true)], args := [d1, d2, d3, d4] }
  | _ => none }
def linksMoreRow : OpenClaim := { program := "ytiogdklmhpllfaa", sum := "c2dcdd8e4c548cb60964a3ce55a246de76b5e064a08c41d1a8b6a7785ff81d32", func := "thalweg/thalweglaw18.LinksMore", spec := "linksMore", inPlace := ["slices.overlaps[thalweg/api.View]"], unfollowed := true, recurses := true, apart := false }
def LinksMoreSaid : Prop := linksMoreRow.holds Try.pinned (OpenSpec.ofChange linksMoreSpec)

/-- ITS FALSE NEIGHBOUR: 'it returns false'. Refute it at one input. -/
def linksMoreWrong : ChangeSpec := { name := "linksMore", fn := fun _ => fun
  | [d1, d2, d3, d4] => { results := [.lit (.bool false)], args := [d1, d2, d3, d4] }
  | _ => none }
def LinksMoreWrongFalsely : Prop := linksMoreRow.holds Try.pinned (OpenSpec.ofChange linksMoreWrong)

/-- 'thalweglaw12.ViewsSet': WHATEVER THE INPUT: true; the input reads as it did. -/
def viewsSetSpec : ChangeSpec := { name := "viewsSet", fn := fun _ => fun
  | [d1, d2, d3] => { results := [.lit (.bool true)], args := [d1, d2, d3] }
  | _ => none }
def viewsSetRow : OpenClaim := { program := "ytiogdklmhpllfaa", sum := "c2dcdd8e4c548cb60964a3ce55a246de76b5e064a08c41d1a8b6a7785ff81d32", func := "thalweg/thalweglaw12.ViewsSet", spec := "viewsSet", inPlace := ["slices.overlaps[thalweg/api.View]"], unfollowed := true, recurses := true, apart := false }
def ViewsSetSaid : Prop := viewsSetRow.holds Try.pinned (OpenSpec.ofChange viewsSetSpec)

/-- ITS FALSE NEIGHBOUR: 'it returns false'. Refute it at one input. -/
def viewsSetWrong : ChangeSpec := { name := "viewsSet", fn := fun _ => fun
  | [d1, d2, d3] => { results := [.lit (.bool false)], args := [d1, d2, d3] }
  | _ => none }
def ViewsSetWrongFalsely : Prop := viewsSetRow.holds Try.pinned (OpenSpec.ofChange viewsSetWrong)

/-- 'thalweglaw12.ViewsKeep': WHATEVER THE INPUT: true; the input reads as it did. -/
def viewsKeepSpec : ChangeSpec := { name := "viewsKeep", fn := fun _ => fun
  | [d1, d2, d3, d4] => { results := [.lit (.bool true)], args := [d1, d2, d3, d4] }
  | _ => none }
def viewsKeepRow : OpenClaim := { program := "ytiogdklmhpllfaa", sum := "c2dcdd8e4c548cb60964a3ce55a246de76b5e064a08c41d1a8b6a7785ff81d32", func := "thalweg/thalweglaw12.ViewsKeep", spec := "viewsKeep", inPlace := ["slices.overlaps[thalweg/api.View]"], unfollowed := true, recurses := true, apart := false }
def ViewsKeepSaid : Prop := viewsKeepRow.holds Try.pinned (OpenSpec.ofChange viewsKeepSpec)

/-- ITS FALSE NEIGHBOUR: 'it returns false'. Refute it at one input. -/
def viewsKeepWrong : ChangeSpec := { name := "viewsKeep", fn := fun _ => fun
  | [d1, d2, d3, d4] => { results := [.lit (.bool false)], args := [d1, d2, d3, d4] }
  | _ => none }
def ViewsKeepWrongFalsely : Prop := viewsKeepRow.holds Try.pinned (OpenSpec.ofChange viewsKeepWrong)

/-- 'thalweglaw18.LinksLie': WHATEVER THE INPUT: true; the input reads as it did. -/
def linksLieSpec : ChangeSpec := { name := "linksLie", fn := fun _ => fun
  | [d1, d2, d3] => { results := [.lit (.bool true)], args := [d1, d2, d3] }
  | _ => none }
def linksLieRow : OpenClaim := { program := "ytiogdklmhpllfaa", sum := "c2dcdd8e4c548cb60964a3ce55a246de76b5e064a08c41d1a8b6a7785ff81d32", func := "thalweg/thalweglaw18.LinksLie", spec := "linksLie", unfollowed := true, recurses := true, apart := false }
def LinksLieSaid : Prop := linksLieRow.holds Try.pinned (OpenSpec.ofChange linksLieSpec)

/-- ITS FALSE NEIGHBOUR: 'it returns false'. Refute it at one input. -/
def linksLieWrong : ChangeSpec := { name := "linksLie", fn := fun _ => fun
  | [d1, d2, d3] => { results := [.lit (.bool false)], args := [d1, d2, d3] }
  | _ => none }
def LinksLieWrongFalsely : Prop := linksLieRow.holds Try.pinned (OpenSpec.ofChange linksLieWrong)

/-- 'thalweglaw18.LinksLevels': WHATEVER THE INPUT: true; the input reads as it did. -/
def linksLevelsSpec : ChangeSpec := { name := "linksLevels", fn := fun _ => fun
  | [d] => { results := [.lit (.bool true)], args := [d] }
  | _ => none }
def linksLevelsRow : OpenClaim := { program := "ytiogdklmhpllfaa", sum := "c2dcdd8e4c548cb60964a3ce55a246de76b5e064a08c41d1a8b6a7785ff81d32", func := "thalweg/thalweglaw18.LinksLevels", spec := "linksLevels", unfollowed := true, recurses := true, apart := false }
def LinksLevelsSaid : Prop := linksLevelsRow.holds Try.pinned (OpenSpec.ofChange linksLevelsSpec)

/-- ITS FALSE NEIGHBOUR: 'it returns false'. Refute it at one input. -/
def linksLevelsWrong : ChangeSpec := { name := "linksLevels", fn := fun _ => fun
  | [d] => { results := [.lit (.bool false)], args := [d] }
  | _ => none }
def LinksLevelsWrongFalsely : Prop := linksLevelsRow.holds Try.pinned (OpenSpec.ofChange linksLevelsWrong)

/- THE SECOND FORM. 'bulk': how many values and letters a reading holds, each counted each time it is reached (what is shared counts as often as it is met; a slice's spare places count too). A statement '..UptoSaid' is the law's where the arguments, and the package variables that the reading takes, are together of bulk at most 1048576: NARROWER than '..Said'. Prove '..Said' where nothing that the law and all that it calls make is longer than what came in: it says more and counts as full. Else prove '..UptoSaid'. A law counts once. -/
mutual
def uptoBulk {H : Type} : DataW H → Nat
  | .lit (.string bytes) => bytes.length + 1
  | .lit _ => 1
  | .nil => 1
  | .ptr d => uptoBulk d + 1
  | .slice elems spare => uptoBulkAll elems + uptoBulkAll spare + 1
  | .agg parts => uptoBulkAll parts + 1
  | .iface _ d => uptoBulk d + 1
  | .map entries => uptoBulkEntries entries + 1
  | .held _ => 1
def uptoBulkAll {H : Type} : List (DataW H) → Nat
  | [] => 0
  | d :: r => uptoBulk d + uptoBulkAll r
def uptoBulkEntries {H : Type} : List (Lit × DataW H) → Nat
  | [] => 0
  | x :: r => uptoBulkEntry x + uptoBulkEntries r
def uptoBulkEntry {H : Type} : Lit × DataW H → Nat
  | (.string bytes, d) => bytes.length + uptoBulk d + 1
  | (_, d) => uptoBulk d + 1
 end
def uptoSmall : (H : Type) → List (DataW H) → Bool := fun _ ds => decide (uptoBulkAll ds ≤ 1048576)
def OpenSpec.upto (s : _root_.Go.ChangeSpec) : _root_.Go.OpenSpec := { _root_.Go.OpenSpec.ofChange s with cond := some uptoSmall }

/-- 'thalweglaw18.LinksTurn', WHERE WHAT IT READS IS OF BULK AT MOST 1048576: true; the input reads as it did. -/
def linksTurnUptoRow : OpenClaim := { program := "ytiogdklmhpllfaa", sum := "c2dcdd8e4c548cb60964a3ce55a246de76b5e064a08c41d1a8b6a7785ff81d32", func := "thalweg/thalweglaw18.LinksTurn", spec := "linksTurn", unfollowed := true, recurses := true, apart := false, narrowed := true }
def LinksTurnUptoSaid : Prop := linksTurnUptoRow.holds Try.pinned (OpenSpec.upto linksTurnSpec)

/-- 'thalweglaw18.LinksSplit', WHERE WHAT IT READS IS OF BULK AT MOST 1048576: true; the input reads as it did. -/
def linksSplitUptoRow : OpenClaim := { program := "ytiogdklmhpllfaa", sum := "c2dcdd8e4c548cb60964a3ce55a246de76b5e064a08c41d1a8b6a7785ff81d32", func := "thalweg/thalweglaw18.LinksSplit", spec := "linksSplit", unfollowed := true, recurses := true, apart := false, narrowed := true }
def LinksSplitUptoSaid : Prop := linksSplitUptoRow.holds Try.pinned (OpenSpec.upto linksSplitSpec)

/-- 'thalweglaw12.ViewsOrder', WHERE WHAT IT READS IS OF BULK AT MOST 1048576: true; the input reads as it did. -/
def viewsOrderUptoRow : OpenClaim := { program := "ytiogdklmhpllfaa", sum := "c2dcdd8e4c548cb60964a3ce55a246de76b5e064a08c41d1a8b6a7785ff81d32", func := "thalweg/thalweglaw12.ViewsOrder", spec := "viewsOrder", inPlace := ["slices.overlaps[thalweg/api.View]"], unfollowed := true, recurses := true, apart := false, narrowed := true }
def ViewsOrderUptoSaid : Prop := viewsOrderUptoRow.holds Try.pinned (OpenSpec.upto viewsOrderSpec)

/-- 'thalweglaw12.ViewsForget', WHERE WHAT IT READS IS OF BULK AT MOST 1048576: true; the input reads as it did. -/
def viewsForgetUptoRow : OpenClaim := { program := "ytiogdklmhpllfaa", sum := "c2dcdd8e4c548cb60964a3ce55a246de76b5e064a08c41d1a8b6a7785ff81d32", func := "thalweg/thalweglaw12.ViewsForget", spec := "viewsForget", inPlace := ["slices.overlaps[thalweg/api.View]"], unfollowed := true, recurses := true, apart := false, narrowed := true }
def ViewsForgetUptoSaid : Prop := viewsForgetUptoRow.holds Try.pinned (OpenSpec.upto viewsForgetSpec)

/-- 'thalweglaw12.ViewsSplit', WHERE WHAT IT READS IS OF BULK AT MOST 1048576: true; the input reads as it did. -/
def viewsSplitUptoRow : OpenClaim := { program := "ytiogdklmhpllfaa", sum := "c2dcdd8e4c548cb60964a3ce55a246de76b5e064a08c41d1a8b6a7785ff81d32", func := "thalweg/thalweglaw12.ViewsSplit", spec := "viewsSplit", inPlace := ["slices.overlaps[thalweg/api.View]"], unfollowed := true, recurses := true, apart := false, narrowed := true }
def ViewsSplitUptoSaid : Prop := viewsSplitUptoRow.holds Try.pinned (OpenSpec.upto viewsSplitSpec)

/-- 'thalweglaw12.ViewsLie', WHERE WHAT IT READS IS OF BULK AT MOST 1048576: true; the input reads as it did. -/
def viewsLieUptoRow : OpenClaim := { program := "ytiogdklmhpllfaa", sum := "c2dcdd8e4c548cb60964a3ce55a246de76b5e064a08c41d1a8b6a7785ff81d32", func := "thalweg/thalweglaw12.ViewsLie", spec := "viewsLie", inPlace := ["slices.overlaps[thalweg/api.View]"], unfollowed := true, recurses := true, apart := false, narrowed := true }
def ViewsLieUptoSaid : Prop := viewsLieUptoRow.holds Try.pinned (OpenSpec.upto viewsLieSpec)

/-- 'thalweglaw18.LinksMore', WHERE WHAT IT READS IS OF BULK AT MOST 1048576: true; the input reads as it did. -/
def linksMoreUptoRow : OpenClaim := { program := "ytiogdklmhpllfaa", sum := "c2dcdd8e4c548cb60964a3ce55a246de76b5e064a08c41d1a8b6a7785ff81d32", func := "thalweg/thalweglaw18.LinksMore", spec := "linksMore", inPlace := ["slices.overlaps[thalweg/api.View]"], unfollowed := true, recurses := true, apart := false, narrowed := true }
def LinksMoreUptoSaid : Prop := linksMoreUptoRow.holds Try.pinned (OpenSpec.upto linksMoreSpec)

/-- 'thalweglaw12.ViewsSet', WHERE WHAT IT READS IS OF BULK AT MOST 1048576: true; the input reads as it did. -/
def viewsSetUptoRow : OpenClaim := { program := "ytiogdklmhpllfaa", sum := "c2dcdd8e4c548cb60964a3ce55a246de76b5e064a08c41d1a8b6a7785ff81d32", func := "thalweg/thalweglaw12.ViewsSet", spec := "viewsSet", inPlace := ["slices.overlaps[thalweg/api.View]"], unfollowed := true, recurses := true, apart := false, narrowed := true }
def ViewsSetUptoSaid : Prop := viewsSetUptoRow.holds Try.pinned (OpenSpec.upto viewsSetSpec)

/-- 'thalweglaw12.ViewsKeep', WHERE WHAT IT READS IS OF BULK AT MOST 1048576: true; the input reads as it did. -/
def viewsKeepUptoRow : OpenClaim := { program := "ytiogdklmhpllfaa", sum := "c2dcdd8e4c548cb60964a3ce55a246de76b5e064a08c41d1a8b6a7785ff81d32", func := "thalweg/thalweglaw12.ViewsKeep", spec := "viewsKeep", inPlace := ["slices.overlaps[thalweg/api.View]"], unfollowed := true, recurses := true, apart := false, narrowed := true }
def ViewsKeepUptoSaid : Prop := viewsKeepUptoRow.holds Try.pinned (OpenSpec.upto viewsKeepSpec)

/-- 'thalweglaw18.LinksLie', WHERE WHAT IT READS IS OF BULK AT MOST 1048576: true; the input reads as it did. -/
def linksLieUptoRow : OpenClaim := { program := "ytiogdklmhpllfaa", sum := "c2dcdd8e4c548cb60964a3ce55a246de76b5e064a08c41d1a8b6a7785ff81d32", func := "thalweg/thalweglaw18.LinksLie", spec := "linksLie", unfollowed := true, recurses := true, apart := false, narrowed := true }
def LinksLieUptoSaid : Prop := linksLieUptoRow.holds Try.pinned (OpenSpec.upto linksLieSpec)

/-- 'thalweglaw18.LinksLevels', WHERE WHAT IT READS IS OF BULK AT MOST 1048576: true; the input reads as it did. -/
def linksLevelsUptoRow : OpenClaim := { program := "ytiogdklmhpllfaa", sum := "c2dcdd8e4c548cb60964a3ce55a246de76b5e064a08c41d1a8b6a7785ff81d32", func := "thalweg/thalweglaw18.LinksLevels", spec := "linksLevels", unfollowed := true, recurses := true, apart := false, narrowed := true }
def LinksLevelsUptoSaid : Prop := linksLevelsUptoRow.holds Try.pinned (OpenSpec.upto linksLevelsSpec)

end Rows
end Go.Proofs.Ytiogdklmhpllfaa
