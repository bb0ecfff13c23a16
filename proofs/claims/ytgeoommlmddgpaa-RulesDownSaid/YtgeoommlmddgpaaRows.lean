/-
  No cell of these rows narrows 'for every input' (looked for: loops, veiled, ifaces, maps, wideKeys, modest, calm, conditions, laid).
  DERIVED. THE GIVEN ROWS OF THIS SEAT. 6 by the template 'for every input the law returns true; each argument reads behind the call as it read before'; 0 by the template 'total and deterministic' (their statements: YtgeoommlmddgpaaTotals.lean).
  GIVEN WITH THE SEED: the statements are not yours to turn. If you find one false, say at which input.
  Laid BY PROGRAM, IN A SANDBOX (cutbox-rows.mjs): the forced cells as the released guide's own fill.sh prints them over the translation b732df3c8b2268c5… (all of the seat's roots in one cut). By AI agents, Wed Nov 11 2026. No macro, syntax, notation, axiom, sorry.
-/
import Derived.Test.YtgeoommlmddgpaaChecked
import GoSem.Claim
import GoSem.ClaimJoined
import GoSem.ClaimMapViews
import Derived.JoinedTies
import Derived.KernelRfl
namespace Go.Proofs.Ytgeoommlmddgpaa
/- THE CELL 'sum', in the pinned program and in every row, IS THE sha256 OF THE DUMP (.gsa) THAT YtgeoommlmddgpaaProg.lean LOADS. Nothing in Lean hashes anything: it is a label: what it is worth is what the hold of that sum in a sandbox is worth. -/
noncomputable def Try.pinned : Pinned := { name := "ytgeoommlmddgpaa", sum := "b732df3c8b2268c5777e37e75b197b71d383472562f01b0af0b2cdb8b38303d1", checked := Try.checked }
namespace Rows
def none {H : Type} : Left H := { results := [], args := [] }

/-- 'thalweglaw18.LinksLie': WHATEVER THE INPUT: true; the input reads as it did. -/
def linksLieSpec : ChangeSpec := { name := "linksLie", fn := fun _ => fun
  | [d1, d2, d3] => { results := [.lit (.bool true)], args := [d1, d2, d3] }
  | _ => none }
def linksLieRow : OpenClaim := { program := "ytgeoommlmddgpaa", sum := "b732df3c8b2268c5777e37e75b197b71d383472562f01b0af0b2cdb8b38303d1", func := "thalweg/thalweglaw18.LinksLie", spec := "linksLie", unfollowed := true, recurses := true, apart := false }
def LinksLieSaid : Prop := linksLieRow.holds Try.pinned (OpenSpec.ofChange linksLieSpec)

/-- ITS FALSE NEIGHBOUR: 'it returns false'. Refute it at one input. -/
def linksLieWrong : ChangeSpec := { name := "linksLie", fn := fun _ => fun
  | [d1, d2, d3] => { results := [.lit (.bool false)], args := [d1, d2, d3] }
  | _ => none }
def LinksLieWrongFalsely : Prop := linksLieRow.holds Try.pinned (OpenSpec.ofChange linksLieWrong)

/-- 'thalweglaw18.LinksLevels': WHATEVER THE INPUT: true; the input reads as it did. -/
def linksLevelsSpec : ChangeSpec := { name := "linksLevels", fn := fun _ => fun
  | [d] => { results := [.lit (.bool true)], args := [d] }
  | _ => none }
def linksLevelsRow : OpenClaim := { program := "ytgeoommlmddgpaa", sum := "b732df3c8b2268c5777e37e75b197b71d383472562f01b0af0b2cdb8b38303d1", func := "thalweg/thalweglaw18.LinksLevels", spec := "linksLevels", unfollowed := true, recurses := true, apart := false }
def LinksLevelsSaid : Prop := linksLevelsRow.holds Try.pinned (OpenSpec.ofChange linksLevelsSpec)

/-- ITS FALSE NEIGHBOUR: 'it returns false'. Refute it at one input. -/
def linksLevelsWrong : ChangeSpec := { name := "linksLevels", fn := fun _ => fun
  | [d] => { results := [.lit (.bool false)], args := [d] }
  | _ => none }
def LinksLevelsWrongFalsely : Prop := linksLevelsRow.holds Try.pinned (OpenSpec.ofChange linksLevelsWrong)

/-- 'thalweglaw19.RulesDo': WHATEVER THE INPUT: true; the input reads as it did. -/
def rulesDoSpec : ChangeSpec := { name := "rulesDo", fn := fun _ => fun
  | [d1, d2, d3, d4, d5] => { results := [.lit (.bool true)], args := [d1, d2, d3, d4, d5] }
  | _ => none }
def rulesDoRow : OpenClaim := { program := "ytgeoommlmddgpaa", sum := "b732df3c8b2268c5777e37e75b197b71d383472562f01b0af0b2cdb8b38303d1", func := "thalweg/thalweglaw19.RulesDo", spec := "rulesDo", unfollowed := true, recurses := true, apart := false }
def RulesDoSaid : Prop := rulesDoRow.holds Try.pinned (OpenSpec.ofChange rulesDoSpec)

/-- ITS FALSE NEIGHBOUR: 'it returns false'. Refute it at one input. -/
def rulesDoWrong : ChangeSpec := { name := "rulesDo", fn := fun _ => fun
  | [d1, d2, d3, d4, d5] => { results := [.lit (.bool false)], args := [d1, d2, d3, d4, d5] }
  | _ => none }
def RulesDoWrongFalsely : Prop := rulesDoRow.holds Try.pinned (OpenSpec.ofChange rulesDoWrong)

/-- 'thalweglaw19.RulesRise': WHATEVER THE INPUT: true; the input reads as it did. -/
def rulesRiseSpec : ChangeSpec := { name := "rulesRise", fn := fun _ => fun
  | [d1, d2, d3, d4, d5] => { results := [.lit (.bool true)], args := [d1, d2, d3, d4, d5] }
  | _ => none }
def rulesRiseRow : OpenClaim := { program := "ytgeoommlmddgpaa", sum := "b732df3c8b2268c5777e37e75b197b71d383472562f01b0af0b2cdb8b38303d1", func := "thalweg/thalweglaw19.RulesRise", spec := "rulesRise", unfollowed := true, recurses := true, apart := false }
def RulesRiseSaid : Prop := rulesRiseRow.holds Try.pinned (OpenSpec.ofChange rulesRiseSpec)

/-- ITS FALSE NEIGHBOUR: 'it returns false'. Refute it at one input. -/
def rulesRiseWrong : ChangeSpec := { name := "rulesRise", fn := fun _ => fun
  | [d1, d2, d3, d4, d5] => { results := [.lit (.bool false)], args := [d1, d2, d3, d4, d5] }
  | _ => none }
def RulesRiseWrongFalsely : Prop := rulesRiseRow.holds Try.pinned (OpenSpec.ofChange rulesRiseWrong)

/-- 'thalweglaw19.RulesNow': WHATEVER THE INPUT: true; the input reads as it did. -/
def rulesNowSpec : ChangeSpec := { name := "rulesNow", fn := fun _ => fun
  | [d1, d2, d3, d4, d5] => { results := [.lit (.bool true)], args := [d1, d2, d3, d4, d5] }
  | _ => none }
def rulesNowRow : OpenClaim := { program := "ytgeoommlmddgpaa", sum := "b732df3c8b2268c5777e37e75b197b71d383472562f01b0af0b2cdb8b38303d1", func := "thalweg/thalweglaw19.RulesNow", spec := "rulesNow", unfollowed := true, recurses := true, apart := false }
def RulesNowSaid : Prop := rulesNowRow.holds Try.pinned (OpenSpec.ofChange rulesNowSpec)

/-- ITS FALSE NEIGHBOUR: 'it returns false'. Refute it at one input. -/
def rulesNowWrong : ChangeSpec := { name := "rulesNow", fn := fun _ => fun
  | [d1, d2, d3, d4, d5] => { results := [.lit (.bool false)], args := [d1, d2, d3, d4, d5] }
  | _ => none }
def RulesNowWrongFalsely : Prop := rulesNowRow.holds Try.pinned (OpenSpec.ofChange rulesNowWrong)

/-- 'thalweglaw19.RulesDown': WHATEVER THE INPUT: true; the input reads as it did. -/
def rulesDownSpec : ChangeSpec := { name := "rulesDown", fn := fun _ => fun
  | [d1, d2, d3, d4] => { results := [.lit (.bool true)], args := [d1, d2, d3, d4] }
  | _ => none }
def rulesDownRow : OpenClaim := { program := "ytgeoommlmddgpaa", sum := "b732df3c8b2268c5777e37e75b197b71d383472562f01b0af0b2cdb8b38303d1", func := "thalweg/thalweglaw19.RulesDown", spec := "rulesDown", unfollowed := true, recurses := true, apart := false }
def RulesDownSaid : Prop := rulesDownRow.holds Try.pinned (OpenSpec.ofChange rulesDownSpec)

/-- ITS FALSE NEIGHBOUR: 'it returns false'. Refute it at one input. -/
def rulesDownWrong : ChangeSpec := { name := "rulesDown", fn := fun _ => fun
  | [d1, d2, d3, d4] => { results := [.lit (.bool false)], args := [d1, d2, d3, d4] }
  | _ => none }
def RulesDownWrongFalsely : Prop := rulesDownRow.holds Try.pinned (OpenSpec.ofChange rulesDownWrong)

/- THE SECOND FORM. 'bulk': how many values and letters a reading holds, each counted each time it is reached (what is shared counts as often as it is met; a slice's spare places count too). A statement '..UptoSaid' is the law's where the arguments, and the package variables that the reading takes, are together of bulk at most 1048576: NARROWER than '..Said'. Prove '..Said' where nothing that the law and all that it calls make is longer than what came in: it says more and counts as full. Else prove '..UptoSaid'. A law counts once. -/
mutual
def uptoBulk {H : Type} : DataW H → Nat
  | .lit (.string bytes) => bytes.length + 1
  | .lit _ => 1
  | .nil => 1
  | .ptr d => uptoBulk d + 1
  | .slice elems spare => uptoBulkAll elems + uptoBulkAll spare + 1
  | .agg parts => uptoBulkAll parts + 1
  | .iface _ d => uptoBulk d + 1
  | .map entries => uptoBulkEntries entries + 1
  | .held _ => 1
def uptoBulkAll {H : Type} : List (DataW H) → Nat
  | [] => 0
  | d :: r => uptoBulk d + uptoBulkAll r
def uptoBulkEntries {H : Type} : List (Lit × DataW H) → Nat
  | [] => 0
  | x :: r => uptoBulkEntry x + uptoBulkEntries r
def uptoBulkEntry {H : Type} : Lit × DataW H → Nat
  | (.string bytes, d) => bytes.length + uptoBulk d + 1
  | (_, d) => uptoBulk d + 1
 end
def uptoSmall : (H : Type) → List (DataW H) → Bool := fun _ ds => decide (uptoBulkAll ds ≤ 1048576)
def OpenSpec.upto (s : _root_.Go.ChangeSpec) : _root_.Go.OpenSpec := { _root_.Go.OpenSpec.ofChange s with cond := some uptoSmall }

/-- 'thalweglaw18.LinksLie', WHERE WHAT IT READS IS OF BULK AT MOST 1048576: true; the input reads as it did. -/
def linksLieUptoRow : OpenClaim := { program := "ytgeoommlmddgpaa", sum := "b732df3c8b2268c5777e37e75b197b71d383472562f01b0af0b2cdb8b38303d1", func := "thalweg/thalweglaw18.LinksLie", spec := "linksLie", unfollowed := true, recurses := true, apart := false, narrowed := true }
def LinksLieUptoSaid : Prop := linksLieUptoRow.holds Try.pinned (OpenSpec.upto linksLieSpec)

/-- 'thalweglaw18.LinksLevels', WHERE WHAT IT READS IS OF BULK AT MOST 1048576: true; the input reads as it did. -/
def linksLevelsUptoRow : OpenClaim := { program := "ytgeoommlmddgpaa", sum := "b732df3c8b2268c5777e37e75b197b71d383472562f01b0af0b2cdb8b38303d1", func := "thalweg/thalweglaw18.LinksLevels", spec := "linksLevels", unfollowed := true, recurses := true, apart := false, narrowed := true }
def LinksLevelsUptoSaid : Prop := linksLevelsUptoRow.holds Try.pinned (OpenSpec.upto linksLevelsSpec)

/-- 'thalweglaw19.RulesDo', WHERE WHAT IT READS IS OF BULK AT MOST 1048576: true; the input reads as it did. -/
def rulesDoUptoRow : OpenClaim := { program := "ytgeoommlmddgpaa", sum := "b732df3c8b2268c5777e37e75b197b71d383472562f01b0af0b2cdb8b38303d1", func := "thalweg/thalweglaw19.RulesDo", spec := "rulesDo", unfollowed := true, recurses := true, apart := false, narrowed := true }
def RulesDoUptoSaid : Prop := rulesDoUptoRow.holds Try.pinned (OpenSpec.upto rulesDoSpec)

/-- 'thalweglaw19.RulesRise', WHERE WHAT IT READS IS OF BULK AT MOST 1048576: true; the input reads as it did. -/
def rulesRiseUptoRow : OpenClaim := { program := "ytgeoommlmddgpaa", sum := "b732df3c8b2268c5777e37e75b197b71d383472562f01b0af0b2cdb8b38303d1", func := "thalweg/thalweglaw19.RulesRise", spec := "rulesRise", unfollowed := true, recurses := true, apart := false, narrowed := true }
def RulesRiseUptoSaid : Prop := rulesRiseUptoRow.holds Try.pinned (OpenSpec.upto rulesRiseSpec)

/-- 'thalweglaw19.RulesNow', WHERE WHAT IT READS IS OF BULK AT MOST 1048576: true; the input reads as it did. -/
def rulesNowUptoRow : OpenClaim := { program := "ytgeoommlmddgpaa", sum := "b732df3c8b2268c5777e37e75b197b71d383472562f01b0af0b2cdb8b38303d1", func := "thalweg/thalweglaw19.RulesNow", spec := "rulesNow", unfollowed := true, recurses := true, apart := false, narrowed := true }
def RulesNowUptoSaid : Prop := rulesNowUptoRow.holds Try.pinned (OpenSpec.upto rulesNowSpec)

/-- 'thalweglaw19.RulesDown', WHERE WHAT IT READS IS OF BULK AT MOST 1048576: true; the input reads as it did. -/
def rulesDownUptoRow : OpenClaim := { program := "ytgeoommlmddgpaa", sum := "b732df3c8b2268c5777e37e75b197b71d383472562f01b0af0b2cdb8b38303d1", func := "thalweg/thalweglaw19.RulesDown", spec := "rulesDown", unfollowed := true, recurses := true, apart := false, narrowed := true }
def RulesDownUptoSaid : Prop := rulesDownUptoRow.holds Try.pinned (OpenSpec.upto rulesDownSpec)

end Rows
end Go.Proofs.Ytgeoommlmddgpaa
