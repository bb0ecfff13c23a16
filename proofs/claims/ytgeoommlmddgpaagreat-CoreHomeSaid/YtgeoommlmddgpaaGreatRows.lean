/-
  No cell of these rows narrows 'for every input' (looked for: loops, veiled, ifaces, maps, wideKeys, modest, calm, conditions, laid).
  DERIVED. THE GIVEN ROWS OF THIS SEAT. 11 by the template 'for every input the law returns true; each argument reads behind the call as it read before'; 0 by the template 'total and deterministic' (their statements: YtgeoommlmddgpaaGreatTotals.lean).
  GIVEN WITH THE SEED: the statements are not yours to turn. If you find one false, say at which input.
  Laid BY PROGRAM, IN A SANDBOX (cutbox-rows.mjs): the forced cells as the released guide's own fill.sh prints them over the translation dd8414226d74aa49… (all of the seat's roots in one cut). By AI agents, Wed Nov 11 2026. No macro, syntax, notation, axiom, sorry.
-/
import Derived.Test.YtgeoommlmddgpaaGreatChecked
import GoSem.Claim
import GoSem.ClaimJoined
import GoSem.ClaimMapViews
import Derived.JoinedTies
import Derived.KernelRfl
namespace Go.Proofs.YtgeoommlmddgpaaGreat
/- THE CELL 'sum', in the pinned program and in every row, IS THE sha256 OF THE DUMP (.gsa) THAT YtgeoommlmddgpaaGreatProg.lean LOADS. Nothing in Lean hashes anything: it is a label: what it is worth is what the hold of that sum in a sandbox is worth. -/
noncomputable def Tryz.pinned : Pinned := { name := "ytgeoommlmddgpaagreat", sum := "dd8414226d74aa49bfdffba82a45df90f51e344dd874d78ffab45c85f88390ff", checked := Tryz.checked }
namespace Rows
def none {H : Type} : Left H := { results := [], args := [] }

/-- 'thalweglaw20.CoreDoes': WHATEVER THE INPUT: true; the input reads as it did. -/
def coreDoesSpec : ChangeSpec := { name := "coreDoes", fn := fun _ => fun
  | [d1, d2, d3, d4] => { results := [.lit (.bool true)], args := [d1, d2, d3, d4] }
  | _ => none }
def coreDoesRow : OpenClaim := { program := "ytgeoommlmddgpaagreat", sum := "dd8414226d74aa49bfdffba82a45df90f51e344dd874d78ffab45c85f88390ff", func := "thalweg/thalweglaw20.CoreDoes", spec := "coreDoes", inPlace := ["slices.overlaps[thalweg/api.View]"], unfollowed := true, recurses := true, apart := false }
def CoreDoesSaid : Prop := coreDoesRow.holds Tryz.pinned (OpenSpec.ofChange coreDoesSpec)

/-- ITS FALSE NEIGHBOUR: 'it returns false'. Refute it at one input. -/
def coreDoesWrong : ChangeSpec := { name := "coreDoes", fn := fun _ => fun
  | [d1, d2, d3, d4] => { results := [.lit (.bool false)], args := [d1, d2, d3, d4] }
  | _ => none }
def CoreDoesWrongFalsely : Prop := coreDoesRow.holds Tryz.pinned (OpenSpec.ofChange coreDoesWrong)

/-- 'thalweglaw20.CoreRuns': WHATEVER THE INPUT: true; the input reads as it did. -/
def coreRunsSpec : ChangeSpec := { name := "coreRuns", fn := fun _ => fun
  | [d1, d2, d3] => { results := [.lit (.bool true)], args := [d1, d2, d3] }
  | _ => none }
def coreRunsRow : OpenClaim := { program := "ytgeoommlmddgpaagreat", sum := "dd8414226d74aa49bfdffba82a45df90f51e344dd874d78ffab45c85f88390ff", func := "thalweg/thalweglaw20.CoreRuns", spec := "coreRuns", inPlace := ["slices.overlaps[thalweg/api.View]"], unfollowed := true, recurses := true, apart := false }
def CoreRunsSaid : Prop := coreRunsRow.holds Tryz.pinned (OpenSpec.ofChange coreRunsSpec)

/-- ITS FALSE NEIGHBOUR: 'it returns false'. Refute it at one input. -/
def coreRunsWrong : ChangeSpec := { name := "coreRuns", fn := fun _ => fun
  | [d1, d2, d3] => { results := [.lit (.bool false)], args := [d1, d2, d3] }
  | _ => none }
def CoreRunsWrongFalsely : Prop := coreRunsRow.holds Tryz.pinned (OpenSpec.ofChange coreRunsWrong)

/-- 'thalweglaw20.CoreRight': WHATEVER THE INPUT: true; the input reads as it did. -/
def coreRightSpec : ChangeSpec := { name := "coreRight", fn := fun _ => fun
  | [d1, d2] => { results := [.lit (.bool true)], args := [d1, d2] }
  | _ => none }
def coreRightRow : OpenClaim := { program := "ytgeoommlmddgpaagreat", sum := "dd8414226d74aa49bfdffba82a45df90f51e344dd874d78ffab45c85f88390ff", func := "thalweg/thalweglaw20.CoreRight", spec := "coreRight", inPlace := ["slices.overlaps[thalweg/api.View]"], unfollowed := true, recurses := true, apart := false }
def CoreRightSaid : Prop := coreRightRow.holds Tryz.pinned (OpenSpec.ofChange coreRightSpec)

/-- ITS FALSE NEIGHBOUR: 'it returns false'. Refute it at one input. -/
def coreRightWrong : ChangeSpec := { name := "coreRight", fn := fun _ => fun
  | [d1, d2] => { results := [.lit (.bool false)], args := [d1, d2] }
  | _ => none }
def CoreRightWrongFalsely : Prop := coreRightRow.holds Tryz.pinned (OpenSpec.ofChange coreRightWrong)

/-- 'thalweglaw20.CoreDown': WHATEVER THE INPUT: true; the input reads as it did. -/
def coreDownSpec : ChangeSpec := { name := "coreDown", fn := fun _ => fun
  | [d1, d2] => { results := [.lit (.bool true)], args := [d1, d2] }
  | _ => none }
def coreDownRow : OpenClaim := { program := "ytgeoommlmddgpaagreat", sum := "dd8414226d74aa49bfdffba82a45df90f51e344dd874d78ffab45c85f88390ff", func := "thalweg/thalweglaw20.CoreDown", spec := "coreDown", inPlace := ["slices.overlaps[thalweg/api.View]"], unfollowed := true, recurses := true, apart := false }
def CoreDownSaid : Prop := coreDownRow.holds Tryz.pinned (OpenSpec.ofChange coreDownSpec)

/-- ITS FALSE NEIGHBOUR: 'it returns false'. Refute it at one input. -/
def coreDownWrong : ChangeSpec := { name := "coreDown", fn := fun _ => fun
  | [d1, d2] => { results := [.lit (.bool false)], args := [d1, d2] }
  | _ => none }
def CoreDownWrongFalsely : Prop := coreDownRow.holds Tryz.pinned (OpenSpec.ofChange coreDownWrong)

/-- 'thalweglaw20.CoreWants': WHATEVER THE INPUT: true; the input reads as it did. -/
def coreWantsSpec : ChangeSpec := { name := "coreWants", fn := fun _ => fun
  | [d1, d2] => { results := [.lit (.bool true)], args := [d1, d2] }
  | _ => none }
def coreWantsRow : OpenClaim := { program := "ytgeoommlmddgpaagreat", sum := "dd8414226d74aa49bfdffba82a45df90f51e344dd874d78ffab45c85f88390ff", func := "thalweg/thalweglaw20.CoreWants", spec := "coreWants", inPlace := ["slices.overlaps[thalweg/api.View]"], unfollowed := true, recurses := true, apart := false }
def CoreWantsSaid : Prop := coreWantsRow.holds Tryz.pinned (OpenSpec.ofChange coreWantsSpec)

/-- ITS FALSE NEIGHBOUR: 'it returns false'. Refute it at one input. -/
def coreWantsWrong : ChangeSpec := { name := "coreWants", fn := fun _ => fun
  | [d1, d2] => { results := [.lit (.bool false)], args := [d1, d2] }
  | _ => none }
def CoreWantsWrongFalsely : Prop := coreWantsRow.holds Tryz.pinned (OpenSpec.ofChange coreWantsWrong)

/-- 'thalweglaw20.CoreTells': WHATEVER THE INPUT: true; the input reads as it did. -/
def coreTellsSpec : ChangeSpec := { name := "coreTells", fn := fun _ => fun
  | [d1, d2] => { results := [.lit (.bool true)], args := [d1, d2] }
  | _ => none }
def coreTellsRow : OpenClaim := { program := "ytgeoommlmddgpaagreat", sum := "dd8414226d74aa49bfdffba82a45df90f51e344dd874d78ffab45c85f88390ff", func := "thalweg/thalweglaw20.CoreTells", spec := "coreTells", inPlace := ["slices.overlaps[thalweg/api.View]"], unfollowed := true, recurses := true, apart := false }
def CoreTellsSaid : Prop := coreTellsRow.holds Tryz.pinned (OpenSpec.ofChange coreTellsSpec)

/-- ITS FALSE NEIGHBOUR: 'it returns false'. Refute it at one input. -/
def coreTellsWrong : ChangeSpec := { name := "coreTells", fn := fun _ => fun
  | [d1, d2] => { results := [.lit (.bool false)], args := [d1, d2] }
  | _ => none }
def CoreTellsWrongFalsely : Prop := coreTellsRow.holds Tryz.pinned (OpenSpec.ofChange coreTellsWrong)

/-- 'thalweglaw20.CoreHome': WHATEVER THE INPUT: true; the input reads as it did. -/
def coreHomeSpec : ChangeSpec := { name := "coreHome", fn := fun _ => fun
  | [d1, d2] => { results := [.lit (.bool true)], args := [d1, d2] }
  | _ => none }
def coreHomeRow : OpenClaim := { program := "ytgeoommlmddgpaagreat", sum := "dd8414226d74aa49bfdffba82a45df90f51e344dd874d78ffab45c85f88390ff", func := "thalweg/thalweglaw20.CoreHome", spec := "coreHome", inPlace := ["slices.overlaps[thalweg/api.View]"], unfollowed := true, recurses := true, apart := false }
def CoreHomeSaid : Prop := coreHomeRow.holds Tryz.pinned (OpenSpec.ofChange coreHomeSpec)

/-- ITS FALSE NEIGHBOUR: 'it returns false'. Refute it at one input. -/
def coreHomeWrong : ChangeSpec := { name := "coreHome", fn := fun _ => fun
  | [d1, d2] => { results := [.lit (.bool false)], args := [d1, d2] }
  | _ => none }
def CoreHomeWrongFalsely : Prop := coreHomeRow.holds Tryz.pinned (OpenSpec.ofChange coreHomeWrong)

/-- 'thalweglaw21.RouterGone': WHATEVER THE INPUT: true; the input reads as it did. -/
def routerGoneSpec : ChangeSpec := { name := "routerGone", fn := fun _ => fun
  | [d1, d2, d3, d4] => { results := [.lit (.bool true)], args := [d1, d2, d3, d4] }
  | _ => none }
def routerGoneRow : OpenClaim := { program := "ytgeoommlmddgpaagreat", sum := "dd8414226d74aa49bfdffba82a45df90f51e344dd874d78ffab45c85f88390ff", func := "thalweg/thalweglaw21.RouterGone", spec := "routerGone", inPlace := ["slices.overlaps[thalweg/api.View]", "sync/atomic.LoadUint32", "(*internal/sync.Mutex).Lock", "internal/race.Disable", "sync/atomic.CompareAndSwapInt32", "internal/race.Enable", "internal/race.Acquire", "(*internal/sync.Mutex).lockSlow", "internal/sync.runtime_canSpin", "internal/sync.runtime_doSpin", "internal/sync.throw", "internal/sync.runtime_nanotime", "internal/sync.runtime_SemacquireMutex", "sync/atomic.AddInt32", "(*internal/sync.Mutex).Unlock", "internal/race.ReleaseMerge", "(*internal/sync.Mutex).unlockSlow", "internal/sync.fatal", "internal/sync.runtime_Semrelease", "sync/atomic.StoreUint32", "sync/atomic.LoadInt64", "sync/atomic.StoreInt64"], unfollowed := true, recurses := true, apart := false }
def RouterGoneSaid : Prop := routerGoneRow.holds Tryz.pinned (OpenSpec.ofChange routerGoneSpec)

/-- ITS FALSE NEIGHBOUR: 'it returns false'. Refute it at one input. -/
def routerGoneWrong : ChangeSpec := { name := "routerGone", fn := fun _ => fun
  | [d1, d2, d3, d4] => { results := [.lit (.bool false)], args := [d1, d2, d3, d4] }
  | _ => none }
def RouterGoneWrongFalsely : Prop := routerGoneRow.holds Tryz.pinned (OpenSpec.ofChange routerGoneWrong)

/-- 'thalweglaw21.RouterParts': WHATEVER THE INPUT: true; the input reads as it did. -/
def routerPartsSpec : ChangeSpec := { name := "routerParts", fn := fun _ => fun
  | [d1, d2, d3] => { results := [.lit (.bool true)], args := [d1, d2, d3] }
  | _ => none }
def routerPartsRow : OpenClaim := { program := "ytgeoommlmddgpaagreat", sum := "dd8414226d74aa49bfdffba82a45df90f51e344dd874d78ffab45c85f88390ff", func := "thalweg/thalweglaw21.RouterParts", spec := "routerParts", inPlace := ["slices.overlaps[thalweg/api.View]", "sync/atomic.LoadUint32", "(*internal/sync.Mutex).Lock", "internal/race.Disable", "sync/atomic.CompareAndSwapInt32", "internal/race.Enable", "internal/race.Acquire", "(*internal/sync.Mutex).lockSlow", "internal/sync.runtime_canSpin", "internal/sync.runtime_doSpin", "internal/sync.throw", "internal/sync.runtime_nanotime", "internal/sync.runtime_SemacquireMutex", "sync/atomic.AddInt32", "(*internal/sync.Mutex).Unlock", "internal/race.ReleaseMerge", "(*internal/sync.Mutex).unlockSlow", "internal/sync.fatal", "internal/sync.runtime_Semrelease", "sync/atomic.StoreUint32", "sync/atomic.LoadInt64", "sync/atomic.StoreInt64"], unfollowed := true, recurses := true, apart := false }
def RouterPartsSaid : Prop := routerPartsRow.holds Tryz.pinned (OpenSpec.ofChange routerPartsSpec)

/-- ITS FALSE NEIGHBOUR: 'it returns false'. Refute it at one input. -/
def routerPartsWrong : ChangeSpec := { name := "routerParts", fn := fun _ => fun
  | [d1, d2, d3] => { results := [.lit (.bool false)], args := [d1, d2, d3] }
  | _ => none }
def RouterPartsWrongFalsely : Prop := routerPartsRow.holds Tryz.pinned (OpenSpec.ofChange routerPartsWrong)

/-- 'thalweglaw21.RouterClock': WHATEVER THE INPUT: true; the input reads as it did. -/
def routerClockSpec : ChangeSpec := { name := "routerClock", fn := fun _ => fun
  | [d1, d2, d3] => { results := [.lit (.bool true)], args := [d1, d2, d3] }
  | _ => none }
def routerClockRow : OpenClaim := { program := "ytgeoommlmddgpaagreat", sum := "dd8414226d74aa49bfdffba82a45df90f51e344dd874d78ffab45c85f88390ff", func := "thalweg/thalweglaw21.RouterClock", spec := "routerClock", inPlace := ["slices.overlaps[thalweg/api.View]", "sync/atomic.LoadUint32", "(*internal/sync.Mutex).Lock", "internal/race.Disable", "sync/atomic.CompareAndSwapInt32", "internal/race.Enable", "internal/race.Acquire", "(*internal/sync.Mutex).lockSlow", "internal/sync.runtime_canSpin", "internal/sync.runtime_doSpin", "internal/sync.throw", "internal/sync.runtime_nanotime", "internal/sync.runtime_SemacquireMutex", "sync/atomic.AddInt32", "(*internal/sync.Mutex).Unlock", "internal/race.ReleaseMerge", "(*internal/sync.Mutex).unlockSlow", "internal/sync.fatal", "internal/sync.runtime_Semrelease", "sync/atomic.StoreUint32", "sync/atomic.LoadInt64", "sync/atomic.StoreInt64"], unfollowed := true, recurses := true, apart := false }
def RouterClockSaid : Prop := routerClockRow.holds Tryz.pinned (OpenSpec.ofChange routerClockSpec)

/-- ITS FALSE NEIGHBOUR: 'it returns false'. Refute it at one input. -/
def routerClockWrong : ChangeSpec := { name := "routerClock", fn := fun _ => fun
  | [d1, d2, d3] => { results := [.lit (.bool false)], args := [d1, d2, d3] }
  | _ => none }
def RouterClockWrongFalsely : Prop := routerClockRow.holds Tryz.pinned (OpenSpec.ofChange routerClockWrong)

/-- 'thalweglaw21.RouterKeeps': WHATEVER THE INPUT: true; the input reads as it did. -/
def routerKeepsSpec : ChangeSpec := { name := "routerKeeps", fn := fun _ => fun
  | [d1, d2, d3, d4] => { results := [.lit (.bool true)], args := [d1, d2, d3, d4] }
  | _ => none }
def routerKeepsRow : OpenClaim := { program := "ytgeoommlmddgpaagreat", sum := "dd8414226d74aa49bfdffba82a45df90f51e344dd874d78ffab45c85f88390ff", func := "thalweg/thalweglaw21.RouterKeeps", spec := "routerKeeps", inPlace := ["slices.overlaps[thalweg/api.View]", "sync/atomic.LoadUint32", "(*internal/sync.Mutex).Lock", "internal/race.Disable", "sync/atomic.CompareAndSwapInt32", "internal/race.Enable", "internal/race.Acquire", "(*internal/sync.Mutex).lockSlow", "internal/sync.runtime_canSpin", "internal/sync.runtime_doSpin", "internal/sync.throw", "internal/sync.runtime_nanotime", "internal/sync.runtime_SemacquireMutex", "sync/atomic.AddInt32", "(*internal/sync.Mutex).Unlock", "internal/race.ReleaseMerge", "(*internal/sync.Mutex).unlockSlow", "internal/sync.fatal", "internal/sync.runtime_Semrelease", "sync/atomic.StoreUint32", "sync/atomic.LoadInt64", "sync/atomic.StoreInt64"], unfollowed := true, recurses := true, apart := false }
def RouterKeepsSaid : Prop := routerKeepsRow.holds Tryz.pinned (OpenSpec.ofChange routerKeepsSpec)

/-- ITS FALSE NEIGHBOUR: 'it returns false'. Refute it at one input. -/
def routerKeepsWrong : ChangeSpec := { name := "routerKeeps", fn := fun _ => fun
  | [d1, d2, d3, d4] => { results := [.lit (.bool false)], args := [d1, d2, d3, d4] }
  | _ => none }
def RouterKeepsWrongFalsely : Prop := routerKeepsRow.holds Tryz.pinned (OpenSpec.ofChange routerKeepsWrong)

/- THE SECOND FORM. 'bulk': how many values and letters a reading holds, each counted each time it is reached (what is shared counts as often as it is met; a slice's spare places count too). A statement '..UptoSaid' is the law's where the arguments, and the package variables that the reading takes, are together of bulk at most 1048576: NARROWER than '..Said'. Prove '..Said' where nothing that the law and all that it calls make is longer than what came in: it says more and counts as full. Else prove '..UptoSaid'. A law counts once. -/
mutual
def uptoBulk {H : Type} : DataW H → Nat
  | .lit (.string bytes) => bytes.length + 1
  | .lit _ => 1
  | .nil => 1
  | .ptr d => uptoBulk d + 1
  | .slice elems spare => uptoBulkAll elems + uptoBulkAll spare + 1
  | .agg parts => uptoBulkAll parts + 1
  | .iface _ d => uptoBulk d + 1
  | .map entries => uptoBulkEntries entries + 1
  | .held _ => 1
def uptoBulkAll {H : Type} : List (DataW H) → Nat
  | [] => 0
  | d :: r => uptoBulk d + uptoBulkAll r
def uptoBulkEntries {H : Type} : List (Lit × DataW H) → Nat
  | [] => 0
  | x :: r => uptoBulkEntry x + uptoBulkEntries r
def uptoBulkEntry {H : Type} : Lit × DataW H → Nat
  | (.string bytes, d) => bytes.length + uptoBulk d + 1
  | (_, d) => uptoBulk d + 1
 end
def uptoSmall : (H : Type) → List (DataW H) → Bool := fun _ ds => decide (uptoBulkAll ds ≤ 1048576)
def OpenSpec.upto (s : _root_.Go.ChangeSpec) : _root_.Go.OpenSpec := { _root_.Go.OpenSpec.ofChange s with cond := some uptoSmall }

/-- 'thalweglaw20.CoreDoes', WHERE WHAT IT READS IS OF BULK AT MOST 1048576: true; the input reads as it did. -/
def coreDoesUptoRow : OpenClaim := { program := "ytgeoommlmddgpaagreat", sum := "dd8414226d74aa49bfdffba82a45df90f51e344dd874d78ffab45c85f88390ff", func := "thalweg/thalweglaw20.CoreDoes", spec := "coreDoes", inPlace := ["slices.overlaps[thalweg/api.View]"], unfollowed := true, recurses := true, apart := false, narrowed := true }
def CoreDoesUptoSaid : Prop := coreDoesUptoRow.holds Tryz.pinned (OpenSpec.upto coreDoesSpec)

/-- 'thalweglaw20.CoreRuns', WHERE WHAT IT READS IS OF BULK AT MOST 1048576: true; the input reads as it did. -/
def coreRunsUptoRow : OpenClaim := { program := "ytgeoommlmddgpaagreat", sum := "dd8414226d74aa49bfdffba82a45df90f51e344dd874d78ffab45c85f88390ff", func := "thalweg/thalweglaw20.CoreRuns", spec := "coreRuns", inPlace := ["slices.overlaps[thalweg/api.View]"], unfollowed := true, recurses := true, apart := false, narrowed := true }
def CoreRunsUptoSaid : Prop := coreRunsUptoRow.holds Tryz.pinned (OpenSpec.upto coreRunsSpec)

/-- 'thalweglaw20.CoreRight', WHERE WHAT IT READS IS OF BULK AT MOST 1048576: true; the input reads as it did. -/
def coreRightUptoRow : OpenClaim := { program := "ytgeoommlmddgpaagreat", sum := "dd8414226d74aa49bfdffba82a45df90f51e344dd874d78ffab45c85f88390ff", func := "thalweg/thalweglaw20.CoreRight", spec := "coreRight", inPlace := ["slices.overlaps[thalweg/api.View]"], unfollowed := true, recurses := true, apart := false, narrowed := true }
def CoreRightUptoSaid : Prop := coreRightUptoRow.holds Tryz.pinned (OpenSpec.upto coreRightSpec)

/-- 'thalweglaw20.CoreDown', WHERE WHAT IT READS IS OF BULK AT MOST 1048576: true; the input reads as it did. -/
def coreDownUptoRow : OpenClaim := { program := "ytgeoommlmddgpaagreat", sum := "dd8414226d74aa49bfdffba82a45df90f51e344dd874d78ffab45c85f88390ff", func := "thalweg/thalweglaw20.CoreDown", spec := "coreDown", inPlace := ["slices.overlaps[thalweg/api.View]"], unfollowed := true, recurses := true, apart := false, narrowed := true }
def CoreDownUptoSaid : Prop := coreDownUptoRow.holds Tryz.pinned (OpenSpec.upto coreDownSpec)

/-- 'thalweglaw20.CoreWants', WHERE WHAT IT READS IS OF BULK AT MOST 1048576: true; the input reads as it did. -/
def coreWantsUptoRow : OpenClaim := { program := "ytgeoommlmddgpaagreat", sum := "dd8414226d74aa49bfdffba82a45df90f51e344dd874d78ffab45c85f88390ff", func := "thalweg/thalweglaw20.CoreWants", spec := "coreWants", inPlace := ["slices.overlaps[thalweg/api.View]"], unfollowed := true, recurses := true, apart := false, narrowed := true }
def CoreWantsUptoSaid : Prop := coreWantsUptoRow.holds Tryz.pinned (OpenSpec.upto coreWantsSpec)

/-- 'thalweglaw20.CoreTells', WHERE WHAT IT READS IS OF BULK AT MOST 1048576: true; the input reads as it did. -/
def coreTellsUptoRow : OpenClaim := { program := "ytgeoommlmddgpaagreat", sum := "dd8414226d74aa49bfdffba82a45df90f51e344dd874d78ffab45c85f88390ff", func := "thalweg/thalweglaw20.CoreTells", spec := "coreTells", inPlace := ["slices.overlaps[thalweg/api.View]"], unfollowed := true, recurses := true, apart := false, narrowed := true }
def CoreTellsUptoSaid : Prop := coreTellsUptoRow.holds Tryz.pinned (OpenSpec.upto coreTellsSpec)

/-- 'thalweglaw20.CoreHome', WHERE WHAT IT READS IS OF BULK AT MOST 1048576: true; the input reads as it did. -/
def coreHomeUptoRow : OpenClaim := { program := "ytgeoommlmddgpaagreat", sum := "dd8414226d74aa49bfdffba82a45df90f51e344dd874d78ffab45c85f88390ff", func := "thalweg/thalweglaw20.CoreHome", spec := "coreHome", inPlace := ["slices.overlaps[thalweg/api.View]"], unfollowed := true, recurses := true, apart := false, narrowed := true }
def CoreHomeUptoSaid : Prop := coreHomeUptoRow.holds Tryz.pinned (OpenSpec.upto coreHomeSpec)

/-- 'thalweglaw21.RouterGone', WHERE WHAT IT READS IS OF BULK AT MOST 1048576: true; the input reads as it did. -/
def routerGoneUptoRow : OpenClaim := { program := "ytgeoommlmddgpaagreat", sum := "dd8414226d74aa49bfdffba82a45df90f51e344dd874d78ffab45c85f88390ff", func := "thalweg/thalweglaw21.RouterGone", spec := "routerGone", inPlace := ["slices.overlaps[thalweg/api.View]", "sync/atomic.LoadUint32", "(*internal/sync.Mutex).Lock", "internal/race.Disable", "sync/atomic.CompareAndSwapInt32", "internal/race.Enable", "internal/race.Acquire", "(*internal/sync.Mutex).lockSlow", "internal/sync.runtime_canSpin", "internal/sync.runtime_doSpin", "internal/sync.throw", "internal/sync.runtime_nanotime", "internal/sync.runtime_SemacquireMutex", "sync/atomic.AddInt32", "(*internal/sync.Mutex).Unlock", "internal/race.ReleaseMerge", "(*internal/sync.Mutex).unlockSlow", "internal/sync.fatal", "internal/sync.runtime_Semrelease", "sync/atomic.StoreUint32", "sync/atomic.LoadInt64", "sync/atomic.StoreInt64"], unfollowed := true, recurses := true, apart := false, narrowed := true }
def RouterGoneUptoSaid : Prop := routerGoneUptoRow.holds Tryz.pinned (OpenSpec.upto routerGoneSpec)

/-- 'thalweglaw21.RouterParts', WHERE WHAT IT READS IS OF BULK AT MOST 1048576: true; the input reads as it did. -/
def routerPartsUptoRow : OpenClaim := { program := "ytgeoommlmddgpaagreat", sum := "dd8414226d74aa49bfdffba82a45df90f51e344dd874d78ffab45c85f88390ff", func := "thalweg/thalweglaw21.RouterParts", spec := "routerParts", inPlace := ["slices.overlaps[thalweg/api.View]", "sync/atomic.LoadUint32", "(*internal/sync.Mutex).Lock", "internal/race.Disable", "sync/atomic.CompareAndSwapInt32", "internal/race.Enable", "internal/race.Acquire", "(*internal/sync.Mutex).lockSlow", "internal/sync.runtime_canSpin", "internal/sync.runtime_doSpin", "internal/sync.throw", "internal/sync.runtime_nanotime", "internal/sync.runtime_SemacquireMutex", "sync/atomic.AddInt32", "(*internal/sync.Mutex).Unlock", "internal/race.ReleaseMerge", "(*internal/sync.Mutex).unlockSlow", "internal/sync.fatal", "internal/sync.runtime_Semrelease", "sync/atomic.StoreUint32", "sync/atomic.LoadInt64", "sync/atomic.StoreInt64"], unfollowed := true, recurses := true, apart := false, narrowed := true }
def RouterPartsUptoSaid : Prop := routerPartsUptoRow.holds Tryz.pinned (OpenSpec.upto routerPartsSpec)

/-- 'thalweglaw21.RouterClock', WHERE WHAT IT READS IS OF BULK AT MOST 1048576: true; the input reads as it did. -/
def routerClockUptoRow : OpenClaim := { program := "ytgeoommlmddgpaagreat", sum := "dd8414226d74aa49bfdffba82a45df90f51e344dd874d78ffab45c85f88390ff", func := "thalweg/thalweglaw21.RouterClock", spec := "routerClock", inPlace := ["slices.overlaps[thalweg/api.View]", "sync/atomic.LoadUint32", "(*internal/sync.Mutex).Lock", "internal/race.Disable", "sync/atomic.CompareAndSwapInt32", "internal/race.Enable", "internal/race.Acquire", "(*internal/sync.Mutex).lockSlow", "internal/sync.runtime_canSpin", "internal/sync.runtime_doSpin", "internal/sync.throw", "internal/sync.runtime_nanotime", "internal/sync.runtime_SemacquireMutex", "sync/atomic.AddInt32", "(*internal/sync.Mutex).Unlock", "internal/race.ReleaseMerge", "(*internal/sync.Mutex).unlockSlow", "internal/sync.fatal", "internal/sync.runtime_Semrelease", "sync/atomic.StoreUint32", "sync/atomic.LoadInt64", "sync/atomic.StoreInt64"], unfollowed := true, recurses := true, apart := false, narrowed := true }
def RouterClockUptoSaid : Prop := routerClockUptoRow.holds Tryz.pinned (OpenSpec.upto routerClockSpec)

/-- 'thalweglaw21.RouterKeeps', WHERE WHAT IT READS IS OF BULK AT MOST 1048576: true; the input reads as it did. -/
def routerKeepsUptoRow : OpenClaim := { program := "ytgeoommlmddgpaagreat", sum := "dd8414226d74aa49bfdffba82a45df90f51e344dd874d78ffab45c85f88390ff", func := "thalweg/thalweglaw21.RouterKeeps", spec := "routerKeeps", inPlace := ["slices.overlaps[thalweg/api.View]", "sync/atomic.LoadUint32", "(*internal/sync.Mutex).Lock", "internal/race.Disable", "sync/atomic.CompareAndSwapInt32", "internal/race.Enable", "internal/race.Acquire", "(*internal/sync.Mutex).lockSlow", "internal/sync.runtime_canSpin", "internal/sync.runtime_doSpin", "internal/sync.throw", "internal/sync.runtime_nanotime", "internal/sync.runtime_SemacquireMutex", "sync/atomic.AddInt32", "(*internal/sync.Mutex).Unlock", "internal/race.ReleaseMerge", "(*internal/sync.Mutex).unlockSlow", "internal/sync.fatal", "internal/sync.runtime_Semrelease", "sync/atomic.StoreUint32", "sync/atomic.LoadInt64", "sync/atomic.StoreInt64"], unfollowed := true, recurses := true, apart := false, narrowed := true }
def RouterKeepsUptoSaid : Prop := routerKeepsUptoRow.holds Tryz.pinned (OpenSpec.upto routerKeepsSpec)

end Rows
end Go.Proofs.YtgeoommlmddgpaaGreat
