/- TakerNil, of the given program: for every batch the law returns true, and the argument reads as it did. No condition. -/
import Derived.Test.YtjecepaaalfilaaTnU
import Derived.Test.YtjecepaaalfilaaAi32
import Derived.Test.YtjecepaaalfilaaRows
set_option linter.unusedVariables false
set_option linter.unusedSimpArgs false
set_option maxRecDepth 100000
namespace Go.Proofs.Ytjecepaaalfilaa.TnA
open Go Go.Proofs Go.Proofs.Ytjecepaaalfilaa.AI Go.RowKit

noncomputable def E1 : Ext := extH Try.prog [(5, gAwake)]
theorem E1_ok : ExtOk Try.prog E1 := by unfold E1; exact extH_ok (.cons hkAwake .nil)
def batchV (k : Int) (s : Value) : Value := .agg #[.int .i64 k, s]
theorem run_nil (k : Int) : (aCall Try.prog E1 100 3 [batchV k (.slice none 0 0)] hp1).map (fun r => r.1) = some (.bool true) := by kernel_rfl
theorem run_few (k : Int) (n : Nat) (h : decide (60 < Int.ofNat n) = false) : ∃ hp, aCall Try.prog E1 100 3 [batchV k (blind n)] hp1 = some (.bool true, hp) :=
  callQ_run [(9, .bool false)] (q := [(some (.bool (decide (60 < Int.ofNat n))), .bool false)]) (by kernel_rfl) (Met.cons (met_bool h) Met.nil)
theorem run_many (k : Int) (n : Nat) (h : decide (60 < Int.ofNat n) = true) : ∃ hp, aCall Try.prog E1 100 3 [batchV k (blind n)] hp1 = some (.bool true, hp) :=
  callQ_run [(9, .bool true)] (q := [(some (.bool (decide (60 < Int.ofNat n))), .bool true)]) (by kernel_rfl) (Met.cons (met_bool h) Met.nil)
theorem types24 : Try.prog.cellTypes Try.prog.depth 24 = some [3, 22] := by kernel_rfl
theorem cells24 : Try.prog.cellsOf 24 = 2 := by kernel_rfl
theorem walk3 (W : World) (base : Nat) (args : Array Value) (hsz : args.size = 1) (hval : ∀ (j : Nat) t v, Try.f3.params[j]? = some t → args[j]? = some v → Value.okWide Try.prog W .any base t v) :
    Calls Try.prog 3 args W fun e W' => e = .returned (.bool true) ∧ Below W.heap.size W W' := by
  obtain ⟨v0, rfl⟩ : ∃ v0, args = #[v0] := by
    obtain ⟨l⟩ := args
    match l, hsz with
    | [a], _ => exact ⟨a, rfl⟩
  obtain ⟨cs, rfl, hs, hc⟩ := openw_cells Try.underlying24 types24 cells24 (hval 0 24 v0 (by kernel_rfl) rfl)
  obtain ⟨l⟩ := cs
  match l, hs with
  | [a0, a1], _ =>
    obtain ⟨k, rfl, _⟩ := cellw_int Try.underlying3 (hc 0 3 a0 rfl rfl)
    rcases cellw_slice Try.underlying22 (hc 1 22 a1 rfl rfl) with rfl | ⟨b, off, n, c, rfl, hn⟩
    · refine walk_blind E1_ok follows Try.func3 (by kernel_rfl) (args := [batchV k (.slice none 0 0)]) (VRelL.flatDs rfl) ?_ W
      obtain ⟨⟨u, hp⟩, h1, h2⟩ := Option.map_eq_some_iff.1 (run_nil k)
      simp only at h2
      subst h2
      exact ⟨_, hp, h1⟩
    · refine walk_blind E1_ok follows Try.func3 (by kernel_rfl) (args := [batchV k (blind n)]) ?_ ?_ W
      · refine .cons (.agg rfl fun i v v' q1 q2 => ?_) .nil
        match i with
        | 0 => simp at q1 q2; subst q1; subst q2; exact .flat rfl
        | 1 => simp at q1 q2; subst q1; subst q2; exact blind_rel hn
        | i + 2 => simp at q1
      · cases h : decide (60 < Int.ofNat n) with
        | true => exact ⟨_, run_many k n h⟩
        | false => exact ⟨_, run_few k n h⟩

theorem own : ownKnob Try.prog.godebug = none := by kernel_rfl
theorem laid : laidOutB Try.prog = true := by kernel_rfl
theorem params3 : ∀ t ∈ Try.f3.params.toList, Try.prog.readableRec t = true ∧ t < Try.prog.types.size := by
  have h : Try.f3.params.toList.all (fun t => Try.prog.readableRec t && decide (t < Try.prog.types.size)) = true := by kernel_rfl
  intro t ht
  have := List.all_eq_true.1 h t ht
  simpa using this

theorem lifted3 (os : Os) (started : os.Started) (H : Type) (enc : TypeId × Value → H) :
    ReturnsInHanded {} Try.checked os 3 .any (Rows.takerNilSpec.pre6 enc Try.prog Try.f3 Rows.takerNilRow.domain false) (Rows.takerNilSpec.post enc Try.prog Try.f3 false true false false) :=
  law_lifted (C := Try.checked) (tb := 4) started own (by kernel_rfl) Try.func3 laid params3 rfl (by kernel_rfl) Try.underlying4
    (fun ds hl => by
      match ds, hl with
      | [_], _ => rfl)
    (ChangeSpec.witness6 (enc := enc) (C := Try.checked) false ⟨#[], #[batchV 0 (.slice none 0 0)], []⟩ 8 (by kernel_rfl) (by kernel_rfl) (by kernel_rfl) (by kernel_rfl))
    (fun W base args ds p hsz hval _ => walk3 W base args hsz hval)

/-- The statement. -/
theorem takerNil_proved : Rows.TakerNilSaid :=
  OpenClaim.holds_of_wide 3 Try.f3 rfl rfl rfl rfl rfl rfl rfl ⟨rfl, rfl, rfl, rfl, rfl⟩ rfl rfl rfl rfl rfl (by kernel_rfl) Try.func3 (by kernel_rfl)
    (of_decide_eq_true (by kernel_rfl)) (by unfold Func.isWrapper; first | (rw [if_pos (by decide +kernel)]; kernel_rfl) | (rw [if_neg (by decide +kernel)]; exact ⟨rfl, rfl⟩))
    (fun os started H enc _ => lifted3 os started H enc)
#print axioms takerNil_proved
end Go.Proofs.Ytjecepaaalfilaa.TnA
