/- LinksTurn, of the given program: for every two heights the law returns true, and the arguments read as they did. No condition. -/
import Derived.Test.YtiogdklmhpllfaaLtD
set_option linter.unusedVariables false
set_option linter.unusedSimpArgs false
set_option maxRecDepth 100000
namespace Go.Proofs.Ytiogdklmhpllfaa.LtA
open Go Go.Proofs Go.Proofs.Ytiogdklmhpllfaa.AI Go.RowKit

section
variable {P : Program} {w : World} {r : Reach} {base : Nat}
theorem cell_bool {t : TypeId} {v : Value} (ht : P.underlying t = some .bool) (h : Cell.okWide P w r base t v) : ∃ b, v = .bool b := by
  unfold Cell.okWide at h
  rw [ht] at h
  cases v <;> first | exact ⟨_, rfl⟩ | (simp [Cell.ok, ht] at h)
theorem cell_int {t : TypeId} {k : IntKind} {v : Value} (ht : P.underlying t = some (.int k)) (h : Cell.okWide P w r base t v) : ∃ n, v = .int k n ∧ k.has n := by
  unfold Cell.okWide at h
  rw [ht] at h
  cases v <;> first
    | (simp only [Cell.ok, ht] at h; obtain ⟨rfl, h2⟩ := h; exact ⟨_, rfl, h2⟩)
    | (simp [Cell.ok, ht] at h)
/-- A struct's cells, by their types. -/
theorem open_cells {t : TypeId} {fs : Array Field} {ts : List TypeId} {v : Value} (ht : P.underlying t = some (.struct fs)) (hc : P.cellTypes P.depth t = some ts) (hn : P.cellsOf t = ts.length) (h : Value.okWide P w r base t v) :
    ∃ cs : Array Value, v = .agg cs ∧ cs.size = ts.length ∧ ∀ (i : Nat) (u : TypeId), ts[i]? = some u → ∃ x, cs[i]? = some x ∧ Cell.okWide P w r base u x := by
  unfold Value.okWide at h
  rw [ht] at h
  obtain ⟨cs, rfl, h1, ts', h2, _, h3⟩ := h
  rw [hc] at h2; cases h2
  refine ⟨cs, rfl, h1.trans hn, fun i u hu => ?_⟩
  have hi : i < ts.length := (List.getElem?_eq_some_iff.1 hu).1
  have hx : cs[i]? = some (cs[i]'(by omega)) := Array.getElem?_eq_getElem (by omega)
  obtain ⟨u', h4, h5⟩ := h3 i _ hx
  rw [Nat.mod_eq_of_lt hi, hu] at h4; cases h4
  exact ⟨_, hx, h5⟩
theorem arr6 {cs : Array Value} (h : cs.size = 6) {a b c d e f : Value} (h0 : cs[0]? = some a) (h1 : cs[1]? = some b) (h2 : cs[2]? = some c) (h3 : cs[3]? = some d) (h4 : cs[4]? = some e) (h5 : cs[5]? = some f) : cs = #[a, b, c, d, e, f] := by
  apply Array.ext'
  apply List.ext_getElem?
  intro i
  rw [Array.getElem?_toList]
  match i with
  | 0 => simpa using h0
  | 1 => simpa using h1
  | 2 => simpa using h2
  | 3 => simpa using h3
  | 4 => simpa using h4
  | 5 => simpa using h5
  | i + 6 => rw [Array.getElem?_eq_none (by omega)]; simp
end

theorem types23 : Try.prog.cellTypes Try.prog.depth 23 = some [4, 3, 3, 3, 3, 3] := by kernel_rfl
theorem cells23 : Try.prog.cellsOf 23 = 6 := by kernel_rfl
theorem open_height {w : World} {r : Reach} {base : Nat} {v : Value} (h : Value.okWide Try.prog w r base 23 v) : ∃ (n : Bool) (t o q d i : Int), v = .agg #[.bool n, .int .i64 t, .int .i64 o, .int .i64 q, .int .i64 d, .int .i64 i] := by
  obtain ⟨cs, rfl, hs, hc⟩ := open_cells Try.underlying23 types23 cells23 h
  obtain ⟨x0, h0, k0⟩ := hc 0 4 rfl
  obtain ⟨x1, h1, k1⟩ := hc 1 3 rfl
  obtain ⟨x2, h2, k2⟩ := hc 2 3 rfl
  obtain ⟨x3, h3, k3⟩ := hc 3 3 rfl
  obtain ⟨x4, h4, k4⟩ := hc 4 3 rfl
  obtain ⟨x5, h5, k5⟩ := hc 5 3 rfl
  obtain ⟨n, rfl⟩ := cell_bool Try.underlying4 k0
  obtain ⟨t, rfl, _⟩ := cell_int Try.underlying3 k1
  obtain ⟨o, rfl, _⟩ := cell_int Try.underlying3 k2
  obtain ⟨q, rfl, _⟩ := cell_int Try.underlying3 k3
  obtain ⟨d, rfl, _⟩ := cell_int Try.underlying3 k4
  obtain ⟨i, rfl, _⟩ := cell_int Try.underlying3 k5
  exact ⟨n, t, o, q, d, i, by rw [arr6 hs h0 h1 h2 h3 h4 h5]⟩

theorem walk3 (W : World) (base : Nat) (args : Array Value) (hsz : args.size = 2) (hval : ∀ (j : Nat) t v, Try.f3.params[j]? = some t → args[j]? = some v → Value.okWide Try.prog W .any base t v) :
    Calls Try.prog 3 args W fun e W' => e = .returned (.bool true) ∧ Below W.heap.size W W' := by
  obtain ⟨v0, v1, rfl⟩ : ∃ v0 v1, args = #[v0, v1] := by
    obtain ⟨l⟩ := args
    match l, hsz with
    | [a, b], _ => exact ⟨a, b, rfl⟩
  obtain ⟨n, t, o, q, d, i, rfl⟩ := open_height (hval 0 23 v0 (by kernel_rfl) rfl)
  obtain ⟨n', t', o', q', d', i', rfl⟩ := open_height (hval 1 23 v1 (by kernel_rfl) rfl)
  obtain ⟨hp, h⟩ := tTurn_run n t o q d i n' t' o' q' d' i'
  rw [turn_true] at h
  exact walk_flat E5_ok follows Try.func3 (by kernel_rfl) rfl h W

theorem own : ownKnob Try.prog.godebug = none := by kernel_rfl
theorem laid : laidOutB Try.prog = true := by kernel_rfl
theorem params3 : ∀ t ∈ Try.f3.params.toList, Try.prog.readableRec t = true ∧ t < Try.prog.types.size := by
  have h : Try.f3.params.toList.all (fun t => Try.prog.readableRec t && decide (t < Try.prog.types.size)) = true := by kernel_rfl
  intro t ht
  have := List.all_eq_true.1 h t ht
  simpa using this

theorem lifted3 (os : Os) (started : os.Started) (H : Type) (enc : TypeId × Value → H) :
    ReturnsInHanded {} Try.checked os 3 .any (Rows.linksTurnSpec.pre6 enc Try.prog Try.f3 Rows.linksTurnRow.domain false) (Rows.linksTurnSpec.post enc Try.prog Try.f3 false true false false) :=
  law_lifted (C := Try.checked) (tb := 4) started own (by kernel_rfl) Try.func3 laid params3 rfl (by kernel_rfl) Try.underlying4
    (fun ds hl => by
      match ds, hl with
      | [_, _], _ => rfl)
    (ChangeSpec.witness6 (enc := enc) (C := Try.checked) false ⟨#[], #[.agg #[.bool false, .int .i64 0, .int .i64 0, .int .i64 0, .int .i64 0, .int .i64 0], .agg #[.bool false, .int .i64 0, .int .i64 0, .int .i64 0, .int .i64 0, .int .i64 0]], []⟩ 8 (by kernel_rfl) (by kernel_rfl) (by kernel_rfl) (by kernel_rfl))
    (fun W base args ds p hsz hval _ => walk3 W base args hsz hval)

/-- The statement. -/
theorem linksTurn_proved : Rows.LinksTurnSaid :=
  OpenClaim.holds_of_wide 3 Try.f3 rfl rfl rfl rfl rfl rfl rfl ⟨rfl, rfl, rfl, rfl, rfl⟩ rfl rfl rfl rfl rfl (by kernel_rfl) Try.func3 (by kernel_rfl)
    (of_decide_eq_true (by kernel_rfl)) (by unfold Func.isWrapper; first | (rw [if_pos (by decide +kernel)]; kernel_rfl) | (rw [if_neg (by decide +kernel)]; exact ⟨rfl, rfl⟩))
    (fun os started H enc _ => lifted3 os started H enc)
#print axioms linksTurn_proved
end Go.Proofs.Ytiogdklmhpllfaa.LtA
