/- Arguments that are told by their shape; rows that are not looked into. -/
import Derived.Test.YtjecepaaalfilaaAi30
set_option linter.unusedVariables false
set_option linter.unusedSimpArgs false
namespace Go.Proofs.Ytjecepaaalfilaa.AI
open Go Go.RowKit

section
variable {P : Program} {w : World} {r : Reach} {base : Nat}
theorem cellw_bool {t : TypeId} {v : Value} (ht : P.underlying t = some .bool) (h : Cell.okWide P w r base t v) : ∃ b, v = .bool b := by
  unfold Cell.okWide at h
  rw [ht] at h
  cases v <;> first | exact ⟨_, rfl⟩ | (simp [Cell.ok, ht] at h)
theorem cellw_int {t : TypeId} {k : IntKind} {v : Value} (ht : P.underlying t = some (.int k)) (h : Cell.okWide P w r base t v) : ∃ n, v = .int k n ∧ k.has n := by
  unfold Cell.okWide at h
  rw [ht] at h
  cases v <;> first
    | (simp only [Cell.ok, ht] at h; obtain ⟨rfl, h2⟩ := h; exact ⟨_, rfl, h2⟩)
    | (simp [Cell.ok, ht] at h)
theorem cellw_slice {t e : TypeId} {v : Value} (ht : P.underlying t = some (.slice e)) (h : Cell.okWide P w r base t v) :
    v = .slice none 0 0 ∨ ∃ b off n c, v = .slice (some ⟨b, off, none⟩) n c ∧ n ≤ c := by
  unfold Cell.okWide at h
  rw [ht] at h
  cases v with
  | slice a n c =>
    cases a with
    | none =>
      cases n <;> cases c <;> first | exact .inl rfl | (simp [Cell.ok, ht] at h)
    | some a =>
      simp only [Cell.ok, ht] at h
      obtain ⟨h1, _, _, h2, _⟩ := h
      obtain ⟨b, off, sp⟩ := a
      simp only at h2
      subst h2
      exact .inr ⟨b, off, n, c, rfl, h1⟩
  | _ => simp [Cell.ok, ht] at h
/-- A struct's cells, by their types. -/
theorem openw_cells {t : TypeId} {fs : Array Field} {ts : List TypeId} {v : Value} (ht : P.underlying t = some (.struct fs)) (hc : P.cellTypes P.depth t = some ts) (hn : P.cellsOf t = ts.length) (h : Value.okWide P w r base t v) :
    ∃ cs : Array Value, v = .agg cs ∧ cs.size = ts.length ∧ ∀ (i : Nat) (u : TypeId) (x : Value), ts[i]? = some u → cs[i]? = some x → Cell.okWide P w r base u x := by
  unfold Value.okWide at h
  rw [ht] at h
  obtain ⟨cs, rfl, h1, ts', h2, _, h3⟩ := h
  rw [hc] at h2; cases h2
  refine ⟨cs, rfl, h1.trans hn, fun i u x hu hx => ?_⟩
  have hi : i < ts.length := (List.getElem?_eq_some_iff.1 hu).1
  obtain ⟨u', h4, h5⟩ := h3 i x hx
  rw [Nat.mod_eq_of_lt hi, hu] at h4; cases h4
  exact h5
theorem valw_int {t : TypeId} {k : IntKind} {v : Value} (ht : P.underlying t = some (.int k)) (h : Value.okWide P w r base t v) : ∃ n, v = .int k n ∧ k.has n := by
  unfold Value.okWide at h
  rw [ht] at h
  exact cellw_int ht h
end

/-- A heap of one dead block: what points there may point wherever it likes. -/
def hp1 : Hp := heapOf [.dead] hp0
theorem hp1_ok : hp1.ok := heapOf_ok _ _ hp0_ok
theorem hp1_get0 : hp1.get 0 = some .dead := by unfold hp1; rw [heapOf_get]; rfl
theorem sim1 {w : World} : Sim bm0 hp1.get w := ⟨fun b x h => (by cases h), fun b b' x x' h => (by cases h)⟩
/-- A row that is not looked into. -/
def blind (n : Nat) : Value := .slice (some ⟨0, 0, none⟩) n 2
theorem blind_rel {b off n c : Nat} (h : n ≤ c) : VRel bm0 hp1.get (blind n) (.slice (some ⟨b, off, none⟩) n c) := .slice h (.inl hp1_get0)

variable {P : Program}
theorem walk_blind {ext : Ext} (hx : ExtOk P ext) (hm : P.follows .mixedOrders = true) {f : FuncId} {fn : Func} (hf : P.funcs[f]? = some fn) (hb : fn.body.isSome = true) {args : List Value} {args' : Array Value} (ra : VRelL bm0 hp1.get args args'.toList)
    (he : ∃ n hp', aCall P ext n f args hp1 = some (.bool true, hp')) (w : World) : Calls P f args' w fun e w' => e = .returned (.bool true) ∧ Below w.heap.size w w' := by
  obtain ⟨n, hp', he⟩ := he
  refine (call_soundX hx hm he hp1_ok sim1 ra hf hb).mono fun e w' hh => ?_
  obtain ⟨v', rfl, m', gg, rv⟩ := hh
  exact ⟨by rw [rv.of_bool], ⟨gg.os, gg.tape, gg.output, gg.size, fun k hk => gg.frame k hk fun b x hx _ => by cases hx⟩⟩
end Go.Proofs.Ytjecepaaalfilaa.AI
