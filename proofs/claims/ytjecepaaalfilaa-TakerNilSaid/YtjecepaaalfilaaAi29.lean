/- Functions that are told, with memory: new rows are handed back. -/
import Derived.Test.YtjecepaaalfilaaAi28
set_option linter.unusedVariables false
set_option linter.unusedSimpArgs false
namespace Go.Proofs.Ytjecepaaalfilaa.AI
open Go Go.RowKit

abbrev HeapFn := List Value → Hp → Option (Value × Hp)
def heapOfFn : List (FuncId × HeapFn) → FuncId → Option HeapFn
  | [], _ => none
  | (g, k) :: r, f => match Nat.beq g f with
    | true => some k
    | false => heapOfFn r f
/-- What is told with memory, ahead of what is told else. -/
def extG (base : Ext) (hs : List (FuncId × HeapFn)) : Ext := fun f => match heapOfFn hs f with
  | some g => some fun _ args h => g args h
  | none => base f
def HeapFnsOk (P : Program) (hs : List (FuncId × HeapFn)) : Prop := ∀ p ∈ hs, CallGoal P p.1 p.2
theorem heapOfFn_mem : ∀ {hs : List (FuncId × HeapFn)} {f : FuncId} {g : HeapFn}, heapOfFn hs f = some g → (f, g) ∈ hs
  | [], f, g, h => by cases h
  | (k, e) :: r, f, g, h => by
    unfold heapOfFn at h
    split at h
    · rename_i hb
      cases h
      rw [Nat.eq_of_beq_eq_true hb]
      exact .head _
    · exact .tail _ (heapOfFn_mem h)
section
variable {P : Program}
theorem extG_ok {base : Ext} {hs : List (FuncId × HeapFn)} (hb : ExtOk P base) (h : HeapFnsOk P hs) : ExtOk P (extG base hs) := by
  intro f
  unfold extG
  cases hf : heapOfFn hs f with
  | none => exact hb f
  | some g => exact fun call _ => h _ (heapOfFn_mem hf)
theorem HeapFnsOk.nil : HeapFnsOk P [] := fun p hp => by cases hp
theorem HeapFnsOk.cons {f : FuncId} {g : HeapFn} {hs : List (FuncId × HeapFn)} (h : CallGoal P f g) (hr : HeapFnsOk P hs) : HeapFnsOk P ((f, g) :: hs) := fun p hp => by
  cases hp with
  | head => exact h
  | tail _ hp => exact hr p hp

/-- A block that a call has laid, somewhere behind what lay before. -/
theorem go_new {m : BM} {h : HG} {w w' : World} (s : Sim m h w) (b : Below w.heap.size w w') {sz : Nat} (hs : h sz = none) {o : Blk} {g E : Nat} (hg : w.heap.size ≤ g)
    (hb : ∀ m' h', Le m h m' h' → BRel m' h' w' (g, 0, E) o) :
    Go1 m h w (updM m sz (g, 0, E)) (updH h sz o) w' := by
  have hm : m sz = none := by
    cases e : m sz with
    | none => rfl
    | some x => obtain ⟨o, ho, _⟩ := s.dom _ _ e; rw [hs] at ho; cases ho
  have l := Le.push (m := m) (h := h) (o := o) (x := (g, 0, E)) hs hm
  have hrw : ∀ b, b ≠ sz → updH h sz o b = h b := fun b e => by unfold updH; rw [if_neg e]
  refine ⟨l, ⟨?_, ?_⟩, b.size, ?_, fun r hr _ => b.block r hr, ?_, fun c oc hc _ => by
    have e : c ≠ sz := by intro e; subst e; rw [hc] at hs; cases hs
    rw [hrw c e]; exact hc, ?_, ?_, b.os, b.tape, b.output⟩
  · intro b2 x hx
    by_cases e : b2 = sz
    · subst e
      simp [updM] at hx
      subst hx
      exact ⟨o, by simp [updH], hb _ _ l⟩
    · have hx' : m b2 = some x := by simpa [updM, e] using hx
      obtain ⟨o', ho', hr⟩ := s.dom b2 x hx'
      refine ⟨o', by rw [hrw b2 e]; exact ho', ?_⟩
      by_cases hd : o' = .dead
      · subst hd; trivial
      · refine hr.mono l (b.block _ (s.lt hx' ?_))
        unfold live?
        rw [ho']
        cases o' <;> simp_all
  · intro b2 b' x x' hx hx' hr hl hxx
    by_cases e : b2 = sz <;> by_cases e' : b' = sz
    · rw [e, e']
    · subst e
      simp [updM] at hx
      subst hx
      have hx2 : m b' = some x' := by simpa [updM, e'] using hx'
      have hl2 : live? h b' = true := by unfold live? at hl ⊢; rwa [hrw b' e'] at hl
      have := s.lt hx2 hl2
      simp at hxx; omega
    · subst e'
      simp [updM] at hx'
      subst hx'
      have hx2 : m b2 = some x := by simpa [updM, e] using hx
      have hr2 : rw? h b2 = true := by unfold rw? at hr ⊢; rwa [hrw b2 e] at hr
      have := s.lt hx2 (live_of_rw hr2)
      simp at hxx; omega
    · have hx2 : m b2 = some x := by simpa [updM, e] using hx
      have hx3 : m b' = some x' := by simpa [updM, e'] using hx'
      exact s.inj b2 b' x x' hx2 hx3 (by unfold rw? at hr ⊢; rwa [hrw b2 e] at hr) (by unfold live? at hl ⊢; rwa [hrw b' e'] at hl) hxx
  · intro b2 x hx
    by_cases e : b2 = sz
    · subst e; simp [updM] at hx; subst hx; exact .inr (.inl hg)
    · exact .inl (by simpa [updM, e] using hx)
  · intro b2 o2 ho hmb
    have e : b2 ≠ sz := by intro e; subst e; rw [ho] at hs; cases hs
    simpa [updM, e] using hmb
  · intro b2 o2 ho
    by_cases e : b2 = sz
    · exact ⟨o, by simp [updH, e]⟩
    · exact ⟨o2, by rw [hrw b2 e]; exact ho⟩
  · intro b2 x hx hr
    have e : b2 ≠ sz := by intro e; subst e; rw [hm] at hx; cases hx
    unfold rw? at hr ⊢; rwa [hrw b2 e] at hr
end
end Go.Proofs.Ytjecepaaalfilaa.AI
