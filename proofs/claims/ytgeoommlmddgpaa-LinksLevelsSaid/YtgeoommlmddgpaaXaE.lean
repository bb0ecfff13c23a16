/- The document's answer, thalwegref02.Right and thalwegref12.Right: told. -/
import Derived.Test.YtgeoommlmddgpaaXaD
set_option linter.unusedVariables false
set_option linter.unusedSimpArgs false
set_option maxRecDepth 100000
namespace Go.Proofs.Ytgeoommlmddgpaa.LtA
open Go Go.Proofs Go.Proofs.Ytgeoommlmddgpaa.AI Go.RowKit

/-! ### thalwegref12.Right -/
section
variable (o : Blk) (n c : Nat)
def okV (x : ViewV) : Bool := okH x.n x.t x.o x.r x.d x.i
end
theorem oneV_parts {x : ViewV} : oneV x = (decide (x.id ≥ 0) && (decide (x.id < 64) && ((x.i == x.id) && okV x))) := by
  unfold oneV oneB okV chk
  cases okH x.n x.t x.o x.r x.d x.i <;> rfl
open Classical in
noncomputable def g43 (vs : List ViewV) : HeapFn := fun args hp => match args with
  | [s] => if TQ vs s hp then some (.bool (rightB vs), heapOf ([] ++ [.dead]) hp) else none
  | _ => none
end Go.Proofs.Ytgeoommlmddgpaa.LtA
namespace Go.Proofs.Ytgeoommlmddgpaa.LtA
open Go Go.Proofs Go.Proofs.Ytgeoommlmddgpaa.AI Go.RowKit

/-! ### Own -/
section
variable (o : Blk) (s : Value) (vs : List ViewV) (n c : Nat)
end
/-- What a function ends with that answers a row: nil where it is empty. -/
def rowV (us : List ViewV) (b : Nat) : Value := match us with
  | [] => nilS
  | _ :: _ => newS b us.length
def rowO (us : List ViewV) : List Blk := match us with
  | [] => []
  | _ :: _ => [rowB us]
open Classical in
noncomputable def g34 (vs : List ViewV) : HeapFn := fun args hp => match args with
  | [s] => if TN vs s hp then some (rowV vs hp.sz, heapOf (rowO vs ++ [.dead]) hp) else none
  | _ => none
/-! ### Get -/
section
variable (o : Blk) (n c : Nat) (id : Int)
end
/-! ### Same, of a row and itself -/
/-- Two rows that are alike, in two blocks, or nil. -/
def SM (us : List ViewV) (s t : Value) (hp : Hp) : Prop :=
  (s = nilS ∧ t = nilS ∧ us = []) ∨ (TR us s hp ∧ t = nilS ∧ us = []) ∨ (s = nilS ∧ TR us t hp ∧ us = []) ∨
    ∃ b1 c1 o1 b2 c2 o2, s = rowS b1 us.length c1 ∧ t = rowS b2 us.length c2 ∧ b1 ≠ b2 ∧ hp.get b1 = some o1 ∧ hp.get b2 = some o2 ∧ inertB o1 = true ∧ inertB o2 = true ∧ (us = [] ∨ ∃ ty ro, o1 = .cells ty (vrow us) ro) ∧ (us = [] ∨ ∃ ty ro, o2 = .cells ty (vrow us) ro)
end Go.Proofs.Ytgeoommlmddgpaa.LtA
namespace Go.Proofs.Ytgeoommlmddgpaa.LtA
open Go Go.Proofs Go.Proofs.Ytgeoommlmddgpaa.AI Go.RowKit

section
variable (o : Blk) (s : Value) (n c : Nat) (y : ViewV) (ws us zs : List ViewV) (k : Nat) (i : Nat) (x : ViewV) (g : Nat → Value)
end
section
variable (o : Blk) (n c : Nat) (y : ViewV) (ws us zs : List ViewV) (k : Nat) (i : Nat) (x : ViewV) (g : Nat → Value)
def hN (o : Blk) (y : ViewV) : Hp := heapOf ([o, hB y] ++ [.dead]) hp0
def vB (x : ViewV) : Blk := .cells 45 (vc x) false
def hR (o : Blk) (ws : List ViewV) (y : ViewV) : Hp := heapOf ([o, rowB ws, hB y] ++ [.dead]) hp0
end
section
variable (o : Blk) (s : Value) (n c : Nat) (y : ViewV) (ws us : List ViewV) (k : Nat) (g : Nat → Value)
end
end Go.Proofs.Ytgeoommlmddgpaa.LtA
namespace Go.Proofs.Ytgeoommlmddgpaa.LtA
open Go Go.Proofs Go.Proofs.Ytgeoommlmddgpaa.AI Go.RowKit

theorem fold_step {α β : Type} {f : α → β → α} {a : α} {vs : List β} {i : Nat} {x : β} (h : vs[i]? = some x) : (vs.take (i + 1)).foldl f a = f ((vs.take i).foldl f a) x := by
  rw [List.take_add_one, h]
  simp [List.foldl_append]
theorem RowAt.push {hp : Hp} {b : Nat} {vs : List ViewV} (h : RowAt hp b vs) (hb : b ≠ hp.sz) (o : Blk) : RowAt (hp.push o) b vs := by
  obtain ⟨ty, ro, rest, hg⟩ := h
  exact ⟨ty, ro, rest, by rw [Hp.get_push, if_neg hb, hg]⟩
theorem RowAt.put {hp : Hp} {b b' : Nat} {vs : List ViewV} (h : RowAt hp b vs) (hb : b ≠ b') (o : Blk) : RowAt (hp.put b' o) b vs := by
  obtain ⟨ty, ro, rest, hg⟩ := h
  exact ⟨ty, ro, rest, by rw [Hp.get_put, if_neg hb, hg]⟩
section
variable (o : Blk) (s : Value) (y : ViewV)
end
section
variable {o : Blk} {s : Value} {y : ViewV}
section
variable {vs : List ViewV} {n c i : Nat} {x : ViewV} {h : Hp}
end
end
/-! ### What it is -/
end Go.Proofs.Ytgeoommlmddgpaa.LtA
namespace Go.Proofs.Ytgeoommlmddgpaa.LtA
open Go Go.Proofs Go.Proofs.Ytgeoommlmddgpaa.AI Go.RowKit

/-! ### Drop -/
section
variable (o : Blk) (n c : Nat) (id : Int) (ws us : List ViewV) (k : Nat) (i : Nat) (x : ViewV) (g : Nat → Value)
end
section
variable (o : Blk) (id : Int) (s : Value)
end
end Go.Proofs.Ytgeoommlmddgpaa.LtA
namespace Go.Proofs.Ytgeoommlmddgpaa.LtA
open Go Go.Proofs Go.Proofs.Ytgeoommlmddgpaa.AI Go.RowKit

/-! ### Told functions that lay two blocks always -/
/-- Of one or two blocks laid, two. -/
def padF (k : HeapFn) : HeapFn := fun args hp => match k args hp with
  | some (v, hp1) => if hp1.sz = hp.sz + 1 then some (v, heapOf [.dead] hp1) else some (v, hp1)
  | none => none
theorem pad_goal {P : Program} {f : FuncId} {k : HeapFn} (hg : CallGoal P f k) : CallGoal P f (padF k) := by
  intro args hp v hp2 he hk
  unfold padF at he
  split at he
  case h_2 => cases he
  rename_i v1 hp1 h1
  split at he
  case isFalse => cases he; exact hg args hp v hp2 h1 hk
  cases he
  obtain ⟨hk1, hle, hgo⟩ := hg args hp v hp1 h1 hk
  have hsz : (heapOf [.dead] hp1).sz = hp1.sz + 1 := rfl
  refine ⟨heapOf_ok _ _ hk1, by rw [hsz]; omega, fun m h w args' hfr s ra => ?_⟩
  have step : ∀ v' w', (∃ m', Go1 m (ovr hp h) w m' (ovr hp1 h) w' ∧ VRel m' (ovr hp1 h) v v') → ∃ m', Go1 m (ovr hp h) w m' (ovr (heapOf [.dead] hp1) h) w' ∧ VRel m' (ovr (heapOf [.dead] hp1) h) v v' := ?_
  · rcases hgo m h w args' (fun b a c => hfr b a (by rw [hsz]; omega)) s ra with ⟨v', w', q1, q2⟩ | ⟨q1, q2⟩
    · exact .inl ⟨v', w', q1, step v' w' q2⟩
    · exact .inr ⟨q1, q2.mono fun e w' hh => by
        obtain ⟨v', h1, h2⟩ := hh
        exact ⟨v', h1, step v' w' h2⟩⟩
  rintro v' w' ⟨m', go, rv⟩
  have hnew : h hp1.sz = none := hfr hp1.sz hle (by rw [hsz]; omega)
  have hov : ∀ b, ovr (heapOf [.dead] hp1) h b = if b = hp1.sz then some .dead else ovr hp1 h b := by
    intro b
    unfold ovr
    rw [hsz]
    by_cases h1 : b < hp1.sz
    · rw [if_pos (by omega), if_neg (by omega), if_pos h1, heapOf_get, if_pos h1]
    · by_cases h2 : b = hp1.sz
      · subst h2
        rw [if_pos (by omega), if_pos rfl, heapOf_get, if_neg h1, Nat.sub_self]; rfl
      · rw [if_neg (by omega), if_neg h2, if_neg h1]
  have hnone : ovr hp1 h hp1.sz = none := by
    unfold ovr
    rw [if_neg (by omega)]; exact hnew
  have hmn : m' hp1.sz = none := by
    cases e : m' hp1.sz with
    | none => rfl
    | some x => obtain ⟨o, ho, _⟩ := go.sim.dom _ x e; rw [hnone] at ho; cases ho
  have hne : ∀ b x, m' b = some x → b ≠ hp1.sz := fun b x hx e => by subst e; rw [hmn] at hx; cases hx
  have hke : ∀ b o, ovr hp1 h b = some o → b ≠ hp1.sz := fun b o hb e => by subst e; rw [hnone] at hb; cases hb
  have le2 : Le m' (ovr hp1 h) m' (ovr (heapOf [.dead] hp1) h) := ⟨fun b hb => by rw [hov, if_neg (hke b _ hb)]; exact hb, fun b x hx => .inr hx⟩
  have rwS : ∀ b, b ≠ hp1.sz → rw? (ovr (heapOf [.dead] hp1) h) b = rw? (ovr hp1 h) b := fun b hb => by unfold rw?; rw [hov, if_neg hb]
  have lvS : ∀ b, b ≠ hp1.sz → live? (ovr (heapOf [.dead] hp1) h) b = live? (ovr hp1 h) b := fun b hb => by unfold live?; rw [hov, if_neg hb]
  refine ⟨m', ⟨go.le.trans le2, ⟨fun b x hx => ?_, fun b b' x x' hx hx' hr hl e => go.sim.inj b b' x x' hx hx' (by rw [← rwS b (hne b x hx)]; exact hr) (by rw [← lvS b' (hne b' x' hx')]; exact hl) e⟩, go.size, go.new, go.frame, go.un, fun b o hb hm => ?_, fun b o hb => ?_, fun b x hx hr => ?_, go.os, go.tape, go.output⟩, rv.mono le2⟩
  · obtain ⟨o, ho, hbr⟩ := go.sim.dom b x hx
    exact ⟨o, by rw [hov, if_neg (hne b x hx)]; exact ho, hbr.mono le2 rfl⟩
  · have := go.idle b o hb hm
    rw [hov, if_neg (hke b _ this)]; exact this
  · obtain ⟨o', ho'⟩ := go.ex b o hb
    exact ⟨o', by rw [hov, if_neg (hke b _ ho')]; exact ho'⟩
  · have hb1 : b ≠ hp1.sz := by
      intro e
      subst e
      unfold rw? at hr
      rw [hov, if_pos rfl] at hr
      cases hr
    exact go.rwb b x hx (by rw [← rwS b hb1]; exact hr)
theorem pad_two {k : HeapFn} {args : List Value} {hp : Hp} {v : Value} {B : Blk} (h : k args hp = some (v, heapOf [B, .dead] hp)) : padF k args hp = some (v, heapOf [B, .dead] hp) := by
  unfold padF
  rw [h]
  have : (heapOf [B, .dead] hp).sz = hp.sz + 2 := rfl
  simp only [this]
  rw [if_neg (by omega)]
theorem pad_one {k : HeapFn} {args : List Value} {hp : Hp} {v : Value} (h : k args hp = some (v, heapOf [.dead] hp)) : padF k args hp = some (v, heapOf [.dead, .dead] hp) := by
  unfold padF
  rw [h]
  have : (heapOf [Blk.dead] hp).sz = hp.sz + 1 := rfl
  simp only [this]
  rfl
/-! ### The run -/
section
variable (o : Blk) (s : Value) (n : Nat) (y a : ViewV) (b rb : Bool) (z : Int) (v1 v2 v3 v4 v5 : Value) (B1 B2 B3 B4 B5 : Blk) (e f : Nat)
end
end Go.Proofs.Ytgeoommlmddgpaa.LtA
namespace Go.Proofs.Ytgeoommlmddgpaa.LtA
open Go Go.Proofs Go.Proofs.Ytgeoommlmddgpaa.AI Go.RowKit

/-- What lies in a heap lies in another one. -/
def Grow (hp hp' : Hp) : Prop := ∀ b o, hp.get b = some o → hp'.get b = some o
theorem Grow.trans {a b c : Hp} (h1 : Grow a b) (h2 : Grow b c) : Grow a c := fun x o h => h2 x o (h1 x o h)
section
variable {hp : Hp}
end
theorem SM.symm {us : List ViewV} {s t : Value} {hp : Hp} (h : SM us s t hp) : SM us t s hp := by
  rcases h with ⟨h1, h2, h3⟩ | ⟨h1, h2, h3⟩ | ⟨h1, h2, h3⟩ | ⟨b1, c1, o1, b2, c2, o2, h1, h2, h3, h4, h5, h6, h7, h8, h9⟩
  · exact .inl ⟨h2, h1, h3⟩
  · exact .inr (.inr (.inl ⟨h2, h1, h3⟩))
  · exact .inr (.inl ⟨h2, h1, h3⟩)
  · exact .inr (.inr (.inr ⟨b2, c2, o2, b1, c1, o1, h2, h1, fun e => h3 e.symm, h5, h4, h7, h6, h9, h8⟩))
end Go.Proofs.Ytgeoommlmddgpaa.LtA
