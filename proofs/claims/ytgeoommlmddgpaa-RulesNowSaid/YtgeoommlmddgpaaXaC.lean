/- The document's answer, thalwegref02.Right and thalwegref12.Right: told. -/
import Derived.Test.YtgeoommlmddgpaaXaB
import Derived.Test.YtgeoommlmddgpaaAi40
set_option linter.unusedVariables false
set_option linter.unusedSimpArgs false
set_option maxRecDepth 100000
namespace Go.Proofs.Ytgeoommlmddgpaa.LtA
open Go Go.Proofs Go.Proofs.Ytgeoommlmddgpaa.AI Go.RowKit

/-! ### thalwegref12.Right -/
section
variable (o : Blk) (n c : Nat)
end
open Classical in
noncomputable def g43 (vs : List ViewV) : HeapFn := fun args hp => match args with
  | [s] => if TQ vs s hp then some (.bool (rightB vs), heapOf ([] ++ [.dead]) hp) else none
  | _ => none
end Go.Proofs.Ytgeoommlmddgpaa.LtA
namespace Go.Proofs.Ytgeoommlmddgpaa.LtA
open Go Go.Proofs Go.Proofs.Ytgeoommlmddgpaa.AI Go.RowKit

/-! ### Own -/
section
variable (o : Blk) (s : Value) (vs : List ViewV) (n c : Nat)
end
/-- What a function ends with that answers a row: nil where it is empty. -/
def rowV (us : List ViewV) (b : Nat) : Value := match us with
  | [] => nilS
  | _ :: _ => newS b us.length
def rowO (us : List ViewV) : List Blk := match us with
  | [] => []
  | _ :: _ => [rowB us]
open Classical in
noncomputable def g34 (vs : List ViewV) : HeapFn := fun args hp => match args with
  | [s] => if TN vs s hp then some (rowV vs hp.sz, heapOf (rowO vs ++ [.dead]) hp) else none
  | _ => none
noncomputable def G34 : HeapFn := atRow (fun _ => True) g34
open Classical in
theorem G34_of {vs : List ViewV} {s : Value} {hp : Hp} (h : TN vs s hp) (hn : vs.length < 1000000) : G34 [s] hp = some (rowV vs hp.sz, heapOf (rowO vs ++ [.dead]) hp) := by
  unfold G34
  rw [atRow_of h hn trivial]
  show (if TN vs s hp then _ else _) = _
  rw [if_pos h]

/-! ### Get -/
section
variable (o : Blk) (n c : Nat) (id : Int)
end
/-! ### Same, of a row and itself -/
/-- Two rows that are alike, in two blocks, or nil. -/
def SM (us : List ViewV) (s t : Value) (hp : Hp) : Prop :=
  (s = nilS ∧ t = nilS ∧ us = []) ∨ (TR us s hp ∧ t = nilS ∧ us = []) ∨ (s = nilS ∧ TR us t hp ∧ us = []) ∨
    ∃ b1 c1 o1 b2 c2 o2, s = rowS b1 us.length c1 ∧ t = rowS b2 us.length c2 ∧ b1 ≠ b2 ∧ hp.get b1 = some o1 ∧ hp.get b2 = some o2 ∧ inertB o1 = true ∧ inertB o2 = true ∧ (us = [] ∨ ∃ ty ro, o1 = .cells ty (vrow us) ro) ∧ (us = [] ∨ ∃ ty ro, o2 = .cells ty (vrow us) ro)
open Classical in
noncomputable def gSM : HeapFn := fun args hp => match args with
  | [s, t] => if ∃ us, us.length < 1000000 ∧ SM us s t hp then some (.bool true, heapOf ([] ++ [.dead]) hp) else none
  | _ => none
open Classical in
theorem gSM_of {us : List ViewV} {s t : Value} {hp : Hp} (h : SM us s t hp) (hn : us.length < 1000000) : gSM [s, t] hp = some (.bool true, heapOf [.dead] hp) := by
  unfold gSM
  simp only
  rw [if_pos ⟨us, hn, h⟩]
  rfl
end Go.Proofs.Ytgeoommlmddgpaa.LtA
namespace Go.Proofs.Ytgeoommlmddgpaa.LtA
open Go Go.Proofs Go.Proofs.Ytgeoommlmddgpaa.AI Go.RowKit

theorem app_one {get : Nat → Option Blk} {sz b b2 k : Nat} {ws : List ViewV} {x : ViewV} (hb : get b = some (rowB ws)) (hb2 : get b2 = some (.cells 45 (vc x) false)) (hk : k = ws.length) (hl : k < 2000000) :
    aAppend Try.prog get sz [22, 22] [newS b k, rowS b2 1 22] = some (newS sz (k + 1), [.put b .dead, .push (rowB (ws ++ [x]))]) := by
  subst hk
  obtain ⟨i, hi, h7, h56⟩ := info34
  obtain ⟨z, hz, hzl⟩ := zero34
  unfold rowB at hb
  have hsrc : aSrc Try.prog get 7 z (.slice 45) (rowS b2 1 22) = some (vc x, 1) := by
    unfold aSrc
    simp only [rowS, srcLen, srcCells, hb2]
    rw [if_neg (by omega), if_neg (by omega), getR_all (n := 1 * 7) rfl]
    rfl
  have hg : getR (vrow ws) 0 (ws.length * 7) = some (vrow ws) := getR_all (vrow_len ws)
  unfold aAppend
  simp only [Try.underlying22, hi, hz, h7, h56, hzl]
  rw [if_neg (by decide)]
  simp only [hsrc]
  rw [if_neg (by simp [vc, isOne])]
  simp only [newS, rowS]
  rw [if_neg (by omega), if_neg (by omega)]
  simp only [hb, hg]
  rw [if_neg (by omega), if_pos (by decide), if_neg (by rw [vrow_len]; omega)]
  unfold rowB
  rw [vrow_append]
  have e : vrow [x] = vc x := by unfold vrow; simp
  rw [e]
section
variable (o : Blk) (s : Value) (n c : Nat) (y : ViewV) (ws us zs : List ViewV) (k : Nat) (i : Nat) (x : ViewV) (g : Nat → Value)
end
section
variable (o : Blk) (n c : Nat) (y : ViewV) (ws us zs : List ViewV) (k : Nat) (i : Nat) (x : ViewV) (g : Nat → Value)
def hN (o : Blk) (y : ViewV) : Hp := heapOf ([o, hB y] ++ [.dead]) hp0
def vB (x : ViewV) : Blk := .cells 45 (vc x) false
def hR (o : Blk) (ws : List ViewV) (y : ViewV) : Hp := heapOf ([o, rowB ws, hB y] ++ [.dead]) hp0
noncomputable def hR1 (o : Blk) (ws us : List ViewV) (y : ViewV) : Hp := (((hR o ws y).push (vB y)).put 1 .dead).push (rowB us)
end
section
variable (o : Blk) (s : Value) (n c : Nat) (y : ViewV) (ws us : List ViewV) (k : Nat) (g : Nat → Value)
end
end Go.Proofs.Ytgeoommlmddgpaa.LtA
namespace Go.Proofs.Ytgeoommlmddgpaa.LtA
open Go Go.Proofs Go.Proofs.Ytgeoommlmddgpaa.AI Go.RowKit

theorem fold_step {α β : Type} {f : α → β → α} {a : α} {vs : List β} {i : Nat} {x : β} (h : vs[i]? = some x) : (vs.take (i + 1)).foldl f a = f ((vs.take i).foldl f a) x := by
  rw [List.take_add_one, h]
  simp [List.foldl_append]
theorem RowAt.push {hp : Hp} {b : Nat} {vs : List ViewV} (h : RowAt hp b vs) (hb : b ≠ hp.sz) (o : Blk) : RowAt (hp.push o) b vs := by
  obtain ⟨ty, ro, rest, hg⟩ := h
  exact ⟨ty, ro, rest, by rw [Hp.get_push, if_neg hb, hg]⟩
theorem RowAt.put {hp : Hp} {b b' : Nat} {vs : List ViewV} (h : RowAt hp b vs) (hb : b ≠ b') (o : Blk) : RowAt (hp.put b' o) b vs := by
  obtain ⟨ty, ro, rest, hg⟩ := h
  exact ⟨ty, ro, rest, by rw [Hp.get_put, if_neg hb, hg]⟩
section
variable (o : Blk) (s : Value) (y : ViewV)
end
section
variable {o : Blk} {s : Value} {y : ViewV}
section
variable {vs : List ViewV} {n c i : Nat} {x : ViewV} {h : Hp}
end
end
/-! ### What it is -/
end Go.Proofs.Ytgeoommlmddgpaa.LtA
namespace Go.Proofs.Ytgeoommlmddgpaa.LtA
open Go Go.Proofs Go.Proofs.Ytgeoommlmddgpaa.AI Go.RowKit

/-! ### Drop -/
section
variable (o : Blk) (n c : Nat) (id : Int) (ws us : List ViewV) (k : Nat) (i : Nat) (x : ViewV) (g : Nat → Value)
end
section
variable (o : Blk) (id : Int) (s : Value)
end
end Go.Proofs.Ytgeoommlmddgpaa.LtA
namespace Go.Proofs.Ytgeoommlmddgpaa.LtA
open Go Go.Proofs Go.Proofs.Ytgeoommlmddgpaa.AI Go.RowKit

/-! ### Told functions that lay two blocks always -/
/-- Of one or two blocks laid, two. -/
def padF (k : HeapFn) : HeapFn := fun args hp => match k args hp with
  | some (v, hp1) => if hp1.sz = hp.sz + 1 then some (v, heapOf [.dead] hp1) else some (v, hp1)
  | none => none
theorem pad_goal {P : Program} {f : FuncId} {k : HeapFn} (hg : CallGoal P f k) : CallGoal P f (padF k) := by
  intro args hp v hp2 he hk
  unfold padF at he
  split at he
  case h_2 => cases he
  rename_i v1 hp1 h1
  split at he
  case isFalse => cases he; exact hg args hp v hp2 h1 hk
  cases he
  obtain ⟨hk1, hle, hgo⟩ := hg args hp v hp1 h1 hk
  have hsz : (heapOf [.dead] hp1).sz = hp1.sz + 1 := rfl
  refine ⟨heapOf_ok _ _ hk1, by rw [hsz]; omega, fun m h w args' hfr s ra => ?_⟩
  have step : ∀ v' w', (∃ m', Go1 m (ovr hp h) w m' (ovr hp1 h) w' ∧ VRel m' (ovr hp1 h) v v') → ∃ m', Go1 m (ovr hp h) w m' (ovr (heapOf [.dead] hp1) h) w' ∧ VRel m' (ovr (heapOf [.dead] hp1) h) v v' := ?_
  · rcases hgo m h w args' (fun b a c => hfr b a (by rw [hsz]; omega)) s ra with ⟨v', w', q1, q2⟩ | ⟨q1, q2⟩
    · exact .inl ⟨v', w', q1, step v' w' q2⟩
    · exact .inr ⟨q1, q2.mono fun e w' hh => by
        obtain ⟨v', h1, h2⟩ := hh
        exact ⟨v', h1, step v' w' h2⟩⟩
  rintro v' w' ⟨m', go, rv⟩
  have hnew : h hp1.sz = none := hfr hp1.sz hle (by rw [hsz]; omega)
  have hov : ∀ b, ovr (heapOf [.dead] hp1) h b = if b = hp1.sz then some .dead else ovr hp1 h b := by
    intro b
    unfold ovr
    rw [hsz]
    by_cases h1 : b < hp1.sz
    · rw [if_pos (by omega), if_neg (by omega), if_pos h1, heapOf_get, if_pos h1]
    · by_cases h2 : b = hp1.sz
      · subst h2
        rw [if_pos (by omega), if_pos rfl, heapOf_get, if_neg h1, Nat.sub_self]; rfl
      · rw [if_neg (by omega), if_neg h2, if_neg h1]
  have hnone : ovr hp1 h hp1.sz = none := by
    unfold ovr
    rw [if_neg (by omega)]; exact hnew
  have hmn : m' hp1.sz = none := by
    cases e : m' hp1.sz with
    | none => rfl
    | some x => obtain ⟨o, ho, _⟩ := go.sim.dom _ x e; rw [hnone] at ho; cases ho
  have hne : ∀ b x, m' b = some x → b ≠ hp1.sz := fun b x hx e => by subst e; rw [hmn] at hx; cases hx
  have hke : ∀ b o, ovr hp1 h b = some o → b ≠ hp1.sz := fun b o hb e => by subst e; rw [hnone] at hb; cases hb
  have le2 : Le m' (ovr hp1 h) m' (ovr (heapOf [.dead] hp1) h) := ⟨fun b hb => by rw [hov, if_neg (hke b _ hb)]; exact hb, fun b x hx => .inr hx⟩
  have rwS : ∀ b, b ≠ hp1.sz → rw? (ovr (heapOf [.dead] hp1) h) b = rw? (ovr hp1 h) b := fun b hb => by unfold rw?; rw [hov, if_neg hb]
  have lvS : ∀ b, b ≠ hp1.sz → live? (ovr (heapOf [.dead] hp1) h) b = live? (ovr hp1 h) b := fun b hb => by unfold live?; rw [hov, if_neg hb]
  refine ⟨m', ⟨go.le.trans le2, ⟨fun b x hx => ?_, fun b b' x x' hx hx' hr hl e => go.sim.inj b b' x x' hx hx' (by rw [← rwS b (hne b x hx)]; exact hr) (by rw [← lvS b' (hne b' x' hx')]; exact hl) e⟩, go.size, go.new, go.frame, go.un, fun b o hb hm => ?_, fun b o hb => ?_, fun b x hx hr => ?_, go.os, go.tape, go.output⟩, rv.mono le2⟩
  · obtain ⟨o, ho, hbr⟩ := go.sim.dom b x hx
    exact ⟨o, by rw [hov, if_neg (hne b x hx)]; exact ho, hbr.mono le2 rfl⟩
  · have := go.idle b o hb hm
    rw [hov, if_neg (hke b _ this)]; exact this
  · obtain ⟨o', ho'⟩ := go.ex b o hb
    exact ⟨o', by rw [hov, if_neg (hke b _ ho')]; exact ho'⟩
  · have hb1 : b ≠ hp1.sz := by
      intro e
      subst e
      unfold rw? at hr
      rw [hov, if_pos rfl] at hr
      cases hr
    exact go.rwb b x hx (by rw [← rwS b hb1]; exact hr)
theorem pad_two {k : HeapFn} {args : List Value} {hp : Hp} {v : Value} {B : Blk} (h : k args hp = some (v, heapOf [B, .dead] hp)) : padF k args hp = some (v, heapOf [B, .dead] hp) := by
  unfold padF
  rw [h]
  have : (heapOf [B, .dead] hp).sz = hp.sz + 2 := rfl
  simp only [this]
  rw [if_neg (by omega)]
theorem pad_one {k : HeapFn} {args : List Value} {hp : Hp} {v : Value} (h : k args hp = some (v, heapOf [.dead] hp)) : padF k args hp = some (v, heapOf [.dead, .dead] hp) := by
  unfold padF
  rw [h]
  have : (heapOf [Blk.dead] hp).sz = hp.sz + 1 := rfl
  simp only [this]
  rfl
def ownB (vs : List ViewV) : Blk := match vs with
  | [] => .dead
  | _ :: _ => rowB vs
/-! ### The run -/
section
variable (o : Blk) (s : Value) (n : Nat) (y a : ViewV) (b rb : Bool) (z : Int) (v1 v2 v3 v4 v5 : Value) (B1 B2 B3 B4 B5 : Blk) (e f : Nat)
def hl1 (o : Blk) (y : ViewV) (B1 : Blk) : Hp := heapOf [B1, .dead] (hk0 o y)
noncomputable def hl3 (o : Blk) (y a : ViewV) (B1 : Blk) : Hp := hkG a (hkG a (hl1 o y B1))
end
end Go.Proofs.Ytgeoommlmddgpaa.LtA
namespace Go.Proofs.Ytgeoommlmddgpaa.LtA
open Go Go.Proofs Go.Proofs.Ytgeoommlmddgpaa.AI Go.RowKit

/-- What lies in a heap lies in another one. -/
def Grow (hp hp' : Hp) : Prop := ∀ b o, hp.get b = some o → hp'.get b = some o
theorem Grow.trans {a b c : Hp} (h1 : Grow a b) (h2 : Grow b c) : Grow a c := fun x o h => h2 x o (h1 x o h)
section
variable {hp : Hp}
end
theorem SM.symm {us : List ViewV} {s t : Value} {hp : Hp} (h : SM us s t hp) : SM us t s hp := by
  rcases h with ⟨h1, h2, h3⟩ | ⟨h1, h2, h3⟩ | ⟨h1, h2, h3⟩ | ⟨b1, c1, o1, b2, c2, o2, h1, h2, h3, h4, h5, h6, h7, h8, h9⟩
  · exact .inl ⟨h2, h1, h3⟩
  · exact .inr (.inr (.inl ⟨h2, h1, h3⟩))
  · exact .inr (.inl ⟨h2, h1, h3⟩)
  · exact .inr (.inr (.inr ⟨b2, c2, o2, b1, c1, o1, h2, h1, fun e => h3 e.symm, h5, h4, h7, h6, h9, h8⟩))
end Go.Proofs.Ytgeoommlmddgpaa.LtA
namespace Go.Proofs.Ytgeoommlmddgpaa.Sort

section
variable {α : Type} (lt : α → α → Bool)
/-- Put in, ahead of all at the end that it is less than. -/
def insB (S : List α) (x : α) : List α := (S.reverse.dropWhile (lt x)).reverse ++ x :: (S.reverse.takeWhile (lt x)).reverse
def mrg (L R : List α) : List α := R.foldl (insB lt) L
def ssort (S : List α) : List α := mrg lt [] S
def Srt (S : List α) : Prop := S.Pairwise fun u v => lt v u = false
structure Swo (K : α → Prop) : Prop where
  asym : ∀ x y, K x → K y → lt x y = true → lt y x = false
  ntr : ∀ x y z, K x → K y → K z → lt x y = false → lt y z = false → lt x z = false
end
section
variable {α : Type} {lt : α → α → Bool} {K : α → Prop}
theorem Swo.trans (h : Swo lt K) {x y z : α} (hx : K x) (hy : K y) (hz : K z) (h1 : lt x y = true) (h2 : lt y z = true) : lt x z = true := by
  cases e : lt x z with
  | true => rfl
  | false => rw [h.ntr x z y hx hz hy e (h.asym y z hy hz h2)] at h1; cases h1
theorem Swo.irr (h : Swo lt K) {x : α} (hx : K x) : lt x x = false := by
  cases e : lt x x with
  | false => rfl
  | true => rw [h.asym x x hx hx e] at e; cases e
theorem insB_of {S P Q : List α} {x : α} (hS : S = P ++ Q) (hQ : ∀ q ∈ Q, lt x q = true) (hP : ∀ p, P.getLast? = some p → lt x p = false) : insB lt S x = P ++ x :: Q := by
  subst hS
  have h1 : ∀ a ∈ Q.reverse, lt x a = true := fun a ha => hQ a (List.mem_reverse.1 ha)
  have h2 : P.reverse.takeWhile (lt x) = [] ∧ P.reverse.dropWhile (lt x) = P.reverse := by
    cases e : P.reverse with
    | nil => exact ⟨rfl, rfl⟩
    | cons p R =>
      have : P.getLast? = some p := by rw [← List.reverse_reverse P, List.getLast?_reverse, e]; rfl
      have := hP p this
      exact ⟨by rw [List.takeWhile_cons, if_neg (by rw [this]; simp)], by rw [List.dropWhile_cons, if_neg (by rw [this]; simp)]⟩
  unfold insB
  rw [List.reverse_append, List.takeWhile_append_of_pos h1, List.dropWhile_append_of_pos h1, h2.1, h2.2]
  simp
theorem ins_cut (lt : α → α → Bool) (S : List α) (x : α) : ∃ P Q, S = P ++ Q ∧ (∀ q ∈ Q, lt x q = true) ∧ (∀ p, P.getLast? = some p → lt x p = false) := by
  refine ⟨(S.reverse.dropWhile (lt x)).reverse, (S.reverse.takeWhile (lt x)).reverse, ?_, fun q hq => ?_, fun p hp => ?_⟩
  · rw [← List.reverse_append, List.takeWhile_append_dropWhile, List.reverse_reverse]
  · exact List.all_eq_true.1 (List.all_takeWhile (p := lt x) (l := S.reverse)) q (List.mem_reverse.1 hq)
  · rw [List.getLast?_reverse] at hp
    have := List.head?_dropWhile_not (lt x) S.reverse
    rw [hp] at this
    simpa using this
theorem ins_eq (lt : α → α → Bool) (S : List α) (x : α) : ∃ P Q, S = P ++ Q ∧ insB lt S x = P ++ x :: Q ∧ (∀ q ∈ Q, lt x q = true) ∧ (∀ p, P.getLast? = some p → lt x p = false) := by
  obtain ⟨P, Q, h1, h2, h3⟩ := ins_cut lt S x
  exact ⟨P, Q, h1, insB_of h1 h2 h3, h2, h3⟩
theorem mem_insB {S : List α} {x z : α} : z ∈ insB lt S x ↔ z = x ∨ z ∈ S := by
  obtain ⟨P, Q, h1, h2, _⟩ := ins_eq lt S x
  rw [h2, h1]
  simp only [List.mem_append, List.mem_cons]
  constructor
  · rintro (h | h | h)
    · exact .inr (.inl h)
    · exact .inl h
    · exact .inr (.inr h)
  · rintro (h | h | h)
    · exact .inr (.inl h)
    · exact .inl h
    · exact .inr (.inr h)
theorem len_insB {S : List α} {x : α} : (insB lt S x).length = S.length + 1 := by
  obtain ⟨P, Q, h1, h2, _⟩ := ins_eq lt S x
  rw [h2, h1]; simp; omega
theorem mem_mrg {R : List α} : ∀ {L : List α} {z : α}, z ∈ mrg lt L R ↔ z ∈ L ∨ z ∈ R := by
  induction R with
  | nil => intro L z; simp [mrg]
  | cons r R ih =>
    intro L z
    have e : mrg lt L (r :: R) = mrg lt (insB lt L r) R := rfl
    rw [e, ih, mem_insB, List.mem_cons]
    constructor
    · rintro ((h | h) | h)
      · exact .inr (.inl h)
      · exact .inl h
      · exact .inr (.inr h)
    · rintro (h | h | h)
      · exact .inl (.inr h)
      · exact .inl (.inl h)
      · exact .inr h
theorem len_mrg {R : List α} : ∀ {L : List α}, (mrg lt L R).length = L.length + R.length := by
  induction R with
  | nil => intro L; rfl
  | cons r R ih =>
    intro L
    have e : mrg lt L (r :: R) = mrg lt (insB lt L r) R := rfl
    rw [e, ih, len_insB]; simp; omega
theorem mem_ssort {S : List α} {z : α} : z ∈ ssort lt S ↔ z ∈ S := by unfold ssort; rw [mem_mrg]; simp
theorem len_ssort {S : List α} : (ssort lt S).length = S.length := by unfold ssort; rw [len_mrg]; simp
theorem mrg_append {L R1 R2 : List α} : mrg lt L (R1 ++ R2) = mrg lt (mrg lt L R1) R2 := by unfold mrg; rw [List.foldl_append]
theorem insB_left {M N : List α} {y : α} (h : ∀ x ∈ N, lt y x = true) : insB lt (M ++ N) y = insB lt M y ++ N := by
  obtain ⟨P, Q, h1, h2, h3, h4⟩ := ins_eq lt M y
  rw [h2]
  rw [insB_of (P := P) (Q := Q ++ N) (by rw [h1, List.append_assoc]) (fun q hq => by
    rcases List.mem_append.1 hq with hq | hq
    · exact h3 q hq
    · exact h q hq) h4]
  simp
theorem insB_right {M N : List α} {y : α} (h : ∀ x ∈ M, lt y x = false) : insB lt (M ++ N) y = M ++ insB lt N y := by
  obtain ⟨P, Q, h1, h2, h3, h4⟩ := ins_eq lt N y
  rw [h2]
  rw [insB_of (P := M ++ P) (Q := Q) (by rw [h1, List.append_assoc]) h3 (fun p hp => by
    cases P with
    | nil => rw [List.append_nil] at hp; exact h p (List.mem_of_getLast? hp)
    | cons a P =>
      rw [List.getLast?_append] at hp
      cases e : (a :: P).getLast? with
      | none => simp at e
      | some b =>
        rw [e] at hp
        simp at hp
        subst hp
        exact h4 b e)]
  simp
theorem mrg_left {N : List α} : ∀ {R M : List α}, (∀ y ∈ R, ∀ x ∈ N, lt y x = true) → mrg lt (M ++ N) R = mrg lt M R ++ N
  | [], M, _ => rfl
  | r :: R, M, h => by
    have e : mrg lt (M ++ N) (r :: R) = mrg lt (insB lt (M ++ N) r) R := rfl
    rw [e, insB_left (h r (.head _)), mrg_left fun y hy => h y (.tail _ hy)]
    rfl
theorem mrg_right {M : List α} : ∀ {R N : List α}, (∀ y ∈ R, ∀ x ∈ M, lt y x = false) → mrg lt (M ++ N) R = M ++ mrg lt N R
  | [], N, _ => rfl
  | r :: R, N, h => by
    have e : mrg lt (M ++ N) (r :: R) = mrg lt (insB lt (M ++ N) r) R := rfl
    rw [e, insB_right (h r (.head _)), mrg_right fun y hy => h y (.tail _ hy)]
    rfl
/-- A merge falls in two. -/
theorem mrg_split {L1 L2 R1 R2 : List α} (h1 : ∀ y ∈ R1, ∀ x ∈ L2, lt y x = true) (h2 : ∀ y ∈ R2, ∀ x ∈ L1, lt y x = false) (h3 : ∀ y ∈ R2, ∀ x ∈ R1, lt y x = false) : mrg lt (L1 ++ L2) (R1 ++ R2) = mrg lt L1 R1 ++ mrg lt L2 R2 := by
  rw [mrg_append, mrg_left h1, mrg_right fun y hy x hx => by
    rcases mem_mrg.1 hx with hx | hx
    · exact h2 y hy x hx
    · exact h3 y hy x hx]
theorem mrg_nil_left {R : List α} (h : Srt lt R) : mrg lt [] R = R := by
  have key : ∀ (R M : List α), Srt lt (M ++ R) → mrg lt M R = M ++ R := by
    intro R
    induction R with
    | nil => intro M _; simp [mrg]
    | cons r R ih =>
      intro M h
      have e : mrg lt M (r :: R) = mrg lt (insB lt M r) R := rfl
      have hp := List.pairwise_append.1 h
      rw [e, insB_of (P := M) (Q := []) (by simp) (fun q hq => by cases hq) (fun p hp' => hp.2.2 p (List.mem_of_getLast? hp') r (.head _))]
      have h' : Srt lt (M ++ [r] ++ R) := by rw [List.append_assoc]; exact h
      rw [ih (M ++ [r]) h']; simp
  have := key R [] (by simpa using h)
  simpa using this
theorem srt_insB (sw : Swo lt K) {S : List α} {x : α} (hS : Srt lt S) (hK : ∀ z ∈ S, K z) (hx : K x) : Srt lt (insB lt S x) := by
  obtain ⟨P, Q, h1, h2, h3, h4⟩ := ins_eq lt S x
  subst h1
  rw [h2]
  obtain ⟨a, b, c⟩ := List.pairwise_append.1 hS
  have hPx : ∀ p ∈ P, lt x p = false := by
    intro p hp
    cases hl : P.getLast? with
    | none => rw [List.getLast?_eq_none_iff] at hl; subst hl; cases hp
    | some p0 =>
      have h0 := h4 p0 hl
      obtain ⟨P', rfl⟩ : ∃ P', P = P' ++ [p0] := by
        have := List.getLast?_eq_some_iff.1 hl
        exact this
      rcases List.mem_append.1 hp with hp | hp
      · have hs := (List.pairwise_append.1 a).2.2 p hp p0 (by simp)
        exact sw.ntr x p0 p hx (hK _ (by simp)) (hK _ (by simp [hp])) h0 hs
      · have : p = p0 := by simpa using hp
        subst this; exact h0
  refine List.pairwise_append.2 ⟨a, List.pairwise_cons.2 ⟨fun q hq => sw.asym x q hx (hK _ (by simp [hq])) (h3 q hq), b⟩, fun p hp q hq => ?_⟩
  rcases List.mem_cons.1 hq with rfl | hq
  · exact hPx p hp
  · exact c p hp q hq
theorem srt_mrg (sw : Swo lt K) : ∀ {R L : List α}, Srt lt L → (∀ z ∈ L, K z) → (∀ z ∈ R, K z) → Srt lt (mrg lt L R)
  | [], L, h, _, _ => h
  | r :: R, L, h, h1, h2 => srt_mrg sw (R := R) (L := insB lt L r) (srt_insB sw h h1 (h2 r (.head _))) (fun z hz => by
      rcases mem_insB.1 hz with rfl | hz
      · exact h2 _ (.head _)
      · exact h1 z hz) (fun z hz => h2 z (.tail _ hz))
theorem srt_ssort (sw : Swo lt K) {S : List α} (h : ∀ z ∈ S, K z) : Srt lt (ssort lt S) := srt_mrg sw (by unfold Srt; simp) (by simp) h
theorem ins_comm (sw : Swo lt K) {N : List α} {x q : α} (hN : Srt lt N) (hK : ∀ z ∈ N, K z) (hx : K x) (hq : K q) (h : lt x q = true) : insB lt (insB lt N x) q = insB lt (insB lt N q) x := by
  obtain ⟨P, Q, h1, h2, h3, h4⟩ := ins_eq lt N x
  obtain ⟨Q1, Q2, k1, k3, k4⟩ := ins_cut lt Q q
  subst h1 k1
  obtain ⟨a, b, c⟩ := List.pairwise_append.1 hN
  have hPx : ∀ p ∈ P, lt x p = false := by
    have := srt_insB sw hN hK hx
    rw [h2] at this
    intro p hp
    exact (List.pairwise_append.1 this).2.2 p hp x (.head _)
  have hPq : ∀ p ∈ P, lt q p = false := by
    intro p hp
    cases e : lt q p with
    | false => rfl
    | true => rw [← hPx p hp]; exact (sw.trans hx hq (hK p (by simp [hp])) h e).symm
  have e1 : insB lt (P ++ (Q1 ++ Q2)) q = P ++ Q1 ++ q :: Q2 := insB_of (by simp) k3 (fun p hp => by
    cases Q1 with
    | nil => rw [List.append_nil] at hp; exact hPq p (List.mem_of_getLast? hp)
    | cons z Q1 =>
      rw [List.getLast?_append] at hp
      cases e : (z :: Q1).getLast? with
      | none => simp at e
      | some z' =>
        rw [e] at hp
        simp at hp
        subst hp
        exact k4 z' e)
  have e2 : insB lt (P ++ x :: (Q1 ++ Q2)) q = P ++ x :: Q1 ++ q :: Q2 := insB_of (by simp) k3 (fun p hp => by
    rw [List.getLast?_append] at hp
    cases Q1 with
    | nil =>
      simp at hp
      subst hp
      exact sw.asym _ q hx hq h
    | cons z Q1 =>
      have e3 : (x :: z :: Q1).getLast? = (z :: Q1).getLast? := by simp [List.getLast?_cons]
      rw [e3] at hp
      cases e : (z :: Q1).getLast? with
      | none => simp at e
      | some z' =>
        rw [e] at hp
        simp at hp
        subst hp
        exact k4 z' e)
  have e3 : insB lt (P ++ Q1 ++ q :: Q2) x = P ++ x :: (Q1 ++ q :: Q2) := insB_of (by simp) (fun z hz => by
    rcases List.mem_append.1 hz with hz | hz
    · exact h3 z (by simp [hz])
    · rcases List.mem_cons.1 hz with rfl | hz
      · exact h
      · exact h3 z (by simp [hz])) h4
  rw [h2, e2, e1, e3]
  simp
theorem mrg_comm (sw : Swo lt K) {x : α} (hx : K x) : ∀ {Q N : List α}, Srt lt N → (∀ z ∈ N, K z) → (∀ q ∈ Q, K q) → (∀ q ∈ Q, lt x q = true) → mrg lt (insB lt N x) Q = insB lt (mrg lt N Q) x
  | [], N, _, _, _, _ => rfl
  | q :: Q, N, h, h1, h2, h3 => by
    have e : mrg lt (insB lt N x) (q :: Q) = mrg lt (insB lt (insB lt N x) q) Q := rfl
    have e2 : mrg lt N (q :: Q) = mrg lt (insB lt N q) Q := rfl
    rw [e, e2, ins_comm sw h h1 hx (h2 q (.head _)) (h3 q (.head _))]
    exact mrg_comm sw hx (srt_insB sw h h1 (h2 q (.head _))) (fun z hz => by
      rcases mem_insB.1 hz with rfl | hz
      · exact h2 _ (.head _)
      · exact h1 z hz) (fun z hz => h2 z (.tail _ hz)) (fun z hz => h3 z (.tail _ hz))
theorem mrg_ssort (sw : Swo lt K) {M : List α} (hM : Srt lt M) (hKM : ∀ z ∈ M, K z) {B : List α} (hB : ∀ z ∈ B, K z) : mrg lt M (ssort lt B) = mrg lt M B := by
  have key : ∀ C : List α, (∀ z ∈ C, K z) → mrg lt M (ssort lt C.reverse) = mrg lt M C.reverse := by
    intro C
    induction C with
    | nil => intro _; rfl
    | cons x C ih =>
      intro h
      have ih' := ih fun z hz => h z (.tail _ hz)
      have e : ssort lt (x :: C).reverse = insB lt (ssort lt C.reverse) x := by
        rw [List.reverse_cons]
        unfold ssort
        rw [mrg_append]; rfl
      obtain ⟨P, Q, h1, h2, h3, _⟩ := ins_eq lt (ssort lt C.reverse) x
      have hKs : ∀ z ∈ ssort lt C.reverse, K z := fun z hz => h z (.tail _ (List.mem_reverse.1 (mem_ssort.1 hz)))
      rw [e, h2, List.reverse_cons, mrg_append, mrg_append, ← ih']
      have e4 : mrg lt (mrg lt M P) (x :: Q) = mrg lt (insB lt (mrg lt M P) x) Q := rfl
      have e5 : mrg lt (mrg lt M (ssort lt C.reverse)) [x] = insB lt (mrg lt M (ssort lt C.reverse)) x := rfl
      have hKP : ∀ z ∈ P, K z := fun z hz => hKs z (by rw [h1]; simp [hz])
      have hKQ : ∀ z ∈ Q, K z := fun z hz => hKs z (by rw [h1]; simp [hz])
      rw [e4, e5, mrg_comm sw (h x (.head _)) (srt_mrg sw hM hKM hKP) (fun z hz => by
        rcases mem_mrg.1 hz with hz | hz
        · exact hKM z hz
        · exact hKP z hz) hKQ h3, h1, mrg_append]
  have := key B.reverse fun z hz => hB z (List.mem_reverse.1 hz)
  rwa [List.reverse_reverse] at this
/-- Sorted parts, merged. -/
theorem mrg_ssorts (sw : Swo lt K) {A B : List α} (hA : ∀ z ∈ A, K z) (hB : ∀ z ∈ B, K z) : mrg lt (ssort lt A) (ssort lt B) = ssort lt (A ++ B) := by
  rw [mrg_ssort sw (srt_ssort sw hA) (fun z hz => hA z (mem_ssort.1 hz)) hB]
  unfold ssort
  rw [mrg_append]
theorem ssort_snoc {S : List α} {x : α} : ssort lt (S ++ [x]) = insB lt (ssort lt S) x := by unfold ssort; rw [mrg_append]; rfl
end
end Go.Proofs.Ytgeoommlmddgpaa.Sort
namespace Go.Proofs.Ytgeoommlmddgpaa.LtA
open Go Go.Proofs Go.Proofs.Ytgeoommlmddgpaa.AI Go.RowKit

/-! ### Rows -/
def IsRow (us : List ViewV) (s : Value) (hp : Hp) : Prop := ∃ b c, s = rowS b us.length c ∧ hp.get b = some (rowB us)
theorem IsRow.uniq {us vs : List ViewV} {s : Value} {hp : Hp} (h1 : IsRow us s hp) (h2 : IsRow vs s hp) : us = vs := by
  obtain ⟨b, c, rfl, hb⟩ := h1
  obtain ⟨b', c', e, hb'⟩ := h2
  simp only [rowS, Value.slice.injEq, Option.some.injEq, Addr.mk.injEq, and_true] at e
  obtain ⟨rfl, -, -⟩ := e
  rw [hb] at hb'
  simp only [rowB, Option.some.injEq, Blk.cells.injEq, true_and, and_true] at hb'
  exact vrow_inj hb'
open Classical in
/-- Told at whatever row, which it may write. -/
noncomputable def atW (k : List ViewV → HeapFn) : HeapFn := fun args hp => match args with
  | s :: _ => if h : ∃ us, IsRow us s hp ∧ us.length < 1000000 then k h.choose args hp else none
  | _ => none
theorem atW_goal {f : FuncId} {k : List ViewV → HeapFn} (h : ∀ us, us.length < 1000000 → CallGoal Try.prog f (k us)) : CallGoal Try.prog f (atW k) := by
  intro args hp v hp' he hk
  unfold atW at he
  split at he
  case h_2 => cases he
  split at he
  · rename_i hx
    exact h _ hx.choose_spec.2 _ _ _ _ he hk
  · cases he
theorem atW_of {k : List ViewV → HeapFn} {us : List ViewV} {s : Value} {r : List Value} {hp : Hp} (h : IsRow us s hp) (hn : us.length < 1000000) : atW k (s :: r) hp = k us (s :: r) hp := by
  unfold atW
  have hx : ∃ us, IsRow us s hp ∧ us.length < 1000000 := ⟨us, h, hn⟩
  simp only
  rw [dif_pos hx]
  rw [hx.choose_spec.1.uniq h]
/-- A frame's own heap: the row, and nothing else. -/
def hW (us : List ViewV) : Hp := heapOf ([rowB us] ++ [.dead]) hp0
theorem hW_get (us : List ViewV) : (hW us).get 0 = some (rowB us) := by unfold hW; rw [heapOf0_get]; rfl
theorem hW_at (us : List ViewV) : RowAt (hW us) 0 us := .of (hW_get us)
def vU : Value := .tuple #[]
/-- A view stored in a row. -/
noncomputable def stO (h : Hp) (i : Nat) (v : ViewV) (us' : List ViewV) : OblE := ((aStore Try.prog h.get 45 (pb 0 (i * 7)) (.agg ⟨vc v⟩)).map fun es => (undef, es), (undef, [.put 0 (rowB us')]))
theorem stO_ok {h : Hp} {us : List ViewV} {i : Nat} {v : ViewV} (hg : h.get 0 = some (rowB us)) (hi : i < us.length) : (stO h i v (us.set i v)).1 = some (stO h i v (us.set i v)).2 := by
  obtain ⟨x, hx⟩ : ∃ x, us[i]? = some x := ⟨_, List.getElem?_eq_getElem hi⟩
  have hcell : cellsL (.agg ⟨vc v⟩) = vc v := rfl
  have hput := put_row (k := 0) (y := v) (ns := vc v) hx (by simp [vc]) (fun j hj => by
    rw [if_pos ⟨Nat.zero_le _, by show j < 0 + 7; omega⟩, Nat.sub_zero])
  rw [Nat.add_zero] at hput
  unfold rowB at hg
  unfold stO pb
  simp only [aStore, hg, size34, hcell]
  rw [if_pos]
  · rw [hput]; rfl
  · rw [Bool.and_eq_true, Bool.and_eq_true]
    refine ⟨⟨rfl, rfl⟩, decide_eq_true ?_⟩
    rw [vrow_len]; omega
theorem put_get {h : Hp} {us : List ViewV} : (h.put 0 (rowB us)).get 0 = some (rowB us) := by rw [Hp.get_put, if_pos rfl]
noncomputable def adO (a b : Nat) : Obl := (some (.int .i64 (wrapF .i64 (Int.ofNat a + Int.ofNat b))), iN (a + b))
theorem adO_ok {a b : Nat} (h : a + b < 3000000) : (adO a b).1 = some (adO a b).2 := add_ok h
noncomputable def suO (a b : Nat) : Obl := (some (.int .i64 (wrapF .i64 (Int.ofNat a - Int.ofNat b))), iN (a - b))
theorem suO_ok {a b : Nat} (h : a < 3000000) (hb : b ≤ a) : (suO a b).1 = some (suO a b).2 := by
  have e : Int.ofNat a - Int.ofNat b = Int.ofNat (a - b) := by simp only [Int.ofNat_eq_natCast]; omega
  show some (Value.int .i64 (wrapF .i64 (Int.ofNat a - Int.ofNat b))) = _
  rw [e, i64_ok (by omega)]; rfl
noncomputable def ltO (a b : Nat) (r : Bool) : Obl := (some (.bool (decide (Int.ofNat a < Int.ofNat b))), .bool r)
theorem ltO_ok {a b : Nat} {r : Bool} (h : decide (a < b) = r) : (ltO a b r).1 = some (ltO a b r).2 := by
  show some (Value.bool (decide (Int.ofNat a < Int.ofNat b))) = some (.bool r)
  rw [← h, show decide (Int.ofNat a < Int.ofNat b) = decide (a < b) from decide_eq_decide.2 (by simp only [Int.ofNat_eq_natCast]; omega)]
theorem at_ok {h : Hp} {us : List ViewV} {i : Nat} {x : ViewV} (hat : RowAt h 0 us) (hx : us[i]? = some x) : (ldO h.get 45 0 (i * 7) (.agg ⟨vc x⟩)).1 = some (ldO h.get 45 0 (i * 7) (.agg ⟨vc x⟩)).2 := vload_ok hat hx
theorem ix_ok {i n c : Nat} (h : i < n) : (ixO 0 n c i).1 = some (ixO 0 n c i).2 := vidx_ok h
theorem set_mid {α : Type} {P Q : List α} {x y : α} {i : Nat} (h : P.length = i) : (P ++ x :: Q).set i y = P ++ y :: Q := by
  subst h
  rw [List.set_append_right _ _ (Nat.le_refl _), Nat.sub_self]; rfl
theorem get_mid {α : Type} {P Q : List α} {x : α} {i : Nat} (h : P.length = i) : (P ++ x :: Q)[i]? = some x := by
  subst h
  rw [List.getElem?_append_right (Nat.le_refl _), Nat.sub_self]; rfl

/-! ### swapRange -/
section
variable (us us1 us2 : List ViewV) (n c a m k i : Nat) (x y : ViewV) (f : Value) (g : Nat → Value)
end
def EndsW (N : Nat) (us : List ViewV) (e : Exit) (st : St) : Prop := e = .normal ∧ ∃ g, st = stOf N g [] [rowB us]
/-- Two parts of a row change places. -/
def swapR (us : List ViewV) (a m k : Nat) : List ViewV := us.take a ++ (us.drop m).take k ++ (us.drop (a + k)).take (m - (a + k)) ++ (us.drop a).take k ++ us.drop (m + k)
theorem cut5 {us : List ViewV} {a m k : Nat} (h1 : a + k ≤ m) (h2 : m + k ≤ us.length) : us = us.take a ++ (us.drop a).take k ++ (us.drop (a + k)).take (m - (a + k)) ++ (us.drop m).take k ++ us.drop (m + k) := by
  have e1 : us.drop m = (us.drop m).take k ++ us.drop (m + k) := by
    have := (List.take_append_drop k (us.drop m)).symm
    rwa [List.drop_drop] at this
  have e2 : us.drop (a + k) = (us.drop (a + k)).take (m - (a + k)) ++ us.drop m := by
    have := (List.take_append_drop (m - (a + k)) (us.drop (a + k))).symm
    rwa [List.drop_drop, show a + k + (m - (a + k)) = m by omega] at this
  have e3 : us.drop a = (us.drop a).take k ++ us.drop (a + k) := by
    have := (List.take_append_drop k (us.drop a)).symm
    rwa [List.drop_drop] at this
  have e4 := (List.take_append_drop a us).symm
  rw [List.append_assoc, ← e1, List.append_assoc, ← e2, List.append_assoc, ← e3, ← e4]
theorem swapR_of {A X B Y C : List ViewV} {a m k : Nat} (hX : X.length = k) (hY : Y.length = k) (hA : A.length = a) (hm : m = a + k + B.length) : swapR (A ++ X ++ B ++ Y ++ C) a m k = A ++ Y ++ B ++ X ++ C := by
  subst hA hX
  subst hm
  unfold swapR
  have t1 : (A ++ X ++ B ++ Y ++ C).take A.length = A := by rw [List.append_assoc, List.append_assoc, List.append_assoc, List.take_left]
  have d1 : (A ++ X ++ B ++ Y ++ C).drop A.length = X ++ (B ++ Y ++ C) := by rw [List.append_assoc, List.append_assoc, List.append_assoc, List.drop_left]; simp
  have d2 : (A ++ X ++ B ++ Y ++ C).drop (A.length + X.length) = B ++ (Y ++ C) := by rw [← List.drop_drop, d1, List.drop_left]; simp
  have d3 : (A ++ X ++ B ++ Y ++ C).drop (A.length + X.length + B.length) = Y ++ C := by rw [← List.drop_drop, d2, List.drop_left]
  have d4 : (A ++ X ++ B ++ Y ++ C).drop (A.length + X.length + B.length + X.length) = C := by rw [← List.drop_drop, d3, ← hY, List.drop_left]
  rw [t1, d1, d2, d3, d4, ← hY, List.take_left, show A.length + Y.length + B.length - (A.length + Y.length) = B.length by omega, List.take_left, hY, List.take_left]
/-- A row and numbers, at a frame's beginning. -/
theorem rowargs {us : List ViewV} {b n c : Nat} {hp : Hp} (hk : hp.ok) (hb : hp.get b = some (rowB us)) {m : BM} {h : HG} {v : Value} (r : VRel m (ovr hp h) (rowS b n c) v) : ∃ x, m b = some x ∧ VRel (canM m [b]) (heapOf [rowB us, .dead] hp0).get (rowS 0 n c) v := by
  obtain ⟨_, _, rr, oo, cap, q1, rfl, hcap, hh⟩ := r.of_slice0
  cases q1
  have gb := ovr_sub hk h b _ hb
  rcases hh with hd | ⟨δ, E, hm, hoff, hcok⟩
  · rw [gb] at hd; cases hd
  · exact ⟨_, hm, .slice hcap (.inr ⟨δ, E, hm, hoff, hcok⟩)⟩
theorem int_rel {m m' : BM} {h h' : HG} {k : IntKind} {z : Int} {v : Value} (r : VRel m h (.int k z) v) : VRel m' h' (.int k z) v := by
  rw [r.of_int]; exact .flat rfl
theorem vU_rel {m m' : BM} {h h' : HG} {v : Value} (r : VRel m h vU v) : VRel m' h' vU v := by
  obtain ⟨a', rfl, h1, h2⟩ := r.of_tuple
  exact .tuple h1 fun i v v' q _ => by simp at q
end Go.Proofs.Ytgeoommlmddgpaa.LtA
namespace Go.Proofs.Ytgeoommlmddgpaa.LtA
open Go Go.Proofs Go.Proofs.Ytgeoommlmddgpaa.AI Go.RowKit

noncomputable def neO (a b : Nat) (r : Bool) : Obl := (some (.bool (Int.ofNat a != Int.ofNat b)), .bool r)
theorem neO_ok {a b : Nat} {r : Bool} (h : (a != b) = r) : (neO a b r).1 = some (neO a b r).2 := by
  show some (Value.bool (Int.ofNat a != Int.ofNat b)) = some (.bool r)
  rw [← h]
  congr 2
  cases e : (a != b) with
  | true =>
    have : a ≠ b := by simpa using e
    exact bne_iff_ne.2 (fun e => this (Int.ofNat.inj e))
  | false => have : a = b := by simpa using e
             subst this; simp
noncomputable def gtO (a b : Nat) (r : Bool) : Obl := (some (.bool (decide (Int.ofNat a > Int.ofNat b))), .bool r)
theorem gtO_ok {a b : Nat} {r : Bool} (h : decide (b < a) = r) : (gtO a b r).1 = some (gtO a b r).2 := by
  show some (Value.bool (decide (Int.ofNat a > Int.ofNat b))) = some (.bool r)
  rw [← h, show decide (Int.ofNat a > Int.ofNat b) = decide (b < a) from decide_eq_decide.2 (by simp only [Int.ofNat_eq_natCast]; omega)]
section
variable (us us' : List ViewV) (n c a m b i j : Nat) (g : Nat → Value)
end
/-- Two parts that follow one another change places. -/
def rotR (us : List ViewV) (a m b : Nat) : List ViewV := us.take a ++ (us.drop m).take (b - m) ++ (us.drop a).take (m - a) ++ us.drop b
theorem cut4 {us : List ViewV} {a m b : Nat} (h1 : a ≤ m) (h2 : m ≤ b) : us = us.take a ++ (us.drop a).take (m - a) ++ (us.drop m).take (b - m) ++ us.drop b := by
  have e1 : us.drop m = (us.drop m).take (b - m) ++ us.drop b := by
    have := (List.take_append_drop (b - m) (us.drop m)).symm
    rwa [List.drop_drop, show m + (b - m) = b by omega] at this
  have e2 : us.drop a = (us.drop a).take (m - a) ++ us.drop m := by
    have := (List.take_append_drop (m - a) (us.drop a)).symm
    rwa [List.drop_drop, show a + (m - a) = m by omega] at this
  have e4 := (List.take_append_drop a us).symm
  rw [List.append_assoc, ← e1, List.append_assoc, ← e2, ← e4]
theorem cut4_of {A X Y C : List ViewV} {a m b : Nat} (hA : A.length = a) (hm : m = a + X.length) (hb : b = m + Y.length) : (A ++ X ++ Y ++ C).take a = A ∧ ((A ++ X ++ Y ++ C).drop a).take (m - a) = X ∧ ((A ++ X ++ Y ++ C).drop m).take (b - m) = Y ∧ (A ++ X ++ Y ++ C).drop b = C := by
  subst hA
  subst hm
  subst hb
  have d1 : (A ++ X ++ Y ++ C).drop A.length = X ++ (Y ++ C) := by rw [List.append_assoc, List.append_assoc, List.drop_left]
  have d2 : (A ++ X ++ Y ++ C).drop (A.length + X.length) = Y ++ C := by rw [← List.drop_drop, d1, List.drop_left]
  refine ⟨by rw [List.append_assoc, List.append_assoc, List.take_left], ?_, ?_, ?_⟩
  · rw [d1, show A.length + X.length - A.length = X.length by omega, List.take_left]
  · rw [d2, show A.length + X.length + Y.length - (A.length + X.length) = Y.length by omega, List.take_left]
  · rw [← List.drop_drop, d2, List.drop_left]
end Go.Proofs.Ytgeoommlmddgpaa.LtA
namespace Go.Proofs.Ytgeoommlmddgpaa.LtA
open Go Go.Proofs Go.Proofs.Ytgeoommlmddgpaa.AI Go.RowKit Go.Proofs.Ytgeoommlmddgpaa.Sort

/-- thalweg/views.rising$1 -/
def tCmpV (aId : Int) (aHeightNull : Bool) (aHeightTau : Int) (aHeightOid : Int) (aHeightR : Int) (aHeightDelta : Int) (aHeightId : Int) (bId : Int) (bHeightNull : Bool) (bHeightTau : Int) (bHeightOid : Int) (bHeightR : Int) (bHeightDelta : Int) (bHeightId : Int) : Value := (bif (less (aHeightNull) (aHeightTau) (aHeightOid) (aHeightR) (aHeightDelta) (aHeightId) (bHeightNull) (bHeightTau) (bHeightOid) (bHeightR) (bHeightDelta) (bHeightId)) then (.int .i64 (-1)) else (bif (less (bHeightNull) (bHeightTau) (bHeightOid) (bHeightR) (bHeightDelta) (bHeightId) (aHeightNull) (aHeightTau) (aHeightOid) (aHeightR) (aHeightDelta) (aHeightId)) then (.int .i64 1) else (.int .i64 0)))
/-- Is a view's height less than another one's? -/
def ltV (u v : ViewV) : Bool := less u.n u.t u.o u.r u.d u.i v.n v.t v.o v.r v.d v.i
def cmpV (u v : ViewV) : Int := bif ltV u v then -1 else bif ltV v u then 1 else 0
theorem cmpV_lt (u v : ViewV) : decide (cmpV u v < 0) = ltV u v := by
  unfold cmpV
  cases ltV u v with
  | true => rfl
  | false => cases ltV v u <;> rfl
theorem tCmpV_eq (u v : ViewV) : tCmpV u.id u.n u.t u.o u.r u.d u.i v.id v.n v.t v.o v.r v.d v.i = .int .i64 (cmpV u v) := by
  unfold tCmpV cmpV ltV
  cases less u.n u.t u.o u.r u.d u.i v.n v.t v.o v.r v.d v.i with
  | true => rfl
  | false => cases less v.n v.t v.o v.r v.d v.i u.n u.t u.o u.r u.d u.i <;> rfl
/-! ### insertionSort -/
noncomputable def dnO (j : Nat) : Obl := (some (.int .i64 (wrapF .i64 (Int.ofNat (j + 1) - 1))), iN j)
theorem dnO_ok {j : Nat} (h : j < 1000000) : (dnO j).1 = some (dnO j).2 := wrap_down h
/-- Two views compared. -/
noncomputable def cpO (u v : ViewV) (r : Bool) : Obl := (some (.bool (decide (cmpV u v < 0))), .bool r)
theorem cpO_ok {u v : ViewV} {r : Bool} (h : ltV u v = r) : (cpO u v r).1 = some (cpO u v r).2 := by
  show some (Value.bool (decide (cmpV u v < 0))) = some (.bool r)
  rw [cmpV_lt, h]
section
variable (us us1 us2 : List ViewV) (n c a b i j : Nat) (x y : ViewV) (g : Nat → Value)
end
theorem cut3 {us : List ViewV} {a b : Nat} (h1 : a ≤ b) : us = us.take a ++ (us.drop a).take (b - a) ++ us.drop b := by
  have e2 : us.drop a = (us.drop a).take (b - a) ++ us.drop b := by
    have := (List.take_append_drop (b - a) (us.drop a)).symm
    rwa [List.drop_drop, show a + (b - a) = b by omega] at this
  rw [List.append_assoc, ← e2, List.take_append_drop]
theorem cut3_of {A X C : List ViewV} {a b : Nat} (hA : A.length = a) (hb : b = a + X.length) : (A ++ X ++ C).take a = A ∧ ((A ++ X ++ C).drop a).take (b - a) = X ∧ (A ++ X ++ C).drop b = C := by
  subst hA
  subst hb
  have d1 : (A ++ X ++ C).drop A.length = X ++ C := by rw [List.append_assoc, List.drop_left]
  refine ⟨by rw [List.append_assoc, List.take_left], ?_, ?_⟩
  · rw [d1, show A.length + X.length - A.length = X.length by omega, List.take_left]
  · rw [← List.drop_drop, d1, List.drop_left]
end Go.Proofs.Ytgeoommlmddgpaa.LtA
namespace Go.Proofs.Ytgeoommlmddgpaa.LtA
open Go Go.Proofs Go.Proofs.Ytgeoommlmddgpaa.AI Go.RowKit Go.Proofs.Ytgeoommlmddgpaa.Sort

def cT : Code → Code
  | .cond _ a _ => a
  | c => c
/-- The middle of two numbers. -/
noncomputable def hvO (i j h : Nat) (l : List Obl) : List Obl := adO i j :: (some (.int .u64 (wrapF .u64 (Int.ofNat (i + j)))), uN (i + j)) :: (some (.int .u64 (Int.fdiv (Int.ofNat (i + j)) (2 ^ (min (Int.toNat 1) 64)))), uN h) :: (some (.int .i64 (wrapF .i64 (Int.ofNat h))), iN h) :: l
theorem hvO_ok {i j : Nat} {l : List Obl} (h : i + j < 3000000) (hl : Met l) : Met (hvO i j ((i + j) / 2) l) := Met.cons (add_ok h) (Met.cons (u64_ok h) (Met.cons half_ok (Met.cons (i64_ok (by omega)) hl)))
noncomputable def eqO (a b : Nat) (r : Bool) : Obl := (some (.bool (Int.ofNat a == Int.ofNat b)), .bool r)
theorem eqO_ok {a b : Nat} {r : Bool} (h : (a == b) = r) : (eqO a b r).1 = some (eqO a b r).2 := by
  show some (Value.bool (Int.ofNat a == Int.ofNat b)) = some (.bool r)
  rw [← h]
  congr 2
  cases e : (a == b) with
  | true => have : a = b := by simpa using e
            subst this; simp
  | false =>
    have : a ≠ b := by simpa using e
    exact beq_false_of_ne (fun e => this (Int.ofNat.inj e))
section
variable (call : CallF) (us us1 us2 us' : List ViewV) (n c a m b i j h k s r p e mid q : Nat) (x y u w : ViewV) (d : Bool) (g : Nat → Value)
/-! One at the left. -/
noncomputable def d1o (b : Bool) (l : List Obl) : List Obl := ltO i j true :: hvO i j h (ixO 0 n c h :: ldO (hW us).get 45 0 (h * 7) (.agg ⟨vc u⟩) :: ixO 0 n c a :: ldO (hW us).get 45 0 (a * 7) (.agg ⟨vc x⟩) :: cpO u x b :: l)
def d1c (b : Bool) : List (Tmp × Value) := [(33, .bool true), (36, iN (i + j)), (37, uN (i + j)), (38, uN h), (39, iN h), (43, pb 0 (h * 7)), (44, .agg ⟨vc u⟩), (47, pb 0 (a * 7)), (48, .agg ⟨vc x⟩), (50, .bool b)]
end
section
variable (us us1 us2 us' : List ViewV) (n c a m b i j h k s r p e mid q : Nat) (x y u w : ViewV) (d : Bool) (g : Nat → Value)
/-! One at the right. -/
noncomputable def j1o (b : Bool) (l : List Obl) : List Obl := ltO i j true :: hvO i j h (ixO 0 n c m :: ldO (hW us).get 45 0 (m * 7) (.agg ⟨vc y⟩) :: ixO 0 n c h :: ldO (hW us).get 45 0 (h * 7) (.agg ⟨vc u⟩) :: cpO y u b :: l)
def j1c (b : Bool) : List (Tmp × Value) := [(85, .bool true), (88, iN (i + j)), (89, uN (i + j)), (90, uN h), (91, iN h), (95, pb 0 (m * 7)), (96, .agg ⟨vc y⟩), (99, pb 0 (h * 7)), (100, .agg ⟨vc u⟩), (102, .bool b)]
/-! The middle. -/
noncomputable def r1o (b : Bool) (l : List Obl) : List Obl := ltO s r true :: hvO s r h (suO p h :: ixO 0 n c (p - h) :: ldO (hW us).get 45 0 ((p - h) * 7) (.agg ⟨vc u⟩) :: ixO 0 n c h :: ldO (hW us).get 45 0 (h * 7) (.agg ⟨vc w⟩) :: cpO u w b :: l)
def r1c (b : Bool) : List (Tmp × Value) := [(151, .bool true), (154, iN (s + r)), (155, uN (s + r)), (156, uN h), (157, iN h), (162, iN (p - h)), (163, pb 0 ((p - h) * 7)), (164, .agg ⟨vc u⟩), (167, pb 0 (h * 7)), (168, .agg ⟨vc w⟩), (170, .bool b)]
end
section
variable (call : CallF) (us us' : List ViewV) (n c a m b s e mid : Nat) (g : Nat → Value)
end
end Go.Proofs.Ytgeoommlmddgpaa.LtA
namespace Go.Proofs.Ytgeoommlmddgpaa.LtA
open Go Go.Proofs Go.Proofs.Ytgeoommlmddgpaa.AI Go.RowKit Go.Proofs.Ytgeoommlmddgpaa.Sort

/-! ### The order -/
/-- Is a view told of? -/
def Kn (x : ViewV) : Prop := known x.n x.t x.o x.r x.d x.i = true
theorem cmp3_neg {a b : Int} : cmp3 a b < 0 ↔ a < b := by
  have := cmp3_lt a b
  constructor
  · intro h; rw [decide_eq_true h] at this; exact of_decide_eq_true this.symm
  · intro h; rw [decide_eq_true h] at this; exact of_decide_eq_true this
theorem cmp3_eq0 {a b : Int} : cmp3 a b = 0 ↔ a = b := by
  have := cmp3_zero a b
  constructor
  · intro h
    rw [h] at this
    have h2 : (a == b) = true := by rw [← this]; rfl
    exact eq_of_beq h2
  · rintro rfl
    have h2 : (cmp3 a a == 0) = true := by rw [this]; simp
    exact eq_of_beq h2
def Lex (u v : ViewV) : Prop := u.t < v.t ∨ (u.t = v.t ∧ (u.o < v.o ∨ (u.o = v.o ∧ (u.r < v.r ∨ (u.r = v.r ∧ (u.d < v.d ∨ (u.d = v.d ∧ u.i < v.i)))))))
theorem or3_neg (a b c : Int) : or3 a b c < 0 ↔ a < 0 ∨ (a = 0 ∧ (b < 0 ∨ (b = 0 ∧ c < 0))) := by
  unfold or3
  rcases Decidable.em (a = 0) with h | h
  · subst h
    rcases Decidable.em (b = 0) with h2 | h2
    · subst h2; simp
    · have : (b == 0) = false := by simpa using h2
      simp [this, h2]
  · have : (a == 0) = false := by simpa using h
    simp [this, h]
theorem or3_eq0 (a b c : Int) : or3 a b c = 0 ↔ a = 0 ∧ b = 0 ∧ c = 0 := by
  unfold or3
  rcases Decidable.em (a = 0) with h | h
  · subst h
    rcases Decidable.em (b = 0) with h2 | h2
    · subst h2; simp
    · have : (b == 0) = false := by simpa using h2
      simp [this, h2]
  · have : (a == 0) = false := by simpa using h
    simp [this, h]
theorem ltV_lex {u v : ViewV} (hu : Kn u) (hv : Kn v) : ltV u v = true ↔ Lex u v := by
  unfold ltV less Kn at *
  rw [hu, hv, Bool.true_and, Bool.true_and, decide_eq_true_iff, or3_neg]
  unfold ord3 lev0 lev1 lev2
  rw [hu, hv]
  simp only [cond_true]
  rw [or3_neg, or3_eq0]
  simp only [cmp3_neg, cmp3_eq0]
  unfold Lex
  constructor
  · rintro ((h | ⟨h1, h | ⟨h2, h⟩⟩) | ⟨⟨h1, h2, h3⟩, h | ⟨h4, h5⟩⟩)
    · exact .inl h
    · exact .inr ⟨h1, .inl h⟩
    · exact .inr ⟨h1, .inr ⟨h2, .inl h⟩⟩
    · exact .inr ⟨h1, .inr ⟨h2, .inr ⟨h3, .inl h⟩⟩⟩
    · exact .inr ⟨h1, .inr ⟨h2, .inr ⟨h3, .inr ⟨h4, h5⟩⟩⟩⟩
  · rintro (h | ⟨h1, h | ⟨h2, h | ⟨h3, h | ⟨h4, h5⟩⟩⟩⟩)
    · exact .inl (.inl h)
    · exact .inl (.inr ⟨h1, .inl h⟩)
    · exact .inl (.inr ⟨h1, .inr ⟨h2, h⟩⟩)
    · exact .inr ⟨⟨h1, h2, h3⟩, .inl h⟩
    · exact .inr ⟨⟨h1, h2, h3⟩, .inr ⟨h4, h5⟩⟩
theorem sw : Swo ltV Kn where
  asym u v hu hv h := by
    cases e : ltV v u with
    | false => rfl
    | true =>
      have h1 := (ltV_lex hu hv).1 h
      have h2 := (ltV_lex hv hu).1 e
      unfold Lex at h1 h2
      omega
  ntr u v z hu hv hz h1 h2 := by
    cases e : ltV u z with
    | false => rfl
    | true =>
      have h3 := (ltV_lex hu hz).1 e
      have n1 : ¬ Lex u v := fun h => by rw [(ltV_lex hu hv).2 h] at h1; cases h1
      have n2 : ¬ Lex v z := fun h => by rw [(ltV_lex hv hz).2 h] at h2; cases h2
      unfold Lex at h3 n1 n2
      omega
theorem srt_get {S : List ViewV} (hS : Srt ltV S) (hK : ∀ z ∈ S, Kn z) {i j : Nat} {u v : ViewV} (hij : i ≤ j) (hu : S[i]? = some u) (hv : S[j]? = some v) : ltV v u = false := by
  rcases Nat.lt_or_eq_of_le hij with h | h
  · obtain ⟨hi, rfl⟩ := List.getElem?_eq_some_iff.1 hu
    obtain ⟨hj, rfl⟩ := List.getElem?_eq_some_iff.1 hv
    exact List.pairwise_iff_getElem.1 hS i j hi hj h
  · subst h
    rw [hu] at hv; cases hv
    exact sw.irr (hK u (List.mem_of_getElem? hu))
section
variable {A X Y C us : List ViewV} {a m b : Nat}
theorem at_X (hus : us = A ++ X ++ Y ++ C) (hA : A.length = a) {i : Nat} (hi : i < X.length) : us[a + i]? = X[i]? := by
  subst hus hA
  rw [List.append_assoc, List.append_assoc, List.getElem?_append_right (by omega), show A.length + i - A.length = i by omega, List.getElem?_append_left hi]
theorem at_Y (hus : us = A ++ X ++ Y ++ C) (hA : A.length = a) (hm : m = a + X.length) {i : Nat} (hi : i < Y.length) : us[m + i]? = Y[i]? := by
  subst hus hA hm
  rw [List.append_assoc, List.getElem?_append_right (by simp), show A.length + X.length + i - (A ++ X).length = i by simp, List.getElem?_append_left hi]
theorem some_at {S : List ViewV} {i : Nat} (h : i < S.length) : ∃ x, S[i]? = some x := ⟨_, List.getElem?_eq_getElem h⟩
end
def Ends4 (us : List ViewV) (e : Exit) (st : St) : Prop := (e = .normal ∨ e = .ret) ∧ ∃ g, st = stOf 220 g [] [rowB us]
def EndsR4 (us : List ViewV) (e : Exit) (st : St) : Prop := e = .ret ∧ ∃ g, st = stOf 220 g [] [rowB us]
/-! ### One at the left -/
theorem mrg_one_left {x : ViewV} {Y1 Y2 : List ViewV} (h1 : ∀ u ∈ Y1, ltV u x = true) (h2 : ∀ u ∈ Y2, ltV u x = false) (hY : Srt ltV (Y1 ++ Y2)) : mrg ltV [x] (Y1 ++ Y2) = Y1 ++ x :: Y2 := by
  obtain ⟨a, b, c⟩ := List.pairwise_append.1 hY
  have := mrg_split (lt := ltV) (L1 := []) (L2 := [x]) (R1 := Y1) (R2 := Y2) (fun y hy z hz => by rw [List.mem_singleton.1 hz]; exact h1 y hy) (fun y hy z hz => by cases hz) (fun y hy z hz => c z hz y hy)
  rw [List.nil_append] at this
  rw [this, mrg_nil_left a]
  have e := mrg_right (lt := ltV) (M := [x]) (R := Y2) (N := []) (fun y hy z hz => by rw [List.mem_singleton.1 hz]; exact h2 y hy)
  rw [List.append_nil] at e
  rw [e, mrg_nil_left b]
  rfl
/-! ### One at the right -/
end Go.Proofs.Ytgeoommlmddgpaa.LtA
namespace Go.Proofs.Ytgeoommlmddgpaa.LtA
open Go Go.Proofs Go.Proofs.Ytgeoommlmddgpaa.AI Go.RowKit Go.Proofs.Ytgeoommlmddgpaa.Sort

/-! ### Told -/
end Go.Proofs.Ytgeoommlmddgpaa.LtA
namespace Go.Proofs.Ytgeoommlmddgpaa.LtA
open Go Go.Proofs Go.Proofs.Ytgeoommlmddgpaa.AI Go.RowKit Go.Proofs.Ytgeoommlmddgpaa.Sort

/-! ### Parts of one length, each sorted -/
def bs : Nat → Nat → List ViewV → List ViewV
  | _, 0, us => us
  | s, k + 1, us => match us with
    | [] => []
    | _ :: _ => ssort ltV (us.take s) ++ bs s k (us.drop s)
theorem bs_nil (s k : Nat) : bs s k [] = [] := by cases k <;> rfl
theorem bs_step {s k : Nat} {us : List ViewV} : bs s (k + 1) us = ssort ltV (us.take s) ++ bs s k (us.drop s) := by
  cases us with
  | nil => simp [bs, bs_nil]; rfl
  | cons u us => rfl
theorem bs_fuel {s : Nat} (hs : 0 < s) : ∀ {k k' : Nat} {us : List ViewV}, us.length ≤ k → us.length ≤ k' → bs s k us = bs s k' us
  | k, k', [], _, _ => by rw [bs_nil, bs_nil]
  | 0, _, u :: us, h, _ => by simp at h
  | _, 0, u :: us, _, h => by simp at h
  | k + 1, k' + 1, u :: us, h1, h2 => by
    rw [bs_step, bs_step]
    rw [bs_fuel hs (k := k) (k' := k') (by simp at h1 ⊢; omega) (by simp at h2 ⊢; omega)]
/-- Parts of s views, each sorted. -/
def bsS (s : Nat) (us : List ViewV) : List ViewV := bs s us.length us
theorem bsS_cut {s : Nat} {R1 R2 : List ViewV} (hs : 0 < s) (h : R1.length = s) : bsS s (R1 ++ R2) = ssort ltV R1 ++ bsS s R2 := by
  unfold bsS
  obtain ⟨k, hk⟩ : ∃ k, (R1 ++ R2).length = k + 1 := ⟨(R1 ++ R2).length - 1, by simp; omega⟩
  have e1 : (R1 ++ R2).take s = R1 := by rw [← h, List.take_left]
  have e2 : (R1 ++ R2).drop s = R2 := by rw [← h, List.drop_left]
  rw [hk, bs_step, e1, e2]
  rw [bs_fuel hs (k := k) (k' := R2.length) (by simp at hk; omega) (Nat.le_refl _)]
theorem bsS_short {s : Nat} {R : List ViewV} (hs : 0 < s) (h : R.length ≤ s) : bsS s R = ssort ltV R := by
  unfold bsS
  cases R with
  | nil => rfl
  | cons r R =>
    have : (r :: R).length = R.length + 1 := rfl
    rw [this, bs_step, List.take_of_length_le h, List.drop_of_length_le h, bs_nil, List.append_nil]
theorem bs_len {s : Nat} : ∀ {k : Nat} {us : List ViewV}, (bs s k us).length = us.length
  | 0, us => rfl
  | k + 1, us => by rw [bs_step, List.length_append, len_ssort, bs_len, ← List.length_append, List.take_append_drop]
theorem bsS_len {s : Nat} {us : List ViewV} : (bsS s us).length = us.length := bs_len
theorem ssort_two {R1 R2 : List ViewV} (h1 : ∀ z ∈ R1, Kn z) (h2 : ∀ z ∈ R2, Kn z) : mrg ltV (ssort ltV R1) (ssort ltV R2) = ssort ltV (R1 ++ R2) := mrg_ssorts sw h1 h2

/-! ### stable -/
noncomputable def leO (a b : Nat) (r : Bool) : Obl := (some (.bool (decide (Int.ofNat a ≤ Int.ofNat b))), .bool r)
theorem leO_ok {a b : Nat} {r : Bool} (h : decide (a ≤ b) = r) : (leO a b r).1 = some (leO a b r).2 := by
  show some (Value.bool (decide (Int.ofNat a ≤ Int.ofNat b))) = some (.bool r)
  rw [← h, show decide (Int.ofNat a ≤ Int.ofNat b) = decide (a ≤ b) from decide_eq_decide.2 (by simp only [Int.ofNat_eq_natCast]; omega)]
noncomputable def twO (s : Nat) : Obl := (some (.int .i64 (wrapF .i64 (2 * Int.ofNat s))), iN (2 * s))
theorem twO_ok {s : Nat} (h : s < 1000000) : (twO s).1 = some (twO s).2 := by
  have e : 2 * Int.ofNat s = Int.ofNat (2 * s) := by simp only [Int.ofNat_eq_natCast]; omega
  show some (Value.int .i64 (wrapF .i64 (2 * Int.ofNat s))) = _
  rw [e, i64_ok (by omega)]; rfl
noncomputable def dbO (s : Nat) : Obl := (some (.int .i64 (wrapF .i64 (Int.ofNat s * 2))), iN (2 * s))
theorem dbO_ok {s : Nat} (h : s < 1000000) : (dbO s).1 = some (dbO s).2 := by
  have e : Int.ofNat s * 2 = Int.ofNat (2 * s) := by simp only [Int.ofNat_eq_natCast]; omega
  show some (Value.int .i64 (wrapF .i64 (Int.ofNat s * 2))) = _
  rw [e, i64_ok (by omega)]; rfl
section
variable (us us' : List ViewV) (n c a b s : Nat) (g : Nat → Value)
end
theorem srtS {R : List ViewV} (h : ∀ z ∈ R, Kn z) : Srt ltV (ssort ltV R) := srt_ssort sw h
theorem kS {R : List ViewV} (h : ∀ z ∈ R, Kn z) : ∀ z ∈ ssort ltV R, Kn z := fun z hz => h z (mem_ssort.1 hz)
theorem cutAt {R : List ViewV} {s : Nat} (h : s ≤ R.length) : ∃ R1 R2, R = R1 ++ R2 ∧ R1.length = s := ⟨R.take s, R.drop s, (List.take_append_drop _ _).symm, by simp; omega⟩
/-! ### SortStableFunc -/
end Go.Proofs.Ytgeoommlmddgpaa.LtA
namespace Go.Proofs.Ytgeoommlmddgpaa.LtA
open Go Go.Proofs Go.Proofs.Ytgeoommlmddgpaa.AI Go.RowKit Go.Proofs.Ytgeoommlmddgpaa.Sort

/-! ### Rows of ints -/
def icell (x : Int) : Value := .int .i64 x
def iB (ids : List Int) : Blk := .cells 3 (ids.map icell) false
def newI (b k : Nat) : Value := .slice (some ⟨b, 0, none⟩) k 4
theorem iB_inert (ids : List Int) : inertB (iB ids) = true := by
  show List.all _ inert = true
  rw [List.all_map]
  exact List.all_eq_true.2 fun x _ => rfl
theorem underlying31 : Try.prog.underlying 30 = some (.slice 3) := by kernel_rfl
theorem info3 : ∃ i, Try.prog.info? 3 = some i ∧ i.size = 1 ∧ i.bytes = 8 := by
  have h : (Try.prog.info? 3).map (fun i => (i.size, i.bytes)) = some (1, 8) := by kernel_rfl
  obtain ⟨i, h1, h2⟩ := Option.map_eq_some_iff.1 h
  simp only [Prod.mk.injEq] at h2
  exact ⟨i, h1, h2.1, h2.2⟩
theorem zero3 : ∃ z, tzero Try.prog 3 = some z ∧ z.length = 1 := by
  have h : (tzero Try.prog 3).map (fun z => z.length) = some 1 := by kernel_rfl
  obtain ⟨z, h1, h2⟩ := Option.map_eq_some_iff.1 h
  exact ⟨z, h1, h2⟩
theorem app_int {get : Nat → Option Blk} {sz b b2 k : Nat} {ids : List Int} {x : Int} (hb : get b = some (iB ids)) (hb2 : get b2 = some (.cells 3 [icell x] false)) (hk : k = ids.length) (hl : k < 2000000) :
    aAppend Try.prog get sz [30, 30] [newI b k, newI b2 1] = some (newI sz (k + 1), [.put b .dead, .push (iB (ids ++ [x]))]) := by
  subst hk
  obtain ⟨i, hi, h1, h8⟩ := info3
  obtain ⟨z, hz, hzl⟩ := zero3
  unfold iB at hb
  have hsrc : aSrc Try.prog get 1 z (.slice 3) (newI b2 1) = some ([icell x], 1) := by
    unfold aSrc newI
    simp only [srcLen, srcCells, hb2]
    rw [if_neg (by omega), if_neg (by omega), getR_all (n := 1 * 1) rfl]
    rfl
  have hg : getR (ids.map icell) 0 (ids.length * 1) = some (ids.map icell) := getR_all (by simp)
  unfold aAppend
  simp only [underlying31, hi, hz, h1, h8, hzl]
  rw [if_neg (by decide)]
  simp only [hsrc]
  rw [if_neg (by simp [isOne, icell])]
  simp only [newI]
  rw [if_neg (by omega), if_neg (by omega)]
  simp only [hb, hg]
  rw [if_neg (by omega), if_pos (by decide), if_neg (by simp)]
  unfold iB
  rw [List.map_append]
  rfl
def rowIv (ids : List Int) (b : Nat) : Value := match ids with
  | [] => nilS
  | _ :: _ => newI b ids.length
def rowIO (ids : List Int) : List Blk := match ids with
  | [] => []
  | _ :: _ => [iB ids]

/-! ### Its runs -/
section
variable (o ob : Blk) (f : FuncId) (n c i k : Nat) (ws us : List ViewV) (ids : List Int) (x : ViewV) (b : Bool) (g : Nat → Value)
end
end Go.Proofs.Ytgeoommlmddgpaa.LtA
namespace Go.Proofs.Ytgeoommlmddgpaa.LtA
open Go Go.Proofs Go.Proofs.Ytgeoommlmddgpaa.AI Go.RowKit Go.Proofs.Ytgeoommlmddgpaa.Sort

theorem fixOO {o ob : Blk} (ho : inertB o = true) (hob : inertB ob = true) : ∀ r : List Blk, ∀ i, i < 2 → ∀ o', (o :: ob :: r)[i]? = some o' → Fixed 0 o' := by
  intro r i hi o' h
  match i, hi with
  | 0, _ => simp at h; subst h; exact inert_fixed ho 0
  | 1, _ => simp at h; subst h; exact inert_fixed hob 0
section
variable (o ob : Blk) (f : FuncId) (n c : Nat)
end
end Go.Proofs.Ytgeoommlmddgpaa.LtA
namespace Go.Proofs.Ytgeoommlmddgpaa.LtA
open Go Go.Proofs Go.Proofs.Ytgeoommlmddgpaa.AI Go.RowKit Go.Proofs.Ytgeoommlmddgpaa.Sort

def ownI (ids : List Int) : Blk := match ids with
  | [] => .dead
  | _ :: _ => iB ids
theorem pad_rowI {k : HeapFn} {args : List Value} {hp : Hp} {v : Value} {ids : List Int} (h : k args hp = some (v, heapOf (rowIO ids ++ [.dead]) hp)) : padF k args hp = some (v, heapOf [ownI ids, .dead] hp) := by
  cases ids with
  | nil => exact pad_one h
  | cons => exact pad_two h
/-! ### Below -/
section
variable (o : Blk) (own : ViewV) (vs : List ViewV) (n c k : Nat) (ids : List Int)
end
/-! ### Above -/
section
variable (o : Blk) (own : ViewV) (vs : List ViewV) (n c k : Nat) (ids : List Int)
end
end Go.Proofs.Ytgeoommlmddgpaa.LtA
namespace Go.Proofs.Ytgeoommlmddgpaa.LtA
open Go Go.Proofs Go.Proofs.Ytgeoommlmddgpaa.AI Go.RowKit Go.Proofs.Ytgeoommlmddgpaa.Sort

noncomputable def E21 : Ext := extH Try.prog [(74, g57), (35, g17)]
noncomputable def fb21 : Code := (Try.f36.body).getD .skip
noncomputable def c21a : Code := sL fb21
noncomputable def c21b : Code := sL (sR fb21)
noncomputable def c21c : Code := sL (sR (sR fb21))
noncomputable def c21d : Code := sL (sL (sR (sR (sR fb21))))
noncomputable def c21e : Code := unL (unB (sR (sL (sR (sR (sR fb21))))))
noncomputable def c21f : Code := sR (sR (sR (sR fb21)))
noncomputable abbrev code21 : Code := .seq c21a (.seq c21b (.seq c21c (.seq (.seq c21d (.block 0 (.loop c21e))) c21f)))
theorem body21 : Try.f36.body = some code21 := by kernel_rfl
theorem ntmps21 : Try.f36.ntmps = 33 := by kernel_rfl
theorem q21 (x : ViewV) (b : Bool) (g : Nat → Value) : retVal Try.prog Try.f36 (stOf 33 g [(2, pb 0 0), (3, .bool b)] [vB x]) = some (.tuple #[.agg ⟨vc x⟩, .bool b]) := by kernel_rfl
def toldV (x : ViewV) : Bool := told x.n x.t x.o x.r x.d x.i
section
variable (o : Blk) (n c i : Nat) (x y : ViewV) (b : Bool) (g : Nat → Value)
end
def lowS (p : ViewV × Bool) (x : ViewV) : ViewV × Bool := bif toldV x && (!p.2 || ltV x p.1) then (x, true) else p
/-- The lowest one. -/
def lowV (vs : List ViewV) : ViewV × Bool := vs.foldl lowS (zeroV 0, false)
def lowA (vs : List ViewV) : Value := .tuple #[.agg ⟨vc (lowV vs).1⟩, .bool (lowV vs).2]
open Classical in
noncomputable def g21 (vs : List ViewV) : HeapFn := fun args hp => match args with
  | [s] => if TN vs s hp then some (lowA vs, heapOf ([] ++ [.dead]) hp) else none
  | _ => none
end Go.Proofs.Ytgeoommlmddgpaa.LtA
namespace Go.Proofs.Ytgeoommlmddgpaa.LtA
open Go Go.Proofs Go.Proofs.Ytgeoommlmddgpaa.AI Go.RowKit Go.Proofs.Ytgeoommlmddgpaa.Sort

/-- A row of ints, or nil. -/
def vI (f : Bool) (b k : Nat) : Value := bif f then newI b k else nilS
def kk (f : Bool) (k : Nat) : Nat := bif f then k else 0
section
variable (o A B : Blk) (own x y u w : ViewV) (n c q i ka kb : Nat) (z x1 x2 : Int) (b lb fa fb : Bool) (g : Nat → Value)
def h7 (o : Blk) (own : ViewV) : Hp := heapOf ([o, hB own] ++ [.dead]) hp0
noncomputable def hu (r : Bool) : Obl := (some (.bool (decide (Int.ofNat n > 100))), .bool r)
/-! Behind Lowest. -/
end
/-! A nil row. -/
section
variable (own : ViewV)
end
end Go.Proofs.Ytgeoommlmddgpaa.LtA
namespace Go.Proofs.Ytgeoommlmddgpaa.LtA
open Go Go.Proofs Go.Proofs.Ytgeoommlmddgpaa.AI Go.RowKit Go.Proofs.Ytgeoommlmddgpaa.Sort

/-! ### No two with one id -/
/-! ### What the ids are -/
/-! ### The lowest one -/
end Go.Proofs.Ytgeoommlmddgpaa.LtA
namespace Go.Proofs.Ytgeoommlmddgpaa.LtA
open Go Go.Proofs Go.Proofs.Ytgeoommlmddgpaa.AI Go.RowKit Go.Proofs.Ytgeoommlmddgpaa.Sort

section
variable {hp : Hp}
end
theorem ownI_inert (ids : List Int) : inertB (ownI ids) = true := by
  cases ids with
  | nil => rfl
  | cons => exact iB_inert _
theorem bool_ok {a b : Bool} (h : a = b) : (some (Value.bool a)) = some (.bool b) := by rw [h]
section
variable {o A B : Blk} {own y : ViewV} {c q : Nat} {lb fa fb : Bool} {vs : List ViewV} {ia ib : List Int}
end
end Go.Proofs.Ytgeoommlmddgpaa.LtA
