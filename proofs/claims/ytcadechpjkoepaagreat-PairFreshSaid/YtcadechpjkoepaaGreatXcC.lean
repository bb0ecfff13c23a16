/- Part 3. -/
import Derived.Test.YtcadechpjkoepaaGreatXcB
import Derived.Shelf.SlIterI.Collect
set_option linter.unusedVariables false
set_option linter.unusedSimpArgs false
set_option maxRecDepth 100000
namespace Go.Proofs.YtcadechpjkoepaaGreat.AI
open Go Go.Proofs Go.RowKit Go.Shelf
def gKeys (f10 : FuncId) (t23 : TypeId) : HeapFn
  | [.map (some mb)], hp => some (.func (.func f10) #[] #[.pointer (some ⟨hp.sz, 0, none⟩)], hp.push (.cells t23 [.map (some mb)] true))
  | _, _ => none
def gCollect (f10 : FuncId) (t26 : TypeId) : HeapFn
  | [.func (.func f) a c], hp => match Nat.beq f f10, a.toList, c.toList with
    | true, [], [.pointer (some ⟨b, 0, none⟩)] => match hp.get b with
      | some (.cells _ [.map (some mb)] true) => match hp.get mb with
        | some (.map [] _ _) => some (.slice none 0 0, hp)
        | some (.map [(.int .i64 k, _, born)] cl _) => match Nat.blt born cl && (Lit.int .i64 k).wf with
          | true => some (.slice (some ⟨hp.sz, 0, none⟩) 1 5, hp.push (.cells t26 [.int .i64 k] false))
          | false => none
        | _ => none
      | _ => none
    | _, _, _ => none
  | _, _ => none
variable {P : Program} {ρ : Ren}
theorem noDr {w w' : World} : Dr → w.drawn ≤ w'.drawn := fun d => (show False from d).elim
theorem ovr_get {hp : Hp} (k : hp.ok) {h : HG} {b : Nat} {o : Blk} (e : hp.get b = some o) : ovr hp h b = some o := ovr_sub k h b o e
theorem hkKeys (L : SlLaysZI.n7 P ρ) : CallGoal P (ρ.f 7) (gKeys (ρ.f 10) (ρ.t 23)) := by
  intro args hp v hp' he hk
  unfold gKeys at he
  split at he
  case h_2 => cases he
  rename_i mb
  cases he
  refine ⟨hk.push _, by rw [Hp.sz_push]; omega, fun m h w args' hfr s ra => .inr ⟨L.f7.enters rfl _ _, ?_⟩⟩
  obtain ⟨v', bs, e1, r1, r2⟩ := ra.of_cons
  have e2 := r2.of_nil
  subst e2
  have hs : ovr hp h hp.sz = none := by
    unfold ovr; rw [if_neg (by omega)]
    exact hfr _ (Nat.le_refl _) (by rw [Hp.sz_push]; omega)
  cases r1 with
  | flat hf => cases hf
  | @map _ rm h1 =>
    have ea : args' = #[.map (some rm)] := by cases args'; simp_all
    subst ea
    refine (callsIn_wide.1 (AnyZI.keys_in L Fence.wide 5 trivial rfl (some rm) w)).mono fun e w' hh => ?_
    obtain ⟨rfl, rfl⟩ := hh
    refine ⟨_, rfl, updM m hp.sz (w.heap.size, 0, 1), ?_, ?_⟩
    · rw [← ovr_push]
      refine go_new s (Bel.of ((Below.refl _ w).alloc (Nat.le_refl _) _) (fun _ => Nat.le_refl _)) hs (Nat.le_refl _) fun m' h' l => ?_
      refine ⟨#[.map (some rm)], (0, 0), by show (w.heap.push _)[_]? = _; simp, by simp, by simp, fun i v v' q1 q2 => ?_, (fun hr => by cases hr), fun _ _ => rfl⟩
      have hi : i = 0 := by
        have := (List.getElem?_eq_some_iff.1 q1).1
        simp at this; exact this
      subst hi
      simp at q1 q2
      subst q1; subst q2
      exact (VRel.map h1).mono l
    · refine .func rfl (fun i v v' q1 _ => by simp at q1) rfl fun i v v' q1 q2 => ?_
      have hi : i = 0 := by
        have := (Array.getElem?_eq_some_iff.1 q1).1
        simp at this; exact this
      subst hi
      simp at q1 q2
      subst q1; subst q2
      exact .ptr (.inr ⟨0, 1, by simp [updM], rfl⟩)
theorem keyOf_int (hk : P.underlying (ρ.t 26) = some (.int .i64)) {k : Int} (hw : (Lit.int .i64 k).wf = true) : keyOf P (ρ.t 26) (.int .i64 k) = some (.int .i64 k) := by
  unfold keyOf
  rw [hk]
  simp [mapKey, hk, hw]
theorem hkCollect (L8 : SlLaysZI.n8 P ρ) (L10 : SlLaysZI.n10 P ρ) : CallGoal P (ρ.f 8) (gCollect (ρ.f 10) (ρ.t 26)) := by
  intro args hp v hp' he hk
  unfold gCollect at he
  split at he
  case h_2 => cases he
  rename_i f a c
  split at he
  case h_2 => cases he
  rename_i b hf0 ha0 hc0
  have hf := Nat.eq_of_beq_eq_true hf0
  subst hf
  split at he
  case h_2 => cases he
  rename_i ty mb hb
  -- what is known of the arguments
  have key : ∀ {m : BM} {h : HG} {w : World} {args' : Array Value} {es : List (Value × Value × Nat)} {cl : Nat} {ro : Bool}, Sim m (ovr hp h) w → VRelL m (ovr hp h) [.func (.func (ρ.f 10)) a c] args'.toList → hp.get mb = some (.map es cl ro) →
      ∃ r rm fs, args' = #[.func (.func (ρ.f 10)) #[] #[.pointer (some ⟨r, 0, none⟩)]] ∧ r < w.heap.size ∧ w.cell? ⟨r, 0, none⟩ = some (.map (some rm)) ∧ w.heap[rm]? = some (.map fs cl) ∧ ERel m (ovr hp h) es fs := by
    intro m h w args' es cl ro s ra hmb
    obtain ⟨v', bs, e1, r1, r2⟩ := ra.of_cons
    have e2 := r2.of_nil
    subst e2
    obtain ⟨a', c', rfl, ⟨q1, q2⟩, ⟨q3, q4⟩⟩ := r1.of_func
    have ea' : a' = #[] := by
      have : a.size = 0 := by rw [← Array.length_toList, ha0]; rfl
      exact Array.eq_empty_of_size_eq_zero (by omega)
    have hcs : c = #[.pointer (some ⟨b, 0, none⟩)] := by cases c; simp_all
    subst hcs
    obtain ⟨p, rfl⟩ : ∃ p, c' = #[p] := by
      obtain ⟨l⟩ := c'
      match l, q3 with
      | [p], _ => exact ⟨p, rfl⟩
    have hp1 := q4 0 _ p rfl rfl
    have hob := ovr_get hk (h := h) hb
    cases hp1 with
    | flat hf => cases hf
    | @ptr _ _ r off' h1 =>
      rcases h1 with h1 | ⟨δ, E, h1, h2⟩
      · rw [hob] at h1; cases h1
      · obtain ⟨cc, fr, g1, g2, g3, g4, g5⟩ := Sim.row (s := s) hob h1
        have hδ : δ = 0 := g5.2 rfl rfl
        subst hδ
        have g3' : E ≤ cc.size := g3
        have hlt : 0 < cc.size := by simp at g2; omega
        have hv := g4 0 (.map (some mb)) cc[0] rfl (by simp [hlt])
        cases hc : cc[0] with
        | map x =>
          rw [hc] at hv
          cases hv with
          | flat hf => cases hf
          | @map _ rm h3 =>
            have hom := ovr_get hk (h := h) hmb
            rcases h3 with h3 | ⟨x, h3⟩
            · rw [hom] at h3; cases h3
            · obtain ⟨o, ho, hr⟩ := s.dom _ _ h3
              rw [hom] at ho; cases ho
              obtain ⟨fs, k1, k2⟩ := hr
              refine ⟨r, rm, fs, ?_, (Array.getElem?_eq_some_iff.1 g1).1, ?_, k1, k2⟩
              · subst ea'; subst h2; cases args'; simp_all
              · rw [cell_of g1]; simp [hlt, hc]
        | _ => rw [hc] at hv; cases hv
  split at he
  · -- no key
    rename_i cl ro hmb
    cases he
    refine ⟨hk, Nat.le_refl _, fun m h w args' hfr s ra => ?_⟩
    obtain ⟨r, rm, fs, rfl, hr, hcell, hw, hE⟩ := key s ra hmb
    refine .inr ⟨L8.f8.enters rfl _ _, ?_⟩
    have hfs : fs = #[] := Array.eq_empty_of_size_eq_zero (by have := hE.1; simpa using this.symm)
    subst hfs
    have hown : w.ownsMap P (ρ.t 26) (fun _ => some ((.nil : DataW Unit), [])) rm 0 (.map []) := ⟨#[], cl, hw, ⟨by simp, MapKept.stamped_empty _, by simp⟩, Nat.le_refl _, rfl⟩
    have hseq := AnyZI.keys_gives L10 Fence.wide 3 trivial rfl (by omega) r rm 0 _ w hr hcell hown
    refine (callsIn_wide.1 (AnyZI.collect_in L8 Fence.wide 5 trivial trivial rfl (by omega) (ρ.f 10) _ trivial (L10.f10.enters rfl) _ _ (by simp [Maps.size, maxLen]) (by simp [Maps.size]) w hseq)).mono fun e w' hh => ?_
    obtain ⟨v, ss, rfl, hS, hrow, hnil, hbel⟩ := hh
    have : ss = [] := by simpa [intKeys] using hS
    have hv := hnil.2 this
    subst hv
    exact ⟨_, rfl, m, go_below s (Bel.of hbel noDr), .flat rfl⟩
  · rename_i k vv born cl ro hmb
    split at he
    case h_2 => cases he
    rename_i hcond
    obtain ⟨hborn, hwf⟩ := Bool.and_eq_true_iff.1 hcond
    cases he
    refine ⟨hk.push _, by rw [Hp.sz_push]; omega, fun m h w args' hfr s ra => ?_⟩
    have hs : ovr hp h hp.sz = none := by
      unfold ovr; rw [if_neg (by omega)]
      exact hfr _ (Nat.le_refl _) (by rw [Hp.sz_push]; omega)
    obtain ⟨r, rm, fs, rfl, hr, hcell, hw, hE⟩ := key s ra hmb
    refine .inr ⟨L8.f8.enters rfl _ _, ?_⟩
    obtain ⟨e0, rfl⟩ : ∃ e0, fs = #[e0] := by
      obtain ⟨l⟩ := fs
      match l, hE.1 with
      | [x], _ => exact ⟨x, rfl⟩
    obtain ⟨-, hkey, -, hb0⟩ := hE.2 0 _ e0 rfl rfl
    have hkk := keyOf_int (P := P) (ρ := ρ) L8.t26 hwf
    have hrd : WideElems.rd P (ρ.t 26) (fun _ => some ((.nil : DataW Unit), [])) e0 = some (.int .i64 k, .nil) := by
      unfold WideElems.rd; rw [hkey]; simp only at hkk ⊢; rw [hkk]; rfl
    have hown : w.ownsMap P (ρ.t 26) (fun _ => some ((.nil : DataW Unit), [])) rm 1 (.map [(.int .i64 k, .nil)]) :=
      ⟨#[e0], cl, hw, ⟨by simp [maxLen], ⟨by simpa [hb0, Nat.blt_eq] using hborn, by simp, by simp⟩, by simpa using ⟨_, _, hrd⟩⟩, Nat.le_refl _, by simp [WideElems.rg, hrd, DataW.insert]⟩
    have hseq := AnyZI.keys_gives L10 Fence.wide 3 trivial rfl (by omega) r rm 1 _ w hr hcell hown
    refine (callsIn_wide.1 (AnyZI.collect_in L8 Fence.wide 5 trivial trivial rfl (by omega) (ρ.f 10) _ trivial (L10.f10.enters rfl) _ _ (by simp [Maps.size, maxLen]) (by simp [Maps.size]) w hseq)).mono fun e w' hh => ?_
    obtain ⟨v, ss, rfl, hS, hrow, hnil, hbel⟩ := hh
    have hss : ss = [k] := by simpa [intKeys, intOf] using hS
    subst hss
    obtain ⟨-, hrow | ⟨g, cap, cur, rfl, hg, hcur, hcap, _, hsz, htake⟩⟩ := hrow
    · have := hnil.1 hrow.1; cases this
    · refine ⟨_, rfl, updM m hp.sz (g, 0, cur.size), ?_, ?_⟩
      · rw [← ovr_push]
        refine go_new s (Bel.of hbel noDr) hs hg fun m' h' l => ?_
        refine ⟨cur, (0, 0), hcur, by simp at hcap ⊢; omega, Nat.le_refl _, fun i v v' q1 q2 => ?_, fun _ j _ => by simp, fun hr => by cases hr⟩
        have hi : i = 0 := by
          have := (List.getElem?_eq_some_iff.1 q1).1
          simp at this; exact this
        subst hi
        simp at q1 q2
        subst q1
        have hh : cur.toList[0]? = some (encZ k) := by
          have : (cur.toList.take 1)[0]? = some (encZ k) := by simp at htake; rw [htake]; rfl
          simpa [List.getElem?_take] using this
        have : v' = encZ k := by simp at hh; rw [q2] at hh; simpa using hh
        subst this
        exact .flat rfl
      · exact .slice (.of (by simpa using hcap) (by decide)) (.inr ⟨0, cur.size, by simp [updM], .inl rfl, by constructor <;> intro h <;> simp at h⟩)
  · cases he
end Go.Proofs.YtcadechpjkoepaaGreat.AI
namespace Go.Proofs.YtcadechpjkoepaaGreat.AI
open Go Go.RowKit
section
variable {P : Program} {w : World} {r : Reach} {base : Nat}
end
def hp1 : Hp := heapOf [.dead] hp0
def blind (n : Nat) : Value := .slice (some ⟨0, 0, none⟩) n 2
variable {P : Program}
end Go.Proofs.YtcadechpjkoepaaGreat.AI
namespace Go.Proofs.YtcadechpjkoepaaGreat.AI
open Go Go.RowKit
def PT (m : BM) (h : HG) (m2 : BM) (h2 : HG) (K : List Nat) (B : Nat) : Prop :=
  ∀ b (Q : Prop), (h b = some .dead ∨ Q) → h2 (B + rho K b) = some .dead ∨ (Q ∧ m2 (B + rho K b) = m b)
section
variable {m m2 : BM} {h h2 : HG} {K : List Nat} {B : Nat}
theorem PT.one (pt : PT m h m2 h2 K B) {v v' : Value} (r : VRel m h v v') (hv : nice1 v = true) : VRel m2 h2 (sh1 K B v) v' := by
  cases r with
  | flat hf =>
    have : sh1 K B v = v := by cases v with
      | pointer a => cases a <;> first | rfl | (simp [AI.flat] at hf)
      | slice a l c => cases a <;> first | rfl | (simp [AI.flat] at hf)
      | map a => cases a <;> first | rfl | (simp [AI.flat] at hf)
      | _ => rfl
    rw [this]; exact .flat hf
  | ptr h1 =>
    rcases pt _ _ h1 with h | ⟨⟨δ, E, q1, q2⟩, e⟩
    · exact .ptr (.inl h)
    · exact .ptr (.inr ⟨δ, E, by rw [e]; exact q1, q2⟩)
  | slice h0 h1 =>
    rcases pt _ _ h1 with h | ⟨⟨δ, E, q1, q2⟩, e⟩
    · exact .slice h0 (.inl h)
    · exact .slice h0 (.inr ⟨δ, E, by rw [e]; exact q1, q2⟩)
  | blind h1 => exact .blind h1
  | blind0 => exact .blind0
  | junk h1 => exact .junk h1
  | map h1 =>
    rcases pt _ _ h1 with h | ⟨⟨x, q1⟩, e⟩
    · exact .map (.inl h)
    · exact .map (.inr ⟨x, by rw [e]; exact q1⟩)
  | func _ _ _ _ => cases hv
  | agg _ _ => cases hv
  | tuple _ _ => cases hv
theorem PT.two (pt : PT m h m2 h2 K B) {v v' : Value} (r : VRel m h v v') (hv : ok2 v = true) : VRel m2 h2 (sh2 K B v) v' := by
  cases v with
  | agg cs =>
    obtain ⟨a', rfl, h1, h2⟩ := r.of_agg
    refine .agg (by simpa using h1) fun i x x' q1 q2 => ?_
    simp only [Array.getElem?_map, Option.map_eq_some_iff] at q1
    obtain ⟨y, hy, rfl⟩ := q1
    exact pt.one (h2 i y x' hy q2) (List.all_eq_true.1 hv y (Array.mem_toList_iff.2 (Array.mem_of_getElem? hy)))
  | func fn x y =>
    cases r with
    | flat hf => simp [AI.flat] at hf
    | func h1 h2 h3 h4 =>
      have hv' := Bool.and_eq_true_iff.1 hv
      refine .func (by simpa using h1) (fun i u u' q1 q2 => ?_) (by simpa using h3) (fun i u u' q1 q2 => ?_)
      · simp only [Array.getElem?_map, Option.map_eq_some_iff] at q1
        obtain ⟨z, hz, rfl⟩ := q1
        exact pt.one (h2 i z u' hz q2) (List.all_eq_true.1 hv'.1 z (Array.mem_toList_iff.2 (Array.mem_of_getElem? hz)))
      · simp only [Array.getElem?_map, Option.map_eq_some_iff] at q1
        obtain ⟨z, hz, rfl⟩ := q1
        exact pt.one (h4 i z u' hz q2) (List.all_eq_true.1 hv'.2 z (Array.mem_toList_iff.2 (Array.mem_of_getElem? hz)))
  | tuple cs => cases hv
  | _ => exact pt.one r hv
theorem PT.three (pt : PT m h m2 h2 K B) {v v' : Value} (r : VRel m h v v') (hv : ok3 v = true) : VRel m2 h2 (sh3 K B v) v' := by
  cases v with
  | tuple cs =>
    obtain ⟨a', rfl, h1, h2⟩ := r.of_tuple
    refine .tuple (by simpa using h1) fun i x x' q1 q2 => ?_
    simp only [Array.getElem?_map, Option.map_eq_some_iff] at q1
    obtain ⟨y, hy, rfl⟩ := q1
    exact pt.two (h2 i y x' hy q2) (List.all_eq_true.1 hv y (Array.mem_toList_iff.2 (Array.mem_of_getElem? hy)))
  | _ => exact pt.two r hv
end
end Go.Proofs.YtcadechpjkoepaaGreat.AI
namespace Go.Proofs.YtcadechpjkoepaaGreat.AI
open Go Go.RowKit
abbrev OblH := Option (Value × Hp) × (Value × Hp)
def MetH (l : List OblH) : Prop := ∀ o ∈ l, o.1 = some o.2
theorem MetH.nil : MetH [] := fun o ho => by cases ho
theorem MetH.cons {a : Option (Value × Hp)} {v : Value × Hp} {l : List OblH} (h : a = some v) (hl : MetH l) : MetH ((a, v) :: l) := fun o ho => by
  cases ho with
  | head => exact h
  | tail _ ho => exact hl o ho
theorem MetH.left {a b : List OblH} (h : MetH (a ++ b)) : MetH a := fun o ho => h o (List.mem_append_left _ ho)
theorem MetH.right {a b : List OblH} (h : MetH (a ++ b)) : MetH b := fun o ho => h o (List.mem_append_right _ ho)
abbrev ClH := List (Tmp × Value × List Blk)
section
variable {P : Program} {call : CallF} {cl : List (Tmp × Value)} {ch : ClH}
end
section
variable {P : Program} {N : Nat} {W : Base}
end
end Go.Proofs.YtcadechpjkoepaaGreat.AI
