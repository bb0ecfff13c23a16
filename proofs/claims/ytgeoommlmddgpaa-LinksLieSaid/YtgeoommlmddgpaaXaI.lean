/- LinksLevels: its runs. -/
import Derived.Test.YtgeoommlmddgpaaXaH
import Derived.Test.YtgeoommlmddgpaaXaE
set_option linter.unusedVariables false
set_option linter.unusedSimpArgs false
set_option maxRecDepth 100000
namespace Go.Proofs.Ytgeoommlmddgpaa.LtL
open Go Go.Proofs Go.Proofs.Ytgeoommlmddgpaa.AI Go.RowKit Go.Proofs.Ytgeoommlmddgpaa.Sort Go.Proofs.Ytgeoommlmddgpaa.LtA

def vD (f : Bool) (b k : Nat) : Value := bif f then .slice (some ⟨b, 0, none⟩) k 11 else nilS
noncomputable def E4 : Ext := extG (extH Try.prog [(19, g16), (26, g31), (25, g30)]) [(21, GLv), (24, G18M)]
theorem E4_ok : ExtOk Try.prog E4 := extG_ok (extH_ok (.cons hk16 (.cons hk31 (.cons hk30 .nil)))) (.cons hkLv (.cons hkG18M .nil))
theorem q4 (v : Value) (O : List Blk) (g : Nat → Value) : retVal Try.prog Try.f4 (stOf 96 g [(2, v)] O) = some v := by kernel_rfl
end Go.Proofs.Ytgeoommlmddgpaa.LtL
namespace Go.Proofs.Ytgeoommlmddgpaa.LtL
open Go Go.Proofs Go.Proofs.Ytgeoommlmddgpaa.AI Go.RowKit Go.Proofs.Ytgeoommlmddgpaa.Sort Go.Proofs.Ytgeoommlmddgpaa.LtA

/-! ### The levels -/
theorem dedS_mem {a : List Lev} {x y : Lev} : x ∈ dedS a y ↔ x ∈ a ∨ x = y := by
  unfold dedS
  split
  · rename_i h
    exact ⟨.inl, fun q => q.elim id fun e => by subst e; exact List.mem_of_getLast? h⟩
  · simp
theorem ded_mem {l : List Lev} {x : Lev} : x ∈ ded l ↔ x ∈ l := by
  have key : ∀ (l a : List Lev), x ∈ l.foldl dedS a ↔ x ∈ a ∨ x ∈ l := by
    intro l
    induction l with
    | nil => intro a; simp
    | cons y l ih => intro a; rw [List.foldl_cons, ih, dedS_mem, List.mem_cons, or_assoc]
  have := key l []
  simpa [ded] using this
theorem sortL_mem {l : List Lev} {x : Lev} : x ∈ sortL l ↔ x ∈ l := (List.mergeSort_perm l _).mem_iff
theorem dlev_mem {l : List Lev} {x : Lev} : x ∈ dlev l ↔ x ∈ l := by
  cases l with
  | nil => exact Iff.rfl
  | cons y l => show x ∈ ded (sortL (y :: l)) ↔ _; rw [ded_mem, sortL_mem]
theorem sortL_sorted (l : List Lev) : (sortL l).Pairwise fun x y => ltL y x = false := by
  have h := List.pairwise_mergeSort (le := fun x y => !Go.Proofs.ltOf ordL y x) (fun a b c h1 h2 => by
      have h1 : ltL b a = false := by unfold ltL; simpa using h1
      have h2 : ltL c b = false := by unfold ltL; simpa using h2
      show (!ltL c a) = true
      rw [ltL_not] at h1 h2
      have : ltL c a = false := ltL_not.2 (by omega)
      rw [this]; rfl) (fun a b => by
      show (!ltL b a || !ltL a b) = true
      cases h1 : ltL b a with
      | false => rfl
      | true =>
        have h1 := ltL_iff.1 h1
        have : ltL a b = false := ltL_not.2 (by omega)
        rw [this]; rfl) l
  exact h.imp fun h => by unfold ltL; simpa using h
theorem ded_rise {l : List Lev} (h : l.Pairwise fun x y => ltL y x = false) : (ded l).Pairwise fun x y => ltL x y = true := by
  have key : ∀ (l a : List Lev), l.Pairwise (fun x y => ltL y x = false) → a.Pairwise (fun x y => ltL x y = true) → (∀ x ∈ a, ∀ y ∈ l, ltL y x = false) → (l.foldl dedS a).Pairwise fun x y => ltL x y = true := by
    intro l
    induction l with
    | nil => intro a _ h _; exact h
    | cons y l ih =>
      intro a hl ha hx
      rw [List.foldl_cons]
      obtain ⟨h1, h2⟩ := List.pairwise_cons.1 hl
      refine ih _ h2 ?_ fun x hxm z hz => ?_
      · unfold dedS
        split
        · exact ha
        · rename_i hne
          refine List.pairwise_append.2 ⟨ha, List.pairwise_singleton _ _, fun x hxa z hz => ?_⟩
          obtain rfl : z = y := by simpa using hz
          cases e : ltL x z with
          | true => rfl
          | false =>
            exfalso
            have ez : x = z := ltL_eq e (hx x hxa z (.head _))
            subst ez
            obtain ⟨b, w, rfl⟩ : ∃ b w, a = b ++ [w] := by
              rcases List.eq_nil_or_concat a with rfl | ⟨b, w, h⟩
              · cases hxa
              · exact ⟨b, w, by rw [h, List.concat_eq_append]⟩
            simp only [List.getLast?_append, List.getLast?_singleton, Option.some_or, Option.some.injEq] at hne
            have hxb : x ∈ b := by
              rcases List.mem_append.1 hxa with h | h
              · exact h
              · exact absurd (by simpa using h : x = w).symm hne
            have h3 := (List.pairwise_append.1 ha).2.2 x hxb w (by simp)
            have h4 := hx w (by simp) x (.head _)
            rw [h3] at h4; cases h4
      · rcases dedS_mem.1 hxm with h | rfl
        · exact hx x h z (.tail _ hz)
        · exact h1 z hz
  exact key l [] h List.Pairwise.nil fun x hx => by cases hx
theorem dlev_rise (l : List Lev) : (dlev l).Pairwise fun x y => ltL x y = true := by
  cases l with
  | nil => exact List.Pairwise.nil
  | cons y l => exact ded_rise (sortL_sorted _)
theorem ded_len2 (l : List Lev) : (dlev l).length ≤ l.length := by
  cases l with
  | nil => exact Nat.le_refl _
  | cons y l => have := ded_len (sortL (y :: l)); rw [sortL_len] at this; exact this
/-! ### Those that were seen -/
def hitB (us : List ViewV) (y : Lev) : Bool := us.any fun x => !x.n && (lvV x == y)
/-- In the midst of a view's levels. -/
def mid (us : List ViewV) (x : ViewV) (ls : List Lev) (k : Nat) : List Bool := (ls.take k).map (hitB (us ++ [x])) ++ (ls.drop k).map (hitB us)
/-! ### What is owed -/
open Classical in
theorem G18M_of {vs : List ViewV} {s : Value} {hp : Hp} (h : TN vs s hp) (hn : Long vs) : G18M [s] hp = some (errI (rightB vs), heapOf [.dead] hp) := by
  unfold G18M toldQ
  have hx : ∃ vs, TN vs s hp ∧ Long vs := ⟨vs, h, hn⟩
  simp only
  rw [dif_pos hx, hx.choose_spec.1.uniq h]
  show (if TN vs s hp then _ else _) = _
  rw [if_pos h]
  show some (sh3 _ _ (errI (rightB vs)), _) = _
  cases rightB vs <;> rfl
theorem fixN {p : Nat} : ∀ i, i < p → ∀ o, ([] : List Blk)[i]? = some o → Fixed 0 o := fun i _ o h => by simp at h
theorem lloadb {hp : Hp} {b : Nat} {us : List Lev} {i : Nat} {x : Lev} (hg : hp.get b = some (ownL us)) (h : us[i]? = some x) : aLoad Try.prog hp.get 42 (pb b (i * 3)) = some (lA x) := by
  have hne : us ≠ [] := fun e => by subst e; simp at h
  rw [ownL_ne hne] at hg
  simp only [aLoad, pb, hg, lB, aggL, sizeL]
  have := flat_getR (f := lc) (k := 3) (ps := us) (fun _ _ => rfl) h
  unfold lrow
  rw [this]
  rfl
theorem rowLv_vD (ls : List Lev) (b : Nat) : rowLv ls b = vD (!ls.isEmpty) b ls.length := by cases ls <;> rfl
theorem kkL (ls : List Lev) : kk (!ls.isEmpty) ls.length = ls.length := by cases ls <;> rfl
end Go.Proofs.Ytgeoommlmddgpaa.LtL
