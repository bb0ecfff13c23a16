/- Soundness, 9: what is read or written in a heap is so in a greater one; which blocks are written. -/
import Derived.Test.YtjecepaaalfilaaAi12
set_option linter.unusedVariables false
set_option linter.unusedSimpArgs false
namespace Go.Proofs.Ytjecepaaalfilaa.AI
open Go

def Sub (g g' : HG) : Prop := ∀ b o, g b = some o → g' b = some o
/-- What is put lies there. -/
def Puts (g : HG) (es : List Eff) : Prop := ∀ b o, Eff.put b o ∈ es → ∃ o', g b = some o'

section
variable {P : Program} {g g' : HG}

theorem puts_nil : Puts g [] := fun b o hm => by cases hm
theorem puts_one {b : Nat} {o o' : Blk} (h : g b = some o') : Puts g [.put b o] := fun c u hm => by
  simp at hm; obtain ⟨rfl, _⟩ := hm; exact ⟨o', h⟩
theorem puts_push {o : Blk} : Puts g [.push o] := fun c u hm => by simp at hm
theorem puts_two {b : Nat} {o u o' : Blk} (h : g b = some o') : Puts g [.put b o, .push u] := fun c q hm => by
  simp at hm; obtain ⟨rfl, _⟩ := hm; exact ⟨o', h⟩

theorem aLoad_mono (hs : Sub g g') {t : TypeId} {x v : Value} (he : aLoad P g t x = some v) : aLoad P g' t x = some v := by
  unfold aLoad at *
  split at he
  · split at he
    · rename_i hb; simp only [hs _ _ hb]; exact he
    · cases he
  · cases he
theorem aLookup_mono (hs : Sub g g') {t : TypeId} {x k v : Value} {ok : Bool} (he : aLookup P g t x k ok = some v) : aLookup P g' t x k ok = some v := by
  unfold aLookup at *
  split at he
  · split at he
    · rename_i hk hz
      try simp only [hk, hz]
      split at he
      · rename_i hp
        rw [if_pos hp]
        split at he
        · cases he
        · rename_i es hes
          cases x with
          | map a =>
            cases a with
            | none => exact (by cases hes; exact he)
            | some r =>
              dsimp only at hes ⊢
              split at hes
              · rename_i hb
                cases hes
                simp only [hs _ _ hb]
                exact he
              · cases hes
          | _ => cases hes
      · cases he
    · cases he
  · cases he
theorem aBytesToString_mono (hs : Sub g g') {src dst : TypeId} {x v : Value} (he : aBytesToString P g src dst x = some v) : aBytesToString P g' src dst x = some v := by
  unfold aBytesToString at *
  split at he
  · exact he
  · split at he
    · rename_i h1 hb; simp only [h1, hs _ _ hb]; exact he
    · cases he
  · cases he
theorem aUnsafe_mono (hs : Sub g g') {src dst : TypeId} {x v : Value} (he : aUnsafe P g src dst x = some v) : aUnsafe P g' src dst x = some v := by
  unfold aUnsafe at *
  split at he
  · exact he
  · split at he
    · rename_i hb ht; simp only [ht, hs _ _ hb]; exact he
    · cases he
  · exact he
  · cases he
theorem aLenMap_mono (hs : Sub g g') {t : TypeId} {x v : Value} (he : aLenMap P g t x = some v) : aLenMap P g' t x = some v := by
  unfold aLenMap at *
  split at he
  · split at he
    · rename_i hb; simp only [hs _ _ hb]; exact he
    · cases he
  · cases he
theorem opR_mono (hs : Sub g g') {ρ : Operand → Value} {o : Oper} {v : Value} (he : opR P ρ g o = some v) : opR P ρ g' o = some v := by
  unfold opR at *
  split at he
  · exact aLoad_mono hs he
  · exact aLookup_mono hs he
  · rename_i src dst x _
    split at he
    · rename_i u hu
      rw [aBytesToString_mono hs hu]; exact he
    · rename_i hu
      have hx := aUnsafe_mono hs he
      cases hb : aBytesToString P g' src dst (ρ x) with
      | none => simp only [hb]; exact hx
      | some u =>
        exfalso
        unfold aUnsafe at he
        unfold aBytesToString at hb
        split at he <;> split at hb <;> simp_all
  · split at he
    · rename_i h1 h2 h3
      try simp only [h1, h2, h3]
      exact aLenMap_mono hs he
    · cases he
  · cases he

theorem srcCells_mono (hs : Sub g g') {size n : Nat} {x : Value} {ns : List Value} (he : srcCells g size n x = some ns) : srcCells g' size n x = some ns := by
  unfold srcCells at *
  split at he
  · exact he
  · split at he
    · rename_i h0; rw [if_pos h0]; exact he
    · rename_i h0
      rw [if_neg h0]
      split at he
      · cases he
      · rename_i h1
        rw [if_neg h1]
        split at he
        · rename_i hb; simp only [hs _ _ hb]; exact he
        · cases he
  · exact he
  · cases he
theorem aSrc_mono (hs : Sub g g') {size : Nat} {zero : List Value} {xd : TypeDesc} {x : Value} {r : List Value × Nat} (he : aSrc P g size zero xd x = some r) : aSrc P g' size zero xd x = some r := by
  unfold aSrc at *
  split at he
  · exact he
  · split at he
    · cases he
    · rename_i h1
      obtain ⟨ns, h2, h3⟩ := Option.map_eq_some_iff.1 he
      try simp only [h1, srcCells_mono hs h2]
      exact congrArg some h3
theorem aStore_mono (hs : Sub g g') {t : TypeId} {x v : Value} {es : List Eff} (he : aStore P g t x v = some es) : aStore P g' t x v = some es ∧ Puts g es := by
  unfold aStore at *
  split at he
  · split at he
    · rename_i hb
      try simp only [hs _ _ hb]
      refine ⟨he, ?_⟩
      split at he
      · split at he
        · cases he; exact puts_one hb
        · cases he
      · cases he
    · cases he
  · cases he
theorem aUpdate_mono (hs : Sub g g') {t : TypeId} {x k v : Value} {es : List Eff} (he : aUpdate P g t x k v = some es) : aUpdate P g' t x k v = some es ∧ Puts g es := by
  unfold aUpdate at *
  split at he
  · split at he
    · rename_i hk hb
      try simp only [hk, hs _ _ hb]
      refine ⟨he, ?_⟩
      split at he
      · cases he
      · cases he; exact puts_one hb
      · split at he
        · cases he; exact puts_one hb
        · cases he
    · cases he
  · cases he
theorem aEntry_mono (hs : Sub g g') {t : TypeId} {x k : Value} {r : Value × List Eff} (he : aEntry P g t x k = some r) : aEntry P g' t x k = some r ∧ Puts g r.2 := by
  unfold aEntry at *
  split at he
  · split at he
    · rename_i hk hb
      try simp only [hk, hs _ _ hb]
      refine ⟨he, ?_⟩
      split at he
      · cases he
      · cases he; exact puts_one hb
      · split at he
        · split at he
          · cases he; exact puts_one hb
          · cases he
        · cases he
    · cases he
  · cases he
theorem aEntryStore_mono (hs : Sub g g') {x k v : Value} {es : List Eff} (he : aEntryStore g x k v = some es) : aEntryStore g' x k v = some es ∧ Puts g es := by
  unfold aEntryStore at *
  split at he
  · split at he
    · rename_i hb
      try simp only [hs _ _ hb]
      refine ⟨he, ?_⟩
      split at he
      · cases he; exact puts_one hb
      · cases he
    · cases he
  · cases he
theorem aDelete_mono (hs : Sub g g') {ts : List TypeId} {xs : List Value} {r : Value × List Eff} (he : aDelete P g ts xs = some r) : aDelete P g' ts xs = some r ∧ Puts g r.2 := by
  unfold aDelete at *
  split at he
  · split at he
    · split at he
      · rename_i hk
        try simp only [hk]
        refine ⟨he, ?_⟩
        split at he
        · cases he; exact puts_nil
        · cases he
      · rename_i hk
        split at he
        · rename_i hb
          try simp only [hk, hs _ _ hb]
          refine ⟨he, ?_⟩
          split at he
          · cases he
          · cases he; exact puts_one hb
          · split at he
            · cases he; exact puts_nil
            · cases he
        · cases he
      · cases he
    · cases he
  · cases he
theorem aClear_mono (hs : Sub g g') {ts : List TypeId} {xs : List Value} {r : Value × List Eff} (he : aClear P g ts xs = some r) : aClear P g' ts xs = some r ∧ Puts g r.2 := by
  unfold aClear at *
  split at he
  · split at he
    · refine ⟨he, ?_⟩
      cases he; exact puts_nil
    · split at he
      · rename_i h0
        rw [if_pos h0]
        refine ⟨he, ?_⟩
        cases he; exact puts_nil
      · rename_i h0
        rw [if_neg h0]
        split at he
        · rename_i hz hb
          try simp only [hz, hs _ _ hb]
          refine ⟨he, ?_⟩
          split at he
          · cases he; exact puts_one hb
          · cases he
        · cases he
    · cases he
  · cases he
theorem aCopy_mono (hs : Sub g g') {ts : List TypeId} {xs : List Value} {r : Value × List Eff} (he : aCopy P g ts xs = some r) : aCopy P g' ts xs = some r ∧ Puts g r.2 := by
  unfold aCopy at *
  split at he
  · split at he
    · split at he
      · rename_i h1 h2
        split at he
        · cases he
        · rename_i ns hns
          try simp only [h1, h2, srcCells_mono hs hns]
          split at he
          · cases he
          · rename_i hc
            rw [if_neg hc]
            split at he
            · refine ⟨he, ?_⟩
              split at he
              · cases he; exact puts_nil
              · cases he
            · split at he
              · rename_i h0
                rw [if_pos h0]
                refine ⟨he, ?_⟩
                cases he; exact puts_nil
              · rename_i h0
                rw [if_neg h0]
                split at he
                · rename_i hb
                  try simp only [hs _ _ hb]
                  refine ⟨he, ?_⟩
                  split at he
                  · cases he; exact puts_one hb
                  · cases he
                · cases he
      · cases he
    · cases he
  · cases he
theorem aAppend_mono (hs : Sub g g') {sz : Nat} {ts : List TypeId} {xs : List Value} {r : Value × List Eff} (he : aAppend P g sz ts xs = some r) : aAppend P g' sz ts xs = some r ∧ Puts g r.2 := by
  unfold aAppend at *
  split at he
  · split at he
    · rename_i h1 h2
      try simp only [h1, h2]
      split at he
      · cases he
      · rename_i h3
        try simp only [h3]
        split at he
        · cases he
        · rename_i h4
          try simp only [h4]
          split at he
          · cases he
          · rename_i hc
            rw [if_neg hc]
            split at he
            · cases he
            · rename_i ns m hsrc
              try simp only [aSrc_mono hs hsrc]
              split at he
              · cases he
              · rename_i hn
                rw [if_neg hn]
                split at he
                · refine ⟨he, ?_⟩
                  split at he
                  · cases he; exact puts_nil
                  · split at he
                    · cases he
                    · cases he; exact puts_push
                · split at he
                  · rename_i h0
                    rw [if_pos h0]
                    refine ⟨he, ?_⟩
                    cases he; exact puts_nil
                  · rename_i h0
                    rw [if_neg h0]
                    split at he
                    · cases he
                    · rename_i h5
                      rw [if_neg h5]
                      split at he
                      · rename_i hb
                        try simp only [hs _ _ hb]
                        split at he
                        · cases he
                        · rename_i hr
                          try simp only [hr]
                          refine ⟨he, ?_⟩
                          split at he
                          · cases he; exact puts_push
                          · split at he
                            · split at he
                              · cases he; exact puts_one hb
                              · cases he; exact puts_two hb
                            · cases he
                      · cases he
                · cases he
    · cases he
  · cases he
theorem aStringToBytes_puts {sz : Nat} {src dst : TypeId} {x : Value} {r : Value × List Eff} (he : aStringToBytes P sz src dst x = some r) : Puts g r.2 := by
  unfold aStringToBytes at he
  split at he
  · split at he
    · split at he
      · cases he; exact puts_push
      · cases he
    · cases he
  · cases he
theorem opB_mono (hs : Sub g g') {ρ : Operand → Value} {o : Oper} {sz : Nat} {r : Value × List Eff} (he : opB P ρ sz g o = some r) : opB P ρ sz g' o = some r ∧ Puts g r.2 := by
  unfold opB at *
  split at he
  · obtain ⟨z, hz, hvo⟩ := Option.map_eq_some_iff.1 he
    cases hvo
    obtain ⟨h1, h2⟩ := aStore_mono hs hz
    exact ⟨by simp only [h1]; rfl, h2⟩
  · obtain ⟨z, hz, hvo⟩ := Option.map_eq_some_iff.1 he
    cases hvo
    obtain ⟨h1, h2⟩ := aUpdate_mono hs hz
    exact ⟨by simp only [h1]; rfl, h2⟩
  · obtain ⟨z, hz, hvo⟩ := Option.map_eq_some_iff.1 he
    cases hvo
    obtain ⟨h1, h2⟩ := aUpdate_mono hs hz
    exact ⟨by simp only [h1]; rfl, h2⟩
  · exact aEntry_mono hs he
  · obtain ⟨z, hz, hvo⟩ := Option.map_eq_some_iff.1 he
    cases hvo
    obtain ⟨h1, h2⟩ := aEntryStore_mono hs hz
    exact ⟨by simp only [h1]; rfl, h2⟩
  · exact ⟨he, aStringToBytes_puts he⟩
  · split at he
    · rename_i hc; (try simp only [hc]); exact aAppend_mono hs he
    · rename_i hc; (try simp only [hc]); exact aCopy_mono hs he
    · rename_i hc; (try simp only [hc]); exact aClear_mono hs he
    · rename_i hc; (try simp only [hc]); exact aDelete_mono hs he
    · cases he
  · cases he
end

/-! ### Heaps whose numbers are in order -/
def Hp.ok (h : Hp) : Prop := ∀ b, h.sz ≤ b → h.get b = none
theorem Hp.ok.push {h : Hp} (k : h.ok) (o : Blk) : (h.push o).ok := fun b hb => by
  rw [Hp.get_push, if_neg (by have := Hp.sz_push h o; omega)]
  exact k b (by have := Hp.sz_push h o; omega)
theorem Hp.ok.put {h : Hp} (k : h.ok) {b : Nat} (o : Blk) (hb : b < h.sz) : (h.put b o).ok := fun c hc => by
  have : h.sz ≤ c := hc
  rw [Hp.get_put, if_neg (by omega)]
  exact k c this
theorem Hp.ok.lt {h : Hp} (k : h.ok) {b : Nat} {o : Blk} (hb : h.get b = some o) : b < h.sz := by
  rcases Nat.lt_or_ge b h.sz with q | q
  · exact q
  · rw [k b q] at hb; cases hb
theorem Hp.eff_sz : ∀ (es : List Eff) (h : Hp), h.sz ≤ (h.eff es).sz
  | [], h => Nat.le_refl _
  | .put b o :: es, h => Hp.eff_sz es (h.put b o)
  | .push o :: es, h => Nat.le_trans (Nat.le_succ _) (Hp.eff_sz es (h.push o))
theorem Hp.eff_push : ∀ (es : List Eff) (h : Hp), (∃ o, Eff.push o ∈ es) → h.sz < (h.eff es).sz
  | [], h, ⟨o, ho⟩ => by cases ho
  | .put b o :: es, h, ⟨u, hu⟩ => Hp.eff_push es (h.put b o) ⟨u, by simpa using hu⟩
  | .push o :: es, h, _ => Nat.lt_of_lt_of_le (Nat.lt_succ_self _) (Hp.eff_sz es (h.push o))
theorem Hp.ok.eff : ∀ (es : List Eff) {h : Hp}, h.ok → (∀ b o, Eff.put b o ∈ es → b < h.sz) → (h.eff es).ok
  | [], h, k, _ => k
  | .put b o :: es, h, k, hb => Hp.ok.eff es (k.put o (hb b o (.head _))) (fun c u hc => hb c u (.tail _ hc))
  | .push o :: es, h, k, hb => Hp.ok.eff es (k.push o) (fun c u hc => Nat.lt_succ_of_lt (hb c u (.tail _ hc)))

/-- The heap of a run laid over what lies beyond its numbers. -/
def ovr (hp : Hp) (h : HG) : HG := fun b => if b < hp.sz then hp.get b else h b
theorem ovr_self {hp : Hp} {h : HG} (e : ∀ b, b < hp.sz → h b = hp.get b) : ovr hp h = h := by
  funext b; unfold ovr
  split
  · rename_i hb; exact (e b hb).symm
  · rfl
theorem ovr_sub {hp : Hp} (k : hp.ok) (h : HG) : Sub hp.get (ovr hp h) := fun b o hb => by
  unfold ovr; rw [if_pos (k.lt hb)]; exact hb
theorem ovr_ovr {hp hp' : Hp} {h : HG} (e : hp.sz ≤ hp'.sz) : ovr hp' (ovr hp h) = ovr hp' h := by
  funext b; unfold ovr
  split
  · rfl
  · rw [if_neg (by omega)]
theorem ovr_push {hp : Hp} {h : HG} {o : Blk} : updH (ovr hp h) hp.sz o = ovr (hp.push o) h := by
  funext b; unfold updH ovr
  rw [Hp.sz_push, Hp.get_push]
  by_cases e : b = hp.sz
  · subst e; simp
  · rw [if_neg e, if_neg e]
    by_cases e2 : b < hp.sz
    · rw [if_pos e2, if_pos (by omega)]
    · rw [if_neg e2, if_neg (by omega)]
theorem ovr_put {hp : Hp} {h : HG} {b : Nat} {o : Blk} (hb : b < hp.sz) : updH (ovr hp h) b o = ovr (hp.put b o) h := by
  funext c; unfold updH ovr
  rw [Hp.sz_put, Hp.get_put]
  by_cases e : c = b
  · subst e; simp [hb]
  · rw [if_neg e, if_neg e]
theorem ovr_eff : ∀ (es : List Eff) {hp : Hp} {h : HG}, (∀ b o, Eff.put b o ∈ es → b < hp.sz) → effG (ovr hp h) hp.sz es = ovr (hp.eff es) h
  | [], hp, h, _ => rfl
  | .put b o :: es, hp, h, hb => by
    show effG (updH (ovr hp h) b o) hp.sz es = _
    rw [ovr_put (hb b o (.head _))]
    exact ovr_eff es (hp := hp.put b o) (fun c u hc => hb c u (.tail _ hc))
  | .push o :: es, hp, h, hb => by
    show effG (updH (ovr hp h) hp.sz o) (hp.sz + 1) es = _
    rw [ovr_push]
    exact ovr_eff es (hp := hp.push o) (fun c u hc => Nat.lt_succ_of_lt (hb c u (.tail _ hc)))
end Go.Proofs.Ytjecepaaalfilaa.AI
