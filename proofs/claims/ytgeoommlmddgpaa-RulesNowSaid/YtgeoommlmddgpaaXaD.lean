/- Functions over a row of views: one form of telling them. -/
import Derived.Test.YtgeoommlmddgpaaXaC
import Derived.Test.YtgeoommlmddgpaaAi41
import Derived.Test.YtgeoommlmddgpaaRows
set_option linter.unusedVariables false
set_option linter.unusedSimpArgs false
set_option maxRecDepth 100000
namespace Go.Proofs.Ytgeoommlmddgpaa.LtA
open Go Go.Proofs Go.Proofs.Ytgeoommlmddgpaa.AI Go.RowKit Go.Proofs.Ytgeoommlmddgpaa.Sort

/-- A row, or nil. -/
def vS (f : Bool) (b n c : Nat) : Value := bif f then rowS b n c else nilS
def hS (f : Bool) (o : Blk) : Hp := bif f then heapOf [o, .dead] hp0 else heapOf [.dead] hp0
def FinR (fn : Func) (v0 : Value) (O : List Blk) (e : Exit) (st : St) : Prop := (e = .normal ∨ e = .ret) ∧ st.df = [] ∧ retVal Try.prog fn st = some v0 ∧ ∀ B, O[0]? = some B → st.hp.get 0 = some B
def stay (v : Value) : Prop := ok3 v = true ∧ ∀ K B, sh3 K B v = v
theorem stay_int (k : IntKind) (z : Int) : stay (.int k z) := ⟨rfl, fun _ _ => rfl⟩
theorem stay_h (y : ViewV) : stay (hcA y) := ⟨rfl, fun _ _ => by simp [sh3, sh2, sh1, hcA]⟩
abbrev Ans := List Value → Option (Value × List Blk)
open Classical in
noncomputable def rowG (vs : List ViewV) (A : Ans) : HeapFn := fun args hp => match args with
  | s :: rest => if TN vs s hp then (A rest).map fun r => (sh3 (List.range r.2.length) hp.sz r.1, heapOf (r.2 ++ [.dead]) hp) else none
  | _ => none
/-- What is asked of a run over a row. -/
structure RowRun (fn : Func) (code : Code) (N : Nat) (vs : List ViewV) (rest : List Value) (v0 : Value) (O : List Blk) : Prop where
  out : O = [] ∨ ∃ B, O = [B] ∧ inertB B = true ∧ rwB B = true
  okv : ok3 v0 = true
  flat : ∀ r ∈ rest, stay r
  len : rest.length + 1 ≤ N
  run : ∀ f o c W, inertB o = true → (vs = [] ∨ ∃ ty ro, o = .cells ty (vrow vs) ro) → (f = false → vs = [] ∧ o = .dead) → FRwp Try.prog N W code ⟨tmsOf (vS f 0 vs.length c :: rest) 0 .leaf, hS f o, []⟩ (FinR fn v0 O)
theorem stay_map {rest : List Value} (h : ∀ r ∈ rest, stay r) (K : List Nat) : rest.map (sh3 K 0) = rest := by
  induction rest with
  | nil => rfl
  | cons r rest ih => rw [List.map_cons, (h r (.head _)).2, ih fun x hx => h x (.tail _ hx)]
theorem stay_all {rest : List Value} (h : ∀ r ∈ rest, stay r) : rest.all ok3 = true := List.all_eq_true.2 fun r hr => (h r hr).1
open Classical in
theorem row_told {f : FuncId} {fn : Func} {code : Code} {N : Nat} {vs : List ViewV} {A : Ans} (hf : Try.prog.funcs[f]? = some fn) (hb : fn.body = some code) (hnm : (fn.name == "runtime.NumGoroutine") = false) (hN : fn.ntmps = N)
    (H : ∀ rest v0 O, A rest = some (v0, O) → RowRun fn code N vs rest v0 O) : CallGoal Try.prog f (rowG vs A) := scan_goal follows hf hb hnm fun args hp v hp' h hk => by
  rw [hN]
  unfold rowG at h
  split at h
  case h_2 => cases h
  rename_i s rest
  split at h
  case isFalse => cases h
  rename_i hT
  obtain ⟨⟨v0, O⟩, hA, h2⟩ := Option.map_eq_some_iff.1 h
  cases h2
  have R := H rest v0 O hA
  have run : ∃ (K0 : List Nat), nodupB K0 = true ∧ (∀ b ∈ K0, ∃ o, hp.get b = some o ∧ startOk o = true) ∧ (s :: rest).all ok3 = true ∧ ∀ W, FRwp Try.prog N W code ⟨tmsOf ((s :: rest).map (sh3 K0 0)) 0 .leaf, startHp K0 hp, []⟩ (FinR fn v0 O) := by
    rcases hT with ⟨rfl, rfl⟩ | ⟨b, c, ob, rfl, hb, hi, hr⟩
    · refine ⟨[], rfl, (fun b hb => by cases hb), (by rw [List.all_cons, stay_all R.flat]; rfl), fun W => ?_⟩
      have e1 : (nilS :: rest).map (sh3 [] 0) = nilS :: rest := by rw [List.map_cons, stay_map R.flat]; simp [sh3, sh2, sh1, nilS]
      rw [e1]
      exact R.run false .dead 0 W rfl (.inl rfl) fun _ => ⟨rfl, rfl⟩
    · refine ⟨[b], rfl, fun b' hb' => ?_, (by rw [List.all_cons, stay_all R.flat]; rfl), fun W => ?_⟩
      · have : b' = b := by simpa using hb'
        subst this
        exact ⟨ob, hb, inert_start hi⟩
      · have e1 : (rowS b vs.length c :: rest).map (sh3 [b] 0) = rowS 0 vs.length c :: rest := by rw [List.map_cons, stay_map R.flat]; simp [sh3, sh2, sh1, rho, idxOf, rowS]
        rw [e1, start1 hb hi]
        exact R.run true (roBlk ob) c W (ro_inert hi) (ro_row hr) fun h => by cases h
  obtain ⟨K0, n0, hst, hall, hrun⟩ := run
  have hle : (s :: rest).length ≤ N := by have := R.len; simpa using this
  have hnn : nodupB (List.range O.length) = true := by
    rcases R.out with h | ⟨B, h, -⟩ <;> rw [h] <;> rfl
  refine ⟨K0, List.range O.length, O, rfl, by simp, n0, hnn, hst, hall, hle, fun W => FRwp.mono (hrun W) fun e st q => ?_⟩
  obtain ⟨q1, q2, q3, q4⟩ := q
  refine ⟨q1, q2, v0, q3, R.okv, ?_, rfl, ?_⟩
  · intro b' hb'
    rcases R.out with h | ⟨B, h, hi, hw⟩
    · subst h; cases hb'
    · subst h
      have : b' = 0 := by simpa using hb'
      subst this
      exact ⟨B, q4 B rfl, ok2_inert hi, hw⟩
  · rcases R.out with h | ⟨B, h, hi, hw⟩
    · subst h; rfl
    · subst h
      show [B] = [shBlk [0] hp.sz ((st.hp.get 0).getD .dead)]
      rw [q4 B rfl]
      exact congrArg (fun z => [z]) (inert_shBlk hi [0] hp.sz).symm
/-- Whatever the row. -/
noncomputable def toldR (A : List ViewV → Ans) : HeapFn := atRow (fun _ => True) fun vs => rowG vs (A vs)
theorem toldR_goal {f : FuncId} {fn : Func} {code : Code} {N : Nat} {A : List ViewV → Ans} (hf : Try.prog.funcs[f]? = some fn) (hb : fn.body = some code) (hnm : (fn.name == "runtime.NumGoroutine") = false) (hN : fn.ntmps = N)
    (H : ∀ vs, vs.length < 1000000 → ∀ rest v0 O, A vs rest = some (v0, O) → RowRun fn code N vs rest v0 O) : CallGoal Try.prog f (toldR A) := atRow_goal fun vs hn _ => row_told hf hb hnm hN (H vs hn)
open Classical in
theorem toldR_of {A : List ViewV → Ans} {vs : List ViewV} {s : Value} {rest : List Value} {hp : Hp} {v0 : Value} {O : List Blk} (h : TN vs s hp) (hn : vs.length < 1000000) (hA : A vs rest = some (v0, O)) :
    toldR A (s :: rest) hp = some (sh3 (List.range O.length) hp.sz v0, heapOf (O ++ [.dead]) hp) := by
  unfold toldR
  rw [atRow_of h hn trivial]
  show (if TN vs s hp then _ else _) = _
  rw [if_pos h, hA]; rfl
/-- Of no block at all. -/
theorem toldR_none {A : List ViewV → Ans} {vs : List ViewV} {s : Value} {rest : List Value} {hp : Hp} {v0 : Value} (h : TN vs s hp) (hn : vs.length < 1000000) (hA : A vs rest = some (v0, [])) (hv : sh3 [] hp.sz v0 = v0) : toldR A (s :: rest) hp = some (v0, heapOf [.dead] hp) := by
  rw [toldR_of h hn hA]
  show some (sh3 [] hp.sz v0, _) = _
  rw [hv]; rfl
/-- Of a row of ints, padded. -/
theorem toldR_ids {A : List ViewV → Ans} {vs : List ViewV} {s : Value} {rest : List Value} {hp : Hp} {ids : List Int} (h : TN vs s hp) (hn : vs.length < 1000000) (hA : A vs rest = some (rowIv ids 0, rowIO ids)) :
    padF (toldR A) (s :: rest) hp = some (rowIv ids hp.sz, heapOf [ownI ids, .dead] hp) := by
  refine pad_rowI ?_
  rw [toldR_of h hn hA]
  cases ids with
  | nil => rfl
  | cons i ids => show some (sh3 [0] hp.sz (newI 0 _), _) = _; simp [sh3, sh2, sh1, rho, idxOf, newI, rowIv]
theorem rowI_out (ids : List Int) : rowIO ids = [] ∨ ∃ B, rowIO ids = [B] ∧ inertB B = true ∧ rwB B = true := by
  cases ids with
  | nil => exact .inl rfl
  | cons i ids => exact .inr ⟨iB (i :: ids), rfl, iB_inert _, rfl⟩
theorem rowI_ok (ids : List Int) : ok3 (rowIv ids 0) = true := by cases ids <;> rfl
theorem ownB_inert (us : List ViewV) : inertB (ownB us) = true := by
  cases us with
  | nil => rfl
  | cons => exact row_block _
/-! ### What is appended -/
def effF (f : Bool) (b : Nat) (B : Blk) : List Eff := bif f then [.put b .dead, .push B] else [.push B]
end Go.Proofs.Ytgeoommlmddgpaa.LtA
namespace Go.Proofs.Ytgeoommlmddgpaa.LtA
open Go Go.Proofs Go.Proofs.Ytgeoommlmddgpaa.AI Go.RowKit Go.Proofs.Ytgeoommlmddgpaa.Sort

/-! ### Rows of numbers, compared -/
def lexI : List Int → List Int → Int
  | a :: us, b :: ws => bif decide (a < b) then -1 else bif decide (a > b) then 1 else lexI us ws
  | _, _ => 0
/-- A block that holds a row of ints. -/
def IsI (A : Blk) (us : List Int) : Prop := ∃ ty ro, A = .cells ty (us.map icell) ro
theorem IsI.ro {A : Blk} {us : List Int} (h : IsI A us) : IsI (roBlk A) us := by
  obtain ⟨ty, ro, rfl⟩ := h
  exact ⟨ty, true, rfl⟩
theorem IsI.inert {A : Blk} {us : List Int} (h : IsI A us) : inertB A = true := by
  obtain ⟨ty, ro, rfl⟩ := h
  exact iB_inert us
section
variable (A B : Blk) (n i : Nat) (x y : Int) (g : Nat → Value)
end
open Classical in
noncomputable def G84 : HeapFn := fun args hp => match args with
  | [s, t] => if h : ∃ p : List Int × List Int, ∃ b1 b2, s = newI b1 p.1.length ∧ t = newI b2 p.1.length ∧ p.1.length = p.2.length ∧ p.1.length < 1000000 ∧ b1 ≠ b2 ∧ hp.get b1 = some (iB p.1) ∧ hp.get b2 = some (iB p.2)
      then some (.int .i64 (lexI h.choose.1 h.choose.2), heapOf ([] ++ [.dead]) hp) else none
  | _ => none
/-! ### Less -/
section
variable (x y : ViewV) (z : Int) (b : Bool)
end
end Go.Proofs.Ytgeoommlmddgpaa.LtA
namespace Go.Proofs.Ytgeoommlmddgpaa.LtA
open Go Go.Proofs Go.Proofs.Ytgeoommlmddgpaa.AI Go.RowKit Go.Proofs.Ytgeoommlmddgpaa.Sort

theorem kk_len {f : Bool} {vs : List ViewV} {o : Blk} (h : f = false → vs = [] ∧ o = .dead) : kk f vs.length = vs.length := by
  cases f with
  | true => rfl
  | false => rw [(h rfl).1]; rfl
section
variable (f : Bool) (o : Blk) (n c i : Nat) (x y : ViewV) (b : Bool) (g : Nat → Value)
end
end Go.Proofs.Ytgeoommlmddgpaa.LtA
namespace Go.Proofs.Ytgeoommlmddgpaa.LtA
open Go Go.Proofs Go.Proofs.Ytgeoommlmddgpaa.AI Go.RowKit Go.Proofs.Ytgeoommlmddgpaa.Sort

theorem app_any {get : Nat → Option Blk} {sz b b2 k : Nat} {ws : List ViewV} {x : ViewV} {f : Bool} (hf : f = !ws.isEmpty) (hb : get b = some (ownB ws)) (hb2 : get b2 = some (vB x)) (hk : k = ws.length) (hl : k < 2000000) :
    aAppend Try.prog get sz [22, 22] [vS f b k 22, rowS b2 1 22] = some (newS sz (k + 1), effF f b (rowB (ws ++ [x]))) := by
  cases ws with
  | cons w ws => subst hf; exact app_one hb hb2 hk hl
  | nil =>
    subst hf hk
    obtain ⟨i, hi, h7, h56⟩ := info34
    obtain ⟨z, hz, hzl⟩ := zero34
    have hb2' : get b2 = some (.cells 45 (vc x) false) := hb2
    have hsrc : aSrc Try.prog get 7 z (.slice 45) (rowS b2 1 22) = some (vc x, 1) := by
      unfold aSrc
      simp only [rowS, srcLen, srcCells, hb2']
      rw [if_neg (by omega), if_neg (by omega), getR_all (n := 1 * 7) rfl]
      rfl
    show aAppend Try.prog get sz [22, 22] [nilS, rowS b2 1 22] = some (newS sz 1, [.push (rowB [x])])
    unfold aAppend
    simp only [Try.underlying22, hi, hz, h7, h56, hzl]
    rw [if_neg (by decide)]
    simp only [hsrc]
    rw [if_neg (by simp [vc, isOne])]
    simp only [nilS]
    rw [if_neg (by omega), if_neg (by omega)]
    have e : vrow [x] = vc x := by unfold vrow; simp
    unfold rowB
    rw [e]; rfl
theorem app_anyI {get : Nat → Option Blk} {sz b b2 k : Nat} {ids : List Int} {x : Int} {f : Bool} (hf : f = !ids.isEmpty) (hb : get b = some (ownI ids)) (hb2 : get b2 = some (.cells 3 [icell x] false)) (hk : k = ids.length) (hl : k < 2000000) :
    aAppend Try.prog get sz [30, 30] [vI f b k, newI b2 1] = some (newI sz (k + 1), effF f b (iB (ids ++ [x]))) := by
  cases ids with
  | cons w ids => subst hf; exact app_int hb hb2 hk hl
  | nil =>
    subst hf hk
    obtain ⟨i, hi, h1, h8⟩ := info3
    obtain ⟨z, hz, hzl⟩ := zero3
    have hsrc : aSrc Try.prog get 1 z (.slice 3) (newI b2 1) = some ([icell x], 1) := by
      unfold aSrc newI
      simp only [srcLen, srcCells, hb2]
      rw [if_neg (by omega), if_neg (by omega), getR_all (n := 1 * 1) rfl]
      rfl
    show aAppend Try.prog get sz [30, 30] [nilS, newI b2 1] = some (newI sz 1, [.push (iB [x])])
    unfold aAppend
    simp only [underlying31, hi, hz, h1, h8, hzl]
    rw [if_neg (by decide)]
    simp only [hsrc]
    rw [if_neg (by simp [isOne, icell])]
    simp only [nilS]
    rw [if_neg (by omega), if_neg (by omega)]
    rfl
noncomputable def apV (h : Hp) (sz b k b2 : Nat) (f : Bool) (us : List ViewV) : OblE := (aAppend Try.prog h.get sz [22, 22] [vS f b k 22, rowS b2 1 22], (newS sz (k + 1), effF f b (rowB us)))
noncomputable def apI (h : Hp) (sz b k b2 : Nat) (f : Bool) (us : List Int) : OblE := (aAppend Try.prog h.get sz [30, 30] [vI f b k, newI b2 1], (newI sz (k + 1), effF f b (iB us)))
section
variable (f fu fm d fi : Bool) (o U M I : Blk) (n c u m i k q j : Nat) (x w : ViewV) (us ws zs ys : List ViewV) (ids jds : List Int) (g : Nat → Value)
end
end Go.Proofs.Ytgeoommlmddgpaa.LtA
namespace Go.Proofs.Ytgeoommlmddgpaa.LtA
open Go Go.Proofs Go.Proofs.Ytgeoommlmddgpaa.AI Go.RowKit Go.Proofs.Ytgeoommlmddgpaa.Sort

theorem isE_false {α : Type} {l : List α} (h : l ≠ []) : (!l.isEmpty) = true := by
  cases l with
  | nil => exact absurd rfl h
  | cons => rfl
theorem isE_app {α : Type} (l : List α) (x : α) : (!(l ++ [x]).isEmpty) = true := isE_false (by simp)
theorem ownB_ne {l : List ViewV} (h : l ≠ []) : ownB l = rowB l := by
  cases l with
  | nil => exact absurd rfl h
  | cons => rfl
theorem ownI_ne {l : List Int} (h : l ≠ []) : ownI l = iB l := by
  cases l with
  | nil => exact absurd rfl h
  | cons => rfl
theorem ne_app {α : Type} (l : List α) (x : α) : l ++ [x] ≠ [] := by simp
section
variable {o : Blk} {vs us : List ViewV} {c i : Nat} {x : ViewV}
end
end Go.Proofs.Ytgeoommlmddgpaa.LtA
namespace Go.Proofs.Ytgeoommlmddgpaa.LtA
open Go Go.Proofs Go.Proofs.Ytgeoommlmddgpaa.AI Go.RowKit Go.Proofs.Ytgeoommlmddgpaa.Sort

/-- A loop over a list. -/
theorem fold_loop {N : Nat} {W : Base} {b : Code} {kb : Nat} {α β : Type} {vs : List β} (F : α → β → α) (a0 : α) (I : α → Nat → (Nat → Value) → St) (Q : α → St → Prop) (R : Exit → St → Prop)
    (hx : ∀ a g, vs.foldl F a0 = a → FRwp Try.prog N W b (I a vs.length g) (fun e st => e = .exit kb ∧ Q a st))
    (hs : ∀ i x a g, vs[i]? = some x → i < vs.length → (vs.take i).foldl F a0 = a → FRwp Try.prog N W b (I a i g) (fun e st => (e = .normal ∧ ∃ g', st = I (F a x) (i + 1) g') ∨ (e = .ret ∧ R e st)))
    (g : Nat → Value) : FRwp Try.prog N W (.block kb (.loop b)) (I a0 0 g) (fun e st => (e = .normal ∧ Q (vs.foldl F a0) st) ∨ (e = .ret ∧ R e st)) := by
  refine FRwp.block ?_
  refine FRwp.loop (fun k st => ∃ i a g, i ≤ vs.length ∧ k = vs.length - i ∧ (vs.take i).foldl F a0 = a ∧ st = I a i g) ?_ (k := vs.length) ⟨0, a0, g, Nat.zero_le _, rfl, rfl, rfl⟩
  rintro k st ⟨i, a, g, hi, hk, ha, rfl⟩
  rcases Nat.lt_or_ge i vs.length with hlt | hge
  · have hxx : vs[i]? = some vs[i] := List.getElem?_eq_getElem hlt
    refine FRwp.mono (hs i vs[i] a g hxx hlt ha) fun e st q => ?_
    rcases q with ⟨rfl, g', rfl⟩ | ⟨rfl, hr⟩
    · exact .inl ⟨rfl, vs.length - (i + 1), by omega, i + 1, _, g', by omega, rfl, by rw [fold_step hxx, ha], rfl⟩
    · exact .inr ⟨by simp, .inr ⟨rfl, hr⟩⟩
  · have hii : i = vs.length := by omega
    subst hii
    rw [List.take_length] at ha
    refine FRwp.mono (hx a g ha) fun e st q => .inr ?_
    obtain ⟨rfl, hq⟩ := q
    refine ⟨by simp, ?_⟩
    show (if kb = kb then _ else _)
    rw [if_pos rfl]
    exact .inl ⟨rfl, by rw [ha]; exact hq⟩
/-- .. that does not return. -/
theorem fold_loop' {N : Nat} {W : Base} {b : Code} {kb : Nat} {α β : Type} {vs : List β} (F : α → β → α) (a0 : α) (I : α → Nat → (Nat → Value) → St) (Q : α → St → Prop)
    (hx : ∀ a g, vs.foldl F a0 = a → FRwp Try.prog N W b (I a vs.length g) (fun e st => e = .exit kb ∧ Q a st))
    (hs : ∀ i x a g, vs[i]? = some x → i < vs.length → (vs.take i).foldl F a0 = a → FRwp Try.prog N W b (I a i g) (fun e st => e = .normal ∧ ∃ g', st = I (F a x) (i + 1) g'))
    (g : Nat → Value) : FRwp Try.prog N W (.block kb (.loop b)) (I a0 0 g) (fun e st => e = .normal ∧ Q (vs.foldl F a0) st) :=
  FRwp.mono (fold_loop F a0 I Q (fun _ _ => False) hx (fun i x a g h1 h2 h3 => FRwp.mono (hs i x a g h1 h2 h3) fun e st q => .inl q) g) fun e st q => by
    rcases q with q | ⟨-, h⟩
    · exact q
    · exact h.elim
def unH : Value → Option ViewV
  | .agg cs => match cs.toList with
    | [.bool n, .int .i64 t, .int .i64 o, .int .i64 r, .int .i64 d, .int .i64 i] => some ⟨0, n, t, o, r, d, i⟩
    | _ => none
  | _ => none
theorem unH_some {v : Value} {y : ViewV} (h : unH v = some y) : v = hcA y := by
  unfold unH at h
  split at h
  · rename_i cs
    split at h
    · rename_i n t o r d i hcs
      cases h
      obtain rfl := arr_of hcs
      rfl
    · cases h
  · cases h
def filS (p : ViewV → Bool) (us : List ViewV) (x : ViewV) : List ViewV := bif p x then us ++ [x] else us
theorem fil_fold {p : ViewV → Bool} : ∀ {vs us : List ViewV}, vs.foldl (filS p) us = us ++ vs.filter p
  | [], us => by simp
  | v :: vs, us => by
    rw [List.foldl_cons, fil_fold]
    unfold filS
    cases h : p v with
    | true => rw [List.filter_cons_of_pos h]; simp
    | false => rw [List.filter_cons_of_neg (by rw [h]; simp)]; rfl
section
variable (f fu fi b : Bool) (o U I : Blk) (n c u i q : Nat) (x own : ViewV) (zs : List ViewV) (ids : List Int) (g : Nat → Value)
end
section
variable (f fu fi b : Bool) (o U I : Blk) (n c u i q : Nat) (x own : ViewV) (zs : List ViewV) (ids : List Int) (g : Nat → Value)
end
end Go.Proofs.Ytgeoommlmddgpaa.LtA
namespace Go.Proofs.Ytgeoommlmddgpaa.LtA
open Go Go.Proofs Go.Proofs.Ytgeoommlmddgpaa.AI Go.RowKit Go.Proofs.Ytgeoommlmddgpaa.Sort

section
variable (f fu : Bool) (o U : Blk) (n c u i : Nat) (lt lo lr keep : Int) (x : ViewV) (zs : List ViewV) (g : Nat → Value)
end
theorem map_fold {α β : Type} {m : α → β} : ∀ {vs : List α} {us : List β}, vs.foldl (fun us x => us ++ [m x]) us = us ++ vs.map m
  | [], us => by simp
  | v :: vs, us => by rw [List.foldl_cons, map_fold]; simp
end Go.Proofs.Ytgeoommlmddgpaa.LtA
namespace Go.Proofs.Ytgeoommlmddgpaa.LtA
open Go Go.Proofs Go.Proofs.Ytgeoommlmddgpaa.AI Go.RowKit Go.Proofs.Ytgeoommlmddgpaa.Sort

section
variable (A B : Blk) (n i : Nat) (z : Int) (g : Nat → Value)
end
/-- Two rows of ints that are alike. -/
def SI (us : List Int) (s t : Value) (hp : Hp) : Prop :=
  (s = nilS ∧ t = nilS) ∨ ∃ b1 b2, s = newI b1 us.length ∧ t = newI b2 us.length ∧ b1 ≠ b2 ∧ hp.get b1 = some (iB us) ∧ hp.get b2 = some (iB us)
open Classical in
noncomputable def gSI : HeapFn := fun args hp => match args with
  | [s, t] => if ∃ us, us.length < 1000000 ∧ SI us s t hp then some (.bool true, heapOf ([] ++ [.dead]) hp) else none
  | _ => none
open Classical in
theorem gSI_of {us : List Int} {hp : Hp} {b1 b2 : Nat} (hne : b1 ≠ b2) (h1 : hp.get b1 = some (ownI us)) (h2 : hp.get b2 = some (ownI us)) (hn : us.length < 1000000) : gSI [rowIv us b1, rowIv us b2] hp = some (.bool true, heapOf [.dead] hp) := by
  have h : SI us (rowIv us b1) (rowIv us b2) hp := by
    cases us with
    | nil => exact .inl ⟨rfl, rfl⟩
    | cons i us => exact .inr ⟨b1, b2, rfl, rfl, hne, h1, h2⟩
  unfold gSI
  simp only
  rw [if_pos ⟨us, hn, h⟩]
  rfl
/-! ### From the left is from the right -/
end Go.Proofs.Ytgeoommlmddgpaa.LtA
namespace Go.Proofs.Ytgeoommlmddgpaa.LtA
open Go Go.Proofs Go.Proofs.Ytgeoommlmddgpaa.AI Go.RowKit Go.Proofs.Ytgeoommlmddgpaa.Sort

section
variable (o : Blk) (s : Value) (n : Nat) (own y : ViewV) (b : Bool) (lt lo lr keep : Int) (v1 w1 w2 w3 w4 v2 v3 : Value) (B1 B2 B3 B4 B5 B6 B7 : Blk)
end
section
variable (o : Blk) (own y : ViewV) (lt lo lr : Int) (B1 B2 B3 B4 B5 B6 B7 : Blk)
end
section
variable (o : Blk) (s : Value) (n : Nat) (own y : ViewV) (b : Bool) (lt lo lr keep : Int) (v1 w1 w2 w3 w4 v2 v3 : Value) (B1 B2 B3 B4 B5 B6 B7 : Blk)
end
end Go.Proofs.Ytgeoommlmddgpaa.LtA
namespace Go.Proofs.Ytgeoommlmddgpaa.LtA
open Go Go.Proofs Go.Proofs.Ytgeoommlmddgpaa.AI Go.RowKit Go.Proofs.Ytgeoommlmddgpaa.Sort Go.ChangeShapes

end Go.Proofs.Ytgeoommlmddgpaa.LtA
