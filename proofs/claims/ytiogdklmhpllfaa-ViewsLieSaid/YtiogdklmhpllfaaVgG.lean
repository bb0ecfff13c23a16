/- ViewsLie, of the given program: for every views, height, level and node the law returns true, and the arguments read as they did. No condition. -/
import Derived.Test.YtiogdklmhpllfaaVgF
import Derived.Test.YtiogdklmhpllfaaAi41
import Derived.Test.YtiogdklmhpllfaaVgD
import Derived.Test.YtiogdklmhpllfaaRows
set_option linter.unusedVariables false
set_option linter.unusedSimpArgs false
set_option maxRecDepth 100000
namespace Go.Proofs.Ytiogdklmhpllfaa.LtA
open Go Go.Proofs Go.Proofs.Ytiogdklmhpllfaa.AI Go.RowKit Go.Proofs.Ytiogdklmhpllfaa.Sort

/-- A function of arguments without addresses, from a run in a frame of its own. -/
theorem hook_fr {f : FuncId} {fn : Func} {c : Code} {N : Nat} {g : List Value → Option Value} (hf : Try.prog.funcs[f]? = some fn) (hs : fnSafe Try.prog fn = true) (hb : fn.body = some c) (hN : fn.ntmps = N)
    (H : ∀ args v, g args = some v → args.all flatD = true ∧ flatD v = true ∧ args.length ≤ N ∧ ∀ W, FRwp Try.prog N W c ⟨tmsOf args 0 .leaf, hp0, []⟩ (fun e st => (e = .normal ∨ e = .ret) ∧ st.df = [] ∧ retVal Try.prog fn st = some v)) : HookGoal Try.prog f g where
  fn := ⟨fn, hf, hs⟩
  flats args v h := ⟨(H args v h).1, (H args v h).2.1⟩
  run args v h w := by
    obtain ⟨h1, h2, h3, h4⟩ := H args v h
    have h' := h4 (Base.shut w)
    rw [← hN] at h'
    refine (fn_of (R := fun v0 _ => v0 = v) hf hb (by rw [hN]; exact h3) hp0_ok sim0 hp0_ro (by simpa using VRelL.flatDs h1) (FRwp.mono h' fun e st q => ⟨q.1, q.2.1, v, q.2.2, rfl⟩)).mono fun e w' hh => ?_
    obtain ⟨v', v0, st', m', rfl, rfl, rv, _, _, hb, _⟩ := hh
    exact ⟨by rw [rv.of_flatD h2], hb⟩

/-- A row, or nil. -/
def vS (f : Bool) (b n c : Nat) : Value := bif f then rowS b n c else nilS
def hS (f : Bool) (o : Blk) : Hp := bif f then heapOf [o, .dead] hp0 else heapOf [.dead] hp0
def FinR (fn : Func) (v0 : Value) (O : List Blk) (e : Exit) (st : St) : Prop := (e = .normal ∨ e = .ret) ∧ st.df = [] ∧ retVal Try.prog fn st = some v0 ∧ ∀ B, O[0]? = some B → st.hp.get 0 = some B
def stay (v : Value) : Prop := ok3 v = true ∧ ∀ K B, sh3 K B v = v
theorem stay_int (k : IntKind) (z : Int) : stay (.int k z) := ⟨rfl, fun _ _ => rfl⟩
theorem stay_h (y : ViewV) : stay (hcA y) := ⟨rfl, fun _ _ => by simp [sh3, sh2, sh1, hcA]⟩
theorem stay_lev (a b c : Int) : stay (levA a b c) := ⟨rfl, fun _ _ => by simp [sh3, sh2, sh1, levA]⟩
abbrev Ans := List Value → Option (Value × List Blk)
open Classical in
noncomputable def rowG (vs : List ViewV) (A : Ans) : HeapFn := fun args hp => match args with
  | s :: rest => if TN vs s hp then (A rest).map fun r => (sh3 (List.range r.2.length) hp.sz r.1, heapOf (r.2 ++ [.dead]) hp) else none
  | _ => none
/-- What is asked of a run over a row. -/
structure RowRun (fn : Func) (code : Code) (N : Nat) (vs : List ViewV) (rest : List Value) (v0 : Value) (O : List Blk) : Prop where
  out : O = [] ∨ ∃ B, O = [B] ∧ inertB B = true ∧ rwB B = true
  okv : ok3 v0 = true
  flat : ∀ r ∈ rest, stay r
  len : rest.length + 1 ≤ N
  run : ∀ f o c W, inertB o = true → (vs = [] ∨ ∃ ty ro, o = .cells ty (vrow vs) ro) → (f = false → vs = [] ∧ o = .dead) → FRwp Try.prog N W code ⟨tmsOf (vS f 0 vs.length c :: rest) 0 .leaf, hS f o, []⟩ (FinR fn v0 O)
theorem stay_map {rest : List Value} (h : ∀ r ∈ rest, stay r) (K : List Nat) : rest.map (sh3 K 0) = rest := by
  induction rest with
  | nil => rfl
  | cons r rest ih => rw [List.map_cons, (h r (.head _)).2, ih fun x hx => h x (.tail _ hx)]
theorem stay_all {rest : List Value} (h : ∀ r ∈ rest, stay r) : rest.all ok3 = true := List.all_eq_true.2 fun r hr => (h r hr).1
open Classical in
theorem row_told {f : FuncId} {fn : Func} {code : Code} {N : Nat} {vs : List ViewV} {A : Ans} (hf : Try.prog.funcs[f]? = some fn) (hb : fn.body = some code) (hnm : (fn.name == "runtime.NumGoroutine") = false) (hN : fn.ntmps = N)
    (H : ∀ rest v0 O, A rest = some (v0, O) → RowRun fn code N vs rest v0 O) : CallGoal Try.prog f (rowG vs A) := scan_goal follows hf hb hnm fun args hp v hp' h hk => by
  rw [hN]
  unfold rowG at h
  split at h
  case h_2 => cases h
  rename_i s rest
  split at h
  case isFalse => cases h
  rename_i hT
  obtain ⟨⟨v0, O⟩, hA, h2⟩ := Option.map_eq_some_iff.1 h
  cases h2
  have R := H rest v0 O hA
  have run : ∃ (K0 : List Nat), nodupB K0 = true ∧ (∀ b ∈ K0, ∃ o, hp.get b = some o ∧ startOk o = true) ∧ (s :: rest).all ok3 = true ∧ ∀ W, FRwp Try.prog N W code ⟨tmsOf ((s :: rest).map (sh3 K0 0)) 0 .leaf, startHp K0 hp, []⟩ (FinR fn v0 O) := by
    rcases hT with ⟨rfl, rfl⟩ | ⟨b, c, ob, rfl, hb, hi, hr⟩
    · refine ⟨[], rfl, (fun b hb => by cases hb), (by rw [List.all_cons, stay_all R.flat]; rfl), fun W => ?_⟩
      have e1 : (nilS :: rest).map (sh3 [] 0) = nilS :: rest := by rw [List.map_cons, stay_map R.flat]; simp [sh3, sh2, sh1, nilS]
      rw [e1]
      exact R.run false .dead 0 W rfl (.inl rfl) fun _ => ⟨rfl, rfl⟩
    · refine ⟨[b], rfl, fun b' hb' => ?_, (by rw [List.all_cons, stay_all R.flat]; rfl), fun W => ?_⟩
      · have : b' = b := by simpa using hb'
        subst this
        exact ⟨ob, hb, inert_start hi⟩
      · have e1 : (rowS b vs.length c :: rest).map (sh3 [b] 0) = rowS 0 vs.length c :: rest := by rw [List.map_cons, stay_map R.flat]; simp [sh3, sh2, sh1, rho, idxOf, rowS]
        rw [e1, start1 hb hi]
        exact R.run true (roBlk ob) c W (ro_inert hi) (ro_row hr) fun h => by cases h
  obtain ⟨K0, n0, hst, hall, hrun⟩ := run
  have hle : (s :: rest).length ≤ N := by have := R.len; simpa using this
  have hnn : nodupB (List.range O.length) = true := by
    rcases R.out with h | ⟨B, h, -⟩ <;> rw [h] <;> rfl
  refine ⟨K0, List.range O.length, O, rfl, by simp, n0, hnn, hst, hall, hle, fun W => FRwp.mono (hrun W) fun e st q => ?_⟩
  obtain ⟨q1, q2, q3, q4⟩ := q
  refine ⟨q1, q2, v0, q3, R.okv, ?_, rfl, ?_⟩
  · intro b' hb'
    rcases R.out with h | ⟨B, h, hi, hw⟩
    · subst h; cases hb'
    · subst h
      have : b' = 0 := by simpa using hb'
      subst this
      exact ⟨B, q4 B rfl, ok2_inert hi, hw⟩
  · rcases R.out with h | ⟨B, h, hi, hw⟩
    · subst h; rfl
    · subst h
      show [B] = [shBlk [0] hp.sz ((st.hp.get 0).getD .dead)]
      rw [q4 B rfl]
      exact congrArg (fun z => [z]) (inert_shBlk hi [0] hp.sz).symm
/-- Whatever the row. -/
noncomputable def toldR (A : List ViewV → Ans) : HeapFn := atRow (fun _ => True) fun vs => rowG vs (A vs)
theorem toldR_goal {f : FuncId} {fn : Func} {code : Code} {N : Nat} {A : List ViewV → Ans} (hf : Try.prog.funcs[f]? = some fn) (hb : fn.body = some code) (hnm : (fn.name == "runtime.NumGoroutine") = false) (hN : fn.ntmps = N)
    (H : ∀ vs, vs.length < 1000000 → ∀ rest v0 O, A vs rest = some (v0, O) → RowRun fn code N vs rest v0 O) : CallGoal Try.prog f (toldR A) := atRow_goal fun vs hn _ => row_told hf hb hnm hN (H vs hn)
open Classical in
theorem toldR_of {A : List ViewV → Ans} {vs : List ViewV} {s : Value} {rest : List Value} {hp : Hp} {v0 : Value} {O : List Blk} (h : TN vs s hp) (hn : vs.length < 1000000) (hA : A vs rest = some (v0, O)) :
    toldR A (s :: rest) hp = some (sh3 (List.range O.length) hp.sz v0, heapOf (O ++ [.dead]) hp) := by
  unfold toldR
  rw [atRow_of h hn trivial]
  show (if TN vs s hp then _ else _) = _
  rw [if_pos h, hA]; rfl
/-- Of no block at all. -/
theorem toldR_none {A : List ViewV → Ans} {vs : List ViewV} {s : Value} {rest : List Value} {hp : Hp} {v0 : Value} (h : TN vs s hp) (hn : vs.length < 1000000) (hA : A vs rest = some (v0, [])) (hv : sh3 [] hp.sz v0 = v0) : toldR A (s :: rest) hp = some (v0, heapOf [.dead] hp) := by
  rw [toldR_of h hn hA]
  show some (sh3 [] hp.sz v0, _) = _
  rw [hv]; rfl
/-- Of a row of ints, padded. -/
theorem toldR_ids {A : List ViewV → Ans} {vs : List ViewV} {s : Value} {rest : List Value} {hp : Hp} {ids : List Int} (h : TN vs s hp) (hn : vs.length < 1000000) (hA : A vs rest = some (rowIv ids 0, rowIO ids)) :
    padF (toldR A) (s :: rest) hp = some (rowIv ids hp.sz, heapOf [ownI ids, .dead] hp) := by
  refine pad_rowI ?_
  rw [toldR_of h hn hA]
  cases ids with
  | nil => rfl
  | cons i ids => show some (sh3 [0] hp.sz (newI 0 _), _) = _; simp [sh3, sh2, sh1, rho, idxOf, newI, rowIv]
theorem rowV_vS (us : List ViewV) (b : Nat) : rowV us b = vS (!us.isEmpty) b us.length 22 := by cases us <;> rfl
theorem toldR_row {A : List ViewV → Ans} {vs us : List ViewV} {s : Value} {rest : List Value} {hp : Hp} (h : TN vs s hp) (hn : vs.length < 1000000) (hA : A vs rest = some (rowV us 0, rowO us)) :
    padF (toldR A) (s :: rest) hp = some (rowV us hp.sz, heapOf [ownB us, .dead] hp) := by
  cases us with
  | nil => exact pad_one (toldR_of h hn hA)
  | cons i us =>
    refine pad_two ((toldR_of h hn hA).trans ?_)
    show some (sh3 [0] hp.sz (newS 0 _), _) = _
    have e : sh3 [0] hp.sz (newS 0 (i :: us).length) = newS hp.sz (i :: us).length := by simp [sh3, sh2, sh1, rho, idxOf, newS]
    rw [e]; rfl
theorem rowI_out (ids : List Int) : rowIO ids = [] ∨ ∃ B, rowIO ids = [B] ∧ inertB B = true ∧ rwB B = true := by
  cases ids with
  | nil => exact .inl rfl
  | cons i ids => exact .inr ⟨iB (i :: ids), rfl, iB_inert _, rfl⟩
theorem rowV_out (us : List ViewV) : rowO us = [] ∨ ∃ B, rowO us = [B] ∧ inertB B = true ∧ rwB B = true := by
  cases us with
  | nil => exact .inl rfl
  | cons i us => exact .inr ⟨rowB (i :: us), rfl, row_block _, rfl⟩
theorem rowI_ok (ids : List Int) : ok3 (rowIv ids 0) = true := by cases ids <;> rfl
theorem rowV_ok (us : List ViewV) : ok3 (rowV us 0) = true := by cases us <;> rfl
theorem ownB_inert (us : List ViewV) : inertB (ownB us) = true := by
  cases us with
  | nil => rfl
  | cons => exact row_block _
/-! ### What is appended -/
def effF (f : Bool) (b : Nat) (B : Blk) : List Eff := bif f then [.put b .dead, .push B] else [.push B]
end Go.Proofs.Ytiogdklmhpllfaa.LtA
namespace Go.Proofs.Ytiogdklmhpllfaa.LtA
open Go Go.Proofs Go.Proofs.Ytiogdklmhpllfaa.AI Go.RowKit Go.Proofs.Ytiogdklmhpllfaa.Sort

/-- thalweg/thalwegref02.Told -/
def tRTold (hNull : Bool) (hTau : Int) (hOid : Int) (hR : Int) (hDelta : Int) (hId : Int) : Value := (bif hNull then (bif (okH (true) (hTau) (hOid) (hR) (hDelta) (hId)) then (.bool false) else (.bool false)) else (bif (okH (false) (hTau) (hOid) (hR) (hDelta) (hId)) then (.bool true) else (.bool false)))
theorem tRTold_run (hNull : Bool) (hTau : Int) (hOid : Int) (hR : Int) (hDelta : Int) (hId : Int) : ∃ hp, aCall Try.prog E43 61 64 [.agg #[.bool hNull, .int .i64 hTau, .int .i64 hOid, .int .i64 hR, .int .i64 hDelta, .int .i64 hId]] hp0 = some (tRTold hNull hTau hOid hR hDelta hId, hp) := by
  cases hNull with
  | true =>
    cases h0 : (okH (true) (hTau) (hOid) (hR) (hDelta) (hId)) with
    | true =>
      have e : tRTold true hTau hOid hR hDelta hId = (.bool false) := by simp only [tRTold, h0, cond_true, cond_false]
      rw [e]
      exact callQ_run [(4, .bool true)] (q := [(some (.bool (okH (true) (hTau) (hOid) (hR) (hDelta) (hId))), .bool true)]) (by kernel_rfl) (Met.cons (met_bool h0) (Met.nil))
    | false =>
      have e : tRTold true hTau hOid hR hDelta hId = (.bool false) := by simp only [tRTold, h0, cond_true, cond_false]
      rw [e]
      exact callQ_run [(4, .bool false)] (q := [(some (.bool (okH (true) (hTau) (hOid) (hR) (hDelta) (hId))), .bool false)]) (by kernel_rfl) (Met.cons (met_bool h0) (Met.nil))
  | false =>
    cases h0 : (okH (false) (hTau) (hOid) (hR) (hDelta) (hId)) with
    | true =>
      have e : tRTold false hTau hOid hR hDelta hId = (.bool true) := by simp only [tRTold, h0, cond_true, cond_false]
      rw [e]
      exact callQ_run [(4, .bool true)] (q := [(some (.bool (okH (false) (hTau) (hOid) (hR) (hDelta) (hId))), .bool true)]) (by kernel_rfl) (Met.cons (met_bool h0) (Met.nil))
    | false =>
      have e : tRTold false hTau hOid hR hDelta hId = (.bool false) := by simp only [tRTold, h0, cond_true, cond_false]
      rw [e]
      exact callQ_run [(4, .bool false)] (q := [(some (.bool (okH (false) (hTau) (hOid) (hR) (hDelta) (hId))), .bool false)]) (by kernel_rfl) (Met.cons (met_bool h0) (Met.nil))

theorem tRTold_eq (n : Bool) (t o r d i : Int) : tRTold n t o r d i = .bool (told n t o r d i) := by
  unfold tRTold told known
  cases n
  · cases h : okH false t o r d i <;> simp
  · cases h : okH true t o r d i <;> simp
def g64 : List Value → Option Value := g57
theorem hk64 : HookGoal Try.prog 64 g64 := hook_of (ext := E43) (by unfold E43; exact extH_ok (.cons hk70 .nil)) follows Try.func64 (by kernel_rfl) fun args v h => by
  unfold g64 g57 at h
  split at h
  · rename_i c0
    split at h
    · rename_i ec0
      cases h
      obtain rfl := arr_of ec0
      refine ⟨rfl, rfl, ?_⟩
      obtain ⟨hp, q⟩ := tRTold_run _ _ _ _ _ _
      rw [tRTold_eq] at q
      exact ⟨_, hp, q⟩
    · cases h
  · cases h
noncomputable def ER2 : Ext := extH Try.prog [(64, g64)]
theorem ER2_ok : ExtOk Try.prog ER2 := extH_ok (.cons hk64 .nil)
/-- thalweg/thalwegref02.Level -/
def tRLevel (hNull : Bool) (hTau : Int) (hOid : Int) (hR : Int) (hDelta : Int) (hId : Int) : Value := (bif (told (hNull) (hTau) (hOid) (hR) (hDelta) (hId)) then (.agg #[.int .i64 hTau, .int .i64 hOid, .int .i64 hR]) else (.agg #[.int .i64 0, .int .i64 0, .int .i64 0]))
theorem tRLevel_run (hNull : Bool) (hTau : Int) (hOid : Int) (hR : Int) (hDelta : Int) (hId : Int) : ∃ hp, aCall Try.prog ER2 61 67 [.agg #[.bool hNull, .int .i64 hTau, .int .i64 hOid, .int .i64 hR, .int .i64 hDelta, .int .i64 hId]] hp0 = some (tRLevel hNull hTau hOid hR hDelta hId, hp) := by
  cases h0 : (told (hNull) (hTau) (hOid) (hR) (hDelta) (hId)) with
  | true =>
    have e : tRLevel hNull hTau hOid hR hDelta hId = (.agg #[.int .i64 hTau, .int .i64 hOid, .int .i64 hR]) := by simp only [tRLevel, h0, cond_true, cond_false]
    rw [e]
    exact callQ_run [(4, .bool true)] (q := [(some (.bool (told (hNull) (hTau) (hOid) (hR) (hDelta) (hId))), .bool true)]) (by kernel_rfl) (Met.cons (met_bool h0) (Met.nil))
  | false =>
    have e : tRLevel hNull hTau hOid hR hDelta hId = (.agg #[.int .i64 0, .int .i64 0, .int .i64 0]) := by simp only [tRLevel, h0, cond_true, cond_false]
    rw [e]
    exact callQ_run [(4, .bool false)] (q := [(some (.bool (told (hNull) (hTau) (hOid) (hR) (hDelta) (hId))), .bool false)]) (by kernel_rfl) (Met.cons (met_bool h0) (Met.nil))

/-- thalweg/thalwegref02.Null -/
def tRNull (id : Int) : Value := (.agg #[.bool true, .int .i64 0, .int .i64 0, .int .i64 0, .int .i64 0, .int .i64 id])
theorem tRNull_run (id : Int) : ∃ hp, aCall Try.prog E1 61 68 [.int .i64 id] hp0 = some (tRNull id, hp) := by
  have e : tRNull id = (.agg #[.bool true, .int .i64 0, .int .i64 0, .int .i64 0, .int .i64 0, .int .i64 id]) := by simp only [tRNull, cond_true, cond_false]
  rw [e]
  exact callQ_run [] (q := []) (by kernel_rfl) (Met.nil)

theorem tRLevel_eq (n : Bool) (t o r d i : Int) : tRLevel n t o r d i = .agg #[.int .i64 (lev0 n t o r d i), .int .i64 (lev1 n t o r d i), .int .i64 (lev2 n t o r d i)] := by
  unfold tRLevel lev0 lev1 lev2 told
  cases known n t o r d i <;> rfl
theorem hk67 : HookGoal Try.prog 67 g31 := hook_of (ext := ER2) ER2_ok follows Try.func67 (by kernel_rfl) fun args v h => by
  unfold g31 at h
  split at h
  · rename_i c0
    split at h
    · rename_i ec0
      cases h
      obtain rfl := arr_of ec0
      refine ⟨rfl, rfl, ?_⟩
      obtain ⟨hp, q⟩ := tRLevel_run _ _ _ _ _ _
      rw [tRLevel_eq] at q
      exact ⟨_, hp, q⟩
    · cases h
  · cases h
theorem hk68 : HookGoal Try.prog 68 g32 := hook_of (ext := E1) E1_ok follows Try.func68 (by kernel_rfl) fun args v h => by
  unfold g32 at h
  split at h
  · cases h
    refine ⟨rfl, rfl, ?_⟩
    obtain ⟨hp, q⟩ := tRNull_run _
    exact ⟨_, hp, q⟩
  · cases h
/-! ### Rows of numbers, compared -/
def lexI : List Int → List Int → Int
  | a :: us, b :: ws => bif decide (a < b) then -1 else bif decide (a > b) then 1 else lexI us ws
  | _, _ => 0
/-- A block that holds a row of ints. -/
def IsI (A : Blk) (us : List Int) : Prop := ∃ ty ro, A = .cells ty (us.map icell) ro
theorem IsI.ro {A : Blk} {us : List Int} (h : IsI A us) : IsI (roBlk A) us := by
  obtain ⟨ty, ro, rfl⟩ := h
  exact ⟨ty, true, rfl⟩
theorem IsI.inert {A : Blk} {us : List Int} (h : IsI A us) : inertB A = true := by
  obtain ⟨ty, ro, rfl⟩ := h
  exact iB_inert us
theorem ldA_ok {h : Hp} {b i : Nat} {A : Blk} {us : List Int} {z : Int} (hA : IsI A us) (hb : h.get b = some A) (hz : us[i]? = some z) : (ldO h.get 3 b i (.int .i64 z)).1 = some (ldO h.get 3 b i (.int .i64 z)).2 := by
  obtain ⟨ty, ro, rfl⟩ := hA
  show aLoad Try.prog h.get 3 (pb b i) = some (.int .i64 z)
  unfold pb
  simp only [aLoad, hb, agg3, size3]
  rw [List.getElem?_map, hz]; rfl
noncomputable def E84 : Ext := extH Try.prog []
theorem E84_ok : ExtOk Try.prog E84 := extH_ok (.nil)
noncomputable def c84 : CallF := aCall Try.prog E84 5
theorem c84_ok : CallOk Try.prog c84 := aCall_sound E84_ok follows 5
noncomputable def fb84 : Code := (Try.f84.body).getD .skip
noncomputable def p84 : Nat → Code
  | 0 => fb84
  | n + 1 => sR (p84 n)
noncomputable def c84a : Code := sL (p84 0)
noncomputable def c84b : Code := sL (sL (p84 1))
noncomputable def c84c : Code := unL (unB (sR (sL (p84 1))))
noncomputable def c84d : Code := p84 2
noncomputable abbrev code84 : Code := .seq c84a (.seq (.seq c84b (.block 0 (.loop c84c))) c84d)
theorem body84 : Try.f84.body = some code84 := by kernel_rfl
theorem ntmps84 : Try.f84.ntmps = 30 := by kernel_rfl
theorem s84a : codeSafe Try.prog 30 c84a = true := by kernel_rfl
theorem s84b : codeSafe Try.prog 30 c84b = true := by kernel_rfl
theorem s84c : codeSafe Try.prog 30 c84c = true := by kernel_rfl
theorem s84d : codeSafe Try.prog 30 c84d = true := by kernel_rfl
theorem q84 (v : Value) (O : List Blk) (g : Nat → Value) : retVal Try.prog Try.f84 (stOf 30 g [(4, v)] O) = some v := by kernel_rfl
section
variable (A B : Blk) (n i : Nat) (x y : Int) (g : Nat → Value)
def h84 (A B : Blk) : Hp := heapOf ([A, B] ++ [.dead]) hp0
abbrev L84 (i : Nat) (g : Nat → Value) : St := stOf 30 g [(0, newI 0 n), (1, newI 1 n), (5, iN i)] [A, B]
theorem r84a : (execE Try.prog c84 [] [] [] 20 c84a ⟨tmsOf [newI 0 n, newI 1 n] 0 .leaf, heapOf [A, B, .dead] hp0, []⟩).map (fun z => (look2 2 [0, 1] [0, 1] (z.1, z.2.1), z.2.2)) =
    some ((.normal, [A, B], [(0, newI 0 n), (1, newI 1 n)], true), [], [], []) := by kernel_rfl
theorem r84b : (execE Try.prog c84 [] [] [] 20 c84b (stOf 30 g [(0, newI 0 n), (1, newI 1 n)] [A, B])).map (fun z => (look2 2 [0, 1] [0, 1, 5] (z.1, z.2.1), z.2.2)) =
    some ((.normal, [A, B], [(0, newI 0 n), (1, newI 1 n), (5, iN 0)], true), [], [], []) := by kernel_rfl
theorem r84x : (execE Try.prog c84 [(9, .bool false)] [] [] 20 c84c (L84 A B n i g)).map (fun z => (look2 0 [] [] (z.1, z.2.1), z.2.2)) =
    some ((.exit 0, [], [], true), [ltO i n false], [], []) := by kernel_rfl
theorem r84l : (execE Try.prog c84 [(9, .bool true), (14, pb 0 i), (15, .int .i64 x), (18, pb 1 i), (19, .int .i64 y), (20, .bool true)] [] [] 20 c84c (L84 A B n i g)).map (fun z => (look2 0 [] [4] (z.1, z.2.1), z.2.2)) =
    some ((.ret, [], [(4, .int .i64 (-1))], true), [ltO i n true, ixI 0 n i, ldO (h84 A B).get 3 0 i (.int .i64 x), ixI 1 n i, ldO (h84 A B).get 3 1 i (.int .i64 y), (some (.bool (decide (x < y))), .bool true)], [], []) := by kernel_rfl
theorem r84g : (execE Try.prog c84 [(9, .bool true), (14, pb 0 i), (15, .int .i64 x), (18, pb 1 i), (19, .int .i64 y), (20, .bool false), (23, pb 0 i), (24, .int .i64 x), (27, pb 1 i), (28, .int .i64 y), (29, .bool true)] [] [] 20 c84c (L84 A B n i g)).map (fun z => (look2 0 [] [4] (z.1, z.2.1), z.2.2)) =
    some ((.ret, [], [(4, .int .i64 1)], true), [ltO i n true, ixI 0 n i, ldO (h84 A B).get 3 0 i (.int .i64 x), ixI 1 n i, ldO (h84 A B).get 3 1 i (.int .i64 y), (some (.bool (decide (x < y))), .bool false), ixI 0 n i, ldO (h84 A B).get 3 0 i (.int .i64 x), ixI 1 n i, ldO (h84 A B).get 3 1 i (.int .i64 y), (some (.bool (decide (x > y))), .bool true)], [], []) := by kernel_rfl
theorem r84e : (execE Try.prog c84 [(9, .bool true), (14, pb 0 i), (15, .int .i64 x), (18, pb 1 i), (19, .int .i64 y), (20, .bool false), (23, pb 0 i), (24, .int .i64 x), (27, pb 1 i), (28, .int .i64 y), (29, .bool false), (11, iN (i + 1))] [] [] 20 c84c (L84 A B n i g)).map (fun z => (look2 2 [0, 1] [0, 1, 5] (z.1, z.2.1), z.2.2)) =
    some ((.normal, [A, B], [(0, newI 0 n), (1, newI 1 n), (5, iN (i + 1))], true), [ltO i n true, ixI 0 n i, ldO (h84 A B).get 3 0 i (.int .i64 x), ixI 1 n i, ldO (h84 A B).get 3 1 i (.int .i64 y), (some (.bool (decide (x < y))), .bool false), ixI 0 n i, ldO (h84 A B).get 3 0 i (.int .i64 x), ixI 1 n i, ldO (h84 A B).get 3 1 i (.int .i64 y), (some (.bool (decide (x > y))), .bool false), nxt29 i], [], []) := by kernel_rfl
theorem r84d : (execE Try.prog c84 [] [] [] 20 c84d (stOf 30 g [] [])).map (fun z => (look2 0 [] [4] (z.1, z.2.1), z.2.2)) =
    some ((.ret, [], [(4, .int .i64 0)], true), [], [], []) := by kernel_rfl
end
theorem lex_skip : ∀ {us ws : List Int} {i : Nat}, us.take i = ws.take i → i ≤ us.length → i ≤ ws.length → lexI us ws = lexI (us.drop i) (ws.drop i)
  | us, ws, 0, _, _, _ => rfl
  | [], ws, i + 1, _, h, _ => by simp at h
  | a :: us, [], i + 1, _, _, h => by simp at h
  | a :: us, b :: ws, i + 1, h, h1, h2 => by
    simp only [List.take_succ_cons, List.cons.injEq] at h
    obtain ⟨rfl, h⟩ := h
    rw [List.drop_succ_cons, List.drop_succ_cons, ← lex_skip h (by simpa using h1) (by simpa using h2)]
    have e : decide (a < a) = false := decide_eq_false (by omega)
    show (bif decide (a < a) then -1 else bif decide (a > a) then 1 else lexI us ws) = _
    rw [e]; rfl
theorem drop_get {us : List Int} {i : Nat} {x : Int} (h : us[i]? = some x) : us.drop i = x :: us.drop (i + 1) := by
  obtain ⟨h1, rfl⟩ := List.getElem?_eq_some_iff.1 h
  exact List.drop_eq_getElem_cons h1
def Ends84 (us ws : List Int) (e : Exit) (st : St) : Prop := e = .ret ∧ ∃ g, st = stOf 30 g [(4, .int .i64 (lexI us ws))] []
theorem fr84 (A B : Blk) (us ws : List Int) (hA : IsI A us) (hB : IsI B ws) (hl : us.length = ws.length) (hn : us.length < 1000000) (W : Base) :
    FRwp Try.prog 30 W code84 ⟨tmsOf [newI 0 us.length, newI 1 us.length] 0 .leaf, heapOf [A, B, .dead] hp0, []⟩ (Ends84 us ws) := by
  have fx : ∀ r : List Blk, ∀ i, i < 2 → ∀ o', (A :: B :: r)[i]? = some o' → Fixed 0 o' := fixOO hA.inert hB.inert
  have gA : (h84 A B).get 0 = some A := by unfold h84; rw [heapOf0_get]; rfl
  have gB : (h84 A B).get 1 = some B := by unfold h84; rw [heapOf0_get]; rfl
  refine FRwp.seq (Q1 := fun e st => e = .normal ∧ ∃ g, st = stOf 30 g [(0, newI 0 us.length), (1, newI 1 us.length)] [A, B]) (FRwp.pieceY c84_ok follows 2 _ _ _ _ (r84a A B us.length) Met.nil MetH.nil MetE.nil s84a rfl rfl (fx []) fun g => ⟨rfl, g, rfl⟩) ?_ (fun x st hne hq => absurd hq.1 hne)
  rintro st ⟨-, g, rfl⟩
  refine FRwp.seq (Q1 := fun e st => (e = .normal ∧ us = ws ∧ ∃ g, st = stOf 30 g [] []) ∨ Ends84 us ws e st) ?_ ?_ ?_
  · refine FRwp.seq (Q1 := fun e st => e = .normal ∧ ∃ g, st = L84 A B us.length 0 g) (FRwp.pieceY c84_ok follows 2 _ _ _ _ (r84b A B us.length g) Met.nil MetH.nil MetE.nil s84b rfl rfl (fx []) fun g => ⟨rfl, g, rfl⟩) ?_ (fun x st hne hq => absurd hq.1 hne)
    rintro st ⟨-, g, rfl⟩
    refine FRwp.block ?_
    refine FRwp.loop (fun k st => ∃ i g, i ≤ us.length ∧ k = us.length - i ∧ us.take i = ws.take i ∧ st = L84 A B us.length i g) ?_ (k := us.length) ⟨0, g, Nat.zero_le _, rfl, rfl, rfl⟩
    rintro k st ⟨i, g, hi, rfl, ht, rfl⟩
    cases h9 : decide (i < us.length) with
    | false =>
      have hii : i = us.length := by have := of_decide_eq_false h9; omega
      refine FRwp.pieceY c84_ok follows 0 _ _ _ _ (r84x A B us.length i g) (Met.cons (ltO_ok h9) Met.nil) MetH.nil MetE.nil s84c rfl rfl (noFix _) fun g' => .inr ⟨by simp, ?_⟩
      show (if (0 : Nat) = 0 then _ else _)
      rw [if_pos rfl]
      refine .inl ⟨rfl, ?_, g', rfl⟩
      rw [hii, List.take_length, hl, List.take_length] at ht
      exact ht
    | true =>
      have hlt := of_decide_eq_true h9
      obtain ⟨x, hx⟩ : ∃ x, us[i]? = some x := ⟨_, List.getElem?_eq_getElem hlt⟩
      obtain ⟨y, hy⟩ : ∃ y, ws[i]? = some y := ⟨_, List.getElem?_eq_getElem (by omega)⟩
      have hlx : lexI us ws = bif decide (x < y) then -1 else bif decide (x > y) then 1 else lexI (us.drop (i + 1)) (ws.drop (i + 1)) := by
        rw [lex_skip ht (by omega) (by omega), drop_get hx, drop_get hy]; rfl
      have m1 : ∀ {l}, Met l → Met (ltO i us.length true :: ixI 0 us.length i :: ldO (h84 A B).get 3 0 i (.int .i64 x) :: ixI 1 us.length i :: ldO (h84 A B).get 3 1 i (.int .i64 y) :: l) := fun h => Met.cons (ltO_ok h9) (Met.cons (ixI_ok hlt) (Met.cons (ldA_ok hA gA hx) (Met.cons (ixI_ok hlt) (Met.cons (ldA_ok hB gB hy) h))))
      have m2 : ∀ {l}, Met l → Met (ixI 0 us.length i :: ldO (h84 A B).get 3 0 i (.int .i64 x) :: ixI 1 us.length i :: ldO (h84 A B).get 3 1 i (.int .i64 y) :: l) := fun h => Met.cons (ixI_ok hlt) (Met.cons (ldA_ok hA gA hx) (Met.cons (ixI_ok hlt) (Met.cons (ldA_ok hB gB hy) h)))
      cases hxy : decide (x < y) with
      | true =>
        rw [hxy] at hlx
        refine FRwp.pieceY c84_ok follows 0 _ _ _ _ (r84l A B us.length i x y g) (m1 (Met.cons (bool_ok hxy) Met.nil)) MetH.nil MetE.nil s84c rfl rfl (noFix _) fun g' => .inr ⟨by simp, ?_⟩
        exact .inr ⟨rfl, g', by rw [hlx]; rfl⟩
      | false =>
        rw [hxy] at hlx
        cases hyx : decide (x > y) with
        | true =>
          rw [hyx] at hlx
          refine FRwp.pieceY c84_ok follows 0 _ _ _ _ (r84g A B us.length i x y g) (m1 (Met.cons (bool_ok hxy) (m2 (Met.cons (bool_ok hyx) Met.nil)))) MetH.nil MetE.nil s84c rfl rfl (noFix _) fun g' => .inr ⟨by simp, ?_⟩
          exact .inr ⟨rfl, g', by rw [hlx]; rfl⟩
        | false =>
          have hxe : x = y := by have := of_decide_eq_false hxy; have := of_decide_eq_false hyx; omega
          refine FRwp.pieceY c84_ok follows 2 _ _ _ _ (r84e A B us.length i x y g) (m1 (Met.cons (bool_ok hxy) (m2 (Met.cons (bool_ok hyx) (Met.cons (wrap_up (by omega)) Met.nil))))) MetH.nil MetE.nil s84c rfl rfl (fx []) fun g' => .inl ⟨rfl, us.length - (i + 1), by omega, i + 1, g', by omega, rfl, ?_, rfl⟩
          rw [List.take_add_one, List.take_add_one, hx, hy, ht, hxe]
  · rintro st (⟨-, rfl, g, rfl⟩ | ⟨h, -⟩)
    · refine FRwp.pieceY c84_ok follows 0 _ _ _ _ (r84d g) Met.nil MetH.nil MetE.nil s84d rfl rfl (noFix _) fun g => ⟨rfl, g, ?_⟩
      have e : ∀ l : List Int, lexI l l = 0 := fun l => by
        have := lex_skip (us := l) (ws := l) (i := l.length) rfl (Nat.le_refl _) (Nat.le_refl _)
        rw [this, List.drop_length]; rfl
      rw [e]
    · cases h
  · rintro e st hne (⟨h, -⟩ | h)
    · exact absurd h hne
    · exact h
open Classical in
noncomputable def G84 : HeapFn := fun args hp => match args with
  | [s, t] => if h : ∃ p : List Int × List Int, ∃ b1 b2, s = newI b1 p.1.length ∧ t = newI b2 p.1.length ∧ p.1.length = p.2.length ∧ p.1.length < 1000000 ∧ b1 ≠ b2 ∧ hp.get b1 = some (iB p.1) ∧ hp.get b2 = some (iB p.2)
      then some (.int .i64 (lexI h.choose.1 h.choose.2), heapOf ([] ++ [.dead]) hp) else none
  | _ => none
theorem hkG84 : CallGoal Try.prog 84 G84 := scan_goal follows Try.func84 body84 (by kernel_rfl) fun args hp v hp' h hk => by
  rw [ntmps84]
  unfold G84 at h
  split at h
  case h_2 => cases h
  rename_i s t
  split at h
  case isFalse => cases h
  rename_i hx
  cases h
  have hs := hx.choose_spec
  generalize hx.choose = p at *
  obtain ⟨us, ws⟩ := p
  obtain ⟨b1, b2, rfl, rfl, hl, hn, hne, h1, h2⟩ := hs
  have hbe : Nat.beq b1 b2 = false := by
    cases e : Nat.beq b1 b2 with
    | false => rfl
    | true => exact absurd (Nat.eq_of_beq_eq_true e) hne
  refine ⟨[b1, b2], [], [], rfl, rfl, by simp [nodupB, hbe], rfl, fun b' hb' => ?_, rfl, (by simp), fun W => ?_⟩
  · have : b' = b1 ∨ b' = b2 := by simpa using hb'
    rcases this with rfl | rfl
    · exact ⟨_, h1, inert_start (iB_inert _)⟩
    · exact ⟨_, h2, inert_start (iB_inert _)⟩
  · have e1 : [newI b1 us.length, newI b2 us.length].map (sh3 [b1, b2] 0) = [newI 0 us.length, newI 1 us.length] := by simp [sh3, sh2, sh1, rho, idxOf, newI, hbe]
    have e2 : startHp [b1, b2] hp = heapOf [.cells 3 (us.map icell) true, .cells 3 (ws.map icell) true, .dead] hp0 := start2 h1 h2 (iB_inert _) (iB_inert _)
    rw [e1, e2]
    have hr := fr84 (.cells 3 (us.map icell) true) (.cells 3 (ws.map icell) true) us ws ⟨3, true, rfl⟩ ⟨3, true, rfl⟩ hl hn W
    refine FRwp.mono hr fun e st q => ?_
    obtain ⟨rfl, g, rfl⟩ := q
    exact ⟨.inr rfl, rfl, _, q84 _ _ g, rfl, (fun b hb => by cases hb), rfl, rfl⟩
theorem G84_of {us ws : List Int} {b1 b2 : Nat} {hp : Hp} (hl : us.length = ws.length) (hn : us.length < 1000000) (hne : b1 ≠ b2) (h1 : hp.get b1 = some (iB us)) (h2 : hp.get b2 = some (iB ws)) :
    G84 [newI b1 us.length, newI b2 us.length] hp = some (.int .i64 (lexI us ws), heapOf [.dead] hp) := by
  have hx : ∃ p : List Int × List Int, ∃ c1 c2, newI b1 us.length = newI c1 p.1.length ∧ newI b2 us.length = newI c2 p.1.length ∧ p.1.length = p.2.length ∧ p.1.length < 1000000 ∧ c1 ≠ c2 ∧ hp.get c1 = some (iB p.1) ∧ hp.get c2 = some (iB p.2) := ⟨(us, ws), b1, b2, rfl, rfl, hl, hn, hne, h1, h2⟩
  have inj : ∀ {a b : List Int}, iB a = iB b → a = b := fun {a b} h => by
    have h' : a.map icell = b.map icell := by unfold iB at h; injection h
    exact (List.map_inj_right (fun x y e => by unfold icell at e; injection e)).1 h'
  have hs : hx.choose = (us, ws) := by
    obtain ⟨c1, c2, e1, e2, -, -, -, q1, q2⟩ := hx.choose_spec
    have d1 : b1 = c1 := by unfold newI at e1; injection e1 with e; injection e with e; injection e
    have d2 : b2 = c2 := by unfold newI at e2; injection e2 with e; injection e with e; injection e
    subst d1; subst d2
    rw [h1] at q1; rw [h2] at q2
    have p1 := inj (Option.some.inj q1)
    have p2 := inj (Option.some.inj q2)
    exact Prod.ext p1.symm p2.symm
  unfold G84
  simp only
  rw [dif_pos hx, hs]; rfl

/-! ### Less -/
/-- The same, by looking at the blocks. -/
def unI : List Value → Option (List Int)
  | [] => some []
  | .int .i64 z :: l => match unI l with
    | some us => some (z :: us)
    | none => none
  | _ => none
theorem unI_some : ∀ {l : List Value} {us : List Int}, unI l = some us → l = us.map icell
  | [], us, h => by cases h; rfl
  | v :: l, us, h => by
    unfold unI at h
    split at h
    · rename_i heq; cases heq
    · rename_i z l' heq
      cases heq
      split at h
      · rename_i us' h'
        cases h
        rw [unI_some h']; rfl
      · cases h
    · cases h
def C84 : HeapFn := fun args hp => match args with
  | [.slice (some a) n 4, .slice (some b) m 4] => match hp.get a.block, hp.get b.block with
    | some (.cells 3 L false), some (.cells 3 R false) => match unI L, unI R with
      | some us, some ws => match a.spot, b.spot, Nat.beq a.off 0 && Nat.beq b.off 0 && Nat.beq n us.length && Nat.beq m n && Nat.beq ws.length n && Nat.blt n 1000000 && !Nat.beq a.block b.block with
        | none, none, true => some (.int .i64 (lexI us ws), heapOf [.dead] hp)
        | _, _, _ => none
      | _, _ => none
    | _, _ => none
  | _ => none
theorem hkC84 : CallGoal Try.prog 84 C84 := by
  intro args hp v hp' he hk
  refine hkG84 args hp v hp' ?_ hk
  unfold C84 at he
  split at he
  case h_2 => cases he
  rename_i a n b m
  split at he
  case h_2 => cases he
  rename_i L R hL hR
  split at he
  case h_2 => cases he
  rename_i us ws hu hw
  split at he
  case h_2 => cases he
  rename_i ha hb hc
  cases he
  simp only [Bool.and_eq_true, Nat.blt_eq, Bool.not_eq_true'] at hc
  obtain ⟨⟨⟨⟨⟨⟨c1, c2⟩, c3⟩, c4⟩, c5⟩, c6⟩, c7⟩ := hc
  replace c1 := Nat.eq_of_beq_eq_true c1
  replace c2 := Nat.eq_of_beq_eq_true c2
  replace c3 := Nat.eq_of_beq_eq_true c3
  replace c4 := Nat.eq_of_beq_eq_true c4
  replace c5 := Nat.eq_of_beq_eq_true c5
  obtain ⟨ab, ao, as'⟩ := a
  obtain ⟨bb, bo, bs'⟩ := b
  simp only at ha hb c1 c2 c7 hL hR
  subst ha; subst hb; subst c1; subst c2; subst c4; subst c3
  rw [unI_some hu] at hL
  rw [unI_some hw] at hR
  exact G84_of c5.symm c6 (fun e => by subst e; simp at c7) hL hR
noncomputable def row5 (x : ViewV) : List Int := [x.t, x.o, x.r, x.d, x.i]
noncomputable def E65 : Ext := extG (extH Try.prog [(64, g64)]) [(84, C84)]
theorem E65_ok : ExtOk Try.prog E65 := extG_ok (extH_ok (.cons hk64 (.nil))) (.cons hkC84 (.nil))
noncomputable def c65 : CallF := aCall Try.prog E65 60
theorem c65_ok : CallOk Try.prog c65 := aCall_sound E65_ok follows 60
noncomputable def fb65 : Code := (Try.f65.body).getD .skip
theorem body65 : Try.f65.body = some fb65 := by kernel_rfl
theorem ntmps65 : Try.f65.ntmps = 19 := by kernel_rfl
theorem s65 : codeSafe Try.prog 19 fb65 = true := by kernel_rfl
theorem q65 (v : Value) (O : List Blk) (g : Nat → Value) : retVal Try.prog Try.f65 (stOf 19 g [(4, v)] O) = some v := by kernel_rfl
section
variable (x y : ViewV) (z : Int) (b : Bool)
noncomputable def toV (x : ViewV) (b : Bool) : Obl := (some (.bool (toldV x)), .bool b)
theorem toV_ok {x : ViewV} {b : Bool} (h : toldV x = b) : (toV x b).1 = some (toV x b).2 := by show some (Value.bool (toldV x)) = _; rw [h]; rfl
theorem r65f : (execE Try.prog c65 [(6, .bool false)] [] [] 20 fb65 ⟨tmsOf [hcA x, hcA y] 0 .leaf, hp0, []⟩).map (fun z => (look2 0 [] [4] (z.1, z.2.1), z.2.2)) =
    some ((.ret, [], [(4, .bool false)], true), [toV x false], [], []) := by kernel_rfl
theorem r65g : (execE Try.prog c65 [(6, .bool true), (9, .bool false)] [] [] 20 fb65 ⟨tmsOf [hcA x, hcA y] 0 .leaf, hp0, []⟩).map (fun z => (look2 0 [] [4] (z.1, z.2.1), z.2.2)) =
    some ((.ret, [], [(4, .bool false)], true), [toV x true, toV y false], [], []) := by kernel_rfl
theorem r65t : (execE Try.prog c65 [(6, .bool true), (9, .bool true), (17, .bool b)] [] [] 20 fb65 ⟨tmsOf [hcA x, hcA y] 0 .leaf, hp0, []⟩).map (fun z => (look2 0 [] [4] (z.1, z.2.1), z.2.2)) =
    some ((.ret, [], [(4, .bool b)], true), [(some (hcA y), hcA y), toV x true, toV y true, (some (.bool (decide (lexI (row5 x) (row5 y) < 0))), .bool b)], [], []) := by kernel_rfl
end
theorem lex5 (x y : ViewV) : lexI (row5 x) (row5 y) < 0 ↔ Lex x y := by
  unfold Lex row5
  have st : ∀ (a b : Int) (u w : List Int), lexI (a :: u) (b :: w) < 0 ↔ a < b ∨ (a = b ∧ lexI u w < 0) := fun a b u w => by
    show (bif decide (a < b) then -1 else bif decide (a > b) then 1 else lexI u w) < 0 ↔ _
    cases h1 : decide (a < b) with
    | true => have := of_decide_eq_true h1; simp; omega
    | false =>
      have h1' := of_decide_eq_false h1
      cases h2 : decide (a > b) with
      | true => have := of_decide_eq_true h2; simp; omega
      | false =>
        have h2' := of_decide_eq_false h2
        have : a = b := by omega
        subst this
        simp
  rw [st, st, st, st, st]
  have e0 : ¬ lexI [] [] < 0 := by show ¬ ((0 : Int) < 0); omega
  simp [e0]
theorem less5 (x y : ViewV) : (toldV x && (toldV y && decide (lexI (row5 x) (row5 y) < 0))) = ltV x y := by
  cases hx : toldV x with
  | false =>
    cases e : ltV x y with
    | false => rfl
    | true => have := (lt_kn e).1; rw [toldV_kn.2 this] at hx; cases hx
  | true =>
    cases hy : toldV y with
    | false =>
      cases e : ltV x y with
      | false => rfl
      | true => have := (lt_kn e).2; rw [toldV_kn.2 this] at hy; cases hy
    | true =>
      have := ltV_lex (toldV_kn.1 hx) (toldV_kn.1 hy)
      cases e : ltV x y with
      | true => rw [decide_eq_true ((lex5 x y).2 (this.1 e))]; rfl
      | false =>
        have n : ¬ Lex x y := fun h => by rw [this.2 h] at e; cases e
        rw [decide_eq_false fun h => n ((lex5 x y).1 h)]; rfl
theorem fr65 (x y : ViewV) (W : Base) : FRwp Try.prog 19 W fb65 ⟨tmsOf [hcA x, hcA y] 0 .leaf, hp0, []⟩ (fun e st => (e = .normal ∨ e = .ret) ∧ st.df = [] ∧ retVal Try.prog Try.f65 st = some (.bool (ltV x y))) := by
  have h := less5 x y
  cases hx : toldV x with
  | false =>
    rw [hx] at h
    have h' : ltV x y = false := h.symm
    rw [h']
    exact FRwp.pieceY c65_ok follows 0 _ _ _ _ (r65f x y) (Met.cons (toV_ok hx) Met.nil) MetH.nil MetE.nil s65 rfl rfl (noFix _) fun g => ⟨.inr rfl, rfl, q65 _ _ g⟩
  | true =>
    rw [hx] at h
    cases hy : toldV y with
    | false =>
      rw [hy] at h
      have h' : ltV x y = false := h.symm
      rw [h']
      exact FRwp.pieceY c65_ok follows 0 _ _ _ _ (r65g x y) (Met.cons (toV_ok hx) (Met.cons (toV_ok hy) Met.nil)) MetH.nil MetE.nil s65 rfl rfl (noFix _) fun g => ⟨.inr rfl, rfl, q65 _ _ g⟩
    | true =>
      rw [hy] at h
      have h' : decide (lexI (row5 x) (row5 y) < 0) = ltV x y := h
      exact FRwp.pieceY c65_ok follows 0 _ _ _ _ (r65t x y (ltV x y)) (Met.cons rfl (Met.cons (toV_ok hx) (Met.cons (toV_ok hy) (Met.cons (bool_ok h') Met.nil)))) MetH.nil MetE.nil s65 rfl rfl (noFix _) fun g => ⟨.inr rfl, rfl, q65 _ _ g⟩
theorem hk65 : HookGoal Try.prog 65 g17 := hook_fr Try.func65 (by kernel_rfl) body65 ntmps65 fun args v h => by
  unfold g17 at h
  split at h
  · rename_i c0 c1
    split at h
    · rename_i ec0 ec1
      cases h
      obtain rfl := arr_of ec0
      obtain rfl := arr_of ec1
      refine ⟨rfl, rfl, by simp, fun W => ?_⟩
      exact fr65 ⟨0, _, _, _, _, _, _⟩ ⟨0, _, _, _, _, _, _⟩ W
    · cases h
  · cases h
end Go.Proofs.Ytiogdklmhpllfaa.LtA
namespace Go.Proofs.Ytiogdklmhpllfaa.LtA
open Go Go.Proofs Go.Proofs.Ytiogdklmhpllfaa.AI Go.RowKit Go.Proofs.Ytiogdklmhpllfaa.Sort

noncomputable def E35 : Ext := extH Try.prog [(64, g64), (65, g17)]
theorem E35_ok : ExtOk Try.prog E35 := extH_ok (.cons hk64 (.cons hk65 (.nil)))
noncomputable def c35 : CallF := aCall Try.prog E35 5
theorem c35_ok : CallOk Try.prog c35 := aCall_sound E35_ok follows 5
noncomputable def fb35 : Code := (Try.f35.body).getD .skip
noncomputable def p35 : Nat → Code
  | 0 => fb35
  | n + 1 => sR (p35 n)
noncomputable def c35a : Code := sL (p35 0)
noncomputable def c35b : Code := sL (p35 1)
noncomputable def c35c : Code := sL (p35 2)
noncomputable def c35d : Code := sL (sL (p35 3))
noncomputable def c35e : Code := unL (unB (sR (sL (p35 3))))
noncomputable def c35f : Code := p35 4
noncomputable abbrev code35 : Code := .seq c35a (.seq c35b (.seq c35c (.seq (.seq c35d (.block 0 (.loop c35e))) c35f)))
theorem body35 : Try.f35.body = some code35 := by kernel_rfl
theorem ntmps35 : Try.f35.ntmps = 40 := by kernel_rfl
theorem s35a : codeSafe Try.prog 40 c35a = true := by kernel_rfl
theorem s35b : codeSafe Try.prog 40 c35b = true := by kernel_rfl
theorem s35c : codeSafe Try.prog 40 c35c = true := by kernel_rfl
theorem s35d : codeSafe Try.prog 40 c35d = true := by kernel_rfl
theorem s35e : codeSafe Try.prog 40 c35e = true := by kernel_rfl
theorem s35f : codeSafe Try.prog 40 c35f = true := by kernel_rfl
theorem q35 (x : ViewV) (b : Bool) (g : Nat → Value) : retVal Try.prog Try.f35 (stOf 40 g [(2, pb 0 0), (3, .bool b)] [vB x]) = some (.tuple #[.agg ⟨vc x⟩, .bool b]) := by kernel_rfl
theorem kk_len {f : Bool} {vs : List ViewV} {o : Blk} (h : f = false → vs = [] ∧ o = .dead) : kk f vs.length = vs.length := by
  cases f with
  | true => rfl
  | false => rw [(h rfl).1]; rfl
section
variable (f : Bool) (o : Blk) (n c i : Nat) (x y : ViewV) (b : Bool) (g : Nat → Value)
theorem r35a : (execE Try.prog c35 [] [] [] 20 c35a ⟨tmsOf [rowS 0 n c] 0 .leaf, heapOf [o, .dead] hp0, []⟩).map (fun z => (look2 1 [0, 2] [0, 2] (z.1, z.2.1), z.2.2)) =
    some ((.normal, [o, vB (zeroV 0)], [(0, rowS 0 n c), (2, pb 1 0)], true), [], [], []) := by kernel_rfl
theorem n35a : (execE Try.prog c35 [] [] [] 20 c35a ⟨tmsOf [nilS] 0 .leaf, heapOf [.dead] hp0, []⟩).map (fun z => (look2 1 [0, 1] [0, 2] (z.1, z.2.1), z.2.2)) =
    some ((.normal, [.dead, vB (zeroV 0)], [(0, nilS), (2, pb 1 0)], true), [], [], []) := by kernel_rfl
theorem r35b : (execE Try.prog c35 [] [] [] 20 c35b (stOf 40 g [(0, vS f 0 n c), (2, pb 1 0)] [o, vB (zeroV 0)])).map (fun z => (look2 1 [0, 1, 3] [0, 2, 4] (z.1, z.2.1), z.2.2)) =
    some ((.normal, [o, vB (zeroV 0), vB (zeroV 0)], [(0, vS f 0 n c), (2, pb 1 0), (4, pb 2 0)], true), [], [], []) := by cases f <;> kernel_rfl
theorem r35c : (execE Try.prog c35 [] [] [] 20 c35c (stOf 40 g [(0, vS f 0 n c), (2, pb 1 0), (4, pb 2 0)] [o, vB (zeroV 0), vB (zeroV 0)])).map (fun z => (look2 1 [0, 1, 2] [0, 2, 4, 5] (z.1, z.2.1), z.2.2)) =
    some ((.normal, [o, vB (zeroV 0), vB (zeroV 0)], [(0, vS f 0 n c), (2, pb 1 0), (4, pb 2 0), (5, .bool false)], true), [], [], []) := by cases f <;> kernel_rfl
abbrev L35 (y : ViewV) (b : Bool) (i : Nat) (g : Nat → Value) : St := (stOf 40 g [(0, vS f 0 n c), (2, pb 1 0), (4, pb 2 0), (5, .bool b), (6, iN i)] [o, vB (zeroV 0), vB y])
theorem r35d : (execE Try.prog c35 [] [] [] 20 c35d (stOf 40 g [(0, vS f 0 n c), (2, pb 1 0), (4, pb 2 0), (5, .bool false)] [o, vB (zeroV 0), vB (zeroV 0)])).map (fun z => (look2 1 [0, 1, 2] [0, 2, 4, 5, 6] (z.1, z.2.1), z.2.2)) =
    some ((.normal, [o, vB (zeroV 0), vB (zeroV 0)], [(0, vS f 0 n c), (2, pb 1 0), (4, pb 2 0), (5, .bool false), (6, iN 0)], true), [], [], []) := by cases f <;> kernel_rfl
theorem r35x : (execE Try.prog c35 [(11, .bool false)] [] [] 20 c35e (L35 f o n c y b i g)).map (fun z => (look2 0 [1, 2] [2, 4, 5] (z.1, z.2.1), z.2.2)) =
    some ((.exit 0, [vB (zeroV 0), vB y], [(2, pb 0 0), (4, pb 1 0), (5, .bool b)], true), [ltO i (kk f n) false], [], []) := by cases f <;> kernel_rfl
theorem r35f : (execE Try.prog c35 [(11, .bool true), (16, pb 0 (i * 7)), (18, hcA x), (19, .bool false), (13, iN (i + 1))] [] [] 20 c35e (L35 true o n c y b i g)).map (fun z => (look2 1 [0, 1, 2] [0, 2, 4, 5, 6] (z.1, z.2.1), z.2.2)) =
    some ((.normal, [o, vB (zeroV 0), vB y], [(0, rowS 0 n c), (2, pb 1 0), (4, pb 2 0), (5, .bool b), (6, iN (i + 1))], true), [ltO i n true, ixO 0 n c i, ldO (heapOf ([o, vB (zeroV 0), vB y] ++ [.dead]) hp0).get 23 0 (i * 7 + 1) (hcA x), toV x false, nxt29 i], [], []) := by kernel_rfl
theorem r35g : (execE Try.prog c35 [(11, .bool true), (16, pb 0 (i * 7)), (18, hcA x), (19, .bool true), (36, pb 0 (i * 7)), (37, .agg ⟨vc x⟩), (13, iN (i + 1))] [] [] 20 c35e (L35 true o n c y false i g)).map (fun z => (look2 1 [0, 1, 2] [0, 2, 4, 5, 6] (z.1, z.2.1), z.2.2)) =
    some ((.normal, [o, vB (zeroV 0), vB x], [(0, rowS 0 n c), (2, pb 1 0), (4, pb 2 0), (5, .bool true), (6, iN (i + 1))], true), [ltO i n true, ixO 0 n c i, ldO (heapOf ([o, vB (zeroV 0), vB y] ++ [.dead]) hp0).get 23 0 (i * 7 + 1) (hcA x), toV x true, ixO 0 n c i, ldO (heapOf ([o, vB (zeroV 0), vB y] ++ [.dead]) hp0).get 34 0 (i * 7) (.agg ⟨vc x⟩), nxt29 i], [], []) := by kernel_rfl
theorem r35h : (execE Try.prog c35 [(11, .bool true), (16, pb 0 (i * 7)), (18, hcA x), (19, .bool true), (26, pb 0 (i * 7)), (28, hcA x), (31, .bool true), (36, pb 0 (i * 7)), (37, .agg ⟨vc x⟩), (13, iN (i + 1))] [] [] 20 c35e (L35 true o n c y true i g)).map (fun z => (look2 1 [0, 1, 2] [0, 2, 4, 5, 6] (z.1, z.2.1), z.2.2)) =
    some ((.normal, [o, vB (zeroV 0), vB x], [(0, rowS 0 n c), (2, pb 1 0), (4, pb 2 0), (5, .bool true), (6, iN (i + 1))], true), [ltO i n true, ixO 0 n c i, ldO (heapOf ([o, vB (zeroV 0), vB y] ++ [.dead]) hp0).get 23 0 (i * 7 + 1) (hcA x), toV x true, ixO 0 n c i, ldO (heapOf ([o, vB (zeroV 0), vB y] ++ [.dead]) hp0).get 23 0 (i * 7 + 1) (hcA x), leV x y true, ixO 0 n c i, ldO (heapOf ([o, vB (zeroV 0), vB y] ++ [.dead]) hp0).get 34 0 (i * 7) (.agg ⟨vc x⟩), nxt29 i], [], []) := by kernel_rfl
theorem r35i : (execE Try.prog c35 [(11, .bool true), (16, pb 0 (i * 7)), (18, hcA x), (19, .bool true), (26, pb 0 (i * 7)), (28, hcA x), (31, .bool false), (13, iN (i + 1))] [] [] 20 c35e (L35 true o n c y true i g)).map (fun z => (look2 1 [0, 1, 2] [0, 2, 4, 5, 6] (z.1, z.2.1), z.2.2)) =
    some ((.normal, [o, vB (zeroV 0), vB y], [(0, rowS 0 n c), (2, pb 1 0), (4, pb 2 0), (5, .bool true), (6, iN (i + 1))], true), [ltO i n true, ixO 0 n c i, ldO (heapOf ([o, vB (zeroV 0), vB y] ++ [.dead]) hp0).get 23 0 (i * 7 + 1) (hcA x), toV x true, ixO 0 n c i, ldO (heapOf ([o, vB (zeroV 0), vB y] ++ [.dead]) hp0).get 23 0 (i * 7 + 1) (hcA x), leV x y false, nxt29 i], [], []) := by kernel_rfl
theorem r35j : (execE Try.prog c35 [] [] [] 20 c35f (stOf 40 g [(2, pb 0 0), (4, pb 1 0), (5, .bool b)] [vB (zeroV 0), vB y])).map (fun z => (look2 0 [0] [2, 3] (z.1, z.2.1), z.2.2)) =
    some ((.ret, [vB y], [(2, pb 0 0), (3, .bool b)], true), [], [], []) := by kernel_rfl
end
def lowR (vs : List ViewV) : Ans := fun rest => match rest with
  | [] => some (lowA vs, [])
  | _ => none
theorem run35 (vs : List ViewV) (hn : vs.length < 1000000) : ∀ rest v0 O, lowR vs rest = some (v0, O) → RowRun Try.f35 code35 40 vs rest v0 O := fun rest v0 O h => by
  unfold lowR at h
  split at h
  case h_2 => cases h
  cases h
  refine ⟨.inl rfl, rfl, (fun r hr => by cases hr), by simp, fun f o c W ho hrow hfl => ?_⟩
  have hkk := kk_len hfl
  refine FRwp.seq (Q1 := fun e st => e = .normal ∧ ∃ g, st = stOf 40 g [(0, vS f 0 vs.length c), (2, pb 1 0)] [o, vB (zeroV 0)]) ?_ ?_ (fun x st hne hq => absurd hq.1 hne)
  · cases f with
    | true => exact FRwp.pieceY c35_ok follows 1 _ _ _ _ (r35a o vs.length c) Met.nil MetH.nil MetE.nil s35a rfl rfl (fix11 ho _) fun g => ⟨rfl, g, rfl⟩
    | false =>
      obtain ⟨rfl, rfl⟩ := hfl rfl
      exact FRwp.pieceY c35_ok follows 1 _ _ _ _ (n35a) Met.nil MetH.nil MetE.nil s35a rfl rfl (fix11 rfl _) fun g => ⟨rfl, g, rfl⟩
  rintro st ⟨-, g, rfl⟩
  refine FRwp.seq (Q1 := fun e st => e = .normal ∧ ∃ g, st = stOf 40 g [(0, vS f 0 vs.length c), (2, pb 1 0), (4, pb 2 0)] [o, vB (zeroV 0), vB (zeroV 0)]) (FRwp.pieceY c35_ok follows 1 _ _ _ _ (r35b f o vs.length c g) Met.nil MetH.nil MetE.nil s35b rfl rfl (fix11 ho _) fun g => ⟨rfl, g, rfl⟩) ?_ (fun x st hne hq => absurd hq.1 hne)
  rintro st ⟨-, g, rfl⟩
  refine FRwp.seq (Q1 := fun e st => e = .normal ∧ ∃ g, st = stOf 40 g [(0, vS f 0 vs.length c), (2, pb 1 0), (4, pb 2 0), (5, .bool false)] [o, vB (zeroV 0), vB (zeroV 0)]) (FRwp.pieceY c35_ok follows 1 _ _ _ _ (r35c f o vs.length c g) Met.nil MetH.nil MetE.nil s35c rfl rfl (fix11 ho _) fun g => ⟨rfl, g, rfl⟩) ?_ (fun x st hne hq => absurd hq.1 hne)
  rintro st ⟨-, g, rfl⟩
  refine FRwp.seq (Q1 := fun x st => x = .normal ∧ ∃ g, st = stOf 40 g [(2, pb 0 0), (4, pb 1 0), (5, .bool (lowV vs).2)] [vB (zeroV 0), vB (lowV vs).1]) ?_ ?_ (fun x st hne hq => absurd hq.1 hne)
  · refine FRwp.seq (Q1 := fun x st => x = .normal ∧ ∃ g, st = L35 f o vs.length c (zeroV 0) false 0 g) (FRwp.pieceY c35_ok follows 1 _ _ _ _ (r35d f o vs.length c g) Met.nil MetH.nil MetE.nil s35d rfl rfl (fix11 ho _) fun g => ⟨rfl, g, rfl⟩) ?_ (fun x st hne hq => absurd hq.1 hne)
    rintro st ⟨-, g, rfl⟩
    refine FRwp.block ?_
    refine FRwp.loop (fun k st => ∃ i y b g, i ≤ vs.length ∧ k = vs.length - i ∧ (vs.take i).foldl lowS (zeroV 0, false) = (y, b) ∧ st = L35 f o vs.length c y b i g) ?_ (k := vs.length) ⟨0, _, _, g, Nat.zero_le _, rfl, rfl, rfl⟩
    rintro k st ⟨i, y, b, g, hi, hk, hf, rfl⟩
    cases h12 : decide (i < vs.length) with
    | false =>
      have hii : i = vs.length := by have := of_decide_eq_false h12; omega
      subst hii
      rw [List.take_length] at hf
      refine FRwp.pieceY c35_ok follows 0 _ _ _ _ (r35x f o vs.length c vs.length y b g) (Met.cons (ltO_ok (by rw [hkk]; exact h12)) Met.nil) MetH.nil MetE.nil s35e rfl rfl (noFix _) fun g' => .inr ⟨by simp, ?_⟩
      show (if (0 : Nat) = 0 then _ else _)
      rw [if_pos rfl]
      refine ⟨rfl, g', ?_⟩
      unfold lowV
      rw [hf]
    | true =>
      have hlt := of_decide_eq_true h12
      have hft : f = true := by cases f with
        | true => rfl
        | false => rw [(hfl rfl).1] at hlt; simp at hlt
      subst hft
      obtain ⟨x, hx⟩ := some_at hlt
      have hr : ∃ ty ro, o = .cells ty (vrow vs) ro := by
        rcases hrow with h | h
        · rw [h] at hlt; simp at hlt
        · exact h
      have hst := fold_step (f := lowS) (a := (zeroV 0, false)) hx
      rw [hf] at hst
      have hat : RowAt (heapOf ([o, vB (zeroV 0), vB y] ++ [.dead]) hp0) 0 vs := rowAt0 hr
      have met : ∀ {l : List Obl}, Met l → Met (ltO i vs.length true :: ixO 0 vs.length c i :: ldO (heapOf ([o, vB (zeroV 0), vB y] ++ [.dead]) hp0).get 23 0 (i * 7 + 1) (hcA x) :: l) := fun hl => Met.cons (ltO_ok h12) (Met.cons (ix_ok hlt) (Met.cons (hload_ok hat hx) hl))
      have met2 : ∀ {l : List Obl}, Met l → Met (ixO 0 vs.length c i :: ldO (heapOf ([o, vB (zeroV 0), vB y] ++ [.dead]) hp0).get 23 0 (i * 7 + 1) (hcA x) :: l) := fun hl => Met.cons (ix_ok hlt) (Met.cons (hload_ok hat hx) hl)
      have met3 : ∀ {l : List Obl}, Met l → Met (ixO 0 vs.length c i :: ldO (heapOf ([o, vB (zeroV 0), vB y] ++ [.dead]) hp0).get 34 0 (i * 7) (.agg ⟨vc x⟩) :: l) := fun hl => Met.cons (ix_ok hlt) (Met.cons (at_ok hat hx) hl)
      have hnx : Met [nxt29 i] := Met.cons (wrap_up (by omega)) Met.nil
      have leb : ∀ {b : Bool}, ltV x y = b → (leV x y b).1 = some (leV x y b).2 := fun h => by show some (Value.bool (ltV x y)) = _; rw [h]; rfl
      have go : ∀ {y' : ViewV} {b' : Bool} {g' : Nat → Value}, lowS (y, b) x = (y', b') → ∃ k', k' < k ∧ ∃ j z d g, j ≤ vs.length ∧ k' = vs.length - j ∧ (vs.take j).foldl lowS (zeroV 0, false) = (z, d) ∧ L35 true o vs.length c y' b' (i + 1) g' = L35 true o vs.length c z d j g :=
        fun {y' b' g'} h => ⟨vs.length - (i + 1), by omega, i + 1, y', b', g', by omega, rfl, by rw [hst, h], rfl⟩
      cases h17 : toldV x with
      | false =>
        refine FRwp.pieceY c35_ok follows 1 _ _ _ _ (r35f o vs.length c i x y b g) (met (Met.cons (toV_ok h17) hnx)) MetH.nil MetE.nil s35e rfl rfl (fix11 ho _) fun g' => .inl ⟨rfl, go ?_⟩
        unfold lowS; rw [h17]; rfl
      | true =>
        cases b with
        | false =>
          refine FRwp.pieceY c35_ok follows 1 _ _ _ _ (r35g o vs.length c i x y g) (met (Met.cons (toV_ok h17) (met3 hnx))) MetH.nil MetE.nil s35e rfl rfl (fix11 ho _) fun g' => .inl ⟨rfl, go ?_⟩
          unfold lowS; rw [h17]; rfl
        | true =>
          cases h26 : ltV x y with
          | true =>
            refine FRwp.pieceY c35_ok follows 1 _ _ _ _ (r35h o vs.length c i x y g) (met (Met.cons (toV_ok h17) (met2 (Met.cons (leb h26) (met3 hnx))))) MetH.nil MetE.nil s35e rfl rfl (fix11 ho _) fun g' => .inl ⟨rfl, go ?_⟩
            unfold lowS; simp only [h17, h26]; rfl
          | false =>
            refine FRwp.pieceY c35_ok follows 1 _ _ _ _ (r35i o vs.length c i x y g) (met (Met.cons (toV_ok h17) (met2 (Met.cons (leb h26) hnx)))) MetH.nil MetE.nil s35e rfl rfl (fix11 ho _) fun g' => .inl ⟨rfl, go ?_⟩
            unfold lowS; simp only [h17, h26]; rfl
  · rintro st ⟨-, g, rfl⟩
    exact FRwp.pieceY c35_ok follows 0 _ _ _ _ (r35j (lowV vs).1 (lowV vs).2 g) Met.nil MetH.nil MetE.nil s35f rfl rfl (noFix _) fun g => ⟨.inr rfl, rfl, q35 _ _ g, (fun B h => by cases h)⟩
noncomputable def G35 : HeapFn := toldR lowR
theorem hkG35 : CallGoal Try.prog 35 G35 := toldR_goal Try.func35 body35 (by kernel_rfl) ntmps35 fun vs hn => run35 vs hn
theorem G35_of {vs : List ViewV} {s : Value} {hp : Hp} (h : TN vs s hp) (hn : vs.length < 1000000) : G35 [s] hp = some (lowA vs, heapOf [.dead] hp) := toldR_none h hn rfl (by simp [sh3, sh2, sh1, lowA, vc])
end Go.Proofs.Ytiogdklmhpllfaa.LtA
namespace Go.Proofs.Ytiogdklmhpllfaa.LtA
open Go Go.Proofs Go.Proofs.Ytiogdklmhpllfaa.AI Go.RowKit Go.Proofs.Ytiogdklmhpllfaa.Sort

theorem app_any {get : Nat → Option Blk} {sz b b2 k : Nat} {ws : List ViewV} {x : ViewV} {f : Bool} (hf : f = !ws.isEmpty) (hb : get b = some (ownB ws)) (hb2 : get b2 = some (vB x)) (hk : k = ws.length) (hl : k < 2000000) :
    aAppend Try.prog get sz [29, 29] [vS f b k 22, rowS b2 1 22] = some (newS sz (k + 1), effF f b (rowB (ws ++ [x]))) := by
  cases ws with
  | cons w ws => subst hf; exact app_one hb hb2 hk hl
  | nil =>
    subst hf hk
    obtain ⟨i, hi, h7, h56⟩ := info34
    obtain ⟨z, hz, hzl⟩ := zero34
    have hb2' : get b2 = some (.cells 34 (vc x) false) := hb2
    have hsrc : aSrc Try.prog get 7 z (.slice 34) (rowS b2 1 22) = some (vc x, 1) := by
      unfold aSrc
      simp only [rowS, srcLen, srcCells, hb2']
      rw [if_neg (by omega), if_neg (by omega), getR_all (n := 1 * 7) rfl]
      rfl
    show aAppend Try.prog get sz [29, 29] [nilS, rowS b2 1 22] = some (newS sz 1, [.push (rowB [x])])
    unfold aAppend
    simp only [Try.underlying29, hi, hz, h7, h56, hzl]
    rw [if_neg (by decide)]
    simp only [hsrc]
    rw [if_neg (by simp [vc, isOne])]
    simp only [nilS]
    rw [if_neg (by omega), if_neg (by omega)]
    have e : vrow [x] = vc x := by unfold vrow; simp
    unfold rowB
    rw [e]; rfl
theorem app_anyI {get : Nat → Option Blk} {sz b b2 k : Nat} {ids : List Int} {x : Int} {f : Bool} (hf : f = !ids.isEmpty) (hb : get b = some (ownI ids)) (hb2 : get b2 = some (.cells 3 [icell x] false)) (hk : k = ids.length) (hl : k < 2000000) :
    aAppend Try.prog get sz [31, 31] [vI f b k, newI b2 1] = some (newI sz (k + 1), effF f b (iB (ids ++ [x]))) := by
  cases ids with
  | cons w ids => subst hf; exact app_int hb hb2 hk hl
  | nil =>
    subst hf hk
    obtain ⟨i, hi, h1, h8⟩ := info3
    obtain ⟨z, hz, hzl⟩ := zero3
    have hsrc : aSrc Try.prog get 1 z (.slice 3) (newI b2 1) = some ([icell x], 1) := by
      unfold aSrc newI
      simp only [srcLen, srcCells, hb2]
      rw [if_neg (by omega), if_neg (by omega), getR_all (n := 1 * 1) rfl]
      rfl
    show aAppend Try.prog get sz [31, 31] [nilS, newI b2 1] = some (newI sz 1, [.push (iB [x])])
    unfold aAppend
    simp only [underlying31, hi, hz, h1, h8, hzl]
    rw [if_neg (by decide)]
    simp only [hsrc]
    rw [if_neg (by simp [isOne, icell])]
    simp only [nilS]
    rw [if_neg (by omega), if_neg (by omega)]
    rfl
noncomputable def apV (h : Hp) (sz b k b2 : Nat) (f : Bool) (us : List ViewV) : OblE := (aAppend Try.prog h.get sz [29, 29] [vS f b k 22, rowS b2 1 22], (newS sz (k + 1), effF f b (rowB us)))
noncomputable def apI (h : Hp) (sz b k b2 : Nat) (f : Bool) (us : List Int) : OblE := (aAppend Try.prog h.get sz [31, 31] [vI f b k, newI b2 1], (newI sz (k + 1), effF f b (iB us)))
noncomputable def E66 : Ext := extH Try.prog [(65, g17)]
theorem E66_ok : ExtOk Try.prog E66 := extH_ok (.cons hk65 (.nil))
noncomputable def c66 : CallF := aCall Try.prog E66 5
theorem c66_ok : CallOk Try.prog c66 := aCall_sound E66_ok follows 5
noncomputable def fb66 : Code := (Try.f66.body).getD .skip
noncomputable def p66 : Nat → Code
  | 0 => fb66
  | n + 1 => sR (p66 n)
noncomputable def c66a : Code := sL (p66 0)
noncomputable def c66b : Code := sL (p66 1)
noncomputable def c66c : Code := sL (sL (p66 2))
noncomputable def c66d : Code := unL (unB (sR (sL (p66 2))))
noncomputable def c66e : Code := sL (p66 3)
noncomputable def c66f : Code := sL (sL (p66 4))
noncomputable def c66g : Code := unL (unB (sR (sL (p66 4))))
noncomputable def c66h : Code := p66 5
noncomputable abbrev code66 : Code := .seq c66a (.seq c66b (.seq (.seq c66c (.block 0 (.loop c66d))) (.seq c66e (.seq (.seq c66f (.block 4 (.loop c66g))) c66h))))
theorem body66 : Try.f66.body = some code66 := by kernel_rfl
theorem ntmps66 : Try.f66.ntmps = 76 := by kernel_rfl
theorem s66a : codeSafe Try.prog 76 c66a = true := by kernel_rfl
theorem s66b : codeSafe Try.prog 76 c66b = true := by kernel_rfl
theorem s66c : codeSafe Try.prog 76 c66c = true := by kernel_rfl
theorem s66d : codeSafe Try.prog 76 c66d = true := by kernel_rfl
theorem s66e : codeSafe Try.prog 76 c66e = true := by kernel_rfl
theorem s66f : codeSafe Try.prog 76 c66f = true := by kernel_rfl
theorem s66g : codeSafe Try.prog 76 c66g = true := by kernel_rfl
theorem s66h : codeSafe Try.prog 76 c66h = true := by kernel_rfl
noncomputable def d66a : Code := sL c66d
noncomputable def d66x : Code := unB (sL (sR c66d))
noncomputable def d66z : Code := sR (sR c66d)
noncomputable def d66b : Code := sL d66x
noncomputable def d66c : Code := sL (sR d66x)
noncomputable def d66d : Code := sL (sL (sR (sR d66x)))
noncomputable def d66e : Code := unL (unB (sR (sL (sR (sR d66x)))))
noncomputable def d66f : Code := sR (sR (sR d66x))
theorem d66_eq : c66d = .seq d66a (.seq (.block 1 (.seq d66b (.seq d66c (.seq (.seq d66d (.block 2 (.loop d66e))) d66f)))) d66z) := by kernel_rfl
theorem t66a : codeSafe Try.prog 76 d66a = true := by kernel_rfl
theorem t66b : codeSafe Try.prog 76 d66b = true := by kernel_rfl
theorem t66c : codeSafe Try.prog 76 d66c = true := by kernel_rfl
theorem t66d : codeSafe Try.prog 76 d66d = true := by kernel_rfl
theorem t66e : codeSafe Try.prog 76 d66e = true := by kernel_rfl
theorem t66f : codeSafe Try.prog 76 d66f = true := by kernel_rfl
theorem t66z : codeSafe Try.prog 76 d66z = true := by kernel_rfl
theorem q66 (v : Value) (O : List Blk) (g : Nat → Value) : retVal Try.prog Try.f66 (stOf 76 g [(2, v)] O) = some v := by kernel_rfl
section
variable (f fu fm d fi : Bool) (o U M I : Blk) (n c u m i k q j : Nat) (x w : ViewV) (us ws zs ys : List ViewV) (ids jds : List Int) (g : Nat → Value)
theorem r66a : (execE Try.prog c66 [] [] [] 20 c66a ⟨tmsOf [rowS 0 n c] 0 .leaf, heapOf [o, .dead] hp0, []⟩).map (fun z => (look2 1 [0] [0] (z.1, z.2.1), z.2.2)) =
    some ((.normal, [o], [(0, rowS 0 n c)], true), [], [], []) := by kernel_rfl
theorem n66a : (execE Try.prog c66 [] [] [] 20 c66a ⟨tmsOf [nilS] 0 .leaf, heapOf [.dead] hp0, []⟩).map (fun z => (look2 1 [0] [0] (z.1, z.2.1), z.2.2)) =
    some ((.normal, [.dead], [(0, nilS)], true), [], [], []) := by kernel_rfl
theorem r66b : (execE Try.prog c66 [] [] [] 20 c66b (stOf 76 g [(0, vS f 0 n c)] [o])).map (fun z => (look2 2 [0, 1] [0, 3] (z.1, z.2.1), z.2.2)) =
    some ((.normal, [o, .dead], [(0, vS f 0 n c), (3, nilS)], true), [], [], []) := by cases f <;> kernel_rfl
theorem r66c : (execE Try.prog c66 [] [] [] 20 c66c (stOf 76 g [(0, vS f 0 n c), (3, nilS)] [o, .dead])).map (fun z => (look2 2 [0, 1] [0, 3, 4] (z.1, z.2.1), z.2.2)) =
    some ((.normal, [o, .dead], [(0, vS f 0 n c), (3, nilS), (4, iN 0)], true), [], [], []) := by cases f <;> kernel_rfl
abbrev O66 (U : Blk) (fu : Bool) (u i : Nat) (g : Nat → Value) : St := (stOf 76 g [(0, vS f 0 n c), (3, vS fu 1 u 22), (4, iN i)] [o, U])
theorem r66x : (execE Try.prog c66 [(13, .bool false)] [] [] 20 c66d (O66 f o n c U fu u i g)).map (fun z => (look2 1 [1] [3] (z.1, z.2.1), z.2.2)) =
    some ((.exit 0, [U], [(3, vS fu 0 u 22)], true), [ltO i (kk f n) false], [], []) := by cases f <;> cases fu <;> kernel_rfl
theorem r66da : (execE Try.prog c66 [(13, .bool true)] [] [] 20 d66a (O66 true o n c U fu u i g)).map (fun z => (look2 2 [0, 1] [0, 3, 4] (z.1, z.2.1), z.2.2)) =
    some ((.normal, [o, U], [(0, rowS 0 n c), (3, vS fu 1 u 22), (4, iN i)], true), [ltO i n true], [], []) := by cases fu <;> kernel_rfl
theorem r66db : (execE Try.prog c66 [] [] [] 20 d66b (O66 true o n c U fu u i g)).map (fun z => (look2 3 [0, 1, 2] [0, 3, 4, 5] (z.1, z.2.1), z.2.2)) =
    some ((.normal, [o, U, .dead], [(0, rowS 0 n c), (3, vS fu 1 u 22), (4, iN i), (5, nilS)], true), [], [], []) := by cases fu <;> kernel_rfl
theorem r66dc : (execE Try.prog c66 [] [] [] 20 d66c (stOf 76 g [(0, rowS 0 n c), (3, vS fu 1 u 22), (4, iN i), (5, nilS)] [o, U, .dead])).map (fun z => (look2 3 [0, 1, 2] [0, 3, 4, 5, 6] (z.1, z.2.1), z.2.2)) =
    some ((.normal, [o, U, .dead], [(0, rowS 0 n c), (3, vS fu 1 u 22), (4, iN i), (5, nilS), (6, .bool false)], true), [], [], []) := by cases fu <;> kernel_rfl
theorem r66dd : (execE Try.prog c66 [] [] [] 20 d66d (stOf 76 g [(0, rowS 0 n c), (3, vS fu 1 u 22), (4, iN i), (5, nilS), (6, .bool false)] [o, U, .dead])).map (fun z => (look2 3 [0, 1, 2] [0, 3, 4, 5, 6, 7] (z.1, z.2.1), z.2.2)) =
    some ((.normal, [o, U, .dead], [(0, rowS 0 n c), (3, vS fu 1 u 22), (4, iN i), (5, nilS), (6, .bool false), (7, iN 0)], true), [], [], []) := by cases fu <;> kernel_rfl
abbrev J66 (U M : Blk) (fu fm d : Bool) (u m i : Nat) (g : Nat → Value) : St := (stOf 76 g [(0, rowS 0 n c), (3, vS fu 1 u 22), (4, iN i), (5, vS fm 2 m 22), (6, .bool d)] [o, U, M])
abbrev I66 (U M : Blk) (fu fm d : Bool) (u m i k : Nat) (g : Nat → Value) : St := (stOf 76 g [(0, rowS 0 n c), (3, vS fu 1 u 22), (4, iN i), (5, vS fm 2 m 22), (6, .bool d), (7, iN k)] [o, U, M])
theorem r66ex : (execE Try.prog c66 [(19, .bool false)] [] [] 20 d66e (I66 o n c U M fu fm d u m i k g)).map (fun z => (look2 3 [0, 1, 2] [0, 3, 4, 5, 6] (z.1, z.2.1), z.2.2)) =
    some ((.exit 2, [o, U, M], [(0, rowS 0 n c), (3, vS fu 1 u 22), (4, iN i), (5, vS fm 2 m 22), (6, .bool d)], true), [ltO k (kk fu u) false], [], []) := by cases fu <;> cases fm <;> kernel_rfl
def h66 (o U M : Blk) : Hp := heapOf ([o, U, M] ++ [.dead]) hp0
noncomputable def h66a (o U M : Blk) (fm : Bool) (x : ViewV) (zs : List ViewV) : Hp := ((h66 o U M).push (vB x)).eff (effF fm 2 (rowB zs))
theorem r66eA : (execE Try.prog c66 [(19, .bool true), (27, pb 0 (i * 7)), (29, hcA x), (32, pb 1 (k * 7)), (34, hcA w), (35, .bool true), (40, pb 0 (i * 7)), (41, .agg ⟨vc x⟩), (47, pb 1 (k * 7)), (48, .agg ⟨vc w⟩), (21, iN (k + 1))] [] [(43, newS 5 (m + 1), effF fm 2 (rowB zs)), (50, newS 7 (m + 1 + 1), effF true 5 (rowB ys))] 20 d66e (I66 o n c U M true fm false u m i k g)).map (fun z => (look2 3 [0, 1, 7] [0, 3, 4, 5, 6, 7] (z.1, z.2.1), z.2.2)) =
    some ((.normal, [o, U, rowB ys], [(0, rowS 0 n c), (3, newS 1 u), (4, iN i), (5, newS 2 (m + 1 + 1)), (6, .bool true), (7, iN (k + 1))], true), [ltO k u true, ixO 0 n c i, ldO (h66 o U M).get 23 0 (i * 7 + 1) (hcA x), ixO 1 u 22 k, ldO (h66 o U M).get 23 1 (k * 7 + 1) (hcA w), leV x w true, ixO 0 n c i, ldO (h66 o U M).get 34 0 (i * 7) (.agg ⟨vc x⟩), ixO 1 u 22 k, ldO (h66a o U M fm x zs).get 34 1 (k * 7) (.agg ⟨vc w⟩), nxt29 k], [], [apV ((h66 o U M).push (vB x)) 5 2 m 4 fm zs, apV ((h66a o U M fm x zs).push (vB w)) 7 5 (m + 1) 6 true ys]) := by cases fm <;> kernel_rfl
theorem r66eB : (execE Try.prog c66 [(19, .bool true), (27, pb 0 (i * 7)), (29, hcA x), (32, pb 1 (k * 7)), (34, hcA w), (35, .bool false), (47, pb 1 (k * 7)), (48, .agg ⟨vc w⟩), (21, iN (k + 1))] [] [(50, newS 5 (m + 1), effF fm 2 (rowB zs))] 20 d66e (I66 o n c U M true fm false u m i k g)).map (fun z => (look2 3 [0, 1, 5] [0, 3, 4, 5, 6, 7] (z.1, z.2.1), z.2.2)) =
    some ((.normal, [o, U, rowB zs], [(0, rowS 0 n c), (3, newS 1 u), (4, iN i), (5, newS 2 (m + 1)), (6, .bool false), (7, iN (k + 1))], true), [ltO k u true, ixO 0 n c i, ldO (h66 o U M).get 23 0 (i * 7 + 1) (hcA x), ixO 1 u 22 k, ldO (h66 o U M).get 23 1 (k * 7 + 1) (hcA w), leV x w false, ixO 1 u 22 k, ldO (h66 o U M).get 34 1 (k * 7) (.agg ⟨vc w⟩), nxt29 k], [], [apV ((h66 o U M).push (vB w)) 5 2 m 4 fm zs]) := by cases fm <;> kernel_rfl
theorem r66eC : (execE Try.prog c66 [(19, .bool true), (47, pb 1 (k * 7)), (48, .agg ⟨vc w⟩), (21, iN (k + 1))] [] [(50, newS 5 (m + 1), effF fm 2 (rowB zs))] 20 d66e (I66 o n c U M true fm true u m i k g)).map (fun z => (look2 3 [0, 1, 5] [0, 3, 4, 5, 6, 7] (z.1, z.2.1), z.2.2)) =
    some ((.normal, [o, U, rowB zs], [(0, rowS 0 n c), (3, newS 1 u), (4, iN i), (5, newS 2 (m + 1)), (6, .bool true), (7, iN (k + 1))], true), [ltO k u true, ixO 1 u 22 k, ldO (h66 o U M).get 34 1 (k * 7) (.agg ⟨vc w⟩), nxt29 k], [], [apV ((h66 o U M).push (vB w)) 5 2 m 4 fm zs]) := by cases fm <;> kernel_rfl
theorem r66fD : (execE Try.prog c66 [(56, pb 0 (i * 7)), (57, .agg ⟨vc x⟩)] [] [(59, newS 5 (m + 1), effF fm 2 (rowB zs))] 20 d66f (J66 o n c U M fu fm false u m i g)).map (fun z => (look2 2 [0, 5] [0, 3, 4] (z.1, z.2.1), z.2.2)) =
    some ((.normal, [o, rowB zs], [(0, rowS 0 n c), (3, newS 1 (m + 1)), (4, iN i)], true), [ixO 0 n c i, ldO (h66 o U M).get 34 0 (i * 7) (.agg ⟨vc x⟩)], [], [apV ((h66 o U M).push (vB x)) 5 2 m 4 fm zs]) := by cases fu <;> cases fm <;> kernel_rfl
theorem r66fE : (execE Try.prog c66 [] [] [] 20 d66f (J66 o n c U M fu true true u m i g)).map (fun z => (look2 2 [0, 2] [0, 3, 4] (z.1, z.2.1), z.2.2)) =
    some ((.normal, [o, M], [(0, rowS 0 n c), (3, newS 1 m), (4, iN i)], true), [], [], []) := by cases fu <;> kernel_rfl
theorem r66z : (execE Try.prog c66 [(15, iN (i + 1))] [] [] 20 d66z (O66 true o n c U true u i g)).map (fun z => (look2 2 [0, 1] [0, 3, 4] (z.1, z.2.1), z.2.2)) =
    some ((.normal, [o, U], [(0, rowS 0 n c), (3, newS 1 u), (4, iN (i + 1))], true), [nxt29 i], [], []) := by kernel_rfl
theorem r66e : (execE Try.prog c66 [] [] [] 20 c66e (stOf 76 g [(3, vS fu 0 u 22)] [U])).map (fun z => (look2 2 [0, 1] [3, 8] (z.1, z.2.1), z.2.2)) =
    some ((.normal, [U, .dead], [(3, vS fu 0 u 22), (8, nilS)], true), [], [], []) := by cases fu <;> kernel_rfl
theorem r66f : (execE Try.prog c66 [] [] [] 20 c66f (stOf 76 g [(3, vS fu 0 u 22), (8, nilS)] [U, .dead])).map (fun z => (look2 2 [0, 1] [3, 8, 9] (z.1, z.2.1), z.2.2)) =
    some ((.normal, [U, .dead], [(3, vS fu 0 u 22), (8, nilS), (9, iN 0)], true), [], [], []) := by cases fu <;> kernel_rfl
abbrev K66 (U I : Blk) (fu fi : Bool) (u q j : Nat) (g : Nat → Value) : St := (stOf 76 g [(3, vS fu 0 u 22), (8, vI fi 1 q), (9, iN j)] [U, I])
theorem r66gx : (execE Try.prog c66 [(64, .bool false)] [] [] 20 c66g (K66 U I fu fi u q j g)).map (fun z => (look2 1 [1] [8] (z.1, z.2.1), z.2.2)) =
    some ((.exit 4, [I], [(8, vI fi 0 q)], true), [ltO j (kk fu u) false], [], []) := by cases fu <;> cases fi <;> kernel_rfl
def h66k (U I : Blk) : Hp := heapOf ([U, I] ++ [.dead]) hp0
theorem r66g : (execE Try.prog c66 [(64, .bool true), (70, pb 0 (j * 7)), (72, .int .i64 x.id), (66, iN (j + 1))] [] [(74, newI 4 (q + 1), effF fi 1 (iB ids))] 20 c66g (K66 U I true fi u q j g)).map (fun z => (look2 2 [0, 4] [3, 8, 9] (z.1, z.2.1), z.2.2)) =
    some ((.normal, [U, iB ids], [(3, newS 0 u), (8, newI 1 (q + 1)), (9, iN (j + 1))], true), [ltO j u true, ixO 0 u 22 j, ldO (h66k U I).get 3 0 (j * 7) (.int .i64 x.id), nxt29 j], [], [apI ((h66k U I).push (.cells 3 [icell x.id] false)) 4 1 q 3 fi ids]) := by cases fi <;> kernel_rfl
theorem r66h : (execE Try.prog c66 [] [] [] 20 c66h (stOf 76 g [(8, vI fi 0 q)] [I])).map (fun z => (look2 1 [0] [2] (z.1, z.2.1), z.2.2)) =
    some ((.ret, [I], [(2, vI fi 0 q)], true), [], [], []) := by cases fi <;> kernel_rfl
end
end Go.Proofs.Ytiogdklmhpllfaa.LtA
namespace Go.Proofs.Ytiogdklmhpllfaa.LtA
open Go Go.Proofs Go.Proofs.Ytiogdklmhpllfaa.AI Go.RowKit Go.Proofs.Ytiogdklmhpllfaa.Sort

def stepO (x : ViewV) (p : List ViewV × Bool) (w : ViewV) : List ViewV × Bool := bif !p.2 && ltV x w then (p.1 ++ [x] ++ [w], true) else (p.1 ++ [w], p.2)
def finO (x : ViewV) (p : List ViewV × Bool) : List ViewV := bif p.2 then p.1 else p.1 ++ [x]
/-- Put in, ahead of the first one that is greater. -/
def insO (us : List ViewV) (x : ViewV) : List ViewV := finO x (us.foldl (stepO x) ([], false))
def ordO (vs : List ViewV) : List ViewV := vs.foldl insO []
theorem stepO_len (x : ViewV) (p : List ViewV × Bool) (w : ViewV) : (stepO x p w).1.length + p.2.toNat = p.1.length + 1 + (stepO x p w).2.toNat := by
  unfold stepO
  obtain ⟨ms, d⟩ := p
  cases d <;> cases ltV x w <;> simp
theorem foldO_len (x : ViewV) : ∀ (us : List ViewV) (p : List ViewV × Bool), (us.foldl (stepO x) p).1.length + p.2.toNat = p.1.length + us.length + (us.foldl (stepO x) p).2.toNat
  | [], p => by simp
  | w :: us, p => by
    have h1 := foldO_len x us (stepO x p w)
    have h2 := stepO_len x p w
    simp only [List.foldl_cons, List.length_cons]
    omega
theorem insO_len (us : List ViewV) (x : ViewV) : (insO us x).length = us.length + 1 := by
  unfold insO finO
  have := foldO_len x us ([], false)
  generalize us.foldl (stepO x) ([], false) = p at *
  obtain ⟨ms, d⟩ := p
  cases d <;> simp at * <;> omega
theorem isE_false {α : Type} {l : List α} (h : l ≠ []) : (!l.isEmpty) = true := by
  cases l with
  | nil => exact absurd rfl h
  | cons => rfl
theorem isE_app {α : Type} (l : List α) (x : α) : (!(l ++ [x]).isEmpty) = true := isE_false (by simp)
theorem ownB_ne {l : List ViewV} (h : l ≠ []) : ownB l = rowB l := by
  cases l with
  | nil => exact absurd rfl h
  | cons => rfl
theorem ownI_ne {l : List Int} (h : l ≠ []) : ownI l = iB l := by
  cases l with
  | nil => exact absurd rfl h
  | cons => rfl
theorem ne_app {α : Type} (l : List α) (x : α) : l ++ [x] ≠ [] := by simp
theorem fix33 {o U M : Blk} (h1 : inertB o = true) (h2 : inertB U = true) (h3 : inertB M = true) : ∀ r : List Blk, ∀ i, i < 3 → ∀ o', (o :: U :: M :: r)[i]? = some o' → Fixed 0 o' := by
  intro r i hi o' h
  match i, hi with
  | 0, _ => simp at h; subst h; exact inert_fixed h1 0
  | 1, _ => simp at h; subst h; exact inert_fixed h2 0
  | 2, _ => simp at h; subst h; exact inert_fixed h3 0
theorem rowAt_own {hp : Hp} {b : Nat} {us : List ViewV} (h : us ≠ []) (hb : hp.get b = some (ownB us)) : RowAt hp b us := .of (ty := 34) (ro := false) (by rw [hb, ownB_ne h]; rfl)
theorem leV_ok {x y : ViewV} {b : Bool} (h : ltV x y = b) : (leV x y b).1 = some (leV x y b).2 := by show some (Value.bool (ltV x y)) = _; rw [h]; rfl
theorem RowAt.eff {hp : Hp} {b b2 : Nat} {vs : List ViewV} {f : Bool} {B : Blk} (h : RowAt hp b vs) (h1 : b ≠ b2) (h2 : b ≠ hp.sz) : RowAt (hp.eff (effF f b2 B)) b vs := by
  cases f with
  | true => exact (h.put h1 .dead).push h2 B
  | false => exact h.push h2 B
theorem eff_new {hp : Hp} {f : Bool} {b2 : Nat} {B : Blk} : (hp.eff (effF f b2 B)).get hp.sz = some B := by
  cases f with
  | true => exact (Hp.get_push (hp.put b2 .dead) B hp.sz).trans (if_pos rfl)
  | false => exact (Hp.get_push hp B hp.sz).trans (if_pos rfl)
theorem eff_sz {hp : Hp} {f : Bool} {b2 : Nat} {B : Blk} : (hp.eff (effF f b2 B)).sz = hp.sz + 1 := by cases f <;> rfl
section
variable {o : Blk} {vs us : List ViewV} {c i : Nat} {x : ViewV}
theorem inner66 (ho : inertB o = true) (hn : vs.length < 1000000) (hr : ∃ ty ro, o = .cells ty (vrow vs) ro) (hlt : i < vs.length) (hx : vs[i]? = some x) (hul : us.length = i) (W : Base) (g : Nat → Value) :
    FRwp Try.prog 76 W (.block 2 (.loop d66e)) (I66 o vs.length c (ownB us) .dead (!us.isEmpty) false false us.length 0 i 0 g) (fun e st => e = .normal ∧ ∃ ms d g, us.foldl (stepO x) ([], false) = (ms, d) ∧ st = J66 o vs.length c (ownB us) (ownB ms) (!us.isEmpty) (!ms.isEmpty) d us.length ms.length i g) := by
  have hkk : kk (!us.isEmpty) us.length = us.length := by cases us <;> rfl
  refine FRwp.block ?_
  refine FRwp.loop (fun z st => ∃ k ms d g, k ≤ us.length ∧ z = us.length - k ∧ (us.take k).foldl (stepO x) ([], false) = (ms, d) ∧ st = I66 o vs.length c (ownB us) (ownB ms) (!us.isEmpty) (!ms.isEmpty) d us.length ms.length i k g) ?_ (k := us.length) ⟨0, [], false, g, Nat.zero_le _, rfl, rfl, rfl⟩
  rintro z st ⟨k, ms, d, g, hk, hz, hf, rfl⟩
  have fx : ∀ ms : List ViewV, ∀ r : List Blk, ∀ i, i < 3 → ∀ o', (o :: ownB us :: ownB ms :: r)[i]? = some o' → Fixed 0 o' := fun ms => fix33 ho (ownB_inert us) (ownB_inert ms)
  cases h19 : decide (k < us.length) with
  | false =>
    have hkl : k = us.length := by have := of_decide_eq_false h19; omega
    subst hkl
    rw [List.take_length] at hf
    refine FRwp.pieceY c66_ok follows 3 _ _ _ _ (r66ex (!us.isEmpty) (!ms.isEmpty) d o (ownB us) (ownB ms) vs.length c us.length ms.length i us.length g) (Met.cons (ltO_ok (by rw [hkk]; exact h19)) Met.nil) MetH.nil MetE.nil t66e rfl rfl (fx ms []) fun g' => .inr ⟨by simp, ?_⟩
    show (if (2 : Nat) = 2 then _ else _)
    rw [if_pos rfl]
    exact ⟨rfl, ms, d, g', hf, rfl⟩
  | true =>
    have hku := of_decide_eq_true h19
    obtain ⟨w, hw⟩ := some_at hku
    have hun : us ≠ [] := fun h => by rw [h] at hku; simp at hku
    have hue := isE_false hun
    have hst := fold_step (f := stepO x) (a := ([], false)) hw
    rw [hf] at hst
    have hml := foldO_len x (us.take k) ([], false)
    rw [hf, List.length_take, Nat.min_eq_left hk] at hml
    simp only [List.length_nil, Bool.toNat_false] at hml
    have hml' : ms.length ≤ k + 1 := by cases d <;> simp at hml <;> omega
    have b0 : RowAt (h66 o (ownB us) (ownB ms)) 0 vs := rowAt0 hr
    have g1 : (h66 o (ownB us) (ownB ms)).get 1 = some (ownB us) := by unfold h66; rw [heapOf0_get]; rfl
    have g2 : (h66 o (ownB us) (ownB ms)).get 2 = some (ownB ms) := by unfold h66; rw [heapOf0_get]; rfl
    have b1 : RowAt (h66 o (ownB us) (ownB ms)) 1 us := rowAt_own hun g1
    have sz : (h66 o (ownB us) (ownB ms)).sz = 4 := rfl
    have p2 : ∀ z, ((h66 o (ownB us) (ownB ms)).push (vB z)).get 2 = some (ownB ms) := fun z => by rw [Hp.get_push, if_neg (by show (2 : Nat) ≠ 4; omega)]; exact g2
    have p4 : ∀ z, ((h66 o (ownB us) (ownB ms)).push (vB z)).get 4 = some (vB z) := fun z => by rw [Hp.get_push, if_pos (by show (4 : Nat) = 4; rfl)]
    have ap1 : ∀ z, (apV ((h66 o (ownB us) (ownB ms)).push (vB z)) 5 2 ms.length 4 (!ms.isEmpty) (ms ++ [z])).1 = some (apV ((h66 o (ownB us) (ownB ms)).push (vB z)) 5 2 ms.length 4 (!ms.isEmpty) (ms ++ [z])).2 := fun z => app_any rfl (p2 z) (p4 z) rfl (by omega)
    have e1 : ∀ z : ViewV, (ms ++ [z]).length = ms.length + 1 := fun z => by simp
    have hnk : Met [nxt29 k] := Met.cons (wrap_up (by omega)) Met.nil
    have go : ∀ {ms' : List ViewV} {d' : Bool} {g' : Nat → Value} {st' : St}, stepO x (ms, d) w = (ms', d') → st' = I66 o vs.length c (ownB us) (ownB ms') (!us.isEmpty) (!ms'.isEmpty) d' us.length ms'.length i (k + 1) g' → ∃ z', z' < z ∧ ∃ k ms d g, k ≤ us.length ∧ z' = us.length - k ∧ (us.take k).foldl (stepO x) ([], false) = (ms, d) ∧ st' = I66 o vs.length c (ownB us) (ownB ms) (!us.isEmpty) (!ms.isEmpty) d us.length ms.length i k g :=
      fun {ms' d' g' st'} h1 h2 => ⟨us.length - (k + 1), by omega, k + 1, ms', d', g', by omega, rfl, by rw [hst, h1], h2⟩
    rw [hue] at go ⊢
    cases d with
    | false =>
      have seeA : ∀ {l : List Obl}, Met l → Met (ltO k us.length true :: ixO 0 vs.length c i :: ldO (h66 o (ownB us) (ownB ms)).get 23 0 (i * 7 + 1) (hcA x) :: ixO 1 us.length 22 k :: ldO (h66 o (ownB us) (ownB ms)).get 23 1 (k * 7 + 1) (hcA w) :: l) := fun h =>
        Met.cons (ltO_ok h19) (Met.cons (vidx_ok hlt) (Met.cons (hload_ok b0 hx) (Met.cons (vidx_ok hku) (Met.cons (hload_ok b1 hw) h))))
      cases hl : ltV x w with
      | true =>
        have b1' : RowAt (h66a o (ownB us) (ownB ms) (!ms.isEmpty) x (ms ++ [x])) 1 us := (b1.push (by omega) _).eff (by omega) (by show (1 : Nat) ≠ 5; omega)
        have n5 : (h66a o (ownB us) (ownB ms) (!ms.isEmpty) x (ms ++ [x])).get 5 = some (rowB (ms ++ [x])) := eff_new (hp := (h66 o (ownB us) (ownB ms)).push (vB x))
        have s6 : (h66a o (ownB us) (ownB ms) (!ms.isEmpty) x (ms ++ [x])).sz = 6 := eff_sz
        have ap2 : (apV ((h66a o (ownB us) (ownB ms) (!ms.isEmpty) x (ms ++ [x])).push (vB w)) 7 5 (ms.length + 1) 6 true (ms ++ [x] ++ [w])).1 = some (apV ((h66a o (ownB us) (ownB ms) (!ms.isEmpty) x (ms ++ [x])).push (vB w)) 7 5 (ms.length + 1) 6 true (ms ++ [x] ++ [w])).2 :=
          app_any (isE_app ms x).symm (by rw [Hp.get_push, if_neg (by rw [s6]; omega), n5, ownB_ne (ne_app ms x)]) (by rw [Hp.get_push, if_pos (by rw [s6])]) (e1 x).symm (by omega)
        refine FRwp.pieceY c66_ok follows 3 _ _ _ _ (r66eA (!ms.isEmpty) o (ownB us) (ownB ms) vs.length c us.length ms.length i k x w (ms ++ [x]) (ms ++ [x] ++ [w]) g)
          (seeA (Met.cons (leV_ok hl) (Met.cons (vidx_ok hlt) (Met.cons (vload_ok b0 hx) (Met.cons (vidx_ok hku) (Met.cons (vload_ok b1' hw) hnk)))))) MetH.nil (MetE.cons (ap1 x) (MetE.cons ap2 MetE.nil)) t66e rfl rfl (by rw [← ownB_ne (ne_app (ms ++ [x]) w)]; exact fx _ []) fun g' => .inl ⟨rfl, go (ms' := ms ++ [x] ++ [w]) (d' := true) (g' := g') ?_ ?_⟩
        · unfold stepO; simp only [hl]; rfl
        · rw [isE_app, ownB_ne (ne_app (ms ++ [x]) w)]
          have : (ms ++ [x] ++ [w]).length = ms.length + 1 + 1 := by simp
          rw [this]; rfl
      | false =>
        refine FRwp.pieceY c66_ok follows 3 _ _ _ _ (r66eB (!ms.isEmpty) o (ownB us) (ownB ms) vs.length c us.length ms.length i k x w (ms ++ [w]) g)
          (seeA (Met.cons (leV_ok hl) (Met.cons (vidx_ok hku) (Met.cons (vload_ok b1 hw) hnk)))) MetH.nil (MetE.cons (ap1 w) MetE.nil) t66e rfl rfl (by rw [← ownB_ne (ne_app ms w)]; exact fx _ []) fun g' => .inl ⟨rfl, go (ms' := ms ++ [w]) (d' := false) (g' := g') ?_ ?_⟩
        · unfold stepO; simp only [hl]; rfl
        · rw [isE_app, ownB_ne (ne_app ms w), e1]; rfl
    | true =>
      refine FRwp.pieceY c66_ok follows 3 _ _ _ _ (r66eC (!ms.isEmpty) o (ownB us) (ownB ms) vs.length c us.length ms.length i k w (ms ++ [w]) g)
        (Met.cons (ltO_ok h19) (Met.cons (vidx_ok hku) (Met.cons (vload_ok b1 hw) hnk))) MetH.nil (MetE.cons (ap1 w) MetE.nil) t66e rfl rfl (by rw [← ownB_ne (ne_app ms w)]; exact fx _ []) fun g' => .inl ⟨rfl, go (ms' := ms ++ [w]) (d' := true) (g' := g') ?_ ?_⟩
      · unfold stepO; rfl
      · rw [isE_app, ownB_ne (ne_app ms w), e1]; rfl
/-- One round. -/
theorem round66 (ho : inertB o = true) (hn : vs.length < 1000000) (hr : ∃ ty ro, o = .cells ty (vrow vs) ro) (hlt : i < vs.length) (hx : vs[i]? = some x) (hul : us.length = i) (W : Base) (g : Nat → Value) :
    FRwp Try.prog 76 W c66d (O66 true o vs.length c (ownB us) (!us.isEmpty) us.length i g) (fun e st => e = .normal ∧ ∃ g, st = O66 true o vs.length c (ownB (insO us x)) (!(insO us x).isEmpty) (insO us x).length (i + 1) g) := by
  have fx2 : ∀ us : List ViewV, ∀ r : List Blk, ∀ i, i < 2 → ∀ o', (o :: ownB us :: r)[i]? = some o' → Fixed 0 o' := fun us => fixOO ho (ownB_inert us)
  have fx3 : ∀ r : List Blk, ∀ i, i < 3 → ∀ o', (o :: ownB us :: .dead :: r)[i]? = some o' → Fixed 0 o' := fix33 ho (ownB_inert us) rfl
  have hio := insO_len us x
  have hin : insO us x ≠ [] := fun h => by rw [h] at hio; simp at hio
  rw [d66_eq]
  refine FRwp.seq (Q1 := fun e st => e = .normal ∧ ∃ g, st = O66 true o vs.length c (ownB us) (!us.isEmpty) us.length i g) (FRwp.pieceY c66_ok follows 2 _ _ _ _ (r66da (!us.isEmpty) o (ownB us) vs.length c us.length i g) (Met.cons (ltO_ok (decide_eq_true hlt)) Met.nil) MetH.nil MetE.nil t66a rfl rfl (fx2 us []) fun g => ⟨rfl, g, rfl⟩) ?_ (fun x st hne hq => absurd hq.1 hne)
  rintro st ⟨-, g, rfl⟩
  refine FRwp.seq (Q1 := fun e st => e = .normal ∧ ∃ g, st = O66 true o vs.length c (ownB (insO us x)) true (insO us x).length i g) ?_ ?_ (fun x st hne hq => absurd hq.1 hne)
  · refine FRwp.block ?_
    refine FRwp.seq (Q1 := fun e st => e = .normal ∧ ∃ g, st = stOf 76 g [(0, rowS 0 vs.length c), (3, vS (!us.isEmpty) 1 us.length 22), (4, iN i), (5, nilS)] [o, ownB us, .dead]) (FRwp.pieceY c66_ok follows 3 _ _ _ _ (r66db (!us.isEmpty) o (ownB us) vs.length c us.length i g) Met.nil MetH.nil MetE.nil t66b rfl rfl (fx3 []) fun g => ⟨rfl, g, rfl⟩) ?_ (fun x st hne hq => absurd hq.1 hne)
    rintro st ⟨-, g, rfl⟩
    refine FRwp.seq (Q1 := fun e st => e = .normal ∧ ∃ g, st = stOf 76 g [(0, rowS 0 vs.length c), (3, vS (!us.isEmpty) 1 us.length 22), (4, iN i), (5, nilS), (6, .bool false)] [o, ownB us, .dead]) (FRwp.pieceY c66_ok follows 3 _ _ _ _ (r66dc (!us.isEmpty) o (ownB us) vs.length c us.length i g) Met.nil MetH.nil MetE.nil t66c rfl rfl (fx3 []) fun g => ⟨rfl, g, rfl⟩) ?_ (fun x st hne hq => absurd hq.1 hne)
    rintro st ⟨-, g, rfl⟩
    refine FRwp.seq (Q1 := fun e st => e = .normal ∧ ∃ ms d g, us.foldl (stepO x) ([], false) = (ms, d) ∧ st = J66 o vs.length c (ownB us) (ownB ms) (!us.isEmpty) (!ms.isEmpty) d us.length ms.length i g) ?_ ?_ (fun x st hne hq => absurd hq.1 hne)
    · refine FRwp.seq (Q1 := fun e st => e = .normal ∧ ∃ g, st = I66 o vs.length c (ownB us) .dead (!us.isEmpty) false false us.length 0 i 0 g) (FRwp.pieceY c66_ok follows 3 _ _ _ _ (r66dd (!us.isEmpty) o (ownB us) vs.length c us.length i g) Met.nil MetH.nil MetE.nil t66d rfl rfl (fx3 []) fun g => ⟨rfl, g, rfl⟩) ?_ (fun x st hne hq => absurd hq.1 hne)
      rintro st ⟨-, g, rfl⟩
      exact inner66 ho hn hr hlt hx hul W g
    · rintro st ⟨-, ms, d, g, hf, rfl⟩
      have hml := foldO_len x us ([], false)
      rw [hf] at hml
      simp only [List.length_nil, Bool.toNat_false] at hml
      have hio' : insO us x = finO x (ms, d) := by unfold insO; rw [hf]
      have g2 : ∀ z, ((h66 o (ownB us) (ownB ms)).push (vB z)).get 2 = some (ownB ms) := fun z => by rw [Hp.get_push, if_neg (by show (2 : Nat) ≠ 4; omega)]; unfold h66; rw [heapOf0_get]; rfl
      have p4 : ∀ z, ((h66 o (ownB us) (ownB ms)).push (vB z)).get 4 = some (vB z) := fun z => by rw [Hp.get_push, if_pos (by show (4 : Nat) = 4; rfl)]
      have b0 : RowAt (h66 o (ownB us) (ownB ms)) 0 vs := rowAt0 hr
      cases d with
      | false =>
        have hz : insO us x = ms ++ [x] := hio'
        refine FRwp.pieceY c66_ok follows 2 _ _ _ _ (r66fD (!us.isEmpty) (!ms.isEmpty) o (ownB us) (ownB ms) vs.length c us.length ms.length i x (ms ++ [x]) g) (Met.cons (vidx_ok hlt) (Met.cons (vload_ok b0 hx) Met.nil)) MetH.nil (MetE.cons (app_any rfl (g2 x) (p4 x) rfl (by simp at hml; omega)) MetE.nil) t66f rfl rfl (by rw [← ownB_ne (ne_app ms x)]; exact fx2 _ []) fun g' => ⟨rfl, g', ?_⟩
        have e1 : (ms ++ [x]).length = ms.length + 1 := by simp
        rw [hz, ownB_ne (ne_app ms x), e1]; rfl
      | true =>
        have hz : insO us x = ms := hio'
        have hmn : ms ≠ [] := by rw [← hz]; exact hin
        rw [isE_false hmn]
        refine FRwp.pieceY c66_ok follows 2 _ _ _ _ (r66fE (!us.isEmpty) o (ownB us) (ownB ms) vs.length c us.length ms.length i g) Met.nil MetH.nil MetE.nil t66f rfl rfl (fx2 _ []) fun g' => ⟨rfl, g', ?_⟩
        rw [hz]; rfl
  · rintro st ⟨-, g, rfl⟩
    rw [isE_false hin]
    exact FRwp.pieceY c66_ok follows 2 _ _ _ _ (r66z o (ownB (insO us x)) vs.length c (insO us x).length i g) (Met.cons (wrap_up (by omega)) Met.nil) MetH.nil MetE.nil t66z rfl rfl (fx2 _ []) fun g' => ⟨rfl, g', rfl⟩
end
/-- The ids. -/
theorem ids66 (us : List ViewV) (hn : us.length < 1000000) (W : Base) (g : Nat → Value) :
    FRwp Try.prog 76 W (.block 4 (.loop c66g)) (K66 (ownB us) .dead (!us.isEmpty) false us.length 0 0 g) (fun e st => e = .normal ∧ ∃ g, st = stOf 76 g [(8, rowIv (us.map fun x => x.id) 0)] [ownI (us.map fun x => x.id)]) := by
  have hkk : kk (!us.isEmpty) us.length = us.length := by cases us <;> rfl
  have hvi : ∀ (ids : List Int) b, vI (!ids.isEmpty) b ids.length = rowIv ids b := fun ids b => by cases ids <;> rfl
  refine FRwp.block ?_
  refine FRwp.loop (fun z st => ∃ j ids g, j ≤ us.length ∧ z = us.length - j ∧ ids = (us.take j).map (fun x => x.id) ∧ st = K66 (ownB us) (ownI ids) (!us.isEmpty) (!ids.isEmpty) us.length ids.length j g) ?_ (k := us.length) ⟨0, [], g, Nat.zero_le _, rfl, rfl, rfl⟩
  rintro z st ⟨j, ids, g, hj, hz, hids, rfl⟩
  cases h64 : decide (j < us.length) with
  | false =>
    have hjl : j = us.length := by have := of_decide_eq_false h64; omega
    subst hjl
    rw [List.take_length] at hids
    refine FRwp.pieceY c66_ok follows 1 _ _ _ _ (r66gx (!us.isEmpty) (!ids.isEmpty) (ownB us) (ownI ids) us.length ids.length us.length g) (Met.cons (ltO_ok (by rw [hkk]; exact h64)) Met.nil) MetH.nil MetE.nil s66g rfl rfl (fix11 (ownI_inert ids) []) fun g' => .inr ⟨by simp, ?_⟩
    show (if (4 : Nat) = 4 then _ else _)
    rw [if_pos rfl]
    exact ⟨rfl, g', by rw [← hids, hvi]⟩
  | true =>
    have hlt := of_decide_eq_true h64
    obtain ⟨x, hx⟩ := some_at hlt
    have hun : us ≠ [] := fun h => by rw [h] at hlt; simp at hlt
    have hs : (us.take (j + 1)).map (fun x => x.id) = ids ++ [x.id] := by rw [List.take_add_one, hx, hids]; simp
    have hil : ids.length = j := by rw [hids]; simp; omega
    have g0 : (h66k (ownB us) (ownI ids)).get 0 = some (ownB us) := by unfold h66k; rw [heapOf0_get]; rfl
    have b0 : RowAt (h66k (ownB us) (ownI ids)) 0 us := rowAt_own hun g0
    have g1 : ((h66k (ownB us) (ownI ids)).push (.cells 3 [icell x.id] false)).get 1 = some (ownI ids) := by rw [Hp.get_push, if_neg (by show (1 : Nat) ≠ 3; omega)]; unfold h66k; rw [heapOf0_get]; rfl
    have g3 : ((h66k (ownB us) (ownI ids)).push (.cells 3 [icell x.id] false)).get 3 = some (.cells 3 [icell x.id] false) := by rw [Hp.get_push, if_pos (by show (3 : Nat) = 3; rfl)]
    rw [isE_false hun]
    refine FRwp.pieceY c66_ok follows 2 _ _ _ _ (r66g (!ids.isEmpty) (ownB us) (ownI ids) us.length ids.length j x (ids ++ [x.id]) g) (Met.cons (ltO_ok h64) (Met.cons (vidx_ok hlt) (Met.cons (vcell_ok b0 hx) (Met.cons (wrap_up (by omega)) Met.nil)))) MetH.nil (MetE.cons (app_anyI rfl g1 g3 rfl (by omega)) MetE.nil) s66g rfl rfl
      (by rw [← ownI_ne (ne_app ids x.id)]; exact fixOO (ownB_inert us) (ownI_inert _) []) fun g' => .inl ⟨rfl, us.length - (j + 1), by omega, j + 1, ids ++ [x.id], g', by omega, rfl, hs.symm, ?_⟩
    rw [isE_app, ownI_ne (ne_app ids x.id)]
    have e1 : (ids ++ [x.id]).length = ids.length + 1 := by simp
    rw [e1]; rfl
theorem ordO_len (vs : List ViewV) : ∀ us : List ViewV, (vs.foldl insO us).length = us.length + vs.length := by
  induction vs with
  | nil => intro us; rfl
  | cons v vs ih => intro us; rw [List.foldl_cons, ih, insO_len]; simp; omega
def ordR (vs : List ViewV) : Ans := fun rest => match rest with
  | [] => some (rowIv ((ordO vs).map fun x => x.id) 0, rowIO ((ordO vs).map fun x => x.id))
  | _ => none
theorem run66 (vs : List ViewV) (hn : vs.length < 1000000) : ∀ rest v0 O, ordR vs rest = some (v0, O) → RowRun Try.f66 code66 76 vs rest v0 O := fun rest v0 O h => by
  unfold ordR at h
  split at h
  case h_2 => cases h
  cases h
  refine ⟨rowI_out _, rowI_ok _, (fun r hr => by cases hr), by simp, fun f o c W ho hrow hfl => ?_⟩
  have hkk := kk_len hfl
  have fx2 : ∀ us : List ViewV, ∀ r : List Blk, ∀ i, i < 2 → ∀ o', (o :: ownB us :: r)[i]? = some o' → Fixed 0 o' := fun us => fixOO ho (ownB_inert us)
  refine FRwp.seq (Q1 := fun e st => e = .normal ∧ ∃ g, st = stOf 76 g [(0, vS f 0 vs.length c)] [o]) ?_ ?_ (fun x st hne hq => absurd hq.1 hne)
  · cases f with
    | true => exact FRwp.pieceY c66_ok follows 1 _ _ _ _ (r66a o vs.length c) Met.nil MetH.nil MetE.nil s66a rfl rfl (fix11 ho _) fun g => ⟨rfl, g, rfl⟩
    | false =>
      obtain ⟨rfl, rfl⟩ := hfl rfl
      exact FRwp.pieceY c66_ok follows 1 _ _ _ _ (n66a) Met.nil MetH.nil MetE.nil s66a rfl rfl (fix11 rfl _) fun g => ⟨rfl, g, rfl⟩
  rintro st ⟨-, g, rfl⟩
  refine FRwp.seq (Q1 := fun e st => e = .normal ∧ ∃ g, st = stOf 76 g [(0, vS f 0 vs.length c), (3, nilS)] [o, .dead]) (FRwp.pieceY c66_ok follows 2 _ _ _ _ (r66b f o vs.length c g) Met.nil MetH.nil MetE.nil s66b rfl rfl (fx2 [] []) fun g => ⟨rfl, g, rfl⟩) ?_ (fun x st hne hq => absurd hq.1 hne)
  rintro st ⟨-, g, rfl⟩
  refine FRwp.seq (Q1 := fun e st => e = .normal ∧ ∃ g, st = stOf 76 g [(3, vS (!(ordO vs).isEmpty) 0 (ordO vs).length 22)] [ownB (ordO vs)]) ?_ ?_ (fun x st hne hq => absurd hq.1 hne)
  · refine FRwp.seq (Q1 := fun e st => e = .normal ∧ ∃ g, st = O66 f o vs.length c .dead false 0 0 g) (FRwp.pieceY c66_ok follows 2 _ _ _ _ (r66c f o vs.length c g) Met.nil MetH.nil MetE.nil s66c rfl rfl (fx2 [] []) fun g => ⟨rfl, g, rfl⟩) ?_ (fun x st hne hq => absurd hq.1 hne)
    rintro st ⟨-, g, rfl⟩
    refine FRwp.block ?_
    refine FRwp.loop (fun z st => ∃ i us g, i ≤ vs.length ∧ z = vs.length - i ∧ (vs.take i).foldl insO [] = us ∧ us.length = i ∧ st = O66 f o vs.length c (ownB us) (!us.isEmpty) us.length i g) ?_ (k := vs.length) ⟨0, [], g, Nat.zero_le _, rfl, rfl, rfl, rfl⟩
    rintro z st ⟨i, us, g, hi, hz, hf, hul, rfl⟩
    cases h13 : decide (i < vs.length) with
    | false =>
      have hii : i = vs.length := by have := of_decide_eq_false h13; omega
      rw [hii, List.take_length] at hf
      refine FRwp.pieceY c66_ok follows 1 _ _ _ _ (r66x f (!us.isEmpty) o (ownB us) vs.length c us.length i g) (Met.cons (ltO_ok (by rw [hkk]; exact h13)) Met.nil) MetH.nil MetE.nil s66d rfl rfl (fix11 (ownB_inert us) []) fun g' => .inr ⟨by simp, ?_⟩
      show (if (0 : Nat) = 0 then _ else _)
      rw [if_pos rfl]
      refine ⟨rfl, g', ?_⟩
      unfold ordO
      rw [hf]
    | true =>
      have hlt := of_decide_eq_true h13
      have hft : f = true := by cases f with
        | true => rfl
        | false => rw [(hfl rfl).1] at hlt; simp at hlt
      subst hft
      obtain ⟨x, hx⟩ := some_at hlt
      have hr : ∃ ty ro, o = .cells ty (vrow vs) ro := by
        rcases hrow with h | h
        · rw [h] at hlt; simp at hlt
        · exact h
      refine FRwp.mono (round66 ho hn hr hlt hx hul W g) fun e st q => .inl ?_
      obtain ⟨rfl, g', rfl⟩ := q
      exact ⟨rfl, vs.length - (i + 1), by omega, i + 1, insO us x, g', by omega, rfl, by rw [fold_step hx, hf], by rw [insO_len, hul], rfl⟩
  rintro st ⟨-, g, rfl⟩
  have hol : (ordO vs).length < 1000000 := by unfold ordO; rw [ordO_len]; simpa using hn
  generalize ordO vs = us at *
  refine FRwp.seq (Q1 := fun e st => e = .normal ∧ ∃ g, st = stOf 76 g [(3, vS (!us.isEmpty) 0 us.length 22), (8, nilS)] [ownB us, .dead]) (FRwp.pieceY c66_ok follows 2 _ _ _ _ (r66e (!us.isEmpty) (ownB us) us.length g) Met.nil MetH.nil MetE.nil s66e rfl rfl (fixOO (ownB_inert us) rfl []) fun g => ⟨rfl, g, rfl⟩) ?_ (fun x st hne hq => absurd hq.1 hne)
  rintro st ⟨-, g, rfl⟩
  refine FRwp.seq (Q1 := fun e st => e = .normal ∧ ∃ g, st = stOf 76 g [(8, rowIv (us.map fun x => x.id) 0)] [ownI (us.map fun x => x.id)]) ?_ ?_ (fun x st hne hq => absurd hq.1 hne)
  · refine FRwp.seq (Q1 := fun e st => e = .normal ∧ ∃ g, st = K66 (ownB us) .dead (!us.isEmpty) false us.length 0 0 g) (FRwp.pieceY c66_ok follows 2 _ _ _ _ (r66f (!us.isEmpty) (ownB us) us.length g) Met.nil MetH.nil MetE.nil s66f rfl rfl (fixOO (ownB_inert us) rfl []) fun g => ⟨rfl, g, rfl⟩) ?_ (fun x st hne hq => absurd hq.1 hne)
    rintro st ⟨-, g, rfl⟩
    exact ids66 us hol W g
  rintro st ⟨-, g, rfl⟩
  generalize us.map (fun x => x.id) = ids
  have hvi : vI (!ids.isEmpty) 0 ids.length = rowIv ids 0 := by cases ids <;> rfl
  rw [← hvi]
  refine FRwp.pieceY c66_ok follows 1 _ _ _ _ (r66h (!ids.isEmpty) (ownI ids) ids.length g) Met.nil MetH.nil MetE.nil s66h rfl rfl (fix11 (ownI_inert ids) []) fun g => ⟨.inr rfl, rfl, q66 _ _ g, fun B hB => ?_⟩
  cases ids with
  | nil => cases hB
  | cons i ids => cases hB; show (heapOf _ hp0).get 0 = _; rw [heapOf0_get]; rfl
noncomputable def G66 : HeapFn := padF (toldR ordR)
theorem hkG66 : CallGoal Try.prog 66 G66 := pad_goal (toldR_goal Try.func66 body66 (by kernel_rfl) ntmps66 fun vs hn => run66 vs hn)
theorem G66_of {vs : List ViewV} {s : Value} {hp : Hp} (h : TN vs s hp) (hn : vs.length < 1000000) : G66 [s] hp = some (rowIv ((ordO vs).map fun x => x.id) hp.sz, heapOf [ownI ((ordO vs).map fun x => x.id), .dead] hp) := toldR_ids h hn rfl
end Go.Proofs.Ytiogdklmhpllfaa.LtA
namespace Go.Proofs.Ytiogdklmhpllfaa.LtA
open Go Go.Proofs Go.Proofs.Ytiogdklmhpllfaa.AI Go.RowKit Go.Proofs.Ytiogdklmhpllfaa.Sort

/-- A loop over a list. -/
theorem fold_loop {N : Nat} {W : Base} {b : Code} {kb : Nat} {α β : Type} {vs : List β} (F : α → β → α) (a0 : α) (I : α → Nat → (Nat → Value) → St) (Q : α → St → Prop) (R : Exit → St → Prop)
    (hx : ∀ a g, vs.foldl F a0 = a → FRwp Try.prog N W b (I a vs.length g) (fun e st => e = .exit kb ∧ Q a st))
    (hs : ∀ i x a g, vs[i]? = some x → i < vs.length → (vs.take i).foldl F a0 = a → FRwp Try.prog N W b (I a i g) (fun e st => (e = .normal ∧ ∃ g', st = I (F a x) (i + 1) g') ∨ (e = .ret ∧ R e st)))
    (g : Nat → Value) : FRwp Try.prog N W (.block kb (.loop b)) (I a0 0 g) (fun e st => (e = .normal ∧ Q (vs.foldl F a0) st) ∨ (e = .ret ∧ R e st)) := by
  refine FRwp.block ?_
  refine FRwp.loop (fun k st => ∃ i a g, i ≤ vs.length ∧ k = vs.length - i ∧ (vs.take i).foldl F a0 = a ∧ st = I a i g) ?_ (k := vs.length) ⟨0, a0, g, Nat.zero_le _, rfl, rfl, rfl⟩
  rintro k st ⟨i, a, g, hi, hk, ha, rfl⟩
  rcases Nat.lt_or_ge i vs.length with hlt | hge
  · have hxx : vs[i]? = some vs[i] := List.getElem?_eq_getElem hlt
    refine FRwp.mono (hs i vs[i] a g hxx hlt ha) fun e st q => ?_
    rcases q with ⟨rfl, g', rfl⟩ | ⟨rfl, hr⟩
    · exact .inl ⟨rfl, vs.length - (i + 1), by omega, i + 1, _, g', by omega, rfl, by rw [fold_step hxx, ha], rfl⟩
    · exact .inr ⟨by simp, .inr ⟨rfl, hr⟩⟩
  · have hii : i = vs.length := by omega
    subst hii
    rw [List.take_length] at ha
    refine FRwp.mono (hx a g ha) fun e st q => .inr ?_
    obtain ⟨rfl, hq⟩ := q
    refine ⟨by simp, ?_⟩
    show (if kb = kb then _ else _)
    rw [if_pos rfl]
    exact .inl ⟨rfl, by rw [ha]; exact hq⟩
/-- .. that does not return. -/
theorem fold_loop' {N : Nat} {W : Base} {b : Code} {kb : Nat} {α β : Type} {vs : List β} (F : α → β → α) (a0 : α) (I : α → Nat → (Nat → Value) → St) (Q : α → St → Prop)
    (hx : ∀ a g, vs.foldl F a0 = a → FRwp Try.prog N W b (I a vs.length g) (fun e st => e = .exit kb ∧ Q a st))
    (hs : ∀ i x a g, vs[i]? = some x → i < vs.length → (vs.take i).foldl F a0 = a → FRwp Try.prog N W b (I a i g) (fun e st => e = .normal ∧ ∃ g', st = I (F a x) (i + 1) g'))
    (g : Nat → Value) : FRwp Try.prog N W (.block kb (.loop b)) (I a0 0 g) (fun e st => e = .normal ∧ Q (vs.foldl F a0) st) :=
  FRwp.mono (fold_loop F a0 I Q (fun _ _ => False) hx (fun i x a g h1 h2 h3 => FRwp.mono (hs i x a g h1 h2 h3) fun e st q => .inl q) g) fun e st q => by
    rcases q with q | ⟨-, h⟩
    · exact q
    · exact h.elim
def unH : Value → Option ViewV
  | .agg cs => match cs.toList with
    | [.bool n, .int .i64 t, .int .i64 o, .int .i64 r, .int .i64 d, .int .i64 i] => some ⟨0, n, t, o, r, d, i⟩
    | _ => none
  | _ => none
theorem unH_some {v : Value} {y : ViewV} (h : unH v = some y) : v = hcA y := by
  unfold unH at h
  split at h
  · rename_i cs
    split at h
    · rename_i n t o r d i hcs
      cases h
      obtain rfl := arr_of hcs
      rfl
    · cases h
  · cases h
def filS (p : ViewV → Bool) (us : List ViewV) (x : ViewV) : List ViewV := bif p x then us ++ [x] else us
theorem fil_fold {p : ViewV → Bool} : ∀ {vs us : List ViewV}, vs.foldl (filS p) us = us ++ vs.filter p
  | [], us => by simp
  | v :: vs, us => by
    rw [List.foldl_cons, fil_fold]
    unfold filS
    cases h : p v with
    | true => rw [List.filter_cons_of_pos h]; simp
    | false => rw [List.filter_cons_of_neg (by rw [h]; simp)]; rfl
theorem tn_own {us : List ViewV} {hp : Hp} {b : Nat} (hb : hp.get b = some (ownB us)) : TN us (vS (!us.isEmpty) b us.length 22) hp := by
  cases us with
  | nil => exact .inl ⟨rfl, rfl⟩
  | cons w us => exact TN.new (c := 22) rfl hb
noncomputable def E36 : Ext := extG (extH Try.prog [(65, g17)]) [(66, G66)]
theorem E36_ok : ExtOk Try.prog E36 := extG_ok (extH_ok (.cons hk65 (.nil))) (.cons hkG66 (.nil))
noncomputable def c36 : CallF := aCall Try.prog E36 5
theorem c36_ok : CallOk Try.prog c36 := aCall_sound E36_ok follows 5
theorem c36_66 (args : List Value) (hp : Hp) : c36 66 args hp = G66 args hp := by
  show aCall Try.prog E36 5 66 _ _ = _
  rw [aCall]; rfl
noncomputable def fb36 : Code := (Try.f36.body).getD .skip
noncomputable def p36 : Nat → Code
  | 0 => fb36
  | n + 1 => sR (p36 n)
noncomputable def c36a : Code := sL (p36 0)
noncomputable def c36b : Code := sL (p36 1)
noncomputable def c36c : Code := sL (sL (p36 2))
noncomputable def c36d : Code := unL (unB (sR (sL (p36 2))))
noncomputable def c36e : Code := p36 3
noncomputable abbrev code36 : Code := .seq c36a (.seq c36b (.seq (.seq c36c (.block 0 (.loop c36d))) c36e))
theorem body36 : Try.f36.body = some code36 := by kernel_rfl
theorem ntmps36 : Try.f36.ntmps = 29 := by kernel_rfl
theorem s36a : codeSafe Try.prog 29 c36a = true := by kernel_rfl
theorem s36b : codeSafe Try.prog 29 c36b = true := by kernel_rfl
theorem s36c : codeSafe Try.prog 29 c36c = true := by kernel_rfl
theorem s36d : codeSafe Try.prog 29 c36d = true := by kernel_rfl
theorem s36e : codeSafe Try.prog 29 c36e = true := by kernel_rfl
theorem q36 (v : Value) (O : List Blk) (g : Nat → Value) : retVal Try.prog Try.f36 (stOf 29 g [(4, v)] O) = some v := by kernel_rfl
section
variable (f fu fi b : Bool) (o U I : Blk) (n c u i q : Nat) (x own : ViewV) (zs : List ViewV) (ids : List Int) (g : Nat → Value)
theorem r36a : (execE Try.prog c36 [] [] [] 20 c36a ⟨tmsOf [rowS 0 n c, hcA own] 0 .leaf, heapOf [o, .dead] hp0, []⟩).map (fun z => (look2 1 [0, 2] [0, 3] (z.1, z.2.1), z.2.2)) =
    some ((.normal, [o, hB own], [(0, rowS 0 n c), (3, pb 1 0)], true), [], [], []) := by kernel_rfl
theorem n36a : (execE Try.prog c36 [] [] [] 20 c36a ⟨tmsOf [nilS, hcA own] 0 .leaf, heapOf [.dead] hp0, []⟩).map (fun z => (look2 1 [0, 1] [0, 3] (z.1, z.2.1), z.2.2)) =
    some ((.normal, [.dead, hB own], [(0, nilS), (3, pb 1 0)], true), [], [], []) := by kernel_rfl
theorem r36b : (execE Try.prog c36 [] [] [] 20 c36b (stOf 29 g [(0, vS f 0 n c), (3, pb 1 0)] [o, hB own])).map (fun z => (look2 2 [0, 2, 1] [0, 3, 5] (z.1, z.2.1), z.2.2)) =
    some ((.normal, [o, .dead, hB own], [(0, vS f 0 n c), (3, pb 2 0), (5, nilS)], true), [], [], []) := by cases f <;> kernel_rfl
theorem r36c : (execE Try.prog c36 [] [] [] 20 c36c (stOf 29 g [(0, vS f 0 n c), (3, pb 2 0), (5, nilS)] [o, .dead, hB own])).map (fun z => (look2 2 [0, 1, 2] [0, 3, 5, 6] (z.1, z.2.1), z.2.2)) =
    some ((.normal, [o, .dead, hB own], [(0, vS f 0 n c), (3, pb 2 0), (5, nilS), (6, iN 0)], true), [], [], []) := by cases f <;> kernel_rfl
abbrev L36 (U : Blk) (fu : Bool) (u i : Nat) (g : Nat → Value) : St := (stOf 29 g [(0, vS f 0 n c), (3, pb 2 0), (5, vS fu 1 u 22), (6, iN i)] [o, U, hB own])
def h36 (o U : Blk) (own : ViewV) : Hp := heapOf ([o, U, hB own] ++ [.dead]) hp0
theorem r36x : (execE Try.prog c36 [(10, .bool false)] [] [] 20 c36d (L36 f o n c own U fu u i g)).map (fun z => (look2 1 [1] [5] (z.1, z.2.1), z.2.2)) =
    some ((.exit 0, [U], [(5, vS fu 0 u 22)], true), [ltO i (kk f n) false], [], []) := by cases f <;> cases fu <;> kernel_rfl
theorem r36f : (execE Try.prog c36 [(10, .bool true), (15, pb 0 (i * 7)), (17, hcA x), (19, .bool false), (12, iN (i + 1))] [] [] 20 c36d (L36 true o n c own U fu u i g)).map (fun z => (look2 2 [0, 1, 2] [0, 3, 5, 6] (z.1, z.2.1), z.2.2)) =
    some ((.normal, [o, U, hB own], [(0, rowS 0 n c), (3, pb 2 0), (5, vS fu 1 u 22), (6, iN (i + 1))], true), [ltO i n true, ixO 0 n c i, ldO (h36 o U own).get 23 0 (i * 7 + 1) (hcA x), leV x own false, nxt29 i], [], []) := by cases fu <;> kernel_rfl
theorem r36t : (execE Try.prog c36 [(10, .bool true), (15, pb 0 (i * 7)), (17, hcA x), (19, .bool true), (23, pb 0 (i * 7)), (24, .agg ⟨vc x⟩), (12, iN (i + 1))] [] [(26, newS 5 (u + 1), effF fu 1 (rowB zs))] 20 c36d (L36 true o n c own U fu u i g)).map (fun z => (look2 2 [0, 5, 2] [0, 3, 5, 6] (z.1, z.2.1), z.2.2)) =
    some ((.normal, [o, rowB zs, hB own], [(0, rowS 0 n c), (3, pb 2 0), (5, newS 1 (u + 1)), (6, iN (i + 1))], true), [ltO i n true, ixO 0 n c i, ldO (h36 o U own).get 23 0 (i * 7 + 1) (hcA x), leV x own true, ixO 0 n c i, ldO (h36 o U own).get 34 0 (i * 7) (.agg ⟨vc x⟩), nxt29 i], [], [apV ((h36 o U own).push (vB x)) 5 1 u 4 fu zs]) := by cases fu <;> kernel_rfl
theorem r36e : (execE Try.prog c36 [] [(28, vI fi 2 q, [I, .dead])] [] 20 c36e (stOf 29 g [(5, vS fu 0 u 22)] [U])).map (fun z => (look2 1 [2] [4] (z.1, z.2.1), z.2.2)) =
    some ((.ret, [I], [(4, vI fi 0 q)], true), [], [(c36 66 [vS fu 0 u 22] (heapOf ([U] ++ [.dead]) hp0), (vI fi 2 q, heapOf [I, .dead] (heapOf ([U] ++ [.dead]) hp0)))], []) := by cases fu <;> cases fi <;> kernel_rfl
end
def belR36 (vs : List ViewV) : Ans := fun rest => match rest with
  | [v] => (unH v).map fun own => (rowIv ((ordO (vs.filter (pr24 own))).map fun x => x.id) 0, rowIO ((ordO (vs.filter (pr24 own))).map fun x => x.id))
  | _ => none
theorem run36 (vs : List ViewV) (hn : vs.length < 1000000) : ∀ rest v0 O, belR36 vs rest = some (v0, O) → RowRun Try.f36 code36 29 vs rest v0 O := fun rest v0 O h => by
  unfold belR36 at h
  split at h
  case h_2 => cases h
  rename_i v
  obtain ⟨own, hown, h2⟩ := Option.map_eq_some_iff.1 h
  obtain rfl := unH_some hown
  cases h2
  refine ⟨rowI_out _, rowI_ok _, (by intro r hr; have e : r = hcA own := (by simpa using hr); rw [e]; exact stay_h own), by simp, fun f o c W ho hrow hfl => ?_⟩
  have hkk := kk_len hfl
  have fx2 : ∀ us : List ViewV, ∀ r : List Blk, ∀ i, i < 2 → ∀ o', (o :: ownB us :: r)[i]? = some o' → Fixed 0 o' := fun us => fixOO ho (ownB_inert us)
  refine FRwp.seq (Q1 := fun e st => e = .normal ∧ ∃ g, st = stOf 29 g [(0, vS f 0 vs.length c), (3, pb 1 0)] [o, hB own]) ?_ ?_ (fun x st hne hq => absurd hq.1 hne)
  · cases f with
    | true => exact FRwp.pieceY c36_ok follows 1 _ _ _ _ (r36a o vs.length c own) Met.nil MetH.nil MetE.nil s36a rfl rfl (fix11 ho _) fun g => ⟨rfl, g, rfl⟩
    | false =>
      obtain ⟨rfl, rfl⟩ := hfl rfl
      exact FRwp.pieceY c36_ok follows 1 _ _ _ _ (n36a own) Met.nil MetH.nil MetE.nil s36a rfl rfl (fix11 rfl _) fun g => ⟨rfl, g, rfl⟩
  rintro st ⟨-, g, rfl⟩
  refine FRwp.seq (Q1 := fun e st => e = .normal ∧ ∃ g, st = stOf 29 g [(0, vS f 0 vs.length c), (3, pb 2 0), (5, nilS)] [o, .dead, hB own]) (FRwp.pieceY c36_ok follows 2 _ _ _ _ (r36b f o vs.length c own g) Met.nil MetH.nil MetE.nil s36b rfl rfl (fx2 [] _) fun g => ⟨rfl, g, rfl⟩) ?_ (fun x st hne hq => absurd hq.1 hne)
  rintro st ⟨-, g, rfl⟩
  refine FRwp.seq (Q1 := fun e st => e = .normal ∧ ∃ g, st = stOf 29 g [(5, vS (!(vs.filter (pr24 own)).isEmpty) 0 (vs.filter (pr24 own)).length 22)] [ownB (vs.filter (pr24 own))]) ?_ ?_ (fun x st hne hq => absurd hq.1 hne)
  · refine FRwp.seq (Q1 := fun e st => e = .normal ∧ ∃ g, st = L36 f o vs.length c own .dead false 0 0 g) (FRwp.pieceY c36_ok follows 2 _ _ _ _ (r36c f o vs.length c own g) Met.nil MetH.nil MetE.nil s36c rfl rfl (fx2 [] _) fun g => ⟨rfl, g, rfl⟩) ?_ (fun x st hne hq => absurd hq.1 hne)
    rintro st ⟨-, g, rfl⟩
    refine FRwp.mono (fold_loop' (filS (pr24 own)) [] (fun us i g => L36 f o vs.length c own (ownB us) (!us.isEmpty) us.length i g) (fun us st => ∃ g, st = stOf 29 g [(5, vS (!us.isEmpty) 0 us.length 22)] [ownB us]) (fun us g hf => ?_) (fun i x us g hx hlt hf => ?_) g) fun e st q => by rw [fil_fold] at q; exact q
    · exact FRwp.pieceY c36_ok follows 1 _ _ _ _ (r36x f (!us.isEmpty) o (ownB us) vs.length c us.length vs.length own g) (Met.cons (ltO_ok (by rw [hkk]; simp)) Met.nil) MetH.nil MetE.nil s36d rfl rfl (fix11 (ownB_inert us) []) fun g' => ⟨rfl, g', rfl⟩
    · have hft : f = true := by cases f with
        | true => rfl
        | false => rw [(hfl rfl).1] at hlt; simp at hlt
      subst hft
      have hr : ∃ ty ro, o = .cells ty (vrow vs) ro := by
        rcases hrow with h | h
        · rw [h] at hlt; simp at hlt
        · exact h
      have hul : us.length ≤ i := by
        rw [← hf, fil_fold]
        have := List.length_filter_le (pr24 own) (vs.take i)
        rw [List.length_take] at this
        simp; omega
      have b0 : RowAt (h36 o (ownB us) own) 0 vs := rowAt0 hr
      have met : ∀ {l : List Obl}, Met l → Met (ltO i vs.length true :: ixO 0 vs.length c i :: ldO (h36 o (ownB us) own).get 23 0 (i * 7 + 1) (hcA x) :: l) := fun hl => Met.cons (ltO_ok (decide_eq_true hlt)) (Met.cons (vidx_ok hlt) (Met.cons (hload_ok b0 hx) hl))
      have hnx : Met [nxt29 i] := Met.cons (wrap_up (by omega)) Met.nil
      cases h19 : pr24 own x with
      | false =>
        refine FRwp.pieceY c36_ok follows 2 _ _ _ _ (r36f (!us.isEmpty) o (ownB us) vs.length c us.length i x own g) (met (Met.cons (leV_ok h19) hnx)) MetH.nil MetE.nil s36d rfl rfl (fx2 us _) fun g' => ⟨rfl, g', ?_⟩
        unfold filS; rw [h19]; rfl
      | true =>
        have g1 : ((h36 o (ownB us) own).push (vB x)).get 1 = some (ownB us) := by rw [Hp.get_push, if_neg (by show (1 : Nat) ≠ 4; omega)]; unfold h36; rw [heapOf0_get]; rfl
        have g4 : ((h36 o (ownB us) own).push (vB x)).get 4 = some (vB x) := by rw [Hp.get_push, if_pos (by show (4 : Nat) = 4; rfl)]
        refine FRwp.pieceY c36_ok follows 2 _ _ _ _ (r36t (!us.isEmpty) o (ownB us) vs.length c us.length i x own (us ++ [x]) g) (met (Met.cons (leV_ok h19) (Met.cons (vidx_ok hlt) (Met.cons (vload_ok b0 hx) hnx)))) MetH.nil (MetE.cons (app_any rfl g1 g4 rfl (by omega)) MetE.nil) s36d rfl rfl
          (by rw [← ownB_ne (ne_app us x)]; exact fx2 _ _) fun g' => ⟨rfl, g', ?_⟩
        unfold filS; rw [h19, cond_true, isE_app, ownB_ne (ne_app us x)]
        have e1 : (us ++ [x]).length = us.length + 1 := by simp
        rw [e1]; rfl
  rintro st ⟨-, g, rfl⟩
  have hfl' : (vs.filter (pr24 own)).length < 1000000 := by have := List.length_filter_le (pr24 own) vs; omega
  generalize vs.filter (pr24 own) = us at *
  have hT : TN us (vS (!us.isEmpty) 0 us.length 22) (heapOf ([ownB us] ++ [.dead]) hp0) := tn_own (by rw [heapOf0_get]; rfl)
  have hc := (c36_66 [vS (!us.isEmpty) 0 us.length 22] (heapOf ([ownB us] ++ [.dead]) hp0)).trans (G66_of hT hfl')
  generalize (ordO us).map (fun x => x.id) = ids at *
  have hvi : ∀ b, vI (!ids.isEmpty) b ids.length = rowIv ids b := fun b => by cases ids <;> rfl
  rw [← hvi] at hc ⊢
  refine FRwp.pieceY c36_ok follows 1 _ _ _ _ (r36e (!us.isEmpty) (!ids.isEmpty) (ownB us) (ownI ids) us.length ids.length g) Met.nil (MetH.cons hc MetH.nil) MetE.nil s36e rfl rfl (fix11 (ownI_inert ids) []) fun g => ⟨.inr rfl, rfl, q36 _ _ g, fun B hB => ?_⟩
  cases ids with
  | nil => cases hB
  | cons i ids => cases hB; show (heapOf _ hp0).get 0 = _; rw [heapOf0_get]; rfl
noncomputable def G36 : HeapFn := padF (toldR belR36)
theorem hkG36 : CallGoal Try.prog 36 G36 := pad_goal (toldR_goal Try.func36 body36 (by kernel_rfl) ntmps36 fun vs hn => run36 vs hn)
theorem G36_of {vs : List ViewV} {s : Value} {hp : Hp} (own : ViewV) (h : TN vs s hp) (hn : vs.length < 1000000) : G36 [s, hcA own] hp = some (rowIv ((ordO (vs.filter (pr24 own))).map fun x => x.id) hp.sz, heapOf [ownI ((ordO (vs.filter (pr24 own))).map fun x => x.id), .dead] hp) := toldR_ids h hn rfl
noncomputable def E37 : Ext := extG (extH Try.prog [(65, g17)]) [(66, G66)]
theorem E37_ok : ExtOk Try.prog E37 := extG_ok (extH_ok (.cons hk65 (.nil))) (.cons hkG66 (.nil))
noncomputable def c37 : CallF := aCall Try.prog E37 5
theorem c37_ok : CallOk Try.prog c37 := aCall_sound E37_ok follows 5
theorem c37_66 (args : List Value) (hp : Hp) : c37 66 args hp = G66 args hp := by
  show aCall Try.prog E37 5 66 _ _ = _
  rw [aCall]; rfl
noncomputable def fb37 : Code := (Try.f37.body).getD .skip
noncomputable def p37 : Nat → Code
  | 0 => fb37
  | n + 1 => sR (p37 n)
noncomputable def c37a : Code := sL (p37 0)
noncomputable def c37b : Code := sL (p37 1)
noncomputable def c37c : Code := sL (sL (p37 2))
noncomputable def c37d : Code := unL (unB (sR (sL (p37 2))))
noncomputable def c37e : Code := p37 3
noncomputable abbrev code37 : Code := .seq c37a (.seq c37b (.seq (.seq c37c (.block 0 (.loop c37d))) c37e))
theorem body37 : Try.f37.body = some code37 := by kernel_rfl
theorem ntmps37 : Try.f37.ntmps = 29 := by kernel_rfl
theorem s37a : codeSafe Try.prog 29 c37a = true := by kernel_rfl
theorem s37b : codeSafe Try.prog 29 c37b = true := by kernel_rfl
theorem s37c : codeSafe Try.prog 29 c37c = true := by kernel_rfl
theorem s37d : codeSafe Try.prog 29 c37d = true := by kernel_rfl
theorem s37e : codeSafe Try.prog 29 c37e = true := by kernel_rfl
theorem q37 (v : Value) (O : List Blk) (g : Nat → Value) : retVal Try.prog Try.f37 (stOf 29 g [(4, v)] O) = some v := by kernel_rfl
section
variable (f fu fi b : Bool) (o U I : Blk) (n c u i q : Nat) (x own : ViewV) (zs : List ViewV) (ids : List Int) (g : Nat → Value)
theorem r37a : (execE Try.prog c37 [] [] [] 20 c37a ⟨tmsOf [rowS 0 n c, hcA own] 0 .leaf, heapOf [o, .dead] hp0, []⟩).map (fun z => (look2 1 [0, 2] [0, 3] (z.1, z.2.1), z.2.2)) =
    some ((.normal, [o, hB own], [(0, rowS 0 n c), (3, pb 1 0)], true), [], [], []) := by kernel_rfl
theorem n37a : (execE Try.prog c37 [] [] [] 20 c37a ⟨tmsOf [nilS, hcA own] 0 .leaf, heapOf [.dead] hp0, []⟩).map (fun z => (look2 1 [0, 1] [0, 3] (z.1, z.2.1), z.2.2)) =
    some ((.normal, [.dead, hB own], [(0, nilS), (3, pb 1 0)], true), [], [], []) := by kernel_rfl
theorem r37b : (execE Try.prog c37 [] [] [] 20 c37b (stOf 29 g [(0, vS f 0 n c), (3, pb 1 0)] [o, hB own])).map (fun z => (look2 2 [0, 2, 1] [0, 3, 5] (z.1, z.2.1), z.2.2)) =
    some ((.normal, [o, .dead, hB own], [(0, vS f 0 n c), (3, pb 2 0), (5, nilS)], true), [], [], []) := by cases f <;> kernel_rfl
theorem r37c : (execE Try.prog c37 [] [] [] 20 c37c (stOf 29 g [(0, vS f 0 n c), (3, pb 2 0), (5, nilS)] [o, .dead, hB own])).map (fun z => (look2 2 [0, 1, 2] [0, 3, 5, 6] (z.1, z.2.1), z.2.2)) =
    some ((.normal, [o, .dead, hB own], [(0, vS f 0 n c), (3, pb 2 0), (5, nilS), (6, iN 0)], true), [], [], []) := by cases f <;> kernel_rfl
abbrev L37 (U : Blk) (fu : Bool) (u i : Nat) (g : Nat → Value) : St := (stOf 29 g [(0, vS f 0 n c), (3, pb 2 0), (5, vS fu 1 u 22), (6, iN i)] [o, U, hB own])
def h37 (o U : Blk) (own : ViewV) : Hp := heapOf ([o, U, hB own] ++ [.dead]) hp0
theorem r37x : (execE Try.prog c37 [(10, .bool false)] [] [] 20 c37d (L37 f o n c own U fu u i g)).map (fun z => (look2 1 [1] [5] (z.1, z.2.1), z.2.2)) =
    some ((.exit 0, [U], [(5, vS fu 0 u 22)], true), [ltO i (kk f n) false], [], []) := by cases f <;> cases fu <;> kernel_rfl
theorem r37f : (execE Try.prog c37 [(10, .bool true), (16, pb 0 (i * 7)), (18, hcA x), (19, .bool false), (12, iN (i + 1))] [] [] 20 c37d (L37 true o n c own U fu u i g)).map (fun z => (look2 2 [0, 1, 2] [0, 3, 5, 6] (z.1, z.2.1), z.2.2)) =
    some ((.normal, [o, U, hB own], [(0, rowS 0 n c), (3, pb 2 0), (5, vS fu 1 u 22), (6, iN (i + 1))], true), [ltO i n true, ixO 0 n c i, ldO (h37 o U own).get 23 0 (i * 7 + 1) (hcA x), leV own x false, nxt29 i], [], []) := by cases fu <;> kernel_rfl
theorem r37t : (execE Try.prog c37 [(10, .bool true), (16, pb 0 (i * 7)), (18, hcA x), (19, .bool true), (23, pb 0 (i * 7)), (24, .agg ⟨vc x⟩), (12, iN (i + 1))] [] [(26, newS 5 (u + 1), effF fu 1 (rowB zs))] 20 c37d (L37 true o n c own U fu u i g)).map (fun z => (look2 2 [0, 5, 2] [0, 3, 5, 6] (z.1, z.2.1), z.2.2)) =
    some ((.normal, [o, rowB zs, hB own], [(0, rowS 0 n c), (3, pb 2 0), (5, newS 1 (u + 1)), (6, iN (i + 1))], true), [ltO i n true, ixO 0 n c i, ldO (h37 o U own).get 23 0 (i * 7 + 1) (hcA x), leV own x true, ixO 0 n c i, ldO (h37 o U own).get 34 0 (i * 7) (.agg ⟨vc x⟩), nxt29 i], [], [apV ((h37 o U own).push (vB x)) 5 1 u 4 fu zs]) := by cases fu <;> kernel_rfl
theorem r37e : (execE Try.prog c37 [] [(28, vI fi 2 q, [I, .dead])] [] 20 c37e (stOf 29 g [(5, vS fu 0 u 22)] [U])).map (fun z => (look2 1 [2] [4] (z.1, z.2.1), z.2.2)) =
    some ((.ret, [I], [(4, vI fi 0 q)], true), [], [(c37 66 [vS fu 0 u 22] (heapOf ([U] ++ [.dead]) hp0), (vI fi 2 q, heapOf [I, .dead] (heapOf ([U] ++ [.dead]) hp0)))], []) := by cases fu <;> cases fi <;> kernel_rfl
end
def belR37 (vs : List ViewV) : Ans := fun rest => match rest with
  | [v] => (unH v).map fun own => (rowIv ((ordO (vs.filter (pr25 own))).map fun x => x.id) 0, rowIO ((ordO (vs.filter (pr25 own))).map fun x => x.id))
  | _ => none
theorem run37 (vs : List ViewV) (hn : vs.length < 1000000) : ∀ rest v0 O, belR37 vs rest = some (v0, O) → RowRun Try.f37 code37 29 vs rest v0 O := fun rest v0 O h => by
  unfold belR37 at h
  split at h
  case h_2 => cases h
  rename_i v
  obtain ⟨own, hown, h2⟩ := Option.map_eq_some_iff.1 h
  obtain rfl := unH_some hown
  cases h2
  refine ⟨rowI_out _, rowI_ok _, (by intro r hr; have e : r = hcA own := (by simpa using hr); rw [e]; exact stay_h own), by simp, fun f o c W ho hrow hfl => ?_⟩
  have hkk := kk_len hfl
  have fx2 : ∀ us : List ViewV, ∀ r : List Blk, ∀ i, i < 2 → ∀ o', (o :: ownB us :: r)[i]? = some o' → Fixed 0 o' := fun us => fixOO ho (ownB_inert us)
  refine FRwp.seq (Q1 := fun e st => e = .normal ∧ ∃ g, st = stOf 29 g [(0, vS f 0 vs.length c), (3, pb 1 0)] [o, hB own]) ?_ ?_ (fun x st hne hq => absurd hq.1 hne)
  · cases f with
    | true => exact FRwp.pieceY c37_ok follows 1 _ _ _ _ (r37a o vs.length c own) Met.nil MetH.nil MetE.nil s37a rfl rfl (fix11 ho _) fun g => ⟨rfl, g, rfl⟩
    | false =>
      obtain ⟨rfl, rfl⟩ := hfl rfl
      exact FRwp.pieceY c37_ok follows 1 _ _ _ _ (n37a own) Met.nil MetH.nil MetE.nil s37a rfl rfl (fix11 rfl _) fun g => ⟨rfl, g, rfl⟩
  rintro st ⟨-, g, rfl⟩
  refine FRwp.seq (Q1 := fun e st => e = .normal ∧ ∃ g, st = stOf 29 g [(0, vS f 0 vs.length c), (3, pb 2 0), (5, nilS)] [o, .dead, hB own]) (FRwp.pieceY c37_ok follows 2 _ _ _ _ (r37b f o vs.length c own g) Met.nil MetH.nil MetE.nil s37b rfl rfl (fx2 [] _) fun g => ⟨rfl, g, rfl⟩) ?_ (fun x st hne hq => absurd hq.1 hne)
  rintro st ⟨-, g, rfl⟩
  refine FRwp.seq (Q1 := fun e st => e = .normal ∧ ∃ g, st = stOf 29 g [(5, vS (!(vs.filter (pr25 own)).isEmpty) 0 (vs.filter (pr25 own)).length 22)] [ownB (vs.filter (pr25 own))]) ?_ ?_ (fun x st hne hq => absurd hq.1 hne)
  · refine FRwp.seq (Q1 := fun e st => e = .normal ∧ ∃ g, st = L37 f o vs.length c own .dead false 0 0 g) (FRwp.pieceY c37_ok follows 2 _ _ _ _ (r37c f o vs.length c own g) Met.nil MetH.nil MetE.nil s37c rfl rfl (fx2 [] _) fun g => ⟨rfl, g, rfl⟩) ?_ (fun x st hne hq => absurd hq.1 hne)
    rintro st ⟨-, g, rfl⟩
    refine FRwp.mono (fold_loop' (filS (pr25 own)) [] (fun us i g => L37 f o vs.length c own (ownB us) (!us.isEmpty) us.length i g) (fun us st => ∃ g, st = stOf 29 g [(5, vS (!us.isEmpty) 0 us.length 22)] [ownB us]) (fun us g hf => ?_) (fun i x us g hx hlt hf => ?_) g) fun e st q => by rw [fil_fold] at q; exact q
    · exact FRwp.pieceY c37_ok follows 1 _ _ _ _ (r37x f (!us.isEmpty) o (ownB us) vs.length c us.length vs.length own g) (Met.cons (ltO_ok (by rw [hkk]; simp)) Met.nil) MetH.nil MetE.nil s37d rfl rfl (fix11 (ownB_inert us) []) fun g' => ⟨rfl, g', rfl⟩
    · have hft : f = true := by cases f with
        | true => rfl
        | false => rw [(hfl rfl).1] at hlt; simp at hlt
      subst hft
      have hr : ∃ ty ro, o = .cells ty (vrow vs) ro := by
        rcases hrow with h | h
        · rw [h] at hlt; simp at hlt
        · exact h
      have hul : us.length ≤ i := by
        rw [← hf, fil_fold]
        have := List.length_filter_le (pr25 own) (vs.take i)
        rw [List.length_take] at this
        simp; omega
      have b0 : RowAt (h37 o (ownB us) own) 0 vs := rowAt0 hr
      have met : ∀ {l : List Obl}, Met l → Met (ltO i vs.length true :: ixO 0 vs.length c i :: ldO (h37 o (ownB us) own).get 23 0 (i * 7 + 1) (hcA x) :: l) := fun hl => Met.cons (ltO_ok (decide_eq_true hlt)) (Met.cons (vidx_ok hlt) (Met.cons (hload_ok b0 hx) hl))
      have hnx : Met [nxt29 i] := Met.cons (wrap_up (by omega)) Met.nil
      cases h19 : pr25 own x with
      | false =>
        refine FRwp.pieceY c37_ok follows 2 _ _ _ _ (r37f (!us.isEmpty) o (ownB us) vs.length c us.length i x own g) (met (Met.cons (leV_ok h19) hnx)) MetH.nil MetE.nil s37d rfl rfl (fx2 us _) fun g' => ⟨rfl, g', ?_⟩
        unfold filS; rw [h19]; rfl
      | true =>
        have g1 : ((h37 o (ownB us) own).push (vB x)).get 1 = some (ownB us) := by rw [Hp.get_push, if_neg (by show (1 : Nat) ≠ 4; omega)]; unfold h37; rw [heapOf0_get]; rfl
        have g4 : ((h37 o (ownB us) own).push (vB x)).get 4 = some (vB x) := by rw [Hp.get_push, if_pos (by show (4 : Nat) = 4; rfl)]
        refine FRwp.pieceY c37_ok follows 2 _ _ _ _ (r37t (!us.isEmpty) o (ownB us) vs.length c us.length i x own (us ++ [x]) g) (met (Met.cons (leV_ok h19) (Met.cons (vidx_ok hlt) (Met.cons (vload_ok b0 hx) hnx)))) MetH.nil (MetE.cons (app_any rfl g1 g4 rfl (by omega)) MetE.nil) s37d rfl rfl
          (by rw [← ownB_ne (ne_app us x)]; exact fx2 _ _) fun g' => ⟨rfl, g', ?_⟩
        unfold filS; rw [h19, cond_true, isE_app, ownB_ne (ne_app us x)]
        have e1 : (us ++ [x]).length = us.length + 1 := by simp
        rw [e1]; rfl
  rintro st ⟨-, g, rfl⟩
  have hfl' : (vs.filter (pr25 own)).length < 1000000 := by have := List.length_filter_le (pr25 own) vs; omega
  generalize vs.filter (pr25 own) = us at *
  have hT : TN us (vS (!us.isEmpty) 0 us.length 22) (heapOf ([ownB us] ++ [.dead]) hp0) := tn_own (by rw [heapOf0_get]; rfl)
  have hc := (c37_66 [vS (!us.isEmpty) 0 us.length 22] (heapOf ([ownB us] ++ [.dead]) hp0)).trans (G66_of hT hfl')
  generalize (ordO us).map (fun x => x.id) = ids at *
  have hvi : ∀ b, vI (!ids.isEmpty) b ids.length = rowIv ids b := fun b => by cases ids <;> rfl
  rw [← hvi] at hc ⊢
  refine FRwp.pieceY c37_ok follows 1 _ _ _ _ (r37e (!us.isEmpty) (!ids.isEmpty) (ownB us) (ownI ids) us.length ids.length g) Met.nil (MetH.cons hc MetH.nil) MetE.nil s37e rfl rfl (fix11 (ownI_inert ids) []) fun g => ⟨.inr rfl, rfl, q37 _ _ g, fun B hB => ?_⟩
  cases ids with
  | nil => cases hB
  | cons i ids => cases hB; show (heapOf _ hp0).get 0 = _; rw [heapOf0_get]; rfl
noncomputable def G37 : HeapFn := padF (toldR belR37)
theorem hkG37 : CallGoal Try.prog 37 G37 := pad_goal (toldR_goal Try.func37 body37 (by kernel_rfl) ntmps37 fun vs hn => run37 vs hn)
theorem G37_of {vs : List ViewV} {s : Value} {hp : Hp} (own : ViewV) (h : TN vs s hp) (hn : vs.length < 1000000) : G37 [s, hcA own] hp = some (rowIv ((ordO (vs.filter (pr25 own))).map fun x => x.id) hp.sz, heapOf [ownI ((ordO (vs.filter (pr25 own))).map fun x => x.id), .dead] hp) := toldR_ids h hn rfl
end Go.Proofs.Ytiogdklmhpllfaa.LtA
namespace Go.Proofs.Ytiogdklmhpllfaa.LtA
open Go Go.Proofs Go.Proofs.Ytiogdklmhpllfaa.AI Go.RowKit Go.Proofs.Ytiogdklmhpllfaa.Sort

noncomputable def E38 : Ext := extH Try.prog [(64, g64), (67, g31), (68, g32)]
theorem E38_ok : ExtOk Try.prog E38 := extH_ok (.cons hk64 (.cons hk67 (.cons hk68 (.nil))))
noncomputable def c38 : CallF := aCall Try.prog E38 5
theorem c38_ok : CallOk Try.prog c38 := aCall_sound E38_ok follows 5
noncomputable def fb38 : Code := (Try.f38.body).getD .skip
noncomputable def p38 : Nat → Code
  | 0 => fb38
  | n + 1 => sR (p38 n)
noncomputable def c38a : Code := sL (p38 0)
noncomputable def c38b : Code := sL (p38 1)
noncomputable def c38c : Code := sL (sL (p38 2))
noncomputable def c38d : Code := unL (unB (sR (sL (p38 2))))
noncomputable def c38e : Code := p38 3
noncomputable abbrev code38 : Code := .seq c38a (.seq c38b (.seq (.seq c38c (.block 0 (.loop c38d))) c38e))
theorem body38 : Try.f38.body = some code38 := by kernel_rfl
theorem ntmps38 : Try.f38.ntmps = 46 := by kernel_rfl
theorem s38a : codeSafe Try.prog 46 c38a = true := by kernel_rfl
theorem s38b : codeSafe Try.prog 46 c38b = true := by kernel_rfl
theorem s38c : codeSafe Try.prog 46 c38c = true := by kernel_rfl
theorem s38d : codeSafe Try.prog 46 c38d = true := by kernel_rfl
theorem s38e : codeSafe Try.prog 46 c38e = true := by kernel_rfl
theorem q38 (v : Value) (O : List Blk) (g : Nat → Value) : retVal Try.prog Try.f38 (stOf 46 g [(6, v)] O) = some v := by kernel_rfl
section
variable (f fu : Bool) (o U : Blk) (n c u i : Nat) (lt lo lr keep : Int) (x : ViewV) (zs : List ViewV) (g : Nat → Value)
theorem r38a : (execE Try.prog c38 [] [] [] 20 c38a ⟨tmsOf [rowS 0 n c, levA lt lo lr, .int .i64 keep] 0 .leaf, heapOf [o, .dead] hp0, []⟩).map (fun z => (look2 1 [0, 2] [0, 2, 4] (z.1, z.2.1), z.2.2)) =
    some ((.normal, [o, lvB lt lo lr], [(0, rowS 0 n c), (2, .int .i64 keep), (4, pb 1 0)], true), [], [], []) := by kernel_rfl
theorem n38a : (execE Try.prog c38 [] [] [] 20 c38a ⟨tmsOf [nilS, levA lt lo lr, .int .i64 keep] 0 .leaf, heapOf [.dead] hp0, []⟩).map (fun z => (look2 1 [0, 1] [0, 2, 4] (z.1, z.2.1), z.2.2)) =
    some ((.normal, [.dead, lvB lt lo lr], [(0, nilS), (2, .int .i64 keep), (4, pb 1 0)], true), [], [], []) := by kernel_rfl
theorem r38b : (execE Try.prog c38 [] [] [] 20 c38b (stOf 46 g [(0, vS f 0 n c), (2, .int .i64 keep), (4, pb 1 0)] [o, lvB lt lo lr])).map (fun z => (look2 2 [0, 2, 1] [0, 2, 4, 7] (z.1, z.2.1), z.2.2)) =
    some ((.normal, [o, .dead, lvB lt lo lr], [(0, vS f 0 n c), (2, .int .i64 keep), (4, pb 2 0), (7, nilS)], true), [], [], []) := by cases f <;> kernel_rfl
theorem r38c : (execE Try.prog c38 [] [] [] 20 c38c (stOf 46 g [(0, vS f 0 n c), (2, .int .i64 keep), (4, pb 2 0), (7, nilS)] [o, .dead, lvB lt lo lr])).map (fun z => (look2 2 [0, 1, 2] [0, 2, 4, 7, 8] (z.1, z.2.1), z.2.2)) =
    some ((.normal, [o, .dead, lvB lt lo lr], [(0, vS f 0 n c), (2, .int .i64 keep), (4, pb 2 0), (7, nilS), (8, iN 0)], true), [], [], []) := by cases f <;> kernel_rfl
abbrev L38 (U : Blk) (fu : Bool) (u i : Nat) (g : Nat → Value) : St := (stOf 46 g [(0, vS f 0 n c), (2, .int .i64 keep), (4, pb 2 0), (7, vS fu 1 u 22), (8, iN i)] [o, U, lvB lt lo lr])
def h38 (o U : Blk) (lt lo lr : Int) : Hp := heapOf ([o, U, lvB lt lo lr] ++ [.dead]) hp0
theorem r38x : (execE Try.prog c38 [(13, .bool false)] [] [] 20 c38d (L38 f o n c lt lo lr keep U fu u i g)).map (fun z => (look2 1 [1] [7] (z.1, z.2.1), z.2.2)) =
    some ((.exit 0, [U], [(7, vS fu 0 u 22)], true), [ltO i (kk f n) false], [], []) := by cases f <;> cases fu <;> kernel_rfl
theorem r38f : (execE Try.prog c38 [(13, .bool true), (18, pb 0 (i * 7)), (19, .agg ⟨vc x⟩), (15, iN (i + 1)), (23, .bool false)] [] [(44, newS 6 (u + 1), effF fu 1 (rowB zs))] 20 c38d (L38 true o n c lt lo lr keep U fu u i g)).map (fun z => (look2 2 [0, 6, 2] [0, 2, 4, 7, 8] (z.1, z.2.1), z.2.2)) =
    some ((.normal, [o, rowB zs, lvB lt lo lr], [(0, rowS 0 n c), (2, .int .i64 keep), (4, pb 2 0), (7, newS 1 (u + 1)), (8, iN (i + 1))], true), [ltO i n true, ixO 0 n c i, ldO (h38 o U lt lo lr).get 34 0 (i * 7) (.agg ⟨vc x⟩), (some (.bool (x.id != keep)), .bool false), nxt29 i], [], [apV (((h38 o U lt lo lr).push (vB x)).push (vB x)) 6 1 u 5 fu zs]) := by cases fu <;> kernel_rfl
theorem r38g : (execE Try.prog c38 [(13, .bool true), (18, pb 0 (i * 7)), (19, .agg ⟨vc x⟩), (15, iN (i + 1)), (23, .bool true), (27, .bool false)] [] [(44, newS 6 (u + 1), effF fu 1 (rowB zs))] 20 c38d (L38 true o n c lt lo lr keep U fu u i g)).map (fun z => (look2 2 [0, 6, 2] [0, 2, 4, 7, 8] (z.1, z.2.1), z.2.2)) =
    some ((.normal, [o, rowB zs, lvB lt lo lr], [(0, rowS 0 n c), (2, .int .i64 keep), (4, pb 2 0), (7, newS 1 (u + 1)), (8, iN (i + 1))], true), [ltO i n true, ixO 0 n c i, ldO (h38 o U lt lo lr).get 34 0 (i * 7) (.agg ⟨vc x⟩), (some (.bool (x.id != keep)), .bool true), toV x false, nxt29 i], [], [apV (((h38 o U lt lo lr).push (vB x)).push (vB x)) 6 1 u 5 fu zs]) := by cases fu <;> kernel_rfl
theorem r38h : (execE Try.prog c38 [(13, .bool true), (18, pb 0 (i * 7)), (19, .agg ⟨vc x⟩), (15, iN (i + 1)), (23, .bool true), (27, .bool true), (34, .bool false)] [] [(44, newS 6 (u + 1), effF fu 1 (rowB zs))] 20 c38d (L38 true o n c lt lo lr keep U fu u i g)).map (fun z => (look2 2 [0, 6, 2] [0, 2, 4, 7, 8] (z.1, z.2.1), z.2.2)) =
    some ((.normal, [o, rowB zs, lvB lt lo lr], [(0, rowS 0 n c), (2, .int .i64 keep), (4, pb 2 0), (7, newS 1 (u + 1)), (8, iN (i + 1))], true), [ltO i n true, ixO 0 n c i, ldO (h38 o U lt lo lr).get 34 0 (i * 7) (.agg ⟨vc x⟩), (some (levA lt lo lr), levA lt lo lr), (some (.bool (x.id != keep)), .bool true), toV x true, (fstV ((aBin Try.prog .eql 46 (levX x) (levA lt lo lr)).map fun v => (v, none)), .bool false), nxt29 i], [], [apV (((h38 o U lt lo lr).push (vB x)).push (vB x)) 6 1 u 5 fu zs]) := by cases fu <;> kernel_rfl
theorem r38i : (execE Try.prog c38 [(13, .bool true), (18, pb 0 (i * 7)), (19, .agg ⟨vc x⟩), (15, iN (i + 1)), (23, .bool true), (27, .bool true), (34, .bool true)] [] [(44, newS 6 (u + 1), effF fu 1 (rowB zs))] 20 c38d (L38 true o n c lt lo lr keep U fu u i g)).map (fun z => (look2 2 [0, 6, 2] [0, 2, 4, 7, 8] (z.1, z.2.1), z.2.2)) =
    some ((.normal, [o, rowB zs, lvB lt lo lr], [(0, rowS 0 n c), (2, .int .i64 keep), (4, pb 2 0), (7, newS 1 (u + 1)), (8, iN (i + 1))], true), [ltO i n true, ixO 0 n c i, ldO (h38 o U lt lo lr).get 34 0 (i * 7) (.agg ⟨vc x⟩), (some (levA lt lo lr), levA lt lo lr), (some (.bool (x.id != keep)), .bool true), toV x true, (fstV ((aBin Try.prog .eql 46 (levX x) (levA lt lo lr)).map fun v => (v, none)), .bool true), nxt29 i], [], [apV (((h38 o U lt lo lr).push (vB (nullV x))).push (vB (nullV x))) 6 1 u 5 fu zs]) := by cases fu <;> kernel_rfl
theorem r38e : (execE Try.prog c38 [] [] [] 20 c38e (stOf 46 g [(7, vS fu 0 u 22)] [U])).map (fun z => (look2 1 [0] [6] (z.1, z.2.1), z.2.2)) =
    some ((.ret, [U], [(6, vS fu 0 u 22)], true), [], [], []) := by cases fu <;> kernel_rfl
end
def AI_unL : Value → Option (Int × Int × Int)
  | .agg cs => match cs.toList with
    | [.int .i64 a, .int .i64 b, .int .i64 c] => some (a, b, c)
    | _ => none
  | _ => none
theorem unL_some {v : Value} {a b c : Int} (h : AI_unL v = some (a, b, c)) : v = levA a b c := by
  unfold AI_unL at h
  split at h
  · rename_i cs
    split at h
    · rename_i n t o hcs
      cases h
      obtain rfl := arr_of hcs
      rfl
    · cases h
  · cases h
theorem map_fold {α β : Type} {m : α → β} : ∀ {vs : List α} {us : List β}, vs.foldl (fun us x => us ++ [m x]) us = us ++ vs.map m
  | [], us => by simp
  | v :: vs, us => by rw [List.foldl_cons, map_fold]; simp
def fgtR (vs : List ViewV) : Ans := fun rest => match rest with
  | [v, .int .i64 keep] => (AI_unL v).map fun l => (rowV (vs.map (fgt l.1 l.2.1 l.2.2 keep)) 0, rowO (vs.map (fgt l.1 l.2.1 l.2.2 keep)))
  | _ => none
theorem run38 (vs : List ViewV) (hn : vs.length < 1000000) : ∀ rest v0 O, fgtR vs rest = some (v0, O) → RowRun Try.f38 code38 46 vs rest v0 O := fun rest v0 O h => by
  unfold fgtR at h
  split at h
  case h_2 => cases h
  rename_i v keep
  obtain ⟨⟨lt, lo, lr⟩, hl, h2⟩ := Option.map_eq_some_iff.1 h
  obtain rfl := unL_some hl
  cases h2
  refine ⟨rowV_out _, rowV_ok _, (by intro r hr; have e : r = levA lt lo lr ∨ r = .int .i64 keep := (by simpa using hr); rcases e with e | e <;> rw [e]; exact stay_lev _ _ _; exact stay_int _ _), by simp, fun f o c W ho hrow hfl => ?_⟩
  have hkk := kk_len hfl
  have fx2 : ∀ us : List ViewV, ∀ r : List Blk, ∀ i, i < 2 → ∀ o', (o :: ownB us :: r)[i]? = some o' → Fixed 0 o' := fun us => fixOO ho (ownB_inert us)
  refine FRwp.seq (Q1 := fun e st => e = .normal ∧ ∃ g, st = stOf 46 g [(0, vS f 0 vs.length c), (2, .int .i64 keep), (4, pb 1 0)] [o, lvB lt lo lr]) ?_ ?_ (fun x st hne hq => absurd hq.1 hne)
  · cases f with
    | true => exact FRwp.pieceY c38_ok follows 1 _ _ _ _ (r38a o vs.length c lt lo lr keep) Met.nil MetH.nil MetE.nil s38a rfl rfl (fix11 ho _) fun g => ⟨rfl, g, rfl⟩
    | false =>
      obtain ⟨rfl, rfl⟩ := hfl rfl
      exact FRwp.pieceY c38_ok follows 1 _ _ _ _ (n38a lt lo lr keep) Met.nil MetH.nil MetE.nil s38a rfl rfl (fix11 rfl _) fun g => ⟨rfl, g, rfl⟩
  rintro st ⟨-, g, rfl⟩
  refine FRwp.seq (Q1 := fun e st => e = .normal ∧ ∃ g, st = stOf 46 g [(0, vS f 0 vs.length c), (2, .int .i64 keep), (4, pb 2 0), (7, nilS)] [o, .dead, lvB lt lo lr]) (FRwp.pieceY c38_ok follows 2 _ _ _ _ (r38b f o vs.length c lt lo lr keep g) Met.nil MetH.nil MetE.nil s38b rfl rfl (fx2 [] _) fun g => ⟨rfl, g, rfl⟩) ?_ (fun x st hne hq => absurd hq.1 hne)
  rintro st ⟨-, g, rfl⟩
  refine FRwp.seq (Q1 := fun e st => e = .normal ∧ ∃ g, st = stOf 46 g [(7, vS (!(vs.map (fgt lt lo lr keep)).isEmpty) 0 (vs.map (fgt lt lo lr keep)).length 22)] [ownB (vs.map (fgt lt lo lr keep))]) ?_ ?_ (fun x st hne hq => absurd hq.1 hne)
  · refine FRwp.seq (Q1 := fun e st => e = .normal ∧ ∃ g, st = L38 f o vs.length c lt lo lr keep .dead false 0 0 g) (FRwp.pieceY c38_ok follows 2 _ _ _ _ (r38c f o vs.length c lt lo lr keep g) Met.nil MetH.nil MetE.nil s38c rfl rfl (fx2 [] _) fun g => ⟨rfl, g, rfl⟩) ?_ (fun x st hne hq => absurd hq.1 hne)
    rintro st ⟨-, g, rfl⟩
    refine FRwp.mono (fold_loop' (fun us x => us ++ [fgt lt lo lr keep x]) [] (fun us i g => L38 f o vs.length c lt lo lr keep (ownB us) (!us.isEmpty) us.length i g) (fun us st => ∃ g, st = stOf 46 g [(7, vS (!us.isEmpty) 0 us.length 22)] [ownB us]) (fun us g hf => ?_) (fun i x us g hx hlt hf => ?_) g) fun e st q => by rw [map_fold] at q; exact q
    · exact FRwp.pieceY c38_ok follows 1 _ _ _ _ (r38x f (!us.isEmpty) o (ownB us) vs.length c us.length vs.length lt lo lr keep g) (Met.cons (ltO_ok (by rw [hkk]; simp)) Met.nil) MetH.nil MetE.nil s38d rfl rfl (fix11 (ownB_inert us) []) fun g' => ⟨rfl, g', rfl⟩
    · have hft : f = true := by cases f with
        | true => rfl
        | false => rw [(hfl rfl).1] at hlt; simp at hlt
      subst hft
      have hr : ∃ ty ro, o = .cells ty (vrow vs) ro := by
        rcases hrow with h | h
        · rw [h] at hlt; simp at hlt
        · exact h
      have hul : us.length ≤ i := by
        rw [← hf, map_fold]
        simp; omega
      have b0 : RowAt (h38 o (ownB us) lt lo lr) 0 vs := rowAt0 hr
      have met : ∀ {l : List Obl}, Met l → Met (ltO i vs.length true :: ixO 0 vs.length c i :: ldO (h38 o (ownB us) lt lo lr).get 34 0 (i * 7) (.agg ⟨vc x⟩) :: l) := fun hl => Met.cons (ltO_ok (decide_eq_true hlt)) (Met.cons (vidx_ok hlt) (Met.cons (vload_ok b0 hx) hl))
      have hnx : Met [nxt29 i] := Met.cons (wrap_up (by omega)) Met.nil
      have g1 : ∀ y, (((h38 o (ownB us) lt lo lr).push (vB y)).push (vB y)).get 1 = some (ownB us) := fun y => by rw [Hp.get_push, if_neg (by show (1 : Nat) ≠ 5; omega), Hp.get_push, if_neg (by show (1 : Nat) ≠ 4; omega)]; unfold h38; rw [heapOf0_get]; rfl
      have g5 : ∀ y, (((h38 o (ownB us) lt lo lr).push (vB y)).push (vB y)).get 5 = some (vB y) := fun y => by rw [Hp.get_push, if_pos (by show (5 : Nat) = 5; rfl)]
      have ap : ∀ y, (apV (((h38 o (ownB us) lt lo lr).push (vB y)).push (vB y)) 6 1 us.length 5 (!us.isEmpty) (us ++ [y])).1 = some (apV (((h38 o (ownB us) lt lo lr).push (vB y)).push (vB y)) 6 1 us.length 5 (!us.isEmpty) (us ++ [y])).2 := fun y => app_any rfl (g1 y) (g5 y) rfl (by omega)
      have fin : ∀ {y : ViewV} {g' : Nat → Value}, fgt lt lo lr keep x = y → stOf 46 g' [(0, rowS 0 vs.length c), (2, .int .i64 keep), (4, pb 2 0), (7, newS 1 (us.length + 1)), (8, iN (i + 1))] [o, rowB (us ++ [y]), lvB lt lo lr] = L38 true o vs.length c lt lo lr keep (ownB (us ++ [fgt lt lo lr keep x])) (!(us ++ [fgt lt lo lr keep x]).isEmpty) (us ++ [fgt lt lo lr keep x]).length (i + 1) g' := fun {y g'} h => by
        rw [h, isE_app, ownB_ne (ne_app us y)]
        have e1 : (us ++ [y]).length = us.length + 1 := by simp
        rw [e1]; rfl
      have fx : ∀ y, ∀ r : List Blk, ∀ i, i < 2 → ∀ o', (o :: rowB (us ++ [y]) :: r)[i]? = some o' → Fixed 0 o' := fun y => by rw [← ownB_ne (ne_app us y)]; exact fx2 _
      cases h22 : (x.id != keep) with
      | false => exact FRwp.pieceY c38_ok follows 2 _ _ _ _ (r38f (!us.isEmpty) o (ownB us) vs.length c us.length i lt lo lr keep x (us ++ [x]) g) (met (Met.cons (met_bool h22) hnx)) MetH.nil (MetE.cons (ap x) MetE.nil) s38d rfl rfl (fx x _) fun g' => ⟨rfl, g', fin (by unfold fgt isAt; rw [h22]; rfl)⟩
      | true =>
        cases h26 : toldV x with
        | false => exact FRwp.pieceY c38_ok follows 2 _ _ _ _ (r38g (!us.isEmpty) o (ownB us) vs.length c us.length i lt lo lr keep x (us ++ [x]) g) (met (Met.cons (met_bool h22) (Met.cons (toV_ok h26) hnx))) MetH.nil (MetE.cons (ap x) MetE.nil) s38d rfl rfl (fx x _) fun g' => ⟨rfl, g', fin (by unfold toldV at h26; unfold fgt isAt; rw [h22, h26]; rfl)⟩
        | true =>
          cases h33 : levEq lt lo lr x with
          | false => exact FRwp.pieceY c38_ok follows 2 _ _ _ _ (r38h (!us.isEmpty) o (ownB us) vs.length c us.length i lt lo lr keep x (us ++ [x]) g) (met (Met.cons rfl (Met.cons (met_bool h22) (Met.cons (toV_ok h26) (Met.cons (by rw [eql46, h33]) hnx))))) MetH.nil (MetE.cons (ap x) MetE.nil) s38d rfl rfl (fx x _) fun g' => ⟨rfl, g', fin (by unfold toldV at h26; unfold fgt isAt; rw [h22, h26, h33]; rfl)⟩
          | true => exact FRwp.pieceY c38_ok follows 2 _ _ _ _ (r38i (!us.isEmpty) o (ownB us) vs.length c us.length i lt lo lr keep x (us ++ [nullV x]) g) (met (Met.cons rfl (Met.cons (met_bool h22) (Met.cons (toV_ok h26) (Met.cons (by rw [eql46, h33]) hnx))))) MetH.nil (MetE.cons (ap (nullV x)) MetE.nil) s38d rfl rfl (fx _ _) fun g' => ⟨rfl, g', fin (by unfold toldV at h26; unfold fgt isAt; rw [h22, h26, h33]; rfl)⟩
  rintro st ⟨-, g, rfl⟩
  generalize vs.map (fgt lt lo lr keep) = us at *
  rw [rowV_vS]
  refine FRwp.pieceY c38_ok follows 1 _ _ _ _ (r38e (!us.isEmpty) (ownB us) us.length g) Met.nil MetH.nil MetE.nil s38e rfl rfl (fix11 (ownB_inert us) []) fun g => ⟨.inr rfl, rfl, q38 _ _ g, fun B hB => ?_⟩
  cases us with
  | nil => cases hB
  | cons i us => cases hB; show (heapOf _ hp0).get 0 = _; rw [heapOf0_get]; rfl
noncomputable def G38 : HeapFn := padF (toldR fgtR)
theorem hkG38 : CallGoal Try.prog 38 G38 := pad_goal (toldR_goal Try.func38 body38 (by kernel_rfl) ntmps38 fun vs hn => run38 vs hn)
theorem G38_of {vs : List ViewV} {s : Value} {hp : Hp} (lt lo lr keep : Int) (h : TN vs s hp) (hn : vs.length < 1000000) : G38 [s, levA lt lo lr, .int .i64 keep] hp = some (rowV (vs.map (fgt lt lo lr keep)) hp.sz, heapOf [ownB (vs.map (fgt lt lo lr keep)), .dead] hp) := toldR_row h hn rfl
/-- views.Forget, padded. -/
noncomputable def G29 : HeapFn := padF (atRow (fun _ => True) g29)
theorem hkG29 : CallGoal Try.prog 29 G29 := pad_goal (atRow_goal fun vs hn _ => hk29 vs hn)
theorem G29_of {vs : List ViewV} {hp : Hp} {b : Nat} (lt lo lr keep : Int) (h : TN vs (rowV vs b) hp) (hn : vs.length < 1000000) : G29 [rowV vs b, levA lt lo lr, .int .i64 keep] hp = some (rowV (vs.map (fgt lt lo lr keep)) hp.sz, heapOf [ownB (vs.map (fgt lt lo lr keep)), .dead] hp) := by
  unfold G29
  have e := atRow_of (P := fun _ => True) (k := g29) (r := [levA lt lo lr, .int .i64 keep]) h hn trivial
  cases vs with
  | nil => exact pad_one (e.trans g29_nil)
  | cons v vs =>
    have hT : TR (v :: vs) (rowV (v :: vs) b) hp := by
      rcases h with ⟨h, -⟩ | h
      · cases h
      · exact h
    refine pad_two (e.trans ((g29_row hT).trans ?_))
    have e1 : ((v :: vs).map (fgt lt lo lr keep)).length = (v :: vs).length := List.length_map _
    show some (newS hp.sz (v :: vs).length, _) = some (newS hp.sz ((v :: vs).map (fgt lt lo lr keep)).length, _)
    rw [e1]; rfl
end Go.Proofs.Ytiogdklmhpllfaa.LtA
namespace Go.Proofs.Ytiogdklmhpllfaa.LtA
open Go Go.Proofs Go.Proofs.Ytiogdklmhpllfaa.AI Go.RowKit Go.Proofs.Ytiogdklmhpllfaa.Sort

noncomputable def E23 : Ext := extH Try.prog []
theorem E23_ok : ExtOk Try.prog E23 := extH_ok (.nil)
noncomputable def c23 : CallF := aCall Try.prog E23 60
theorem c23_ok : CallOk Try.prog c23 := aCall_sound E23_ok follows 60
noncomputable def fb23 : Code := (Try.f23.body).getD .skip
noncomputable def p23 : Nat → Code
  | 0 => fb23
  | n + 1 => sR (p23 n)
noncomputable def c23a : Code := sL (p23 0)
noncomputable def c23b : Code := sL (p23 1)
noncomputable def c23c : Code := sL (sL (p23 2))
noncomputable def c23d : Code := unL (unB (sR (sL (p23 2))))
noncomputable def c23e : Code := p23 3
noncomputable abbrev code23 : Code := .seq c23a (.seq c23b (.seq (.seq c23c (.block 0 (.loop c23d))) c23e))
theorem body23 : Try.f23.body = some code23 := by kernel_rfl
theorem ntmps23 : Try.f23.ntmps = 26 := by kernel_rfl
theorem s23 : codeSafe Try.prog 26 code23 = true := by kernel_rfl
theorem s23a : codeSafe Try.prog 26 c23a = true := by kernel_rfl
theorem s23b : codeSafe Try.prog 26 c23b = true := by kernel_rfl
theorem s23c : codeSafe Try.prog 26 c23c = true := by kernel_rfl
theorem s23d : codeSafe Try.prog 26 c23d = true := by kernel_rfl
theorem s23e : codeSafe Try.prog 26 c23e = true := by kernel_rfl
theorem q23 (v : Value) (O : List Blk) (g : Nat → Value) : retVal Try.prog Try.f23 (stOf 26 g [(4, v)] O) = some v := by kernel_rfl
section
variable (A B : Blk) (n i : Nat) (z : Int) (g : Nat → Value)
theorem r23a : (execE Try.prog c23 [] [] [] 20 c23a ⟨tmsOf [newI 0 n, newI 1 n] 0 .leaf, heapOf [A, B, .dead] hp0, []⟩).map (fun z => (look2 2 [0, 1] [0, 1] (z.1, z.2.1), z.2.2)) =
    some ((.normal, [A, B], [(0, newI 0 n), (1, newI 1 n)], true), [], [], []) := by kernel_rfl
theorem r23b : (execE Try.prog c23 [(10, .bool false)] [] [] 20 c23b (stOf 26 g [(0, newI 0 n), (1, newI 1 n)] [A, B])).map (fun z => (look2 2 [0, 1] [0, 1] (z.1, z.2.1), z.2.2)) =
    some ((.normal, [A, B], [(0, newI 0 n), (1, newI 1 n)], true), [(some (.bool (Int.ofNat n != Int.ofNat n)), .bool false)], [], []) := by kernel_rfl
theorem r23c : (execE Try.prog c23 [] [] [] 20 c23c (stOf 26 g [(0, newI 0 n), (1, newI 1 n)] [A, B])).map (fun z => (look2 2 [0, 1] [0, 1, 5] (z.1, z.2.1), z.2.2)) =
    some ((.normal, [A, B], [(0, newI 0 n), (1, newI 1 n), (5, iN 0)], true), [], [], []) := by kernel_rfl
abbrev L23 (i : Nat) (g : Nat → Value) : St := (stOf 26 g [(0, newI 0 n), (1, newI 1 n), (5, iN i)] [A, B])
theorem r23x : (execE Try.prog c23 [(14, .bool false)] [] [] 20 c23d (L23 A B n i g)).map (fun z => (look2 0 [] [] (z.1, z.2.1), z.2.2)) =
    some ((.exit 0, [], [], true), [ltO i n false], [], []) := by kernel_rfl
theorem r23s : (execE Try.prog c23 [(14, .bool true), (19, pb 0 i), (20, .int .i64 z), (23, pb 1 i), (24, .int .i64 z), (25, .bool false), (16, iN (i + 1))] [] [] 20 c23d (L23 A B n i g)).map (fun z => (look2 2 [0, 1] [0, 1, 5] (z.1, z.2.1), z.2.2)) =
    some ((.normal, [A, B], [(0, newI 0 n), (1, newI 1 n), (5, iN (i + 1))], true), [ltO i n true, ixI 0 n i, ldO (h84 A B).get 3 0 i (.int .i64 z), ixI 1 n i, ldO (h84 A B).get 3 1 i (.int .i64 z), (some (.bool (z != z)), .bool false), nxt29 i], [], []) := by kernel_rfl
theorem r23e : (execE Try.prog c23 [] [] [] 20 c23e (stOf 26 g [] [])).map (fun z => (look2 0 [] [4] (z.1, z.2.1), z.2.2)) =
    some ((.ret, [], [(4, .bool true)], true), [], [], []) := by kernel_rfl
theorem n23 : (execQ Try.prog c23 [] 40 code23 ⟨tmsOf [nilS, nilS] 0 .leaf, heapOf [.dead] hp0, []⟩).map (fun y => (look2 0 [] [4] (y.1, y.2.1), y.2.2)) = some ((.ret, [], [(4, .bool true)], true), []) := by kernel_rfl
end
def Ends23 (e : Exit) (st : St) : Prop := e = .ret ∧ ∃ g, st = stOf 26 g [(4, .bool true)] []
theorem fr23 (A B : Blk) (us : List Int) (hA : IsI A us) (hB : IsI B us) (hn : us.length < 1000000) (W : Base) :
    FRwp Try.prog 26 W code23 ⟨tmsOf [newI 0 us.length, newI 1 us.length] 0 .leaf, heapOf [A, B, .dead] hp0, []⟩ Ends23 := by
  have fx : ∀ r : List Blk, ∀ i, i < 2 → ∀ o', (A :: B :: r)[i]? = some o' → Fixed 0 o' := fixOO hA.inert hB.inert
  have gA : (h84 A B).get 0 = some A := by unfold h84; rw [heapOf0_get]; rfl
  have gB : (h84 A B).get 1 = some B := by unfold h84; rw [heapOf0_get]; rfl
  refine FRwp.seq (Q1 := fun e st => e = .normal ∧ ∃ g, st = stOf 26 g [(0, newI 0 us.length), (1, newI 1 us.length)] [A, B]) (FRwp.pieceY c23_ok follows 2 _ _ _ _ (r23a A B us.length) Met.nil MetH.nil MetE.nil s23a rfl rfl (fx []) fun g => ⟨rfl, g, rfl⟩) ?_ (fun x st hne hq => absurd hq.1 hne)
  rintro st ⟨-, g, rfl⟩
  refine FRwp.seq (Q1 := fun e st => e = .normal ∧ ∃ g, st = stOf 26 g [(0, newI 0 us.length), (1, newI 1 us.length)] [A, B]) (FRwp.pieceY c23_ok follows 2 _ _ _ _ (r23b A B us.length g) (Met.cons (bool_ok (by simp)) Met.nil) MetH.nil MetE.nil s23b rfl rfl (fx []) fun g => ⟨rfl, g, rfl⟩) ?_ (fun x st hne hq => absurd hq.1 hne)
  rintro st ⟨-, g, rfl⟩
  refine FRwp.seq (Q1 := fun e st => e = .normal ∧ ∃ g, st = stOf 26 g [] []) ?_ ?_ (fun x st hne hq => absurd hq.1 hne)
  · refine FRwp.seq (Q1 := fun e st => e = .normal ∧ ∃ g, st = L23 A B us.length 0 g) (FRwp.pieceY c23_ok follows 2 _ _ _ _ (r23c A B us.length g) Met.nil MetH.nil MetE.nil s23c rfl rfl (fx []) fun g => ⟨rfl, g, rfl⟩) ?_ (fun x st hne hq => absurd hq.1 hne)
    rintro st ⟨-, g, rfl⟩
    refine fold_loop' (vs := us) (fun _ _ => ()) () (fun _ i g => L23 A B us.length i g) (fun _ st => ∃ g, st = stOf 26 g [] []) (fun a g hf => ?_) (fun i x a g hx hlt hf => ?_) g
    · exact FRwp.pieceY c23_ok follows 0 _ _ _ _ (r23x A B us.length us.length g) (Met.cons (ltO_ok (by simp)) Met.nil) MetH.nil MetE.nil s23d rfl rfl (noFix _) fun g' => ⟨rfl, g', rfl⟩
    · exact FRwp.pieceY c23_ok follows 2 _ _ _ _ (r23s A B us.length i x g) (Met.cons (ltO_ok (decide_eq_true hlt)) (Met.cons (ixI_ok hlt) (Met.cons (ldA_ok hA gA hx) (Met.cons (ixI_ok hlt) (Met.cons (ldA_ok hB gB hx) (Met.cons (bool_ok (by simp)) (Met.cons (wrap_up (by omega)) Met.nil))))))) MetH.nil MetE.nil s23d rfl rfl (fx []) fun g' => ⟨rfl, g', rfl⟩
  · rintro st ⟨-, g, rfl⟩
    exact FRwp.pieceY c23_ok follows 0 _ _ _ _ (r23e g) Met.nil MetH.nil MetE.nil s23e rfl rfl (noFix _) fun g => ⟨rfl, g, rfl⟩
/-- Two rows of ints that are alike. -/
def SI (us : List Int) (s t : Value) (hp : Hp) : Prop :=
  (s = nilS ∧ t = nilS) ∨ ∃ b1 b2, s = newI b1 us.length ∧ t = newI b2 us.length ∧ b1 ≠ b2 ∧ hp.get b1 = some (iB us) ∧ hp.get b2 = some (iB us)
open Classical in
noncomputable def gSI : HeapFn := fun args hp => match args with
  | [s, t] => if ∃ us, us.length < 1000000 ∧ SI us s t hp then some (.bool true, heapOf ([] ++ [.dead]) hp) else none
  | _ => none
theorem hkSI : CallGoal Try.prog 23 gSI := scan_goal follows Try.func23 body23 (by kernel_rfl) fun args hp v hp' h hk => by
  unfold gSI at h
  rw [ntmps23]
  split at h
  case h_2 => cases h
  rename_i s t
  split at h
  case isFalse => cases h
  rename_i hT
  obtain ⟨us, hn, hT⟩ := hT
  cases h
  have fin : ∀ {e : Exit} {st : St}, Ends23 e st → (e = .normal ∨ e = .ret) ∧ st.df = [] ∧ ∃ v0, retVal Try.prog Try.f23 st = some v0 ∧ ok3 v0 = true ∧
      (∀ b ∈ ([] : List Nat), ∃ o, st.hp.get b = some o ∧ okBlk o = true ∧ rwB o = true) ∧ .bool true = sh3 [] hp.sz v0 ∧ [] = outOf [] hp.sz st.hp := by
    rintro e st ⟨rfl, g, rfl⟩
    exact ⟨.inr rfl, rfl, _, q23 _ _ g, rfl, (fun b hb => by cases hb), rfl, rfl⟩
  rcases hT with ⟨rfl, rfl⟩ | ⟨b1, b2, rfl, rfl, hne, h1, h2⟩
  · refine ⟨[], [], [], rfl, rfl, rfl, rfl, (fun b hb => by cases hb), rfl, (by simp), fun W => ?_⟩
    have e1 : [nilS, nilS].map (sh3 [] 0) = [nilS, nilS] := by simp [sh3, sh2, sh1, nilS]
    rw [e1]
    exact FRwp.piece c23_ok follows 0 _ _ _ _ n23 Met.nil s23 rfl rfl rfl (noFix _) fun g => fin ⟨rfl, g, rfl⟩
  · have hbe : Nat.beq b1 b2 = false := by
      cases e : Nat.beq b1 b2 with
      | false => rfl
      | true => exact absurd (Nat.eq_of_beq_eq_true e) hne
    refine ⟨[b1, b2], [], [], rfl, rfl, by simp [nodupB, hbe], rfl, fun b' hb' => ?_, rfl, (by simp), fun W => ?_⟩
    · have : b' = b1 ∨ b' = b2 := by simpa using hb'
      rcases this with rfl | rfl
      · exact ⟨_, h1, inert_start (iB_inert _)⟩
      · exact ⟨_, h2, inert_start (iB_inert _)⟩
    · have e1 : [newI b1 us.length, newI b2 us.length].map (sh3 [b1, b2] 0) = [newI 0 us.length, newI 1 us.length] := by simp [sh3, sh2, sh1, rho, idxOf, newI, hbe]
      have e2 : startHp [b1, b2] hp = heapOf [.cells 3 (us.map icell) true, .cells 3 (us.map icell) true, .dead] hp0 := start2 h1 h2 (iB_inert _) (iB_inert _)
      rw [e1, e2]
      exact FRwp.mono (fr23 (.cells 3 (us.map icell) true) (.cells 3 (us.map icell) true) us ⟨3, true, rfl⟩ ⟨3, true, rfl⟩ hn W) fun e st q => fin q
open Classical in
theorem gSI_of {us : List Int} {hp : Hp} {b1 b2 : Nat} (hne : b1 ≠ b2) (h1 : hp.get b1 = some (ownI us)) (h2 : hp.get b2 = some (ownI us)) (hn : us.length < 1000000) : gSI [rowIv us b1, rowIv us b2] hp = some (.bool true, heapOf [.dead] hp) := by
  have h : SI us (rowIv us b1) (rowIv us b2) hp := by
    cases us with
    | nil => exact .inl ⟨rfl, rfl⟩
    | cons i us => exact .inr ⟨b1, b2, rfl, rfl, hne, h1, h2⟩
  unfold gSI
  simp only
  rw [if_pos ⟨us, hn, h⟩]
  rfl
/-! ### From the left is from the right -/
theorem stepO_fold {x : ViewV} : ∀ {us ms : List ViewV}, us.foldl (stepO x) (ms, true) = (ms ++ us, true)
  | [], ms => by simp
  | w :: us, ms => by
    have e : stepO x (ms, true) w = (ms ++ [w], true) := rfl
    rw [List.foldl_cons, e, stepO_fold]; simp
theorem insO_split {x : ViewV} : ∀ {us ms : List ViewV}, finO x (us.foldl (stepO x) (ms, false)) = ms ++ (us.takeWhile (fun w => !ltV x w) ++ x :: us.dropWhile (fun w => !ltV x w))
  | [], ms => rfl
  | w :: us, ms => by
    rw [List.foldl_cons]
    cases h : ltV x w with
    | true =>
      have e : stepO x (ms, false) w = (ms ++ [x] ++ [w], true) := by unfold stepO; rw [h]; rfl
      rw [e, stepO_fold, List.takeWhile_cons_of_neg (by rw [h]; simp), List.dropWhile_cons_of_neg (by rw [h]; simp)]
      simp [finO]
    | false =>
      have e : stepO x (ms, false) w = (ms ++ [w], false) := by unfold stepO; rw [h]; rfl
      rw [e, insO_split, List.takeWhile_cons_of_pos (by rw [h]; rfl), List.dropWhile_cons_of_pos (by rw [h]; rfl)]
      simp
theorem insO_insB {us : List ViewV} {x : ViewV} (hs : Srt ltV us) (hk : ∀ z ∈ us, Kn z) (hx : Kn x) : insO us x = insB ltV us x := by
  unfold insO
  rw [insO_split, List.nil_append]
  refine (insB_of (lt := ltV) (List.takeWhile_append_dropWhile (p := fun w => !ltV x w) (l := us)).symm (fun q hq => ?_) (fun p hp => ?_)).symm
  · cases e : us.dropWhile (fun w => !ltV x w) with
    | nil => rw [e] at hq; cases hq
    | cons w ws =>
      rw [e] at hq
      have hh : ltV x w = true := by
        have := List.head?_dropWhile_not (fun w => !ltV x w) us
        rw [e] at this
        simpa using this
      have hsub : (w :: ws).Sublist us := by rw [← e]; exact List.dropWhile_sublist _
      have hs' : Srt ltV (w :: ws) := List.Pairwise.sublist hsub hs
      cases hq with
      | head => exact hh
      | tail _ hq =>
        have h2 := (List.pairwise_cons.1 hs').1 q hq
        have kw := hk w (hsub.subset (.head _))
        have kq := hk q (hsub.subset (.tail _ hq))
        cases e2 : ltV x q with
        | true => rfl
        | false => rw [sw.ntr x q w hx kq kw e2 h2] at hh; cases hh
  · have hm := List.mem_of_getLast? hp
    have := List.all_eq_true.1 (List.all_takeWhile (p := fun w => !ltV x w) (l := us)) p hm
    simpa using this
theorem ordO_ssort {vs : List ViewV} (hk : ∀ z ∈ vs, Kn z) : ordO vs = ssort ltV vs := by
  suffices h : ∀ n, n ≤ vs.length → (vs.take n).foldl insO [] = ssort ltV (vs.take n) by
    have := h vs.length (Nat.le_refl _)
    rw [List.take_length] at this
    exact this
  intro n
  induction n with
  | zero => intro _; rfl
  | succ n ih =>
    intro hn
    have hx : vs[n]? = some vs[n] := List.getElem?_eq_getElem (by omega)
    have hkn : ∀ z ∈ vs.take n, Kn z := fun z hz => hk z (List.mem_of_mem_take hz)
    rw [fold_step hx, ih (by omega)]
    have e : vs.take (n + 1) = vs.take n ++ [vs[n]] := by rw [List.take_add_one, hx]; rfl
    rw [e, ssort_snoc]
    exact insO_insB (srt_ssort sw hkn) (fun z hz => hkn z (mem_ssort.1 hz)) (hk _ (List.getElem_mem _))
theorem ord24 (own : ViewV) (vs : List ViewV) : (ordO (vs.filter (pr24 own))).map (fun x => x.id) = idsP (pr24 own) vs := by
  unfold idsP
  have hk : ∀ z ∈ vs.filter (pr24 own), Kn z := fun z hz => (lt_kn (u := z) (w := own) (List.mem_filter.1 hz).2).1
  rw [ordO_ssort hk]
theorem ord25 (own : ViewV) (vs : List ViewV) : (ordO (vs.filter (pr25 own))).map (fun x => x.id) = idsP (pr25 own) vs := by
  unfold idsP
  have hk : ∀ z ∈ vs.filter (pr25 own), Kn z := fun z hz => (lt_kn (u := own) (w := z) (List.mem_filter.1 hz).2).2
  rw [ordO_ssort hk]
end Go.Proofs.Ytiogdklmhpllfaa.LtA
namespace Go.Proofs.Ytiogdklmhpllfaa.LtA
open Go Go.Proofs Go.Proofs.Ytiogdklmhpllfaa.AI Go.RowKit Go.Proofs.Ytiogdklmhpllfaa.Sort

noncomputable def EV8 : Ext := extG (extH Try.prog [(26, gAwake12)]) [(34, (padF G34)), (21, G21), (35, G35), (24, G24), (36, G36), (25, G25), (37, G37), (23, gSI), (29, G29), (38, G38), (28, gSM)]
theorem EV8_ok : ExtOk Try.prog EV8 := extG_ok (extH_ok (.cons hkA12 (.nil))) (.cons (pad_goal hkG34) (.cons hkG21 (.cons hkG35 (.cons hkG24 (.cons hkG36 (.cons hkG25 (.cons hkG37 (.cons hkSI (.cons hkG29 (.cons hkG38 (.cons hkSM (.nil))))))))))))
noncomputable def cV : CallF := aCall Try.prog EV8 5
theorem cV_ok : CallOk Try.prog cV := aCall_sound EV8_ok follows 5
theorem cV_34 (args : List Value) (hp : Hp) : cV 34 args hp = (padF G34) args hp := by
  show aCall Try.prog EV8 5 34 _ _ = _
  rw [aCall]; rfl
theorem cV_21 (args : List Value) (hp : Hp) : cV 21 args hp = G21 args hp := by
  show aCall Try.prog EV8 5 21 _ _ = _
  rw [aCall]; rfl
theorem cV_35 (args : List Value) (hp : Hp) : cV 35 args hp = G35 args hp := by
  show aCall Try.prog EV8 5 35 _ _ = _
  rw [aCall]; rfl
theorem cV_24 (args : List Value) (hp : Hp) : cV 24 args hp = G24 args hp := by
  show aCall Try.prog EV8 5 24 _ _ = _
  rw [aCall]; rfl
theorem cV_36 (args : List Value) (hp : Hp) : cV 36 args hp = G36 args hp := by
  show aCall Try.prog EV8 5 36 _ _ = _
  rw [aCall]; rfl
theorem cV_25 (args : List Value) (hp : Hp) : cV 25 args hp = G25 args hp := by
  show aCall Try.prog EV8 5 25 _ _ = _
  rw [aCall]; rfl
theorem cV_37 (args : List Value) (hp : Hp) : cV 37 args hp = G37 args hp := by
  show aCall Try.prog EV8 5 37 _ _ = _
  rw [aCall]; rfl
theorem cV_23 (args : List Value) (hp : Hp) : cV 23 args hp = gSI args hp := by
  show aCall Try.prog EV8 5 23 _ _ = _
  rw [aCall]; rfl
theorem cV_29 (args : List Value) (hp : Hp) : cV 29 args hp = G29 args hp := by
  show aCall Try.prog EV8 5 29 _ _ = _
  rw [aCall]; rfl
theorem cV_38 (args : List Value) (hp : Hp) : cV 38 args hp = G38 args hp := by
  show aCall Try.prog EV8 5 38 _ _ = _
  rw [aCall]; rfl
theorem cV_28 (args : List Value) (hp : Hp) : cV 28 args hp = gSM args hp := by
  show aCall Try.prog EV8 5 28 _ _ = _
  rw [aCall]; rfl
noncomputable def fb8 : Code := (Try.f8.body).getD .skip
theorem body8 : Try.f8.body = some fb8 := by kernel_rfl
theorem ntmps8 : Try.f8.ntmps = 76 := by kernel_rfl
theorem s8 : codeSafe Try.prog 76 fb8 = true := by kernel_rfl
theorem q8 (v : Value) (O : List Blk) (g : Nat → Value) : retVal Try.prog Try.f8 (stOf 76 g [(8, v)] O) = some v := by kernel_rfl
section
variable (o : Blk) (s : Value) (n : Nat) (own y : ViewV) (b : Bool) (lt lo lr keep : Int) (v1 w1 w2 w3 w4 v2 v3 : Value) (B1 B2 B3 B4 B5 B6 B7 : Blk)
abbrev B8 : St := ⟨tmsOf [s, hcA own, levA lt lo lr, .int .i64 keep] 0 .leaf, heapOf [o, .dead] hp0, []⟩
end
section
variable (o : Blk) (own y : ViewV) (lt lo lr : Int) (B1 B2 B3 B4 B5 B6 B7 : Blk)
def hv0 : Hp := heapOf [o, .dead, hB own, lvB lt lo lr] hp0
def hv1 : Hp := heapOf [B1, .dead] (hv0 o own lt lo lr)
def hv2 : Hp := heapOf [.dead, vB y] (hv1 o own lt lo lr B1)
def hv3 : Hp := heapOf [.dead, vB y] (hv2 o own y lt lo lr B1)
def hv4 : Hp := heapOf [B2, .dead] (hv3 o own y lt lo lr B1)
def hv5 : Hp := heapOf [B3, .dead] (hv4 o own y lt lo lr B1 B2)
def hv6 : Hp := heapOf [.dead] (hv5 o own y lt lo lr B1 B2 B3)
def hv7 : Hp := heapOf [B4, .dead] (hv6 o own y lt lo lr B1 B2 B3)
def hv8 : Hp := heapOf [B5, .dead] (hv7 o own y lt lo lr B1 B2 B3 B4)
def hv9 : Hp := heapOf [.dead] (hv8 o own y lt lo lr B1 B2 B3 B4 B5)
def hv10 : Hp := heapOf [B6, .dead] (hv9 o own y lt lo lr B1 B2 B3 B4 B5)
def hv11 : Hp := heapOf [B7, .dead] (hv10 o own y lt lo lr B1 B2 B3 B4 B5 B6)
def hv12 : Hp := heapOf [.dead] (hv11 o own y lt lo lr B1 B2 B3 B4 B5 B6 B7)
end
section
variable (o : Blk) (s : Value) (n : Nat) (own y : ViewV) (b : Bool) (lt lo lr keep : Int) (v1 w1 w2 w3 w4 v2 v3 : Value) (B1 B2 B3 B4 B5 B6 B7 : Blk)
theorem r8a : (execZ Try.prog cV [(16, iN n), (17, .bool true)] [] [] 60 fb8 (B8 o s own lt lo lr keep)).map (fun z => (look2 0 [] [8] (z.1, z.2.1), z.2.2)) =
    some ((.ret, [], [(8, .bool true)], true), [lenO s n, (some (.bool (decide (Int.ofNat n > 100))), .bool true)], [], []) := by kernel_rfl
theorem r8b : (execZ Try.prog cV [(16, iN n), (17, .bool false), (64, .bool true), (69, .bool true)] [(19, v1, [B1, .dead]), (22, .tuple #[.agg ⟨vc y⟩, .bool b], [.dead]), (27, .tuple #[.agg ⟨vc y⟩, .bool b], [.dead]), (32, w1, [B2, .dead]), (35, w2, [B3, .dead]), (36, .bool true, [.dead]), (40, w3, [B4, .dead]), (43, w4, [B5, .dead]), (44, .bool true, [.dead]), (54, v2, [B6, .dead]), (58, v3, [B7, .dead]), (59, .bool true, [.dead]), (74, .bool true, [.dead])] [] 60 fb8 (B8 o s own lt lo lr keep)).map (fun z => (look2 0 [] [8] (z.1, z.2.1), z.2.2)) =
    some ((.ret, [], [(8, .bool true)], true), [lenO s n, (some (.bool (decide (Int.ofNat n > 100))), .bool false), (some (hcA own), hcA own), (some (hcA own), hcA own), (some (levA lt lo lr), levA lt lo lr), (fstV ((aBin Try.prog .eql 34 (.agg ⟨vc y⟩) (.agg ⟨vc y⟩)).map fun v => (v, none)), .bool true), (some (.bool (b == b)), .bool true)], [(cV 34 [s] (hv0 o own lt lo lr), (v1, (hv1 o own lt lo lr B1))), (cV 21 [v1] (hv1 o own lt lo lr B1), (.tuple #[.agg ⟨vc y⟩, .bool b], heapOf [.dead] (hv1 o own lt lo lr B1))), (cV 35 [s] (hv2 o own y lt lo lr B1), (.tuple #[.agg ⟨vc y⟩, .bool b], heapOf [.dead] (hv2 o own y lt lo lr B1))), (cV 24 [v1, hcA own] (hv3 o own y lt lo lr B1), (w1, (hv4 o own y lt lo lr B1 B2))), (cV 36 [s, hcA own] (hv4 o own y lt lo lr B1 B2), (w2, (hv5 o own y lt lo lr B1 B2 B3))), (cV 23 [w1, w2] (hv5 o own y lt lo lr B1 B2 B3), (.bool true, (hv6 o own y lt lo lr B1 B2 B3))), (cV 25 [v1, hcA own] (hv6 o own y lt lo lr B1 B2 B3), (w3, (hv7 o own y lt lo lr B1 B2 B3 B4))), (cV 37 [s, hcA own] (hv7 o own y lt lo lr B1 B2 B3 B4), (w4, (hv8 o own y lt lo lr B1 B2 B3 B4 B5))), (cV 23 [w3, w4] (hv8 o own y lt lo lr B1 B2 B3 B4 B5), (.bool true, (hv9 o own y lt lo lr B1 B2 B3 B4 B5))), (cV 29 [v1, levA lt lo lr, .int .i64 keep] (hv9 o own y lt lo lr B1 B2 B3 B4 B5), (v2, (hv10 o own y lt lo lr B1 B2 B3 B4 B5 B6))), (cV 38 [s, levA lt lo lr, .int .i64 keep] (hv10 o own y lt lo lr B1 B2 B3 B4 B5 B6), (v3, (hv11 o own y lt lo lr B1 B2 B3 B4 B5 B6 B7))), (cV 28 [v2, v3] (hv11 o own y lt lo lr B1 B2 B3 B4 B5 B6 B7), (.bool true, (hv12 o own y lt lo lr B1 B2 B3 B4 B5 B6 B7))), (cV 28 [v1, s] (hv12 o own y lt lo lr B1 B2 B3 B4 B5 B6 B7), (.bool true, heapOf [.dead] (hv12 o own y lt lo lr B1 B2 B3 B4 B5 B6 B7)))], []) := by kernel_rfl
end
end Go.Proofs.Ytiogdklmhpllfaa.LtA
namespace Go.Proofs.Ytiogdklmhpllfaa.LtA
open Go Go.Proofs Go.Proofs.Ytiogdklmhpllfaa.AI Go.RowKit Go.Proofs.Ytiogdklmhpllfaa.Sort Go.ChangeShapes

theorem eql34 (u v : ViewV) : fstV ((aBin Try.prog .eql 34 (.agg ⟨vc u⟩) (.agg ⟨vc v⟩)).map fun v => (v, none)) = some (.bool (sameV u v)) := by
  have h : aBin Try.prog .eql 34 (.agg ⟨vc u⟩) (.agg ⟨vc v⟩) =
      (andE (u.id == v.id) (bindE (andE (u.n == v.n) (andE (u.t == v.t) (andE (u.o == v.o) (andE (u.r == v.r) (andE (u.d == v.d) (andE (u.i == v.i) (some true))))))) (some true))).map .bool := by kernel_rfl
  rw [h]
  simp only [andE_some]
  unfold sameV same23
  generalize (u.n == v.n && (u.t == v.t && (u.o == v.o && (u.r == v.r && (u.d == v.d && (u.i == v.i && true)))))) = x
  generalize (u.id == v.id) = y
  cases x <;> cases y <;> rfl
theorem eql34r (y : ViewV) : fstV ((aBin Try.prog .eql 34 (.agg ⟨vc y⟩) (.agg ⟨vc y⟩)).map fun v => (v, none)) = some (.bool true) := by rw [eql34, sameV_refl]
theorem law8_fr (o : Blk) (s : Value) (n : Nat) (hlen : (lenO s n).1 = some (lenO s n).2) (own : ViewV) (lt lo lr keep : Int) (hrow : n ≤ 100 → ∃ vs : List ViewV, vs.length = n ∧ TN vs s (hv0 o own lt lo lr)) (W : Base) :
    FRwp Try.prog 76 W fb8 (B8 o s own lt lo lr keep) (fun e st => (e = .normal ∨ e = .ret) ∧ st.df = [] ∧ retVal Try.prog Try.f8 st = some (.bool true)) := by
  have hend : ∀ (O : List Blk) (g : Nat → Value), (Exit.ret = Exit.normal ∨ Exit.ret = Exit.ret) ∧ (stOf 76 g [(8, .bool true)] O).df = [] ∧ retVal Try.prog Try.f8 (stOf 76 g [(8, .bool true)] O) = some (.bool true) := fun O g => ⟨.inr rfl, rfl, q8 _ _ g⟩
  cases h17 : decide (Int.ofNat n > 100) with
  | true => exact FRwp.pieceZ cV_ok follows 0 _ _ _ _ (r8a o s n own lt lo lr keep) (Met.cons hlen (Met.cons (met_bool h17) Met.nil)) MetH.nil MetE.nil s8 rfl rfl (noFix _) fun g => hend _ g
  | false =>
    have hn : n ≤ 100 := by simp at h17; omega
    obtain ⟨vs, hvl, T0⟩ := hrow hn
    have hn1 : vs.length < 1000000 := by omega
    have hl24 : (idsP (pr24 own) vs).length < 1000000 := by rw [idsP_len]; have := List.length_filter_le (pr24 own) vs; omega
    have hl25 : (idsP (pr25 own) vs).length < 1000000 := by rw [idsP_len]; have := List.length_filter_le (pr25 own) vs; omega
    have hlf : (vs.map (fgt lt lo lr keep)).length < 1000000 := by rw [List.length_map]; omega
    have q24 := ord24 own vs
    have q25 := ord25 own vs
    have hlow : lowA vs = .tuple #[.agg ⟨vc (lowV vs).1⟩, .bool (lowV vs).2] := rfl
    generalize hB1 : ownB vs = B1 at *
    generalize (lowV vs).1 = y at *
    generalize (lowV vs).2 = b at *
    have k0 : (hv0 o own lt lo lr).ok := heapOf_ok _ _ hp0_ok
    have k1 : (hv1 o own lt lo lr B1).ok := heapOf_ok _ _ k0
    have k2 : (hv2 o own y lt lo lr B1).ok := heapOf_ok _ _ k1
    have k3 : (hv3 o own y lt lo lr B1).ok := heapOf_ok _ _ k2
    have k4 : (hv4 o own y lt lo lr B1 (ownI (idsP (pr24 own) vs))).ok := heapOf_ok _ _ k3
    have k5 : (hv5 o own y lt lo lr B1 (ownI (idsP (pr24 own) vs)) (ownI (idsP (pr24 own) vs))).ok := heapOf_ok _ _ k4
    have k6 : (hv6 o own y lt lo lr B1 (ownI (idsP (pr24 own) vs)) (ownI (idsP (pr24 own) vs))).ok := heapOf_ok _ _ k5
    have k7 : (hv7 o own y lt lo lr B1 (ownI (idsP (pr24 own) vs)) (ownI (idsP (pr24 own) vs)) (ownI (idsP (pr25 own) vs))).ok := heapOf_ok _ _ k6
    have k8 : (hv8 o own y lt lo lr B1 (ownI (idsP (pr24 own) vs)) (ownI (idsP (pr24 own) vs)) (ownI (idsP (pr25 own) vs)) (ownI (idsP (pr25 own) vs))).ok := heapOf_ok _ _ k7
    have k9 : (hv9 o own y lt lo lr B1 (ownI (idsP (pr24 own) vs)) (ownI (idsP (pr24 own) vs)) (ownI (idsP (pr25 own) vs)) (ownI (idsP (pr25 own) vs))).ok := heapOf_ok _ _ k8
    have k10 : (hv10 o own y lt lo lr B1 (ownI (idsP (pr24 own) vs)) (ownI (idsP (pr24 own) vs)) (ownI (idsP (pr25 own) vs)) (ownI (idsP (pr25 own) vs)) (ownB (vs.map (fgt lt lo lr keep)))).ok := heapOf_ok _ _ k9
    have k11 : (hv11 o own y lt lo lr B1 (ownI (idsP (pr24 own) vs)) (ownI (idsP (pr24 own) vs)) (ownI (idsP (pr25 own) vs)) (ownI (idsP (pr25 own) vs)) (ownB (vs.map (fgt lt lo lr keep))) (ownB (vs.map (fgt lt lo lr keep)))).ok := heapOf_ok _ _ k10
    have k12 : (hv12 o own y lt lo lr B1 (ownI (idsP (pr24 own) vs)) (ownI (idsP (pr24 own) vs)) (ownI (idsP (pr25 own) vs)) (ownI (idsP (pr25 own) vs)) (ownB (vs.map (fgt lt lo lr keep))) (ownB (vs.map (fgt lt lo lr keep)))).ok := heapOf_ok _ _ k11
    have g0 : Grow (hv0 o own lt lo lr) (hv1 o own lt lo lr B1) := grow_heap k0 _
    have g1 : Grow (hv1 o own lt lo lr B1) (hv2 o own y lt lo lr B1) := grow_heap k1 _
    have g2 : Grow (hv2 o own y lt lo lr B1) (hv3 o own y lt lo lr B1) := grow_heap k2 _
    have g3 : Grow (hv3 o own y lt lo lr B1) (hv4 o own y lt lo lr B1 (ownI (idsP (pr24 own) vs))) := grow_heap k3 _
    have g4 : Grow (hv4 o own y lt lo lr B1 (ownI (idsP (pr24 own) vs))) (hv5 o own y lt lo lr B1 (ownI (idsP (pr24 own) vs)) (ownI (idsP (pr24 own) vs))) := grow_heap k4 _
    have g5 : Grow (hv5 o own y lt lo lr B1 (ownI (idsP (pr24 own) vs)) (ownI (idsP (pr24 own) vs))) (hv6 o own y lt lo lr B1 (ownI (idsP (pr24 own) vs)) (ownI (idsP (pr24 own) vs))) := grow_heap k5 _
    have g6 : Grow (hv6 o own y lt lo lr B1 (ownI (idsP (pr24 own) vs)) (ownI (idsP (pr24 own) vs))) (hv7 o own y lt lo lr B1 (ownI (idsP (pr24 own) vs)) (ownI (idsP (pr24 own) vs)) (ownI (idsP (pr25 own) vs))) := grow_heap k6 _
    have g7 : Grow (hv7 o own y lt lo lr B1 (ownI (idsP (pr24 own) vs)) (ownI (idsP (pr24 own) vs)) (ownI (idsP (pr25 own) vs))) (hv8 o own y lt lo lr B1 (ownI (idsP (pr24 own) vs)) (ownI (idsP (pr24 own) vs)) (ownI (idsP (pr25 own) vs)) (ownI (idsP (pr25 own) vs))) := grow_heap k7 _
    have g8 : Grow (hv8 o own y lt lo lr B1 (ownI (idsP (pr24 own) vs)) (ownI (idsP (pr24 own) vs)) (ownI (idsP (pr25 own) vs)) (ownI (idsP (pr25 own) vs))) (hv9 o own y lt lo lr B1 (ownI (idsP (pr24 own) vs)) (ownI (idsP (pr24 own) vs)) (ownI (idsP (pr25 own) vs)) (ownI (idsP (pr25 own) vs))) := grow_heap k8 _
    have g9 : Grow (hv9 o own y lt lo lr B1 (ownI (idsP (pr24 own) vs)) (ownI (idsP (pr24 own) vs)) (ownI (idsP (pr25 own) vs)) (ownI (idsP (pr25 own) vs))) (hv10 o own y lt lo lr B1 (ownI (idsP (pr24 own) vs)) (ownI (idsP (pr24 own) vs)) (ownI (idsP (pr25 own) vs)) (ownI (idsP (pr25 own) vs)) (ownB (vs.map (fgt lt lo lr keep)))) := grow_heap k9 _
    have g10 : Grow (hv10 o own y lt lo lr B1 (ownI (idsP (pr24 own) vs)) (ownI (idsP (pr24 own) vs)) (ownI (idsP (pr25 own) vs)) (ownI (idsP (pr25 own) vs)) (ownB (vs.map (fgt lt lo lr keep)))) (hv11 o own y lt lo lr B1 (ownI (idsP (pr24 own) vs)) (ownI (idsP (pr24 own) vs)) (ownI (idsP (pr25 own) vs)) (ownI (idsP (pr25 own) vs)) (ownB (vs.map (fgt lt lo lr keep))) (ownB (vs.map (fgt lt lo lr keep)))) := grow_heap k10 _
    have g11 : Grow (hv11 o own y lt lo lr B1 (ownI (idsP (pr24 own) vs)) (ownI (idsP (pr24 own) vs)) (ownI (idsP (pr25 own) vs)) (ownI (idsP (pr25 own) vs)) (ownB (vs.map (fgt lt lo lr keep))) (ownB (vs.map (fgt lt lo lr keep)))) (hv12 o own y lt lo lr B1 (ownI (idsP (pr24 own) vs)) (ownI (idsP (pr24 own) vs)) (ownI (idsP (pr25 own) vs)) (ownI (idsP (pr25 own) vs)) (ownB (vs.map (fgt lt lo lr keep))) (ownB (vs.map (fgt lt lo lr keep)))) := grow_heap k11 _
    have a1 : cV 34 [s] (hv0 o own lt lo lr) = some (rowV vs 4, (hv1 o own lt lo lr B1)) := by rw [cV_34, pad_row (G34_of T0 hn1), hB1]; rfl
    have b1 : (hv1 o own lt lo lr B1).get 4 = some (ownB vs) := by rw [hB1]; unfold hv1; rw [heapOf_get]; rfl
    have O1 : TN vs (rowV vs 4) (hv1 o own lt lo lr B1) := rowV_tn b1
    have ne4 : ∀ b' n' c', s = rowS b' n' c' → b' ≠ 4 := fun b' n' c' e => by
      rcases T0 with ⟨h, -⟩ | ⟨b2, c2, o2, h1, h2, -⟩
      · rw [h] at e; simp [nilS, rowS] at e
      · have := lt_of_get k0 h2
        have h3 : (hv0 o own lt lo lr).sz = 4 := rfl
        rw [h1] at e
        simp [rowS] at e
        omega
    have a2 : cV 21 [rowV vs 4] (hv1 o own lt lo lr B1) = some (.tuple #[.agg ⟨vc y⟩, .bool b], heapOf [.dead] (hv1 o own lt lo lr B1)) := by rw [cV_21, G21_of O1 hn1, hlow]
    have a3 : cV 35 [s] (hv2 o own y lt lo lr B1) = some (.tuple #[.agg ⟨vc y⟩, .bool b], heapOf [.dead] (hv2 o own y lt lo lr B1)) := by rw [cV_35, G35_of (T0.grow (g0.trans g1)) hn1, hlow]
    have a4 : cV 24 [rowV vs 4, hcA own] (hv3 o own y lt lo lr B1) = some (rowIv (idsP (pr24 own) vs) 10, (hv4 o own y lt lo lr B1 (ownI (idsP (pr24 own) vs)))) := by rw [cV_24, G24_of own (O1.grow (g1.trans g2)) hn1]; rfl
    have a5 : cV 36 [s, hcA own] (hv4 o own y lt lo lr B1 (ownI (idsP (pr24 own) vs))) = some (rowIv (idsP (pr24 own) vs) 12, (hv5 o own y lt lo lr B1 (ownI (idsP (pr24 own) vs)) (ownI (idsP (pr24 own) vs)))) := by rw [cV_36, G36_of own (T0.grow (((g0.trans g1).trans g2).trans g3)) hn1, q24]; rfl
    have a6 : cV 23 [rowIv (idsP (pr24 own) vs) 10, rowIv (idsP (pr24 own) vs) 12] (hv5 o own y lt lo lr B1 (ownI (idsP (pr24 own) vs)) (ownI (idsP (pr24 own) vs))) = some (.bool true, (hv6 o own y lt lo lr B1 (ownI (idsP (pr24 own) vs)) (ownI (idsP (pr24 own) vs)))) := by
      rw [cV_23]
      exact gSI_of (by omega) (g4 10 _ (by unfold hv4; rw [heapOf_get]; rfl)) (by unfold hv5; rw [heapOf_get]; rfl) hl24
    have a7 : cV 25 [rowV vs 4, hcA own] (hv6 o own y lt lo lr B1 (ownI (idsP (pr24 own) vs)) (ownI (idsP (pr24 own) vs))) = some (rowIv (idsP (pr25 own) vs) 15, (hv7 o own y lt lo lr B1 (ownI (idsP (pr24 own) vs)) (ownI (idsP (pr24 own) vs)) (ownI (idsP (pr25 own) vs)))) := by rw [cV_25, G25_of own (O1.grow ((((g1.trans g2).trans g3).trans g4).trans g5)) hn1]; rfl
    have a8 : cV 37 [s, hcA own] (hv7 o own y lt lo lr B1 (ownI (idsP (pr24 own) vs)) (ownI (idsP (pr24 own) vs)) (ownI (idsP (pr25 own) vs))) = some (rowIv (idsP (pr25 own) vs) 17, (hv8 o own y lt lo lr B1 (ownI (idsP (pr24 own) vs)) (ownI (idsP (pr24 own) vs)) (ownI (idsP (pr25 own) vs)) (ownI (idsP (pr25 own) vs)))) := by rw [cV_37, G37_of own (T0.grow ((((((g0.trans g1).trans g2).trans g3).trans g4).trans g5).trans g6)) hn1, q25]; rfl
    have a9 : cV 23 [rowIv (idsP (pr25 own) vs) 15, rowIv (idsP (pr25 own) vs) 17] (hv8 o own y lt lo lr B1 (ownI (idsP (pr24 own) vs)) (ownI (idsP (pr24 own) vs)) (ownI (idsP (pr25 own) vs)) (ownI (idsP (pr25 own) vs))) = some (.bool true, (hv9 o own y lt lo lr B1 (ownI (idsP (pr24 own) vs)) (ownI (idsP (pr24 own) vs)) (ownI (idsP (pr25 own) vs)) (ownI (idsP (pr25 own) vs)))) := by
      rw [cV_23]
      exact gSI_of (by omega) (g7 15 _ (by unfold hv7; rw [heapOf_get]; rfl)) (by unfold hv8; rw [heapOf_get]; rfl) hl25
    have a10 : cV 29 [rowV vs 4, levA lt lo lr, .int .i64 keep] (hv9 o own y lt lo lr B1 (ownI (idsP (pr24 own) vs)) (ownI (idsP (pr24 own) vs)) (ownI (idsP (pr25 own) vs)) (ownI (idsP (pr25 own) vs))) = some (rowV (vs.map (fgt lt lo lr keep)) 20, (hv10 o own y lt lo lr B1 (ownI (idsP (pr24 own) vs)) (ownI (idsP (pr24 own) vs)) (ownI (idsP (pr25 own) vs)) (ownI (idsP (pr25 own) vs)) (ownB (vs.map (fgt lt lo lr keep))))) := by rw [cV_29, G29_of lt lo lr keep (O1.grow (((((((g1.trans g2).trans g3).trans g4).trans g5).trans g6).trans g7).trans g8)) hn1]; rfl
    have a11 : cV 38 [s, levA lt lo lr, .int .i64 keep] (hv10 o own y lt lo lr B1 (ownI (idsP (pr24 own) vs)) (ownI (idsP (pr24 own) vs)) (ownI (idsP (pr25 own) vs)) (ownI (idsP (pr25 own) vs)) (ownB (vs.map (fgt lt lo lr keep)))) = some (rowV (vs.map (fgt lt lo lr keep)) 22, (hv11 o own y lt lo lr B1 (ownI (idsP (pr24 own) vs)) (ownI (idsP (pr24 own) vs)) (ownI (idsP (pr25 own) vs)) (ownI (idsP (pr25 own) vs)) (ownB (vs.map (fgt lt lo lr keep))) (ownB (vs.map (fgt lt lo lr keep))))) := by rw [cV_38, G38_of lt lo lr keep (T0.grow (((((((((g0.trans g1).trans g2).trans g3).trans g4).trans g5).trans g6).trans g7).trans g8).trans g9)) hn1]; rfl
    have a12 : cV 28 [rowV (vs.map (fgt lt lo lr keep)) 20, rowV (vs.map (fgt lt lo lr keep)) 22] (hv11 o own y lt lo lr B1 (ownI (idsP (pr24 own) vs)) (ownI (idsP (pr24 own) vs)) (ownI (idsP (pr25 own) vs)) (ownI (idsP (pr25 own) vs)) (ownB (vs.map (fgt lt lo lr keep))) (ownB (vs.map (fgt lt lo lr keep)))) = some (.bool true, (hv12 o own y lt lo lr B1 (ownI (idsP (pr24 own) vs)) (ownI (idsP (pr24 own) vs)) (ownI (idsP (pr25 own) vs)) (ownI (idsP (pr25 own) vs)) (ownB (vs.map (fgt lt lo lr keep))) (ownB (vs.map (fgt lt lo lr keep))))) := by
      rw [cV_28]
      refine gSM_of (us := (vs.map (fgt lt lo lr keep))) (SM_new (g10 20 _ (by unfold hv10; rw [heapOf_get]; rfl)) (rowV_tn (by unfold hv11; rw [heapOf_get]; rfl)) fun b' n' c' e => ?_) hlf
      rw [rowV_vS] at e
      cases hu : (!(vs.map (fgt lt lo lr keep)).isEmpty) with
      | false => rw [hu] at e; simp [vS, nilS, rowS] at e
      | true => rw [hu] at e; simp [vS, rowS] at e; omega
    have a13 : cV 28 [rowV vs 4, s] (hv12 o own y lt lo lr B1 (ownI (idsP (pr24 own) vs)) (ownI (idsP (pr24 own) vs)) (ownI (idsP (pr25 own) vs)) (ownI (idsP (pr25 own) vs)) (ownB (vs.map (fgt lt lo lr keep))) (ownB (vs.map (fgt lt lo lr keep)))) = some (.bool true, heapOf [.dead] (hv12 o own y lt lo lr B1 (ownI (idsP (pr24 own) vs)) (ownI (idsP (pr24 own) vs)) (ownI (idsP (pr25 own) vs)) (ownI (idsP (pr25 own) vs)) (ownB (vs.map (fgt lt lo lr keep))) (ownB (vs.map (fgt lt lo lr keep))))) := by
      rw [cV_28]
      exact gSM_of (us := vs) (SM_new (((((((((((g1.trans g2).trans g3).trans g4).trans g5).trans g6).trans g7).trans g8).trans g9).trans g10).trans g11) 4 _ b1) (T0.grow (((((((((((g0.trans g1).trans g2).trans g3).trans g4).trans g5).trans g6).trans g7).trans g8).trans g9).trans g10).trans g11)) ne4) hn1
    exact FRwp.pieceZ cV_ok follows 0 _ _ _ _ (r8b o s n own y b lt lo lr keep (rowV vs 4) (rowIv (idsP (pr24 own) vs) 10) (rowIv (idsP (pr24 own) vs) 12) (rowIv (idsP (pr25 own) vs) 15) (rowIv (idsP (pr25 own) vs) 17) (rowV (vs.map (fgt lt lo lr keep)) 20) (rowV (vs.map (fgt lt lo lr keep)) 22) B1 (ownI (idsP (pr24 own) vs)) (ownI (idsP (pr24 own) vs)) (ownI (idsP (pr25 own) vs)) (ownI (idsP (pr25 own) vs)) (ownB (vs.map (fgt lt lo lr keep))) (ownB (vs.map (fgt lt lo lr keep))))
      (Met.cons hlen (Met.cons (met_bool h17) (Met.cons rfl (Met.cons rfl (Met.cons rfl (Met.cons (eql34r y) (Met.cons (bool_ok (by simp)) Met.nil)))))))
      (MetH.cons a1 (MetH.cons a2 (MetH.cons a3 (MetH.cons a4 (MetH.cons a5 (MetH.cons a6 (MetH.cons a7 (MetH.cons a8 (MetH.cons a9 (MetH.cons a10 (MetH.cons a11 (MetH.cons a12 (MetH.cons a13 MetH.nil))))))))))))) MetE.nil s8 rfl rfl (noFix _) fun g => hend _ g
theorem walk8 {H : Type} {enc : TypeId × Value → H} (W : World) (base : Nat) (args : Array Value) (ds : List (DataW H)) (p : List MemPlace) (hsz : args.size = 4) (hval : ∀ (j : Nat) t v, Try.f8.params[j]? = some t → args[j]? = some v → Value.okWide Try.prog W .any base t v)
    (hA : DataW.TrodAll enc Try.prog W 0 (fun _ => true) true [29, 23, 46, 3] args.toList ds p) : Calls Try.prog 8 args W fun e W' => e = .returned (.bool true) ∧ Below W.heap.size W W' := by
  obtain ⟨vl, vh, vv, vk, rfl⟩ : ∃ vl vh vv vk, args = #[vl, vh, vv, vk] := by
    obtain ⟨l⟩ := args
    match l, hsz with
    | [a, b, c, d], _ => exact ⟨a, b, c, d, rfl⟩
  obtain ⟨y, hy, rfl⟩ := open_height' 0 (hval 1 23 vh (by kernel_rfl) rfl)
  obtain ⟨lt, lo, lr, rfl⟩ := open_level (hval 2 46 vv (by kernel_rfl) rfl)
  obtain ⟨k, rfl, _⟩ := valw_int Try.underlying3 (hval 3 3 vk (by kernel_rfl) rfl)
  obtain ⟨v1, vs1, d1, ds1, p1, q1, e1, _, _, hT, _⟩ := trodAll_cons hA
  cases e1
  obtain ⟨o, s, n, m, hi, sim, ro, rv, hl, hrow⟩ := row_arg (hval 0 29 vl (by kernel_rfl) rfl) hT
  refine law_end Try.func8 body8 ntmps8 W (args0 := [s, hcA y, levA lt lo lr, .int .i64 k]) (by simp) (ok2_heap o .dead) sim ro (.cons rv (.cons (hcA_rel y) (.cons (levA_rel ..) (.cons (.flat rfl) .nil)))) fun W => ?_
  refine law8_fr o s n hl y lt lo lr k (fun hn => ?_) W
  obtain ⟨vs, h1, h2⟩ := hrow hn
  exact ⟨vs, h1, h2 [.cells 23 (hcL y) false, lvB lt lo lr]⟩
theorem params8 : ∀ t ∈ Try.f8.params.toList, Try.prog.readableRec t = true ∧ t < Try.prog.types.size := by
  have h : Try.f8.params.toList.all (fun t => Try.prog.readableRec t && decide (t < Try.prog.types.size)) = true := by kernel_rfl
  intro t ht
  have := List.all_eq_true.1 h t ht
  simpa using this
theorem lifted8 (os : Os) (started : os.Started) (H : Type) (enc : TypeId × Value → H) :
    ReturnsInHanded {} Try.checked os 8 .any (Rows.viewsLieSpec.pre6 enc Try.prog Try.f8 Rows.viewsLieRow.domain false) (Rows.viewsLieSpec.post enc Try.prog Try.f8 false true false false) :=
  law_lifted (C := Try.checked) (tb := 4) started own (by kernel_rfl) Try.func8 laid params8 rfl (by kernel_rfl) Try.underlying4
    (fun ds hl => by
      match ds, hl with
      | [_, _, _, _], _ => rfl)
    (ChangeSpec.witness6 (enc := enc) (C := Try.checked) false ⟨#[], #[nilS, hcA (zeroV 0), levA 0 0 0, .int .i64 0], []⟩ 8 (by kernel_rfl) (by kernel_rfl) (by kernel_rfl) (by kernel_rfl))
    (fun W base args ds p hsz hval hA => walk8 W base args ds p hsz hval hA)

/-- The statement. -/
theorem viewsLie_proved : Rows.ViewsLieSaid :=
  OpenClaim.holds_of_wide 8 Try.f8 rfl rfl rfl rfl rfl rfl rfl ⟨rfl, rfl, rfl, rfl, rfl⟩ rfl rfl rfl rfl rfl (by kernel_rfl) Try.func8 (by kernel_rfl)
    (of_decide_eq_true (by kernel_rfl)) (by unfold Func.isWrapper; first | (rw [if_pos (by decide +kernel)]; kernel_rfl) | (rw [if_neg (by decide +kernel)]; exact ⟨rfl, rfl⟩))
    (fun os started H enc _ => lifted8 os started H enc)
#print axioms viewsLie_proved
end Go.Proofs.Ytiogdklmhpllfaa.LtA
