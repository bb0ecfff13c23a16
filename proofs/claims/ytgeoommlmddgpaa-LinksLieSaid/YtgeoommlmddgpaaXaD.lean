/- Functions over a row of views: one form of telling them. -/
import Derived.Test.YtgeoommlmddgpaaXaC
import Derived.Test.YtgeoommlmddgpaaAi41
import Derived.Test.YtgeoommlmddgpaaRows
set_option linter.unusedVariables false
set_option linter.unusedSimpArgs false
set_option maxRecDepth 100000
namespace Go.Proofs.Ytgeoommlmddgpaa.LtA
open Go Go.Proofs Go.Proofs.Ytgeoommlmddgpaa.AI Go.RowKit Go.Proofs.Ytgeoommlmddgpaa.Sort

/-- A function of arguments without addresses, from a run in a frame of its own. -/
theorem hook_fr {f : FuncId} {fn : Func} {c : Code} {N : Nat} {g : List Value → Option Value} (hf : Try.prog.funcs[f]? = some fn) (hs : fnSafe Try.prog fn = true) (hb : fn.body = some c) (hN : fn.ntmps = N)
    (H : ∀ args v, g args = some v → args.all flatD = true ∧ flatD v = true ∧ args.length ≤ N ∧ ∀ W, FRwp Try.prog N W c ⟨tmsOf args 0 .leaf, hp0, []⟩ (fun e st => (e = .normal ∨ e = .ret) ∧ st.df = [] ∧ retVal Try.prog fn st = some v)) : HookGoal Try.prog f g where
  fn := ⟨fn, hf, hs⟩
  flats args v h := ⟨(H args v h).1, (H args v h).2.1⟩
  run args v h w := by
    obtain ⟨h1, h2, h3, h4⟩ := H args v h
    have h' := h4 (Base.shut w)
    rw [← hN] at h'
    refine (fn_of (R := fun v0 _ => v0 = v) hf hb (by rw [hN]; exact h3) hp0_ok sim0 hp0_ro (by simpa using VRelL.flatDs h1) (FRwp.mono h' fun e st q => ⟨q.1, q.2.1, v, q.2.2, rfl⟩)).mono fun e w' hh => ?_
    obtain ⟨v', v0, st', m', rfl, rfl, rv, _, _, hb, _⟩ := hh
    exact ⟨by rw [rv.of_flatD h2], hb⟩

/-- A row, or nil. -/
def vS (f : Bool) (b n c : Nat) : Value := bif f then rowS b n c else nilS
def hS (f : Bool) (o : Blk) : Hp := bif f then heapOf [o, .dead] hp0 else heapOf [.dead] hp0
def FinR (fn : Func) (v0 : Value) (O : List Blk) (e : Exit) (st : St) : Prop := (e = .normal ∨ e = .ret) ∧ st.df = [] ∧ retVal Try.prog fn st = some v0 ∧ ∀ B, O[0]? = some B → st.hp.get 0 = some B
def stay (v : Value) : Prop := ok3 v = true ∧ ∀ K B, sh3 K B v = v
theorem stay_int (k : IntKind) (z : Int) : stay (.int k z) := ⟨rfl, fun _ _ => rfl⟩
theorem stay_h (y : ViewV) : stay (hcA y) := ⟨rfl, fun _ _ => by simp [sh3, sh2, sh1, hcA]⟩
abbrev Ans := List Value → Option (Value × List Blk)
open Classical in
noncomputable def rowG (vs : List ViewV) (A : Ans) : HeapFn := fun args hp => match args with
  | s :: rest => if TN vs s hp then (A rest).map fun r => (sh3 (List.range r.2.length) hp.sz r.1, heapOf (r.2 ++ [.dead]) hp) else none
  | _ => none
/-- What is asked of a run over a row. -/
structure RowRun (fn : Func) (code : Code) (N : Nat) (vs : List ViewV) (rest : List Value) (v0 : Value) (O : List Blk) : Prop where
  out : O = [] ∨ ∃ B, O = [B] ∧ inertB B = true ∧ rwB B = true
  okv : ok3 v0 = true
  flat : ∀ r ∈ rest, stay r
  len : rest.length + 1 ≤ N
  run : ∀ f o c W, inertB o = true → (vs = [] ∨ ∃ ty ro, o = .cells ty (vrow vs) ro) → (f = false → vs = [] ∧ o = .dead) → FRwp Try.prog N W code ⟨tmsOf (vS f 0 vs.length c :: rest) 0 .leaf, hS f o, []⟩ (FinR fn v0 O)
theorem stay_map {rest : List Value} (h : ∀ r ∈ rest, stay r) (K : List Nat) : rest.map (sh3 K 0) = rest := by
  induction rest with
  | nil => rfl
  | cons r rest ih => rw [List.map_cons, (h r (.head _)).2, ih fun x hx => h x (.tail _ hx)]
theorem stay_all {rest : List Value} (h : ∀ r ∈ rest, stay r) : rest.all ok3 = true := List.all_eq_true.2 fun r hr => (h r hr).1
open Classical in
theorem row_told {f : FuncId} {fn : Func} {code : Code} {N : Nat} {vs : List ViewV} {A : Ans} (hf : Try.prog.funcs[f]? = some fn) (hb : fn.body = some code) (hnm : (fn.name == "runtime.NumGoroutine") = false) (hN : fn.ntmps = N)
    (H : ∀ rest v0 O, A rest = some (v0, O) → RowRun fn code N vs rest v0 O) : CallGoal Try.prog f (rowG vs A) := scan_goal follows hf hb hnm fun args hp v hp' h hk => by
  rw [hN]
  unfold rowG at h
  split at h
  case h_2 => cases h
  rename_i s rest
  split at h
  case isFalse => cases h
  rename_i hT
  obtain ⟨⟨v0, O⟩, hA, h2⟩ := Option.map_eq_some_iff.1 h
  cases h2
  have R := H rest v0 O hA
  have run : ∃ (K0 : List Nat), nodupB K0 = true ∧ (∀ b ∈ K0, ∃ o, hp.get b = some o ∧ startOk o = true) ∧ (s :: rest).all ok3 = true ∧ ∀ W, FRwp Try.prog N W code ⟨tmsOf ((s :: rest).map (sh3 K0 0)) 0 .leaf, startHp K0 hp, []⟩ (FinR fn v0 O) := by
    rcases hT with ⟨rfl, rfl⟩ | ⟨b, c, ob, rfl, hb, hi, hr⟩
    · refine ⟨[], rfl, (fun b hb => by cases hb), (by rw [List.all_cons, stay_all R.flat]; rfl), fun W => ?_⟩
      have e1 : (nilS :: rest).map (sh3 [] 0) = nilS :: rest := by rw [List.map_cons, stay_map R.flat]; simp [sh3, sh2, sh1, nilS]
      rw [e1]
      exact R.run false .dead 0 W rfl (.inl rfl) fun _ => ⟨rfl, rfl⟩
    · refine ⟨[b], rfl, fun b' hb' => ?_, (by rw [List.all_cons, stay_all R.flat]; rfl), fun W => ?_⟩
      · have : b' = b := by simpa using hb'
        subst this
        exact ⟨ob, hb, inert_start hi⟩
      · have e1 : (rowS b vs.length c :: rest).map (sh3 [b] 0) = rowS 0 vs.length c :: rest := by rw [List.map_cons, stay_map R.flat]; simp [sh3, sh2, sh1, rho, idxOf, rowS]
        rw [e1, start1 hb hi]
        exact R.run true (roBlk ob) c W (ro_inert hi) (ro_row hr) fun h => by cases h
  obtain ⟨K0, n0, hst, hall, hrun⟩ := run
  have hle : (s :: rest).length ≤ N := by have := R.len; simpa using this
  have hnn : nodupB (List.range O.length) = true := by
    rcases R.out with h | ⟨B, h, -⟩ <;> rw [h] <;> rfl
  refine ⟨K0, List.range O.length, O, rfl, by simp, n0, hnn, hst, hall, hle, fun W => FRwp.mono (hrun W) fun e st q => ?_⟩
  obtain ⟨q1, q2, q3, q4⟩ := q
  refine ⟨q1, q2, v0, q3, R.okv, ?_, rfl, ?_⟩
  · intro b' hb'
    rcases R.out with h | ⟨B, h, hi, hw⟩
    · subst h; cases hb'
    · subst h
      have : b' = 0 := by simpa using hb'
      subst this
      exact ⟨B, q4 B rfl, ok2_inert hi, hw⟩
  · rcases R.out with h | ⟨B, h, hi, hw⟩
    · subst h; rfl
    · subst h
      show [B] = [shBlk [0] hp.sz ((st.hp.get 0).getD .dead)]
      rw [q4 B rfl]
      exact congrArg (fun z => [z]) (inert_shBlk hi [0] hp.sz).symm
/-- Whatever the row. -/
noncomputable def toldR (A : List ViewV → Ans) : HeapFn := atRow (fun _ => True) fun vs => rowG vs (A vs)
theorem toldR_goal {f : FuncId} {fn : Func} {code : Code} {N : Nat} {A : List ViewV → Ans} (hf : Try.prog.funcs[f]? = some fn) (hb : fn.body = some code) (hnm : (fn.name == "runtime.NumGoroutine") = false) (hN : fn.ntmps = N)
    (H : ∀ vs, vs.length < 1000000 → ∀ rest v0 O, A vs rest = some (v0, O) → RowRun fn code N vs rest v0 O) : CallGoal Try.prog f (toldR A) := atRow_goal fun vs hn _ => row_told hf hb hnm hN (H vs hn)
open Classical in
theorem toldR_of {A : List ViewV → Ans} {vs : List ViewV} {s : Value} {rest : List Value} {hp : Hp} {v0 : Value} {O : List Blk} (h : TN vs s hp) (hn : vs.length < 1000000) (hA : A vs rest = some (v0, O)) :
    toldR A (s :: rest) hp = some (sh3 (List.range O.length) hp.sz v0, heapOf (O ++ [.dead]) hp) := by
  unfold toldR
  rw [atRow_of h hn trivial]
  show (if TN vs s hp then _ else _) = _
  rw [if_pos h, hA]; rfl
/-- Of no block at all. -/
theorem toldR_none {A : List ViewV → Ans} {vs : List ViewV} {s : Value} {rest : List Value} {hp : Hp} {v0 : Value} (h : TN vs s hp) (hn : vs.length < 1000000) (hA : A vs rest = some (v0, [])) (hv : sh3 [] hp.sz v0 = v0) : toldR A (s :: rest) hp = some (v0, heapOf [.dead] hp) := by
  rw [toldR_of h hn hA]
  show some (sh3 [] hp.sz v0, _) = _
  rw [hv]; rfl
/-- Of a row of ints, padded. -/
theorem toldR_ids {A : List ViewV → Ans} {vs : List ViewV} {s : Value} {rest : List Value} {hp : Hp} {ids : List Int} (h : TN vs s hp) (hn : vs.length < 1000000) (hA : A vs rest = some (rowIv ids 0, rowIO ids)) :
    padF (toldR A) (s :: rest) hp = some (rowIv ids hp.sz, heapOf [ownI ids, .dead] hp) := by
  refine pad_rowI ?_
  rw [toldR_of h hn hA]
  cases ids with
  | nil => rfl
  | cons i ids => show some (sh3 [0] hp.sz (newI 0 _), _) = _; simp [sh3, sh2, sh1, rho, idxOf, newI, rowIv]
theorem rowV_vS (us : List ViewV) (b : Nat) : rowV us b = vS (!us.isEmpty) b us.length 22 := by cases us <;> rfl
theorem rowI_out (ids : List Int) : rowIO ids = [] ∨ ∃ B, rowIO ids = [B] ∧ inertB B = true ∧ rwB B = true := by
  cases ids with
  | nil => exact .inl rfl
  | cons i ids => exact .inr ⟨iB (i :: ids), rfl, iB_inert _, rfl⟩
theorem rowI_ok (ids : List Int) : ok3 (rowIv ids 0) = true := by cases ids <;> rfl
theorem ownB_inert (us : List ViewV) : inertB (ownB us) = true := by
  cases us with
  | nil => rfl
  | cons => exact row_block _
/-! ### What is appended -/
def effF (f : Bool) (b : Nat) (B : Blk) : List Eff := bif f then [.put b .dead, .push B] else [.push B]
end Go.Proofs.Ytgeoommlmddgpaa.LtA
namespace Go.Proofs.Ytgeoommlmddgpaa.LtA
open Go Go.Proofs Go.Proofs.Ytgeoommlmddgpaa.AI Go.RowKit Go.Proofs.Ytgeoommlmddgpaa.Sort

/-- thalweg/thalwegref02.Told -/
def tRTold (hNull : Bool) (hTau : Int) (hOid : Int) (hR : Int) (hDelta : Int) (hId : Int) : Value := (bif hNull then (bif (okH (true) (hTau) (hOid) (hR) (hDelta) (hId)) then (.bool false) else (.bool false)) else (bif (okH (false) (hTau) (hOid) (hR) (hDelta) (hId)) then (.bool true) else (.bool false)))
theorem tRTold_run (hNull : Bool) (hTau : Int) (hOid : Int) (hR : Int) (hDelta : Int) (hId : Int) : ∃ hp, aCall Try.prog E43 61 40 [.agg #[.bool hNull, .int .i64 hTau, .int .i64 hOid, .int .i64 hR, .int .i64 hDelta, .int .i64 hId]] hp0 = some (tRTold hNull hTau hOid hR hDelta hId, hp) := by
  cases hNull with
  | true =>
    cases h0 : (okH (true) (hTau) (hOid) (hR) (hDelta) (hId)) with
    | true =>
      have e : tRTold true hTau hOid hR hDelta hId = (.bool false) := by simp only [tRTold, h0, cond_true, cond_false]
      rw [e]
      exact callQ_run [(4, .bool true)] (q := [(some (.bool (okH (true) (hTau) (hOid) (hR) (hDelta) (hId))), .bool true)]) (by kernel_rfl) (Met.cons (met_bool h0) (Met.nil))
    | false =>
      have e : tRTold true hTau hOid hR hDelta hId = (.bool false) := by simp only [tRTold, h0, cond_true, cond_false]
      rw [e]
      exact callQ_run [(4, .bool false)] (q := [(some (.bool (okH (true) (hTau) (hOid) (hR) (hDelta) (hId))), .bool false)]) (by kernel_rfl) (Met.cons (met_bool h0) (Met.nil))
  | false =>
    cases h0 : (okH (false) (hTau) (hOid) (hR) (hDelta) (hId)) with
    | true =>
      have e : tRTold false hTau hOid hR hDelta hId = (.bool true) := by simp only [tRTold, h0, cond_true, cond_false]
      rw [e]
      exact callQ_run [(4, .bool true)] (q := [(some (.bool (okH (false) (hTau) (hOid) (hR) (hDelta) (hId))), .bool true)]) (by kernel_rfl) (Met.cons (met_bool h0) (Met.nil))
    | false =>
      have e : tRTold false hTau hOid hR hDelta hId = (.bool false) := by simp only [tRTold, h0, cond_true, cond_false]
      rw [e]
      exact callQ_run [(4, .bool false)] (q := [(some (.bool (okH (false) (hTau) (hOid) (hR) (hDelta) (hId))), .bool false)]) (by kernel_rfl) (Met.cons (met_bool h0) (Met.nil))

theorem tRTold_eq (n : Bool) (t o r d i : Int) : tRTold n t o r d i = .bool (told n t o r d i) := by
  unfold tRTold told known
  cases n
  · cases h : okH false t o r d i <;> simp
  · cases h : okH true t o r d i <;> simp
def g64 : List Value → Option Value := g57
theorem hk64 : HookGoal Try.prog 40 g64 := hook_of (ext := E43) (by unfold E43; exact extH_ok (.cons hk70 .nil)) follows Try.func40 (by kernel_rfl) fun args v h => by
  unfold g64 g57 at h
  split at h
  · rename_i c0
    split at h
    · rename_i ec0
      cases h
      obtain rfl := arr_of ec0
      refine ⟨rfl, rfl, ?_⟩
      obtain ⟨hp, q⟩ := tRTold_run _ _ _ _ _ _
      rw [tRTold_eq] at q
      exact ⟨_, hp, q⟩
    · cases h
  · cases h
noncomputable def ER2 : Ext := extH Try.prog [(40, g64)]
theorem ER2_ok : ExtOk Try.prog ER2 := extH_ok (.cons hk64 .nil)
/-- thalweg/thalwegref02.Level -/
def tRLevel (hNull : Bool) (hTau : Int) (hOid : Int) (hR : Int) (hDelta : Int) (hId : Int) : Value := (bif (told (hNull) (hTau) (hOid) (hR) (hDelta) (hId)) then (.agg #[.int .i64 hTau, .int .i64 hOid, .int .i64 hR]) else (.agg #[.int .i64 0, .int .i64 0, .int .i64 0]))
theorem tRLevel_run (hNull : Bool) (hTau : Int) (hOid : Int) (hR : Int) (hDelta : Int) (hId : Int) : ∃ hp, aCall Try.prog ER2 61 46 [.agg #[.bool hNull, .int .i64 hTau, .int .i64 hOid, .int .i64 hR, .int .i64 hDelta, .int .i64 hId]] hp0 = some (tRLevel hNull hTau hOid hR hDelta hId, hp) := by
  cases h0 : (told (hNull) (hTau) (hOid) (hR) (hDelta) (hId)) with
  | true =>
    have e : tRLevel hNull hTau hOid hR hDelta hId = (.agg #[.int .i64 hTau, .int .i64 hOid, .int .i64 hR]) := by simp only [tRLevel, h0, cond_true, cond_false]
    rw [e]
    exact callQ_run [(4, .bool true)] (q := [(some (.bool (told (hNull) (hTau) (hOid) (hR) (hDelta) (hId))), .bool true)]) (by kernel_rfl) (Met.cons (met_bool h0) (Met.nil))
  | false =>
    have e : tRLevel hNull hTau hOid hR hDelta hId = (.agg #[.int .i64 0, .int .i64 0, .int .i64 0]) := by simp only [tRLevel, h0, cond_true, cond_false]
    rw [e]
    exact callQ_run [(4, .bool false)] (q := [(some (.bool (told (hNull) (hTau) (hOid) (hR) (hDelta) (hId))), .bool false)]) (by kernel_rfl) (Met.cons (met_bool h0) (Met.nil))

theorem tRLevel_eq (n : Bool) (t o r d i : Int) : tRLevel n t o r d i = .agg #[.int .i64 (lev0 n t o r d i), .int .i64 (lev1 n t o r d i), .int .i64 (lev2 n t o r d i)] := by
  unfold tRLevel lev0 lev1 lev2 told
  cases known n t o r d i <;> rfl
theorem hk67 : HookGoal Try.prog 46 g31 := hook_of (ext := ER2) ER2_ok follows Try.func46 (by kernel_rfl) fun args v h => by
  unfold g31 at h
  split at h
  · rename_i c0
    split at h
    · rename_i ec0
      cases h
      obtain rfl := arr_of ec0
      refine ⟨rfl, rfl, ?_⟩
      obtain ⟨hp, q⟩ := tRLevel_run _ _ _ _ _ _
      rw [tRLevel_eq] at q
      exact ⟨_, hp, q⟩
    · cases h
  · cases h
/-! ### Rows of numbers, compared -/
def lexI : List Int → List Int → Int
  | a :: us, b :: ws => bif decide (a < b) then -1 else bif decide (a > b) then 1 else lexI us ws
  | _, _ => 0
/-- A block that holds a row of ints. -/
def IsI (A : Blk) (us : List Int) : Prop := ∃ ty ro, A = .cells ty (us.map icell) ro
theorem isI (us : List Int) : IsI (iB us) us := ⟨3, false, rfl⟩
theorem IsI.ro {A : Blk} {us : List Int} (h : IsI A us) : IsI (roBlk A) us := by
  obtain ⟨ty, ro, rfl⟩ := h
  exact ⟨ty, true, rfl⟩
theorem IsI.inert {A : Blk} {us : List Int} (h : IsI A us) : inertB A = true := by
  obtain ⟨ty, ro, rfl⟩ := h
  exact iB_inert us
theorem ldA_ok {h : Hp} {b i : Nat} {A : Blk} {us : List Int} {z : Int} (hA : IsI A us) (hb : h.get b = some A) (hz : us[i]? = some z) : (ldO h.get 3 b i (.int .i64 z)).1 = some (ldO h.get 3 b i (.int .i64 z)).2 := by
  obtain ⟨ty, ro, rfl⟩ := hA
  show aLoad Try.prog h.get 3 (pb b i) = some (.int .i64 z)
  unfold pb
  simp only [aLoad, hb, agg3, size3]
  rw [List.getElem?_map, hz]; rfl
noncomputable def E84 : Ext := extH Try.prog []
theorem E84_ok : ExtOk Try.prog E84 := extH_ok (.nil)
noncomputable def c84 : CallF := aCall Try.prog E84 5
theorem c84_ok : CallOk Try.prog c84 := aCall_sound E84_ok follows 5
noncomputable def fb84 : Code := (Try.f75.body).getD .skip
noncomputable def p84 : Nat → Code
  | 0 => fb84
  | n + 1 => sR (p84 n)
noncomputable def c84a : Code := sL (p84 0)
noncomputable def c84b : Code := sL (sL (p84 1))
noncomputable def c84c : Code := unL (unB (sR (sL (p84 1))))
noncomputable def c84d : Code := p84 2
noncomputable abbrev code84 : Code := .seq c84a (.seq (.seq c84b (.block 0 (.loop c84c))) c84d)
theorem body84 : Try.f75.body = some code84 := by kernel_rfl
theorem ntmps84 : Try.f75.ntmps = 30 := by kernel_rfl
theorem s84a : codeSafe Try.prog 30 c84a = true := by kernel_rfl
theorem s84b : codeSafe Try.prog 30 c84b = true := by kernel_rfl
theorem s84c : codeSafe Try.prog 30 c84c = true := by kernel_rfl
theorem s84d : codeSafe Try.prog 30 c84d = true := by kernel_rfl
theorem q84 (v : Value) (O : List Blk) (g : Nat → Value) : retVal Try.prog Try.f75 (stOf 30 g [(4, v)] O) = some v := by kernel_rfl
section
variable (A B : Blk) (n i : Nat) (x y : Int) (g : Nat → Value)
def h84 (A B : Blk) : Hp := heapOf ([A, B] ++ [.dead]) hp0
abbrev L84 (i : Nat) (g : Nat → Value) : St := stOf 30 g [(0, newI 0 n), (1, newI 1 n), (5, iN i)] [A, B]
theorem r84a : (execE Try.prog c84 [] [] [] 20 c84a ⟨tmsOf [newI 0 n, newI 1 n] 0 .leaf, heapOf [A, B, .dead] hp0, []⟩).map (fun z => (look2 2 [0, 1] [0, 1] (z.1, z.2.1), z.2.2)) =
    some ((.normal, [A, B], [(0, newI 0 n), (1, newI 1 n)], true), [], [], []) := by kernel_rfl
theorem r84b : (execE Try.prog c84 [] [] [] 20 c84b (stOf 30 g [(0, newI 0 n), (1, newI 1 n)] [A, B])).map (fun z => (look2 2 [0, 1] [0, 1, 5] (z.1, z.2.1), z.2.2)) =
    some ((.normal, [A, B], [(0, newI 0 n), (1, newI 1 n), (5, iN 0)], true), [], [], []) := by kernel_rfl
theorem r84x : (execE Try.prog c84 [(9, .bool false)] [] [] 20 c84c (L84 A B n i g)).map (fun z => (look2 0 [] [] (z.1, z.2.1), z.2.2)) =
    some ((.exit 0, [], [], true), [ltO i n false], [], []) := by kernel_rfl
theorem r84l : (execE Try.prog c84 [(9, .bool true), (14, pb 0 i), (15, .int .i64 x), (18, pb 1 i), (19, .int .i64 y), (20, .bool true)] [] [] 20 c84c (L84 A B n i g)).map (fun z => (look2 0 [] [4] (z.1, z.2.1), z.2.2)) =
    some ((.ret, [], [(4, .int .i64 (-1))], true), [ltO i n true, ixI 0 n i, ldO (h84 A B).get 3 0 i (.int .i64 x), ixI 1 n i, ldO (h84 A B).get 3 1 i (.int .i64 y), (some (.bool (decide (x < y))), .bool true)], [], []) := by kernel_rfl
theorem r84g : (execE Try.prog c84 [(9, .bool true), (14, pb 0 i), (15, .int .i64 x), (18, pb 1 i), (19, .int .i64 y), (20, .bool false), (23, pb 0 i), (24, .int .i64 x), (27, pb 1 i), (28, .int .i64 y), (29, .bool true)] [] [] 20 c84c (L84 A B n i g)).map (fun z => (look2 0 [] [4] (z.1, z.2.1), z.2.2)) =
    some ((.ret, [], [(4, .int .i64 1)], true), [ltO i n true, ixI 0 n i, ldO (h84 A B).get 3 0 i (.int .i64 x), ixI 1 n i, ldO (h84 A B).get 3 1 i (.int .i64 y), (some (.bool (decide (x < y))), .bool false), ixI 0 n i, ldO (h84 A B).get 3 0 i (.int .i64 x), ixI 1 n i, ldO (h84 A B).get 3 1 i (.int .i64 y), (some (.bool (decide (x > y))), .bool true)], [], []) := by kernel_rfl
theorem r84e : (execE Try.prog c84 [(9, .bool true), (14, pb 0 i), (15, .int .i64 x), (18, pb 1 i), (19, .int .i64 y), (20, .bool false), (23, pb 0 i), (24, .int .i64 x), (27, pb 1 i), (28, .int .i64 y), (29, .bool false), (11, iN (i + 1))] [] [] 20 c84c (L84 A B n i g)).map (fun z => (look2 2 [0, 1] [0, 1, 5] (z.1, z.2.1), z.2.2)) =
    some ((.normal, [A, B], [(0, newI 0 n), (1, newI 1 n), (5, iN (i + 1))], true), [ltO i n true, ixI 0 n i, ldO (h84 A B).get 3 0 i (.int .i64 x), ixI 1 n i, ldO (h84 A B).get 3 1 i (.int .i64 y), (some (.bool (decide (x < y))), .bool false), ixI 0 n i, ldO (h84 A B).get 3 0 i (.int .i64 x), ixI 1 n i, ldO (h84 A B).get 3 1 i (.int .i64 y), (some (.bool (decide (x > y))), .bool false), nxt29 i], [], []) := by kernel_rfl
theorem r84d : (execE Try.prog c84 [] [] [] 20 c84d (stOf 30 g [] [])).map (fun z => (look2 0 [] [4] (z.1, z.2.1), z.2.2)) =
    some ((.ret, [], [(4, .int .i64 0)], true), [], [], []) := by kernel_rfl
end
theorem lex_skip : ∀ {us ws : List Int} {i : Nat}, us.take i = ws.take i → i ≤ us.length → i ≤ ws.length → lexI us ws = lexI (us.drop i) (ws.drop i)
  | us, ws, 0, _, _, _ => rfl
  | [], ws, i + 1, _, h, _ => by simp at h
  | a :: us, [], i + 1, _, _, h => by simp at h
  | a :: us, b :: ws, i + 1, h, h1, h2 => by
    simp only [List.take_succ_cons, List.cons.injEq] at h
    obtain ⟨rfl, h⟩ := h
    rw [List.drop_succ_cons, List.drop_succ_cons, ← lex_skip h (by simpa using h1) (by simpa using h2)]
    have e : decide (a < a) = false := decide_eq_false (by omega)
    show (bif decide (a < a) then -1 else bif decide (a > a) then 1 else lexI us ws) = _
    rw [e]; rfl
theorem drop_get {us : List Int} {i : Nat} {x : Int} (h : us[i]? = some x) : us.drop i = x :: us.drop (i + 1) := by
  obtain ⟨h1, rfl⟩ := List.getElem?_eq_some_iff.1 h
  exact List.drop_eq_getElem_cons h1
def Ends84 (us ws : List Int) (e : Exit) (st : St) : Prop := e = .ret ∧ ∃ g, st = stOf 30 g [(4, .int .i64 (lexI us ws))] []
theorem fr84 (A B : Blk) (us ws : List Int) (hA : IsI A us) (hB : IsI B ws) (hl : us.length = ws.length) (hn : us.length < 1000000) (W : Base) :
    FRwp Try.prog 30 W code84 ⟨tmsOf [newI 0 us.length, newI 1 us.length] 0 .leaf, heapOf [A, B, .dead] hp0, []⟩ (Ends84 us ws) := by
  have fx : ∀ r : List Blk, ∀ i, i < 2 → ∀ o', (A :: B :: r)[i]? = some o' → Fixed 0 o' := fixOO hA.inert hB.inert
  have gA : (h84 A B).get 0 = some A := by unfold h84; rw [heapOf0_get]; rfl
  have gB : (h84 A B).get 1 = some B := by unfold h84; rw [heapOf0_get]; rfl
  refine FRwp.seq (Q1 := fun e st => e = .normal ∧ ∃ g, st = stOf 30 g [(0, newI 0 us.length), (1, newI 1 us.length)] [A, B]) (FRwp.pieceY c84_ok follows 2 _ _ _ _ (r84a A B us.length) Met.nil MetH.nil MetE.nil s84a rfl rfl (fx []) fun g => ⟨rfl, g, rfl⟩) ?_ (fun x st hne hq => absurd hq.1 hne)
  rintro st ⟨-, g, rfl⟩
  refine FRwp.seq (Q1 := fun e st => (e = .normal ∧ us = ws ∧ ∃ g, st = stOf 30 g [] []) ∨ Ends84 us ws e st) ?_ ?_ ?_
  · refine FRwp.seq (Q1 := fun e st => e = .normal ∧ ∃ g, st = L84 A B us.length 0 g) (FRwp.pieceY c84_ok follows 2 _ _ _ _ (r84b A B us.length g) Met.nil MetH.nil MetE.nil s84b rfl rfl (fx []) fun g => ⟨rfl, g, rfl⟩) ?_ (fun x st hne hq => absurd hq.1 hne)
    rintro st ⟨-, g, rfl⟩
    refine FRwp.block ?_
    refine FRwp.loop (fun k st => ∃ i g, i ≤ us.length ∧ k = us.length - i ∧ us.take i = ws.take i ∧ st = L84 A B us.length i g) ?_ (k := us.length) ⟨0, g, Nat.zero_le _, rfl, rfl, rfl⟩
    rintro k st ⟨i, g, hi, rfl, ht, rfl⟩
    cases h9 : decide (i < us.length) with
    | false =>
      have hii : i = us.length := by have := of_decide_eq_false h9; omega
      refine FRwp.pieceY c84_ok follows 0 _ _ _ _ (r84x A B us.length i g) (Met.cons (ltO_ok h9) Met.nil) MetH.nil MetE.nil s84c rfl rfl (noFix _) fun g' => .inr ⟨by simp, ?_⟩
      show (if (0 : Nat) = 0 then _ else _)
      rw [if_pos rfl]
      refine .inl ⟨rfl, ?_, g', rfl⟩
      rw [hii, List.take_length, hl, List.take_length] at ht
      exact ht
    | true =>
      have hlt := of_decide_eq_true h9
      obtain ⟨x, hx⟩ : ∃ x, us[i]? = some x := ⟨_, List.getElem?_eq_getElem hlt⟩
      obtain ⟨y, hy⟩ : ∃ y, ws[i]? = some y := ⟨_, List.getElem?_eq_getElem (by omega)⟩
      have hlx : lexI us ws = bif decide (x < y) then -1 else bif decide (x > y) then 1 else lexI (us.drop (i + 1)) (ws.drop (i + 1)) := by
        rw [lex_skip ht (by omega) (by omega), drop_get hx, drop_get hy]; rfl
      have m1 : ∀ {l}, Met l → Met (ltO i us.length true :: ixI 0 us.length i :: ldO (h84 A B).get 3 0 i (.int .i64 x) :: ixI 1 us.length i :: ldO (h84 A B).get 3 1 i (.int .i64 y) :: l) := fun h => Met.cons (ltO_ok h9) (Met.cons (ixI_ok hlt) (Met.cons (ldA_ok hA gA hx) (Met.cons (ixI_ok hlt) (Met.cons (ldA_ok hB gB hy) h))))
      have m2 : ∀ {l}, Met l → Met (ixI 0 us.length i :: ldO (h84 A B).get 3 0 i (.int .i64 x) :: ixI 1 us.length i :: ldO (h84 A B).get 3 1 i (.int .i64 y) :: l) := fun h => Met.cons (ixI_ok hlt) (Met.cons (ldA_ok hA gA hx) (Met.cons (ixI_ok hlt) (Met.cons (ldA_ok hB gB hy) h)))
      cases hxy : decide (x < y) with
      | true =>
        rw [hxy] at hlx
        refine FRwp.pieceY c84_ok follows 0 _ _ _ _ (r84l A B us.length i x y g) (m1 (Met.cons (bool_ok hxy) Met.nil)) MetH.nil MetE.nil s84c rfl rfl (noFix _) fun g' => .inr ⟨by simp, ?_⟩
        exact .inr ⟨rfl, g', by rw [hlx]; rfl⟩
      | false =>
        rw [hxy] at hlx
        cases hyx : decide (x > y) with
        | true =>
          rw [hyx] at hlx
          refine FRwp.pieceY c84_ok follows 0 _ _ _ _ (r84g A B us.length i x y g) (m1 (Met.cons (bool_ok hxy) (m2 (Met.cons (bool_ok hyx) Met.nil)))) MetH.nil MetE.nil s84c rfl rfl (noFix _) fun g' => .inr ⟨by simp, ?_⟩
          exact .inr ⟨rfl, g', by rw [hlx]; rfl⟩
        | false =>
          have hxe : x = y := by have := of_decide_eq_false hxy; have := of_decide_eq_false hyx; omega
          refine FRwp.pieceY c84_ok follows 2 _ _ _ _ (r84e A B us.length i x y g) (m1 (Met.cons (bool_ok hxy) (m2 (Met.cons (bool_ok hyx) (Met.cons (wrap_up (by omega)) Met.nil))))) MetH.nil MetE.nil s84c rfl rfl (fx []) fun g' => .inl ⟨rfl, us.length - (i + 1), by omega, i + 1, g', by omega, rfl, ?_, rfl⟩
          rw [List.take_add_one, List.take_add_one, hx, hy, ht, hxe]
  · rintro st (⟨-, rfl, g, rfl⟩ | ⟨h, -⟩)
    · refine FRwp.pieceY c84_ok follows 0 _ _ _ _ (r84d g) Met.nil MetH.nil MetE.nil s84d rfl rfl (noFix _) fun g => ⟨rfl, g, ?_⟩
      have e : ∀ l : List Int, lexI l l = 0 := fun l => by
        have := lex_skip (us := l) (ws := l) (i := l.length) rfl (Nat.le_refl _) (Nat.le_refl _)
        rw [this, List.drop_length]; rfl
      rw [e]
    · cases h
  · rintro e st hne (⟨h, -⟩ | h)
    · exact absurd h hne
    · exact h
open Classical in
noncomputable def G84 : HeapFn := fun args hp => match args with
  | [s, t] => if h : ∃ p : List Int × List Int, ∃ b1 b2, s = newI b1 p.1.length ∧ t = newI b2 p.1.length ∧ p.1.length = p.2.length ∧ p.1.length < 1000000 ∧ b1 ≠ b2 ∧ hp.get b1 = some (iB p.1) ∧ hp.get b2 = some (iB p.2)
      then some (.int .i64 (lexI h.choose.1 h.choose.2), heapOf ([] ++ [.dead]) hp) else none
  | _ => none
theorem hkG84 : CallGoal Try.prog 75 G84 := scan_goal follows Try.func75 body84 (by kernel_rfl) fun args hp v hp' h hk => by
  rw [ntmps84]
  unfold G84 at h
  split at h
  case h_2 => cases h
  rename_i s t
  split at h
  case isFalse => cases h
  rename_i hx
  cases h
  have hs := hx.choose_spec
  generalize hx.choose = p at *
  obtain ⟨us, ws⟩ := p
  obtain ⟨b1, b2, rfl, rfl, hl, hn, hne, h1, h2⟩ := hs
  have hbe : Nat.beq b1 b2 = false := by
    cases e : Nat.beq b1 b2 with
    | false => rfl
    | true => exact absurd (Nat.eq_of_beq_eq_true e) hne
  refine ⟨[b1, b2], [], [], rfl, rfl, by simp [nodupB, hbe], rfl, fun b' hb' => ?_, rfl, (by simp), fun W => ?_⟩
  · have : b' = b1 ∨ b' = b2 := by simpa using hb'
    rcases this with rfl | rfl
    · exact ⟨_, h1, inert_start (iB_inert _)⟩
    · exact ⟨_, h2, inert_start (iB_inert _)⟩
  · have e1 : [newI b1 us.length, newI b2 us.length].map (sh3 [b1, b2] 0) = [newI 0 us.length, newI 1 us.length] := by simp [sh3, sh2, sh1, rho, idxOf, newI, hbe]
    have e2 : startHp [b1, b2] hp = heapOf [.cells 3 (us.map icell) true, .cells 3 (ws.map icell) true, .dead] hp0 := start2 h1 h2 (iB_inert _) (iB_inert _)
    rw [e1, e2]
    have hr := fr84 (.cells 3 (us.map icell) true) (.cells 3 (ws.map icell) true) us ws ⟨3, true, rfl⟩ ⟨3, true, rfl⟩ hl hn W
    refine FRwp.mono hr fun e st q => ?_
    obtain ⟨rfl, g, rfl⟩ := q
    exact ⟨.inr rfl, rfl, _, q84 _ _ g, rfl, (fun b hb => by cases hb), rfl, rfl⟩
theorem G84_of {us ws : List Int} {b1 b2 : Nat} {hp : Hp} (hl : us.length = ws.length) (hn : us.length < 1000000) (hne : b1 ≠ b2) (h1 : hp.get b1 = some (iB us)) (h2 : hp.get b2 = some (iB ws)) :
    G84 [newI b1 us.length, newI b2 us.length] hp = some (.int .i64 (lexI us ws), heapOf [.dead] hp) := by
  have hx : ∃ p : List Int × List Int, ∃ c1 c2, newI b1 us.length = newI c1 p.1.length ∧ newI b2 us.length = newI c2 p.1.length ∧ p.1.length = p.2.length ∧ p.1.length < 1000000 ∧ c1 ≠ c2 ∧ hp.get c1 = some (iB p.1) ∧ hp.get c2 = some (iB p.2) := ⟨(us, ws), b1, b2, rfl, rfl, hl, hn, hne, h1, h2⟩
  have inj : ∀ {a b : List Int}, iB a = iB b → a = b := fun {a b} h => by
    have h' : a.map icell = b.map icell := by unfold iB at h; injection h
    exact (List.map_inj_right (fun x y e => by unfold icell at e; injection e)).1 h'
  have hs : hx.choose = (us, ws) := by
    obtain ⟨c1, c2, e1, e2, -, -, -, q1, q2⟩ := hx.choose_spec
    have d1 : b1 = c1 := by unfold newI at e1; injection e1 with e; injection e with e; injection e
    have d2 : b2 = c2 := by unfold newI at e2; injection e2 with e; injection e with e; injection e
    subst d1; subst d2
    rw [h1] at q1; rw [h2] at q2
    have p1 := inj (Option.some.inj q1)
    have p2 := inj (Option.some.inj q2)
    exact Prod.ext p1.symm p2.symm
  unfold G84
  simp only
  rw [dif_pos hx, hs]; rfl

/-! ### Less -/
/-- The same, by looking at the blocks. -/
def unI : List Value → Option (List Int)
  | [] => some []
  | .int .i64 z :: l => match unI l with
    | some us => some (z :: us)
    | none => none
  | _ => none
theorem unI_some : ∀ {l : List Value} {us : List Int}, unI l = some us → l = us.map icell
  | [], us, h => by cases h; rfl
  | v :: l, us, h => by
    unfold unI at h
    split at h
    · rename_i heq; cases heq
    · rename_i z l' heq
      cases heq
      split at h
      · rename_i us' h'
        cases h
        rw [unI_some h']; rfl
      · cases h
    · cases h
def C84 : HeapFn := fun args hp => match args with
  | [.slice (some a) n 4, .slice (some b) m 4] => match hp.get a.block, hp.get b.block with
    | some (.cells 3 L false), some (.cells 3 R false) => match unI L, unI R with
      | some us, some ws => match a.spot, b.spot, Nat.beq a.off 0 && Nat.beq b.off 0 && Nat.beq n us.length && Nat.beq m n && Nat.beq ws.length n && Nat.blt n 1000000 && !Nat.beq a.block b.block with
        | none, none, true => some (.int .i64 (lexI us ws), heapOf [.dead] hp)
        | _, _, _ => none
      | _, _ => none
    | _, _ => none
  | _ => none
theorem hkC84 : CallGoal Try.prog 75 C84 := by
  intro args hp v hp' he hk
  refine hkG84 args hp v hp' ?_ hk
  unfold C84 at he
  split at he
  case h_2 => cases he
  rename_i a n b m
  split at he
  case h_2 => cases he
  rename_i L R hL hR
  split at he
  case h_2 => cases he
  rename_i us ws hu hw
  split at he
  case h_2 => cases he
  rename_i ha hb hc
  cases he
  simp only [Bool.and_eq_true, Nat.blt_eq, Bool.not_eq_true'] at hc
  obtain ⟨⟨⟨⟨⟨⟨c1, c2⟩, c3⟩, c4⟩, c5⟩, c6⟩, c7⟩ := hc
  replace c1 := Nat.eq_of_beq_eq_true c1
  replace c2 := Nat.eq_of_beq_eq_true c2
  replace c3 := Nat.eq_of_beq_eq_true c3
  replace c4 := Nat.eq_of_beq_eq_true c4
  replace c5 := Nat.eq_of_beq_eq_true c5
  obtain ⟨ab, ao, as'⟩ := a
  obtain ⟨bb, bo, bs'⟩ := b
  simp only at ha hb c1 c2 c7 hL hR
  subst ha; subst hb; subst c1; subst c2; subst c4; subst c3
  rw [unI_some hu] at hL
  rw [unI_some hw] at hR
  exact G84_of c5.symm c6 (fun e => by subst e; simp at c7) hL hR
noncomputable def row5 (x : ViewV) : List Int := [x.t, x.o, x.r, x.d, x.i]
noncomputable def E65 : Ext := extG (extH Try.prog [(40, g64)]) [(75, C84)]
theorem E65_ok : ExtOk Try.prog E65 := extG_ok (extH_ok (.cons hk64 (.nil))) (.cons hkC84 (.nil))
noncomputable def c65 : CallF := aCall Try.prog E65 60
theorem c65_ok : CallOk Try.prog c65 := aCall_sound E65_ok follows 60
noncomputable def fb65 : Code := (Try.f41.body).getD .skip
theorem body65 : Try.f41.body = some fb65 := by kernel_rfl
theorem ntmps65 : Try.f41.ntmps = 19 := by kernel_rfl
theorem s65 : codeSafe Try.prog 19 fb65 = true := by kernel_rfl
theorem q65 (v : Value) (O : List Blk) (g : Nat → Value) : retVal Try.prog Try.f41 (stOf 19 g [(4, v)] O) = some v := by kernel_rfl
section
variable (x y : ViewV) (z : Int) (b : Bool)
noncomputable def toV (x : ViewV) (b : Bool) : Obl := (some (.bool (toldV x)), .bool b)
theorem toV_ok {x : ViewV} {b : Bool} (h : toldV x = b) : (toV x b).1 = some (toV x b).2 := by show some (Value.bool (toldV x)) = _; rw [h]; rfl
theorem r65f : (execE Try.prog c65 [(6, .bool false)] [] [] 20 fb65 ⟨tmsOf [hcA x, hcA y] 0 .leaf, hp0, []⟩).map (fun z => (look2 0 [] [4] (z.1, z.2.1), z.2.2)) =
    some ((.ret, [], [(4, .bool false)], true), [toV x false], [], []) := by kernel_rfl
theorem r65g : (execE Try.prog c65 [(6, .bool true), (9, .bool false)] [] [] 20 fb65 ⟨tmsOf [hcA x, hcA y] 0 .leaf, hp0, []⟩).map (fun z => (look2 0 [] [4] (z.1, z.2.1), z.2.2)) =
    some ((.ret, [], [(4, .bool false)], true), [toV x true, toV y false], [], []) := by kernel_rfl
theorem r65t : (execE Try.prog c65 [(6, .bool true), (9, .bool true), (17, .bool b)] [] [] 20 fb65 ⟨tmsOf [hcA x, hcA y] 0 .leaf, hp0, []⟩).map (fun z => (look2 0 [] [4] (z.1, z.2.1), z.2.2)) =
    some ((.ret, [], [(4, .bool b)], true), [(some (hcA y), hcA y), toV x true, toV y true, (some (.bool (decide (lexI (row5 x) (row5 y) < 0))), .bool b)], [], []) := by kernel_rfl
end
theorem lex5 (x y : ViewV) : lexI (row5 x) (row5 y) < 0 ↔ Lex x y := by
  unfold Lex row5
  have st : ∀ (a b : Int) (u w : List Int), lexI (a :: u) (b :: w) < 0 ↔ a < b ∨ (a = b ∧ lexI u w < 0) := fun a b u w => by
    show (bif decide (a < b) then -1 else bif decide (a > b) then 1 else lexI u w) < 0 ↔ _
    cases h1 : decide (a < b) with
    | true => have := of_decide_eq_true h1; simp; omega
    | false =>
      have h1' := of_decide_eq_false h1
      cases h2 : decide (a > b) with
      | true => have := of_decide_eq_true h2; simp; omega
      | false =>
        have h2' := of_decide_eq_false h2
        have : a = b := by omega
        subst this
        simp
  rw [st, st, st, st, st]
  have e0 : ¬ lexI [] [] < 0 := by show ¬ ((0 : Int) < 0); omega
  simp [e0]
theorem less5 (x y : ViewV) : (toldV x && (toldV y && decide (lexI (row5 x) (row5 y) < 0))) = ltV x y := by
  cases hx : toldV x with
  | false =>
    cases e : ltV x y with
    | false => rfl
    | true => have := (lt_kn e).1; rw [toldV_kn.2 this] at hx; cases hx
  | true =>
    cases hy : toldV y with
    | false =>
      cases e : ltV x y with
      | false => rfl
      | true => have := (lt_kn e).2; rw [toldV_kn.2 this] at hy; cases hy
    | true =>
      have := ltV_lex (toldV_kn.1 hx) (toldV_kn.1 hy)
      cases e : ltV x y with
      | true => rw [decide_eq_true ((lex5 x y).2 (this.1 e))]; rfl
      | false =>
        have n : ¬ Lex x y := fun h => by rw [this.2 h] at e; cases e
        rw [decide_eq_false fun h => n ((lex5 x y).1 h)]; rfl
theorem fr65 (x y : ViewV) (W : Base) : FRwp Try.prog 19 W fb65 ⟨tmsOf [hcA x, hcA y] 0 .leaf, hp0, []⟩ (fun e st => (e = .normal ∨ e = .ret) ∧ st.df = [] ∧ retVal Try.prog Try.f41 st = some (.bool (ltV x y))) := by
  have h := less5 x y
  cases hx : toldV x with
  | false =>
    rw [hx] at h
    have h' : ltV x y = false := h.symm
    rw [h']
    exact FRwp.pieceY c65_ok follows 0 _ _ _ _ (r65f x y) (Met.cons (toV_ok hx) Met.nil) MetH.nil MetE.nil s65 rfl rfl (noFix _) fun g => ⟨.inr rfl, rfl, q65 _ _ g⟩
  | true =>
    rw [hx] at h
    cases hy : toldV y with
    | false =>
      rw [hy] at h
      have h' : ltV x y = false := h.symm
      rw [h']
      exact FRwp.pieceY c65_ok follows 0 _ _ _ _ (r65g x y) (Met.cons (toV_ok hx) (Met.cons (toV_ok hy) Met.nil)) MetH.nil MetE.nil s65 rfl rfl (noFix _) fun g => ⟨.inr rfl, rfl, q65 _ _ g⟩
    | true =>
      rw [hy] at h
      have h' : decide (lexI (row5 x) (row5 y) < 0) = ltV x y := h
      exact FRwp.pieceY c65_ok follows 0 _ _ _ _ (r65t x y (ltV x y)) (Met.cons rfl (Met.cons (toV_ok hx) (Met.cons (toV_ok hy) (Met.cons (bool_ok h') Met.nil)))) MetH.nil MetE.nil s65 rfl rfl (noFix _) fun g => ⟨.inr rfl, rfl, q65 _ _ g⟩
theorem hk65 : HookGoal Try.prog 41 g17 := hook_fr Try.func41 (by kernel_rfl) body65 ntmps65 fun args v h => by
  unfold g17 at h
  split at h
  · rename_i c0 c1
    split at h
    · rename_i ec0 ec1
      cases h
      obtain rfl := arr_of ec0
      obtain rfl := arr_of ec1
      refine ⟨rfl, rfl, by simp, fun W => ?_⟩
      exact fr65 ⟨0, _, _, _, _, _, _⟩ ⟨0, _, _, _, _, _, _⟩ W
    · cases h
  · cases h
end Go.Proofs.Ytgeoommlmddgpaa.LtA
namespace Go.Proofs.Ytgeoommlmddgpaa.LtA
open Go Go.Proofs Go.Proofs.Ytgeoommlmddgpaa.AI Go.RowKit Go.Proofs.Ytgeoommlmddgpaa.Sort

noncomputable def E35 : Ext := extH Try.prog [(40, g64), (41, g17)]
theorem E35_ok : ExtOk Try.prog E35 := extH_ok (.cons hk64 (.cons hk65 (.nil)))
noncomputable def c35 : CallF := aCall Try.prog E35 5
theorem c35_ok : CallOk Try.prog c35 := aCall_sound E35_ok follows 5
noncomputable def fb35 : Code := (Try.f56.body).getD .skip
noncomputable def p35 : Nat → Code
  | 0 => fb35
  | n + 1 => sR (p35 n)
noncomputable def c35a : Code := sL (p35 0)
noncomputable def c35b : Code := sL (p35 1)
noncomputable def c35c : Code := sL (p35 2)
noncomputable def c35d : Code := sL (sL (p35 3))
noncomputable def c35e : Code := unL (unB (sR (sL (p35 3))))
noncomputable def c35f : Code := p35 4
noncomputable abbrev code35 : Code := .seq c35a (.seq c35b (.seq c35c (.seq (.seq c35d (.block 0 (.loop c35e))) c35f)))
theorem body35 : Try.f56.body = some code35 := by kernel_rfl
theorem ntmps35 : Try.f56.ntmps = 40 := by kernel_rfl
theorem s35a : codeSafe Try.prog 40 c35a = true := by kernel_rfl
theorem s35b : codeSafe Try.prog 40 c35b = true := by kernel_rfl
theorem s35c : codeSafe Try.prog 40 c35c = true := by kernel_rfl
theorem s35d : codeSafe Try.prog 40 c35d = true := by kernel_rfl
theorem s35e : codeSafe Try.prog 40 c35e = true := by kernel_rfl
theorem s35f : codeSafe Try.prog 40 c35f = true := by kernel_rfl
theorem q35 (x : ViewV) (b : Bool) (g : Nat → Value) : retVal Try.prog Try.f56 (stOf 40 g [(2, pb 0 0), (3, .bool b)] [vB x]) = some (.tuple #[.agg ⟨vc x⟩, .bool b]) := by kernel_rfl
theorem kk_len {f : Bool} {vs : List ViewV} {o : Blk} (h : f = false → vs = [] ∧ o = .dead) : kk f vs.length = vs.length := by
  cases f with
  | true => rfl
  | false => rw [(h rfl).1]; rfl
section
variable (f : Bool) (o : Blk) (n c i : Nat) (x y : ViewV) (b : Bool) (g : Nat → Value)
theorem r35a : (execE Try.prog c35 [] [] [] 20 c35a ⟨tmsOf [rowS 0 n c] 0 .leaf, heapOf [o, .dead] hp0, []⟩).map (fun z => (look2 1 [0, 2] [0, 2] (z.1, z.2.1), z.2.2)) =
    some ((.normal, [o, vB (zeroV 0)], [(0, rowS 0 n c), (2, pb 1 0)], true), [], [], []) := by kernel_rfl
theorem n35a : (execE Try.prog c35 [] [] [] 20 c35a ⟨tmsOf [nilS] 0 .leaf, heapOf [.dead] hp0, []⟩).map (fun z => (look2 1 [0, 1] [0, 2] (z.1, z.2.1), z.2.2)) =
    some ((.normal, [.dead, vB (zeroV 0)], [(0, nilS), (2, pb 1 0)], true), [], [], []) := by kernel_rfl
theorem r35b : (execE Try.prog c35 [] [] [] 20 c35b (stOf 40 g [(0, vS f 0 n c), (2, pb 1 0)] [o, vB (zeroV 0)])).map (fun z => (look2 1 [0, 1, 3] [0, 2, 4] (z.1, z.2.1), z.2.2)) =
    some ((.normal, [o, vB (zeroV 0), vB (zeroV 0)], [(0, vS f 0 n c), (2, pb 1 0), (4, pb 2 0)], true), [], [], []) := by cases f <;> kernel_rfl
theorem r35c : (execE Try.prog c35 [] [] [] 20 c35c (stOf 40 g [(0, vS f 0 n c), (2, pb 1 0), (4, pb 2 0)] [o, vB (zeroV 0), vB (zeroV 0)])).map (fun z => (look2 1 [0, 1, 2] [0, 2, 4, 5] (z.1, z.2.1), z.2.2)) =
    some ((.normal, [o, vB (zeroV 0), vB (zeroV 0)], [(0, vS f 0 n c), (2, pb 1 0), (4, pb 2 0), (5, .bool false)], true), [], [], []) := by cases f <;> kernel_rfl
abbrev L35 (y : ViewV) (b : Bool) (i : Nat) (g : Nat → Value) : St := (stOf 40 g [(0, vS f 0 n c), (2, pb 1 0), (4, pb 2 0), (5, .bool b), (6, iN i)] [o, vB (zeroV 0), vB y])
theorem r35d : (execE Try.prog c35 [] [] [] 20 c35d (stOf 40 g [(0, vS f 0 n c), (2, pb 1 0), (4, pb 2 0), (5, .bool false)] [o, vB (zeroV 0), vB (zeroV 0)])).map (fun z => (look2 1 [0, 1, 2] [0, 2, 4, 5, 6] (z.1, z.2.1), z.2.2)) =
    some ((.normal, [o, vB (zeroV 0), vB (zeroV 0)], [(0, vS f 0 n c), (2, pb 1 0), (4, pb 2 0), (5, .bool false), (6, iN 0)], true), [], [], []) := by cases f <;> kernel_rfl
theorem r35x : (execE Try.prog c35 [(11, .bool false)] [] [] 20 c35e (L35 f o n c y b i g)).map (fun z => (look2 0 [1, 2] [2, 4, 5] (z.1, z.2.1), z.2.2)) =
    some ((.exit 0, [vB (zeroV 0), vB y], [(2, pb 0 0), (4, pb 1 0), (5, .bool b)], true), [ltO i (kk f n) false], [], []) := by cases f <;> kernel_rfl
theorem r35f : (execE Try.prog c35 [(11, .bool true), (16, pb 0 (i * 7)), (18, hcA x), (19, .bool false), (13, iN (i + 1))] [] [] 20 c35e (L35 true o n c y b i g)).map (fun z => (look2 1 [0, 1, 2] [0, 2, 4, 5, 6] (z.1, z.2.1), z.2.2)) =
    some ((.normal, [o, vB (zeroV 0), vB y], [(0, rowS 0 n c), (2, pb 1 0), (4, pb 2 0), (5, .bool b), (6, iN (i + 1))], true), [ltO i n true, ixO 0 n c i, ldO (heapOf ([o, vB (zeroV 0), vB y] ++ [.dead]) hp0).get 24 0 (i * 7 + 1) (hcA x), toV x false, nxt29 i], [], []) := by kernel_rfl
theorem r35g : (execE Try.prog c35 [(11, .bool true), (16, pb 0 (i * 7)), (18, hcA x), (19, .bool true), (36, pb 0 (i * 7)), (37, .agg ⟨vc x⟩), (13, iN (i + 1))] [] [] 20 c35e (L35 true o n c y false i g)).map (fun z => (look2 1 [0, 1, 2] [0, 2, 4, 5, 6] (z.1, z.2.1), z.2.2)) =
    some ((.normal, [o, vB (zeroV 0), vB x], [(0, rowS 0 n c), (2, pb 1 0), (4, pb 2 0), (5, .bool true), (6, iN (i + 1))], true), [ltO i n true, ixO 0 n c i, ldO (heapOf ([o, vB (zeroV 0), vB y] ++ [.dead]) hp0).get 24 0 (i * 7 + 1) (hcA x), toV x true, ixO 0 n c i, ldO (heapOf ([o, vB (zeroV 0), vB y] ++ [.dead]) hp0).get 45 0 (i * 7) (.agg ⟨vc x⟩), nxt29 i], [], []) := by kernel_rfl
theorem r35h : (execE Try.prog c35 [(11, .bool true), (16, pb 0 (i * 7)), (18, hcA x), (19, .bool true), (26, pb 0 (i * 7)), (28, hcA x), (31, .bool true), (36, pb 0 (i * 7)), (37, .agg ⟨vc x⟩), (13, iN (i + 1))] [] [] 20 c35e (L35 true o n c y true i g)).map (fun z => (look2 1 [0, 1, 2] [0, 2, 4, 5, 6] (z.1, z.2.1), z.2.2)) =
    some ((.normal, [o, vB (zeroV 0), vB x], [(0, rowS 0 n c), (2, pb 1 0), (4, pb 2 0), (5, .bool true), (6, iN (i + 1))], true), [ltO i n true, ixO 0 n c i, ldO (heapOf ([o, vB (zeroV 0), vB y] ++ [.dead]) hp0).get 24 0 (i * 7 + 1) (hcA x), toV x true, ixO 0 n c i, ldO (heapOf ([o, vB (zeroV 0), vB y] ++ [.dead]) hp0).get 24 0 (i * 7 + 1) (hcA x), leV x y true, ixO 0 n c i, ldO (heapOf ([o, vB (zeroV 0), vB y] ++ [.dead]) hp0).get 45 0 (i * 7) (.agg ⟨vc x⟩), nxt29 i], [], []) := by kernel_rfl
theorem r35i : (execE Try.prog c35 [(11, .bool true), (16, pb 0 (i * 7)), (18, hcA x), (19, .bool true), (26, pb 0 (i * 7)), (28, hcA x), (31, .bool false), (13, iN (i + 1))] [] [] 20 c35e (L35 true o n c y true i g)).map (fun z => (look2 1 [0, 1, 2] [0, 2, 4, 5, 6] (z.1, z.2.1), z.2.2)) =
    some ((.normal, [o, vB (zeroV 0), vB y], [(0, rowS 0 n c), (2, pb 1 0), (4, pb 2 0), (5, .bool true), (6, iN (i + 1))], true), [ltO i n true, ixO 0 n c i, ldO (heapOf ([o, vB (zeroV 0), vB y] ++ [.dead]) hp0).get 24 0 (i * 7 + 1) (hcA x), toV x true, ixO 0 n c i, ldO (heapOf ([o, vB (zeroV 0), vB y] ++ [.dead]) hp0).get 24 0 (i * 7 + 1) (hcA x), leV x y false, nxt29 i], [], []) := by kernel_rfl
theorem r35j : (execE Try.prog c35 [] [] [] 20 c35f (stOf 40 g [(2, pb 0 0), (4, pb 1 0), (5, .bool b)] [vB (zeroV 0), vB y])).map (fun z => (look2 0 [0] [2, 3] (z.1, z.2.1), z.2.2)) =
    some ((.ret, [vB y], [(2, pb 0 0), (3, .bool b)], true), [], [], []) := by kernel_rfl
end
def lowR (vs : List ViewV) : Ans := fun rest => match rest with
  | [] => some (lowA vs, [])
  | _ => none
theorem run35 (vs : List ViewV) (hn : vs.length < 1000000) : ∀ rest v0 O, lowR vs rest = some (v0, O) → RowRun Try.f56 code35 40 vs rest v0 O := fun rest v0 O h => by
  unfold lowR at h
  split at h
  case h_2 => cases h
  cases h
  refine ⟨.inl rfl, rfl, (fun r hr => by cases hr), by simp, fun f o c W ho hrow hfl => ?_⟩
  have hkk := kk_len hfl
  refine FRwp.seq (Q1 := fun e st => e = .normal ∧ ∃ g, st = stOf 40 g [(0, vS f 0 vs.length c), (2, pb 1 0)] [o, vB (zeroV 0)]) ?_ ?_ (fun x st hne hq => absurd hq.1 hne)
  · cases f with
    | true => exact FRwp.pieceY c35_ok follows 1 _ _ _ _ (r35a o vs.length c) Met.nil MetH.nil MetE.nil s35a rfl rfl (fix11 ho _) fun g => ⟨rfl, g, rfl⟩
    | false =>
      obtain ⟨rfl, rfl⟩ := hfl rfl
      exact FRwp.pieceY c35_ok follows 1 _ _ _ _ (n35a) Met.nil MetH.nil MetE.nil s35a rfl rfl (fix11 rfl _) fun g => ⟨rfl, g, rfl⟩
  rintro st ⟨-, g, rfl⟩
  refine FRwp.seq (Q1 := fun e st => e = .normal ∧ ∃ g, st = stOf 40 g [(0, vS f 0 vs.length c), (2, pb 1 0), (4, pb 2 0)] [o, vB (zeroV 0), vB (zeroV 0)]) (FRwp.pieceY c35_ok follows 1 _ _ _ _ (r35b f o vs.length c g) Met.nil MetH.nil MetE.nil s35b rfl rfl (fix11 ho _) fun g => ⟨rfl, g, rfl⟩) ?_ (fun x st hne hq => absurd hq.1 hne)
  rintro st ⟨-, g, rfl⟩
  refine FRwp.seq (Q1 := fun e st => e = .normal ∧ ∃ g, st = stOf 40 g [(0, vS f 0 vs.length c), (2, pb 1 0), (4, pb 2 0), (5, .bool false)] [o, vB (zeroV 0), vB (zeroV 0)]) (FRwp.pieceY c35_ok follows 1 _ _ _ _ (r35c f o vs.length c g) Met.nil MetH.nil MetE.nil s35c rfl rfl (fix11 ho _) fun g => ⟨rfl, g, rfl⟩) ?_ (fun x st hne hq => absurd hq.1 hne)
  rintro st ⟨-, g, rfl⟩
  refine FRwp.seq (Q1 := fun x st => x = .normal ∧ ∃ g, st = stOf 40 g [(2, pb 0 0), (4, pb 1 0), (5, .bool (lowV vs).2)] [vB (zeroV 0), vB (lowV vs).1]) ?_ ?_ (fun x st hne hq => absurd hq.1 hne)
  · refine FRwp.seq (Q1 := fun x st => x = .normal ∧ ∃ g, st = L35 f o vs.length c (zeroV 0) false 0 g) (FRwp.pieceY c35_ok follows 1 _ _ _ _ (r35d f o vs.length c g) Met.nil MetH.nil MetE.nil s35d rfl rfl (fix11 ho _) fun g => ⟨rfl, g, rfl⟩) ?_ (fun x st hne hq => absurd hq.1 hne)
    rintro st ⟨-, g, rfl⟩
    refine FRwp.block ?_
    refine FRwp.loop (fun k st => ∃ i y b g, i ≤ vs.length ∧ k = vs.length - i ∧ (vs.take i).foldl lowS (zeroV 0, false) = (y, b) ∧ st = L35 f o vs.length c y b i g) ?_ (k := vs.length) ⟨0, _, _, g, Nat.zero_le _, rfl, rfl, rfl⟩
    rintro k st ⟨i, y, b, g, hi, hk, hf, rfl⟩
    cases h12 : decide (i < vs.length) with
    | false =>
      have hii : i = vs.length := by have := of_decide_eq_false h12; omega
      subst hii
      rw [List.take_length] at hf
      refine FRwp.pieceY c35_ok follows 0 _ _ _ _ (r35x f o vs.length c vs.length y b g) (Met.cons (ltO_ok (by rw [hkk]; exact h12)) Met.nil) MetH.nil MetE.nil s35e rfl rfl (noFix _) fun g' => .inr ⟨by simp, ?_⟩
      show (if (0 : Nat) = 0 then _ else _)
      rw [if_pos rfl]
      refine ⟨rfl, g', ?_⟩
      unfold lowV
      rw [hf]
    | true =>
      have hlt := of_decide_eq_true h12
      have hft : f = true := by cases f with
        | true => rfl
        | false => rw [(hfl rfl).1] at hlt; simp at hlt
      subst hft
      obtain ⟨x, hx⟩ := some_at hlt
      have hr : ∃ ty ro, o = .cells ty (vrow vs) ro := by
        rcases hrow with h | h
        · rw [h] at hlt; simp at hlt
        · exact h
      have hst := fold_step (f := lowS) (a := (zeroV 0, false)) hx
      rw [hf] at hst
      have hat : RowAt (heapOf ([o, vB (zeroV 0), vB y] ++ [.dead]) hp0) 0 vs := rowAt0 hr
      have met : ∀ {l : List Obl}, Met l → Met (ltO i vs.length true :: ixO 0 vs.length c i :: ldO (heapOf ([o, vB (zeroV 0), vB y] ++ [.dead]) hp0).get 24 0 (i * 7 + 1) (hcA x) :: l) := fun hl => Met.cons (ltO_ok h12) (Met.cons (ix_ok hlt) (Met.cons (hload_ok hat hx) hl))
      have met2 : ∀ {l : List Obl}, Met l → Met (ixO 0 vs.length c i :: ldO (heapOf ([o, vB (zeroV 0), vB y] ++ [.dead]) hp0).get 24 0 (i * 7 + 1) (hcA x) :: l) := fun hl => Met.cons (ix_ok hlt) (Met.cons (hload_ok hat hx) hl)
      have met3 : ∀ {l : List Obl}, Met l → Met (ixO 0 vs.length c i :: ldO (heapOf ([o, vB (zeroV 0), vB y] ++ [.dead]) hp0).get 45 0 (i * 7) (.agg ⟨vc x⟩) :: l) := fun hl => Met.cons (ix_ok hlt) (Met.cons (at_ok hat hx) hl)
      have hnx : Met [nxt29 i] := Met.cons (wrap_up (by omega)) Met.nil
      have leb : ∀ {b : Bool}, ltV x y = b → (leV x y b).1 = some (leV x y b).2 := fun h => by show some (Value.bool (ltV x y)) = _; rw [h]; rfl
      have go : ∀ {y' : ViewV} {b' : Bool} {g' : Nat → Value}, lowS (y, b) x = (y', b') → ∃ k', k' < k ∧ ∃ j z d g, j ≤ vs.length ∧ k' = vs.length - j ∧ (vs.take j).foldl lowS (zeroV 0, false) = (z, d) ∧ L35 true o vs.length c y' b' (i + 1) g' = L35 true o vs.length c z d j g :=
        fun {y' b' g'} h => ⟨vs.length - (i + 1), by omega, i + 1, y', b', g', by omega, rfl, by rw [hst, h], rfl⟩
      cases h17 : toldV x with
      | false =>
        refine FRwp.pieceY c35_ok follows 1 _ _ _ _ (r35f o vs.length c i x y b g) (met (Met.cons (toV_ok h17) hnx)) MetH.nil MetE.nil s35e rfl rfl (fix11 ho _) fun g' => .inl ⟨rfl, go ?_⟩
        unfold lowS; rw [h17]; rfl
      | true =>
        cases b with
        | false =>
          refine FRwp.pieceY c35_ok follows 1 _ _ _ _ (r35g o vs.length c i x y g) (met (Met.cons (toV_ok h17) (met3 hnx))) MetH.nil MetE.nil s35e rfl rfl (fix11 ho _) fun g' => .inl ⟨rfl, go ?_⟩
          unfold lowS; rw [h17]; rfl
        | true =>
          cases h26 : ltV x y with
          | true =>
            refine FRwp.pieceY c35_ok follows 1 _ _ _ _ (r35h o vs.length c i x y g) (met (Met.cons (toV_ok h17) (met2 (Met.cons (leb h26) (met3 hnx))))) MetH.nil MetE.nil s35e rfl rfl (fix11 ho _) fun g' => .inl ⟨rfl, go ?_⟩
            unfold lowS; simp only [h17, h26]; rfl
          | false =>
            refine FRwp.pieceY c35_ok follows 1 _ _ _ _ (r35i o vs.length c i x y g) (met (Met.cons (toV_ok h17) (met2 (Met.cons (leb h26) hnx)))) MetH.nil MetE.nil s35e rfl rfl (fix11 ho _) fun g' => .inl ⟨rfl, go ?_⟩
            unfold lowS; simp only [h17, h26]; rfl
  · rintro st ⟨-, g, rfl⟩
    exact FRwp.pieceY c35_ok follows 0 _ _ _ _ (r35j (lowV vs).1 (lowV vs).2 g) Met.nil MetH.nil MetE.nil s35f rfl rfl (noFix _) fun g => ⟨.inr rfl, rfl, q35 _ _ g, (fun B h => by cases h)⟩
noncomputable def G35 : HeapFn := toldR lowR
theorem hkG35 : CallGoal Try.prog 56 G35 := toldR_goal Try.func56 body35 (by kernel_rfl) ntmps35 fun vs hn => run35 vs hn
end Go.Proofs.Ytgeoommlmddgpaa.LtA
namespace Go.Proofs.Ytgeoommlmddgpaa.LtA
open Go Go.Proofs Go.Proofs.Ytgeoommlmddgpaa.AI Go.RowKit Go.Proofs.Ytgeoommlmddgpaa.Sort

theorem app_any {get : Nat → Option Blk} {sz b b2 k : Nat} {ws : List ViewV} {x : ViewV} {f : Bool} (hf : f = !ws.isEmpty) (hb : get b = some (ownB ws)) (hb2 : get b2 = some (vB x)) (hk : k = ws.length) (hl : k < 2000000) :
    aAppend Try.prog get sz [22, 22] [vS f b k 22, rowS b2 1 22] = some (newS sz (k + 1), effF f b (rowB (ws ++ [x]))) := by
  cases ws with
  | cons w ws => subst hf; exact app_one hb hb2 hk hl
  | nil =>
    subst hf hk
    obtain ⟨i, hi, h7, h56⟩ := info34
    obtain ⟨z, hz, hzl⟩ := zero34
    have hb2' : get b2 = some (.cells 45 (vc x) false) := hb2
    have hsrc : aSrc Try.prog get 7 z (.slice 45) (rowS b2 1 22) = some (vc x, 1) := by
      unfold aSrc
      simp only [rowS, srcLen, srcCells, hb2']
      rw [if_neg (by omega), if_neg (by omega), getR_all (n := 1 * 7) rfl]
      rfl
    show aAppend Try.prog get sz [22, 22] [nilS, rowS b2 1 22] = some (newS sz 1, [.push (rowB [x])])
    unfold aAppend
    simp only [Try.underlying22, hi, hz, h7, h56, hzl]
    rw [if_neg (by decide)]
    simp only [hsrc]
    rw [if_neg (by simp [vc, isOne])]
    simp only [nilS]
    rw [if_neg (by omega), if_neg (by omega)]
    have e : vrow [x] = vc x := by unfold vrow; simp
    unfold rowB
    rw [e]; rfl
theorem app_anyI {get : Nat → Option Blk} {sz b b2 k : Nat} {ids : List Int} {x : Int} {f : Bool} (hf : f = !ids.isEmpty) (hb : get b = some (ownI ids)) (hb2 : get b2 = some (.cells 3 [icell x] false)) (hk : k = ids.length) (hl : k < 2000000) :
    aAppend Try.prog get sz [30, 30] [vI f b k, newI b2 1] = some (newI sz (k + 1), effF f b (iB (ids ++ [x]))) := by
  cases ids with
  | cons w ids => subst hf; exact app_int hb hb2 hk hl
  | nil =>
    subst hf hk
    obtain ⟨i, hi, h1, h8⟩ := info3
    obtain ⟨z, hz, hzl⟩ := zero3
    have hsrc : aSrc Try.prog get 1 z (.slice 3) (newI b2 1) = some ([icell x], 1) := by
      unfold aSrc newI
      simp only [srcLen, srcCells, hb2]
      rw [if_neg (by omega), if_neg (by omega), getR_all (n := 1 * 1) rfl]
      rfl
    show aAppend Try.prog get sz [30, 30] [nilS, newI b2 1] = some (newI sz 1, [.push (iB [x])])
    unfold aAppend
    simp only [underlying31, hi, hz, h1, h8, hzl]
    rw [if_neg (by decide)]
    simp only [hsrc]
    rw [if_neg (by simp [isOne, icell])]
    simp only [nilS]
    rw [if_neg (by omega), if_neg (by omega)]
    rfl
noncomputable def apV (h : Hp) (sz b k b2 : Nat) (f : Bool) (us : List ViewV) : OblE := (aAppend Try.prog h.get sz [22, 22] [vS f b k 22, rowS b2 1 22], (newS sz (k + 1), effF f b (rowB us)))
noncomputable def apI (h : Hp) (sz b k b2 : Nat) (f : Bool) (us : List Int) : OblE := (aAppend Try.prog h.get sz [30, 30] [vI f b k, newI b2 1], (newI sz (k + 1), effF f b (iB us)))
section
variable (f fu fm d fi : Bool) (o U M I : Blk) (n c u m i k q j : Nat) (x w : ViewV) (us ws zs ys : List ViewV) (ids jds : List Int) (g : Nat → Value)
end
end Go.Proofs.Ytgeoommlmddgpaa.LtA
namespace Go.Proofs.Ytgeoommlmddgpaa.LtA
open Go Go.Proofs Go.Proofs.Ytgeoommlmddgpaa.AI Go.RowKit Go.Proofs.Ytgeoommlmddgpaa.Sort

theorem isE_false {α : Type} {l : List α} (h : l ≠ []) : (!l.isEmpty) = true := by
  cases l with
  | nil => exact absurd rfl h
  | cons => rfl
theorem isE_app {α : Type} (l : List α) (x : α) : (!(l ++ [x]).isEmpty) = true := isE_false (by simp)
theorem ownB_ne {l : List ViewV} (h : l ≠ []) : ownB l = rowB l := by
  cases l with
  | nil => exact absurd rfl h
  | cons => rfl
theorem ownI_ne {l : List Int} (h : l ≠ []) : ownI l = iB l := by
  cases l with
  | nil => exact absurd rfl h
  | cons => rfl
theorem ne_app {α : Type} (l : List α) (x : α) : l ++ [x] ≠ [] := by simp
section
variable {o : Blk} {vs us : List ViewV} {c i : Nat} {x : ViewV}
end
end Go.Proofs.Ytgeoommlmddgpaa.LtA
namespace Go.Proofs.Ytgeoommlmddgpaa.LtA
open Go Go.Proofs Go.Proofs.Ytgeoommlmddgpaa.AI Go.RowKit Go.Proofs.Ytgeoommlmddgpaa.Sort

/-- A loop over a list. -/
theorem fold_loop {N : Nat} {W : Base} {b : Code} {kb : Nat} {α β : Type} {vs : List β} (F : α → β → α) (a0 : α) (I : α → Nat → (Nat → Value) → St) (Q : α → St → Prop) (R : Exit → St → Prop)
    (hx : ∀ a g, vs.foldl F a0 = a → FRwp Try.prog N W b (I a vs.length g) (fun e st => e = .exit kb ∧ Q a st))
    (hs : ∀ i x a g, vs[i]? = some x → i < vs.length → (vs.take i).foldl F a0 = a → FRwp Try.prog N W b (I a i g) (fun e st => (e = .normal ∧ ∃ g', st = I (F a x) (i + 1) g') ∨ (e = .ret ∧ R e st)))
    (g : Nat → Value) : FRwp Try.prog N W (.block kb (.loop b)) (I a0 0 g) (fun e st => (e = .normal ∧ Q (vs.foldl F a0) st) ∨ (e = .ret ∧ R e st)) := by
  refine FRwp.block ?_
  refine FRwp.loop (fun k st => ∃ i a g, i ≤ vs.length ∧ k = vs.length - i ∧ (vs.take i).foldl F a0 = a ∧ st = I a i g) ?_ (k := vs.length) ⟨0, a0, g, Nat.zero_le _, rfl, rfl, rfl⟩
  rintro k st ⟨i, a, g, hi, hk, ha, rfl⟩
  rcases Nat.lt_or_ge i vs.length with hlt | hge
  · have hxx : vs[i]? = some vs[i] := List.getElem?_eq_getElem hlt
    refine FRwp.mono (hs i vs[i] a g hxx hlt ha) fun e st q => ?_
    rcases q with ⟨rfl, g', rfl⟩ | ⟨rfl, hr⟩
    · exact .inl ⟨rfl, vs.length - (i + 1), by omega, i + 1, _, g', by omega, rfl, by rw [fold_step hxx, ha], rfl⟩
    · exact .inr ⟨by simp, .inr ⟨rfl, hr⟩⟩
  · have hii : i = vs.length := by omega
    subst hii
    rw [List.take_length] at ha
    refine FRwp.mono (hx a g ha) fun e st q => .inr ?_
    obtain ⟨rfl, hq⟩ := q
    refine ⟨by simp, ?_⟩
    show (if kb = kb then _ else _)
    rw [if_pos rfl]
    exact .inl ⟨rfl, by rw [ha]; exact hq⟩
/-- .. that does not return. -/
theorem fold_loop' {N : Nat} {W : Base} {b : Code} {kb : Nat} {α β : Type} {vs : List β} (F : α → β → α) (a0 : α) (I : α → Nat → (Nat → Value) → St) (Q : α → St → Prop)
    (hx : ∀ a g, vs.foldl F a0 = a → FRwp Try.prog N W b (I a vs.length g) (fun e st => e = .exit kb ∧ Q a st))
    (hs : ∀ i x a g, vs[i]? = some x → i < vs.length → (vs.take i).foldl F a0 = a → FRwp Try.prog N W b (I a i g) (fun e st => e = .normal ∧ ∃ g', st = I (F a x) (i + 1) g'))
    (g : Nat → Value) : FRwp Try.prog N W (.block kb (.loop b)) (I a0 0 g) (fun e st => e = .normal ∧ Q (vs.foldl F a0) st) :=
  FRwp.mono (fold_loop F a0 I Q (fun _ _ => False) hx (fun i x a g h1 h2 h3 => FRwp.mono (hs i x a g h1 h2 h3) fun e st q => .inl q) g) fun e st q => by
    rcases q with q | ⟨-, h⟩
    · exact q
    · exact h.elim
def unH : Value → Option ViewV
  | .agg cs => match cs.toList with
    | [.bool n, .int .i64 t, .int .i64 o, .int .i64 r, .int .i64 d, .int .i64 i] => some ⟨0, n, t, o, r, d, i⟩
    | _ => none
  | _ => none
theorem unH_some {v : Value} {y : ViewV} (h : unH v = some y) : v = hcA y := by
  unfold unH at h
  split at h
  · rename_i cs
    split at h
    · rename_i n t o r d i hcs
      cases h
      obtain rfl := arr_of hcs
      rfl
    · cases h
  · cases h
def filS (p : ViewV → Bool) (us : List ViewV) (x : ViewV) : List ViewV := bif p x then us ++ [x] else us
theorem fil_fold {p : ViewV → Bool} : ∀ {vs us : List ViewV}, vs.foldl (filS p) us = us ++ vs.filter p
  | [], us => by simp
  | v :: vs, us => by
    rw [List.foldl_cons, fil_fold]
    unfold filS
    cases h : p v with
    | true => rw [List.filter_cons_of_pos h]; simp
    | false => rw [List.filter_cons_of_neg (by rw [h]; simp)]; rfl
section
variable (f fu fi b : Bool) (o U I : Blk) (n c u i q : Nat) (x own : ViewV) (zs : List ViewV) (ids : List Int) (g : Nat → Value)
end
section
variable (f fu fi b : Bool) (o U I : Blk) (n c u i q : Nat) (x own : ViewV) (zs : List ViewV) (ids : List Int) (g : Nat → Value)
end
end Go.Proofs.Ytgeoommlmddgpaa.LtA
namespace Go.Proofs.Ytgeoommlmddgpaa.LtA
open Go Go.Proofs Go.Proofs.Ytgeoommlmddgpaa.AI Go.RowKit Go.Proofs.Ytgeoommlmddgpaa.Sort

section
variable (f fu : Bool) (o U : Blk) (n c u i : Nat) (lt lo lr keep : Int) (x : ViewV) (zs : List ViewV) (g : Nat → Value)
end
theorem map_fold {α β : Type} {m : α → β} : ∀ {vs : List α} {us : List β}, vs.foldl (fun us x => us ++ [m x]) us = us ++ vs.map m
  | [], us => by simp
  | v :: vs, us => by rw [List.foldl_cons, map_fold]; simp
end Go.Proofs.Ytgeoommlmddgpaa.LtA
namespace Go.Proofs.Ytgeoommlmddgpaa.LtA
open Go Go.Proofs Go.Proofs.Ytgeoommlmddgpaa.AI Go.RowKit Go.Proofs.Ytgeoommlmddgpaa.Sort

noncomputable def E23 : Ext := extH Try.prog []
theorem E23_ok : ExtOk Try.prog E23 := extH_ok (.nil)
noncomputable def c23 : CallF := aCall Try.prog E23 60
theorem c23_ok : CallOk Try.prog c23 := aCall_sound E23_ok follows 60
noncomputable def fb23 : Code := (Try.f14.body).getD .skip
noncomputable def p23 : Nat → Code
  | 0 => fb23
  | n + 1 => sR (p23 n)
noncomputable def c23a : Code := sL (p23 0)
noncomputable def c23b : Code := sL (p23 1)
noncomputable def c23c : Code := sL (sL (p23 2))
noncomputable def c23d : Code := unL (unB (sR (sL (p23 2))))
noncomputable def c23e : Code := p23 3
noncomputable abbrev code23 : Code := .seq c23a (.seq c23b (.seq (.seq c23c (.block 0 (.loop c23d))) c23e))
theorem body23 : Try.f14.body = some code23 := by kernel_rfl
theorem ntmps23 : Try.f14.ntmps = 26 := by kernel_rfl
theorem s23 : codeSafe Try.prog 26 code23 = true := by kernel_rfl
theorem s23a : codeSafe Try.prog 26 c23a = true := by kernel_rfl
theorem s23b : codeSafe Try.prog 26 c23b = true := by kernel_rfl
theorem s23c : codeSafe Try.prog 26 c23c = true := by kernel_rfl
theorem s23d : codeSafe Try.prog 26 c23d = true := by kernel_rfl
theorem s23e : codeSafe Try.prog 26 c23e = true := by kernel_rfl
theorem q23 (v : Value) (O : List Blk) (g : Nat → Value) : retVal Try.prog Try.f14 (stOf 26 g [(4, v)] O) = some v := by kernel_rfl
section
variable (A B : Blk) (n i : Nat) (z : Int) (g : Nat → Value)
theorem r23a : (execE Try.prog c23 [] [] [] 20 c23a ⟨tmsOf [newI 0 n, newI 1 n] 0 .leaf, heapOf [A, B, .dead] hp0, []⟩).map (fun z => (look2 2 [0, 1] [0, 1] (z.1, z.2.1), z.2.2)) =
    some ((.normal, [A, B], [(0, newI 0 n), (1, newI 1 n)], true), [], [], []) := by kernel_rfl
theorem r23b : (execE Try.prog c23 [(10, .bool false)] [] [] 20 c23b (stOf 26 g [(0, newI 0 n), (1, newI 1 n)] [A, B])).map (fun z => (look2 2 [0, 1] [0, 1] (z.1, z.2.1), z.2.2)) =
    some ((.normal, [A, B], [(0, newI 0 n), (1, newI 1 n)], true), [(some (.bool (Int.ofNat n != Int.ofNat n)), .bool false)], [], []) := by kernel_rfl
theorem r23c : (execE Try.prog c23 [] [] [] 20 c23c (stOf 26 g [(0, newI 0 n), (1, newI 1 n)] [A, B])).map (fun z => (look2 2 [0, 1] [0, 1, 5] (z.1, z.2.1), z.2.2)) =
    some ((.normal, [A, B], [(0, newI 0 n), (1, newI 1 n), (5, iN 0)], true), [], [], []) := by kernel_rfl
abbrev L23 (i : Nat) (g : Nat → Value) : St := (stOf 26 g [(0, newI 0 n), (1, newI 1 n), (5, iN i)] [A, B])
theorem r23x : (execE Try.prog c23 [(14, .bool false)] [] [] 20 c23d (L23 A B n i g)).map (fun z => (look2 0 [] [] (z.1, z.2.1), z.2.2)) =
    some ((.exit 0, [], [], true), [ltO i n false], [], []) := by kernel_rfl
theorem r23s : (execE Try.prog c23 [(14, .bool true), (19, pb 0 i), (20, .int .i64 z), (23, pb 1 i), (24, .int .i64 z), (25, .bool false), (16, iN (i + 1))] [] [] 20 c23d (L23 A B n i g)).map (fun z => (look2 2 [0, 1] [0, 1, 5] (z.1, z.2.1), z.2.2)) =
    some ((.normal, [A, B], [(0, newI 0 n), (1, newI 1 n), (5, iN (i + 1))], true), [ltO i n true, ixI 0 n i, ldO (h84 A B).get 3 0 i (.int .i64 z), ixI 1 n i, ldO (h84 A B).get 3 1 i (.int .i64 z), (some (.bool (z != z)), .bool false), nxt29 i], [], []) := by kernel_rfl
theorem r23e : (execE Try.prog c23 [] [] [] 20 c23e (stOf 26 g [] [])).map (fun z => (look2 0 [] [4] (z.1, z.2.1), z.2.2)) =
    some ((.ret, [], [(4, .bool true)], true), [], [], []) := by kernel_rfl
theorem n23 : (execQ Try.prog c23 [] 40 code23 ⟨tmsOf [nilS, nilS] 0 .leaf, heapOf [.dead] hp0, []⟩).map (fun y => (look2 0 [] [4] (y.1, y.2.1), y.2.2)) = some ((.ret, [], [(4, .bool true)], true), []) := by kernel_rfl
end
def Ends23 (e : Exit) (st : St) : Prop := e = .ret ∧ ∃ g, st = stOf 26 g [(4, .bool true)] []
theorem fr23 (A B : Blk) (us : List Int) (hA : IsI A us) (hB : IsI B us) (hn : us.length < 1000000) (W : Base) :
    FRwp Try.prog 26 W code23 ⟨tmsOf [newI 0 us.length, newI 1 us.length] 0 .leaf, heapOf [A, B, .dead] hp0, []⟩ Ends23 := by
  have fx : ∀ r : List Blk, ∀ i, i < 2 → ∀ o', (A :: B :: r)[i]? = some o' → Fixed 0 o' := fixOO hA.inert hB.inert
  have gA : (h84 A B).get 0 = some A := by unfold h84; rw [heapOf0_get]; rfl
  have gB : (h84 A B).get 1 = some B := by unfold h84; rw [heapOf0_get]; rfl
  refine FRwp.seq (Q1 := fun e st => e = .normal ∧ ∃ g, st = stOf 26 g [(0, newI 0 us.length), (1, newI 1 us.length)] [A, B]) (FRwp.pieceY c23_ok follows 2 _ _ _ _ (r23a A B us.length) Met.nil MetH.nil MetE.nil s23a rfl rfl (fx []) fun g => ⟨rfl, g, rfl⟩) ?_ (fun x st hne hq => absurd hq.1 hne)
  rintro st ⟨-, g, rfl⟩
  refine FRwp.seq (Q1 := fun e st => e = .normal ∧ ∃ g, st = stOf 26 g [(0, newI 0 us.length), (1, newI 1 us.length)] [A, B]) (FRwp.pieceY c23_ok follows 2 _ _ _ _ (r23b A B us.length g) (Met.cons (bool_ok (by simp)) Met.nil) MetH.nil MetE.nil s23b rfl rfl (fx []) fun g => ⟨rfl, g, rfl⟩) ?_ (fun x st hne hq => absurd hq.1 hne)
  rintro st ⟨-, g, rfl⟩
  refine FRwp.seq (Q1 := fun e st => e = .normal ∧ ∃ g, st = stOf 26 g [] []) ?_ ?_ (fun x st hne hq => absurd hq.1 hne)
  · refine FRwp.seq (Q1 := fun e st => e = .normal ∧ ∃ g, st = L23 A B us.length 0 g) (FRwp.pieceY c23_ok follows 2 _ _ _ _ (r23c A B us.length g) Met.nil MetH.nil MetE.nil s23c rfl rfl (fx []) fun g => ⟨rfl, g, rfl⟩) ?_ (fun x st hne hq => absurd hq.1 hne)
    rintro st ⟨-, g, rfl⟩
    refine fold_loop' (vs := us) (fun _ _ => ()) () (fun _ i g => L23 A B us.length i g) (fun _ st => ∃ g, st = stOf 26 g [] []) (fun a g hf => ?_) (fun i x a g hx hlt hf => ?_) g
    · exact FRwp.pieceY c23_ok follows 0 _ _ _ _ (r23x A B us.length us.length g) (Met.cons (ltO_ok (by simp)) Met.nil) MetH.nil MetE.nil s23d rfl rfl (noFix _) fun g' => ⟨rfl, g', rfl⟩
    · exact FRwp.pieceY c23_ok follows 2 _ _ _ _ (r23s A B us.length i x g) (Met.cons (ltO_ok (decide_eq_true hlt)) (Met.cons (ixI_ok hlt) (Met.cons (ldA_ok hA gA hx) (Met.cons (ixI_ok hlt) (Met.cons (ldA_ok hB gB hx) (Met.cons (bool_ok (by simp)) (Met.cons (wrap_up (by omega)) Met.nil))))))) MetH.nil MetE.nil s23d rfl rfl (fx []) fun g' => ⟨rfl, g', rfl⟩
  · rintro st ⟨-, g, rfl⟩
    exact FRwp.pieceY c23_ok follows 0 _ _ _ _ (r23e g) Met.nil MetH.nil MetE.nil s23e rfl rfl (noFix _) fun g => ⟨rfl, g, rfl⟩
/-- Two rows of ints that are alike. -/
def SI (us : List Int) (s t : Value) (hp : Hp) : Prop :=
  (s = nilS ∧ t = nilS) ∨ ∃ b1 b2, s = newI b1 us.length ∧ t = newI b2 us.length ∧ b1 ≠ b2 ∧ hp.get b1 = some (iB us) ∧ hp.get b2 = some (iB us)
open Classical in
noncomputable def gSI : HeapFn := fun args hp => match args with
  | [s, t] => if ∃ us, us.length < 1000000 ∧ SI us s t hp then some (.bool true, heapOf ([] ++ [.dead]) hp) else none
  | _ => none
theorem hkSI : CallGoal Try.prog 14 gSI := scan_goal follows Try.func14 body23 (by kernel_rfl) fun args hp v hp' h hk => by
  unfold gSI at h
  rw [ntmps23]
  split at h
  case h_2 => cases h
  rename_i s t
  split at h
  case isFalse => cases h
  rename_i hT
  obtain ⟨us, hn, hT⟩ := hT
  cases h
  have fin : ∀ {e : Exit} {st : St}, Ends23 e st → (e = .normal ∨ e = .ret) ∧ st.df = [] ∧ ∃ v0, retVal Try.prog Try.f14 st = some v0 ∧ ok3 v0 = true ∧
      (∀ b ∈ ([] : List Nat), ∃ o, st.hp.get b = some o ∧ okBlk o = true ∧ rwB o = true) ∧ .bool true = sh3 [] hp.sz v0 ∧ [] = outOf [] hp.sz st.hp := by
    rintro e st ⟨rfl, g, rfl⟩
    exact ⟨.inr rfl, rfl, _, q23 _ _ g, rfl, (fun b hb => by cases hb), rfl, rfl⟩
  rcases hT with ⟨rfl, rfl⟩ | ⟨b1, b2, rfl, rfl, hne, h1, h2⟩
  · refine ⟨[], [], [], rfl, rfl, rfl, rfl, (fun b hb => by cases hb), rfl, (by simp), fun W => ?_⟩
    have e1 : [nilS, nilS].map (sh3 [] 0) = [nilS, nilS] := by simp [sh3, sh2, sh1, nilS]
    rw [e1]
    exact FRwp.piece c23_ok follows 0 _ _ _ _ n23 Met.nil s23 rfl rfl rfl (noFix _) fun g => fin ⟨rfl, g, rfl⟩
  · have hbe : Nat.beq b1 b2 = false := by
      cases e : Nat.beq b1 b2 with
      | false => rfl
      | true => exact absurd (Nat.eq_of_beq_eq_true e) hne
    refine ⟨[b1, b2], [], [], rfl, rfl, by simp [nodupB, hbe], rfl, fun b' hb' => ?_, rfl, (by simp), fun W => ?_⟩
    · have : b' = b1 ∨ b' = b2 := by simpa using hb'
      rcases this with rfl | rfl
      · exact ⟨_, h1, inert_start (iB_inert _)⟩
      · exact ⟨_, h2, inert_start (iB_inert _)⟩
    · have e1 : [newI b1 us.length, newI b2 us.length].map (sh3 [b1, b2] 0) = [newI 0 us.length, newI 1 us.length] := by simp [sh3, sh2, sh1, rho, idxOf, newI, hbe]
      have e2 : startHp [b1, b2] hp = heapOf [.cells 3 (us.map icell) true, .cells 3 (us.map icell) true, .dead] hp0 := start2 h1 h2 (iB_inert _) (iB_inert _)
      rw [e1, e2]
      exact FRwp.mono (fr23 (.cells 3 (us.map icell) true) (.cells 3 (us.map icell) true) us ⟨3, true, rfl⟩ ⟨3, true, rfl⟩ hn W) fun e st q => fin q
open Classical in
theorem gSI_of {us : List Int} {hp : Hp} {b1 b2 : Nat} (hne : b1 ≠ b2) (h1 : hp.get b1 = some (ownI us)) (h2 : hp.get b2 = some (ownI us)) (hn : us.length < 1000000) : gSI [rowIv us b1, rowIv us b2] hp = some (.bool true, heapOf [.dead] hp) := by
  have h : SI us (rowIv us b1) (rowIv us b2) hp := by
    cases us with
    | nil => exact .inl ⟨rfl, rfl⟩
    | cons i us => exact .inr ⟨b1, b2, rfl, rfl, hne, h1, h2⟩
  unfold gSI
  simp only
  rw [if_pos ⟨us, hn, h⟩]
  rfl
/-! ### From the left is from the right -/
end Go.Proofs.Ytgeoommlmddgpaa.LtA
namespace Go.Proofs.Ytgeoommlmddgpaa.LtA
open Go Go.Proofs Go.Proofs.Ytgeoommlmddgpaa.AI Go.RowKit Go.Proofs.Ytgeoommlmddgpaa.Sort

section
variable (o : Blk) (s : Value) (n : Nat) (own y : ViewV) (b : Bool) (lt lo lr keep : Int) (v1 w1 w2 w3 w4 v2 v3 : Value) (B1 B2 B3 B4 B5 B6 B7 : Blk)
end
section
variable (o : Blk) (own y : ViewV) (lt lo lr : Int) (B1 B2 B3 B4 B5 B6 B7 : Blk)
end
section
variable (o : Blk) (s : Value) (n : Nat) (own y : ViewV) (b : Bool) (lt lo lr keep : Int) (v1 w1 w2 w3 w4 v2 v3 : Value) (B1 B2 B3 B4 B5 B6 B7 : Blk)
end
end Go.Proofs.Ytgeoommlmddgpaa.LtA
namespace Go.Proofs.Ytgeoommlmddgpaa.LtA
open Go Go.Proofs Go.Proofs.Ytgeoommlmddgpaa.AI Go.RowKit Go.Proofs.Ytgeoommlmddgpaa.Sort Go.ChangeShapes

end Go.Proofs.Ytgeoommlmddgpaa.LtA
