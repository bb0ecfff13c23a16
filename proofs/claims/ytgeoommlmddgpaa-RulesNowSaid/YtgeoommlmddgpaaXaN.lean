/- rules.Case: told. -/
import Derived.Test.YtgeoommlmddgpaaXaM
import Derived.Test.YtgeoommlmddgpaaXaI
set_option linter.unusedVariables false
set_option linter.unusedSimpArgs false
set_option maxRecDepth 100000
namespace Go.Proofs.Ytgeoommlmddgpaa.LtL
open Go Go.Proofs Go.Proofs.Ytgeoommlmddgpaa.AI Go.RowKit Go.Proofs.Ytgeoommlmddgpaa.Sort Go.Proofs.Ytgeoommlmddgpaa.LtA

/-! ### Functions whose second argument is a row -/
structure RowRun2 (fn : Func) (code : Code) (N : Nat) (vs : List ViewV) (a0 : Value) (rest : List Value) (v0 : Value) : Prop where
  okv : ok3 v0 = true
  flat0 : stay a0
  flat : ∀ r ∈ rest, stay r
  len : rest.length + 2 ≤ N
  run : ∀ f o c W, inertB o = true → (vs = [] ∨ ∃ ty ro, o = .cells ty (vrow vs) ro) → (f = false → vs = [] ∧ o = .dead) → FRwp Try.prog N W code ⟨tmsOf (a0 :: vS f 0 vs.length c :: rest) 0 .leaf, hS f o, []⟩ (FinR fn v0 [])
open Classical in
noncomputable def toldR2 (A : List ViewV → Value → List Value → Option Value) : HeapFn := fun args hp => match args with
  | a :: s :: rest => if h : ∃ vs, TN vs s hp ∧ vs.length < 1000000 then (A h.choose a rest).map fun v => (sh3 [] hp.sz v, heapOf [.dead] hp) else none
  | _ => none
theorem toldR2_goal {A : List ViewV → Value → List Value → Option Value} {f : FuncId} {fn : Func} {code : Code} {N : Nat} (hf : Try.prog.funcs[f]? = some fn) (hb : fn.body = some code) (hnm : (fn.name == "runtime.NumGoroutine") = false) (hN : fn.ntmps = N)
    (H : ∀ vs, vs.length < 1000000 → ∀ a rest v0, A vs a rest = some v0 → RowRun2 fn code N vs a rest v0) : CallGoal Try.prog f (toldR2 A) := scan_goal follows hf hb hnm fun args hp v hp' h hk => by
  rw [hN]
  unfold toldR2 at h
  split at h
  case h_2 => cases h
  rename_i a s rest
  split at h
  case isFalse => cases h
  rename_i hx
  obtain ⟨hT, hn⟩ := hx.choose_spec
  generalize hx.choose = vs at *
  obtain ⟨v0, hA, h2⟩ := Option.map_eq_some_iff.1 h
  cases h2
  have R := H vs hn a rest v0 hA
  have run : ∃ (K0 : List Nat), nodupB K0 = true ∧ (∀ b ∈ K0, ∃ o, hp.get b = some o ∧ startOk o = true) ∧ (a :: s :: rest).all ok3 = true ∧ ∀ W, FRwp Try.prog N W code ⟨tmsOf ((a :: s :: rest).map (sh3 K0 0)) 0 .leaf, startHp K0 hp, []⟩ (FinR fn v0 []) := by
    rcases hT with ⟨rfl, rfl⟩ | ⟨b, c, ob, rfl, hb, hi, hr⟩
    · refine ⟨[], rfl, (fun b hb => by cases hb), (by rw [List.all_cons, List.all_cons, R.flat0.1, stay_all R.flat]; rfl), fun W => ?_⟩
      have e1 : (a :: nilS :: rest).map (sh3 [] 0) = a :: nilS :: rest := by rw [List.map_cons, List.map_cons, R.flat0.2, stay_map R.flat]; simp [sh3, sh2, sh1, nilS]
      rw [e1]
      exact R.run false .dead 0 W rfl (.inl rfl) fun _ => ⟨rfl, rfl⟩
    · refine ⟨[b], rfl, fun b' hb' => ?_, (by rw [List.all_cons, List.all_cons, R.flat0.1, stay_all R.flat]; rfl), fun W => ?_⟩
      · have : b' = b := by simpa using hb'
        subst this
        exact ⟨ob, hb, inert_start hi⟩
      · have e1 : (a :: rowS b vs.length c :: rest).map (sh3 [b] 0) = a :: rowS 0 vs.length c :: rest := by rw [List.map_cons, List.map_cons, R.flat0.2, stay_map R.flat]; simp [sh3, sh2, sh1, rho, idxOf, rowS]
        rw [e1, start1 hb hi]
        exact R.run true (roBlk ob) c W (ro_inert hi) (ro_row hr) fun h => by cases h
  obtain ⟨K0, n0, hst, hall, hrun⟩ := run
  refine ⟨K0, [], [], rfl, by simp, n0, rfl, hst, hall, (by have := R.len; simpa using this), fun W => FRwp.mono (hrun W) fun e st q => ?_⟩
  obtain ⟨q1, q2, q3, q4⟩ := q
  exact ⟨q1, q2, v0, q3, R.okv, (fun b' hb' => by cases hb'), rfl, rfl⟩
theorem toldR2_of {A : List ViewV → Value → List Value → Option Value} {vs : List ViewV} {a s : Value} {rest : List Value} {hp : Hp} {v0 : Value} (h : TN vs s hp) (hn : vs.length < 1000000) (hA : A vs a rest = some v0) (hv : sh3 [] hp.sz v0 = v0) :
    toldR2 A (a :: s :: rest) hp = some (v0, heapOf [.dead] hp) := by
  unfold toldR2
  have hx : ∃ vs, TN vs s hp ∧ vs.length < 1000000 := ⟨vs, h, hn⟩
  simp only
  rw [dif_pos hx, hx.choose_spec.1.uniq h, hA]
  show some (sh3 [] hp.sz v0, _) = _
  rw [hv]
/-! ### What Case says -/
abbrev Res := ViewV × Int × Int
def resV (r : Res) : Value := .tuple #[hcA r.1, .int .i64 r.2.1, .int .i64 r.2.2]
def zH : ViewV := ⟨0, false, 0, 0, 0, 0, 0⟩
def nullV (me : Int) : ViewV := ⟨0, true, 0, 0, 0, 0, me⟩
/-- A height, if it is right. -/
def atC (c t o r d i : Int) : Res := bif (chk false t o r d i) != Int.ofNat 0 then (zH, 0, chk false t o r d i) else (⟨0, false, t, o, r, d, i⟩, c, 0)
def caseT (own : ViewV) (k : Nat) (top : Lev) (lst now : Int) (lost : Bool) : Res :=
  bif !lost then (bif !(decide (Int.ofNat k > Int.ofNat 1)) then (bif !(top.2.2 == Int.ofNat 0) then (bif !(top.2.1 == own.i) then atC 5 now own.i (Int.ofNat 0) (Int.ofNat 0) own.i else (nullV own.i, 4, 0)) else atC 3 top.1 top.2.1 (Int.ofNat 1) (Int.ofNat 0) own.i) else atC 2 top.1 top.2.1 top.2.2 (wrapF .i64 (lst - Int.ofNat 1)) own.i) else atC 1 now own.i (Int.ofNat 0) (Int.ofNat 0) own.i
def caseV (bad : Bool) (own : ViewV) (rb dn : Bool) (ls : List Lev) (lst : Lev → Int) (now : Int) (lost : Bool) : Res :=
  bif bad then (zH, 0, 1) else bif !rb then (zH, 0, 1) else bif decide (now < Int.ofNat 0) then (zH, 0, 1) else bif decide (now > Int.ofNat 4611686018427387903) then (zH, 0, 1) else
  bif own.n then (own, 0, 0) else bif dn then (own, 0, 0) else
  match ls.getLast? with
  | none => (nullV own.i, 6, 0)
  | some top => caseT own ls.length top (lst top) now lost
/-- What Case says of views. -/
def caseR (own : ViewV) (vs : List ViewV) (now : Int) (lost : Bool) : Res := caseV ((chk own.n own.t own.o own.r own.d own.i) != Int.ofNat 0) own (rightB vs) (!(idsD 1 own vs).isEmpty) (dlev (levsV vs)) (fun y => lstV y vs) now lost
theorem lidxh {b c m i : Nat} (h : i < m) : fstV ((aIndexAddr Try.prog 34 (.slice (some ⟨b, 0, none⟩) m c) (iN i)).map fun v => (v, none)) = some (pb b (i * 3)) := by
  have h1 : (0 : Int) ≤ Int.ofNat i ∧ Int.ofNat i < (m : Int) := ⟨Int.natCast_nonneg i, by simpa using h⟩
  simp only [aIndexAddr, iN, Try.underlying34, sizeL]
  rw [if_pos h1]
  simp [fstV, pb]
theorem pos1 (m : Nat) : decide ((Int.ofNat (m + 1)) > (Int.ofNat 0)) = true := decide_eq_true (by simp only [Int.ofNat_eq_natCast]; omega)
theorem nz1 (m : Nat) : (!((Int.ofNat (m + 1)) == (Int.ofNat 0))) = true := by
  have : (Int.ofNat (m + 1) == Int.ofNat 0) = false := beq_false_of_ne (by simp only [Int.ofNat_eq_natCast]; omega)
  rw [this]; rfl
theorem qC (v w : Value) (b : Bool) (t o r d i : Int) (g : Nat → Value) : retVal Try.prog Try.f31 (stOf 105 g [(8, pb 0 0), (9, v), (10, w)] [.cells 24 [.bool b, .int .i64 t, .int .i64 o, .int .i64 r, .int .i64 d, .int .i64 i] false]) = some (.tuple #[.agg #[.bool b, .int .i64 t, .int .i64 o, .int .i64 r, .int .i64 d, .int .i64 i], v, w]) := by kernel_rfl
theorem finC {st : St} {v0 : Value} {v w : Value} {b : Bool} {t o r d i : Int} {g : Nat → Value} (h : st = stOf 105 g [(8, pb 0 0), (9, v), (10, w)] [.cells 24 [.bool b, .int .i64 t, .int .i64 o, .int .i64 r, .int .i64 d, .int .i64 i] false]) (hv : Value.tuple #[.agg #[.bool b, .int .i64 t, .int .i64 o, .int .i64 r, .int .i64 d, .int .i64 i], v, w] = v0) : FinR Try.f31 v0 [] .ret st := by
  subst h
  subst hv
  exact ⟨.inr rfl, rfl, qC _ _ _ _ _ _ _ _ g, fun B hB => by cases hB⟩
macro "fcase" : tactic => `(tactic| (exact finC rfl (by (conv => rhs; unfold caseV; simp only [*, List.getLast?_nil, cond_true, cond_false, Bool.not_true, Bool.not_false]); first | rfl | ((conv => rhs; unfold caseT; simp only [*, cond_true, cond_false]); first | rfl | ((conv => rhs; unfold atC; simp only [*, cond_true, cond_false]); rfl)))))
set_option simprocs false
set_option maxHeartbeats 4000000
section
variable (W : Base) (o : Blk) (n c m q : Nat) (now lst : Int) (lost : Bool) (own : ViewV) (top : Lev) (ls : List Lev) (ds : List Int)
theorem caLDt_fr (hck : ∀ {hp : Hp}, (hp.get 0 = some o) → G18M [rowS 0 n c] hp = some (iN 0, heapOf [.dead] hp)) (hlv : ∀ {hp : Hp}, (hp.get 0 = some o) → GLv [rowS 0 n c] hp = some (.slice (some ⟨hp.sz, 0, none⟩) (m + 1) 11, heapOf [ownL ls, .dead] hp)) (hdn : ∀ {hp : Hp}, (hp.get 0 = some o) → G19 [rowS 0 n c, hcA own] hp = some (.slice (some ⟨hp.sz, 0, none⟩) (q + 1) 4, heapOf [ownI ds, .dead] hp)) (hls : ∀ {hp : Hp}, (hp.get 0 = some o) → G67m [rowS 0 n c, lA top] hp = some (.int .i64 lst, heapOf [.dead] hp)) (hm : m < 1000000) (hlen : ls.length = m + 1) (hlast : ls.getLast? = some top) (hget : ls[m]? = some top) : FRwp Try.prog 105 W fb31c ⟨tmsOf [hcA own, rowS 0 n c, .int .i64 now, .bool lost] 0 .leaf, heapOf [o, .dead] hp0, []⟩ (FinR Try.f31 (resV (caseV ((chk own.n own.t own.o own.r own.d own.i) != Int.ofNat 0) own true true ls (fun _ => lst) now lost)) []) := by
  cases h_9 : ((chk own.n own.t own.o own.r own.d own.i) != (Int.ofNat 0)) with
  | true =>
    exact FRwp.pieceN E31c_ok follows 60 0 _ _ _ _ (caLDt_0 o n c m q now lst lost own top ls ds (fun _ => nilS)) (Met.cons (bool_ok h_9) Met.nil) (MetH.nil) (MetE.nil) s31c rfl rfl (noFix _) fun g => by fcase
  | false =>
    cases h_17 : (decide (now < (Int.ofNat 0))) with
    | true =>
      exact FRwp.pieceN E31c_ok follows 60 0 _ _ _ _ (caLDt_1 o n c m q now lst lost own top ls ds (fun _ => nilS)) (Met.cons (bool_ok h_17) (Met.cons (bool_ok h_9) Met.nil)) (MetH.cons (hck (by first | (rw [heapOf0_get]; rfl) | rfl)) MetH.nil) (MetE.nil) s31c rfl rfl (noFix _) fun g => by fcase
    | false =>
      cases h_21 : (decide (now > (Int.ofNat 4611686018427387903))) with
      | true =>
        exact FRwp.pieceN E31c_ok follows 60 0 _ _ _ _ (caLDt_2 o n c m q now lst lost own top ls ds (fun _ => nilS)) (Met.cons (bool_ok h_21) (Met.cons (bool_ok h_17) (Met.cons (bool_ok h_9) Met.nil))) (MetH.cons (hck (by first | (rw [heapOf0_get]; rfl) | rfl)) MetH.nil) (MetE.nil) s31c rfl rfl (noFix _) fun g => by fcase
      | false =>
        cases h_90 : own.n with
        | true =>
          exact FRwp.pieceN E31c_ok follows 60 0 _ _ _ _ (caLDt_3 o n c m q now lst lost own top ls ds (fun _ => nilS)) (Met.cons (rfl) (Met.cons (bool_ok h_90) (Met.cons (by first | exact lidxh (Nat.lt_succ_self _) | (refine lloadb (us := ls) ?_ hget; rw [heapOf0_get]; rfl)) (Met.cons (by first | exact lidxh (Nat.lt_succ_self _) | (refine lloadb (us := ls) ?_ hget; rw [heapOf0_get]; rfl)) (Met.cons ((wrap_down (by omega))) (Met.cons (bool_ok (pos1 m)) (Met.cons (bool_ok h_21) (Met.cons (bool_ok h_17) (Met.cons (bool_ok h_9) Met.nil))))))))) (MetH.cons (hlv (by first | (rw [heapOf0_get]; rfl) | rfl)) (MetH.cons (hck (by first | (rw [heapOf0_get]; rfl) | rfl)) MetH.nil)) (MetE.nil) s31c rfl rfl (noFix _) fun g => by fcase
        | false =>
          exact FRwp.pieceN E31c_ok follows 60 0 _ _ _ _ (caLDt_4 o n c m q now lst lost own top ls ds (fun _ => nilS)) (Met.cons (rfl) (Met.cons (bool_ok (pos1 q)) (Met.cons (bool_ok h_90) (Met.cons (by first | exact lidxh (Nat.lt_succ_self _) | (refine lloadb (us := ls) ?_ hget; rw [heapOf0_get]; rfl)) (Met.cons (by first | exact lidxh (Nat.lt_succ_self _) | (refine lloadb (us := ls) ?_ hget; rw [heapOf0_get]; rfl)) (Met.cons ((wrap_down (by omega))) (Met.cons (bool_ok (pos1 m)) (Met.cons (bool_ok h_21) (Met.cons (bool_ok h_17) (Met.cons (bool_ok h_9) Met.nil)))))))))) (MetH.cons (hdn (by first | (rw [heapOf0_get]; rfl) | rfl)) (MetH.cons (hlv (by first | (rw [heapOf0_get]; rfl) | rfl)) (MetH.cons (hck (by first | (rw [heapOf0_get]; rfl) | rfl)) MetH.nil))) (MetE.nil) s31c rfl rfl (noFix _) fun g => by fcase

theorem caLt_fr (hck : ∀ {hp : Hp}, (hp.get 0 = some o) → G18M [rowS 0 n c] hp = some (iN 0, heapOf [.dead] hp)) (hlv : ∀ {hp : Hp}, (hp.get 0 = some o) → GLv [rowS 0 n c] hp = some (.slice (some ⟨hp.sz, 0, none⟩) (m + 1) 11, heapOf [ownL ls, .dead] hp)) (hdn : ∀ {hp : Hp}, (hp.get 0 = some o) → G19 [rowS 0 n c, hcA own] hp = some (nilS, heapOf [.dead, .dead] hp)) (hls : ∀ {hp : Hp}, (hp.get 0 = some o) → G67m [rowS 0 n c, lA top] hp = some (.int .i64 lst, heapOf [.dead] hp)) (hm : m < 1000000) (hlen : ls.length = m + 1) (hlast : ls.getLast? = some top) (hget : ls[m]? = some top) : FRwp Try.prog 105 W fb31c ⟨tmsOf [hcA own, rowS 0 n c, .int .i64 now, .bool lost] 0 .leaf, heapOf [o, .dead] hp0, []⟩ (FinR Try.f31 (resV (caseV ((chk own.n own.t own.o own.r own.d own.i) != Int.ofNat 0) own true false ls (fun _ => lst) now lost)) []) := by
  cases h_9 : ((chk own.n own.t own.o own.r own.d own.i) != (Int.ofNat 0)) with
  | true =>
    exact FRwp.pieceN E31c_ok follows 60 0 _ _ _ _ (caLt_0 o n c m 0 now lst lost own top ls [] (fun _ => nilS)) (Met.cons (bool_ok h_9) Met.nil) (MetH.nil) (MetE.nil) s31c rfl rfl (noFix _) fun g => by fcase
  | false =>
    cases h_17 : (decide (now < (Int.ofNat 0))) with
    | true =>
      exact FRwp.pieceN E31c_ok follows 60 0 _ _ _ _ (caLt_1 o n c m 0 now lst lost own top ls [] (fun _ => nilS)) (Met.cons (bool_ok h_17) (Met.cons (bool_ok h_9) Met.nil)) (MetH.cons (hck (by first | (rw [heapOf0_get]; rfl) | rfl)) MetH.nil) (MetE.nil) s31c rfl rfl (noFix _) fun g => by fcase
    | false =>
      cases h_21 : (decide (now > (Int.ofNat 4611686018427387903))) with
      | true =>
        exact FRwp.pieceN E31c_ok follows 60 0 _ _ _ _ (caLt_2 o n c m 0 now lst lost own top ls [] (fun _ => nilS)) (Met.cons (bool_ok h_21) (Met.cons (bool_ok h_17) (Met.cons (bool_ok h_9) Met.nil))) (MetH.cons (hck (by first | (rw [heapOf0_get]; rfl) | rfl)) MetH.nil) (MetE.nil) s31c rfl rfl (noFix _) fun g => by fcase
      | false =>
        cases h_90 : own.n with
        | true =>
          exact FRwp.pieceN E31c_ok follows 60 0 _ _ _ _ (caLt_3 o n c m 0 now lst lost own top ls [] (fun _ => nilS)) (Met.cons (rfl) (Met.cons (bool_ok h_90) (Met.cons (by first | exact lidxh (Nat.lt_succ_self _) | (refine lloadb (us := ls) ?_ hget; rw [heapOf0_get]; rfl)) (Met.cons (by first | exact lidxh (Nat.lt_succ_self _) | (refine lloadb (us := ls) ?_ hget; rw [heapOf0_get]; rfl)) (Met.cons ((wrap_down (by omega))) (Met.cons (bool_ok (pos1 m)) (Met.cons (bool_ok h_21) (Met.cons (bool_ok h_17) (Met.cons (bool_ok h_9) Met.nil))))))))) (MetH.cons (hlv (by first | (rw [heapOf0_get]; rfl) | rfl)) (MetH.cons (hck (by first | (rw [heapOf0_get]; rfl) | rfl)) MetH.nil)) (MetE.nil) s31c rfl rfl (noFix _) fun g => by fcase
        | false =>
          cases h_129 : (!lost) with
          | true =>
            cases h_145 : (!(decide ((Int.ofNat (m + 1)) > (Int.ofNat 1)))) with
            | true =>
              cases h_161 : (!(top.2.2 == (Int.ofNat 0))) with
              | true =>
                cases h_178 : (!(top.2.1 == own.i)) with
                | true =>
                  cases h_225 : ((chk false now own.i (Int.ofNat 0) (Int.ofNat 0) own.i) != (Int.ofNat 0)) with
                  | true =>
                    exact FRwp.pieceN E31c_ok follows 60 0 _ _ _ _ (caLt_4 o n c m 0 now lst lost own top ls [] (fun _ => nilS)) (Met.cons (bool_ok h_225) (Met.cons (bool_ok h_225) (Met.cons (bool_ok h_178) (Met.cons (bool_ok h_161) (Met.cons (bool_ok h_145) (Met.cons (bool_ok h_129) (Met.cons (bool_ok (nz1 m)) (Met.cons (bool_ok h_90) (Met.cons (by first | exact lidxh (Nat.lt_succ_self _) | (refine lloadb (us := ls) ?_ hget; rw [heapOf0_get]; rfl)) (Met.cons (by first | exact lidxh (Nat.lt_succ_self _) | (refine lloadb (us := ls) ?_ hget; rw [heapOf0_get]; rfl)) (Met.cons ((wrap_down (by omega))) (Met.cons (bool_ok (pos1 m)) (Met.cons (bool_ok h_21) (Met.cons (bool_ok h_17) (Met.cons (bool_ok h_9) Met.nil))))))))))))))) (MetH.cons (hdn (by first | (rw [heapOf0_get]; rfl) | rfl)) (MetH.cons (hlv (by first | (rw [heapOf0_get]; rfl) | rfl)) (MetH.cons (hck (by first | (rw [heapOf0_get]; rfl) | rfl)) MetH.nil))) (MetE.nil) s31c rfl rfl (noFix _) fun g => by fcase
                  | false =>
                    exact FRwp.pieceN E31c_ok follows 60 0 _ _ _ _ (caLt_5 o n c m 0 now lst lost own top ls [] (fun _ => nilS)) (Met.cons (rfl) (Met.cons (bool_ok h_225) (Met.cons (bool_ok h_178) (Met.cons (bool_ok h_161) (Met.cons (bool_ok h_145) (Met.cons (bool_ok h_129) (Met.cons (bool_ok (nz1 m)) (Met.cons (bool_ok h_90) (Met.cons (by first | exact lidxh (Nat.lt_succ_self _) | (refine lloadb (us := ls) ?_ hget; rw [heapOf0_get]; rfl)) (Met.cons (by first | exact lidxh (Nat.lt_succ_self _) | (refine lloadb (us := ls) ?_ hget; rw [heapOf0_get]; rfl)) (Met.cons ((wrap_down (by omega))) (Met.cons (bool_ok (pos1 m)) (Met.cons (bool_ok h_21) (Met.cons (bool_ok h_17) (Met.cons (bool_ok h_9) Met.nil))))))))))))))) (MetH.cons (hdn (by first | (rw [heapOf0_get]; rfl) | rfl)) (MetH.cons (hlv (by first | (rw [heapOf0_get]; rfl) | rfl)) (MetH.cons (hck (by first | (rw [heapOf0_get]; rfl) | rfl)) MetH.nil))) (MetE.nil) s31c rfl rfl (noFix _) fun g => by fcase
                | false =>
                  exact FRwp.pieceN E31c_ok follows 60 0 _ _ _ _ (caLt_6 o n c m 0 now lst lost own top ls [] (fun _ => nilS)) (Met.cons (rfl) (Met.cons (bool_ok h_178) (Met.cons (bool_ok h_161) (Met.cons (bool_ok h_145) (Met.cons (bool_ok h_129) (Met.cons (bool_ok (nz1 m)) (Met.cons (bool_ok h_90) (Met.cons (by first | exact lidxh (Nat.lt_succ_self _) | (refine lloadb (us := ls) ?_ hget; rw [heapOf0_get]; rfl)) (Met.cons (by first | exact lidxh (Nat.lt_succ_self _) | (refine lloadb (us := ls) ?_ hget; rw [heapOf0_get]; rfl)) (Met.cons ((wrap_down (by omega))) (Met.cons (bool_ok (pos1 m)) (Met.cons (bool_ok h_21) (Met.cons (bool_ok h_17) (Met.cons (bool_ok h_9) Met.nil)))))))))))))) (MetH.cons (hdn (by first | (rw [heapOf0_get]; rfl) | rfl)) (MetH.cons (hlv (by first | (rw [heapOf0_get]; rfl) | rfl)) (MetH.cons (hck (by first | (rw [heapOf0_get]; rfl) | rfl)) MetH.nil))) (MetE.nil) s31c rfl rfl (noFix _) fun g => by fcase
              | false =>
                cases h_188 : ((chk false top.1 top.2.1 (Int.ofNat 1) (Int.ofNat 0) own.i) != (Int.ofNat 0)) with
                | true =>
                  exact FRwp.pieceN E31c_ok follows 60 0 _ _ _ _ (caLt_7 o n c m 0 now lst lost own top ls [] (fun _ => nilS)) (Met.cons (bool_ok h_188) (Met.cons (bool_ok h_188) (Met.cons (bool_ok h_161) (Met.cons (bool_ok h_145) (Met.cons (bool_ok h_129) (Met.cons (bool_ok (nz1 m)) (Met.cons (bool_ok h_90) (Met.cons (by first | exact lidxh (Nat.lt_succ_self _) | (refine lloadb (us := ls) ?_ hget; rw [heapOf0_get]; rfl)) (Met.cons (by first | exact lidxh (Nat.lt_succ_self _) | (refine lloadb (us := ls) ?_ hget; rw [heapOf0_get]; rfl)) (Met.cons ((wrap_down (by omega))) (Met.cons (bool_ok (pos1 m)) (Met.cons (bool_ok h_21) (Met.cons (bool_ok h_17) (Met.cons (bool_ok h_9) Met.nil)))))))))))))) (MetH.cons (hdn (by first | (rw [heapOf0_get]; rfl) | rfl)) (MetH.cons (hlv (by first | (rw [heapOf0_get]; rfl) | rfl)) (MetH.cons (hck (by first | (rw [heapOf0_get]; rfl) | rfl)) MetH.nil))) (MetE.nil) s31c rfl rfl (noFix _) fun g => by fcase
                | false =>
                  exact FRwp.pieceN E31c_ok follows 60 0 _ _ _ _ (caLt_8 o n c m 0 now lst lost own top ls [] (fun _ => nilS)) (Met.cons (rfl) (Met.cons (bool_ok h_188) (Met.cons (bool_ok h_161) (Met.cons (bool_ok h_145) (Met.cons (bool_ok h_129) (Met.cons (bool_ok (nz1 m)) (Met.cons (bool_ok h_90) (Met.cons (by first | exact lidxh (Nat.lt_succ_self _) | (refine lloadb (us := ls) ?_ hget; rw [heapOf0_get]; rfl)) (Met.cons (by first | exact lidxh (Nat.lt_succ_self _) | (refine lloadb (us := ls) ?_ hget; rw [heapOf0_get]; rfl)) (Met.cons ((wrap_down (by omega))) (Met.cons (bool_ok (pos1 m)) (Met.cons (bool_ok h_21) (Met.cons (bool_ok h_17) (Met.cons (bool_ok h_9) Met.nil)))))))))))))) (MetH.cons (hdn (by first | (rw [heapOf0_get]; rfl) | rfl)) (MetH.cons (hlv (by first | (rw [heapOf0_get]; rfl) | rfl)) (MetH.cons (hck (by first | (rw [heapOf0_get]; rfl) | rfl)) MetH.nil))) (MetE.nil) s31c rfl rfl (noFix _) fun g => by fcase
            | false =>
              cases h_176 : ((chk false top.1 top.2.1 top.2.2 (wrapF .i64 (lst - (Int.ofNat 1))) own.i) != (Int.ofNat 0)) with
              | true =>
                exact FRwp.pieceN E31c_ok follows 60 0 _ _ _ _ (caLt_9 o n c m 0 now lst lost own top ls [] (fun _ => nilS)) (Met.cons (bool_ok h_176) (Met.cons (rfl) (Met.cons (rfl) (Met.cons (bool_ok h_176) (Met.cons (bool_ok h_145) (Met.cons (bool_ok h_129) (Met.cons (bool_ok (nz1 m)) (Met.cons (bool_ok h_90) (Met.cons (by first | exact lidxh (Nat.lt_succ_self _) | (refine lloadb (us := ls) ?_ hget; rw [heapOf0_get]; rfl)) (Met.cons (by first | exact lidxh (Nat.lt_succ_self _) | (refine lloadb (us := ls) ?_ hget; rw [heapOf0_get]; rfl)) (Met.cons ((wrap_down (by omega))) (Met.cons (bool_ok (pos1 m)) (Met.cons (bool_ok h_21) (Met.cons (bool_ok h_17) (Met.cons (bool_ok h_9) Met.nil))))))))))))))) (MetH.cons (hls (by first | (rw [heapOf0_get]; rfl) | rfl)) (MetH.cons (hdn (by first | (rw [heapOf0_get]; rfl) | rfl)) (MetH.cons (hlv (by first | (rw [heapOf0_get]; rfl) | rfl)) (MetH.cons (hck (by first | (rw [heapOf0_get]; rfl) | rfl)) MetH.nil)))) (MetE.nil) s31c rfl rfl (noFix _) fun g => by fcase
              | false =>
                exact FRwp.pieceN E31c_ok follows 60 0 _ _ _ _ (caLt_10 o n c m 0 now lst lost own top ls [] (fun _ => nilS)) (Met.cons (rfl) (Met.cons (rfl) (Met.cons (rfl) (Met.cons (bool_ok h_176) (Met.cons (bool_ok h_145) (Met.cons (bool_ok h_129) (Met.cons (bool_ok (nz1 m)) (Met.cons (bool_ok h_90) (Met.cons (by first | exact lidxh (Nat.lt_succ_self _) | (refine lloadb (us := ls) ?_ hget; rw [heapOf0_get]; rfl)) (Met.cons (by first | exact lidxh (Nat.lt_succ_self _) | (refine lloadb (us := ls) ?_ hget; rw [heapOf0_get]; rfl)) (Met.cons ((wrap_down (by omega))) (Met.cons (bool_ok (pos1 m)) (Met.cons (bool_ok h_21) (Met.cons (bool_ok h_17) (Met.cons (bool_ok h_9) Met.nil))))))))))))))) (MetH.cons (hls (by first | (rw [heapOf0_get]; rfl) | rfl)) (MetH.cons (hdn (by first | (rw [heapOf0_get]; rfl) | rfl)) (MetH.cons (hlv (by first | (rw [heapOf0_get]; rfl) | rfl)) (MetH.cons (hck (by first | (rw [heapOf0_get]; rfl) | rfl)) MetH.nil)))) (MetE.nil) s31c rfl rfl (noFix _) fun g => by fcase
          | false =>
            cases h_163 : ((chk false now own.i (Int.ofNat 0) (Int.ofNat 0) own.i) != (Int.ofNat 0)) with
            | true =>
              exact FRwp.pieceN E31c_ok follows 60 0 _ _ _ _ (caLt_11 o n c m 0 now lst lost own top ls [] (fun _ => nilS)) (Met.cons (bool_ok h_163) (Met.cons (bool_ok h_163) (Met.cons (bool_ok h_129) (Met.cons (bool_ok (nz1 m)) (Met.cons (bool_ok h_90) (Met.cons (by first | exact lidxh (Nat.lt_succ_self _) | (refine lloadb (us := ls) ?_ hget; rw [heapOf0_get]; rfl)) (Met.cons (by first | exact lidxh (Nat.lt_succ_self _) | (refine lloadb (us := ls) ?_ hget; rw [heapOf0_get]; rfl)) (Met.cons ((wrap_down (by omega))) (Met.cons (bool_ok (pos1 m)) (Met.cons (bool_ok h_21) (Met.cons (bool_ok h_17) (Met.cons (bool_ok h_9) Met.nil)))))))))))) (MetH.cons (hdn (by first | (rw [heapOf0_get]; rfl) | rfl)) (MetH.cons (hlv (by first | (rw [heapOf0_get]; rfl) | rfl)) (MetH.cons (hck (by first | (rw [heapOf0_get]; rfl) | rfl)) MetH.nil))) (MetE.nil) s31c rfl rfl (noFix _) fun g => by fcase
            | false =>
              exact FRwp.pieceN E31c_ok follows 60 0 _ _ _ _ (caLt_12 o n c m 0 now lst lost own top ls [] (fun _ => nilS)) (Met.cons (rfl) (Met.cons (bool_ok h_163) (Met.cons (bool_ok h_129) (Met.cons (bool_ok (nz1 m)) (Met.cons (bool_ok h_90) (Met.cons (by first | exact lidxh (Nat.lt_succ_self _) | (refine lloadb (us := ls) ?_ hget; rw [heapOf0_get]; rfl)) (Met.cons (by first | exact lidxh (Nat.lt_succ_self _) | (refine lloadb (us := ls) ?_ hget; rw [heapOf0_get]; rfl)) (Met.cons ((wrap_down (by omega))) (Met.cons (bool_ok (pos1 m)) (Met.cons (bool_ok h_21) (Met.cons (bool_ok h_17) (Met.cons (bool_ok h_9) Met.nil)))))))))))) (MetH.cons (hdn (by first | (rw [heapOf0_get]; rfl) | rfl)) (MetH.cons (hlv (by first | (rw [heapOf0_get]; rfl) | rfl)) (MetH.cons (hck (by first | (rw [heapOf0_get]; rfl) | rfl)) MetH.nil))) (MetE.nil) s31c rfl rfl (noFix _) fun g => by fcase

theorem caDt_fr (hck : ∀ {hp : Hp}, (hp.get 0 = some o) → G18M [rowS 0 n c] hp = some (iN 0, heapOf [.dead] hp)) (hlv : ∀ {hp : Hp}, (hp.get 0 = some o) → GLv [rowS 0 n c] hp = some (nilS, heapOf [.dead, .dead] hp)) (hdn : ∀ {hp : Hp}, (hp.get 0 = some o) → G19 [rowS 0 n c, hcA own] hp = some (.slice (some ⟨hp.sz, 0, none⟩) (q + 1) 4, heapOf [ownI ds, .dead] hp)) : FRwp Try.prog 105 W fb31c ⟨tmsOf [hcA own, rowS 0 n c, .int .i64 now, .bool lost] 0 .leaf, heapOf [o, .dead] hp0, []⟩ (FinR Try.f31 (resV (caseV ((chk own.n own.t own.o own.r own.d own.i) != Int.ofNat 0) own true true [] (fun _ => lst) now lost)) []) := by
  cases h_9 : ((chk own.n own.t own.o own.r own.d own.i) != (Int.ofNat 0)) with
  | true =>
    exact FRwp.pieceN E31c_ok follows 60 0 _ _ _ _ (caDt_0 o n c 0 q now lst lost own zl [] ds (fun _ => nilS)) (Met.cons (bool_ok h_9) Met.nil) (MetH.nil) (MetE.nil) s31c rfl rfl (noFix _) fun g => by fcase
  | false =>
    cases h_17 : (decide (now < (Int.ofNat 0))) with
    | true =>
      exact FRwp.pieceN E31c_ok follows 60 0 _ _ _ _ (caDt_1 o n c 0 q now lst lost own zl [] ds (fun _ => nilS)) (Met.cons (bool_ok h_17) (Met.cons (bool_ok h_9) Met.nil)) (MetH.cons (hck (by first | (rw [heapOf0_get]; rfl) | rfl)) MetH.nil) (MetE.nil) s31c rfl rfl (noFix _) fun g => by fcase
    | false =>
      cases h_21 : (decide (now > (Int.ofNat 4611686018427387903))) with
      | true =>
        exact FRwp.pieceN E31c_ok follows 60 0 _ _ _ _ (caDt_2 o n c 0 q now lst lost own zl [] ds (fun _ => nilS)) (Met.cons (bool_ok h_21) (Met.cons (bool_ok h_17) (Met.cons (bool_ok h_9) Met.nil))) (MetH.cons (hck (by first | (rw [heapOf0_get]; rfl) | rfl)) MetH.nil) (MetE.nil) s31c rfl rfl (noFix _) fun g => by fcase
      | false =>
        cases h_83 : own.n with
        | true =>
          exact FRwp.pieceN E31c_ok follows 60 0 _ _ _ _ (caDt_3 o n c 0 q now lst lost own zl [] ds (fun _ => nilS)) (Met.cons (rfl) (Met.cons (bool_ok h_83) (Met.cons (bool_ok h_21) (Met.cons (bool_ok h_17) (Met.cons (bool_ok h_9) Met.nil))))) (MetH.cons (hlv (by first | (rw [heapOf0_get]; rfl) | rfl)) (MetH.cons (hck (by first | (rw [heapOf0_get]; rfl) | rfl)) MetH.nil)) (MetE.nil) s31c rfl rfl (noFix _) fun g => by fcase
        | false =>
          exact FRwp.pieceN E31c_ok follows 60 0 _ _ _ _ (caDt_4 o n c 0 q now lst lost own zl [] ds (fun _ => nilS)) (Met.cons (rfl) (Met.cons (bool_ok (pos1 q)) (Met.cons (bool_ok h_83) (Met.cons (bool_ok h_21) (Met.cons (bool_ok h_17) (Met.cons (bool_ok h_9) Met.nil)))))) (MetH.cons (hdn (by first | (rw [heapOf0_get]; rfl) | rfl)) (MetH.cons (hlv (by first | (rw [heapOf0_get]; rfl) | rfl)) (MetH.cons (hck (by first | (rw [heapOf0_get]; rfl) | rfl)) MetH.nil))) (MetE.nil) s31c rfl rfl (noFix _) fun g => by fcase

theorem caNt_fr (hck : ∀ {hp : Hp}, (hp.get 0 = some o) → G18M [rowS 0 n c] hp = some (iN 0, heapOf [.dead] hp)) (hlv : ∀ {hp : Hp}, (hp.get 0 = some o) → GLv [rowS 0 n c] hp = some (nilS, heapOf [.dead, .dead] hp)) (hdn : ∀ {hp : Hp}, (hp.get 0 = some o) → G19 [rowS 0 n c, hcA own] hp = some (nilS, heapOf [.dead, .dead] hp)) : FRwp Try.prog 105 W fb31c ⟨tmsOf [hcA own, rowS 0 n c, .int .i64 now, .bool lost] 0 .leaf, heapOf [o, .dead] hp0, []⟩ (FinR Try.f31 (resV (caseV ((chk own.n own.t own.o own.r own.d own.i) != Int.ofNat 0) own true false [] (fun _ => lst) now lost)) []) := by
  cases h_9 : ((chk own.n own.t own.o own.r own.d own.i) != (Int.ofNat 0)) with
  | true =>
    exact FRwp.pieceN E31c_ok follows 60 0 _ _ _ _ (caNt_0 o n c 0 0 now lst lost own zl [] [] (fun _ => nilS)) (Met.cons (bool_ok h_9) Met.nil) (MetH.nil) (MetE.nil) s31c rfl rfl (noFix _) fun g => by fcase
  | false =>
    cases h_17 : (decide (now < (Int.ofNat 0))) with
    | true =>
      exact FRwp.pieceN E31c_ok follows 60 0 _ _ _ _ (caNt_1 o n c 0 0 now lst lost own zl [] [] (fun _ => nilS)) (Met.cons (bool_ok h_17) (Met.cons (bool_ok h_9) Met.nil)) (MetH.cons (hck (by first | (rw [heapOf0_get]; rfl) | rfl)) MetH.nil) (MetE.nil) s31c rfl rfl (noFix _) fun g => by fcase
    | false =>
      cases h_21 : (decide (now > (Int.ofNat 4611686018427387903))) with
      | true =>
        exact FRwp.pieceN E31c_ok follows 60 0 _ _ _ _ (caNt_2 o n c 0 0 now lst lost own zl [] [] (fun _ => nilS)) (Met.cons (bool_ok h_21) (Met.cons (bool_ok h_17) (Met.cons (bool_ok h_9) Met.nil))) (MetH.cons (hck (by first | (rw [heapOf0_get]; rfl) | rfl)) MetH.nil) (MetE.nil) s31c rfl rfl (noFix _) fun g => by fcase
      | false =>
        cases h_83 : own.n with
        | true =>
          exact FRwp.pieceN E31c_ok follows 60 0 _ _ _ _ (caNt_3 o n c 0 0 now lst lost own zl [] [] (fun _ => nilS)) (Met.cons (rfl) (Met.cons (bool_ok h_83) (Met.cons (bool_ok h_21) (Met.cons (bool_ok h_17) (Met.cons (bool_ok h_9) Met.nil))))) (MetH.cons (hlv (by first | (rw [heapOf0_get]; rfl) | rfl)) (MetH.cons (hck (by first | (rw [heapOf0_get]; rfl) | rfl)) MetH.nil)) (MetE.nil) s31c rfl rfl (noFix _) fun g => by fcase
        | false =>
          exact FRwp.pieceN E31c_ok follows 60 0 _ _ _ _ (caNt_4 o n c 0 0 now lst lost own zl [] [] (fun _ => nilS)) (Met.cons (rfl) (Met.cons (bool_ok h_83) (Met.cons (bool_ok h_21) (Met.cons (bool_ok h_17) (Met.cons (bool_ok h_9) Met.nil))))) (MetH.cons (hdn (by first | (rw [heapOf0_get]; rfl) | rfl)) (MetH.cons (hlv (by first | (rw [heapOf0_get]; rfl) | rfl)) (MetH.cons (hck (by first | (rw [heapOf0_get]; rfl) | rfl)) MetH.nil))) (MetE.nil) s31c rfl rfl (noFix _) fun g => by fcase

theorem caEt_fr (hck : ∀ {hp : Hp}, (hp.get 0 = some o) → G18M [rowS 0 n c] hp = some (iN 1, heapOf [.dead] hp)) : FRwp Try.prog 105 W fb31c ⟨tmsOf [hcA own, rowS 0 n c, .int .i64 now, .bool lost] 0 .leaf, heapOf [o, .dead] hp0, []⟩ (FinR Try.f31 (resV (caseV ((chk own.n own.t own.o own.r own.d own.i) != Int.ofNat 0) own false false [] (fun _ => lst) now lost)) []) := by
  cases h_9 : ((chk own.n own.t own.o own.r own.d own.i) != (Int.ofNat 0)) with
  | true =>
    exact FRwp.pieceN E31c_ok follows 60 0 _ _ _ _ (caEt_0 o n c 0 0 now lst lost own zl [] [] (fun _ => nilS)) (Met.cons (bool_ok h_9) Met.nil) (MetH.nil) (MetE.nil) s31c rfl rfl (noFix _) fun g => by fcase
  | false =>
    exact FRwp.pieceN E31c_ok follows 60 0 _ _ _ _ (caEt_1 o n c 0 0 now lst lost own zl [] [] (fun _ => nilS)) (Met.cons (bool_ok h_9) Met.nil) (MetH.cons (hck (by first | (rw [heapOf0_get]; rfl) | rfl)) MetH.nil) (MetE.nil) s31c rfl rfl (noFix _) fun g => by fcase

theorem caNn_fr (hck : ∀ {hp : Hp}, (hp.get 0 = some .dead) → G18M [nilS] hp = some (iN 0, heapOf [.dead] hp)) (hlv : ∀ {hp : Hp}, (hp.get 0 = some .dead) → GLv [nilS] hp = some (nilS, heapOf [.dead, .dead] hp)) (hdn : ∀ {hp : Hp}, (hp.get 0 = some .dead) → G19 [nilS, hcA own] hp = some (nilS, heapOf [.dead, .dead] hp)) : FRwp Try.prog 105 W fb31c ⟨tmsOf [hcA own, nilS, .int .i64 now, .bool lost] 0 .leaf, heapOf [.dead] hp0, []⟩ (FinR Try.f31 (resV (caseV ((chk own.n own.t own.o own.r own.d own.i) != Int.ofNat 0) own true false [] (fun _ => lst) now lost)) []) := by
  cases h_9 : ((chk own.n own.t own.o own.r own.d own.i) != (Int.ofNat 0)) with
  | true =>
    exact FRwp.pieceN E31c_ok follows 60 0 _ _ _ _ (caNn_0 .dead 0 0 0 0 now lst lost own zl [] [] (fun _ => nilS)) (Met.cons (bool_ok h_9) Met.nil) (MetH.nil) (MetE.nil) s31c rfl rfl (noFix _) fun g => by fcase
  | false =>
    cases h_17 : (decide (now < (Int.ofNat 0))) with
    | true =>
      exact FRwp.pieceN E31c_ok follows 60 0 _ _ _ _ (caNn_1 .dead 0 0 0 0 now lst lost own zl [] [] (fun _ => nilS)) (Met.cons (bool_ok h_17) (Met.cons (bool_ok h_9) Met.nil)) (MetH.cons (hck (by first | (rw [heapOf0_get]; rfl) | rfl)) MetH.nil) (MetE.nil) s31c rfl rfl (noFix _) fun g => by fcase
    | false =>
      cases h_21 : (decide (now > (Int.ofNat 4611686018427387903))) with
      | true =>
        exact FRwp.pieceN E31c_ok follows 60 0 _ _ _ _ (caNn_2 .dead 0 0 0 0 now lst lost own zl [] [] (fun _ => nilS)) (Met.cons (bool_ok h_21) (Met.cons (bool_ok h_17) (Met.cons (bool_ok h_9) Met.nil))) (MetH.cons (hck (by first | (rw [heapOf0_get]; rfl) | rfl)) MetH.nil) (MetE.nil) s31c rfl rfl (noFix _) fun g => by fcase
      | false =>
        cases h_83 : own.n with
        | true =>
          exact FRwp.pieceN E31c_ok follows 60 0 _ _ _ _ (caNn_3 .dead 0 0 0 0 now lst lost own zl [] [] (fun _ => nilS)) (Met.cons (rfl) (Met.cons (bool_ok h_83) (Met.cons (bool_ok h_21) (Met.cons (bool_ok h_17) (Met.cons (bool_ok h_9) Met.nil))))) (MetH.cons (hlv (by first | (rw [heapOf0_get]; rfl) | rfl)) (MetH.cons (hck (by first | (rw [heapOf0_get]; rfl) | rfl)) MetH.nil)) (MetE.nil) s31c rfl rfl (noFix _) fun g => by fcase
        | false =>
          exact FRwp.pieceN E31c_ok follows 60 0 _ _ _ _ (caNn_4 .dead 0 0 0 0 now lst lost own zl [] [] (fun _ => nilS)) (Met.cons (rfl) (Met.cons (bool_ok h_83) (Met.cons (bool_ok h_21) (Met.cons (bool_ok h_17) (Met.cons (bool_ok h_9) Met.nil))))) (MetH.cons (hdn (by first | (rw [heapOf0_get]; rfl) | rfl)) (MetH.cons (hlv (by first | (rw [heapOf0_get]; rfl) | rfl)) (MetH.cons (hck (by first | (rw [heapOf0_get]; rfl) | rfl)) MetH.nil))) (MetE.nil) s31c rfl rfl (noFix _) fun g => by fcase

theorem caEn_fr (hck : ∀ {hp : Hp}, (hp.get 0 = some .dead) → G18M [nilS] hp = some (iN 1, heapOf [.dead] hp)) : FRwp Try.prog 105 W fb31c ⟨tmsOf [hcA own, nilS, .int .i64 now, .bool lost] 0 .leaf, heapOf [.dead] hp0, []⟩ (FinR Try.f31 (resV (caseV ((chk own.n own.t own.o own.r own.d own.i) != Int.ofNat 0) own false false [] (fun _ => lst) now lost)) []) := by
  cases h_9 : ((chk own.n own.t own.o own.r own.d own.i) != (Int.ofNat 0)) with
  | true =>
    exact FRwp.pieceN E31c_ok follows 60 0 _ _ _ _ (caEn_0 .dead 0 0 0 0 now lst lost own zl [] [] (fun _ => nilS)) (Met.cons (bool_ok h_9) Met.nil) (MetH.nil) (MetE.nil) s31c rfl rfl (noFix _) fun g => by fcase
  | false =>
    exact FRwp.pieceN E31c_ok follows 60 0 _ _ _ _ (caEn_1 .dead 0 0 0 0 now lst lost own zl [] [] (fun _ => nilS)) (Met.cons (bool_ok h_9) Met.nil) (MetH.cons (hck (by first | (rw [heapOf0_get]; rfl) | rfl)) MetH.nil) (MetE.nil) s31c rfl rfl (noFix _) fun g => by fcase

end
end Go.Proofs.Ytgeoommlmddgpaa.LtL
namespace Go.Proofs.Ytgeoommlmddgpaa.LtL
open Go Go.Proofs Go.Proofs.Ytgeoommlmddgpaa.AI Go.RowKit Go.Proofs.Ytgeoommlmddgpaa.Sort Go.Proofs.Ytgeoommlmddgpaa.LtA

def caseA (vs : List ViewV) (a : Value) (rest : List Value) : Option Value := match rest with
  | [.int .i64 now, .bool lost] => (unH a).map fun own => resV (caseR own vs now lost)
  | _ => none
theorem stay_bool (b : Bool) : stay (.bool b) := ⟨rfl, fun _ _ => rfl⟩
theorem resV_ok (r : Res) : ok3 (resV r) = true := by obtain ⟨h, c, e⟩ := r; rfl
theorem resV_sh (r : Res) (K : List Nat) (B : Nat) : sh3 K B (resV r) = resV r := by obtain ⟨h, c, e⟩ := r; simp [sh3, sh2, sh1, resV, hcA]
theorem caseV_lst {bad rb dn lost : Bool} {own : ViewV} {ls : List Lev} {lst : Lev → Int} {now : Int} {top : Lev} (h : ls.getLast? = some top) : caseV bad own rb dn ls lst now lost = caseV bad own rb dn ls (fun _ => lst top) now lost := by
  unfold caseV; rw [h]
theorem case_t {vs : List ViewV} (hn : vs.length < 1000000) (own : ViewV) (now : Int) (lost : Bool) {o : Blk} {c : Nat} (ho : inertB o = true) (hrow : vs = [] ∨ ∃ ty ro, o = .cells ty (vrow vs) ro) (W : Base) :
    FRwp Try.prog 105 W fb31c ⟨tmsOf [hcA own, rowS 0 vs.length c, .int .i64 now, .bool lost] 0 .leaf, heapOf [o, .dead] hp0, []⟩ (FinR Try.f31 (resV (caseR own vs now lost)) []) := by
  have T : ∀ {hp : Hp}, hp.get 0 = some o → TN vs (rowS 0 vs.length c) hp := fun hg => .inr ⟨0, c, o, rfl, hg, ho, hrow⟩
  have hck : ∀ {hp : Hp}, hp.get 0 = some o → G18M [rowS 0 vs.length c] hp = some (errI (rightB vs), heapOf [.dead] hp) := fun hg => G18M_of (T hg) (by unfold Long; omega)
  have hlv : ∀ {hp : Hp}, hp.get 0 = some o → GLv [rowS 0 vs.length c] hp = some (rowLv (dlev (levsV vs)) hp.sz, heapOf [ownL (dlev (levsV vs)), .dead] hp) := fun hg => GLv_of (T hg) hn
  have hdn : ∀ {hp : Hp}, hp.get 0 = some o → G19 [rowS 0 vs.length c, hcA own] hp = some (rowIv (idsD 1 own vs) hp.sz, heapOf [ownI (idsD 1 own vs), .dead] hp) := fun hg => toldR_ids (A := wayR19) (T hg) hn rfl
  have hls : ∀ (top : Lev) {hp : Hp}, hp.get 0 = some o → G67m [rowS 0 vs.length c, lA top] hp = some (.int .i64 (lstV top vs), heapOf [.dead] hp) := fun top {hp} hg => G67m_of top (T hg) hn
  have hml : (dlev (levsV vs)).length ≤ vs.length := Nat.le_trans (ded_len2 _) (levsV_len _)
  unfold caseR
  generalize dlev (levsV vs) = ls at *
  generalize idsD 1 own vs = ds at *
  cases hr : rightB vs with
  | false =>
    rw [hr] at hck
    have := caEt_fr W o vs.length c now 0 lost own (fun {hp} hg => hck hg)
    unfold caseV at this ⊢
    exact this
  | true =>
    rw [hr] at hck
    have hc : ∀ {hp : Hp}, hp.get 0 = some o → G18M [rowS 0 vs.length c] hp = some (iN 0, heapOf [.dead] hp) := fun {hp} hg => hck hg
    cases ls with
    | nil =>
      cases ds with
      | nil => exact caNt_fr W o vs.length c now 0 lost own hc (fun {hp} hg => hlv hg) (fun {hp} hg => hdn hg)
      | cons d ds => exact caDt_fr W o vs.length c ds.length now 0 lost own (d :: ds) hc (fun {hp} hg => hlv hg) (fun {hp} hg => hdn hg)
    | cons l ls =>
      have hlast : (l :: ls).getLast? = some ((l :: ls)[ls.length]'(by simp)) := by rw [List.getLast?_eq_getElem?]; simp
      have hget : (l :: ls)[ls.length]? = some ((l :: ls)[ls.length]'(by simp)) := List.getElem?_eq_getElem _
      rw [caseV_lst hlast]
      generalize (l :: ls)[ls.length]'(by simp) = top at *
      cases ds with
      | nil => exact caLt_fr W o vs.length c ls.length now (lstV top vs) lost own top (l :: ls) hc (fun {hp} hg => hlv hg) (fun {hp} hg => hdn hg) (fun {hp} hg => hls top hg) (by simp at hml; omega) rfl hlast hget
      | cons d ds => exact caLDt_fr W o vs.length c ls.length ds.length now (lstV top vs) lost own top (l :: ls) (d :: ds) hc (fun {hp} hg => hlv hg) (fun {hp} hg => hdn hg) (fun {hp} hg => hls top hg) (by simp at hml; omega) rfl hlast hget
theorem case_n (own : ViewV) (now : Int) (lost : Bool) (W : Base) :
    FRwp Try.prog 105 W fb31c ⟨tmsOf [hcA own, nilS, .int .i64 now, .bool lost] 0 .leaf, heapOf [.dead] hp0, []⟩ (FinR Try.f31 (resV (caseR own [] now lost)) []) := by
  have T : ∀ {hp : Hp}, TN [] nilS hp := fun {hp} => .inl ⟨rfl, rfl⟩
  have hck : ∀ {hp : Hp}, G18M [nilS] hp = some (errI (rightB []), heapOf [.dead] hp) := G18M_of T (by unfold Long; simp)
  have hlv : ∀ {hp : Hp}, GLv [nilS] hp = some (nilS, heapOf [.dead, .dead] hp) := GLv_of T (by simp)
  have hdn : ∀ {hp : Hp}, G19 [nilS, hcA own] hp = some (nilS, heapOf [.dead, .dead] hp) := toldR_ids (A := wayR19) (ids := []) (vs := []) T (by simp) rfl
  have e : caseR own [] now lost = caseV ((chk own.n own.t own.o own.r own.d own.i) != Int.ofNat 0) own (rightB []) false [] (fun _ => 0) now lost := rfl
  rw [e]
  cases hr : rightB [] with
  | false => rw [hr] at hck; exact caEn_fr W now 0 lost own (fun {hp} _ => hck)
  | true => rw [hr] at hck; exact caNn_fr W now 0 lost own (fun {hp} _ => hck) (fun {hp} _ => hlv) (fun {hp} _ => hdn)
theorem runCase (vs : List ViewV) (hn : vs.length < 1000000) : ∀ a rest v0, caseA vs a rest = some v0 → RowRun2 Try.f31 fb31c 105 vs a rest v0 := fun a rest v0 h => by
  unfold caseA at h
  split at h
  case h_2 => cases h
  rename_i now lost
  obtain ⟨own, hown, h2⟩ := Option.map_eq_some_iff.1 h
  obtain rfl := unH_some hown
  cases h2
  refine ⟨resV_ok _, stay_h _, (by intro r hr; have e : r = .int .i64 now ∨ r = .bool lost := (by simpa using hr); rcases e with e | e <;> rw [e]; exact stay_int _ _; exact stay_bool _), by simp, fun f o c W ho hrow hfl => ?_⟩
  cases f with
  | true => exact case_t hn own now lost ho hrow W
  | false =>
    obtain ⟨rfl, rfl⟩ := hfl rfl
    exact case_n own now lost W
noncomputable def GCase : HeapFn := toldR2 caseA
theorem hkCase : CallGoal Try.prog 31 GCase := toldR2_goal Try.func31 body31c (by kernel_rfl) ntmps31c fun vs hn => runCase vs hn
theorem unH_hcA {own : ViewV} (h0 : own.id = 0) : unH (hcA own) = some own := by
  obtain ⟨a, b, c, d, e, f, g⟩ := own
  simp only at h0
  subst h0; rfl
theorem GCase_of {vs : List ViewV} {s : Value} {hp : Hp} {own : ViewV} (h0 : own.id = 0) (now : Int) (lost : Bool) (h : TN vs s hp) (hn : vs.length < 1000000) : GCase [hcA own, s, .int .i64 now, .bool lost] hp = some (resV (caseR own vs now lost), heapOf [.dead] hp) :=
  toldR2_of (A := caseA) h hn (by unfold caseA; simp only [unH_hcA h0]; rfl) (resV_sh _ _ _)
end Go.Proofs.Ytgeoommlmddgpaa.LtL
