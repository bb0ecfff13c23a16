/- Part 3. -/
import Derived.Test.YtgeoommlmddgpaaXcB
import Derived.Deep.Slices
set_option linter.unusedVariables false
set_option linter.unusedSimpArgs false
set_option maxRecDepth 100000
namespace Go.Proofs.Ytgeoommlmddgpaa.AI
open Go Go.RowKit Go.ChangeShapes
section
variable {H : Type} {enc : TypeId × Value → H} {P : Program} {w : World} {base : Nat} {spare : Nat → Bool} {held : Bool} {fuel : Nat} {t : TypeId} {cs : List Value} {x : DataW H × List MemPlace}
theorem trod_int {k : IntKind} (ht : P.underlying t = some (.int k)) (h : DataW.trod enc P w base spare held fuel t cs = some x) : ∃ n, cs = [.int k n] := by
  cases fuel with
  | zero => cases h
  | succ fuel =>
    unfold DataW.trod at h
    rw [ht] at h
    split at h <;> first
      | (rename_i heq; cases heq; split at h
         · rename_i hk; obtain ⟨rfl, _⟩ := hk; exact ⟨_, rfl⟩
         · cases h)
      | (rename_i heq; cases heq)
      | cases h
theorem trod_bool (ht : P.underlying t = some .bool) (h : DataW.trod enc P w base spare held fuel t cs = some x) : ∃ b, cs = [.bool b] := by
  cases fuel with
  | zero => cases h
  | succ fuel =>
    unfold DataW.trod at h
    rw [ht] at h
    split at h <;> first
      | exact ⟨_, rfl⟩
      | (rename_i heq; cases heq)
      | cases h
theorem trod_field {fs : Array Field} (ht : P.underlying t = some (.struct fs)) (h : DataW.trod enc P w base spare held fuel t cs = some x) :
    cs.length = P.cellsOf t ∧ ∀ (i : Nat) (f : Field), fs[i]? = some f → ∃ n y, DataW.trod enc P w base spare held n f.type ((cs.drop f.offset).take (P.cellsOf f.type)) = some y := by
  obtain ⟨xs, n, _, _, h1, h2, h3⟩ := DataW.trod_struct ht h
  refine ⟨h1, fun i f hf => ?_⟩
  have hi : i < fs.size := (Array.getElem?_eq_some_iff.1 hf).1
  have := h3 i f hf
  rw [List.getElem?_eq_getElem (by omega)] at this
  exact ⟨n, _, this⟩
end
def inert : Value → Bool
  | .bool _ | .int _ _ | .string _ | .chan _ => true
  | v => flat v
theorem inert_sh {v : Value} (h : inert v = true) (K : List Nat) (B : Nat) : sh2 K B v = v := by
  cases v with
  | pointer a => cases a with
    | none => rfl
    | some a => simp [inert, AI.flat] at h
  | slice a n c => cases a with
    | none => rfl
    | some a => simp [inert, AI.flat] at h
  | map a => cases a with
    | none => rfl
    | some a => simp [inert, AI.flat] at h
  | func f a b => simp [inert, AI.flat] at h
  | agg cs => simp [inert, AI.flat] at h
  | tuple cs => simp [inert, AI.flat] at h
  | _ => rfl
theorem inert_ren {v : Value} (h : inert v = true) (K : List Nat) : ren2 K v = v := by
  cases v with
  | pointer a => cases a with
    | none => rfl
    | some a => simp [inert, AI.flat] at h
  | slice a n c => cases a with
    | none => rfl
    | some a => simp [inert, AI.flat] at h
  | map a => cases a with
    | none => rfl
    | some a => simp [inert, AI.flat] at h
  | func f a b => simp [inert, AI.flat] at h
  | agg cs => simp [inert, AI.flat] at h
  | tuple cs => simp [inert, AI.flat] at h
  | _ => rfl
theorem inert_ok {v : Value} (h : inert v = true) : ok2 v = true ∧ nice2 v = true := by
  cases v <;> first
    | exact ⟨rfl, rfl⟩
    | (simp [inert, AI.flat] at h)
def inertB : Blk → Bool
  | .cells _ cs _ => cs.all inert
  | .map .. => false
  | .dead => true
theorem inert_fixed {o : Blk} (h : inertB o = true) (p : Nat) : Fixed p o := by
  cases o with
  | cells ty cs ro =>
    have h' : ∀ v ∈ cs, inert v = true := fun v hv => List.all_eq_true.1 h v hv
    refine ⟨List.all_eq_true.2 fun v hv => (inert_ok (h' v hv)).2, fun K _ => ?_⟩
    show Blk.cells ty (cs.map (ren2 K)) ro = _
    rw [List.map_congr_left (fun v hv => inert_ren (h' v hv) K)]; simp
  | map => cases h
  | dead => exact ⟨rfl, fun K _ => rfl⟩
theorem inert_shBlk {o : Blk} (h : inertB o = true) (K : List Nat) (B : Nat) : shBlk K B o = o := by
  cases o with
  | cells ty cs ro =>
    have h' : ∀ v ∈ cs, inert v = true := fun v hv => List.all_eq_true.1 h v hv
    show Blk.cells ty (cs.map (sh2 K B)) ro = _
    rw [List.map_congr_left (fun v hv => inert_sh (h' v hv) K B)]; simp
  | map => cases h
  | dead => rfl
theorem inert_start {o : Blk} (h : inertB o = true) : startOk o = true := by
  cases o with
  | cells ty cs ro =>
    have h' : ∀ v ∈ cs, inert v = true := fun v hv => List.all_eq_true.1 h v hv
    refine Bool.and_eq_true_iff.2 ⟨List.all_eq_true.2 fun v hv => (inert_ok (h' v hv)).1, ?_⟩
    cases hk : keysBox cs with
    | false => simp
    | true =>
      unfold keysBox at hk
      split at hk
      · have := h' _ (.head _); simp [inert, AI.flat] at this
      · cases hk
  | map => cases h
  | dead => rfl
theorem flat_get {α β : Type} (f : α → List β) (k : Nat) : ∀ (ps : List α), (∀ p ∈ ps, (f p).length = k) → ∀ (i j : Nat) (p : α), ps[i]? = some p → j < k → (ps.flatMap f)[i * k + j]? = (f p)[j]?
  | [], _, i, j, p, h, _ => by cases h
  | q :: ps, hk, 0, j, p, h, hj => by
    simp only [List.getElem?_cons_zero, Option.some.injEq] at h
    subst h
    rw [List.flatMap_cons, Nat.zero_mul, Nat.zero_add, List.getElem?_append_left (by rw [hk q (.head _)]; exact hj)]
  | q :: ps, hk, i + 1, j, p, h, hj => by
    rw [List.flatMap_cons, List.getElem?_append_right (by rw [hk q (.head _), Nat.succ_mul]; omega), hk q (.head _)]
    rw [show (i + 1) * k + j - k = i * k + j by rw [Nat.succ_mul]; omega]
    exact flat_get f k ps (fun x hx => hk x (.tail _ hx)) i j p (by simpa using h) hj
theorem flat_len {α β : Type} (f : α → List β) (k : Nat) : ∀ (ps : List α), (∀ p ∈ ps, (f p).length = k) → (ps.flatMap f).length = ps.length * k
  | [], _ => by simp
  | q :: ps, hk => by
    rw [List.flatMap_cons, List.length_append, hk q (.head _), flat_len f k ps (fun x hx => hk x (.tail _ hx)), List.length_cons, Nat.succ_mul]; omega
theorem flat_getR {α : Type} {f : α → List Value} {k : Nat} {ps : List α} (hk : ∀ p ∈ ps, (f p).length = k) {i : Nat} {p : α} (h : ps[i]? = some p) : getR (ps.flatMap f) (i * k) k = some (f p) := by
  have hl := flat_len f k ps hk
  have hi : i < ps.length := (List.getElem?_eq_some_iff.1 h).1
  have hp := hk p (List.mem_of_getElem? h)
  have hle : (i + 1) * k ≤ ps.length * k := Nat.mul_le_mul_right _ hi
  rw [Nat.succ_mul] at hle
  have e : ((ps.flatMap f).drop (i * k)).take k = f p := by
    apply List.ext_getElem?
    intro j
    rw [List.getElem?_take]
    by_cases hj : j < k
    · rw [if_pos hj, List.getElem?_drop]
      exact flat_get f k ps hk i j p h hj
    · rw [if_neg hj, List.getElem?_eq_none (by omega)]
  unfold getR
  rw [e, if_pos hp]
theorem row_sim {w : World} {r off n k : Nat} {c : Array Value} {ty : TypeId} {fr : Nat × Nat} {L : List Value} (hc : w.heap[r]? = some (.cells c ty fr)) (hl : off + L.length ≤ c.size) (hi : L.all inert = true)
    (hv : ∀ (i : Nat) (v v' : Value), L[i]? = some v → c[off + i]? = some v' → VRel bm0 (fun _ => none) v v') :
    Sim (fun b => if b = 0 then some (r, off, c.size) else none) (heapOf [.cells ty L true] hp0).get w := by
  have hget : (heapOf [Blk.cells ty L true] hp0).get 0 = some (.cells ty L true) := by rw [heapOf0_get]; rfl
  refine ⟨fun b x hx => ?_, fun b b' x x' hx hx' _ _ _ => ?_⟩
  · split at hx
    · rename_i hb
      subst hb
      cases hx
      refine ⟨_, hget, c, fr, hc, hl, Nat.le_refl _, fun i v v' h1 h2 => ?_, (fun h => by cases h), fun _ hk => ?_⟩
      · exact (hv i v v' h1 h2).mono ⟨(fun _ h => by cases h), (fun _ _ h => by cases h)⟩
      · unfold keysBox at hk
        split at hk
        · have := List.all_eq_true.1 hi _ (.head _); simp [inert, AI.flat] at this
        · cases hk
    · cases hx
  · split at hx <;> split at hx' <;> simp_all
end Go.Proofs.Ytgeoommlmddgpaa.AI
namespace Go.Proofs.Ytgeoommlmddgpaa.AI
open Go Go.RowKit
abbrev OblE := Option (Value × List Eff) × (Value × List Eff)
def MetE (l : List OblE) : Prop := ∀ o ∈ l, o.1 = some o.2
theorem MetE.nil : MetE [] := fun o ho => by cases ho
theorem MetE.cons {a : Option (Value × List Eff)} {v : Value × List Eff} {l : List OblE} (h : a = some v) (hl : MetE l) : MetE ((a, v) :: l) := fun o ho => by
  cases ho with
  | head => exact h
  | tail _ ho => exact hl o ho
theorem MetE.left {a b : List OblE} (h : MetE (a ++ b)) : MetE a := fun o ho => h o (List.mem_append_left _ ho)
theorem MetE.right {a b : List OblE} (h : MetE (a ++ b)) : MetE b := fun o ho => h o (List.mem_append_right _ ho)
abbrev ClE := List (Nat × Value × List Eff)
def keyOfE (o : Oper) : Option Nat := match o.dst with
  | some t => some t
  | none => match o.op with
    | .store _ (.tmp t) _ => some (1000 + t)
    | .call c => match c.args.toList with
      | .tmp t :: _ => some (2000 + t)
      | _ => none
    | _ => none
def claimE (cl : ClE) : Option Nat → Option (Value × List Eff)
  | none => none
  | some t => (cl.find? fun p => Nat.beq p.1 t).map (·.2)
def callOf (o : Oper) : Option Call := match o.op with
  | .call c => match c.callee with
    | .value _ => some c
    | _ => none
  | _ => none
theorem callOf_some {o : Oper} {c : Call} (h : callOf o = some c) : o.op = .call c ∧ ∃ x, c.callee = .value x := by
  unfold callOf at h
  split at h
  · rename_i c' ho
    split at h
    · rename_i x hx; cases h; exact ⟨ho, x, hx⟩
    · cases h
  · cases h
def stepE (P : Program) (call : CallF) (cl : List (Tmp × Value)) (ch : ClH) (ce : ClE) (o : Oper) (st : St) : Option (Value × Hp × List (FuncId × List Value) × List Obl × List OblH × List OblE) :=
  match claimE ce (keyOfE o) with
  | some (v, es) => match cls P o, callOf o with
    | .big, none => some (v, st.hp.eff es, st.df, [], [], [(opB P st.eval st.hp.sz st.hp.get o, (v, es))])
    | .big, some c => match target st.eval c with
      | some (f, args) => some (v, st.hp.eff es, st.df, [], [(call f args st.hp, (v, st.hp.eff es))], [])
      | none => none
    | _, _ => none
  | none => match stepH P call cl ch o st with
    | some (v, h, d, q, r) => some (v, h, d, q, r, [])
    | none => none
def runOpsE (P : Program) (call : CallF) (cl : List (Tmp × Value)) (ch : ClH) (ce : ClE) (ops : Array Oper) : List Oper → St → Option (St × List Obl × List OblH × List OblE)
  | [], st => some (st, [], [], [])
  | o :: os, st => match aWanted ops st o with
    | false => runOpsE P call cl ch ce ops os (st.tput o.dst undef)
    | true => match stepE P call cl ch ce o st with
      | some (v, h, d, q, r, x) => match runOpsE P call cl ch ce ops os ({ st with hp := h, df := d }.tput o.dst v) with
        | some (st', q', r', x') => some (st', q ++ q', r ++ r', x ++ x')
        | none => none
      | none => none
def execE (P : Program) (call : CallF) (cl : List (Tmp × Value)) (ch : ClH) (ce : ClE) : Nat → Code → St → Option (Exit × St × List Obl × List OblH × List OblE)
  | 0, _, _ => none
  | n + 1, c, st => match c with
    | .skip | .label _ => some (.normal, st, [], [], [])
    | .region _ ops draw => match draw with
      | false => match runOpsE P call cl ch ce ops ops.toList st with
        | some (st', q, r, x) => some (.normal, st', q, r, x)
        | none => none
      | true => match floats P ops with
        | [] => match runOpsE P call cl ch ce ops ops.toList st with
          | some (st', q, r, x) => some (.normal, st', q, r, x)
          | none => none
        | _ :: _ => match aRegionQ P call cl ops true st with
          | some (st', q) => some (.normal, st', q, [], [])
          | none => none
    | .seq a b => match execE P call cl ch ce n a st with
      | some (.normal, st', q, r, x) => match execE P call cl ch ce n b st' with
        | some (e, st2, q2, r2, x2) => some (e, st2, q ++ q2, r ++ r2, x ++ x2)
        | none => none
      | r => r
    | .cond x a b => match st.eval x with
      | .bool true => execE P call cl ch ce n a st
      | .bool false => execE P call cl ch ce n b st
      | _ => none
    | .block id body => match execE P call cl ch ce n body st with
      | some (.exit i, st', q, r, x) => match Nat.beq i id with
        | true => some (.normal, st', q, r, x)
        | false => some (.exit i, st', q, r, x)
      | r => r
    | .scope body => execE P call cl ch ce n body st
    | .exit id => some (.exit id, st, [], [], [])
    | .ret => some (.ret, st, [], [], [])
    | _ => none
section
variable {P : Program} {call : CallF} {cl : List (Tmp × Value)} {ch : ClH} {ce : ClE}
theorem stepE_ok {o : Oper} {st : St} {v : Value} {hp : Hp} {d : List (FuncId × List Value)} {q : List Obl} {r : List OblH} {x : List OblE} (h : stepE P call cl ch ce o st = some (v, hp, d, q, r, x)) (m : Met q) (mh : MetH r) (me : MetE x) : aStep P call o st = some (v, hp, d) := by
  unfold stepE at h
  split at h
  · split at h
    · rename_i hc _
      cases h
      have := me _ (.head _)
      simp only at this
      unfold aStep
      simp only [hc, this]
    · rename_i c hc hcall
      obtain ⟨ho, y, hy⟩ := callOf_some hcall
      split at h
      · rename_i ht
        cases h
        have := mh _ (.head _)
        simp only at this
        have hb : opB P st.eval st.hp.sz st.hp.get o = none := by
          unfold opB
          simp only [ho, hy]
        unfold aStep
        simp only [hc, hb, ho, ht, this]
      · cases h
    · cases h
  · split at h
    · rename_i hs; cases h; exact stepH_ok hs m mh
    · cases h
theorem runOpsE_ok {ops : Array Oper} : ∀ {os : List Oper} {st st' : St} {q : List Obl} {r : List OblH} {x : List OblE}, runOpsE P call cl ch ce ops os st = some (st', q, r, x) → Met q → MetH r → MetE x → runOps P call ops os st = some st'
  | [], st, st', q, r, x, h, m, mh, me => by cases h; rfl
  | o :: os, st, st', q, r, x, h, m, mh, me => by
    unfold runOpsE at h
    unfold runOps
    split at h
    · rename_i hw; simp only [hw]; exact runOpsE_ok h m mh me
    · rename_i hw
      simp only [hw]
      split at h
      · rename_i hs
        split at h
        · rename_i hr
          cases h
          simp only [stepE_ok hs m.left mh.left me.left]
          exact runOpsE_ok hr m.right mh.right me.right
        · cases h
      · cases h
theorem execE_ok : ∀ {n : Nat} {c : Code} {st st' : St} {e : Exit} {q : List Obl} {r : List OblH} {x : List OblE}, execE P call cl ch ce n c st = some (e, st', q, r, x) → Met q → MetH r → MetE x → exec P call n c st = some (e, st')
  | 0, c, st, st', e, q, r, x, h, m, mh, me => by cases h
  | n + 1, c, st, st', e, q, r, x, h, m, mh, me => by
    cases c with
    | skip => cases h; rfl
    | label l => cases h; rfl
    | exit i => cases h; rfl
    | ret => cases h; rfl
    | region id ops draw =>
      simp only [execE] at h
      simp only [exec]
      cases draw with
      | false =>
        simp only at h
        split at h
        · rename_i hr; cases h; simp only [aRegion, runOpsE_ok hr m mh me]
        · cases h
      | true =>
        simp only at h
        split at h
        · rename_i hf
          split at h
          · rename_i hr; cases h; simp only [aRegion, hf, runOpsE_ok hr m mh me]
          · cases h
        · split at h
          · rename_i hr; cases h; simp only [aRegionQ_ok hr m]
          · cases h
    | seq a b =>
      simp only [execE] at h
      simp only [exec]
      split at h
      · rename_i ha
        split at h
        · rename_i hb
          cases h
          simp only [execE_ok ha m.left mh.left me.left]
          exact execE_ok hb m.right mh.right me.right
        · cases h
      · rename_i hne
        rw [execE_ok h m mh me]
        split
        · rename_i heq; cases heq; exact absurd h (hne _ _ _ _)
        · rfl
    | cond x a b =>
      simp only [execE] at h
      simp only [exec]
      split at h
      · rename_i hx; simp only [hx]; exact execE_ok h m mh me
      · rename_i hx; simp only [hx]; exact execE_ok h m mh me
      · cases h
    | block id b =>
      simp only [execE] at h
      simp only [exec]
      split at h
      · rename_i hb
        split at h
        · rename_i hi; cases h; simp only [execE_ok hb m mh me, hi]
        · rename_i hi; cases h; simp only [execE_ok hb m mh me, hi]
      · rename_i hne
        rw [execE_ok h m mh me]
        split
        · rename_i heq; cases heq; exact absurd h (hne _ _ _ _ _)
        · rfl
    | scope b =>
      simp only [execE] at h
      simp only [exec]
      exact execE_ok h m mh me
    | _ => cases h
end
section
variable {P : Program} {N : Nat} {W : Base}
theorem FRwp.pieceY0 {call : CallF} (hc : CallOk P call) (hm : P.follows .mixedOrders = true) {n : Nat} {c : Code} {st : St} {e : Exit} {Q : Exit → St → Prop} (p : Nat) (K Ts : List Nat) (O : List Blk) (L : List (Nat × Value))
    (he : (exec P call n c st).map (look2 p K Ts) = some (e, O, L, true)) (hs : codeSafe P N c = true) (hK : nodupB K = true) (hT : Ts.all (fun t => Nat.blt t N) = true)
    (hO : ∀ i, i < p → ∀ o, O[i]? = some o → Fixed 0 o) (h : ∀ g, Q e (stOf N g L O)) : FRwp P N W c st Q := by
  obtain ⟨⟨e', st'⟩, h1, h2⟩ := Option.map_eq_some_iff.1 he
  simp only [look2, Prod.mk.injEq] at h2
  obtain ⟨rfl, rfl, rfl, h5⟩ := h2
  obtain ⟨h5, h7⟩ := Bool.and_eq_true_iff.1 h5
  obtain ⟨h5, h6⟩ := Bool.and_eq_true_iff.1 h5
  obtain ⟨h3, h4⟩ := Bool.and_eq_true_iff.1 h5
  intro a w m f
  refine wp_mono (seg hc hm h1 hs f) fun e2 a' w' hh => ?_
  obtain ⟨rfl, m', f'⟩ := hh
  have hlen : ((K.take p).map (fun b => (st'.hp.get b).getD .dead) ++ (K.drop p).map (fun b => renBlk K ((st'.hp.get b).getD .dead))).length = K.length := by
    simp; omega
  have hget : ∀ (i b : Nat), K[i]? = some b → ∃ o, st'.hp.get b = some o := fun i b hi => by
    have := List.all_eq_true.1 h3 b (List.mem_of_getElem? hi)
    cases hg : st'.hp.get b with
    | none => rw [hg] at this; cases this
    | some o => exact ⟨o, rfl⟩
  obtain ⟨g, m2, f2⟩ := f'.canon2 K ((K.take p).map (fun b => (st'.hp.get b).getD .dead) ++ (K.drop p).map (fun b => renBlk K ((st'.hp.get b).getD .dead))) (Ts.map fun t => (t, ren2 K (st'.tget t))) (nodupB_ok hK) hlen (fun i b o2 hi ho => by
      obtain ⟨o, hg⟩ := hget i b hi
      refine ⟨o, hg, ?_⟩
      have hiK : i < K.length := (List.getElem?_eq_some_iff.1 hi).1
      by_cases hip : i < p
      · have e1 : ((K.take p).map (fun b => (st'.hp.get b).getD .dead) ++ (K.drop p).map (fun b => renBlk K ((st'.hp.get b).getD .dead)))[i]? = some o := by
          rw [List.getElem?_append_left (by simp; omega), List.getElem?_map, List.getElem?_take, if_pos hip, hi]
          simp [hg]
        rw [e1] at ho
        have e3 : o = o2 := by simpa using ho
        subst e3
        obtain ⟨k1, k2⟩ := hO i hip o e1
        exact ⟨(k2 K (fun i hi => absurd hi (Nat.not_lt_zero _))).symm, k1⟩
      · have hmin : min p K.length = p := by omega
        rw [List.getElem?_append_right (by simp; omega)] at ho
        simp only [List.length_map, List.length_take, hmin, List.getElem?_map, List.getElem?_drop] at ho
        rw [show p + (i - p) = i by omega, hi] at ho
        simp only [Option.map_some, Option.some.injEq, hg, Option.getD_some] at ho
        refine ⟨ho.symm, ?_⟩
        have hbm : b ∈ K.drop p := List.mem_of_getElem? (by rw [List.getElem?_drop, show p + (i - p) = i by omega]; exact hi)
        have := List.all_eq_true.1 h4 b hbm
        simpa [hg] using this) (fun x hx => by
      obtain ⟨t, ht, rfl⟩ := List.mem_map.1 hx
      exact ⟨by have := List.all_eq_true.1 hT t ht; simpa [Nat.blt_eq] using this, List.all_eq_true.1 h6 t ht, rfl⟩) (List.isEmpty_iff.1 h7)
  exact ⟨_, m2, f2, h g⟩
theorem FRwp.pieceY {call : CallF} (hc : CallOk P call) (hm : P.follows .mixedOrders = true) {n : Nat} {c : Code} {cl : List (Tmp × Value)} {ch : ClH} {ce : ClE} {st : St} {e : Exit} {q : List Obl} {r : List OblH} {x : List OblE} {Q : Exit → St → Prop} (p : Nat) (K Ts : List Nat) (O : List Blk) (L : List (Nat × Value))
    (he : (execE P call cl ch ce n c st).map (fun y => (look2 p K Ts (y.1, y.2.1), y.2.2)) = some ((e, O, L, true), q, r, x)) (hq : Met q) (hr : MetH r) (hx : MetE x) (hs : codeSafe P N c = true) (hK : nodupB K = true) (hT : Ts.all (fun t => Nat.blt t N) = true)
    (hO : ∀ i, i < p → ∀ o, O[i]? = some o → Fixed 0 o) (h : ∀ g, Q e (stOf N g L O)) : FRwp P N W c st Q := by
  obtain ⟨⟨e', st', q', r', x'⟩, h1, h2⟩ := Option.map_eq_some_iff.1 he
  simp only [Prod.mk.injEq] at h2
  obtain ⟨h2, rfl, rfl, rfl⟩ := h2
  refine FRwp.pieceY0 hc hm (n := n) p K Ts O L ?_ hs hK hT hO h
  rw [execE_ok h1 hq hr hx]
  exact congrArg some h2
end
end Go.Proofs.Ytgeoommlmddgpaa.AI
namespace Go.Proofs.Ytgeoommlmddgpaa.AI
open Go Go.RowKit
def killL : List Nat → Hp → Hp
  | [], h => h
  | b :: bs, h => killL bs (h.put b .dead)
theorem killL_sz : ∀ (D : List Nat) (h : Hp), (killL D h).sz = h.sz
  | [], h => rfl
  | b :: bs, h => by rw [killL, killL_sz bs, Hp.sz_put]
theorem killL_get : ∀ (D : List Nat) (h : Hp) (b : Nat), (killL D h).get b = if b ∈ D then some .dead else h.get b
  | [], h, b => by simp [killL]
  | c :: bs, h, b => by
    rw [killL, killL_get bs, Hp.get_put]
    by_cases h1 : b = c
    · subst h1; simp
    · by_cases h2 : b ∈ bs <;> simp [h1, h2]
def rowsOf (m : BM) (D : List Nat) (r : Nat) : Prop := ∃ b ∈ D, ∃ x, m b = some x ∧ x.1 = r
set_option maxHeartbeats 2000000 in
theorem join_kill {m m' : BM} {hp hpR : Hp} {h : HG} {w w' : World} {K D : List Nat} (hkk : hp.ok) (s : Sim m (ovr hp h) w) (hDD : ∀ b ∈ D, (∃ o, hp.get b = some o ∧ rwB o = true) ∧ ∃ x, m b = some x) (bw : Keeps ⟨w, rowsOf m D⟩ w') (hsim : Sim m' hpR.get w') (hK : nodupB K = true)
    (hok : ∀ b ∈ K, ∃ o, hpR.get b = some o ∧ okBlk o = true) (hnew : ∀ b ∈ K, ∀ x, m' b = some x → w.heap.size ≤ x.1 ∨ rowsOf m D x.1) (hfr : ∀ b, hp.sz ≤ b → b ≤ hp.sz + K.length → h b = none) {v0 v' : Value}
    (rv : VRel m' hpR.get v0 v') (hok1 : ok3 v0 = true) :
    Go1 m (ovr hp h) w (joinM m m' K hp.sz) (ovr (heapOf (outOf K hp.sz hpR ++ [.dead]) (killL D hp)) h) w' ∧ VRel (joinM m m' K hp.sz) (ovr (heapOf (outOf K hp.sz hpR ++ [.dead]) (killL D hp)) h) (sh3 K hp.sz v0) v' := by
  have hlen : (outOf K hp.sz hpR).length = K.length := by simp [outOf]
  have hsz' : (heapOf (outOf K hp.sz hpR ++ [.dead]) (killL D hp)).sz = hp.sz + (K.length + 1) := by rw [heapOf_sz, killL_sz]; simp [hlen]
  have inj : ∀ (i j b : Nat), K[i]? = some b → K[j]? = some b → i = j := fun i j b => nodup_inj hK
  have e2 : outOf K hp.sz hpR = K.map fun b => shBlk K hp.sz ((hpR.get b).getD .dead) := rfl
  generalize outOf K hp.sz hpR = O at *
  have hDlt : ∀ b ∈ D, b < hp.sz := fun b hb => by
    obtain ⟨⟨o, ho, _⟩, _⟩ := hDD b hb
    rcases Nat.lt_or_ge b hp.sz with h1 | h1
    · exact h1
    · rw [hkk b h1] at ho; cases ho
  have hrwD : ∀ b ∈ D, rw? (ovr hp h) b = true := fun b hb => by
    obtain ⟨⟨o, ho, hr⟩, _⟩ := hDD b hb
    unfold rw?
    rw [ovr_sub hkk h b o ho]
    cases o <;> exact hr
  have hget : ∀ b, (heapOf (O ++ [.dead]) (killL D hp)).get b = if b < hp.sz then (killL D hp).get b else match (O ++ [Blk.dead])[b - hp.sz]? with | some o => some o | none => (killL D hp).get b := fun b => by
    have := heapOf_get (O ++ [.dead]) (killL D hp) b
    rw [killL_sz] at this
    exact this
  have hov : ∀ b, ovr (heapOf (O ++ [.dead]) (killL D hp)) h b = if hp.sz ≤ b ∧ b ≤ hp.sz + K.length then (O ++ [Blk.dead])[b - hp.sz]? else if b ∈ D then some .dead else ovr hp h b := by
    intro b
    unfold ovr
    rw [hsz']
    by_cases h1 : b < hp.sz
    · rw [if_pos (by omega), if_neg (by omega), if_pos h1, hget, if_pos h1, killL_get]
    · have h3 : b ∉ D := fun hb => h1 (hDlt b hb)
      rw [if_neg h3]
      by_cases h2 : b ≤ hp.sz + K.length
      · rw [if_pos (by omega), if_pos ⟨by omega, h2⟩, hget, if_neg h1]
        have : b - hp.sz < (O ++ [Blk.dead]).length := by simp [hlen]; omega
        rw [List.getElem?_eq_getElem this]
      · rw [if_neg (by omega), if_neg (by omega), if_neg h1]
  have hnone : ∀ b, hp.sz ≤ b → b ≤ hp.sz + K.length → ovr hp h b = none := by
    intro b h1 h2
    unfold ovr
    rw [if_neg (by omega)]
    exact hfr b h1 h2
  have hmn : ∀ b, hp.sz ≤ b → b ≤ hp.sz + K.length → m b = none := by
    intro b h1 h2
    cases e : m b with
    | none => rfl
    | some x => obtain ⟨o, ho, _⟩ := s.dom b x e; rw [hnone b h1 h2] at ho; cases ho
  have hD : ovr (heapOf (O ++ [.dead]) (killL D hp)) h (hp.sz + K.length) = some .dead := by
    rw [hov, if_pos (by omega)]
    rw [show hp.sz + K.length - hp.sz = O.length by omega]; simp
  have hj : ∀ b, joinM m m' K hp.sz b = if hp.sz ≤ b ∧ b ≤ hp.sz + K.length then (match K[b - hp.sz]? with | some c => m' c | none => none) else m b := fun _ => rfl
  have hblk : ∀ i b, K[i]? = some b → ∃ o, hpR.get b = some o ∧ okBlk o = true ∧ ovr (heapOf (O ++ [.dead]) (killL D hp)) h (hp.sz + i) = some (shBlk K hp.sz o) ∧ joinM m m' K hp.sz (hp.sz + i) = m' b := by
    intro i b hi
    have hlt : i < K.length := (List.getElem?_eq_some_iff.1 hi).1
    obtain ⟨o, hg, ho⟩ := hok b (List.mem_of_getElem? hi)
    refine ⟨o, hg, ho, ?_, ?_⟩
    · rw [hov, if_pos (by omega), show hp.sz + i - hp.sz = i by omega, List.getElem?_append_left (by omega), e2, List.getElem?_map, hi]
      simp [hg]
    · rw [hj, if_pos (by omega), show hp.sz + i - hp.sz = i by omega, hi]
  have pt : PT m' hpR.get (joinM m m' K hp.sz) (ovr (heapOf (O ++ [.dead]) (killL D hp)) h) K hp.sz := by
    intro b Q hq
    unfold rho
    cases hi : idxOf b K 0 with
    | none => exact .inl hD
    | some j =>
      obtain ⟨k, rfl, hk⟩ := idxOf_some hi
      simp only [Nat.zero_add, Option.getD_some]
      obtain ⟨o, h1, _, h2, h3⟩ := hblk k b hk
      rcases hq with hq | hq
      · rw [hq] at h1; cases h1
        exact .inl h2
      · exact .inr ⟨hq, h3⟩
  have hle : Le m (ovr hp h) (joinM m m' K hp.sz) (ovr (heapOf (O ++ [.dead]) (killL D hp)) h) := by
    constructor
    · intro b hb
      rw [hov]
      split
      · rename_i hc; rw [hnone b hc.1 hc.2] at hb; cases hb
      · split
        · rfl
        · exact hb
    · intro b y hb
      refine .inr ?_
      rw [hj]
      split
      · rename_i hc; rw [hmn b hc.1 hc.2] at hb; cases hb
      · exact hb
  have hfree : ∀ b x, m b = some x → b ∉ D → live? (ovr hp h) b = true → ¬ rowsOf m D x.1 := fun b x hx hb hl ⟨b0, hb0, x0, hx0, e⟩ => by
    have := s.inj b0 b x0 x hx0 hx (hrwD b0 hb0) hl e
    subst this
    exact hb hb0
  refine ⟨⟨hle, ⟨?_, ?_⟩, bw.size, ?_, fun k hk hn => bw.block k hk (fun ⟨b0, hb0, x0, hx0, e⟩ => hn b0 x0 hx0 (hrwD b0 hb0) e), ?_, ?_, ?_, ?_, bw.os, bw.tape, bw.output⟩, pt.three rv hok1⟩
  · -- the blocks
    intro b x hx
    rw [hj] at hx
    split at hx
    · rename_i hc
      split at hx
      · rename_i c hcK
        obtain ⟨o, h1, h2, h3, _⟩ := hblk _ c hcK
        rw [show hp.sz + (b - hp.sz) = b by omega] at h3
        refine ⟨_, h3, ?_⟩
        obtain ⟨o', ho', hbr⟩ := hsim.dom c x hx
        rw [h1] at ho'; cases ho'
        cases o with
        | cells ty cs ro =>
          obtain ⟨cc, fr, g1, g2, g3, g4, g5⟩ := hbr
          refine ⟨cc, fr, g1, by simpa using g2, g3, fun i v v' q1 q2 => ?_, g5.1, fun hr hk => g5.2 hr (keysBox_map sh2_map hk)⟩
          simp only [List.getElem?_map, Option.map_eq_some_iff] at q1
          obtain ⟨z, hz, rfl⟩ := q1
          exact pt.two (g4 i z v' hz q2) (List.all_eq_true.1 h2 z (List.mem_of_getElem? hz))
        | map es cl ro =>
          obtain ⟨fs, g1, g2, g3⟩ := hbr
          refine ⟨fs, g1, by simpa using g2, fun i e ff q1 q2 => ?_⟩
          simp only [List.getElem?_map, Option.map_eq_some_iff] at q1
          obtain ⟨z, hz, rfl⟩ := q1
          obtain ⟨p1, p2, p3, p4⟩ := g3 i z ff hz q2
          exact ⟨p1, p2, pt.two p3 (List.all_eq_true.1 h2 z (List.mem_of_getElem? hz)), p4⟩
        | dead => trivial
      · cases hx
    · rename_i hc
      by_cases hbD : b ∈ D
      · exact ⟨.dead, by rw [hov, if_neg hc, if_pos hbD], trivial⟩
      · obtain ⟨o, ho, hbr⟩ := s.dom b x hx
        refine ⟨o, by rw [hov, if_neg hc, if_neg hbD]; exact ho, ?_⟩
        by_cases hd : o = .dead
        · subst hd; trivial
        · have hl : live? (ovr hp h) b = true := by unfold live?; rw [ho]; cases o <;> first | rfl | exact absurd rfl hd
          exact hbr.mono hle (bw.block _ (s.lt hx hl) (hfree b x hx hbD hl))
  · -- one block, one number
    have rwo : ∀ b, ¬ (hp.sz ≤ b ∧ b ≤ hp.sz + K.length) → rw? (ovr (heapOf (O ++ [.dead]) (killL D hp)) h) b = true → b ∉ D ∧ rw? (ovr hp h) b = true := fun b hc hr => by
      unfold rw? at hr ⊢
      rw [hov, if_neg hc] at hr
      split at hr
      · rename_i h1
        split at h1
        · cases h1
        · rename_i h2; exact ⟨h2, by rw [h1]; exact hr⟩
      · rename_i h1
        split at h1
        · cases h1
        · rename_i h2; exact ⟨h2, by rw [h1]; exact hr⟩
      · cases hr
    have lio : ∀ b, ¬ (hp.sz ≤ b ∧ b ≤ hp.sz + K.length) → live? (ovr (heapOf (O ++ [.dead]) (killL D hp)) h) b = true → b ∉ D ∧ live? (ovr hp h) b = true := fun b hc hl => by
      unfold live? at hl ⊢
      rw [hov, if_neg hc] at hl
      by_cases h2 : b ∈ D
      · rw [if_pos h2] at hl; cases hl
      · rw [if_neg h2] at hl; exact ⟨h2, hl⟩
    intro b b' x x' hx hx' hr hl hxx
    rw [hj] at hx hx'
    split at hx
    · rename_i hc
      split at hx
      case h_2 => cases hx
      rename_i c hcK
      split at hx'
      · rename_i hc'
        split at hx'
        case h_2 => cases hx'
        rename_i c' hcK'
        obtain ⟨o, h1, _, h3, _⟩ := hblk _ c hcK
        obtain ⟨o', h1', _, h3', _⟩ := hblk _ c' hcK'
        rw [show hp.sz + (b - hp.sz) = b by omega] at h3
        rw [show hp.sz + (b' - hp.sz) = b' by omega] at h3'
        have hr' : rw? hpR.get c = true := by unfold rw? at hr ⊢; rw [h1]; rw [h3] at hr; cases o <;> exact hr
        have hl' : live? hpR.get c' = true := by unfold live? at hl ⊢; rw [h1']; rw [h3'] at hl; cases o' <;> exact hl
        have := hsim.inj c c' x x' hx hx' hr' hl' hxx
        subst this
        have := inj _ _ c hcK hcK'
        omega
      · rename_i hc'
        obtain ⟨hnD, hl⟩ := lio b' hc' hl
        have h2 := s.lt hx' hl
        rcases hnew c (List.mem_of_getElem? hcK) x hx with h1 | h1
        · omega
        · rw [hxx] at h1; exact absurd h1 (hfree b' x' hx' hnD hl)
    · rename_i hc
      obtain ⟨hnD, hr⟩ := rwo b hc hr
      split at hx'
      · rename_i hc'
        split at hx'
        case h_2 => cases hx'
        rename_i c' hcK'
        have h2 := s.lt hx (live_of_rw hr)
        rcases hnew c' (List.mem_of_getElem? hcK') x' hx' with h1 | h1
        · omega
        · rw [← hxx] at h1; exact absurd h1 (hfree b x hx hnD (live_of_rw hr))
      · rename_i hc'
        exact s.inj b b' x x' hx hx' hr (lio b' hc' hl).2 hxx
  · intro b x hx
    rw [hj] at hx
    split at hx
    · split at hx
      · rename_i c hcK
        rcases hnew c (List.mem_of_getElem? hcK) _ hx with h1 | ⟨b0, hb0, x0, hx0, e⟩
        · exact .inr (.inl h1)
        · exact .inr (.inr ⟨b0, x0, hx0, hrwD b0 hb0, e⟩)
      · cases hx
    · exact .inl hx
  · intro b o ho hmb
    rw [hj]
    split
    · rename_i hc; rw [hnone b hc.1 hc.2] at ho; cases ho
    · exact hmb
  · intro b o ho hmb
    rw [hov]
    split
    · rename_i hc; rw [hnone b hc.1 hc.2] at ho; cases ho
    · split
      · rename_i hbD
        obtain ⟨_, x, hx⟩ := hDD b hbD
        rw [hmb] at hx; cases hx
      · exact ho
  · intro b o ho
    rw [hov]
    split
    · rename_i hc; rw [hnone b hc.1 hc.2] at ho; cases ho
    · split
      · exact ⟨_, rfl⟩
      · exact ⟨o, ho⟩
  · intro b x hx hr
    have hc : ¬ (hp.sz ≤ b ∧ b ≤ hp.sz + K.length) := fun hc => by rw [hmn b hc.1 hc.2] at hx; cases hx
    unfold rw? at hr ⊢
    rw [hov, if_neg hc] at hr
    by_cases hbD : b ∈ D
    · rw [if_pos hbD] at hr; cases hr
    · rw [if_neg hbD] at hr; exact hr
end Go.Proofs.Ytgeoommlmddgpaa.AI
namespace Go.Proofs.Ytgeoommlmddgpaa.AI
open Go Go.RowKit
theorem inert_any {m m' : BM} {h h' : HG} {v v' : Value} (hi : inert v = true) (r : VRel m h v v') : VRel m' h' v v' := by
  cases r with
  | flat hf => exact .flat hf
  | blind h1 => exact .blind h1
  | blind0 => exact .blind0
  | junk h1 => exact .junk h1
  | _ => simp [inert, AI.flat] at hi
theorem killL_ok {D : List Nat} {hp : Hp} (hk : hp.ok) (hD : ∀ b ∈ D, b < hp.sz) : (killL D hp).ok := fun b hb => by
  rw [killL_sz] at hb
  rw [killL_get, if_neg (fun h => by have := hD b h; omega)]
  exact hk b hb
section
variable {P : Program}
theorem lt_of_get {hp : Hp} (hk : hp.ok) {b : Nat} {o : Blk} (h : hp.get b = some o) : b < hp.sz := by
  rcases Nat.lt_or_ge b hp.sz with h1 | h1
  · exact h1
  · rw [hk b h1] at h; cases h
theorem kill_goal (hm : P.follows .mixedOrders = true) {f : FuncId} {fn : Func} {c : Code} {g : HeapFn} (hf : P.funcs[f]? = some fn) (hb : fn.body = some c) (hnm : (fn.name == "runtime.NumGoroutine") = false)
    (H : ∀ args hp v hp', g args hp = some (v, hp') → hp.ok → ∃ D : List Nat, ∃ O : List Blk, hp' = heapOf (O ++ [.dead]) (killL D hp) ∧ (∀ b ∈ D, ∃ o, hp.get b = some o ∧ rwB o = true) ∧
      ∀ (m : BM) (h : HG) (w : World) (args' : Array Value), Sim m (ovr hp h) w → VRelL m (ovr hp h) args args'.toList → (∀ b ∈ D, ∃ x, m b = some x) ∧
        ∃ (K : List Nat) (args0 : List Value) (hpS : Hp) (mS : BM), O.length = K.length ∧ nodupB K = true ∧ hpS.ok ∧ Sim mS hpS.get w ∧ (∀ b x, mS b = some x → rw? hpS.get b = true → rowsOf m D x.1) ∧ VRelL mS hpS.get args0 args'.toList ∧ args0.length ≤ fn.ntmps ∧
        ∀ W, FRwp P fn.ntmps W c ⟨tmsOf args0 0 .leaf, hpS, []⟩ fun e st => (e = .normal ∨ e = .ret) ∧ st.df = [] ∧ ∃ v0, retVal P fn st = some v0 ∧ ok3 v0 = true ∧
          (∀ b ∈ K, ∃ o, st.hp.get b = some o ∧ okBlk o = true ∧ rwB o = true) ∧ (∀ m h x, VRel m h (sh3 K hp.sz v0) x → VRel m h v x) ∧ O = outOf K hp.sz st.hp) : CallGoal P f g := by
  intro args hp v hp' he hk
  obtain ⟨D, O, rfl, hD, hrun⟩ := H args hp v hp' he hk
  have hDlt : ∀ b ∈ D, b < hp.sz := fun b hb => by
    obtain ⟨o, ho, _⟩ := hD b hb
    exact lt_of_get hk ho
  refine ⟨heapOf_ok _ _ (killL_ok hk hDlt), by rw [heapOf_sz, killL_sz]; omega, fun m h w args' hfr s ra => .inr ⟨run_callFunc hf (by rw [hb]; rfl) hnm, ?_⟩⟩
  obtain ⟨hDm, K, args0, hpS, mS, hlen, hK, hkS, sS, hown0, rS, hn, hwp⟩ := hrun m h w args' s ra
  refine (fn_ofS (S := rowsOf m D) (R := fun v0 st => ok3 v0 = true ∧ (∀ b ∈ K, ∃ o, st.hp.get b = some o ∧ okBlk o = true ∧ rwB o = true) ∧ (∀ m h x, VRel m h (sh3 K hp.sz v0) x → VRel m h v x) ∧ O = outOf K hp.sz st.hp) hf hb hn hkS sS hown0 rS (by
    refine FRwp.mono (hwp ⟨w, rowsOf m D⟩) fun e st q => ?_
    obtain ⟨q1, q2, v0, q3, q4, q5, q6, q7⟩ := q
    exact ⟨q1, q2, v0, q3, q4, q5, q6, q7⟩)).mono fun e w' hh => ?_
  obtain ⟨v', v0, st', m', rfl, ⟨q4, q5, q6, q7⟩, rv, hs', _, hbel, hown⟩ := hh
  subst q7
  have hj := join_kill (K := K) (D := D) hk s (fun b hb => ⟨hD b hb, hDm b hb⟩) hbel hs' hK (fun b hb => by
      obtain ⟨o, h1, h2, _⟩ := q5 b hb; exact ⟨o, h1, h2⟩) (fun b hb x hx => hown b x hx (by
      obtain ⟨o, h1, _, h3⟩ := q5 b hb
      unfold rw?; rw [h1]; cases o <;> exact h3)) (fun b h1 h2 => hfr b h1 (by rw [heapOf_sz, killL_sz]; simp [outOf]; omega)) rv q4
  exact ⟨v', rfl, _, hj.1, q6 _ _ _ hj.2⟩
end
end Go.Proofs.Ytgeoommlmddgpaa.AI
namespace Go.Proofs.Ytgeoommlmddgpaa.AI
open Go Go.RowKit
structure FRq (n : Nat) (W : Base) (x : Nat × Nat × Nat) (st : St) (a : Act) (w : World) (m : BM) : Prop where
  fr : FR n W st a w m
  pin : st.hp.get 0 = some .dead ∨ m 0 = some x
def FRp (P : Program) (N : Nat) (W : Base) (x : Nat × Nat × Nat) (c : Code) (st : St) (Q : Exit → St → Prop) : Prop :=
  ∀ a w m, FRq N W x st a w m → c.wp P (fun e a' w' => ∃ st' m', FRq N W x st' a' w' m' ∧ Q e st') a w
section
variable {P : Program} {N : Nat} {W : Base} {x : Nat × Nat × Nat}
theorem FRp.mono {c : Code} {st : St} {Q Q' : Exit → St → Prop} (h : FRp P N W x c st Q) (hq : ∀ e st', Q e st' → Q' e st') : FRp P N W x c st Q' := fun a w m f =>
  wp_mono (h a w m f) fun e a' w' hh => by
    obtain ⟨st', m', f', q⟩ := hh
    exact ⟨st', m', f', hq e st' q⟩
theorem FRp.seq {c d : Code} {st : St} {Q1 Q : Exit → St → Prop} (h1 : FRp P N W x c st Q1) (h2 : ∀ st', Q1 .normal st' → FRp P N W x d st' Q) (h3 : ∀ e st', e ≠ .normal → Q1 e st' → Q e st') : FRp P N W x (.seq c d) st Q := fun a w m f => by
  refine wp_seq (wp_mono (h1 a w m f) fun e a' w' hh => ?_)
  obtain ⟨st', m', f', q⟩ := hh
  cases e with
  | normal => exact h2 st' q a' w' m' f'
  | _ => exact ⟨st', m', f', h3 _ st' (by simp) q⟩
theorem FRp.block {id : Nat} {c : Code} {st : St} {Q : Exit → St → Prop} (h : FRp P N W x c st fun e st' => match e with | .exit i => if i = id then Q .normal st' else Q (.exit i) st' | e => Q e st') : FRp P N W x (.block id c) st Q := fun a w m f => by
  refine wp_block (wp_mono (h a w m f) fun e a' w' hh => ?_)
  obtain ⟨st', m', f', q⟩ := hh
  cases e with
  | exit i =>
    show (if i = id then _ else _)
    by_cases hi : i = id
    · simp only [hi, if_true] at q ⊢
      exact ⟨st', m', f', q⟩
    · simp only [hi, if_false] at q ⊢
      exact ⟨st', m', f', q⟩
  | _ => exact ⟨st', m', f', q⟩
theorem FRp.cond_true {y : Operand} {c d : Code} {st : St} {Q : Exit → St → Prop} (hx : okConst y = true) (hv : st.eval y = .bool true) (h : FRp P N W x c st Q) : FRp P N W x (.cond y c d) st Q := fun a w m f => by
  refine wp_cond_true ?_ (h a w m f)
  have := f.fr.rel.tm.eval hx
  rw [hv] at this
  exact this.of_bool
theorem FRp.cond_false {y : Operand} {c d : Code} {st : St} {Q : Exit → St → Prop} (hx : okConst y = true) (hv : st.eval y = .bool false) (h : FRp P N W x d st Q) : FRp P N W x (.cond y c d) st Q := fun a w m f => by
  refine wp_cond_false ?_ (h a w m f)
  have := f.fr.rel.tm.eval hx
  rw [hv] at this
  exact this.of_bool
theorem FRp.skip {st : St} {Q : Exit → St → Prop} (h : Q .normal st) : FRp P N W x .skip st Q := fun a w m f => wp_skip ⟨st, m, f, h⟩
theorem FRp.loop {c : Code} {Q : Exit → St → Prop} (I : Nat → St → Prop) (hI : ∀ k st, I k st → FRp P N W x c st fun e st' => (e = .normal ∧ ∃ k', k' < k ∧ I k' st') ∨ (e ≠ .normal ∧ Q e st')) {k : Nat} {st : St} (h : I k st) : FRp P N W x (.loop c) st Q := fun a w m f => by
  have key : ∀ k st a w m, I k st → FRq N W x st a w m → Code.rounds P c (fun e a' w' => ∃ st' m', FRq N W x st' a' w' m' ∧ Q e st') (k + 1) a w := by
    intro k
    induction k using Nat.strongRecOn with
    | _ k ih =>
      intro st a w m hi f
      rw [rounds_succ]
      refine wp_mono (hI k st hi a w m f) fun e a' w' hh => ?_
      obtain ⟨st', m', f', q⟩ := hh
      rcases q with ⟨rfl, k', hk, hi'⟩ | ⟨hne, q⟩
      · exact rounds_le (show k' + 1 ≤ k by omega) (ih k' hk st' a' w' m' hi' f')
      · cases e with
        | normal => exact absurd rfl hne
        | _ => exact ⟨st', m', f', q⟩
  exact wp_loop_rounds (k + 1) (key k st a w m h f)
theorem segP {call : CallF} (hc : CallOk P call) (hm : P.follows .mixedOrders = true) {n : Nat} {c : Code} {st st' : St} {e : Exit} (he : exec P call n c st = some (e, st')) (hs : codeSafe P N c = true) {w : World} {a : Act} {m : BM} (f : FRq N W x st a w m) :
    c.wp P (fun e' a' w' => e' = e ∧ ∃ m', FRq N W x st' a' w' m') a w := by
  obtain ⟨_, k1, _, k3⟩ := exec_sound hc hm n c st e st' he hs f.fr.ok
  refine wp_mono (wpR_wp (k3 m hg0 w a (fun _ _ _ => rfl) f.fr.rel)) fun e' a' w' q => ?_
  obtain ⟨q1, m', g, r⟩ := q
  refine ⟨q1, m', f.fr.go k1 g r, ?_⟩
  have le := g.le
  rw [ovr_hg0 f.fr.ok, ovr_hg0 k1] at le
  rcases f.pin with h | h
  · exact .inl (le.dead 0 h)
  · exact le.keep 0 x h
theorem FRp.pieceY0 {call : CallF} (hc : CallOk P call) (hm : P.follows .mixedOrders = true) {n : Nat} {c : Code} {st : St} {e : Exit} {Q : Exit → St → Prop} (p : Nat) (K Ts : List Nat) (O : List Blk) (L : List (Nat × Value))
    (he : (exec P call n c st).map (look2 p K Ts) = some (e, O, L, true)) (hs : codeSafe P N c = true) (hK : nodupB K = true) (hT : Ts.all (fun t => Nat.blt t N) = true)
    (hO : ∀ i, i < p → ∀ o, O[i]? = some o → Fixed 0 o) (h0 : K[0]? = some 0) (h : ∀ g, Q e (stOf N g L O)) : FRp P N W x c st Q := by
  obtain ⟨⟨e', st'⟩, h1, h2⟩ := Option.map_eq_some_iff.1 he
  simp only [look2, Prod.mk.injEq] at h2
  obtain ⟨rfl, rfl, rfl, h5⟩ := h2
  obtain ⟨h5, h7⟩ := Bool.and_eq_true_iff.1 h5
  obtain ⟨h5, h6⟩ := Bool.and_eq_true_iff.1 h5
  obtain ⟨h3, h4⟩ := Bool.and_eq_true_iff.1 h5
  intro a w m f
  refine wp_mono (segP hc hm h1 hs f) fun e2 a' w' hh => ?_
  obtain ⟨rfl, m', f'⟩ := hh
  have hlen : ((K.take p).map (fun b => (st'.hp.get b).getD .dead) ++ (K.drop p).map (fun b => renBlk K ((st'.hp.get b).getD .dead))).length = K.length := by
    simp; omega
  have hget : ∀ (i b : Nat), K[i]? = some b → ∃ o, st'.hp.get b = some o := fun i b hi => by
    have := List.all_eq_true.1 h3 b (List.mem_of_getElem? hi)
    cases hg : st'.hp.get b with
    | none => rw [hg] at this; cases this
    | some o => exact ⟨o, rfl⟩
  have hB : ∀ (i b : Nat) (o2 : Blk), K[i]? = some b → ((K.take p).map (fun b => (st'.hp.get b).getD .dead) ++ (K.drop p).map (fun b => renBlk K ((st'.hp.get b).getD .dead)))[i]? = some o2 → ∃ o, st'.hp.get b = some o ∧ o2 = renBlk K o ∧ niceBlk o = true := fun i b o2 hi ho => by
      obtain ⟨o, hg⟩ := hget i b hi
      refine ⟨o, hg, ?_⟩
      have hiK : i < K.length := (List.getElem?_eq_some_iff.1 hi).1
      by_cases hip : i < p
      · have e1 : ((K.take p).map (fun b => (st'.hp.get b).getD .dead) ++ (K.drop p).map (fun b => renBlk K ((st'.hp.get b).getD .dead)))[i]? = some o := by
          rw [List.getElem?_append_left (by simp; omega), List.getElem?_map, List.getElem?_take, if_pos hip, hi]
          simp [hg]
        rw [e1] at ho
        have e3 : o = o2 := by simpa using ho
        subst e3
        obtain ⟨k1, k2⟩ := hO i hip o e1
        exact ⟨(k2 K (fun i hi => absurd hi (Nat.not_lt_zero _))).symm, k1⟩
      · have hmin : min p K.length = p := by omega
        rw [List.getElem?_append_right (by simp; omega)] at ho
        simp only [List.length_map, List.length_take, hmin, List.getElem?_map, List.getElem?_drop] at ho
        rw [show p + (i - p) = i by omega, hi] at ho
        simp only [Option.map_some, Option.some.injEq, hg, Option.getD_some] at ho
        refine ⟨ho.symm, ?_⟩
        have hbm : b ∈ K.drop p := List.mem_of_getElem? (by rw [List.getElem?_drop, show p + (i - p) = i by omega]; exact hi)
        have := List.all_eq_true.1 h4 b hbm
        simpa [hg] using this
  obtain ⟨g, f2⟩ := f'.fr.canon3 K ((K.take p).map (fun b => (st'.hp.get b).getD .dead) ++ (K.drop p).map (fun b => renBlk K ((st'.hp.get b).getD .dead))) (Ts.map fun t => (t, ren2 K (st'.tget t))) (nodupB_ok hK) hlen hB (fun x hx => by
      obtain ⟨t, ht, rfl⟩ := List.mem_map.1 hx
      exact ⟨by have := List.all_eq_true.1 hT t ht; simpa [Nat.blt_eq] using this, List.all_eq_true.1 h6 t ht, rfl⟩) (List.isEmpty_iff.1 h7)
  refine ⟨_, _, ⟨f2, ?_⟩, h g⟩
  have hlt : 0 < K.length := (List.getElem?_eq_some_iff.1 h0).1
  rcases f'.pin with hd | hd
  · refine .inl ?_
    obtain ⟨o2, ho2⟩ : ∃ o2, ((K.take p).map (fun b => (st'.hp.get b).getD .dead) ++ (K.drop p).map (fun b => renBlk K ((st'.hp.get b).getD .dead)))[0]? = some o2 := ⟨_, List.getElem?_eq_getElem (by omega)⟩
    obtain ⟨o, q1, q2, _⟩ := hB 0 0 o2 h0 ho2
    rw [hd] at q1; cases q1
    show (heapOf _ hp0).get 0 = _
    rw [heapOf_get]
    simp only [hp0, Nat.not_lt_zero, if_false, Nat.sub_zero]
    rw [List.getElem?_append_left (by omega), ho2, q2]
    rfl
  · refine .inr ?_
    unfold canM
    rw [h0]
    exact hd
theorem FRp.piece {call : CallF} (hc : CallOk P call) (hm : P.follows .mixedOrders = true) {n : Nat} {c : Code} {cl : List (Tmp × Value)} {ch : ClH} {ce : ClE} {st : St} {e : Exit} {q : List Obl} {r : List OblH} {y : List OblE} {Q : Exit → St → Prop} (p : Nat) (K Ts : List Nat) (O : List Blk) (L : List (Nat × Value))
    (he : (execE P call cl ch ce n c st).map (fun y => (look2 p K Ts (y.1, y.2.1), y.2.2)) = some ((e, O, L, true), q, r, y)) (hq : Met q) (hr : MetH r) (hx : MetE y) (hs : codeSafe P N c = true) (hK : nodupB K = true) (hT : Ts.all (fun t => Nat.blt t N) = true)
    (hO : ∀ i, i < p → ∀ o, O[i]? = some o → Fixed 0 o) (h0 : K[0]? = some 0) (h : ∀ g, Q e (stOf N g L O)) : FRp P N W x c st Q := by
  obtain ⟨⟨e', st', q', r', x'⟩, h1, h2⟩ := Option.map_eq_some_iff.1 he
  simp only [Prod.mk.injEq] at h2
  obtain ⟨h2, rfl, rfl, rfl⟩ := h2
  refine FRp.pieceY0 hc hm (n := n) p K Ts O L ?_ hs hK hT hO h0 h
  rw [execE_ok h1 hq hr hx]
  exact congrArg some h2
theorem fn_ofP {w0 : World} {f : FuncId} {fn : Func} {c : Code} {args : List Value} {args' : Array Value} {hp : Hp} {m : BM} {R : Value → St → Prop} (hf : P.funcs[f]? = some fn) (hb : fn.body = some c) (hn : args.length ≤ fn.ntmps) (hk : hp.ok)
    (s : Sim m hp.get w0) (h0 : m 0 = some x) (ro : ∀ b y, m b = some y → rw? hp.get b = true → y.1 = x.1) (r : VRelL m hp.get args args'.toList)
    (h : FRp P fn.ntmps ⟨w0, fun k => k = x.1⟩ x c ⟨tmsOf args 0 .leaf, hp, []⟩ fun e st => (e = .normal ∨ e = .ret) ∧ st.df = [] ∧ ∃ v, retVal P fn st = some v ∧ R v st) :
    Calls P f args' w0 fun e w' => ∃ v' v st' m', e = .returned v' ∧ R v st' ∧ VRel m' st'.hp.get v v' ∧ Sim m' st'.hp.get w' ∧ Keeps ⟨w0, fun k => k = x.1⟩ w' ∧ (st'.hp.get 0 = some .dead ∨ m' 0 = some x) := by
  refine calls_of_wp hf hb (wp_mono (h _ w0 m ⟨⟨hk, ⟨by rw [ovr_hg0 hk]; exact s, by rw [ovr_hg0 hk]; exact args_rel r hn, .nil⟩, Keeps.refl _ _, fun b y hx hr => .inr (ro b y hx hr)⟩, .inr h0⟩) fun e a' w' hh => ?_)
  obtain ⟨st', m', f', q1, q2, v, q3, q4⟩ := hh
  have hd : a'.defers = [] := by
    have := f'.fr.rel.df
    rw [q2] at this
    exact this.of_nil
  obtain ⟨v', h1, h2⟩ := retVal_sound f'.fr.ok f'.fr.rel.sim f'.fr.rel.tm q3
  have e1 := ovr_hg0 f'.fr.ok
  have hs := f'.fr.rel.sim
  rw [e1] at h2 hs
  rcases q1 with rfl | rfl
  · exact ⟨hd, v', h1, v', v, st', m', rfl, q4, h2, hs, f'.fr.below, f'.pin⟩
  · exact ⟨hd, v', h1, v', v, st', m', rfl, q4, h2, hs, f'.fr.below, f'.pin⟩
theorem putIn_go {m m' : BM} {hp hpR : Hp} {h : HG} {w w' : World} (hk : hp.ok) (s : Sim m (ovr hp h) w) {b : Nat} {ty : TypeId} {L L' : List Value} (hb : hp.get b = some (.cells ty L false)) (hx : m b = some x) (kp : Keeps ⟨w, fun k => k = x.1⟩ w')
    (hsim : Sim m' hpR.get w') (h0 : m' 0 = some x) (hg0 : hpR.get 0 = some (.cells ty L' false)) (iL : L'.all inert = true) : Go1 m (ovr hp h) w m (ovr (hp.put b (.cells ty L' false)) h) w' := by
  have hlt := lt_of_get hk hb
  have gb := ovr_sub hk h b _ hb
  have hov : ∀ b', ovr (hp.put b (.cells ty L' false)) h b' = if b' = b then some (.cells ty L' false) else ovr hp h b' := by
    intro b'
    unfold ovr
    rw [Hp.sz_put, Hp.get_put]
    by_cases h1 : b' = b
    · subst h1; rw [if_pos hlt, if_pos rfl, if_pos rfl]
    · rw [if_neg h1, if_neg h1]
  have hrwb : rw? (ovr hp h) b = true := by unfold rw?; rw [gb]; rfl
  have le : Le m (ovr hp h) m (ovr (hp.put b (.cells ty L' false)) h) := ⟨fun b' hd => by
    rw [hov]
    by_cases h1 : b' = b
    · subst h1; rw [gb] at hd; cases hd
    · rw [if_neg h1]; exact hd, fun b' y hy => .inr hy⟩
  have hrw : ∀ b', rw? (ovr (hp.put b (.cells ty L' false)) h) b' = rw? (ovr hp h) b' := fun b' => by
    by_cases h1 : b' = b
    · subst h1; rw [hrwb]; unfold rw?; rw [hov, if_pos rfl]; rfl
    · unfold rw?; rw [hov, if_neg h1]
  have hlv : ∀ b', live? (ovr (hp.put b (.cells ty L' false)) h) b' = live? (ovr hp h) b' := fun b' => by
    by_cases h1 : b' = b
    · subst h1; unfold live?; rw [hov, if_pos rfl, gb]
    · unfold live?; rw [hov, if_neg h1]
  refine ⟨le, ⟨fun b' y hy => ?_, fun b1 b2 x1 x2 q1 q2 hr hl e => s.inj b1 b2 x1 x2 q1 q2 (by rw [← hrw]; exact hr) (by rw [← hlv]; exact hl) e⟩, kp.size, fun b' y hy => .inl hy, fun r hr hn => kp.block r hr (fun e => hn b x hx hrwb e.symm), fun _ _ _ h => h, fun b' o ho hm => ?_, fun b' o ho => ?_, fun b' y hy hr => by rw [← hrw]; exact hr, kp.os, kp.tape, kp.output⟩
  · by_cases h1 : b' = b
    · subst h1
      rw [hx] at hy; cases hy
      refine ⟨_, by rw [hov, if_pos rfl], ?_⟩
      obtain ⟨o, ho, hbr⟩ := hsim.dom 0 x h0
      rw [hg0] at ho; cases ho
      obtain ⟨c, fr, q1, q2, q3, q4, q5⟩ := hbr
      exact ⟨c, fr, q1, q2, q3, fun i v v' p1 p2 => inert_any (List.all_eq_true.1 iL v (List.mem_of_getElem? p1)) (q4 i v v' p1 p2), q5⟩
    · obtain ⟨o, ho, hbr⟩ := s.dom b' y hy
      refine ⟨o, by rw [hov, if_neg h1]; exact ho, ?_⟩
      by_cases hl : live? (ovr hp h) b' = true
      · refine hbr.mono le (kp.block y.1 (s.lt hy hl) fun e => h1 ?_)
        exact (s.inj b b' x y hx hy hrwb hl e.symm).symm
      · cases o with
        | dead => trivial
        | cells => unfold live? at hl; rw [ho] at hl; exact absurd rfl hl
        | map => unfold live? at hl; rw [ho] at hl; exact absurd rfl hl
  · rw [hov]
    by_cases h1 : b' = b
    · subst h1; rw [hx] at hm; cases hm
    · rw [if_neg h1]; exact ho
  · by_cases h1 : b' = b
    · exact ⟨_, by rw [hov, if_pos h1]⟩
    · exact ⟨o, by rw [hov, if_neg h1]; exact ho⟩
theorem put_goal (hm : P.follows .mixedOrders = true) {f : FuncId} {fn : Func} {c : Code} {g : HeapFn} (hf : P.funcs[f]? = some fn) (hb : fn.body = some c) (hnm : (fn.name == "runtime.NumGoroutine") = false)
    (H : ∀ args hp v hp', g args hp = some (v, hp') → hp.ok → ∃ (b : Nat) (ty : TypeId) (L L' : List Value), hp' = hp.put b (.cells ty L' false) ∧ hp.get b = some (.cells ty L false) ∧ L.all inert = true ∧ L'.all inert = true ∧
      ∀ (m : BM) (h : HG) (w : World) (args' : Array Value), Sim m (ovr hp h) w → VRelL m (ovr hp h) args args'.toList → ∃ x, m b = some x ∧
        ∃ (args0 : List Value), VRelL (canM m [b]) (heapOf [.cells ty L false, .dead] hp0).get args0 args'.toList ∧ args0.length ≤ fn.ntmps ∧
        ∀ W x, FRp P fn.ntmps W x c ⟨tmsOf args0 0 .leaf, heapOf [.cells ty L false, .dead] hp0, []⟩ fun e st => (e = .normal ∨ e = .ret) ∧ st.df = [] ∧ ∃ v0, retVal P fn st = some v0 ∧
          (∀ m h m' h' x, VRel m h v0 x → VRel m' h' v x) ∧ st.hp.get 0 = some (.cells ty L' false)) : CallGoal P f g := by
  intro args hp v hp' he hk
  obtain ⟨b, ty, L, L', rfl, hg, iL, iL', hrun⟩ := H args hp v hp' he hk
  have hlt := lt_of_get hk hg
  have hkput : (hp.put b (.cells ty L' false)).ok := fun c hc => by
    rw [Hp.sz_put] at hc
    rw [Hp.get_put, if_neg (by omega)]
    exact hk c hc
  refine ⟨hkput, by rw [Hp.sz_put]; exact Nat.le_refl _, fun m h w args' hfr s ra => .inr ⟨run_callFunc hf (by rw [hb]; rfl) hnm, ?_⟩⟩
  obtain ⟨x, hx, args0, rS, hn, hwp⟩ := hrun m h w args' s ra
  obtain ⟨r, δ, E⟩ := x
  have g1 := ovr_sub hk h b _ hg
  have sS : Sim (canM m [b]) (heapOf [.cells ty L false, .dead] hp0).get w := by
    obtain ⟨o', ho', hbr⟩ := s.dom b _ hx
    rw [g1] at ho'; cases ho'
    obtain ⟨c, fr, q1, q2, q3, q4, q5⟩ := hbr
    have e0 : (heapOf [.cells ty L false, .dead] hp0).get 0 = some (.cells ty L false) := by rw [heapOf_get]; rfl
    have cM : ∀ i y, canM m [b] i = some y → (i = 0 ∧ m b = some y) := by
      intro i y hy
      unfold canM at hy
      match i with
      | 0 => exact ⟨rfl, hy⟩
      | i + 1 => simp at hy
    refine ⟨fun i y hy => ?_, fun i i' y y' hy hy' hr hl hxx => ?_⟩
    · obtain ⟨rfl, hz⟩ := cM i y hy
      rw [hx] at hz; cases hz
      exact ⟨_, e0, c, fr, q1, q2, q3, fun i v v' p1 p2 => inert_any (List.all_eq_true.1 iL v (List.mem_of_getElem? p1)) (q4 i v v' p1 p2), q5⟩
    · obtain ⟨rfl, _⟩ := cM i y hy
      obtain ⟨rfl, _⟩ := cM i' y' hy'
      rfl
  refine (fn_ofP (x := (r, δ, E)) (R := fun v0 st => (∀ m h m' h' x, VRel m h v0 x → VRel m' h' v x) ∧ st.hp.get 0 = some (.cells ty L' false)) hf hb hn (heapOf_ok _ _ hp0_ok) sS (by unfold canM; exact hx) (fun b' y hy _ => by
      unfold canM at hy
      match b' with
      | 0 => simp at hy; rw [hx] at hy; cases hy; rfl
      | b' + 1 => simp at hy) rS (FRp.mono (hwp _ _) fun e st q => by
      obtain ⟨q1, q2, v0, q3, q4, q5⟩ := q
      exact ⟨q1, q2, v0, q3, q4, q5⟩)).mono fun e w' hh => ?_
  obtain ⟨v', v0, st', m', rfl, ⟨q4, q5⟩, rv, hs', hkp, hpin⟩ := hh
  have h0 : m' 0 = some (r, δ, E) := by
    rcases hpin with hd | hd
    · rw [q5] at hd; cases hd
    · exact hd
  exact ⟨v', rfl, m, putIn_go hk s hg hx hkp hs' h0 q5 iL', q4 _ _ _ _ _ rv⟩
end
end Go.Proofs.Ytgeoommlmddgpaa.AI
namespace Go.Proofs.Ytgeoommlmddgpaa.AI
open Go Go.Proofs Go.RowKit
inductive Cm where
  | v (w : Value) : Cm
  | h (w : Value) (O : List Blk) : Cm
  | e (w : Value) (es : List Eff) : Cm
structure Acc where
  cs : List (Nat × Cm)
  k : Nat
  q : List Obl
  r : List OblH
  x : List OblE
def Good (a : Acc) : Prop := Met a.q ∧ MetH a.r ∧ MetE a.x
abbrev CallN := FuncId → List Value → Hp → Acc → Option (Value × Hp × Acc)
def CnOk (call : CallF) (cn : CallN) : Prop := ∀ f args h a v h' a', cn f args h a = some (v, h', a') → Good a' → Good a ∧ call f args h = some (v, h')
def pushV (hp : Hp) (r : Value × Option Blk) : Value × Hp := (r.1, match r.2 with
  | some b => hp.push b
  | none => hp)
def claimN (P : Program) (call : CallF) (o : Oper) (st : St) (c : Cm) (a : Acc) : Option (Value × Hp × List (FuncId × List Value) × Acc) :=
  match c with
  | .v w => match cls P o with
    | .big => match aStep P call o st with
      | some (u, h, d) => some (w, h, d, ⟨a.cs, a.k, (some u, w) :: a.q, a.r, a.x⟩)
      | none => none
    | _ => some (w, st.hp, st.df, ⟨a.cs, a.k, (plainV P st.eval st.hp.get st.hp.sz o, w) :: a.q, a.r, a.x⟩)
  | .h w O => match cls P o with
    | .pure => some (w, heapOf O st.hp, st.df, ⟨a.cs, a.k, a.q, ((opP P st.eval st.hp.sz o).map (pushV st.hp), (w, heapOf O st.hp)) :: a.r, a.x⟩)
    | .read => none
    | .big => match opB P st.eval st.hp.sz st.hp.get o, o.op with
      | none, .call c => match target st.eval c with
        | some (f, args) => some (w, heapOf O st.hp, st.df, ⟨a.cs, a.k, a.q, (call f args st.hp, (w, heapOf O st.hp)) :: a.r, a.x⟩)
        | none => none
      | _, _ => none
  | .e w es => match cls P o, callOf o with
    | .big, none => some (w, st.hp.eff es, st.df, ⟨a.cs, a.k, a.q, a.r, (opB P st.eval st.hp.sz st.hp.get o, (w, es)) :: a.x⟩)
    | .big, some c => match target st.eval c with
      | some (f, args) => some (w, st.hp.eff es, st.df, ⟨a.cs, a.k, a.q, (call f args st.hp, (w, st.hp.eff es)) :: a.r, a.x⟩)
      | none => none
    | _, _ => none
def plainN (P : Program) (call : CallF) (cn : CallN) (o : Oper) (st : St) (a : Acc) : Option (Value × Hp × List (FuncId × List Value) × Acc) :=
  match cls P o with
  | .big => match opB P st.eval st.hp.sz st.hp.get o with
    | some (v, es) => some (v, st.hp.eff es, st.df, a)
    | none => match o.op with
      | .call c => match target st.eval c with
        | some (f, args) => match cn f args st.hp a with
          | some (v, h, a') => some (v, h, st.df, a')
          | none => none
        | none => none
      | .defer c => match target st.eval c with
        | some (f, args) => some (undef, st.hp, (f, args) :: st.df, a)
        | none => none
      | _ => none
  | _ => match aStep P call o st with
    | some (v, h, d) => some (v, h, d, a)
    | none => none
def stepN (P : Program) (call : CallF) (cn : CallN) (o : Oper) (st : St) (a : Acc) : Option (Value × Hp × List (FuncId × List Value) × Acc) :=
  match a.cs with
  | [] => plainN P call cn o st ⟨[], a.k + 1, a.q, a.r, a.x⟩
  | (j, c) :: cs => match Nat.beq j a.k with
    | true => claimN P call o st c ⟨cs, a.k + 1, a.q, a.r, a.x⟩
    | false => plainN P call cn o st ⟨(j, c) :: cs, a.k + 1, a.q, a.r, a.x⟩
def runOpsN (P : Program) (call : CallF) (cn : CallN) (ops : Array Oper) : List Oper → St → Acc → Option (St × Acc)
  | [], st, a => some (st, a)
  | o :: os, st, a => match aWanted ops st o with
    | false => runOpsN P call cn ops os (st.tput o.dst undef) a
    | true => match stepN P call cn o st a with
      | some (v, h, d, a') => runOpsN P call cn ops os ({ st with hp := h, df := d }.tput o.dst v) a'
      | none => none
def runLogN (P : Program) (call : CallF) (cn : CallN) (ops : Array Oper) : List Oper → Nat → St → Acc → Option (St × List Log × Acc)
  | [], _, st, a => some (st, [], a)
  | o :: os, i, st, a => match aWanted ops st o with
    | false => runLogN P call cn ops os (i + 1) (st.tput o.dst undef) a
    | true => match stepN P call cn o st a with
      | some (v, h, d, a1) => match runLogN P call cn ops os (i + 1) ({ st with hp := h, df := d }.tput o.dst v) a1 with
        | some (st', l, a2) => match cls P o with
          | .pure => some (st', l, a2)
          | .read => some (st', .read i (fun get => opR P st.eval get o) v :: l, a2)
          | .big => some (st', .big i st.hp h :: l, a2)
        | none => none
      | none => none
def execN (P : Program) (call : CallF) (cn : CallN) : Nat → Code → St → Acc → Option (Exit × St × Acc)
  | 0, _, _, _ => none
  | n + 1, c, st, a => match c with
    | .skip | .label _ => some (.normal, st, a)
    | .region _ ops draw => match draw with
      | false => match runOpsN P call cn ops ops.toList st a with
        | some (st', a') => some (.normal, st', a')
        | none => none
      | true => match floats P ops with
        | [] => match runOpsN P call cn ops ops.toList st a with
          | some (st', a') => some (.normal, st', a')
          | none => none
        | p :: ps => match runLogN P call cn ops ops.toList 0 st a with
          | some (st', l, a') => match pairsQ l (p :: ps) with
            | some q2 => some (.normal, st', ⟨a'.cs, a'.k, q2 ++ a'.q, a'.r, a'.x⟩)
            | none => none
          | none => none
    | .seq x y => match execN P call cn n x st a with
      | some (.normal, st', a') => execN P call cn n y st' a'
      | r => r
    | .cond x t f => match st.eval x with
      | .bool true => execN P call cn n t st a
      | .bool false => execN P call cn n f st a
      | _ => none
    | .block id body => match execN P call cn n body st a with
      | some (.exit i, st', a') => match Nat.beq i id with
        | true => some (.normal, st', a')
        | false => some (.exit i, st', a')
      | r => r
    | .loop body => match execN P call cn n body st a with
      | some (.normal, st', a') => execN P call cn n (.loop body) st' a'
      | r => r
    | .scope body => execN P call cn n body st a
    | .exit id => some (.exit id, st, a)
    | .ret => some (.ret, st, a)
    | _ => none
def endN (P : Program) (ext : Ext) (n : Nat) (fn : Func) (st : St) (a : Acc) : Option (Value × Hp × Acc) :=
  match runDf (aPlain P ext (aCall P ext n) n) st.df st.hp with
  | some h' => match retVal P fn { st with hp := h' } with
    | some v => some (v, h', a)
    | none => none
  | none => none
def callN (P : Program) (ext : Ext) : Nat → CallN
  | 0, _, _, _, _ => none
  | n + 1, f, args, h, a => match ext f with
    | some e => match e (aCall P ext n) args h with
      | some (v, h') => some (v, h', a)
      | none => none
    | none => match P.funcs[f]? with
      | none => none
      | some fn => match fn.body with
        | none => none
        | some c => match Nat.ble args.length fn.ntmps with
          | false => none
          | true => match execN P (aCall P ext n) (callN P ext n) n c ⟨tmsOf args 0 .leaf, h, []⟩ a with
            | some (.normal, st, a') => endN P ext n fn st a'
            | some (.ret, st, a') => endN P ext n fn st a'
            | _ => none
section
variable {P : Program} {call : CallF} {cn : CallN}
theorem claimN_ok {o : Oper} {st : St} {c : Cm} {a a' : Acc} {v : Value} {h : Hp} {d : List (FuncId × List Value)} (he : claimN P call o st c a = some (v, h, d, a')) (g : Good a') : Good a ∧ aStep P call o st = some (v, h, d) := by
  unfold claimN at he
  obtain ⟨gq, gr, gx⟩ := g
  cases c with
  | v w =>
    simp only at he
    split at he
    · split at he
      · rename_i hs
        cases he
        have := gq _ (.head _)
        simp only [Option.some.injEq] at this
        exact ⟨⟨fun o ho => gq o (.tail _ ho), gr, gx⟩, by rw [hs, this]⟩
      · cases he
    · cases he
      exact ⟨⟨fun o ho => gq o (.tail _ ho), gr, gx⟩, plainV_step (gq _ (.head _))⟩
  | h w O =>
    simp only at he
    split at he
    · rename_i hc
      cases he
      have := gr _ (.head _)
      obtain ⟨⟨v1, b1⟩, h1, h2⟩ := Option.map_eq_some_iff.1 this
      refine ⟨⟨gq, fun o ho => gr o (.tail _ ho), gx⟩, ?_⟩
      unfold aStep
      simp only [hc, h1]
      unfold pushV at h2
      simp only [Prod.mk.injEq] at h2
      obtain ⟨rfl, h3⟩ := h2
      cases b1 with
      | none => simp only at h3 ⊢; rw [← h3]
      | some b => simp only at h3 ⊢; rw [← h3]
    · cases he
    · rename_i hc
      split at he
      · rename_i hb ho
        split at he
        · rename_i ht
          cases he
          have := gr _ (.head _)
          simp only at this
          refine ⟨⟨gq, fun o ho => gr o (.tail _ ho), gx⟩, ?_⟩
          unfold aStep
          simp only [hc, hb, ho, ht, this]
        · cases he
      · cases he
  | e w es =>
    simp only at he
    split at he
    · rename_i hc _
      cases he
      have := gx _ (.head _)
      simp only at this
      refine ⟨⟨gq, gr, fun o ho => gx o (.tail _ ho)⟩, ?_⟩
      unfold aStep
      simp only [hc, this]
    · rename_i c hc hcall
      obtain ⟨ho, y, hy⟩ := callOf_some hcall
      split at he
      · rename_i ht
        cases he
        have := gr _ (.head _)
        simp only at this
        have hb : opB P st.eval st.hp.sz st.hp.get o = none := by
          unfold opB
          simp only [ho, hy]
        refine ⟨⟨gq, fun o ho => gr o (.tail _ ho), gx⟩, ?_⟩
        unfold aStep
        simp only [hc, hb, ho, ht, this]
      · cases he
    · cases he
theorem plainN_ok (hcn : CnOk call cn) {o : Oper} {st : St} {a a' : Acc} {v : Value} {h : Hp} {d : List (FuncId × List Value)} (he : plainN P call cn o st a = some (v, h, d, a')) (g : Good a') : Good a ∧ aStep P call o st = some (v, h, d) := by
  unfold plainN at he
  split at he
  · rename_i hc
    split at he
    · rename_i hb
      cases he
      exact ⟨g, by unfold aStep; simp only [hc, hb]⟩
    · rename_i hb
      split at he
      · rename_i ho
        split at he
        · rename_i ht
          split at he
          · rename_i hcall
            cases he
            obtain ⟨g1, g2⟩ := hcn _ _ _ _ _ _ _ hcall g
            exact ⟨g1, by unfold aStep; simp only [hc, hb, ho, ht, g2]⟩
          · cases he
        · cases he
      · rename_i ho
        split at he
        · rename_i ht
          cases he
          exact ⟨g, by unfold aStep; simp only [hc, hb, ho, ht]⟩
        · cases he
      · cases he
  · split at he
    · rename_i hs; cases he; exact ⟨g, hs⟩
    · cases he
theorem stepN_ok (hcn : CnOk call cn) {o : Oper} {st : St} {a a' : Acc} {v : Value} {h : Hp} {d : List (FuncId × List Value)} (he : stepN P call cn o st a = some (v, h, d, a')) (g : Good a') : Good a ∧ aStep P call o st = some (v, h, d) := by
  unfold stepN at he
  split at he
  · obtain ⟨g1, h1⟩ := plainN_ok (a := ⟨[], a.k + 1, a.q, a.r, a.x⟩) hcn he g
    exact ⟨g1, h1⟩
  · rename_i j c cs _
    split at he
    · obtain ⟨g1, h1⟩ := claimN_ok (a := ⟨cs, a.k + 1, a.q, a.r, a.x⟩) he g
      exact ⟨g1, h1⟩
    · obtain ⟨g1, h1⟩ := plainN_ok (a := ⟨(j, c) :: cs, a.k + 1, a.q, a.r, a.x⟩) hcn he g
      exact ⟨g1, h1⟩
theorem runOpsN_ok (hcn : CnOk call cn) {ops : Array Oper} : ∀ {os : List Oper} {st st' : St} {a a' : Acc}, runOpsN P call cn ops os st a = some (st', a') → Good a' → Good a ∧ runOps P call ops os st = some st'
  | [], st, st', a, a', he, g => by cases he; exact ⟨g, rfl⟩
  | o :: os, st, st', a, a', he, g => by
    unfold runOpsN at he
    unfold runOps
    split at he
    · rename_i hw; simp only [hw]; exact runOpsN_ok hcn he g
    · rename_i hw
      simp only [hw]
      split at he
      · rename_i hs
        obtain ⟨g1, h1⟩ := runOpsN_ok hcn he g
        obtain ⟨g2, h2⟩ := stepN_ok hcn hs g1
        exact ⟨g2, by simp only [h2]; exact h1⟩
      · cases he
theorem runLogN_ok (hcn : CnOk call cn) {ops : Array Oper} : ∀ {os : List Oper} {i : Nat} {st st' : St} {l : List Log} {a a' : Acc}, runLogN P call cn ops os i st a = some (st', l, a') → Good a' → Good a ∧ runLog P call ops os i st = some (st', l)
  | [], i, st, st', l, a, a', he, g => by cases he; exact ⟨g, rfl⟩
  | o :: os, i, st, st', l, a, a', he, g => by
    unfold runLogN at he
    unfold runLog
    split at he
    · rename_i hw; simp only [hw]; exact runLogN_ok hcn he g
    · rename_i hw
      simp only [hw]
      split at he
      · rename_i hs
        split at he
        · rename_i hr
          split at he
          · rename_i hc
            cases he
            obtain ⟨g1, h1⟩ := runLogN_ok hcn hr g
            obtain ⟨g2, h2⟩ := stepN_ok hcn hs g1
            exact ⟨g2, by simp only [h2, h1, hc]⟩
          · rename_i hc
            cases he
            obtain ⟨g1, h1⟩ := runLogN_ok hcn hr g
            obtain ⟨g2, h2⟩ := stepN_ok hcn hs g1
            exact ⟨g2, by simp only [h2, h1, hc]⟩
          · rename_i hc
            cases he
            obtain ⟨g1, h1⟩ := runLogN_ok hcn hr g
            obtain ⟨g2, h2⟩ := stepN_ok hcn hs g1
            exact ⟨g2, by simp only [h2, h1, hc]⟩
        · cases he
      · cases he
theorem execN_ok (hcn : CnOk call cn) : ∀ {n : Nat} {c : Code} {st st' : St} {e : Exit} {a a' : Acc}, execN P call cn n c st a = some (e, st', a') → Good a' → Good a ∧ exec P call n c st = some (e, st')
  | 0, c, st, st', e, a, a', he, g => by cases he
  | n + 1, c, st, st', e, a, a', he, g => by
    cases c with
    | skip => cases he; exact ⟨g, rfl⟩
    | label l => cases he; exact ⟨g, rfl⟩
    | exit i => cases he; exact ⟨g, rfl⟩
    | ret => cases he; exact ⟨g, rfl⟩
    | region id ops draw =>
      simp only [execN] at he
      simp only [exec]
      cases draw with
      | false =>
        simp only at he
        split at he
        · rename_i hr
          cases he
          obtain ⟨g1, h1⟩ := runOpsN_ok hcn hr g
          exact ⟨g1, by simp only [aRegion, h1]⟩
        · cases he
      | true =>
        simp only at he
        split at he
        · rename_i hf
          split at he
          · rename_i hr
            cases he
            obtain ⟨g1, h1⟩ := runOpsN_ok hcn hr g
            exact ⟨g1, by simp only [aRegion, hf, h1]⟩
          · cases he
        · rename_i p ps hf
          split at he
          · rename_i hr
            split at he
            · rename_i hp
              cases he
              obtain ⟨gq, gr, gx⟩ := g
              obtain ⟨g1, h1⟩ := runLogN_ok hcn hr ⟨gq.right, gr, gx⟩
              exact ⟨g1, by simp only [aRegion, hf, h1, pairsQ_met hp gq.left]⟩
            · cases he
          · cases he
    | seq x y =>
      simp only [execN] at he
      simp only [exec]
      split at he
      · rename_i ha
        obtain ⟨g1, h1⟩ := execN_ok hcn he g
        obtain ⟨g2, h2⟩ := execN_ok hcn ha g1
        exact ⟨g2, by simp only [h2]; exact h1⟩
      · rename_i hne
        obtain ⟨g2, h2⟩ := execN_ok hcn he g
        refine ⟨g2, ?_⟩
        rw [h2]
        split
        · rename_i heq; cases heq; exact absurd he (hne _ _)
        · rfl
    | cond x t f =>
      simp only [execN] at he
      simp only [exec]
      split at he
      · rename_i hx; simp only [hx]; exact execN_ok hcn he g
      · rename_i hx; simp only [hx]; exact execN_ok hcn he g
      · cases he
    | block id b =>
      simp only [execN] at he
      simp only [exec]
      split at he
      · rename_i hb
        split at he
        · rename_i hi
          cases he
          obtain ⟨g2, h2⟩ := execN_ok hcn hb g
          exact ⟨g2, by simp only [h2, hi]⟩
        · rename_i hi
          cases he
          obtain ⟨g2, h2⟩ := execN_ok hcn hb g
          exact ⟨g2, by simp only [h2, hi]⟩
      · rename_i hne
        obtain ⟨g2, h2⟩ := execN_ok hcn he g
        refine ⟨g2, ?_⟩
        rw [h2]
        split
        · rename_i heq; cases heq; exact absurd he (hne _ _ _)
        · rfl
    | loop b =>
      simp only [execN] at he
      simp only [exec]
      split at he
      · rename_i ha
        obtain ⟨g1, h1⟩ := execN_ok hcn he g
        obtain ⟨g2, h2⟩ := execN_ok hcn ha g1
        exact ⟨g2, by simp only [h2]; exact h1⟩
      · rename_i hne
        obtain ⟨g2, h2⟩ := execN_ok hcn he g
        refine ⟨g2, ?_⟩
        rw [h2]
        split
        · rename_i heq; cases heq; exact absurd he (hne _ _)
        · rfl
    | scope b =>
      simp only [execN] at he
      simp only [exec]
      exact execN_ok hcn he g
    | _ => cases he
theorem endN_ok {ext : Ext} {n : Nat} {fn : Func} {st : St} {a a' : Acc} {v : Value} {h' : Hp} (he : endN P ext n fn st a = some (v, h', a')) : a' = a ∧ runDf (aPlain P ext (aCall P ext n) n) st.df st.hp = some h' ∧ retVal P fn { st with hp := h' } = some v := by
  unfold endN at he
  split at he
  · rename_i h1
    split at he
    · rename_i h2; cases he; exact ⟨rfl, h1, h2⟩
    · cases he
  · cases he
theorem callN_ok (ext : Ext) : ∀ n, CnOk (aCall P ext n) (callN P ext n)
  | 0 => fun f args h a v h' a' he => by cases he
  | n + 1 => fun f args h a v h' a' he g => by
    simp only [callN] at he
    simp only [aCall]
    split at he
    · rename_i e hx
      split at he
      · rename_i hr; cases he; exact ⟨g, by simp only [hx, hr]⟩
      · cases he
    · rename_i hx
      split at he
      · cases he
      · rename_i fn hf
        split at he
        · cases he
        · rename_i c hb
          split at he
          · cases he
          · rename_i hle
            split at he
            · rename_i hr
              obtain ⟨e1, e2, e3⟩ := endN_ok he
              subst e1
              obtain ⟨g1, h1⟩ := execN_ok (callN_ok ext n) hr g
              exact ⟨g1, by simp only [hx, hf, aBody, hb, hle, h1, e2, e3]; rfl⟩
            · rename_i hr
              obtain ⟨e1, e2, e3⟩ := endN_ok he
              subst e1
              obtain ⟨g1, h1⟩ := execN_ok (callN_ok ext n) hr g
              exact ⟨g1, by simp only [hx, hf, aBody, hb, hle, h1, e2, e3]; rfl⟩
            · cases he
end
def acc0 (cl : List (Nat × Cm)) : Acc := ⟨cl.reverse, 0, [], [], []⟩
section
variable {P : Program} {N : Nat} {W : Base}
theorem FRwp.pieceN {ext : Ext} (hx : ExtOk P ext) (hm : P.follows .mixedOrders = true) (d : Nat) {n : Nat} {c : Code} {cl : List (Nat × Cm)} {st : St} {e : Exit} {q : List Obl} {r : List OblH} {x : List OblE} {Q : Exit → St → Prop} (p : Nat) (K Ts : List Nat) (O : List Blk) (L : List (Nat × Value))
    (he : (execN P (aCall P ext d) (callN P ext d) n c st (acc0 cl)).map (fun y => (look2 p K Ts (y.1, y.2.1), y.2.2.q, y.2.2.r, y.2.2.x)) = some ((e, O, L, true), q, r, x)) (hq : Met q) (hr : MetH r) (hx' : MetE x) (hs : codeSafe P N c = true) (hK : nodupB K = true) (hT : Ts.all (fun t => Nat.blt t N) = true)
    (hO : ∀ i, i < p → ∀ o, O[i]? = some o → Fixed 0 o) (h : ∀ g, Q e (stOf N g L O)) : FRwp P N W c st Q := by
  obtain ⟨⟨e', st', a'⟩, h1, h2⟩ := Option.map_eq_some_iff.1 he
  simp only [Prod.mk.injEq] at h2
  obtain ⟨h2, rfl, rfl, rfl⟩ := h2
  refine FRwp.pieceY0 (aCall_sound hx hm d) hm (n := n) p K Ts O L ?_ hs hK hT hO h
  rw [(execN_ok (callN_ok ext d) h1 ⟨hq, hr, hx'⟩).2]
  exact congrArg some h2
end
end Go.Proofs.Ytgeoommlmddgpaa.AI
namespace Go.Proofs.Ytgeoommlmddgpaa.AI
open Go Go.Proofs Go.RowKit
inductive Plan where
  | stop (p : Nat) (K Ts : List Nat) : Plan
  | b (k : Nat) (x y : Plan) : Plan
  | w (k : Nat) (c : Bool) (x y : Plan) : Plan
  | v (k : Nat) (w : Value) (x : Plan) : Plan
  | h (k : Nat) (w : Value) (O : List Blk) (x : Plan) : Plan
  | e (k : Nat) (w : Value) (es : List Eff) (x : Plan) : Plan
  | l (k n : Nat) (K Ts : List Nat) (α : Type) (post : α → (Nat → Value) → Exit × St) (ok : α → Prop) (x : Plan) : Plan
  | m (k n : Nat) (K Ts : List Nat) (α : Type) (post : α → (Nat → Value) → Exit × St) (ok : α → Prop) (x : Plan) (β : Type) (post2 : β → (Nat → Value) → Exit × St) (ok2 : β → Prop) (y : Plan) : Plan
abbrev KV := Value → Hp → List (FuncId × List Value) → Plan → Nat → Prop
abbrev CallT := FuncId → List Value → Hp → Plan → Nat → (Value → Hp → Plan → Nat → Prop) → Prop
def CtOk (call : CallF) (cn : CallT) : Prop := ∀ f args h p k K, cn f args h p k K → ∃ v h' p' k', call f args h = some (v, h') ∧ K v h' p' k'
def HT (r : Hp → Option (Value × Hp)) (hp : Hp) (w : Value) (O : List Blk) : Prop := r hp = some (w, heapOf O hp)
def HE (r : Hp → Option (Value × Hp)) (hp : Hp) (w : Value) (es : List Eff) : Prop := r hp = some (w, hp.eff es)
def metK : List Obl → Prop → Prop
  | [], X => X
  | (a, v) :: l, X => a = some v ∧ metK l X
theorem metK_ok : ∀ {l : List Obl} {X : Prop}, metK l X → Met l ∧ X
  | [], X, h => ⟨Met.nil, h⟩
  | (a, v) :: l, X, h => ⟨Met.cons h.1 (metK_ok h.2).1, (metK_ok h.2).2⟩
def plainT (P : Program) (call : CallF) (cn : CallT) (o : Oper) (st : St) (p : Plan) (k : Nat) (K : KV) : Prop :=
  match cls P o with
  | .big => match opB P st.eval st.hp.sz st.hp.get o with
    | some (v, es) => K v (st.hp.eff es) st.df p k
    | none => match o.op with
      | .call c => match target st.eval c with
        | some (f, args) => cn f args st.hp p k fun v h p' k' => K v h st.df p' k'
        | none => False
      | .defer c => match target st.eval c with
        | some (f, args) => K undef st.hp ((f, args) :: st.df) p k
        | none => False
      | _ => False
  | _ => match aStep P call o st with
    | some (v, h, d) => K v h d p k
    | none => False
def valT (P : Program) (call : CallF) (o : Oper) (st : St) (w : Value) (X : Hp → List (FuncId × List Value) → Prop) : Prop :=
  match cls P o with
  | .big => match aStep P call o st with
    | some (u, h, d) => u = w ∧ X h d
    | none => False
  | _ => plainV P st.eval st.hp.get st.hp.sz o = some w ∧ X st.hp st.df
def layT (P : Program) (call : CallF) (o : Oper) (st : St) (w : Value) (O : List Blk) (X : Hp → List (FuncId × List Value) → Prop) : Prop :=
  match cls P o with
  | .pure => match O with
    | [b] => opP P st.eval st.hp.sz o = some (w, some b) ∧ X (st.hp.push b) st.df
    | _ => False
  | .read => False
  | .big => match opB P st.eval st.hp.sz st.hp.get o, o.op with
    | none, .call c => match target st.eval c with
      | some (f, args) => HT (call f args) st.hp w O ∧ X (heapOf O st.hp) st.df
      | none => False
    | _, _ => False
def effT (P : Program) (call : CallF) (o : Oper) (st : St) (w : Value) (es : List Eff) (X : Hp → List (FuncId × List Value) → Prop) : Prop :=
  match cls P o, callOf o with
  | .big, none => opB P st.eval st.hp.sz st.hp.get o = some (w, es) ∧ X (st.hp.eff es) st.df
  | .big, some c => match target st.eval c with
    | some (f, args) => HE (call f args) st.hp w es ∧ X (st.hp.eff es) st.df
    | none => False
  | _, _ => False
def forkT (P : Program) (call : CallF) (o : Oper) (st : St) (X : Bool → Hp → List (FuncId × List Value) → Prop) : Prop :=
  match aStep P call o st with
  | some (.bool c, h, d) => (c = true → X true h d) ∧ (c = false → X false h d)
  | _ => False
def stepT (P : Program) (call : CallF) (cn : CallT) (o : Oper) (st : St) (p : Plan) (k : Nat) (K : KV) : Prop :=
  match p with
  | .stop a b c => plainT P call cn o st (.stop a b c) (k + 1) K
  | .b j x y => match Nat.beq j k with
    | true => forkT P call o st fun c h d => match c with
      | true => K (.bool true) h d x (k + 1)
      | false => K (.bool false) h d y (k + 1)
    | false => plainT P call cn o st (.b j x y) (k + 1) K
  | .w j c x y => match Nat.beq j k with
    | true => plainV P st.eval st.hp.get st.hp.sz o = some (.bool c) ∧ (c = true → K (.bool true) st.hp st.df x (k + 1)) ∧ (c = false → K (.bool false) st.hp st.df y (k + 1))
    | false => plainT P call cn o st (.w j c x y) (k + 1) K
  | .v j w x => match Nat.beq j k with
    | true => valT P call o st w fun h d => K w h d x (k + 1)
    | false => plainT P call cn o st (.v j w x) (k + 1) K
  | .h j w O x => match Nat.beq j k with
    | true => layT P call o st w O fun h d => K w h d x (k + 1)
    | false => plainT P call cn o st (.h j w O x) (k + 1) K
  | .e j w es x => match Nat.beq j k with
    | true => effT P call o st w es fun h d => K w h d x (k + 1)
    | false => plainT P call cn o st (.e j w es x) (k + 1) K
  | p => plainT P call cn o st p (k + 1) K
def runOpsT (P : Program) (call : CallF) (cn : CallT) (ops : Array Oper) : List Oper → St → Plan → Nat → (St → Plan → Nat → Prop) → Prop
  | [], st, p, k, K => K st p k
  | o :: os, st, p, k, K => match aWanted ops st o with
    | false => runOpsT P call cn ops os (st.tput o.dst undef) p k K
    | true => stepT P call cn o st p k fun v h d p' k' => runOpsT P call cn ops os ({ st with hp := h, df := d }.tput o.dst v) p' k' K
def runLogT (P : Program) (call : CallF) (cn : CallT) (ops : Array Oper) : List Oper → Nat → St → Plan → Nat → (St → List Log → Plan → Nat → Prop) → Prop
  | [], _, st, p, k, K => K st [] p k
  | o :: os, i, st, p, k, K => match aWanted ops st o with
    | false => runLogT P call cn ops os (i + 1) (st.tput o.dst undef) p k K
    | true => stepT P call cn o st p k fun v h d p' k' => runLogT P call cn ops os (i + 1) ({ st with hp := h, df := d }.tput o.dst v) p' k' fun st' l p2 k2 =>
        match cls P o with
        | .pure => K st' l p2 k2
        | .read => K st' (.read i (fun get => opR P st.eval get o) v :: l) p2 k2
        | .big => K st' (.big i st.hp h :: l) p2 k2
def execT (P : Program) (call : CallF) (cn : CallT) : Nat → Code → St → Plan → Nat → (Exit → St → Plan → Nat → Prop) → Prop
  | 0, _, _, _, _, _ => False
  | n + 1, c, st, p, k, K => match c with
    | .skip | .label _ => K .normal st p k
    | .region _ ops draw => match draw with
      | false => runOpsT P call cn ops ops.toList st p k fun st' p' k' => K .normal st' p' k'
      | true => match floats P ops with
        | [] => runOpsT P call cn ops ops.toList st p k fun st' p' k' => K .normal st' p' k'
        | f :: fs => runLogT P call cn ops ops.toList 0 st p k fun st' l p' k' => match pairsQ l (f :: fs) with
          | some q => metK q (K .normal st' p' k')
          | none => False
    | .seq x y => execT P call cn n x st p k fun e st' p' k' => match e with
      | .normal => execT P call cn n y st' p' k' K
      | e => K e st' p' k'
    | .cond x t f => match st.eval x with
      | .bool true => execT P call cn n t st p k K
      | .bool false => execT P call cn n f st p k K
      | _ => False
    | .block id body => execT P call cn n body st p k fun e st' p' k' => match e with
      | .exit i => match Nat.beq i id with
        | true => K .normal st' p' k'
        | false => K (.exit i) st' p' k'
      | e => K e st' p' k'
    | .loop body => execT P call cn n body st p k fun e st' p' k' => match e with
      | .normal => execT P call cn n (.loop body) st' p' k' K
      | e => K e st' p' k'
    | .scope body => execT P call cn n body st p k K
    | .exit id => K (.exit id) st p k
    | .ret => K .ret st p k
    | _ => False
def endT (P : Program) (ext : Ext) (n : Nat) (fn : Func) (st : St) (K : Value → Hp → Prop) : Prop :=
  match runDf (aPlain P ext (aCall P ext n) n) st.df st.hp with
  | some h' => match retVal P fn { st with hp := h' } with
    | some v => K v h'
    | none => False
  | none => False
def callT (P : Program) (ext : Ext) : Nat → CallT
  | 0, _, _, _, _, _, _ => False
  | n + 1, f, args, h, p, k, K => match ext f with
    | some e => match e (aCall P ext n) args h with
      | some (v, h') => K v h' p k
      | none => False
    | none => match P.funcs[f]? with
      | none => False
      | some fn => match fn.body with
        | none => False
        | some c => match Nat.ble args.length fn.ntmps with
          | false => False
          | true => execT P (aCall P ext n) (callT P ext n) n c ⟨tmsOf args 0 .leaf, h, []⟩ p k fun e st p' k' => match e with
            | .normal => endT P ext n fn st fun v h' => K v h' p' k'
            | .ret => endT P ext n fn st fun v h' => K v h' p' k'
            | _ => False
section
variable {P : Program} {call : CallF} {cn : CallT}
theorem plainT_ok (hcn : CtOk call cn) {o : Oper} {st : St} {p : Plan} {k : Nat} {K : KV} (he : plainT P call cn o st p k K) : ∃ v h d p' k', aStep P call o st = some (v, h, d) ∧ K v h d p' k' := by
  unfold plainT at he
  split at he
  · rename_i hc
    split at he
    · rename_i hb
      exact ⟨_, _, _, _, _, by unfold aStep; simp only [hc, hb], he⟩
    · rename_i hb
      split at he
      · rename_i ho
        split at he
        · rename_i ht
          obtain ⟨v, h', p', k', q1, q2⟩ := hcn _ _ _ _ _ _ he
          exact ⟨_, _, _, _, _, by unfold aStep; simp only [hc, hb, ho, ht, q1], q2⟩
        · exact he.elim
      · rename_i ho
        split at he
        · rename_i ht
          exact ⟨_, _, _, _, _, by unfold aStep; simp only [hc, hb, ho, ht], he⟩
        · exact he.elim
      · exact he.elim
  · split at he
    · rename_i hs; exact ⟨_, _, _, _, _, hs, he⟩
    · exact he.elim
theorem valT_ok {o : Oper} {st : St} {w : Value} {X : Hp → List (FuncId × List Value) → Prop} (he : valT P call o st w X) : ∃ h d, aStep P call o st = some (w, h, d) ∧ X h d := by
  unfold valT at he
  split at he
  · split at he
    · rename_i hs; exact ⟨_, _, by rw [hs, he.1], he.2⟩
    · exact he.elim
  · exact ⟨_, _, plainV_step he.1, he.2⟩
theorem layT_ok {o : Oper} {st : St} {w : Value} {O : List Blk} {X : Hp → List (FuncId × List Value) → Prop} (he : layT P call o st w O X) : ∃ h d, aStep P call o st = some (w, h, d) ∧ X h d := by
  unfold layT at he
  split at he
  · rename_i hc
    split at he
    · obtain ⟨he, hX⟩ := he
      exact ⟨_, _, by unfold aStep; simp only [hc, he], hX⟩
    · exact he.elim
  · exact he.elim
  · rename_i hc
    split at he
    · rename_i hb ho
      split at he
      · rename_i ht
        obtain ⟨he, hX⟩ := he
        refine ⟨_, _, ?_, hX⟩
        unfold HT at he
        unfold aStep
        simp only [hc, hb, ho, ht, he]
      · exact he.elim
    · exact he.elim
theorem effT_ok {o : Oper} {st : St} {w : Value} {es : List Eff} {X : Hp → List (FuncId × List Value) → Prop} (he : effT P call o st w es X) : ∃ h d, aStep P call o st = some (w, h, d) ∧ X h d := by
  unfold effT at he
  split at he
  · rename_i hc _
    obtain ⟨he, hX⟩ := he
    exact ⟨_, _, by unfold aStep; simp only [hc, he], hX⟩
  · rename_i c hc hcall
    obtain ⟨ho, y, hy⟩ := callOf_some hcall
    split at he
    · rename_i ht
      obtain ⟨he, hX⟩ := he
      refine ⟨_, _, ?_, hX⟩
      unfold HE at he
      have hb : opB P st.eval st.hp.sz st.hp.get o = none := by
        unfold opB
        simp only [ho, hy]
      unfold aStep
      simp only [hc, hb, ho, ht, he]
    · exact he.elim
  · exact he.elim
theorem forkT_ok {o : Oper} {st : St} {X : Bool → Hp → List (FuncId × List Value) → Prop} (he : forkT P call o st X) : ∃ c h d, aStep P call o st = some (.bool c, h, d) ∧ X c h d := by
  unfold forkT at he
  split at he
  · rename_i c h d hs
    refine ⟨c, h, d, hs, ?_⟩
    cases c with
    | true => exact he.1 rfl
    | false => exact he.2 rfl
  · exact he.elim
theorem stepT_ok (hcn : CtOk call cn) {o : Oper} {st : St} {p : Plan} {k : Nat} {K : KV} (he : stepT P call cn o st p k K) : ∃ v h d p' k', aStep P call o st = some (v, h, d) ∧ K v h d p' k' := by
  unfold stepT at he
  split at he
  · exact plainT_ok hcn he
  · split at he
    · obtain ⟨c, h, d, q1, q2⟩ := forkT_ok he
      cases c with
      | true => exact ⟨_, _, _, _, _, q1, q2⟩
      | false => exact ⟨_, _, _, _, _, q1, q2⟩
    · exact plainT_ok hcn he
  · split at he
    · rename_i j c x y _ _
      obtain ⟨q1, q2, q3⟩ := he
      cases c with
      | true => exact ⟨_, _, _, _, _, plainV_step q1, q2 rfl⟩
      | false => exact ⟨_, _, _, _, _, plainV_step q1, q3 rfl⟩
    · exact plainT_ok hcn he
  · split at he
    · obtain ⟨h, d, q1, q2⟩ := valT_ok he; exact ⟨_, _, _, _, _, q1, q2⟩
    · exact plainT_ok hcn he
  · split at he
    · obtain ⟨h, d, q1, q2⟩ := layT_ok he; exact ⟨_, _, _, _, _, q1, q2⟩
    · exact plainT_ok hcn he
  · split at he
    · obtain ⟨h, d, q1, q2⟩ := effT_ok he; exact ⟨_, _, _, _, _, q1, q2⟩
    · exact plainT_ok hcn he
  · exact plainT_ok hcn he
theorem runOpsT_ok (hcn : CtOk call cn) {ops : Array Oper} : ∀ {os : List Oper} {st : St} {p : Plan} {k : Nat} {K : St → Plan → Nat → Prop}, runOpsT P call cn ops os st p k K → ∃ st' p' k', runOps P call ops os st = some st' ∧ K st' p' k'
  | [], st, p, k, K, he => ⟨_, _, _, rfl, he⟩
  | o :: os, st, p, k, K, he => by
    unfold runOpsT at he
    unfold runOps
    split at he
    · rename_i hw; simp only [hw]; exact runOpsT_ok hcn he
    · rename_i hw
      simp only [hw]
      obtain ⟨v, h, d, p', k', q1, q2⟩ := stepT_ok hcn he
      simp only [q1]
      exact runOpsT_ok hcn q2
theorem runLogT_ok (hcn : CtOk call cn) {ops : Array Oper} : ∀ {os : List Oper} {i : Nat} {st : St} {p : Plan} {k : Nat} {K : St → List Log → Plan → Nat → Prop}, runLogT P call cn ops os i st p k K → ∃ st' l p' k', runLog P call ops os i st = some (st', l) ∧ K st' l p' k'
  | [], i, st, p, k, K, he => ⟨_, _, _, _, rfl, he⟩
  | o :: os, i, st, p, k, K, he => by
    unfold runLogT at he
    unfold runLog
    split at he
    · rename_i hw; simp only [hw]; exact runLogT_ok hcn he
    · rename_i hw
      simp only [hw]
      obtain ⟨v, h, d, p', k', q1, q2⟩ := stepT_ok hcn he
      simp only [q1]
      obtain ⟨st', l, p2, k2, r1, r2⟩ := runLogT_ok hcn q2
      simp only [r1]
      split at r2
      · rename_i hc; simp only [hc]; exact ⟨_, _, _, _, rfl, r2⟩
      · rename_i hc; simp only [hc]; exact ⟨_, _, _, _, rfl, r2⟩
      · rename_i hc; simp only [hc]; exact ⟨_, _, _, _, rfl, r2⟩
theorem execT_ok (hcn : CtOk call cn) : ∀ {n : Nat} {c : Code} {st : St} {p : Plan} {k : Nat} {K : Exit → St → Plan → Nat → Prop}, execT P call cn n c st p k K → ∃ e st' p' k', exec P call n c st = some (e, st') ∧ K e st' p' k'
  | 0, c, st, p, k, K, he => he.elim
  | n + 1, c, st, p, k, K, he => by
    cases c with
    | skip => exact ⟨_, _, _, _, rfl, he⟩
    | label l => exact ⟨_, _, _, _, rfl, he⟩
    | exit i => exact ⟨_, _, _, _, rfl, he⟩
    | ret => exact ⟨_, _, _, _, rfl, he⟩
    | region id ops draw =>
      simp only [execT] at he
      simp only [exec]
      cases draw with
      | false =>
        simp only at he
        obtain ⟨st', p', k', q1, q2⟩ := runOpsT_ok hcn he
        exact ⟨_, _, _, _, by simp only [aRegion, q1], q2⟩
      | true =>
        simp only at he
        split at he
        · rename_i hf
          obtain ⟨st', p', k', q1, q2⟩ := runOpsT_ok hcn he
          exact ⟨_, _, _, _, by simp only [aRegion, hf, q1], q2⟩
        · rename_i f fs hf
          obtain ⟨st', l, p', k', q1, q2⟩ := runLogT_ok hcn he
          split at q2
          · rename_i q hq
            obtain ⟨m, q3⟩ := metK_ok q2
            exact ⟨_, _, _, _, by simp only [aRegion, hf, q1, pairsQ_met hq m], q3⟩
          · exact q2.elim
    | seq x y =>
      simp only [execT] at he
      simp only [exec]
      obtain ⟨e, st', p', k', q1, q2⟩ := execT_ok hcn he
      simp only [q1]
      cases e with
      | normal => exact execT_ok hcn q2
      | _ => exact ⟨_, _, _, _, rfl, q2⟩
    | cond x t f =>
      simp only [execT] at he
      simp only [exec]
      split at he
      · rename_i hx; simp only [hx]; exact execT_ok hcn he
      · rename_i hx; simp only [hx]; exact execT_ok hcn he
      · exact he.elim
    | block id b =>
      simp only [execT] at he
      simp only [exec]
      obtain ⟨e, st', p', k', q1, q2⟩ := execT_ok hcn he
      simp only [q1]
      cases e with
      | exit i =>
        simp only at q2 ⊢
        split at q2
        · rename_i hi; simp only [hi]; exact ⟨_, _, _, _, rfl, q2⟩
        · rename_i hi; simp only [hi]; exact ⟨_, _, _, _, rfl, q2⟩
      | _ => exact ⟨_, _, _, _, rfl, q2⟩
    | loop b =>
      simp only [execT] at he
      simp only [exec]
      obtain ⟨e, st', p', k', q1, q2⟩ := execT_ok hcn he
      simp only [q1]
      cases e with
      | normal => exact execT_ok hcn q2
      | _ => exact ⟨_, _, _, _, rfl, q2⟩
    | scope b =>
      simp only [execT] at he
      simp only [exec]
      exact execT_ok hcn he
    | _ => exact he.elim
theorem endT_ok {ext : Ext} {n : Nat} {fn : Func} {st : St} {K : Value → Hp → Prop} (he : endT P ext n fn st K) : ∃ v h', runDf (aPlain P ext (aCall P ext n) n) st.df st.hp = some h' ∧ retVal P fn { st with hp := h' } = some v ∧ K v h' := by
  unfold endT at he
  split at he
  · rename_i h1
    split at he
    · rename_i h2; exact ⟨_, _, h1, h2, he⟩
    · exact he.elim
  · exact he.elim
theorem callT_ok (ext : Ext) : ∀ n, CtOk (aCall P ext n) (callT P ext n)
  | 0 => fun f args h p k K he => he.elim
  | n + 1 => fun f args h p k K he => by
    simp only [callT] at he
    simp only [aCall]
    split at he
    · rename_i e hx
      split at he
      · rename_i hr; exact ⟨_, _, _, _, by simp only [hx, hr], he⟩
      · exact he.elim
    · rename_i hx
      split at he
      · exact he.elim
      · rename_i fn hf
        split at he
        · exact he.elim
        · rename_i c hb
          split at he
          · exact he.elim
          · rename_i hle
            obtain ⟨e, st, p', k', q1, q2⟩ := execT_ok (callT_ok ext n) he
            cases e with
            | normal =>
              obtain ⟨v, h', e2, e3, q3⟩ := endT_ok q2
              exact ⟨_, _, _, _, by simp only [hx, hf, aBody, hb, hle, q1, e2, e3]; rfl, q3⟩
            | ret =>
              obtain ⟨v, h', e2, e3, q3⟩ := endT_ok q2
              exact ⟨_, _, _, _, by simp only [hx, hf, aBody, hb, hle, q1, e2, e3]; rfl, q3⟩
            | _ => exact q2.elim
end
def CT (P : Program) (ext : Ext) (n : Nat) (f : FuncId) (args : List Value) (p : Plan) (Q : Value → Prop) : Prop := callT P ext n f args hp0 p 0 fun v _ _ _ => Q v
theorem CT_run {P : Program} {ext : Ext} {n : Nat} {f : FuncId} {args : List Value} {p : Plan} {v : Value} {X : Prop} (e : X = CT P ext n f args p (fun u => u = v)) (h : X) : ∃ hp, aCall P ext n f args hp0 = some (v, hp) := by
  rw [e] at h
  obtain ⟨u, hp, _, _, q1, rfl⟩ := callT_ok ext n _ _ _ _ _ _ h
  exact ⟨hp, q1⟩
section
variable {P : Program} {N z : Nat} {W : Base}
end
end Go.Proofs.Ytgeoommlmddgpaa.AI
namespace Go.Proofs.Ytgeoommlmddgpaa.LtA
open Go Go.Proofs Go.Proofs.Ytgeoommlmddgpaa.AI
theorem E0_ok : ExtOk Try.prog E0 := by unfold E0; exact extH_ok (P := Try.prog) (hs := []) HooksOk.nil
theorem arr_of {c : Array Value} {l : List Value} (h : c.toList = l) : c = l.toArray := by cases c; simp at h; rw [h]
def tNaN (a : Int) : Value := (bif (a != a) then (.bool true) else (.bool false))
theorem tNaN_run (a : Int) : ∃ hp, aCall Try.prog E0 61 81 [.int .i64 a] hp0 = some (tNaN a, hp) := by
  cases h0 : (a != a) with
  | true =>
    have e : tNaN a = (.bool true) := by simp only [tNaN, h0, cond_true, cond_false]
    rw [e]
    exact callQ_run [(5, .bool true)] (q := [(some (.bool (a != a)), .bool true)]) (by kernel_rfl) (Met.cons (met_bool h0) (Met.nil))
  | false =>
    have e : tNaN a = (.bool false) := by simp only [tNaN, h0, cond_true, cond_false]
    rw [e]
    exact callQ_run [(5, .bool false)] (q := [(some (.bool (a != a)), .bool false)]) (by kernel_rfl) (Met.cons (met_bool h0) (Met.nil))
def okH (n : Bool) (t o r d i : Int) : Bool :=
  bif n then decide (i ≥ 0) && (decide (i < 64) && same23 n t o r d i true 0 0 0 0 i)
  else decide (i ≥ 0) && (decide (i < 64) && (decide (t ≥ 0) && (decide (t ≤ 4611686018427387903) && (decide (o ≥ 0) && (decide (o < 64) && ((Int.fdiv r (2 ^ (min (Int.toNat 1) 64)) == 0) && (decide (d ≥ (-1099511627776)) && decide (d ≤ 1099511627776))))))))
def chk (n : Bool) (t o r d i : Int) : Int := bif okH n t o r d i then 0 else 1
theorem eql23c (n : Bool) (t o r d i : Int) (n' : Bool) (t' o' r' d' i' : Int) : fstV ((aBin Try.prog .eql 24 (.agg #[.bool n, .int .i64 t, .int .i64 o, .int .i64 r, .int .i64 d, .int .i64 i]) (.agg #[.bool n', .int .i64 t', .int .i64 o', .int .i64 r', .int .i64 d', .int .i64 i'])).map fun v => (v, none)) = some (.bool (same23 n t o r d i n' t' o' r' d' i')) := by rw [eql23]
theorem chkT {n : Bool} {t o r d i : Int} (h : okH n t o r d i = true) : iN 0 = .int .i64 (chk n t o r d i) := by unfold chk; rw [h]; rfl
theorem chkF {n : Bool} {t o r d i : Int} (h : okH n t o r d i = false) : iN 1 = .int .i64 (chk n t o r d i) := by unfold chk; rw [h]; rfl
theorem tCheck_e (n : Bool) (t o r d i : Int) (Q : Value → Prop) : (((decide (i ≥ (Int.ofNat 0))) = true → ((decide (i < (Int.ofNat 64))) = true → (n = true → (fstV ((aBin Try.prog .eql 24 (.agg #[.bool n, .int .i64 t, .int .i64 o, .int .i64 r, .int .i64 d, .int .i64 i]) (.agg #[.bool true, iN 0, iN 0, iN 0, iN 0, .int .i64 i])).map fun v => (v, none)) : Option Value) = some (.bool (same23 n t o r d i true (Int.ofNat 0) (Int.ofNat 0) (Int.ofNat 0) (Int.ofNat 0) i)) ∧ ((some (.agg #[.bool n, .int .i64 t, .int .i64 o, .int .i64 r, .int .i64 d, .int .i64 i]) : Option Value) = some (.agg #[.bool n, .int .i64 t, .int .i64 o, .int .i64 r, .int .i64 d, .int .i64 i]) ∧ (((!(same23 n t o r d i true (Int.ofNat 0) (Int.ofNat 0) (Int.ofNat 0) (Int.ofNat 0) i)) = true → Q (iN 1)) ∧ ((!(same23 n t o r d i true (Int.ofNat 0) (Int.ofNat 0) (Int.ofNat 0) (Int.ofNat 0) i)) = false → Q (iN 0))))) ∧ (n = false → ((decide (t ≥ (Int.ofNat 0))) = true → ((decide (t ≤ (Int.ofNat 4611686018427387903))) = true → ((decide (o ≥ (Int.ofNat 0))) = true → ((decide (o < (Int.ofNat 64))) = true → (((r.fdiv (2 ^ (min (Int.toNat (Int.ofNat 1)) (IntKind.bits .i64)))) == (Int.ofNat 0)) = true → ((decide (d ≥ (Int.negSucc 1099511627775))) = true → ((!(decide (d ≤ (Int.ofNat 1099511627776)))) = true → Q (iN 1)) ∧ ((!(decide (d ≤ (Int.ofNat 1099511627776)))) = false → Q (iN 0))) ∧ ((decide (d ≥ (Int.negSucc 1099511627775))) = false → Q (iN 1))) ∧ (((r.fdiv (2 ^ (min (Int.toNat (Int.ofNat 1)) (IntKind.bits .i64)))) == (Int.ofNat 0)) = false → Q (iN 1))) ∧ ((decide (o < (Int.ofNat 64))) = false → Q (iN 1))) ∧ ((decide (o ≥ (Int.ofNat 0))) = false → Q (iN 1))) ∧ ((decide (t ≤ (Int.ofNat 4611686018427387903))) = false → Q (iN 1))) ∧ ((decide (t ≥ (Int.ofNat 0))) = false → Q (iN 1)))) ∧ ((decide (i < (Int.ofNat 64))) = false → (n = true → Q (iN 1)) ∧ (n = false → Q (iN 1)))) ∧ ((decide (i ≥ (Int.ofNat 0))) = false → (n = true → Q (iN 1)) ∧ (n = false → Q (iN 1)))) = CT Try.prog E0 61 52 [.agg #[.bool n, .int .i64 t, .int .i64 o, .int .i64 r, .int .i64 d, .int .i64 i]] (.b 4 (.b 8 (.b 12 (.v 23 (.bool (same23 n t o r d i true (Int.ofNat 0) (Int.ofNat 0) (Int.ofNat 0) (Int.ofNat 0) i)) (.b 27 (.stop 0 [] []) (.stop 0 [] []))) (.b 17 (.b 22 (.b 27 (.b 32 (.b 38 (.b 43 (.b 52 (.stop 0 [] []) (.stop 0 [] [])) (.stop 0 [] [])) (.stop 0 [] [])) (.stop 0 [] [])) (.stop 0 [] [])) (.stop 0 [] [])) (.stop 0 [] []))) (.b 12 (.stop 0 [] []) (.stop 0 [] []))) (.b 9 (.stop 0 [] []) (.stop 0 [] []))) Q := by kernel_rfl
theorem tCheck_run (n : Bool) (t o r d i : Int) : ∃ hp, aCall Try.prog E0 61 52 [.agg #[.bool n, .int .i64 t, .int .i64 o, .int .i64 r, .int .i64 d, .int .i64 i]] hp0 = some (.int .i64 (chk n t o r d i), hp) := by
  refine CT_run (tCheck_e n t o r d i _) ?_
  refine ⟨fun h_4 => ⟨fun h_8 => ⟨fun h_12 => ⟨eql23c .., ⟨rfl, ⟨fun h_27 => ?_, fun h_27 => ?_⟩⟩⟩, fun h_12 => ⟨fun h_17 => ⟨fun h_22 => ⟨fun h_27 => ⟨fun h_32 => ⟨fun h_38 => ⟨fun h_43 => ⟨fun h_52 => ?_, fun h_52 => ?_⟩, fun h_43 => ?_⟩, fun h_38 => ?_⟩, fun h_32 => ?_⟩, fun h_27 => ?_⟩, fun h_22 => ?_⟩, fun h_17 => ?_⟩⟩, fun h_8 => ⟨fun h_12 => ?_, fun h_12 => ?_⟩⟩, fun h_4 => ⟨fun h_9 => ?_, fun h_9 => ?_⟩⟩
  all_goals (first | (refine chkT ?_; unfold okH; simp_all [IntKind.bits] <;> (intros; omega)) | (refine chkF ?_; unfold okH; simp_all [IntKind.bits] <;> (intros; omega)))
def nanI (a : Int) : Bool := a != a
theorem nanI_eq (a : Int) : nanI a = false := by simp [nanI]
theorem tNaN_eq (a : Int) : tNaN a = .bool (nanI a) := by
  unfold tNaN nanI
  cases h : (a != a) <;> rfl
def g15 : List Value → Option Value
  | [.agg c0] => match c0.toList with
    | [.bool hn, .int .i64 ht, .int .i64 ho, .int .i64 hr, .int .i64 hd, .int .i64 hi] => some (.int .i64 (chk hn ht ho hr hd hi))
    | _ => none
  | _ => none
theorem hk15 : HookGoal Try.prog 52 g15 := hook_of (ext := E0) E0_ok follows Try.func52 (by kernel_rfl) fun args v h => by
  unfold g15 at h
  split at h
  · rename_i c0
    split at h
    · rename_i ec0
      cases h
      obtain rfl := arr_of ec0
      refine ⟨rfl, rfl, ?_⟩
      obtain ⟨hp, q⟩ := tCheck_run _ _ _ _ _ _
      exact ⟨_, hp, q⟩
    · cases h
  · cases h
def g75 : List Value → Option Value
  | [.int .i64 a] => some (.bool (nanI a))
  | _ => none
theorem hk75 : HookGoal Try.prog 81 g75 := hook_of (ext := E0) E0_ok follows Try.func81 (by kernel_rfl) fun args v h => by
  unfold g75 at h
  split at h
  · cases h
    refine ⟨rfl, rfl, ?_⟩
    obtain ⟨hp, q⟩ := tNaN_run _
    rw [tNaN_eq] at q
    exact ⟨_, hp, q⟩
  · cases h
noncomputable def E1 : Ext := extH Try.prog [(52, g15), (81, g75)]
theorem E1_ok : ExtOk Try.prog E1 := by unfold E1; exact extH_ok (.cons hk15 (.cons hk75 .nil))
def tCmp (a : Int) (b : Int) : Value := (bif (nanI (a)) then (bif (nanI (b)) then (.int .i64 0) else (.int .i64 (-1))) else (bif (nanI (b)) then (.int .i64 1) else (bif (decide (a < b)) then (.int .i64 (-1)) else (bif (decide (a > b)) then (.int .i64 1) else (.int .i64 0)))))
theorem tCmp_run (a : Int) (b : Int) : ∃ hp, aCall Try.prog E1 61 50 [.int .i64 a, .int .i64 b] hp0 = some (tCmp a b, hp) := by
  cases h0 : (nanI (a)) with
  | true =>
    cases h1 : (nanI (b)) with
    | true =>
      have e : tCmp a b = (.int .i64 0) := by simp only [tCmp, h0, h1, cond_true, cond_false]
      rw [e]
      exact callQ_run [(8, .bool true), (10, .bool true)] (q := [(some (.bool (nanI (a))), .bool true), (some (.bool (nanI (b))), .bool true)]) (by kernel_rfl) (Met.cons (met_bool h0) (Met.cons (met_bool h1) (Met.nil)))
    | false =>
      have e : tCmp a b = (.int .i64 (-1)) := by simp only [tCmp, h0, h1, cond_true, cond_false]
      rw [e]
      exact callQ_run [(8, .bool true), (10, .bool false)] (q := [(some (.bool (nanI (a))), .bool true), (some (.bool (nanI (b))), .bool false)]) (by kernel_rfl) (Met.cons (met_bool h0) (Met.cons (met_bool h1) (Met.nil)))
  | false =>
    cases h1 : (nanI (b)) with
    | true =>
      have e : tCmp a b = (.int .i64 1) := by simp only [tCmp, h0, h1, cond_true, cond_false]
      rw [e]
      exact callQ_run [(8, .bool false), (10, .bool true)] (q := [(some (.bool (nanI (a))), .bool false), (some (.bool (nanI (b))), .bool true)]) (by kernel_rfl) (Met.cons (met_bool h0) (Met.cons (met_bool h1) (Met.nil)))
    | false =>
      cases h2 : (decide (a < b)) with
      | true =>
        have e : tCmp a b = (.int .i64 (-1)) := by simp only [tCmp, h0, h1, h2, cond_true, cond_false]
        rw [e]
        exact callQ_run [(8, .bool false), (10, .bool false), (16, .bool true)] (q := [(some (.bool (nanI (a))), .bool false), (some (.bool (nanI (b))), .bool false), (some (.bool (decide (a < b))), .bool true)]) (by kernel_rfl) (Met.cons (met_bool h0) (Met.cons (met_bool h1) (Met.cons (met_bool h2) (Met.nil))))
      | false =>
        cases h3 : (decide (a > b)) with
        | true =>
          have e : tCmp a b = (.int .i64 1) := by simp only [tCmp, h0, h1, h2, h3, cond_true, cond_false]
          rw [e]
          exact callQ_run [(8, .bool false), (10, .bool false), (16, .bool false), (19, .bool true)] (q := [(some (.bool (nanI (a))), .bool false), (some (.bool (nanI (b))), .bool false), (some (.bool (decide (a < b))), .bool false), (some (.bool (decide (a > b))), .bool true)]) (by kernel_rfl) (Met.cons (met_bool h0) (Met.cons (met_bool h1) (Met.cons (met_bool h2) (Met.cons (met_bool h3) (Met.nil)))))
        | false =>
          have e : tCmp a b = (.int .i64 0) := by simp only [tCmp, h0, h1, h2, h3, cond_true, cond_false]
          rw [e]
          exact callQ_run [(8, .bool false), (10, .bool false), (16, .bool false), (19, .bool false)] (q := [(some (.bool (nanI (a))), .bool false), (some (.bool (nanI (b))), .bool false), (some (.bool (decide (a < b))), .bool false), (some (.bool (decide (a > b))), .bool false)]) (by kernel_rfl) (Met.cons (met_bool h0) (Met.cons (met_bool h1) (Met.cons (met_bool h2) (Met.cons (met_bool h3) (Met.nil)))))
def tKnown (hNull : Bool) (hTau : Int) (hOid : Int) (hR : Int) (hDelta : Int) (hId : Int) : Value := (bif hNull then (.bool false) else (bif ((chk (false) (hTau) (hOid) (hR) (hDelta) (hId)) == 0) then (.bool true) else (.bool false)))
theorem tKnown_run (hNull : Bool) (hTau : Int) (hOid : Int) (hR : Int) (hDelta : Int) (hId : Int) : ∃ hp, aCall Try.prog E1 61 51 [.agg #[.bool hNull, .int .i64 hTau, .int .i64 hOid, .int .i64 hR, .int .i64 hDelta, .int .i64 hId]] hp0 = some (tKnown hNull hTau hOid hR hDelta hId, hp) := by
  cases hNull with
  | true =>
    have e : tKnown true hTau hOid hR hDelta hId = (.bool false) := by simp only [tKnown, cond_true, cond_false]
    rw [e]
    exact callQ_run [] (q := []) (by kernel_rfl) (Met.nil)
  | false =>
    cases h0 : ((chk (false) (hTau) (hOid) (hR) (hDelta) (hId)) == 0) with
    | true =>
      have e : tKnown false hTau hOid hR hDelta hId = (.bool true) := by simp only [tKnown, h0, cond_true, cond_false]
      rw [e]
      exact callQ_run [(9, .bool true)] (q := [(some (.bool ((chk (false) (hTau) (hOid) (hR) (hDelta) (hId)) == 0)), .bool true)]) (by kernel_rfl) (Met.cons (met_bool h0) (Met.nil))
    | false =>
      have e : tKnown false hTau hOid hR hDelta hId = (.bool false) := by simp only [tKnown, h0, cond_true, cond_false]
      rw [e]
      exact callQ_run [(9, .bool false)] (q := [(some (.bool ((chk (false) (hTau) (hOid) (hR) (hDelta) (hId)) == 0)), .bool false)]) (by kernel_rfl) (Met.cons (met_bool h0) (Met.nil))
def tTold (hNull : Bool) (hTau : Int) (hOid : Int) (hR : Int) (hDelta : Int) (hId : Int) : Value := (bif hNull then (.bool false) else (bif ((chk (false) (hTau) (hOid) (hR) (hDelta) (hId)) == 0) then (.bool true) else (.bool false)))
theorem tTold_run (hNull : Bool) (hTau : Int) (hOid : Int) (hR : Int) (hDelta : Int) (hId : Int) : ∃ hp, aCall Try.prog E1 61 39 [.agg #[.bool hNull, .int .i64 hTau, .int .i64 hOid, .int .i64 hR, .int .i64 hDelta, .int .i64 hId]] hp0 = some (tTold hNull hTau hOid hR hDelta hId, hp) := by
  cases hNull with
  | true =>
    have e : tTold true hTau hOid hR hDelta hId = (.bool false) := by simp only [tTold, cond_true, cond_false]
    rw [e]
    exact callQ_run [] (q := []) (by kernel_rfl) (Met.nil)
  | false =>
    cases h0 : ((chk (false) (hTau) (hOid) (hR) (hDelta) (hId)) == 0) with
    | true =>
      have e : tTold false hTau hOid hR hDelta hId = (.bool true) := by simp only [tTold, h0, cond_true, cond_false]
      rw [e]
      exact callQ_run [(9, .bool true)] (q := [(some (.bool ((chk (false) (hTau) (hOid) (hR) (hDelta) (hId)) == 0)), .bool true)]) (by kernel_rfl) (Met.cons (met_bool h0) (Met.nil))
    | false =>
      have e : tTold false hTau hOid hR hDelta hId = (.bool false) := by simp only [tTold, h0, cond_true, cond_false]
      rw [e]
      exact callQ_run [(9, .bool false)] (q := [(some (.bool ((chk (false) (hTau) (hOid) (hR) (hDelta) (hId)) == 0)), .bool false)]) (by kernel_rfl) (Met.cons (met_bool h0) (Met.nil))
def cmp3 (a b : Int) : Int := bif decide (a < b) then -1 else bif decide (a > b) then 1 else 0
theorem tCmp_eq (a b : Int) : tCmp a b = .int .i64 (cmp3 a b) := by
  unfold tCmp cmp3
  simp only [nanI_eq, cond_false]
  cases decide (a < b) <;> cases decide (a > b) <;> rfl
def known (n : Bool) (t o r d i : Int) : Bool := !n && okH n t o r d i
theorem chk_zero (n : Bool) (t o r d i : Int) : (chk n t o r d i == 0) = okH n t o r d i := by
  unfold chk; cases okH n t o r d i <;> rfl
theorem tKnown_eq (n : Bool) (t o r d i : Int) : tKnown n t o r d i = .bool (known n t o r d i) := by
  unfold tKnown known
  cases n <;> simp only [cond_true, cond_false, chk_zero]
  · cases okH false t o r d i <;> rfl
  · rfl
theorem tTold_eq (n : Bool) (t o r d i : Int) : tTold n t o r d i = .bool (known n t o r d i) := by
  unfold tTold known
  cases n <;> simp only [cond_true, cond_false, chk_zero]
  · cases okH false t o r d i <;> rfl
  · rfl
def told (n : Bool) (t o r d i : Int) : Bool := known n t o r d i
def g54 : List Value → Option Value
  | [.int .i64 a, .int .i64 b] => some (.int .i64 (cmp3 a b))
  | _ => none
theorem hk54 : HookGoal Try.prog 50 g54 := hook_of (ext := E1) E1_ok follows Try.func50 (by kernel_rfl) fun args v h => by
  unfold g54 at h
  split at h
  · cases h
    refine ⟨rfl, rfl, ?_⟩
    obtain ⟨hp, q⟩ := tCmp_run _ _
    rw [tCmp_eq] at q
    exact ⟨_, hp, q⟩
  · cases h
def g52 : List Value → Option Value
  | [.agg c0] => match c0.toList with
    | [.bool hn, .int .i64 ht, .int .i64 ho, .int .i64 hr, .int .i64 hd, .int .i64 hi] => some (.bool (known hn ht ho hr hd hi))
    | _ => none
  | _ => none
theorem hk52 : HookGoal Try.prog 51 g52 := hook_of (ext := E1) E1_ok follows Try.func51 (by kernel_rfl) fun args v h => by
  unfold g52 at h
  split at h
  · rename_i c0
    split at h
    · rename_i ec0
      cases h
      obtain rfl := arr_of ec0
      refine ⟨rfl, rfl, ?_⟩
      obtain ⟨hp, q⟩ := tKnown_run _ _ _ _ _ _
      rw [tKnown_eq] at q
      exact ⟨_, hp, q⟩
    · cases h
  · cases h
def g51 : List Value → Option Value
  | [.agg c0] => match c0.toList with
    | [.bool hn, .int .i64 ht, .int .i64 ho, .int .i64 hr, .int .i64 hd, .int .i64 hi] => some (.bool (told hn ht ho hr hd hi))
    | _ => none
  | _ => none
theorem hk51 : HookGoal Try.prog 39 g51 := hook_of (ext := E1) E1_ok follows Try.func39 (by kernel_rfl) fun args v h => by
  unfold g51 at h
  split at h
  · rename_i c0
    split at h
    · rename_i ec0
      cases h
      obtain rfl := arr_of ec0
      refine ⟨rfl, rfl, ?_⟩
      obtain ⟨hp, q⟩ := tTold_run _ _ _ _ _ _
      rw [tTold_eq] at q
      exact ⟨_, hp, q⟩
    · cases h
  · cases h
noncomputable def E2 : Ext := extH Try.prog [(50, g54), (51, g52)]
theorem E2_ok : ExtOk Try.prog E2 := by unfold E2; exact extH_ok (.cons hk54 (.cons hk52 .nil))
def tLevel (hNull : Bool) (hTau : Int) (hOid : Int) (hR : Int) (hDelta : Int) (hId : Int) : Value := (bif (known (hNull) (hTau) (hOid) (hR) (hDelta) (hId)) then (.agg #[.int .i64 hTau, .int .i64 hOid, .int .i64 hR]) else (.agg #[.int .i64 0, .int .i64 0, .int .i64 0]))
theorem tLevel_run (hNull : Bool) (hTau : Int) (hOid : Int) (hR : Int) (hDelta : Int) (hId : Int) : ∃ hp, aCall Try.prog E2 61 26 [.agg #[.bool hNull, .int .i64 hTau, .int .i64 hOid, .int .i64 hR, .int .i64 hDelta, .int .i64 hId]] hp0 = some (tLevel hNull hTau hOid hR hDelta hId, hp) := by
  cases h0 : (known (hNull) (hTau) (hOid) (hR) (hDelta) (hId)) with
  | true =>
    have e : tLevel hNull hTau hOid hR hDelta hId = (.agg #[.int .i64 hTau, .int .i64 hOid, .int .i64 hR]) := by simp only [tLevel, h0, cond_true, cond_false]
    rw [e]
    exact callQ_run [(4, .bool true)] (q := [(some (.bool (known (hNull) (hTau) (hOid) (hR) (hDelta) (hId))), .bool true)]) (by kernel_rfl) (Met.cons (met_bool h0) (Met.nil))
  | false =>
    have e : tLevel hNull hTau hOid hR hDelta hId = (.agg #[.int .i64 0, .int .i64 0, .int .i64 0]) := by simp only [tLevel, h0, cond_true, cond_false]
    rw [e]
    exact callQ_run [(4, .bool false)] (q := [(some (.bool (known (hNull) (hTau) (hOid) (hR) (hDelta) (hId))), .bool false)]) (by kernel_rfl) (Met.cons (met_bool h0) (Met.nil))
def lev0 (n : Bool) (t o r d i : Int) : Int := bif known n t o r d i then t else 0
def lev1 (n : Bool) (t o r d i : Int) : Int := bif known n t o r d i then o else 0
def lev2 (n : Bool) (t o r d i : Int) : Int := bif known n t o r d i then r else 0
theorem tLevel_eq (n : Bool) (t o r d i : Int) : tLevel n t o r d i = .agg #[.int .i64 (lev0 n t o r d i), .int .i64 (lev1 n t o r d i), .int .i64 (lev2 n t o r d i)] := by
  unfold tLevel lev0 lev1 lev2
  cases known n t o r d i <;> rfl
def or3 (x y z : Int) : Int := bif x == 0 then (bif y == 0 then z else y) else x
def ord3 (a b c a' b' c' : Int) : Int := or3 (cmp3 a a') (cmp3 b b') (cmp3 c c')
theorem tOrder_e (a b c a' b' c' : Int) (Q : Value → Prop) : ((((cmp3 a a') != (Int.ofNat 0)) = true → (some (.int .i64 b) : Option Value) = some (.int .i64 b) ∧ ((some (.int .i64 b') : Option Value) = some (.int .i64 b') ∧ ((some (.int .i64 c) : Option Value) = some (.int .i64 c) ∧ ((some (.int .i64 c) : Option Value) = some (.int .i64 c) ∧ ((some (.int .i64 c') : Option Value) = some (.int .i64 c') ∧ ((some (.int .i64 c') : Option Value) = some (.int .i64 c') ∧ (Q (.int .i64 (cmp3 a a'))))))))) ∧ (((cmp3 a a') != (Int.ofNat 0)) = false → (((cmp3 b b') != (Int.ofNat 0)) = true → (some (.int .i64 b) : Option Value) = some (.int .i64 b) ∧ ((some (.int .i64 b') : Option Value) = some (.int .i64 b') ∧ ((some (.int .i64 c) : Option Value) = some (.int .i64 c) ∧ ((some (.int .i64 c) : Option Value) = some (.int .i64 c) ∧ ((some (.int .i64 c') : Option Value) = some (.int .i64 c') ∧ ((some (.int .i64 c') : Option Value) = some (.int .i64 c') ∧ (Q (.int .i64 (cmp3 b b'))))))))) ∧ (((cmp3 b b') != (Int.ofNat 0)) = false → (((cmp3 c c') != (Int.ofNat 0)) = true → (some (.int .i64 b) : Option Value) = some (.int .i64 b) ∧ ((some (.int .i64 b') : Option Value) = some (.int .i64 b') ∧ ((some (.int .i64 c) : Option Value) = some (.int .i64 c) ∧ ((some (.int .i64 c) : Option Value) = some (.int .i64 c) ∧ ((some (.int .i64 c') : Option Value) = some (.int .i64 c') ∧ ((some (.int .i64 c') : Option Value) = some (.int .i64 c') ∧ (Q (.int .i64 (cmp3 c c'))))))))) ∧ (((cmp3 c c') != (Int.ofNat 0)) = false → (some (.int .i64 b) : Option Value) = some (.int .i64 b) ∧ ((some (.int .i64 b') : Option Value) = some (.int .i64 b') ∧ ((some (.int .i64 c) : Option Value) = some (.int .i64 c) ∧ ((some (.int .i64 c) : Option Value) = some (.int .i64 c) ∧ ((some (.int .i64 c') : Option Value) = some (.int .i64 c') ∧ ((some (.int .i64 c') : Option Value) = some (.int .i64 c') ∧ (Q (iN 0))))))))))) = CT Try.prog E2 61 25 [.agg #[.int .i64 a, .int .i64 b, .int .i64 c], .agg #[.int .i64 a', .int .i64 b', .int .i64 c']] (.b 31 (.stop 0 [] []) (.b 40 (.stop 0 [] []) (.b 49 (.stop 0 [] []) (.stop 0 [] [])))) Q := by kernel_rfl
theorem tOrder_run (a b c a' b' c' : Int) : ∃ hp, aCall Try.prog E2 61 25 [.agg #[.int .i64 a, .int .i64 b, .int .i64 c], .agg #[.int .i64 a', .int .i64 b', .int .i64 c']] hp0 = some (.int .i64 (ord3 a b c a' b' c'), hp) := by
  refine CT_run (tOrder_e a b c a' b' c' _) ?_
  refine ⟨fun h_31 => ⟨rfl, ⟨rfl, ⟨rfl, ⟨rfl, ⟨rfl, ⟨rfl, ?_⟩⟩⟩⟩⟩⟩, fun h_31 => ⟨fun h_40 => ⟨rfl, ⟨rfl, ⟨rfl, ⟨rfl, ⟨rfl, ⟨rfl, ?_⟩⟩⟩⟩⟩⟩, fun h_40 => ⟨fun h_49 => ⟨rfl, ⟨rfl, ⟨rfl, ⟨rfl, ⟨rfl, ⟨rfl, ?_⟩⟩⟩⟩⟩⟩, fun h_49 => ⟨rfl, ⟨rfl, ⟨rfl, ⟨rfl, ⟨rfl, ⟨rfl, ?_⟩⟩⟩⟩⟩⟩⟩⟩⟩
  all_goals (unfold ord3 or3; simp_all [Bool.cond_eq_ite] <;> rfl)
def g31 : List Value → Option Value
  | [.agg c0] => match c0.toList with
    | [.bool hn, .int .i64 ht, .int .i64 ho, .int .i64 hr, .int .i64 hd, .int .i64 hi] => some (.agg #[.int .i64 (lev0 hn ht ho hr hd hi), .int .i64 (lev1 hn ht ho hr hd hi), .int .i64 (lev2 hn ht ho hr hd hi)])
    | _ => none
  | _ => none
theorem hk31 : HookGoal Try.prog 26 g31 := hook_of (ext := E2) E2_ok follows Try.func26 (by kernel_rfl) fun args v h => by
  unfold g31 at h
  split at h
  · rename_i c0
    split at h
    · rename_i ec0
      cases h
      obtain rfl := arr_of ec0
      refine ⟨rfl, rfl, ?_⟩
      obtain ⟨hp, q⟩ := tLevel_run _ _ _ _ _ _
      rw [tLevel_eq] at q
      exact ⟨_, hp, q⟩
    · cases h
  · cases h
def g30 : List Value → Option Value
  | [.agg c0, .agg c1] => match c0.toList, c1.toList with
    | [.int .i64 a, .int .i64 b, .int .i64 c], [.int .i64 d, .int .i64 e, .int .i64 f] => some (.int .i64 (ord3 a b c d e f))
    | _, _ => none
  | _ => none
theorem hk30 : HookGoal Try.prog 25 g30 := hook_of (ext := E2) E2_ok follows Try.func25 (by kernel_rfl) fun args v h => by
  unfold g30 at h
  split at h
  · rename_i c0 c1
    split at h
    · rename_i ec0 ec1
      cases h
      obtain rfl := arr_of ec0
      obtain rfl := arr_of ec1
      refine ⟨rfl, rfl, ?_⟩
      obtain ⟨hp, q⟩ := tOrder_run _ _ _ _ _ _
      exact ⟨_, hp, q⟩
    · cases h
  · cases h
noncomputable def E3 : Ext := extH Try.prog [(50, g54), (51, g52), (26, g31), (25, g30)]
theorem E3_ok : ExtOk Try.prog E3 := by unfold E3; exact extH_ok (.cons hk54 (.cons hk52 (.cons hk31 (.cons hk30 .nil))))
end Go.Proofs.Ytgeoommlmddgpaa.LtA
namespace Go.Proofs.Ytgeoommlmddgpaa.LtA
open Go Go.Proofs Go.Proofs.Ytgeoommlmddgpaa.AI
def less (n : Bool) (t o r d i : Int) (n' : Bool) (t' o' r' d' i' : Int) : Bool :=
  known n t o r d i && (known n' t' o' r' d' i' && decide (or3 (ord3 (lev0 n t o r d i) (lev1 n t o r d i) (lev2 n t o r d i) (lev0 n' t' o' r' d' i') (lev1 n' t' o' r' d' i') (lev2 n' t' o' r' d' i')) (cmp3 d d') (cmp3 i i') < 0))
theorem tLess_e (n : Bool) (t o r d i : Int) (n' : Bool) (t' o' r' d' i' : Int) (Q : Value → Prop) : (((known n t o r d i) = true → ((known n' t' o' r' d' i') = true → (((ord3 (lev0 n t o r d i) (lev1 n t o r d i) (lev2 n t o r d i) (lev0 n' t' o' r' d' i') (lev1 n' t' o' r' d' i') (lev2 n' t' o' r' d' i')) != (Int.ofNat 0)) = true → (some (.agg #[.bool n', .int .i64 t', .int .i64 o', .int .i64 r', .int .i64 d', .int .i64 i']) : Option Value) = some (.agg #[.bool n', .int .i64 t', .int .i64 o', .int .i64 r', .int .i64 d', .int .i64 i']) ∧ ((some (.int .i64 d) : Option Value) = some (.int .i64 d) ∧ ((some (.int .i64 d) : Option Value) = some (.int .i64 d) ∧ ((some (.int .i64 d) : Option Value) = some (.int .i64 d) ∧ ((some (.int .i64 d') : Option Value) = some (.int .i64 d') ∧ ((some (.int .i64 d') : Option Value) = some (.int .i64 d') ∧ ((some (.int .i64 d') : Option Value) = some (.int .i64 d') ∧ ((some (.int .i64 i) : Option Value) = some (.int .i64 i) ∧ ((some (.int .i64 i) : Option Value) = some (.int .i64 i) ∧ ((some (.int .i64 i) : Option Value) = some (.int .i64 i) ∧ ((some (.int .i64 i) : Option Value) = some (.int .i64 i) ∧ ((some (.int .i64 i') : Option Value) = some (.int .i64 i') ∧ ((some (.int .i64 i') : Option Value) = some (.int .i64 i') ∧ ((some (.int .i64 i') : Option Value) = some (.int .i64 i') ∧ ((some (.int .i64 i') : Option Value) = some (.int .i64 i') ∧ (Q (.bool (decide ((ord3 (lev0 n t o r d i) (lev1 n t o r d i) (lev2 n t o r d i) (lev0 n' t' o' r' d' i') (lev1 n' t' o' r' d' i') (lev2 n' t' o' r' d' i')) < (Int.ofNat 0)))))))))))))))))))) ∧ (((ord3 (lev0 n t o r d i) (lev1 n t o r d i) (lev2 n t o r d i) (lev0 n' t' o' r' d' i') (lev1 n' t' o' r' d' i') (lev2 n' t' o' r' d' i')) != (Int.ofNat 0)) = false → (((cmp3 d d') != (Int.ofNat 0)) = true → (some (.agg #[.bool n', .int .i64 t', .int .i64 o', .int .i64 r', .int .i64 d', .int .i64 i']) : Option Value) = some (.agg #[.bool n', .int .i64 t', .int .i64 o', .int .i64 r', .int .i64 d', .int .i64 i']) ∧ ((some (.int .i64 d) : Option Value) = some (.int .i64 d) ∧ ((some (.int .i64 d) : Option Value) = some (.int .i64 d) ∧ ((some (.int .i64 d) : Option Value) = some (.int .i64 d) ∧ ((some (.int .i64 d') : Option Value) = some (.int .i64 d') ∧ ((some (.int .i64 d') : Option Value) = some (.int .i64 d') ∧ ((some (.int .i64 d') : Option Value) = some (.int .i64 d') ∧ ((some (.int .i64 i) : Option Value) = some (.int .i64 i) ∧ ((some (.int .i64 i) : Option Value) = some (.int .i64 i) ∧ ((some (.int .i64 i) : Option Value) = some (.int .i64 i) ∧ ((some (.int .i64 i) : Option Value) = some (.int .i64 i) ∧ ((some (.int .i64 i') : Option Value) = some (.int .i64 i') ∧ ((some (.int .i64 i') : Option Value) = some (.int .i64 i') ∧ ((some (.int .i64 i') : Option Value) = some (.int .i64 i') ∧ ((some (.int .i64 i') : Option Value) = some (.int .i64 i') ∧ (Q (.bool (decide ((cmp3 d d') < (Int.ofNat 0)))))))))))))))))))) ∧ (((cmp3 d d') != (Int.ofNat 0)) = false → (((cmp3 i i') != (Int.ofNat 0)) = true → (some (.agg #[.bool n', .int .i64 t', .int .i64 o', .int .i64 r', .int .i64 d', .int .i64 i']) : Option Value) = some (.agg #[.bool n', .int .i64 t', .int .i64 o', .int .i64 r', .int .i64 d', .int .i64 i']) ∧ ((some (.int .i64 d) : Option Value) = some (.int .i64 d) ∧ ((some (.int .i64 d) : Option Value) = some (.int .i64 d) ∧ ((some (.int .i64 d) : Option Value) = some (.int .i64 d) ∧ ((some (.int .i64 d') : Option Value) = some (.int .i64 d') ∧ ((some (.int .i64 d') : Option Value) = some (.int .i64 d') ∧ ((some (.int .i64 d') : Option Value) = some (.int .i64 d') ∧ ((some (.int .i64 i) : Option Value) = some (.int .i64 i) ∧ ((some (.int .i64 i) : Option Value) = some (.int .i64 i) ∧ ((some (.int .i64 i) : Option Value) = some (.int .i64 i) ∧ ((some (.int .i64 i) : Option Value) = some (.int .i64 i) ∧ ((some (.int .i64 i') : Option Value) = some (.int .i64 i') ∧ ((some (.int .i64 i') : Option Value) = some (.int .i64 i') ∧ ((some (.int .i64 i') : Option Value) = some (.int .i64 i') ∧ ((some (.int .i64 i') : Option Value) = some (.int .i64 i') ∧ (Q (.bool (decide ((cmp3 i i') < (Int.ofNat 0)))))))))))))))))))) ∧ (((cmp3 i i') != (Int.ofNat 0)) = false → (some (.agg #[.bool n', .int .i64 t', .int .i64 o', .int .i64 r', .int .i64 d', .int .i64 i']) : Option Value) = some (.agg #[.bool n', .int .i64 t', .int .i64 o', .int .i64 r', .int .i64 d', .int .i64 i']) ∧ ((some (.int .i64 d) : Option Value) = some (.int .i64 d) ∧ ((some (.int .i64 d) : Option Value) = some (.int .i64 d) ∧ ((some (.int .i64 d) : Option Value) = some (.int .i64 d) ∧ ((some (.int .i64 d') : Option Value) = some (.int .i64 d') ∧ ((some (.int .i64 d') : Option Value) = some (.int .i64 d') ∧ ((some (.int .i64 d') : Option Value) = some (.int .i64 d') ∧ ((some (.int .i64 i) : Option Value) = some (.int .i64 i) ∧ ((some (.int .i64 i) : Option Value) = some (.int .i64 i) ∧ ((some (.int .i64 i) : Option Value) = some (.int .i64 i) ∧ ((some (.int .i64 i) : Option Value) = some (.int .i64 i) ∧ ((some (.int .i64 i') : Option Value) = some (.int .i64 i') ∧ ((some (.int .i64 i') : Option Value) = some (.int .i64 i') ∧ ((some (.int .i64 i') : Option Value) = some (.int .i64 i') ∧ ((some (.int .i64 i') : Option Value) = some (.int .i64 i') ∧ (Q (.bool false)))))))))))))))))))) ∧ ((known n' t' o' r' d' i') = false → Q (.bool false))) ∧ ((known n t o r d i) = false → Q (.bool false))) = CT Try.prog E3 61 35 [.agg #[.bool n, .int .i64 t, .int .i64 o, .int .i64 r, .int .i64 d, .int .i64 i], .agg #[.bool n', .int .i64 t', .int .i64 o', .int .i64 r', .int .i64 d', .int .i64 i']] (.b 4 (.b 7 (.b 38 (.stop 0 [] []) (.b 47 (.stop 0 [] []) (.b 56 (.stop 0 [] []) (.stop 0 [] [])))) (.stop 0 [] [])) (.stop 0 [] [])) Q := by kernel_rfl
theorem tLess_run (n : Bool) (t o r d i : Int) (n' : Bool) (t' o' r' d' i' : Int) : ∃ hp, aCall Try.prog E3 61 35 [.agg #[.bool n, .int .i64 t, .int .i64 o, .int .i64 r, .int .i64 d, .int .i64 i], .agg #[.bool n', .int .i64 t', .int .i64 o', .int .i64 r', .int .i64 d', .int .i64 i']] hp0 = some (.bool (less n t o r d i n' t' o' r' d' i'), hp) := by
  refine CT_run (tLess_e n t o r d i n' t' o' r' d' i' _) ?_
  refine ⟨fun h_4 => ⟨fun h_7 => ⟨fun h_38 => ⟨rfl, ⟨rfl, ⟨rfl, ⟨rfl, ⟨rfl, ⟨rfl, ⟨rfl, ⟨rfl, ⟨rfl, ⟨rfl, ⟨rfl, ⟨rfl, ⟨rfl, ⟨rfl, ⟨rfl, ?_⟩⟩⟩⟩⟩⟩⟩⟩⟩⟩⟩⟩⟩⟩⟩, fun h_38 => ⟨fun h_47 => ⟨rfl, ⟨rfl, ⟨rfl, ⟨rfl, ⟨rfl, ⟨rfl, ⟨rfl, ⟨rfl, ⟨rfl, ⟨rfl, ⟨rfl, ⟨rfl, ⟨rfl, ⟨rfl, ⟨rfl, ?_⟩⟩⟩⟩⟩⟩⟩⟩⟩⟩⟩⟩⟩⟩⟩, fun h_47 => ⟨fun h_56 => ⟨rfl, ⟨rfl, ⟨rfl, ⟨rfl, ⟨rfl, ⟨rfl, ⟨rfl, ⟨rfl, ⟨rfl, ⟨rfl, ⟨rfl, ⟨rfl, ⟨rfl, ⟨rfl, ⟨rfl, ?_⟩⟩⟩⟩⟩⟩⟩⟩⟩⟩⟩⟩⟩⟩⟩, fun h_56 => ⟨rfl, ⟨rfl, ⟨rfl, ⟨rfl, ⟨rfl, ⟨rfl, ⟨rfl, ⟨rfl, ⟨rfl, ⟨rfl, ⟨rfl, ⟨rfl, ⟨rfl, ⟨rfl, ⟨rfl, ?_⟩⟩⟩⟩⟩⟩⟩⟩⟩⟩⟩⟩⟩⟩⟩⟩⟩⟩, fun h_7 => ?_⟩, fun h_4 => ?_⟩
  all_goals (unfold less or3; simp_all [Bool.cond_eq_ite] <;> rfl)
def g17 : List Value → Option Value
  | [.agg c0, .agg c1] => match c0.toList, c1.toList with
    | [.bool hn, .int .i64 ht, .int .i64 ho, .int .i64 hr, .int .i64 hd, .int .i64 hi], [.bool kn, .int .i64 kt, .int .i64 ko, .int .i64 kr, .int .i64 kd, .int .i64 ki] => some (.bool (less hn ht ho hr hd hi kn kt ko kr kd ki))
    | _, _ => none
  | _ => none
theorem hk17 : HookGoal Try.prog 35 g17 := hook_of (ext := E3) E3_ok follows Try.func35 (by kernel_rfl) fun args v h => by
  unfold g17 at h
  split at h
  · rename_i c0 c1
    split at h
    · rename_i ec0 ec1
      cases h
      obtain rfl := arr_of ec0
      obtain rfl := arr_of ec1
      refine ⟨rfl, rfl, ?_⟩
      obtain ⟨hp, q⟩ := tLess_run _ _ _ _ _ _ _ _ _ _ _ _
      exact ⟨_, hp, q⟩
    · cases h
  · cases h
noncomputable def E4 : Ext := extH Try.prog [(39, g51), (35, g17)]
theorem E4_ok : ExtOk Try.prog E4 := by unfold E4; exact extH_ok (.cons hk51 (.cons hk17 .nil))
def tDir (aNull : Bool) (aTau : Int) (aOid : Int) (aR : Int) (aDelta : Int) (aId : Int) (bNull : Bool) (bTau : Int) (bOid : Int) (bR : Int) (bDelta : Int) (bId : Int) : Value := (bif (told (bNull) (bTau) (bOid) (bR) (bDelta) (bId)) then (bif (told (aNull) (aTau) (aOid) (aR) (aDelta) (aId)) then (bif (less (bNull) (bTau) (bOid) (bR) (bDelta) (bId) (aNull) (aTau) (aOid) (aR) (aDelta) (aId)) then (.int .i64 1) else (bif (less (aNull) (aTau) (aOid) (aR) (aDelta) (aId) (bNull) (bTau) (bOid) (bR) (bDelta) (bId)) then (.int .i64 2) else (.int .i64 0))) else (.int .i64 1)) else (.int .i64 0))
theorem tDir_run (aNull : Bool) (aTau : Int) (aOid : Int) (aR : Int) (aDelta : Int) (aId : Int) (bNull : Bool) (bTau : Int) (bOid : Int) (bR : Int) (bDelta : Int) (bId : Int) : ∃ hp, aCall Try.prog E4 61 12 [.agg #[.bool aNull, .int .i64 aTau, .int .i64 aOid, .int .i64 aR, .int .i64 aDelta, .int .i64 aId], .agg #[.bool bNull, .int .i64 bTau, .int .i64 bOid, .int .i64 bR, .int .i64 bDelta, .int .i64 bId]] hp0 = some (tDir aNull aTau aOid aR aDelta aId bNull bTau bOid bR bDelta bId, hp) := by
  cases h0 : (told (bNull) (bTau) (bOid) (bR) (bDelta) (bId)) with
  | true =>
    cases h1 : (told (aNull) (aTau) (aOid) (aR) (aDelta) (aId)) with
    | true =>
      cases h2 : (less (bNull) (bTau) (bOid) (bR) (bDelta) (bId) (aNull) (aTau) (aOid) (aR) (aDelta) (aId)) with
      | true =>
        have e : tDir aNull aTau aOid aR aDelta aId bNull bTau bOid bR bDelta bId = (.int .i64 1) := by simp only [tDir, h0, h1, h2, cond_true, cond_false]
        rw [e]
        exact callQ_run [(7, .bool true), (11, .bool true), (16, .bool true)] (q := [(some (.bool (told (bNull) (bTau) (bOid) (bR) (bDelta) (bId))), .bool true), (some (.bool (told (aNull) (aTau) (aOid) (aR) (aDelta) (aId))), .bool true), (some (.bool (less (bNull) (bTau) (bOid) (bR) (bDelta) (bId) (aNull) (aTau) (aOid) (aR) (aDelta) (aId))), .bool true)]) (by kernel_rfl) (Met.cons (met_bool h0) (Met.cons (met_bool h1) (Met.cons (met_bool h2) (Met.nil))))
      | false =>
        cases h3 : (less (aNull) (aTau) (aOid) (aR) (aDelta) (aId) (bNull) (bTau) (bOid) (bR) (bDelta) (bId)) with
        | true =>
          have e : tDir aNull aTau aOid aR aDelta aId bNull bTau bOid bR bDelta bId = (.int .i64 2) := by simp only [tDir, h0, h1, h2, h3, cond_true, cond_false]
          rw [e]
          exact callQ_run [(7, .bool true), (11, .bool true), (16, .bool false), (21, .bool true)] (q := [(some (.bool (told (bNull) (bTau) (bOid) (bR) (bDelta) (bId))), .bool true), (some (.bool (told (aNull) (aTau) (aOid) (aR) (aDelta) (aId))), .bool true), (some (.bool (less (bNull) (bTau) (bOid) (bR) (bDelta) (bId) (aNull) (aTau) (aOid) (aR) (aDelta) (aId))), .bool false), (some (.bool (less (aNull) (aTau) (aOid) (aR) (aDelta) (aId) (bNull) (bTau) (bOid) (bR) (bDelta) (bId))), .bool true)]) (by kernel_rfl) (Met.cons (met_bool h0) (Met.cons (met_bool h1) (Met.cons (met_bool h2) (Met.cons (met_bool h3) (Met.nil)))))
        | false =>
          have e : tDir aNull aTau aOid aR aDelta aId bNull bTau bOid bR bDelta bId = (.int .i64 0) := by simp only [tDir, h0, h1, h2, h3, cond_true, cond_false]
          rw [e]
          exact callQ_run [(7, .bool true), (11, .bool true), (16, .bool false), (21, .bool false)] (q := [(some (.bool (told (bNull) (bTau) (bOid) (bR) (bDelta) (bId))), .bool true), (some (.bool (told (aNull) (aTau) (aOid) (aR) (aDelta) (aId))), .bool true), (some (.bool (less (bNull) (bTau) (bOid) (bR) (bDelta) (bId) (aNull) (aTau) (aOid) (aR) (aDelta) (aId))), .bool false), (some (.bool (less (aNull) (aTau) (aOid) (aR) (aDelta) (aId) (bNull) (bTau) (bOid) (bR) (bDelta) (bId))), .bool false)]) (by kernel_rfl) (Met.cons (met_bool h0) (Met.cons (met_bool h1) (Met.cons (met_bool h2) (Met.cons (met_bool h3) (Met.nil)))))
    | false =>
      have e : tDir aNull aTau aOid aR aDelta aId bNull bTau bOid bR bDelta bId = (.int .i64 1) := by simp only [tDir, h0, h1, cond_true, cond_false]
      rw [e]
      exact callQ_run [(7, .bool true), (11, .bool false)] (q := [(some (.bool (told (bNull) (bTau) (bOid) (bR) (bDelta) (bId))), .bool true), (some (.bool (told (aNull) (aTau) (aOid) (aR) (aDelta) (aId))), .bool false)]) (by kernel_rfl) (Met.cons (met_bool h0) (Met.cons (met_bool h1) (Met.nil)))
  | false =>
    have e : tDir aNull aTau aOid aR aDelta aId bNull bTau bOid bR bDelta bId = (.int .i64 0) := by simp only [tDir, h0, cond_true, cond_false]
    rw [e]
    exact callQ_run [(7, .bool false)] (q := [(some (.bool (told (bNull) (bTau) (bOid) (bR) (bDelta) (bId))), .bool false)]) (by kernel_rfl) (Met.cons (met_bool h0) (Met.nil))
def dir (n : Bool) (t o r d i : Int) (n' : Bool) (t' o' r' d' i' : Int) : Int :=
  bif known n' t' o' r' d' i' then (bif known n t o r d i then (bif less n' t' o' r' d' i' n t o r d i then 1 else (bif less n t o r d i n' t' o' r' d' i' then 2 else 0)) else 1) else 0
theorem tDir_eq (n : Bool) (t o r d i : Int) (n' : Bool) (t' o' r' d' i' : Int) : tDir n t o r d i n' t' o' r' d' i' = .int .i64 (dir n t o r d i n' t' o' r' d' i') := by
  unfold tDir dir told
  cases known n' t' o' r' d' i' <;> cases known n t o r d i <;> cases less n' t' o' r' d' i' n t o r d i <;> cases less n t o r d i n' t' o' r' d' i' <;> rfl
def g14 : List Value → Option Value
  | [.agg c0, .agg c1] => match c0.toList, c1.toList with
    | [.bool hn, .int .i64 ht, .int .i64 ho, .int .i64 hr, .int .i64 hd, .int .i64 hi], [.bool kn, .int .i64 kt, .int .i64 ko, .int .i64 kr, .int .i64 kd, .int .i64 ki] => some (.int .i64 (dir hn ht ho hr hd hi kn kt ko kr kd ki))
    | _, _ => none
  | _ => none
theorem hk14 : HookGoal Try.prog 12 g14 := hook_of (ext := E4) E4_ok follows Try.func12 (by kernel_rfl) fun args v h => by
  unfold g14 at h
  split at h
  · rename_i c0 c1
    split at h
    · rename_i ec0 ec1
      cases h
      obtain rfl := arr_of ec0
      obtain rfl := arr_of ec1
      refine ⟨rfl, rfl, ?_⟩
      obtain ⟨hp, q⟩ := tDir_run _ _ _ _ _ _ _ _ _ _ _ _
      rw [tDir_eq] at q
      exact ⟨_, hp, q⟩
    · cases h
  · cases h
end Go.Proofs.Ytgeoommlmddgpaa.LtA
namespace Go.Proofs.Ytgeoommlmddgpaa.LtA
open Go Go.Proofs Go.Proofs.Ytgeoommlmddgpaa.AI Go.RowKit
def tOne (id : Int) (hNull : Bool) (hTau : Int) (hOid : Int) (hR : Int) (hDelta : Int) (hId : Int) : Value := (bif hNull then (bif (decide (id ≥ 0)) then (bif (decide (id < 64)) then (bif (hId == id) then (bif ((chk (true) (hTau) (hOid) (hR) (hDelta) (hId)) == 0) then (.bool true) else (.bool false)) else (.bool false)) else (.bool false)) else (.bool false)) else (bif (decide (id ≥ 0)) then (bif (decide (id < 64)) then (bif (hId == id) then (bif ((chk (false) (hTau) (hOid) (hR) (hDelta) (hId)) == 0) then (.bool true) else (.bool false)) else (.bool false)) else (.bool false)) else (.bool false)))
theorem tOne_run (id : Int) (hNull : Bool) (hTau : Int) (hOid : Int) (hR : Int) (hDelta : Int) (hId : Int) : ∃ hp, aCall Try.prog E1 61 48 [.int .i64 id, .agg #[.bool hNull, .int .i64 hTau, .int .i64 hOid, .int .i64 hR, .int .i64 hDelta, .int .i64 hId]] hp0 = some (tOne id hNull hTau hOid hR hDelta hId, hp) := by
  cases hNull with
  | true =>
    cases h0 : (decide (id ≥ 0)) with
    | true =>
      cases h1 : (decide (id < 64)) with
      | true =>
        cases h2 : (hId == id) with
        | true =>
          cases h3 : ((chk (true) (hTau) (hOid) (hR) (hDelta) (hId)) == 0) with
          | true =>
            have e : tOne id true hTau hOid hR hDelta hId = (.bool true) := by simp only [tOne, h0, h1, h2, h3, cond_true, cond_false]
            rw [e]
            exact callQ_run [(6, .bool true), (9, .bool true), (15, .bool true), (20, .bool true)] (q := [(some (.bool (decide (id ≥ 0))), .bool true), (some (.bool (decide (id < 64))), .bool true), (some (.bool (hId == id)), .bool true), (some (.bool ((chk (true) (hTau) (hOid) (hR) (hDelta) (hId)) == 0)), .bool true)]) (by kernel_rfl) (Met.cons (met_bool h0) (Met.cons (met_bool h1) (Met.cons (met_bool h2) (Met.cons (met_bool h3) (Met.nil)))))
          | false =>
            have e : tOne id true hTau hOid hR hDelta hId = (.bool false) := by simp only [tOne, h0, h1, h2, h3, cond_true, cond_false]
            rw [e]
            exact callQ_run [(6, .bool true), (9, .bool true), (15, .bool true), (20, .bool false)] (q := [(some (.bool (decide (id ≥ 0))), .bool true), (some (.bool (decide (id < 64))), .bool true), (some (.bool (hId == id)), .bool true), (some (.bool ((chk (true) (hTau) (hOid) (hR) (hDelta) (hId)) == 0)), .bool false)]) (by kernel_rfl) (Met.cons (met_bool h0) (Met.cons (met_bool h1) (Met.cons (met_bool h2) (Met.cons (met_bool h3) (Met.nil)))))
        | false =>
          have e : tOne id true hTau hOid hR hDelta hId = (.bool false) := by simp only [tOne, h0, h1, h2, cond_true, cond_false]
          rw [e]
          exact callQ_run [(6, .bool true), (9, .bool true), (15, .bool false)] (q := [(some (.bool (decide (id ≥ 0))), .bool true), (some (.bool (decide (id < 64))), .bool true), (some (.bool (hId == id)), .bool false)]) (by kernel_rfl) (Met.cons (met_bool h0) (Met.cons (met_bool h1) (Met.cons (met_bool h2) (Met.nil))))
      | false =>
        have e : tOne id true hTau hOid hR hDelta hId = (.bool false) := by simp only [tOne, h0, h1, cond_true, cond_false]
        rw [e]
        exact callQ_run [(6, .bool true), (9, .bool false)] (q := [(some (.bool (decide (id ≥ 0))), .bool true), (some (.bool (decide (id < 64))), .bool false)]) (by kernel_rfl) (Met.cons (met_bool h0) (Met.cons (met_bool h1) (Met.nil)))
    | false =>
      have e : tOne id true hTau hOid hR hDelta hId = (.bool false) := by simp only [tOne, h0, cond_true, cond_false]
      rw [e]
      exact callQ_run [(6, .bool false)] (q := [(some (.bool (decide (id ≥ 0))), .bool false)]) (by kernel_rfl) (Met.cons (met_bool h0) (Met.nil))
  | false =>
    cases h0 : (decide (id ≥ 0)) with
    | true =>
      cases h1 : (decide (id < 64)) with
      | true =>
        cases h2 : (hId == id) with
        | true =>
          cases h3 : ((chk (false) (hTau) (hOid) (hR) (hDelta) (hId)) == 0) with
          | true =>
            have e : tOne id false hTau hOid hR hDelta hId = (.bool true) := by simp only [tOne, h0, h1, h2, h3, cond_true, cond_false]
            rw [e]
            exact callQ_run [(6, .bool true), (9, .bool true), (15, .bool true), (20, .bool true)] (q := [(some (.bool (decide (id ≥ 0))), .bool true), (some (.bool (decide (id < 64))), .bool true), (some (.bool (hId == id)), .bool true), (some (.bool ((chk (false) (hTau) (hOid) (hR) (hDelta) (hId)) == 0)), .bool true)]) (by kernel_rfl) (Met.cons (met_bool h0) (Met.cons (met_bool h1) (Met.cons (met_bool h2) (Met.cons (met_bool h3) (Met.nil)))))
          | false =>
            have e : tOne id false hTau hOid hR hDelta hId = (.bool false) := by simp only [tOne, h0, h1, h2, h3, cond_true, cond_false]
            rw [e]
            exact callQ_run [(6, .bool true), (9, .bool true), (15, .bool true), (20, .bool false)] (q := [(some (.bool (decide (id ≥ 0))), .bool true), (some (.bool (decide (id < 64))), .bool true), (some (.bool (hId == id)), .bool true), (some (.bool ((chk (false) (hTau) (hOid) (hR) (hDelta) (hId)) == 0)), .bool false)]) (by kernel_rfl) (Met.cons (met_bool h0) (Met.cons (met_bool h1) (Met.cons (met_bool h2) (Met.cons (met_bool h3) (Met.nil)))))
        | false =>
          have e : tOne id false hTau hOid hR hDelta hId = (.bool false) := by simp only [tOne, h0, h1, h2, cond_true, cond_false]
          rw [e]
          exact callQ_run [(6, .bool true), (9, .bool true), (15, .bool false)] (q := [(some (.bool (decide (id ≥ 0))), .bool true), (some (.bool (decide (id < 64))), .bool true), (some (.bool (hId == id)), .bool false)]) (by kernel_rfl) (Met.cons (met_bool h0) (Met.cons (met_bool h1) (Met.cons (met_bool h2) (Met.nil))))
      | false =>
        have e : tOne id false hTau hOid hR hDelta hId = (.bool false) := by simp only [tOne, h0, h1, cond_true, cond_false]
        rw [e]
        exact callQ_run [(6, .bool true), (9, .bool false)] (q := [(some (.bool (decide (id ≥ 0))), .bool true), (some (.bool (decide (id < 64))), .bool false)]) (by kernel_rfl) (Met.cons (met_bool h0) (Met.cons (met_bool h1) (Met.nil)))
    | false =>
      have e : tOne id false hTau hOid hR hDelta hId = (.bool false) := by simp only [tOne, h0, cond_true, cond_false]
      rw [e]
      exact callQ_run [(6, .bool false)] (q := [(some (.bool (decide (id ≥ 0))), .bool false)]) (by kernel_rfl) (Met.cons (met_bool h0) (Met.nil))
def tVTold (hNull : Bool) (hTau : Int) (hOid : Int) (hR : Int) (hDelta : Int) (hId : Int) : Value := (bif hNull then (.bool false) else (bif ((chk (false) (hTau) (hOid) (hR) (hDelta) (hId)) == 0) then (.bool true) else (.bool false)))
theorem tVTold_run (hNull : Bool) (hTau : Int) (hOid : Int) (hR : Int) (hDelta : Int) (hId : Int) : ∃ hp, aCall Try.prog E1 61 74 [.agg #[.bool hNull, .int .i64 hTau, .int .i64 hOid, .int .i64 hR, .int .i64 hDelta, .int .i64 hId]] hp0 = some (tVTold hNull hTau hOid hR hDelta hId, hp) := by
  cases hNull with
  | true =>
    have e : tVTold true hTau hOid hR hDelta hId = (.bool false) := by simp only [tVTold, cond_true, cond_false]
    rw [e]
    exact callQ_run [] (q := []) (by kernel_rfl) (Met.nil)
  | false =>
    cases h0 : ((chk (false) (hTau) (hOid) (hR) (hDelta) (hId)) == 0) with
    | true =>
      have e : tVTold false hTau hOid hR hDelta hId = (.bool true) := by simp only [tVTold, h0, cond_true, cond_false]
      rw [e]
      exact callQ_run [(9, .bool true)] (q := [(some (.bool ((chk (false) (hTau) (hOid) (hR) (hDelta) (hId)) == 0)), .bool true)]) (by kernel_rfl) (Met.cons (met_bool h0) (Met.nil))
    | false =>
      have e : tVTold false hTau hOid hR hDelta hId = (.bool false) := by simp only [tVTold, h0, cond_true, cond_false]
      rw [e]
      exact callQ_run [(9, .bool false)] (q := [(some (.bool ((chk (false) (hTau) (hOid) (hR) (hDelta) (hId)) == 0)), .bool false)]) (by kernel_rfl) (Met.cons (met_bool h0) (Met.nil))
def tNull (id : Int) : Value := (.agg #[.bool true, .int .i64 0, .int .i64 0, .int .i64 0, .int .i64 0, .int .i64 id])
theorem tNull_run (id : Int) : ∃ hp, aCall Try.prog E1 61 38 [.int .i64 id] hp0 = some (tNull id, hp) := by
  have e : tNull id = (.agg #[.bool true, .int .i64 0, .int .i64 0, .int .i64 0, .int .i64 0, .int .i64 id]) := by simp only [tNull, cond_true, cond_false]
  rw [e]
  exact callQ_run [] (q := []) (by kernel_rfl) (Met.nil)
def oneB (id : Int) (n : Bool) (t o r d i : Int) : Bool := decide (id ≥ 0) && (decide (id < 64) && ((i == id) && (chk n t o r d i == 0)))
theorem bif4 (a b c d : Bool) : (bif a then (bif b then (bif c then (bif d then Value.bool true else .bool false) else .bool false) else .bool false) else .bool false) = .bool (a && (b && (c && d))) := by
  cases a <;> cases b <;> cases c <;> cases d <;> rfl
theorem tOne_eq (id : Int) (n : Bool) (t o r d i : Int) : tOne id n t o r d i = .bool (oneB id n t o r d i) := by
  unfold tOne oneB
  cases n
  · exact bif4 _ _ _ _
  · exact bif4 _ _ _ _
theorem tVTold_eq (n : Bool) (t o r d i : Int) : tVTold n t o r d i = .bool (told n t o r d i) := tTold_eq n t o r d i
def g55 : List Value → Option Value
  | [.int .i64 id, .agg c0] => match c0.toList with
    | [.bool hn, .int .i64 ht, .int .i64 ho, .int .i64 hr, .int .i64 hd, .int .i64 hi] => some (.bool (oneB id hn ht ho hr hd hi))
    | _ => none
  | _ => none
theorem hk55 : HookGoal Try.prog 48 g55 := hook_of (ext := E1) E1_ok follows Try.func48 (by kernel_rfl) fun args v h => by
  unfold g55 at h
  split at h
  · rename_i id c0
    split at h
    · rename_i ec0
      cases h
      obtain rfl := arr_of ec0
      refine ⟨rfl, rfl, ?_⟩
      obtain ⟨hp, q⟩ := tOne_run _ _ _ _ _ _ _
      rw [tOne_eq] at q
      exact ⟨_, hp, q⟩
    · cases h
  · cases h
def g57 : List Value → Option Value
  | [.agg c0] => match c0.toList with
    | [.bool hn, .int .i64 ht, .int .i64 ho, .int .i64 hr, .int .i64 hd, .int .i64 hi] => some (.bool (told hn ht ho hr hd hi))
    | _ => none
  | _ => none
theorem hk57 : HookGoal Try.prog 74 g57 := hook_of (ext := E1) E1_ok follows Try.func74 (by kernel_rfl) fun args v h => by
  unfold g57 at h
  split at h
  · rename_i c0
    split at h
    · rename_i ec0
      cases h
      obtain rfl := arr_of ec0
      refine ⟨rfl, rfl, ?_⟩
      obtain ⟨hp, q⟩ := tVTold_run _ _ _ _ _ _
      rw [tVTold_eq] at q
      exact ⟨_, hp, q⟩
    · cases h
  · cases h
def g32 : List Value → Option Value
  | [.int .i64 id] => some (tNull id)
  | _ => none
theorem hk32 : HookGoal Try.prog 38 g32 := hook_of (ext := E1) E1_ok follows Try.func38 (by kernel_rfl) fun args v h => by
  unfold g32 at h
  split at h
  · cases h
    obtain ⟨hp, q⟩ := tNull_run _
    exact ⟨rfl, rfl, _, hp, q⟩
  · cases h
noncomputable def E5 : Ext := extH Try.prog [(48, g55), (74, g57), (38, g32), (26, g31), (25, g30), (35, g17), (52, g15)]
theorem E5_ok : ExtOk Try.prog E5 := by unfold E5; exact extH_ok (.cons hk55 (.cons hk57 (.cons hk32 (.cons hk31 (.cons hk30 (.cons hk17 (.cons hk15 .nil)))))))
noncomputable def cE : CallF := aCall Try.prog E5 5
theorem cE_ok : CallOk Try.prog cE := aCall_sound E5_ok follows 5
structure ViewV where
  (id : Int) (n : Bool) (t o r d i : Int)
def vc (v : ViewV) : List Value := [.int .i64 v.id, .bool v.n, .int .i64 v.t, .int .i64 v.o, .int .i64 v.r, .int .i64 v.d, .int .i64 v.i]
def vrow (vs : List ViewV) : List Value := vs.flatMap vc
def oneV (v : ViewV) : Bool := oneB v.id v.n v.t v.o v.r v.d v.i
theorem vrow_inert (vs : List ViewV) : (vrow vs).all inert = true := by
  unfold vrow
  rw [List.all_flatMap]
  exact List.all_eq_true.2 fun p _ => rfl
def sL : Code → Code
  | .seq a _ => a
  | c => c
def sR : Code → Code
  | .seq _ b => b
  | c => c
def unB : Code → Code
  | .block _ b => b
  | c => c
def unL : Code → Code
  | .loop b => b
  | c => c
def rowS (b n c : Nat) : Value := .slice (some ⟨b, 0, none⟩) n c
theorem met_app {x y : List Obl} (h1 : Met x) (h2 : Met y) : Met (x ++ y) := fun o ho => by
  rcases List.mem_append.1 ho with h | h
  · exact h1 o h
  · exact h2 o h
theorem size34 : tsize Try.prog 45 = some 7 := by kernel_rfl
theorem agg34 : tagg Try.prog 45 = some true := by kernel_rfl
theorem size3 : tsize Try.prog 3 = some 1 := by kernel_rfl
theorem agg3 : tagg Try.prog 3 = some false := by kernel_rfl
theorem vidx_ok {b n i c : Nat} (h : i < n) : fstV ((aIndexAddr Try.prog 22 (rowS b n c) (iN i)).map fun v => (v, none)) = some (.pointer (some ⟨b, i * 7, none⟩)) := by
  have h1 : (0 : Int) ≤ Int.ofNat i ∧ Int.ofNat i < (n : Int) := ⟨Int.natCast_nonneg i, by simpa using h⟩
  simp only [aIndexAddr, rowS, iN, Try.underlying22, size34]
  rw [if_pos h1]
  simp [fstV]
def RowAt (hp : Hp) (b : Nat) (vs : List ViewV) : Prop := ∃ ty ro rest, hp.get b = some (.cells ty (vrow vs ++ rest) ro)
theorem RowAt.of {hp : Hp} {b : Nat} {vs : List ViewV} {ty : TypeId} {ro : Bool} (h : hp.get b = some (.cells ty (vrow vs) ro)) : RowAt hp b vs := ⟨ty, ro, [], by rw [List.append_nil]; exact h⟩
def Holds (vs : List ViewV) (o : Blk) : Prop := vs = [] ∨ ∃ ty ro rest, o = .cells ty (vrow vs ++ rest) ro
theorem Holds.of {vs : List ViewV} {o : Blk} (h : vs = [] ∨ ∃ ty ro, o = .cells ty (vrow vs) ro) : Holds vs o := by
  rcases h with h | ⟨ty, ro, h⟩
  · exact .inl h
  · exact .inr ⟨ty, ro, [], by rw [List.append_nil]; exact h⟩
theorem getR_app {cs rest : List Value} {off n : Nat} {r : List Value} (h : getR cs off n = some r) : getR (cs ++ rest) off n = some r := by
  unfold getR at h ⊢
  by_cases hl : ((cs.drop off).take n).length = n
  · rw [if_pos hl] at h
    have hle : n ≤ (cs.drop off).length := by rw [List.length_take] at hl; omega
    have e : ((cs ++ rest).drop off).take n = (cs.drop off).take n := by
      by_cases ho : off ≤ cs.length
      · rw [List.drop_append_of_le_length ho, List.take_append_of_le_length hle]
      · have : n = 0 := by rw [List.length_drop] at hle; omega
        subst this; simp
    rw [e, if_pos hl]; exact h
  · rw [if_neg hl] at h; cases h
theorem get_app {cs rest : List Value} {i : Nat} {v : Value} (h : cs[i]? = some v) : (cs ++ rest)[i]? = some v := by
  rw [List.getElem?_append_left (List.getElem?_eq_some_iff.1 h).1, h]
theorem vload_ok {hp : Hp} {b : Nat} {vs : List ViewV} {i : Nat} {p : ViewV} (ho : RowAt hp b vs) (h : vs[i]? = some p) : aLoad Try.prog hp.get 45 (.pointer (some ⟨b, i * 7, none⟩)) = some (.agg ⟨vc p⟩) := by
  obtain ⟨ty, ro, rest, hg⟩ := ho
  simp only [aLoad, hg, agg34, size34]
  have := flat_getR (f := vc) (k := 7) (ps := vs) (fun _ _ => rfl) h
  unfold vrow
  rw [getR_app this]
  rfl
theorem vcell_ok {hp : Hp} {b : Nat} {vs : List ViewV} {i : Nat} {p : ViewV} (ho : RowAt hp b vs) (h : vs[i]? = some p) : aLoad Try.prog hp.get 3 (.pointer (some ⟨b, i * 7, none⟩)) = some (.int .i64 p.id) := by
  obtain ⟨ty, ro, rest, hg⟩ := ho
  simp only [aLoad, hg, agg3, size3]
  have := flat_get vc 7 vs (fun _ _ => rfl) i 0 p h (by omega)
  rw [Nat.add_zero] at this
  unfold vrow
  rw [get_app this]
theorem inR64 {x : Int} (h1 : -9223372036854775808 ≤ x) (h2 : x ≤ 9223372036854775807) : inR .i64 x = true := Bool.and_eq_true_iff.2 ⟨decide_eq_true h1, decide_eq_true h2⟩
theorem wrap64 {x : Int} (h1 : -9223372036854775808 ≤ x) (h2 : x ≤ 9223372036854775807) : wrapF .i64 x = x := by
  unfold wrapF
  rw [inR64 h1 h2]
theorem wrap_up {i : Nat} (h : i < 1000000) : (some (Value.int .i64 (wrapF .i64 (Int.ofNat i + 1)))) = some (iN (i + 1)) := by
  have e : Int.ofNat i + 1 = Int.ofNat (i + 1) := rfl
  rw [e, wrap64 (by have := Int.natCast_nonneg (i + 1); simp only [Int.ofNat_eq_natCast]; omega) (by simp only [Int.ofNat_eq_natCast]; omega)]
  rfl
theorem wrap_down {i : Nat} (h : i < 1000000) : (some (Value.int .i64 (wrapF .i64 (Int.ofNat (i + 1) - 1)))) = some (iN i) := by
  have e : Int.ofNat (i + 1) - 1 = Int.ofNat i := by simp only [Int.ofNat_eq_natCast]; omega
  rw [e, wrap64 (by have := Int.natCast_nonneg i; simp only [Int.ofNat_eq_natCast]; omega) (by simp only [Int.ofNat_eq_natCast]; omega)]
  rfl
end Go.Proofs.Ytgeoommlmddgpaa.LtA
namespace Go.Proofs.Ytgeoommlmddgpaa.LtA
open Go Go.Proofs Go.Proofs.Ytgeoommlmddgpaa.AI Go.RowKit
noncomputable def fb18 : Code := (Try.f24.body).getD .skip
noncomputable def c18a : Code := sL fb18
noncomputable def c18b : Code := sL (sL (sR fb18))
noncomputable def c18c : Code := unL (unB (sR (sL (sR fb18))))
noncomputable def c18d : Code := sR (sR fb18)
theorem body18 : Try.f24.body = some (.seq c18a (.seq (.seq c18b (.block 0 (.loop c18c))) c18d)) := by kernel_rfl
section
variable (o : Blk) (n c : Nat)
abbrev A18 (g : Nat → Value) : St := stOf 34 g [(0, rowS 0 n c), (2, iN 0)] [o]
abbrev L18 (i : Nat) (g : Nat → Value) : St := stOf 34 g [(0, rowS 0 n c), (2, iN 0), (5, rowS 0 n c), (6, iN n), (7, iN i)] [o]
abbrev R18 (v : Value) (g : Nat → Value) : St := stOf 34 g [(2, v)] [o]
abbrev B18 : St := ⟨tmsOf [rowS 0 n c] 0 .leaf, heapOf [o, .dead] hp0, []⟩
theorem r18a : (execQ Try.prog cE [] 10 c18a (B18 o n c)).map (fun r => (look2 1 [0] [0, 2] (r.1, r.2.1), r.2.2)) = some ((.normal, [o], [(0, rowS 0 n c), (2, iN 0)], true), []) := by kernel_rfl
theorem r18b (g : Nat → Value) : (execQ Try.prog cE [] 10 c18b (A18 o n c g)).map (fun r => (look2 1 [0] [0, 2, 5, 6, 7] (r.1, r.2.1), r.2.2)) = some ((.normal, [o], [(0, rowS 0 n c), (2, iN 0), (5, rowS 0 n c), (6, iN n), (7, iN 0)], true), []) := by kernel_rfl
theorem r18d (g : Nat → Value) : (execQ Try.prog cE [] 10 c18d (A18 o n c g)).map (fun r => (look2 1 [0] [2] (r.1, r.2.1), r.2.2)) = some ((.ret, [o], [(2, iN 0)], true), []) := by kernel_rfl
theorem r18x (i : Nat) (g : Nat → Value) : (execQ Try.prog cE [(8, .bool false)] 20 c18c (L18 o n c i g)).map (fun r => (look2 1 [0] [0, 2] (r.1, r.2.1), r.2.2)) =
    some ((.exit 0, [o], [(0, rowS 0 n c), (2, iN 0)], true), [(some (.bool (decide (Int.ofNat i < Int.ofNat n))), .bool false)]) := by kernel_rfl
noncomputable def owe18 (i : Nat) (v : ViewV) : List Obl :=
  [(some (.bool (decide (Int.ofNat i < Int.ofNat n))), .bool true),
   (fstV ((aIndexAddr Try.prog 22 (rowS 0 n c) (iN i)).map fun v => (v, none)), .pointer (some ⟨0, i * 7, none⟩)),
   (aLoad Try.prog (heapOf ([o] ++ [.dead]) hp0).get 45 (.pointer (some ⟨0, i * 7, none⟩)), .agg ⟨vc v⟩)]
def see18 (i : Nat) (v : ViewV) : List (Tmp × Value) := [(8, .bool true), (10, .pointer (some ⟨0, i * 7, none⟩)), (11, .agg ⟨vc v⟩)]
theorem r18f (i : Nat) (v : ViewV) (g : Nat → Value) : (execQ Try.prog cE (see18 i v ++ [(16, .bool false)]) 20 c18c (L18 o n c i g)).map (fun r => (look2 1 [0] [2] (r.1, r.2.1), r.2.2)) =
    some ((.ret, [o], [(2, iN 1)], true), owe18 o n c i v ++ [(some (.bool (oneV v)), .bool false)]) := by kernel_rfl
theorem r18g (v : ViewV) (g : Nat → Value) : (execQ Try.prog cE (see18 0 v ++ [(16, .bool true), (33, iN 1)]) 20 c18c (L18 o n c 0 g)).map (fun r => (look2 1 [0] [0, 2, 5, 6, 7] (r.1, r.2.1), r.2.2)) =
    some ((.normal, [o], [(0, rowS 0 n c), (2, iN 0), (5, rowS 0 n c), (6, iN n), (7, iN 1)], true), owe18 o n c 0 v ++ [(some (.bool (oneV v)), .bool true), (some (.int .i64 (wrapF .i64 (Int.ofNat 0 + 1))), iN 1)]) := by kernel_rfl
noncomputable def pre18 (j : Nat) (u v : ViewV) : List Obl :=
  owe18 o n c (j + 1) v ++ [(some (.bool (oneV v)), .bool true), (some (.bool (decide (Int.ofNat (j + 1) > 0))), .bool true), (some (.int .i64 (wrapF .i64 (Int.ofNat (j + 1) - 1))), iN j),
   (fstV ((aIndexAddr Try.prog 22 (rowS 0 n c) (iN j)).map fun v => (v, none)), .pointer (some ⟨0, j * 7, none⟩)),
   (aLoad Try.prog (heapOf [o, .dead, .cells 45 (vc v) false] hp0).get 3 (.pointer (some ⟨0, j * 7, none⟩)), .int .i64 u.id)]
def sep18 (j : Nat) (u v : ViewV) : List (Tmp × Value) := see18 (j + 1) v ++ [(16, .bool true), (20, .bool true), (24, iN j), (25, .pointer (some ⟨0, j * 7, none⟩)), (27, .int .i64 u.id)]
theorem r18h (j : Nat) (u v : ViewV) (g : Nat → Value) : (execQ Try.prog cE (sep18 j u v ++ [(30, .bool true)]) 20 c18c (L18 o n c (j + 1) g)).map (fun r => (look2 1 [0] [2] (r.1, r.2.1), r.2.2)) =
    some ((.ret, [o], [(2, iN 1)], true), pre18 o n c j u v ++ [(some (.bool (decide (u.id ≥ v.id))), .bool true)]) := by kernel_rfl
theorem r18i (j : Nat) (u v : ViewV) (g : Nat → Value) : (execQ Try.prog cE (sep18 j u v ++ [(30, .bool false), (33, iN (j + 1 + 1))]) 20 c18c (L18 o n c (j + 1) g)).map (fun r => (look2 1 [0] [0, 2, 5, 6, 7] (r.1, r.2.1), r.2.2)) =
    some ((.normal, [o], [(0, rowS 0 n c), (2, iN 0), (5, rowS 0 n c), (6, iN n), (7, iN (j + 1 + 1))], true),
      pre18 o n c j u v ++ [(some (.bool (decide (u.id ≥ v.id))), .bool false), (some (.int .i64 (wrapF .i64 (Int.ofNat (j + 1) + 1))), iN (j + 1 + 1))]) := by kernel_rfl
theorem q18 (v : Value) (g : Nat → Value) : retVal Try.prog Try.f24 (R18 o v g) = some v := by kernel_rfl
end
theorem s18a : codeSafe Try.prog 34 c18a = true := by kernel_rfl
theorem s18b : codeSafe Try.prog 34 c18b = true := by kernel_rfl
theorem s18c : codeSafe Try.prog 34 c18c = true := by kernel_rfl
theorem s18d : codeSafe Try.prog 34 c18d = true := by kernel_rfl
def rightAt (vs : List ViewV) (i : Nat) : Bool := match vs[i]? with
  | none => true
  | some v => oneV v && (match i with
    | 0 => true
    | j + 1 => match vs[j]? with
      | some u => decide (u.id < v.id)
      | none => true)
def rightB (vs : List ViewV) : Bool := (List.range vs.length).all (rightAt vs)
theorem rightB_of {vs : List ViewV} (h : ∀ j, j < vs.length → rightAt vs j = true) : rightB vs = true := List.all_eq_true.2 fun j hj => h j (List.mem_range.1 hj)
theorem rightB_not {vs : List ViewV} {j : Nat} (hj : j < vs.length) (h : rightAt vs j = false) : rightB vs = false := by
  cases e : rightB vs with
  | false => rfl
  | true =>
    have := List.all_eq_true.1 e j (List.mem_range.2 hj)
    rw [h] at this; cases this
def errI (b : Bool) : Value := match b with
  | true => iN 0
  | false => iN 1
theorem fixO {o : Blk} (ho : inertB o = true) : ∀ r : List Blk, ∀ i, i < 1 → ∀ o', (o :: r)[i]? = some o' → Fixed 1 o' := by
  intro r i hi o' h
  have : i = 0 := by omega
  subst this
  simp at h
  subst h
  exact inert_fixed ho 1
theorem rowAt0 {o : Blk} {vs : List ViewV} {r : List Blk} (h : ∃ ty ro, o = .cells ty (vrow vs) ro) : RowAt (heapOf (o :: r) hp0) 0 vs := by
  obtain ⟨ty, ro, rfl⟩ := h
  exact .of (ty := ty) (ro := ro) (by rw [heapOf0_get]; rfl)
end Go.Proofs.Ytgeoommlmddgpaa.LtA
namespace Go.Proofs.Ytgeoommlmddgpaa.LtA
open Go Go.Proofs Go.Proofs.Ytgeoommlmddgpaa.AI Go.RowKit
def bindE (r acc : Option Bool) : Option Bool := match r with
  | some true => acc
  | some false => some false
  | none => none
def sameV (u v : ViewV) : Bool := u.id == v.id && (same23 u.n u.t u.o u.r u.d u.i v.n v.t v.o v.r v.d v.i && true)
theorem neq34 (u v : ViewV) : fstV ((aBin Try.prog .neq 45 (.agg ⟨vc u⟩) (.agg ⟨vc v⟩)).map fun v => (v, none)) = some (.bool (!sameV u v)) := by
  have h : aBin Try.prog .neq 45 (.agg ⟨vc u⟩) (.agg ⟨vc v⟩) =
      (andE (u.id == v.id) (bindE (andE (u.n == v.n) (andE (u.t == v.t) (andE (u.o == v.o) (andE (u.r == v.r) (andE (u.d == v.d) (andE (u.i == v.i) (some true))))))) (some true))).map fun b => .bool (!b) := by kernel_rfl
  rw [h]
  simp only [andE_some]
  unfold sameV same23
  generalize (u.n == v.n && (u.t == v.t && (u.o == v.o && (u.r == v.r && (u.d == v.d && (u.i == v.i && true)))))) = x
  generalize (u.id == v.id) = y
  cases x <;> cases y <;> rfl
noncomputable def fb28 : Code := (Try.f23.body).getD .skip
noncomputable def c28a : Code := sL fb28
noncomputable def c28b : Code := sL (sR fb28)
noncomputable def c28c : Code := sL (sL (sR (sR fb28)))
noncomputable def c28d : Code := unL (unB (sR (sL (sR (sR fb28)))))
noncomputable def c28e : Code := sR (sR (sR fb28))
theorem body28 : Try.f23.body = some (.seq c28a (.seq c28b (.seq (.seq c28c (.block 0 (.loop c28d))) c28e))) := by kernel_rfl
section
variable (o1 o2 : Blk) (n1 c1 n2 c2 : Nat)
abbrev B28 : St := ⟨tmsOf [rowS 0 n1 c1, rowS 1 n2 c2] 0 .leaf, heapOf [o1, o2, .dead] hp0, []⟩
abbrev A28 (g : Nat → Value) : St := stOf 26 g [(0, rowS 0 n1 c1), (1, rowS 1 n2 c2), (4, .bool false)] [o1, o2]
abbrev L28 (i : Nat) (g : Nat → Value) : St := stOf 26 g [(0, rowS 0 n1 c1), (1, rowS 1 n2 c2), (4, .bool false), (5, iN i)] [o1, o2]
abbrev R28 (v : Value) (g : Nat → Value) : St := stOf 26 g [(4, v)] [o1, o2]
theorem r28a : (execQ Try.prog cE [] 10 c28a (B28 o1 o2 n1 c1 n2 c2)).map (fun r => (look2 2 [0, 1] [0, 1, 4] (r.1, r.2.1), r.2.2)) = some ((.normal, [o1, o2], [(0, rowS 0 n1 c1), (1, rowS 1 n2 c2), (4, .bool false)], true), []) := by kernel_rfl
theorem r28b (g : Nat → Value) : (execQ Try.prog cE [(10, .bool true)] 10 c28b (A28 o1 o2 n1 c1 n2 c2 g)).map (fun r => (look2 2 [0, 1] [4] (r.1, r.2.1), r.2.2)) = some ((.ret, [o1, o2], [(4, .bool false)], true), [(some (.bool (Int.ofNat n1 != Int.ofNat n2)), .bool true)]) := by kernel_rfl
theorem r28c (g : Nat → Value) : (execQ Try.prog cE [(10, .bool false)] 10 c28b (A28 o1 o2 n1 c1 n2 c2 g)).map (fun r => (look2 2 [0, 1] [0, 1, 4] (r.1, r.2.1), r.2.2)) = some ((.normal, [o1, o2], [(0, rowS 0 n1 c1), (1, rowS 1 n2 c2), (4, .bool false)], true), [(some (.bool (Int.ofNat n1 != Int.ofNat n2)), .bool false)]) := by kernel_rfl
theorem r28d (g : Nat → Value) : (execQ Try.prog cE [] 10 c28c (A28 o1 o2 n1 c1 n2 c2 g)).map (fun r => (look2 2 [0, 1] [0, 1, 4, 5] (r.1, r.2.1), r.2.2)) = some ((.normal, [o1, o2], [(0, rowS 0 n1 c1), (1, rowS 1 n2 c2), (4, .bool false), (5, iN 0)], true), []) := by kernel_rfl
theorem r28e (g : Nat → Value) : (execQ Try.prog cE [] 10 c28e (A28 o1 o2 n1 c1 n2 c2 g)).map (fun r => (look2 2 [0, 1] [4] (r.1, r.2.1), r.2.2)) = some ((.ret, [o1, o2], [(4, .bool true)], true), []) := by kernel_rfl
theorem r28x (i : Nat) (g : Nat → Value) : (execQ Try.prog cE [(14, .bool false)] 20 c28d (L28 o1 o2 n1 c1 n2 c2 i g)).map (fun r => (look2 2 [0, 1] [0, 1, 4] (r.1, r.2.1), r.2.2)) = some ((.exit 0, [o1, o2], [(0, rowS 0 n1 c1), (1, rowS 1 n2 c2), (4, .bool false)], true), [(some (.bool (decide (Int.ofNat i < Int.ofNat n1))), .bool false)]) := by kernel_rfl
noncomputable def owe28 (i : Nat) (u v : ViewV) : List Obl :=
  [(some (.bool (decide (Int.ofNat i < Int.ofNat n1))), .bool true),
   (fstV ((aIndexAddr Try.prog 22 (rowS 0 n1 c1) (iN i)).map fun v => (v, none)), .pointer (some ⟨0, i * 7, none⟩)),
   (aLoad Try.prog (heapOf ([o1, o2] ++ [.dead]) hp0).get 45 (.pointer (some ⟨0, i * 7, none⟩)), .agg ⟨vc u⟩),
   (fstV ((aIndexAddr Try.prog 22 (rowS 1 n2 c2) (iN i)).map fun v => (v, none)), .pointer (some ⟨1, i * 7, none⟩)),
   (aLoad Try.prog (heapOf ([o1, o2] ++ [.dead]) hp0).get 45 (.pointer (some ⟨1, i * 7, none⟩)), .agg ⟨vc v⟩)]
def see28 (i : Nat) (u v : ViewV) : List (Tmp × Value) := [(14, .bool true), (19, .pointer (some ⟨0, i * 7, none⟩)), (20, .agg ⟨vc u⟩), (23, .pointer (some ⟨1, i * 7, none⟩)), (24, .agg ⟨vc v⟩)]
theorem r28f (i : Nat) (u v : ViewV) (g : Nat → Value) : (execQ Try.prog cE (see28 i u v ++ [(25, .bool true)]) 20 c28d (L28 o1 o2 n1 c1 n2 c2 i g)).map (fun r => (look2 2 [0, 1] [4] (r.1, r.2.1), r.2.2)) =
    some ((.ret, [o1, o2], [(4, .bool false)], true), owe28 o1 o2 n1 c1 n2 c2 i u v ++ [(fstV ((aBin Try.prog .neq 45 (.agg ⟨vc u⟩) (.agg ⟨vc v⟩)).map fun v => (v, none)), .bool true)]) := by kernel_rfl
theorem r28g (i : Nat) (u v : ViewV) (g : Nat → Value) : (execQ Try.prog cE (see28 i u v ++ [(25, .bool false), (16, iN (i + 1))]) 20 c28d (L28 o1 o2 n1 c1 n2 c2 i g)).map (fun r => (look2 2 [0, 1] [0, 1, 4, 5] (r.1, r.2.1), r.2.2)) =
    some ((.normal, [o1, o2], [(0, rowS 0 n1 c1), (1, rowS 1 n2 c2), (4, .bool false), (5, iN (i + 1))], true),
      owe28 o1 o2 n1 c1 n2 c2 i u v ++ [(fstV ((aBin Try.prog .neq 45 (.agg ⟨vc u⟩) (.agg ⟨vc v⟩)).map fun v => (v, none)), .bool false), (some (.int .i64 (wrapF .i64 (Int.ofNat i + 1))), iN (i + 1))]) := by kernel_rfl
theorem q28 (v : Value) (g : Nat → Value) : retVal Try.prog Try.f23 (R28 o1 o2 v g) = some v := by kernel_rfl
end
theorem s28a : codeSafe Try.prog 26 c28a = true := by kernel_rfl
theorem s28b : codeSafe Try.prog 26 c28b = true := by kernel_rfl
theorem s28c : codeSafe Try.prog 26 c28c = true := by kernel_rfl
theorem s28d : codeSafe Try.prog 26 c28d = true := by kernel_rfl
theorem s28e : codeSafe Try.prog 26 c28e = true := by kernel_rfl
def alikeAt (us vs : List ViewV) (i : Nat) : Bool := match us[i]?, vs[i]? with
  | some u, some v => sameV u v
  | _, _ => true
def sameRow (us vs : List ViewV) : Bool := decide (us.length = vs.length) && (List.range us.length).all (alikeAt us vs)
theorem fixO2 {o1 o2 : Blk} (h1 : inertB o1 = true) (h2 : inertB o2 = true) : ∀ r : List Blk, ∀ i, i < 2 → ∀ o', (o1 :: o2 :: r)[i]? = some o' → Fixed 2 o' := by
  intro r i hi o' h
  match i, hi with
  | 0, _ => simp at h; subst h; exact inert_fixed h1 2
  | 1, _ => simp at h; subst h; exact inert_fixed h2 2
theorem rowAt0' {o : Blk} {vs : List ViewV} {r : List Blk} (h : ∃ ty ro rest, o = .cells ty (vrow vs ++ rest) ro) : RowAt (heapOf (o :: r) hp0) 0 vs := by
  obtain ⟨ty, ro, rest, rfl⟩ := h
  exact ⟨ty, ro, rest, by rw [heapOf0_get]; rfl⟩
theorem rowAt1 {o1 o2 : Blk} {vs : List ViewV} {r : List Blk} (h : ∃ ty ro rest, o2 = .cells ty (vrow vs ++ rest) ro) : RowAt (heapOf (o1 :: o2 :: r) hp0) 1 vs := by
  obtain ⟨ty, ro, rest, rfl⟩ := h
  exact ⟨ty, ro, rest, by rw [heapOf0_get]; rfl⟩
theorem row_of_mem {o : Blk} {vs : List ViewV} {v : ViewV} (h : Holds vs o) (hv : v ∈ vs) : ∃ ty ro rest, o = .cells ty (vrow vs ++ rest) ro := by
  rcases h with h | h
  · subst h; cases hv
  · exact h
theorem same_fr (o1 o2 : Blk) (h1 : inertB o1 = true) (h2 : inertB o2 = true) (us vs : List ViewV) (hn : us.length < 1000000) (hr1 : Holds us o1) (hr2 : Holds vs o2) (c1 c2 : Nat) (W : Base) :
    FRwp Try.prog 26 W (.seq c28a (.seq c28b (.seq (.seq c28c (.block 0 (.loop c28d))) c28e))) (B28 o1 o2 us.length c1 vs.length c2) (fun e st => (e = .normal ∨ e = .ret) ∧ st.df = [] ∧ retVal Try.prog Try.f23 st = some (.bool (sameRow us vs))) := by
  have hO := fixO2 h1 h2
  refine FRwp.seq (Q1 := fun x st => x = .normal ∧ ∃ g, st = A28 o1 o2 us.length c1 vs.length c2 g) (FRwp.piece cE_ok follows 2 _ _ _ _ (r28a o1 o2 us.length c1 vs.length c2) Met.nil s28a rfl rfl rfl (hO _) fun g => ⟨rfl, g, rfl⟩) ?_ (fun x st hne hq => absurd hq.1 hne)
  rintro st ⟨-, g, rfl⟩
  cases h10 : (Int.ofNat us.length != Int.ofNat vs.length) with
  | true =>
    have hne : us.length ≠ vs.length := by intro h; rw [h] at h10; simp at h10
    refine FRwp.seq (Q1 := fun x st => x = .ret ∧ ∃ g, st = R28 o1 o2 (.bool false) g) (FRwp.piece cE_ok follows 2 _ _ _ _ (r28b o1 o2 us.length c1 vs.length c2 g) (Met.cons (met_bool h10) Met.nil) s28b rfl rfl rfl (hO _) fun g => ⟨rfl, g, rfl⟩) (fun st hq => by cases hq.1) ?_
    rintro x st hx ⟨rfl, g, rfl⟩
    refine ⟨.inr rfl, rfl, ?_⟩
    have : sameRow us vs = false := by unfold sameRow; rw [decide_eq_false hne]; rfl
    rw [this]
    exact q28 o1 o2 _ g
  | false =>
    have heq : us.length = vs.length := by
      simp only [bne_eq_false_iff_eq, Int.ofNat_eq_natCast] at h10; omega
    refine FRwp.seq (Q1 := fun x st => x = .normal ∧ ∃ g, st = A28 o1 o2 us.length c1 vs.length c2 g) (FRwp.piece cE_ok follows 2 _ _ _ _ (r28c o1 o2 us.length c1 vs.length c2 g) (Met.cons (met_bool h10) Met.nil) s28b rfl rfl rfl (hO _) fun g => ⟨rfl, g, rfl⟩) ?_ (fun x st hne hq => absurd hq.1 hne)
    rintro st ⟨-, g, rfl⟩
    let Q2 : Exit → St → Prop := fun x st => (x = .normal ∧ ∃ g, st = A28 o1 o2 us.length c1 vs.length c2 g ∧ sameRow us vs = true) ∨ (x = .ret ∧ ∃ g, st = R28 o1 o2 (.bool false) g ∧ sameRow us vs = false)
    refine FRwp.seq (Q1 := Q2) ?_ ?_ ?_
    · refine FRwp.seq (Q1 := fun x st => x = .normal ∧ ∃ g, st = L28 o1 o2 us.length c1 vs.length c2 0 g) (FRwp.piece cE_ok follows 2 _ _ _ _ (r28d o1 o2 us.length c1 vs.length c2 g) Met.nil s28c rfl rfl rfl (hO _) fun g => ⟨rfl, g, rfl⟩) ?_ (fun x st hne hq => absurd hq.1 hne)
      rintro st ⟨-, g, rfl⟩
      refine FRwp.block ?_
      refine FRwp.loop (fun k st => ∃ i g, i ≤ us.length ∧ k = us.length - i ∧ (∀ j, j < i → alikeAt us vs j = true) ∧ st = L28 o1 o2 us.length c1 vs.length c2 i g) ?_ (k := us.length) ⟨0, g, Nat.zero_le _, rfl, fun j hj => absurd hj (Nat.not_lt_zero _), rfl⟩
      rintro k st ⟨i, g, hi, hk, hgood, rfl⟩
      cases h14 : decide (Int.ofNat i < Int.ofNat us.length) with
      | false =>
        refine FRwp.piece cE_ok follows 2 _ _ _ _ (r28x o1 o2 us.length c1 vs.length c2 i g) (Met.cons (met_bool h14) Met.nil) s28d rfl rfl rfl (hO _) fun g' => .inr ⟨by simp, ?_⟩
        show (if (0 : Nat) = 0 then Q2 .normal _ else Q2 (.exit 0) _)
        rw [if_pos rfl]
        have hii : i = us.length := by simp at h14; omega
        refine .inl ⟨rfl, g', rfl, ?_⟩
        unfold sameRow
        rw [decide_eq_true heq, Bool.true_and]
        exact List.all_eq_true.2 fun j hj => hgood j (by have := List.mem_range.1 hj; omega)
      | true =>
        have hlt : i < us.length := by simpa using h14
        obtain ⟨u, hu⟩ : ∃ u, us[i]? = some u := ⟨_, List.getElem?_eq_getElem hlt⟩
        obtain ⟨v, hv⟩ : ∃ v, vs[i]? = some v := ⟨_, List.getElem?_eq_getElem (by omega)⟩
        have hru := row_of_mem hr1 (List.mem_of_getElem? hu)
        have hrv := row_of_mem hr2 (List.mem_of_getElem? hv)
        have hmet : Met (owe28 o1 o2 us.length c1 vs.length c2 i u v) := Met.cons (met_bool h14) (Met.cons (vidx_ok hlt) (Met.cons (vload_ok (rowAt0' hru) hu) (Met.cons (vidx_ok (by omega)) (Met.cons (vload_ok (rowAt1 hrv) hv) Met.nil))))
        have hal : alikeAt us vs i = sameV u v := by simp only [alikeAt, hu, hv]
        cases h25 : sameV u v with
        | false =>
          refine FRwp.piece cE_ok follows 2 _ _ _ _ (r28f o1 o2 us.length c1 vs.length c2 i u v g) (met_app hmet (Met.cons (by rw [neq34, h25]; rfl) Met.nil)) s28d rfl rfl rfl (hO _) fun g' => .inr ⟨by simp, .inr ⟨rfl, g', rfl, ?_⟩⟩
          unfold sameRow
          cases e : (List.range us.length).all (alikeAt us vs) with
          | false => simp
          | true =>
            have := List.all_eq_true.1 e i (List.mem_range.2 hlt)
            rw [hal, h25] at this; cases this
        | true =>
          refine FRwp.piece cE_ok follows 2 _ _ _ _ (r28g o1 o2 us.length c1 vs.length c2 i u v g) (met_app hmet (Met.cons (by rw [neq34, h25]; rfl) (Met.cons (wrap_up (by omega)) Met.nil))) s28d rfl rfl rfl (hO _) fun g' => .inl ⟨rfl, us.length - (i + 1), by omega, i + 1, g', by omega, rfl, fun j hj => ?_, rfl⟩
          rcases Nat.lt_succ_iff_lt_or_eq.1 hj with h' | h'
          · exact hgood j h'
          · subst h'; rw [hal, h25]
    · rintro st (⟨-, g, rfl, hf⟩ | ⟨h, -⟩)
      · refine FRwp.piece cE_ok follows 2 _ _ _ _ (r28e o1 o2 us.length c1 vs.length c2 g) Met.nil s28e rfl rfl rfl (hO _) fun g' => ⟨.inr rfl, rfl, ?_⟩
        rw [hf]
        exact q28 o1 o2 _ g'
      · cases h
    · rintro x st hne (⟨h, -⟩ | ⟨rfl, g, rfl, hf⟩)
      · exact absurd h hne
      · refine ⟨.inr rfl, rfl, ?_⟩
        rw [hf]
        exact q28 o1 o2 _ g
end Go.Proofs.Ytgeoommlmddgpaa.LtA
namespace Go.Proofs.Ytgeoommlmddgpaa.LtA
open Go Go.Proofs Go.Proofs.Ytgeoommlmddgpaa.AI Go.RowKit
def newS (b n : Nat) : Value := .slice (some ⟨b, 0, none⟩) n 22
section
variable (o : Blk) (n c : Nat) (vs : List ViewV)
end
theorem info34 : ∃ i, Try.prog.info? 45 = some i ∧ i.size = 7 ∧ i.bytes = 56 := by
  have h : (Try.prog.info? 45).map (fun i => (i.size, i.bytes)) = some (7, 56) := by kernel_rfl
  obtain ⟨i, h1, h2⟩ := Option.map_eq_some_iff.1 h
  simp only [Prod.mk.injEq] at h2
  exact ⟨i, h1, h2.1, h2.2⟩
theorem zero34 : ∃ z, tzero Try.prog 45 = some z ∧ z.length = 7 := by
  have h : (tzero Try.prog 45).map (fun z => z.length) = some 7 := by kernel_rfl
  obtain ⟨z, h1, h2⟩ := Option.map_eq_some_iff.1 h
  exact ⟨z, h1, h2⟩
theorem vrow_len (vs : List ViewV) : (vrow vs).length = vs.length * 7 := flat_len vc 7 vs (fun _ _ => rfl)
theorem vrow_one (vs : List ViewV) : (vrow vs).all isOne = true := by
  unfold vrow
  rw [List.all_flatMap]
  exact List.all_eq_true.2 fun p _ => rfl
theorem getR_all {cs : List Value} {n : Nat} (h : cs.length = n) : getR cs 0 n = some cs := by
  unfold getR
  simp [← h]
theorem ro_row {o : Blk} {vs : List ViewV} (h : vs = [] ∨ ∃ ty ro, o = .cells ty (vrow vs) ro) : vs = [] ∨ ∃ ty ro, roBlk o = .cells ty (vrow vs) ro := by
  rcases h with h | ⟨ty, ro, rfl⟩
  · exact .inl h
  · exact .inr ⟨ty, true, rfl⟩
theorem ro_inert {o : Blk} (h : inertB o = true) : inertB (roBlk o) = true := by cases o <;> exact h
theorem start1 {hp : Hp} {b : Nat} {o : Blk} (hb : hp.get b = some o) (hi : inertB o = true) : startHp [b] hp = heapOf [roBlk o, .dead] hp0 := by
  unfold startHp
  simp [hb, inert_shBlk hi]
theorem row_block (vs : List ViewV) : inertB (.cells 45 (vrow vs) false) = true := vrow_inert vs
open Classical in
noncomputable def g61 (vs : List ViewV) : HeapFn := fun args hp =>
  if args = [.slice none 0 0] ∧ vs = [] then some (.slice none 0 0, heapOf ([] ++ [.dead]) hp)
  else if ∃ b c o, args = [rowS b vs.length c] ∧ hp.get b = some o ∧ inertB o = true ∧ (vs = [] ∨ ∃ ty ro, o = .cells ty (vrow vs) ro) then some (newS hp.sz vs.length, heapOf ([.cells 45 (vrow vs) false] ++ [.dead]) hp)
  else none
theorem ok2_inert {o : Blk} (h : inertB o = true) : okBlk o = true := by
  cases o with
  | cells ty cs ro => exact List.all_eq_true.2 fun v hv => (inert_ok (List.all_eq_true.1 h v hv)).1
  | map => cases h
  | dead => rfl
end Go.Proofs.Ytgeoommlmddgpaa.LtA
namespace Go.Proofs.Ytgeoommlmddgpaa.LtA
open Go Go.Proofs Go.Proofs.Ytgeoommlmddgpaa.AI Go.RowKit
noncomputable def E6 (vs : List ViewV) : Ext := extG E5 [(61, g61 vs)]
noncomputable def c6 (vs : List ViewV) : CallF := aCall Try.prog (E6 vs) 5
def levA (lt lo lr : Int) : Value := .agg #[.int .i64 lt, .int .i64 lo, .int .i64 lr]
def p1 : Value := .pointer (some ⟨1, 0, none⟩)
def rowB (us : List ViewV) : Blk := .cells 45 (vrow us) false
section
variable (o : Blk) (vs us : List ViewV) (n c : Nat) (lt lo lr keep : Int)
def nxt29 (i : Nat) : Obl := (some (.int .i64 (wrapF .i64 (Int.ofNat i + 1))), iN (i + 1))
end
section
variable {lt lo lr keep : Int} {vs : List ViewV}
end
theorem put_row {us : List ViewV} {i k : Nat} {x y : ViewV} {ns : List Value} (hx : us[i]? = some x) (hk : k + ns.length ≤ 7) (hy : ∀ j, j < 7 → (vc y)[j]? = if k ≤ j ∧ j < k + ns.length then ns[j - k]? else (vc x)[j]?) :
    putL (vrow us) (i * 7 + k) ns = vrow (us.set i y) := by
  have hi : i < us.length := (List.getElem?_eq_some_iff.1 hx).1
  have hl := vrow_len us
  apply List.ext_getElem?
  intro j
  rw [putL_get]
  by_cases hj : j < us.length * 7
  · have hq : j / 7 < us.length := Nat.div_lt_of_lt_mul (by rw [Nat.mul_comm]; exact hj)
    have hr : j % 7 < 7 := Nat.mod_lt _ (by omega)
    have hs : j / 7 * 7 + j % 7 = j := by omega
    obtain ⟨u, hu⟩ : ∃ u, us[j / 7]? = some u := ⟨_, List.getElem?_eq_getElem hq⟩
    have g1 : (vrow us)[j]? = (vc u)[j % 7]? := by
      have := flat_get vc 7 us (fun _ _ => rfl) (j / 7) (j % 7) u hu hr
      rw [hs] at this; exact this
    by_cases hqi : j / 7 = i
    · have hux : u = x := by rw [hqi, hx] at hu; exact (Option.some.inj hu).symm
      subst hux
      have hset : (us.set i y)[j / 7]? = some y := by rw [hqi]; simp [hi]
      have g2 : (vrow (us.set i y))[j]? = (vc y)[j % 7]? := by
        have := flat_get vc 7 (us.set i y) (fun _ _ => rfl) (j / 7) (j % 7) y hset hr
        rw [hs] at this; exact this
      rw [g2, hy _ hr, g1]
      by_cases hc : k ≤ j % 7 ∧ j % 7 < k + ns.length
      · rw [if_pos hc, if_pos (by rw [hl]; omega)]
        congr 1; omega
      · rw [if_neg hc, if_neg (by rw [hl]; omega)]
    · have hset : (us.set i y)[j / 7]? = some u := by rw [List.getElem?_set_ne (by omega)]; exact hu
      have g2 : (vrow (us.set i y))[j]? = (vc u)[j % 7]? := by
        have := flat_get vc 7 (us.set i y) (fun _ _ => rfl) (j / 7) (j % 7) u hset hr
        rw [hs] at this; exact this
      rw [g2, g1, if_neg]
      intro hc
      have : i * 7 ≤ j ∧ j < i * 7 + 7 := by omega
      omega
  · rw [if_neg (by rw [hl]; omega), List.getElem?_eq_none (by rw [hl]; omega), List.getElem?_eq_none (by rw [vrow_len]; simp; omega)]
theorem size23 : tsize Try.prog 24 = some 6 := by kernel_rfl
theorem fix1 (us : List ViewV) : ∀ r : List Blk, ∀ i, i < 1 → ∀ o', (rowB us :: r)[i]? = some o' → Fixed 0 o' := by
  intro r i hi o' h
  have : i = 0 := by omega
  subst this
  simp at h
  subst h
  exact inert_fixed (row_block us) 0
end Go.Proofs.Ytgeoommlmddgpaa.LtA
namespace Go.Proofs.Ytgeoommlmddgpaa.LtA
open Go Go.Proofs Go.Proofs.Ytgeoommlmddgpaa.AI Go.RowKit
section
variable (lt lo lr keep : Int)
def p0 : Value := .pointer (some ⟨0, 0, none⟩)
def nilS : Value := .slice none 0 0
end
def TR (vs : List ViewV) (s : Value) (hp : Hp) : Prop := ∃ b c o, s = rowS b vs.length c ∧ hp.get b = some o ∧ inertB o = true ∧ (vs = [] ∨ ∃ ty ro, o = .cells ty (vrow vs) ro)
theorem TR.not_nil {vs : List ViewV} {hp : Hp} (h : TR vs nilS hp) : False := by
  obtain ⟨b, c, o, h, _⟩ := h
  simp [rowS, nilS] at h
end Go.Proofs.Ytgeoommlmddgpaa.LtA
namespace Go.Proofs.Ytgeoommlmddgpaa.LtA
open Go Go.Proofs Go.Proofs.Ytgeoommlmddgpaa.AI Go.RowKit
noncomputable abbrev code18 : Code := .seq c18a (.seq (.seq c18b (.block 0 (.loop c18c))) c18d)
theorem n18a : (execQ Try.prog cE [] 10 c18a ⟨tmsOf [nilS] 0 .leaf, heapOf [.dead] hp0, []⟩).map (fun r => (look2 0 [] [0, 2] (r.1, r.2.1), r.2.2)) = some ((.normal, [], [(0, nilS), (2, iN 0)], true), []) := by kernel_rfl
theorem n18b (g : Nat → Value) : (execQ Try.prog cE [] 10 c18b (stOf 34 g [(0, nilS), (2, iN 0)] [])).map (fun r => (look2 0 [] [0, 2, 5, 6, 7] (r.1, r.2.1), r.2.2)) = some ((.normal, [], [(0, nilS), (2, iN 0), (5, nilS), (6, iN 0), (7, iN 0)], true), []) := by kernel_rfl
theorem n18c (g : Nat → Value) : (execQ Try.prog cE [] 20 c18c (stOf 34 g [(0, nilS), (2, iN 0), (5, nilS), (6, iN 0), (7, iN 0)] [])).map (fun r => (look2 0 [] [0, 2] (r.1, r.2.1), r.2.2)) = some ((.exit 0, [], [(0, nilS), (2, iN 0)], true), []) := by kernel_rfl
theorem n18d (g : Nat → Value) : (execQ Try.prog cE [] 10 c18d (stOf 34 g [(0, nilS), (2, iN 0)] [])).map (fun r => (look2 0 [] [2] (r.1, r.2.1), r.2.2)) = some ((.ret, [], [(2, iN 0)], true), []) := by kernel_rfl
theorem q18' (v : Value) (O : List Blk) (g : Nat → Value) : retVal Try.prog Try.f24 (stOf 34 g [(2, v)] O) = some v := by kernel_rfl
theorem noFix (O : List Blk) : ∀ i, i < 0 → ∀ o, O[i]? = some o → Fixed 0 o := fun i hi => absurd hi (Nat.not_lt_zero _)
theorem check_nil (W : Base) : FRwp Try.prog 34 W code18 ⟨tmsOf [nilS] 0 .leaf, heapOf [.dead] hp0, []⟩ (fun e st => (e = .normal ∨ e = .ret) ∧ st.df = [] ∧ retVal Try.prog Try.f24 st = some (iN 0)) := by
  refine FRwp.seq (Q1 := fun x st => x = .normal ∧ ∃ g, st = stOf 34 g [(0, nilS), (2, iN 0)] []) (FRwp.piece cE_ok follows 0 _ _ _ _ n18a Met.nil s18a rfl rfl rfl (noFix _) fun g => ⟨rfl, g, rfl⟩) ?_ (fun x st hne hq => absurd hq.1 hne)
  rintro st ⟨-, g, rfl⟩
  refine FRwp.seq (Q1 := fun x st => x = .normal ∧ ∃ g, st = stOf 34 g [(0, nilS), (2, iN 0)] []) ?_ ?_ (fun x st hne hq => absurd hq.1 hne)
  · refine FRwp.seq (Q1 := fun x st => x = .normal ∧ ∃ g, st = stOf 34 g [(0, nilS), (2, iN 0), (5, nilS), (6, iN 0), (7, iN 0)] []) (FRwp.piece cE_ok follows 0 _ _ _ _ (n18b g) Met.nil s18b rfl rfl rfl (noFix _) fun g => ⟨rfl, g, rfl⟩) ?_ (fun x st hne hq => absurd hq.1 hne)
    rintro st ⟨-, g, rfl⟩
    refine FRwp.block ?_
    refine FRwp.loop (fun k st => ∃ g, st = stOf 34 g [(0, nilS), (2, iN 0), (5, nilS), (6, iN 0), (7, iN 0)] []) ?_ (k := 0) ⟨g, rfl⟩
    rintro k st ⟨g, rfl⟩
    refine FRwp.piece cE_ok follows 0 _ _ _ _ (n18c g) Met.nil s18c rfl rfl rfl (noFix _) fun g' => .inr ⟨by simp, ?_⟩
    show (if (0 : Nat) = 0 then _ else _)
    rw [if_pos rfl]
    exact ⟨rfl, g', rfl⟩
  · rintro st ⟨-, g, rfl⟩
    exact FRwp.piece cE_ok follows 0 _ _ _ _ (n18d g) Met.nil s18d rfl rfl rfl (noFix _) fun g' => ⟨.inr rfl, rfl, q18' _ _ g'⟩
theorem ntmps18 : Try.f24.ntmps = 34 := by kernel_rfl
theorem errI_ok (b : Bool) : ok3 (errI b) = true ∧ ∀ K B, sh3 K B (errI b) = errI b := by cases b <;> exact ⟨rfl, fun _ _ => rfl⟩
end Go.Proofs.Ytgeoommlmddgpaa.LtA
