/- Part 3. -/
import Derived.Test.YtbhmodlpolgklaaXcB
import Derived.Deep.Slices
set_option linter.unusedVariables false
set_option linter.unusedSimpArgs false
set_option maxRecDepth 100000
namespace Go.Proofs.Ytbhmodlpolgklaa.AI
open Go Go.RowKit Go.ChangeShapes
variable [Inhabited Prop]
section
variable {H : Type} {enc : TypeId × Value → H} {P : Program} {w : World} {base : Nat} {spare : Nat → Bool} {held : Bool} {fuel : Nat} {t : TypeId} {cs : List Value} {x : DataW H × List MemPlace}
omit [Inhabited Prop] in
theorem trod_int {k : IntKind} (ht : P.underlying t = some (.int k)) (h : DataW.trod enc P w base spare held fuel t cs = some x) : ∃ n, cs = [.int k n] := by
  cases fuel with
  | zero => cases h
  | succ fuel =>
    unfold DataW.trod at h
    rw [ht] at h
    split at h <;> first
      | (rename_i heq; cases heq; split at h
         · rename_i hk; obtain ⟨rfl, _⟩ := hk; exact ⟨_, rfl⟩
         · cases h)
      | (rename_i heq; cases heq)
      | cases h
omit [Inhabited Prop] in
theorem trod_bool (ht : P.underlying t = some .bool) (h : DataW.trod enc P w base spare held fuel t cs = some x) : ∃ b, cs = [.bool b] := by
  cases fuel with
  | zero => cases h
  | succ fuel =>
    unfold DataW.trod at h
    rw [ht] at h
    split at h <;> first
      | exact ⟨_, rfl⟩
      | (rename_i heq; cases heq)
      | cases h
omit [Inhabited Prop] in
theorem trod_field {fs : Array Field} (ht : P.underlying t = some (.struct fs)) (h : DataW.trod enc P w base spare held fuel t cs = some x) :
    cs.length = P.cellsOf t ∧ ∀ (i : Nat) (f : Field), fs[i]? = some f → ∃ n y, DataW.trod enc P w base spare held n f.type ((cs.drop f.offset).take (P.cellsOf f.type)) = some y := by
  obtain ⟨xs, n, _, _, h1, h2, h3⟩ := DataW.trod_struct ht h
  refine ⟨h1, fun i f hf => ?_⟩
  have hi : i < fs.size := (Array.getElem?_eq_some_iff.1 hf).1
  have := h3 i f hf
  rw [List.getElem?_eq_getElem (by omega)] at this
  exact ⟨n, _, this⟩
end
def inert : Value → Bool
  | .bool _ | .int _ _ | .string _ | .chan _ | .iface _ _ => true
  | v => flat v
omit [Inhabited Prop] in
theorem inert_ren {v : Value} (h : inert v = true) (K : List Nat) : ren2 K v = v := by
  cases v with
  | pointer a => cases a with
    | none => rfl
    | some a => simp [inert, AI.flat] at h
  | slice a n c => cases a with
    | none => rfl
    | some a => simp [inert, AI.flat] at h
  | map a => cases a with
    | none => rfl
    | some a => simp [inert, AI.flat] at h
  | func f a b => simp [inert, AI.flat] at h
  | agg cs => simp [inert, AI.flat] at h
  | tuple cs => simp [inert, AI.flat] at h
  | _ => rfl
omit [Inhabited Prop] in
theorem inert_ok {v : Value} (h : inert v = true) : ok2 v = true ∧ nice2 v = true := by
  cases v <;> first
    | exact ⟨rfl, rfl⟩
    | (simp [inert, AI.flat] at h)
def inertB : Blk → Bool
  | .cells _ cs _ => cs.all inert
  | .map es _ _ => es.all fun e => inert e.2.1
  | .dead => true
omit [Inhabited Prop] in
theorem inert_fixed {o : Blk} (h : inertB o = true) (p : Nat) : Fixed p o := by
  cases o with
  | cells ty cs ro =>
    have h' : ∀ v ∈ cs, inert v = true := fun v hv => List.all_eq_true.1 h v hv
    refine ⟨List.all_eq_true.2 fun v hv => (inert_ok (h' v hv)).2, fun K _ => ?_⟩
    show Blk.cells ty (cs.map (ren2 K)) ro = _
    rw [List.map_congr_left (fun v hv => inert_ren (h' v hv) K)]; simp
  | map es cl ro =>
    have h' : ∀ e ∈ es, inert e.2.1 = true := fun e he => List.all_eq_true.1 h e he
    refine ⟨List.all_eq_true.2 fun e he => (inert_ok (h' e he)).2, fun K _ => ?_⟩
    show Blk.map (es.map fun e => (e.1, ren2 K e.2.1, e.2.2)) cl ro = _
    rw [List.map_congr_left (g := id) (fun e he => by rw [inert_ren (h' e he) K]; rfl)]; simp
  | dead => exact ⟨rfl, fun K _ => rfl⟩
omit [Inhabited Prop] in
theorem inert_start {o : Blk} (h : inertB o = true) : startOk o = true := by
  cases o with
  | cells ty cs ro =>
    have h' : ∀ v ∈ cs, inert v = true := fun v hv => List.all_eq_true.1 h v hv
    refine Bool.and_eq_true_iff.2 ⟨List.all_eq_true.2 fun v hv => (inert_ok (h' v hv)).1, ?_⟩
    cases hk : keysBox cs with
    | false => simp
    | true =>
      unfold keysBox at hk
      split at hk
      · have := h' _ (.head _); simp [inert, AI.flat] at this
      · cases hk
  | map es cl ro => exact List.all_eq_true.2 fun e he => (inert_ok (List.all_eq_true.1 h e he)).1
  | dead => rfl
omit [Inhabited Prop] in
theorem flat_get {α β : Type} (f : α → List β) (k : Nat) : ∀ (ps : List α), (∀ p ∈ ps, (f p).length = k) → ∀ (i j : Nat) (p : α), ps[i]? = some p → j < k → (ps.flatMap f)[i * k + j]? = (f p)[j]?
  | [], _, i, j, p, h, _ => by cases h
  | q :: ps, hk, 0, j, p, h, hj => by
    simp only [List.getElem?_cons_zero, Option.some.injEq] at h
    subst h
    rw [List.flatMap_cons, Nat.zero_mul, Nat.zero_add, List.getElem?_append_left (by rw [hk q (.head _)]; exact hj)]
  | q :: ps, hk, i + 1, j, p, h, hj => by
    rw [List.flatMap_cons, List.getElem?_append_right (by rw [hk q (.head _), Nat.succ_mul]; omega), hk q (.head _)]
    rw [show (i + 1) * k + j - k = i * k + j by rw [Nat.succ_mul]; omega]
    exact flat_get f k ps (fun x hx => hk x (.tail _ hx)) i j p (by simpa using h) hj
omit [Inhabited Prop] in
theorem flat_len {α β : Type} (f : α → List β) (k : Nat) : ∀ (ps : List α), (∀ p ∈ ps, (f p).length = k) → (ps.flatMap f).length = ps.length * k
  | [], _ => by simp
  | q :: ps, hk => by
    rw [List.flatMap_cons, List.length_append, hk q (.head _), flat_len f k ps (fun x hx => hk x (.tail _ hx)), List.length_cons, Nat.succ_mul]; omega
omit [Inhabited Prop] in
theorem flat_getR {α : Type} {f : α → List Value} {k : Nat} {ps : List α} (hk : ∀ p ∈ ps, (f p).length = k) {i : Nat} {p : α} (h : ps[i]? = some p) : getR (ps.flatMap f) (i * k) k = some (f p) := by
  have hl := flat_len f k ps hk
  have hi : i < ps.length := (List.getElem?_eq_some_iff.1 h).1
  have hp := hk p (List.mem_of_getElem? h)
  have hle : (i + 1) * k ≤ ps.length * k := Nat.mul_le_mul_right _ hi
  rw [Nat.succ_mul] at hle
  have e : ((ps.flatMap f).drop (i * k)).take k = f p := by
    apply List.ext_getElem?
    intro j
    rw [List.getElem?_take]
    by_cases hj : j < k
    · rw [if_pos hj, List.getElem?_drop]
      exact flat_get f k ps hk i j p h hj
    · rw [if_neg hj, List.getElem?_eq_none (by omega)]
  unfold getR
  rw [e, if_pos hp]
end Go.Proofs.Ytbhmodlpolgklaa.AI
namespace Go.Proofs.Ytbhmodlpolgklaa.AI
open Go Go.RowKit
variable [Inhabited Prop]
abbrev OblE := Option (Value × List Eff) × (Value × List Eff)
def MetE (l : List OblE) : Prop := ∀ o ∈ l, o.1 = some o.2
omit [Inhabited Prop] in
theorem MetE.nil : MetE [] := fun o ho => by cases ho
omit [Inhabited Prop] in
theorem MetE.cons {a : Option (Value × List Eff)} {v : Value × List Eff} {l : List OblE} (h : a = some v) (hl : MetE l) : MetE ((a, v) :: l) := fun o ho => by
  cases ho with
  | head => exact h
  | tail _ ho => exact hl o ho
omit [Inhabited Prop] in
theorem MetE.left {a b : List OblE} (h : MetE (a ++ b)) : MetE a := fun o ho => h o (List.mem_append_left _ ho)
omit [Inhabited Prop] in
theorem MetE.right {a b : List OblE} (h : MetE (a ++ b)) : MetE b := fun o ho => h o (List.mem_append_right _ ho)
abbrev ClE := List (Nat × Value × List Eff)
def callOf (o : Oper) : Option Call := match o.op with
  | .call c => match c.callee with
    | .value _ => some c
    | _ => none
  | _ => none
omit [Inhabited Prop] in
theorem callOf_some {o : Oper} {c : Call} (h : callOf o = some c) : o.op = .call c ∧ ∃ x, c.callee = .value x := by
  unfold callOf at h
  split at h
  · rename_i c' ho
    split at h
    · rename_i x hx; cases h; exact ⟨ho, x, hx⟩
    · cases h
  · cases h
section
variable {P : Program} {call : CallF} {cl : List (Tmp × Value)} {ch : ClH} {ce : ClE}
end
section
variable {P : Program} {N : Nat} {W : Base}
theorem FRwp.pieceY0 {call : CallF} (hc : CallOk P call) (hm : P.follows .mixedOrders = true) {n : Nat} {c : Code} {st : St} {e : Exit} {Q : Exit → St → Prop} (p : Nat) (K Ts : List Nat) (O : List Blk) (L : List (Nat × Value))
    (he : (exec P call n c st).map (look2 p K Ts) = some (e, O, L, true)) (hs : codeSafe P N c = true) (hK : nodupB K = true) (hT : Ts.all (fun t => Nat.blt t N) = true)
    (hO : ∀ i, i < p → ∀ o, O[i]? = some o → Fixed 0 o) (h : ∀ g, Q e (stOf N g L O)) : FRwp P N W c st Q := by
  obtain ⟨⟨e', st'⟩, h1, h2⟩ := Option.map_eq_some_iff.1 he
  simp only [look2, Prod.mk.injEq] at h2
  obtain ⟨rfl, rfl, rfl, h5⟩ := h2
  obtain ⟨h5, h7⟩ := Bool.and_eq_true_iff.1 h5
  obtain ⟨h5, h6⟩ := Bool.and_eq_true_iff.1 h5
  obtain ⟨h3, h4⟩ := Bool.and_eq_true_iff.1 h5
  intro a w m f
  refine wp_mono (seg hc hm h1 hs f) fun e2 a' w' hh => ?_
  obtain ⟨rfl, m', f'⟩ := hh
  have hlen : ((K.take p).map (fun b => (st'.hp.get b).getD .dead) ++ (K.drop p).map (fun b => renBlk K ((st'.hp.get b).getD .dead))).length = K.length := by
    simp; omega
  have hget : ∀ (i b : Nat), K[i]? = some b → ∃ o, st'.hp.get b = some o := fun i b hi => by
    have := List.all_eq_true.1 h3 b (List.mem_of_getElem? hi)
    cases hg : st'.hp.get b with
    | none => rw [hg] at this; cases this
    | some o => exact ⟨o, rfl⟩
  obtain ⟨g, m2, f2⟩ := f'.canon2 K ((K.take p).map (fun b => (st'.hp.get b).getD .dead) ++ (K.drop p).map (fun b => renBlk K ((st'.hp.get b).getD .dead))) (Ts.map fun t => (t, ren2 K (st'.tget t))) (nodupB_ok hK) hlen (fun i b o2 hi ho => by
      obtain ⟨o, hg⟩ := hget i b hi
      refine ⟨o, hg, ?_⟩
      have hiK : i < K.length := (List.getElem?_eq_some_iff.1 hi).1
      by_cases hip : i < p
      · have e1 : ((K.take p).map (fun b => (st'.hp.get b).getD .dead) ++ (K.drop p).map (fun b => renBlk K ((st'.hp.get b).getD .dead)))[i]? = some o := by
          rw [List.getElem?_append_left (by simp; omega), List.getElem?_map, List.getElem?_take, if_pos hip, hi]
          simp [hg]
        rw [e1] at ho
        have e3 : o = o2 := by simpa using ho
        subst e3
        obtain ⟨k1, k2⟩ := hO i hip o e1
        exact ⟨(k2 K (fun i hi => absurd hi (Nat.not_lt_zero _))).symm, k1⟩
      · have hmin : min p K.length = p := by omega
        rw [List.getElem?_append_right (by simp; omega)] at ho
        simp only [List.length_map, List.length_take, hmin, List.getElem?_map, List.getElem?_drop] at ho
        rw [show p + (i - p) = i by omega, hi] at ho
        simp only [Option.map_some, Option.some.injEq, hg, Option.getD_some] at ho
        refine ⟨ho.symm, ?_⟩
        have hbm : b ∈ K.drop p := List.mem_of_getElem? (by rw [List.getElem?_drop, show p + (i - p) = i by omega]; exact hi)
        have := List.all_eq_true.1 h4 b hbm
        simpa [hg] using this) (fun x hx => by
      obtain ⟨t, ht, rfl⟩ := List.mem_map.1 hx
      exact ⟨by have := List.all_eq_true.1 hT t ht; simpa [Nat.blt_eq] using this, List.all_eq_true.1 h6 t ht, rfl⟩) (List.isEmpty_iff.1 h7)
  exact ⟨_, m2, f2, h g⟩
end
end Go.Proofs.Ytbhmodlpolgklaa.AI
namespace Go.Proofs.Ytbhmodlpolgklaa.AI
open Go Go.Proofs Go.RowKit
variable [Inhabited Prop]
inductive Cm where
  | v (w : Value) : Cm
  | h (w : Value) (O : List Blk) : Cm
  | e (w : Value) (es : List Eff) : Cm
structure Acc where
  cs : List (Nat × Cm)
  k : Nat
  q : List Obl
  r : List OblH
  x : List OblE
abbrev CallN := FuncId → List Value → Hp → Acc → Option (Value × Hp × Acc)
section
variable {P : Program} {call : CallF} {cn : CallN}
end
section
variable {P : Program} {N : Nat} {W : Base}
end
end Go.Proofs.Ytbhmodlpolgklaa.AI
namespace Go.Proofs.Ytbhmodlpolgklaa.AI
open Go Go.Proofs Go.RowKit
variable [Inhabited Prop]
inductive Plan where
  | stop (p : Nat) (K Ts : List Nat) : Plan
  | b (k : Nat) (x y : Plan) : Plan
  | w (k : Nat) (c : Bool) (x y : Plan) : Plan
  | v (k : Nat) (w : Value) (x : Plan) : Plan
  | h (k : Nat) (w : Value) (O : List Blk) (x : Plan) : Plan
  | e (k : Nat) (w : Value) (es : List Eff) (x : Plan) : Plan
  | l (k n : Nat) (K Ts : List Nat) (α : Type) (post : α → (Nat → Value) → Exit × St) (ok : α → Prop) (x : Plan) : Plan
  | m (k n : Nat) (K Ts : List Nat) (α : Type) (post : α → (Nat → Value) → Exit × St) (ok : α → Prop) (x : Plan) (β : Type) (post2 : β → (Nat → Value) → Exit × St) (ok2 : β → Prop) (y : Plan) : Plan
abbrev KV := Value → Hp → List (FuncId × List Value) → Plan → Nat → Prop
abbrev CallT := FuncId → List Value → Hp → Plan → Nat → (Value → Hp → Plan → Nat → Prop) → Prop
def CtOk (call : CallF) (cn : CallT) : Prop := ∀ f args h p k K, cn f args h p k K → ∃ v h' p' k', call f args h = some (v, h') ∧ K v h' p' k'
def HT (r : Hp → Option (Value × Hp)) (hp : Hp) (w : Value) (O : List Blk) : Prop := r hp = some (w, heapOf O hp)
def HE (r : Hp → Option (Value × Hp)) (hp : Hp) (w : Value) (es : List Eff) : Prop := r hp = some (w, hp.eff es)
def metK : List Obl → Prop → Prop
  | [], X => X
  | (a, v) :: l, X => a = some v ∧ metK l X
omit [Inhabited Prop] in
theorem metK_ok : ∀ {l : List Obl} {X : Prop}, metK l X → Met l ∧ X
  | [], X, h => ⟨Met.nil, h⟩
  | (a, v) :: l, X, h => ⟨Met.cons h.1 (metK_ok h.2).1, (metK_ok h.2).2⟩
def FixO (p : Nat) (O : List Blk) : Prop := ∀ i, i < p → ∀ o, O[i]? = some o → Fixed 0 o
def plainT (P : Program) (call : CallF) (cn : CallT) (o : Oper) (st : St) (p : Plan) (k : Nat) (K : KV) : Prop :=
  match cls P o with
  | .big => match opB P st.eval st.hp.sz st.hp.get o with
    | some (v, es) => K v (st.hp.eff es) st.df p k
    | none => match o.op with
      | .call c => match target st.eval c with
        | some (f, args) => cn f args st.hp p k fun v h p' k' => K v h st.df p' k'
        | none => False
      | .defer c => match target st.eval c with
        | some (f, args) => K undef st.hp ((f, args) :: st.df) p k
        | none => False
      | _ => False
  | _ => match aStep P call o st with
    | some (v, h, d) => K v h d p k
    | none => False
def valT (P : Program) (call : CallF) (o : Oper) (st : St) (w : Value) (X : Hp → List (FuncId × List Value) → Prop) : Prop :=
  match cls P o with
  | .big => match aStep P call o st with
    | some (u, h, d) => u = w ∧ X h d
    | none => False
  | _ => plainV P st.eval st.hp.get st.hp.sz o = some w ∧ X st.hp st.df
def layT (P : Program) (call : CallF) (o : Oper) (st : St) (w : Value) (O : List Blk) (X : Hp → List (FuncId × List Value) → Prop) : Prop :=
  match cls P o with
  | .pure => match O with
    | [b] => opP P st.eval st.hp.sz o = some (w, some b) ∧ X (st.hp.push b) st.df
    | _ => False
  | .read => False
  | .big => match opB P st.eval st.hp.sz st.hp.get o, o.op with
    | none, .call c => match target st.eval c with
      | some (f, args) => HT (call f args) st.hp w O ∧ X (heapOf O st.hp) st.df
      | none => False
    | _, _ => False
def effT (P : Program) (call : CallF) (o : Oper) (st : St) (w : Value) (es : List Eff) (X : Hp → List (FuncId × List Value) → Prop) : Prop :=
  match cls P o, callOf o with
  | .big, none => opB P st.eval st.hp.sz st.hp.get o = some (w, es) ∧ X (st.hp.eff es) st.df
  | .big, some c => match target st.eval c with
    | some (f, args) => HE (call f args) st.hp w es ∧ X (st.hp.eff es) st.df
    | none => False
  | _, _ => False
def forkT (P : Program) (call : CallF) (o : Oper) (st : St) (X : Bool → Hp → List (FuncId × List Value) → Prop) : Prop :=
  match aStep P call o st with
  | some (.bool c, h, d) => (c = true → X true h d) ∧ (c = false → X false h d)
  | _ => False
def stepT (P : Program) (call : CallF) (cn : CallT) (o : Oper) (st : St) (p : Plan) (k : Nat) (K : KV) : Prop :=
  match p with
  | .stop a b c => plainT P call cn o st (.stop a b c) (k + 1) K
  | .b j x y => match Nat.beq j k with
    | true => forkT P call o st fun c h d => match c with
      | true => K (.bool true) h d x (k + 1)
      | false => K (.bool false) h d y (k + 1)
    | false => plainT P call cn o st (.b j x y) (k + 1) K
  | .w j c x y => match Nat.beq j k with
    | true => plainV P st.eval st.hp.get st.hp.sz o = some (.bool c) ∧ (c = true → K (.bool true) st.hp st.df x (k + 1)) ∧ (c = false → K (.bool false) st.hp st.df y (k + 1))
    | false => plainT P call cn o st (.w j c x y) (k + 1) K
  | .v j w x => match Nat.beq j k with
    | true => valT P call o st w fun h d => K w h d x (k + 1)
    | false => plainT P call cn o st (.v j w x) (k + 1) K
  | .h j w O x => match Nat.beq j k with
    | true => layT P call o st w O fun h d => K w h d x (k + 1)
    | false => plainT P call cn o st (.h j w O x) (k + 1) K
  | .e j w es x => match Nat.beq j k with
    | true => effT P call o st w es fun h d => K w h d x (k + 1)
    | false => plainT P call cn o st (.e j w es x) (k + 1) K
  | p => plainT P call cn o st p (k + 1) K
def runOpsT (P : Program) (call : CallF) (cn : CallT) (ops : Array Oper) : List Oper → St → Plan → Nat → (St → Plan → Nat → Prop) → Prop
  | [], st, p, k, K => K st p k
  | o :: os, st, p, k, K => match aWanted ops st o with
    | false => runOpsT P call cn ops os (st.tput o.dst undef) p k K
    | true => stepT P call cn o st p k fun v h d p' k' => runOpsT P call cn ops os ({ st with hp := h, df := d }.tput o.dst v) p' k' K
def runLogT (P : Program) (call : CallF) (cn : CallT) (ops : Array Oper) : List Oper → Nat → St → Plan → Nat → (St → List Log → Plan → Nat → Prop) → Prop
  | [], _, st, p, k, K => K st [] p k
  | o :: os, i, st, p, k, K => match aWanted ops st o with
    | false => runLogT P call cn ops os (i + 1) (st.tput o.dst undef) p k K
    | true => stepT P call cn o st p k fun v h d p' k' => runLogT P call cn ops os (i + 1) ({ st with hp := h, df := d }.tput o.dst v) p' k' fun st' l p2 k2 =>
        match cls P o with
        | .pure => K st' l p2 k2
        | .read => K st' (.read i (fun get => opR P st.eval get o) v :: l) p2 k2
        | .big => K st' (.big i st.hp h :: l) p2 k2
def execT (P : Program) (call : CallF) (cn : CallT) : Nat → Code → St → Plan → Nat → (Exit → St → Plan → Nat → Prop) → Prop
  | 0, _, _, _, _, _ => False
  | n + 1, c, st, p, k, K => match c with
    | .skip | .label _ => K .normal st p k
    | .region _ ops draw => match draw with
      | false => runOpsT P call cn ops ops.toList st p k fun st' p' k' => K .normal st' p' k'
      | true => match floats P ops with
        | [] => runOpsT P call cn ops ops.toList st p k fun st' p' k' => K .normal st' p' k'
        | f :: fs => runLogT P call cn ops ops.toList 0 st p k fun st' l p' k' => match pairsQ l (f :: fs) with
          | some q => metK q (K .normal st' p' k')
          | none => False
    | .seq x y => execT P call cn n x st p k fun e st' p' k' => match e with
      | .normal => execT P call cn n y st' p' k' K
      | e => K e st' p' k'
    | .cond x t f => match st.eval x with
      | .bool true => execT P call cn n t st p k K
      | .bool false => execT P call cn n f st p k K
      | _ => False
    | .block id body => execT P call cn n body st p k fun e st' p' k' => match e with
      | .exit i => match Nat.beq i id with
        | true => K .normal st' p' k'
        | false => K (.exit i) st' p' k'
      | e => K e st' p' k'
    | .loop body => execT P call cn n body st p k fun e st' p' k' => match e with
      | .normal => execT P call cn n (.loop body) st' p' k' K
      | e => K e st' p' k'
    | .scope body => execT P call cn n body st p k K
    | .exit id => K (.exit id) st p k
    | .ret => K .ret st p k
    | _ => False
def endT (P : Program) (ext : Ext) (n : Nat) (fn : Func) (st : St) (K : Value → Hp → Prop) : Prop :=
  match runDf (aPlain P ext (aCall P ext n) n) st.df st.hp with
  | some h' => match retVal P fn { st with hp := h' } with
    | some v => K v h'
    | none => False
  | none => False
def callT (P : Program) (ext : Ext) : Nat → CallT
  | 0, _, _, _, _, _, _ => False
  | n + 1, f, args, h, p, k, K => match ext f with
    | some e => match e (aCall P ext n) args h with
      | some (v, h') => K v h' p k
      | none => False
    | none => match P.funcs[f]? with
      | none => False
      | some fn => match fn.body with
        | none => False
        | some c => match Nat.ble args.length fn.ntmps with
          | false => False
          | true => execT P (aCall P ext n) (callT P ext n) n c ⟨tmsOf args 0 .leaf, h, []⟩ p k fun e st p' k' => match e with
            | .normal => endT P ext n fn st fun v h' => K v h' p' k'
            | .ret => endT P ext n fn st fun v h' => K v h' p' k'
            | _ => False
section
variable {P : Program} {call : CallF} {cn : CallT}
omit [Inhabited Prop] in
theorem plainT_ok (hcn : CtOk call cn) {o : Oper} {st : St} {p : Plan} {k : Nat} {K : KV} (he : plainT P call cn o st p k K) : ∃ v h d p' k', aStep P call o st = some (v, h, d) ∧ K v h d p' k' := by
  unfold plainT at he
  split at he
  · rename_i hc
    split at he
    · rename_i hb
      exact ⟨_, _, _, _, _, by unfold aStep; simp only [hc, hb], he⟩
    · rename_i hb
      split at he
      · rename_i ho
        split at he
        · rename_i ht
          obtain ⟨v, h', p', k', q1, q2⟩ := hcn _ _ _ _ _ _ he
          exact ⟨_, _, _, _, _, by unfold aStep; simp only [hc, hb, ho, ht, q1], q2⟩
        · exact he.elim
      · rename_i ho
        split at he
        · rename_i ht
          exact ⟨_, _, _, _, _, by unfold aStep; simp only [hc, hb, ho, ht], he⟩
        · exact he.elim
      · exact he.elim
  · split at he
    · rename_i hs; exact ⟨_, _, _, _, _, hs, he⟩
    · exact he.elim
omit [Inhabited Prop] in
theorem valT_ok {o : Oper} {st : St} {w : Value} {X : Hp → List (FuncId × List Value) → Prop} (he : valT P call o st w X) : ∃ h d, aStep P call o st = some (w, h, d) ∧ X h d := by
  unfold valT at he
  split at he
  · split at he
    · rename_i hs; exact ⟨_, _, by rw [hs, he.1], he.2⟩
    · exact he.elim
  · exact ⟨_, _, plainV_step he.1, he.2⟩
omit [Inhabited Prop] in
theorem layT_ok {o : Oper} {st : St} {w : Value} {O : List Blk} {X : Hp → List (FuncId × List Value) → Prop} (he : layT P call o st w O X) : ∃ h d, aStep P call o st = some (w, h, d) ∧ X h d := by
  unfold layT at he
  split at he
  · rename_i hc
    split at he
    · obtain ⟨he, hX⟩ := he
      exact ⟨_, _, by unfold aStep; simp only [hc, he], hX⟩
    · exact he.elim
  · exact he.elim
  · rename_i hc
    split at he
    · rename_i hb ho
      split at he
      · rename_i ht
        obtain ⟨he, hX⟩ := he
        refine ⟨_, _, ?_, hX⟩
        unfold HT at he
        unfold aStep
        simp only [hc, hb, ho, ht, he]
      · exact he.elim
    · exact he.elim
omit [Inhabited Prop] in
theorem effT_ok {o : Oper} {st : St} {w : Value} {es : List Eff} {X : Hp → List (FuncId × List Value) → Prop} (he : effT P call o st w es X) : ∃ h d, aStep P call o st = some (w, h, d) ∧ X h d := by
  unfold effT at he
  split at he
  · rename_i hc _
    obtain ⟨he, hX⟩ := he
    exact ⟨_, _, by unfold aStep; simp only [hc, he], hX⟩
  · rename_i c hc hcall
    obtain ⟨ho, y, hy⟩ := callOf_some hcall
    split at he
    · rename_i ht
      obtain ⟨he, hX⟩ := he
      refine ⟨_, _, ?_, hX⟩
      unfold HE at he
      have hb : opB P st.eval st.hp.sz st.hp.get o = none := by
        unfold opB
        simp only [ho, hy]
      unfold aStep
      simp only [hc, hb, ho, ht, he]
    · exact he.elim
  · exact he.elim
omit [Inhabited Prop] in
theorem forkT_ok {o : Oper} {st : St} {X : Bool → Hp → List (FuncId × List Value) → Prop} (he : forkT P call o st X) : ∃ c h d, aStep P call o st = some (.bool c, h, d) ∧ X c h d := by
  unfold forkT at he
  split at he
  · rename_i c h d hs
    refine ⟨c, h, d, hs, ?_⟩
    cases c with
    | true => exact he.1 rfl
    | false => exact he.2 rfl
  · exact he.elim
omit [Inhabited Prop] in
theorem stepT_ok (hcn : CtOk call cn) {o : Oper} {st : St} {p : Plan} {k : Nat} {K : KV} (he : stepT P call cn o st p k K) : ∃ v h d p' k', aStep P call o st = some (v, h, d) ∧ K v h d p' k' := by
  unfold stepT at he
  split at he
  · exact plainT_ok hcn he
  · split at he
    · obtain ⟨c, h, d, q1, q2⟩ := forkT_ok he
      cases c with
      | true => exact ⟨_, _, _, _, _, q1, q2⟩
      | false => exact ⟨_, _, _, _, _, q1, q2⟩
    · exact plainT_ok hcn he
  · split at he
    · rename_i j c x y _ _
      obtain ⟨q1, q2, q3⟩ := he
      cases c with
      | true => exact ⟨_, _, _, _, _, plainV_step q1, q2 rfl⟩
      | false => exact ⟨_, _, _, _, _, plainV_step q1, q3 rfl⟩
    · exact plainT_ok hcn he
  · split at he
    · obtain ⟨h, d, q1, q2⟩ := valT_ok he; exact ⟨_, _, _, _, _, q1, q2⟩
    · exact plainT_ok hcn he
  · split at he
    · obtain ⟨h, d, q1, q2⟩ := layT_ok he; exact ⟨_, _, _, _, _, q1, q2⟩
    · exact plainT_ok hcn he
  · split at he
    · obtain ⟨h, d, q1, q2⟩ := effT_ok he; exact ⟨_, _, _, _, _, q1, q2⟩
    · exact plainT_ok hcn he
  · exact plainT_ok hcn he
omit [Inhabited Prop] in
theorem runOpsT_ok (hcn : CtOk call cn) {ops : Array Oper} : ∀ {os : List Oper} {st : St} {p : Plan} {k : Nat} {K : St → Plan → Nat → Prop}, runOpsT P call cn ops os st p k K → ∃ st' p' k', runOps P call ops os st = some st' ∧ K st' p' k'
  | [], st, p, k, K, he => ⟨_, _, _, rfl, he⟩
  | o :: os, st, p, k, K, he => by
    unfold runOpsT at he
    unfold runOps
    split at he
    · rename_i hw; simp only [hw]; exact runOpsT_ok hcn he
    · rename_i hw
      simp only [hw]
      obtain ⟨v, h, d, p', k', q1, q2⟩ := stepT_ok hcn he
      simp only [q1]
      exact runOpsT_ok hcn q2
omit [Inhabited Prop] in
theorem runLogT_ok (hcn : CtOk call cn) {ops : Array Oper} : ∀ {os : List Oper} {i : Nat} {st : St} {p : Plan} {k : Nat} {K : St → List Log → Plan → Nat → Prop}, runLogT P call cn ops os i st p k K → ∃ st' l p' k', runLog P call ops os i st = some (st', l) ∧ K st' l p' k'
  | [], i, st, p, k, K, he => ⟨_, _, _, _, rfl, he⟩
  | o :: os, i, st, p, k, K, he => by
    unfold runLogT at he
    unfold runLog
    split at he
    · rename_i hw; simp only [hw]; exact runLogT_ok hcn he
    · rename_i hw
      simp only [hw]
      obtain ⟨v, h, d, p', k', q1, q2⟩ := stepT_ok hcn he
      simp only [q1]
      obtain ⟨st', l, p2, k2, r1, r2⟩ := runLogT_ok hcn q2
      simp only [r1]
      split at r2
      · rename_i hc; simp only [hc]; exact ⟨_, _, _, _, rfl, r2⟩
      · rename_i hc; simp only [hc]; exact ⟨_, _, _, _, rfl, r2⟩
      · rename_i hc; simp only [hc]; exact ⟨_, _, _, _, rfl, r2⟩
omit [Inhabited Prop] in
theorem execT_ok (hcn : CtOk call cn) : ∀ {n : Nat} {c : Code} {st : St} {p : Plan} {k : Nat} {K : Exit → St → Plan → Nat → Prop}, execT P call cn n c st p k K → ∃ e st' p' k', exec P call n c st = some (e, st') ∧ K e st' p' k'
  | 0, c, st, p, k, K, he => he.elim
  | n + 1, c, st, p, k, K, he => by
    cases c with
    | skip => exact ⟨_, _, _, _, rfl, he⟩
    | label l => exact ⟨_, _, _, _, rfl, he⟩
    | exit i => exact ⟨_, _, _, _, rfl, he⟩
    | ret => exact ⟨_, _, _, _, rfl, he⟩
    | region id ops draw =>
      simp only [execT] at he
      simp only [exec]
      cases draw with
      | false =>
        simp only at he
        obtain ⟨st', p', k', q1, q2⟩ := runOpsT_ok hcn he
        exact ⟨_, _, _, _, by simp only [aRegion, q1], q2⟩
      | true =>
        simp only at he
        split at he
        · rename_i hf
          obtain ⟨st', p', k', q1, q2⟩ := runOpsT_ok hcn he
          exact ⟨_, _, _, _, by simp only [aRegion, hf, q1], q2⟩
        · rename_i f fs hf
          obtain ⟨st', l, p', k', q1, q2⟩ := runLogT_ok hcn he
          split at q2
          · rename_i q hq
            obtain ⟨m, q3⟩ := metK_ok q2
            exact ⟨_, _, _, _, by simp only [aRegion, hf, q1, pairsQ_met hq m], q3⟩
          · exact q2.elim
    | seq x y =>
      simp only [execT] at he
      simp only [exec]
      obtain ⟨e, st', p', k', q1, q2⟩ := execT_ok hcn he
      simp only [q1]
      cases e with
      | normal => exact execT_ok hcn q2
      | _ => exact ⟨_, _, _, _, rfl, q2⟩
    | cond x t f =>
      simp only [execT] at he
      simp only [exec]
      split at he
      · rename_i hx; simp only [hx]; exact execT_ok hcn he
      · rename_i hx; simp only [hx]; exact execT_ok hcn he
      · exact he.elim
    | block id b =>
      simp only [execT] at he
      simp only [exec]
      obtain ⟨e, st', p', k', q1, q2⟩ := execT_ok hcn he
      simp only [q1]
      cases e with
      | exit i =>
        simp only at q2 ⊢
        split at q2
        · rename_i hi; simp only [hi]; exact ⟨_, _, _, _, rfl, q2⟩
        · rename_i hi; simp only [hi]; exact ⟨_, _, _, _, rfl, q2⟩
      | _ => exact ⟨_, _, _, _, rfl, q2⟩
    | loop b =>
      simp only [execT] at he
      simp only [exec]
      obtain ⟨e, st', p', k', q1, q2⟩ := execT_ok hcn he
      simp only [q1]
      cases e with
      | normal => exact execT_ok hcn q2
      | _ => exact ⟨_, _, _, _, rfl, q2⟩
    | scope b =>
      simp only [execT] at he
      simp only [exec]
      exact execT_ok hcn he
    | _ => exact he.elim
omit [Inhabited Prop] in
theorem endT_ok {ext : Ext} {n : Nat} {fn : Func} {st : St} {K : Value → Hp → Prop} (he : endT P ext n fn st K) : ∃ v h', runDf (aPlain P ext (aCall P ext n) n) st.df st.hp = some h' ∧ retVal P fn { st with hp := h' } = some v ∧ K v h' := by
  unfold endT at he
  split at he
  · rename_i h1
    split at he
    · rename_i h2; exact ⟨_, _, h1, h2, he⟩
    · exact he.elim
  · exact he.elim
omit [Inhabited Prop] in
theorem callT_ok (ext : Ext) : ∀ n, CtOk (aCall P ext n) (callT P ext n)
  | 0 => fun f args h p k K he => he.elim
  | n + 1 => fun f args h p k K he => by
    simp only [callT] at he
    simp only [aCall]
    split at he
    · rename_i e hx
      split at he
      · rename_i hr; exact ⟨_, _, _, _, by simp only [hx, hr], he⟩
      · exact he.elim
    · rename_i hx
      split at he
      · exact he.elim
      · rename_i fn hf
        split at he
        · exact he.elim
        · rename_i c hb
          split at he
          · exact he.elim
          · rename_i hle
            obtain ⟨e, st, p', k', q1, q2⟩ := execT_ok (callT_ok ext n) he
            cases e with
            | normal =>
              obtain ⟨v, h', e2, e3, q3⟩ := endT_ok q2
              exact ⟨_, _, _, _, by simp only [hx, hf, aBody, hb, hle, q1, e2, e3]; rfl, q3⟩
            | ret =>
              obtain ⟨v, h', e2, e3, q3⟩ := endT_ok q2
              exact ⟨_, _, _, _, by simp only [hx, hf, aBody, hb, hle, q1, e2, e3]; rfl, q3⟩
            | _ => exact q2.elim
end
def CT (P : Program) (ext : Ext) (n : Nat) (f : FuncId) (args : List Value) (p : Plan) (Q : Value → Prop) : Prop := callT P ext n f args hp0 p 0 fun v _ _ _ => Q v
omit [Inhabited Prop] in
theorem CT_run {P : Program} {ext : Ext} {n : Nat} {f : FuncId} {args : List Value} {p : Plan} {v : Value} {X : Prop} (e : X = CT P ext n f args p (fun u => u = v)) (h : X) : ∃ hp, aCall P ext n f args hp0 = some (v, hp) := by
  rw [e] at h
  obtain ⟨u, hp, _, _, q1, rfl⟩ := callT_ok ext n _ _ _ _ _ _ h
  exact ⟨hp, q1⟩
def pinK (p : Nat) (K : List Nat) : Bool := (List.range p).all fun i => match K[i]? with
  | some j => Nat.beq i j
  | none => false
omit [Inhabited Prop] in
theorem pinK_ok {p : Nat} {K : List Nat} (h : pinK p K = true) {i : Nat} (hi : i < p) : K[i]? = some i := by
  have := List.all_eq_true.1 h i (List.mem_range.2 hi)
  split at this
  · rename_i j hj
    rw [hj, Nat.eq_of_beq_eq_true this]
  · cases this
def leafT (N z : Nat) (Q : Exit → St → Prop) (e : Exit) (st : St) (p : Plan) (k : Nat) : Prop :=
  match p with
  | .stop n K Ts => match nodupB K && pinK z K && Ts.all (fun t => Nat.blt t N), look2 n K Ts (e, st) with
    | true, (e', O, L, true) => match n with
      | 0 => ∀ g, Q e' (stOf N g L O)
      | n => FixO n O ∧ ∀ g, Q e' (stOf N g L O)
    | _, _ => False
  | _ => False
def RT (P : Program) (ext : Ext) (N z d : Nat) (c : Code) (st : St) (p : Plan) (Q : Exit → St → Prop) : Prop := execT P (aCall P ext d) (callT P ext d) d c st p 0 (leafT N z Q)
section
variable {P : Program} {N z : Nat} {W : Base}
omit [Inhabited Prop] in
theorem leafT_ok {Q : Exit → St → Prop} {e : Exit} {st : St} {p : Plan} {k : Nat} (h : leafT N z Q e st p k) : ∃ n K Ts O L, look2 n K Ts (e, st) = (e, O, L, true) ∧ nodupB K = true ∧ pinK z K = true ∧ Ts.all (fun t => Nat.blt t N) = true ∧ FixO n O ∧ ∀ g, Q e (stOf N g L O) := by
  unfold leafT at h
  split at h
  · rename_i n K Ts
    split at h
    · rename_i e' O L hk hl
      obtain ⟨h1, h2⟩ := Bool.and_eq_true_iff.1 hk
      obtain ⟨h0, h1⟩ := Bool.and_eq_true_iff.1 h1
      have he : e' = e := by
        have := congrArg Prod.fst hl
        exact this.symm
      subst he
      refine ⟨n, K, Ts, O, L, hl, h0, h1, h2, ?_⟩
      split at h
      · exact ⟨fun i hi => by omega, h⟩
      · exact h
    · exact h.elim
  · exact h.elim
theorem FRwp.pieceT {ext : Ext} (hx : ExtOk P ext) (hm : P.follows .mixedOrders = true) {d : Nat} {c : Code} {st : St} {p : Plan} {Q : Exit → St → Prop} (hs : codeSafe P N c = true) {X : Prop} (e : X = RT P ext N z d c st p Q) (h : X) : FRwp P N W c st Q := by
  rw [e] at h
  obtain ⟨e, st', p', k', q1, q2⟩ := execT_ok (callT_ok ext d) h
  obtain ⟨n, K, Ts, O, L, hl, h1, _, h2, h3, h4⟩ := leafT_ok q2
  exact FRwp.pieceY0 (aCall_sound hx hm d) hm (n := d) n K Ts O L (by rw [q1]; exact congrArg some hl) hs h1 h2 h3 h4
end
end Go.Proofs.Ytbhmodlpolgklaa.AI
namespace Go.Proofs.Ytbhmodlpolgklaa.AI
open Go Go.Proofs Go.RowKit
variable [Inhabited Prop]
abbrev Pins := Nat → Option (Nat × Nat × Nat)
structure FM (n : Nat) (W : Base) (z : Nat) (X : Pins) (st : St) (a : Act) (w : World) (m : BM) : Prop where
  fr : FR n W st a w m
  pin : ∀ i, i < z → ∀ x, X i = some x → st.hp.get i = some .dead ∨ m i = some x
def FRm (P : Program) (N : Nat) (W : Base) (z : Nat) (X : Pins) (c : Code) (st : St) (Q : Exit → St → Prop) : Prop :=
  ∀ a w m, FM N W z X st a w m → c.wp P (fun e a' w' => ∃ st' m', FM N W z X st' a' w' m' ∧ Q e st') a w
section
variable {P : Program} {N : Nat} {W : Base} {z : Nat} {X : Pins}
theorem FRm.mono {c : Code} {st : St} {Q Q' : Exit → St → Prop} (h : FRm P N W z X c st Q) (hq : ∀ e st', Q e st' → Q' e st') : FRm P N W z X c st Q' := fun a w m f =>
  wp_mono (h a w m f) fun e a' w' hh => by
    obtain ⟨st', m', f', q⟩ := hh
    exact ⟨st', m', f', hq e st' q⟩
theorem FRm.seq {c d : Code} {st : St} {Q1 Q : Exit → St → Prop} (h1 : FRm P N W z X c st Q1) (h2 : ∀ st', Q1 .normal st' → FRm P N W z X d st' Q) (h3 : ∀ e st', e ≠ .normal → Q1 e st' → Q e st') : FRm P N W z X (.seq c d) st Q := fun a w m f => by
  refine wp_seq (wp_mono (h1 a w m f) fun e a' w' hh => ?_)
  obtain ⟨st', m', f', q⟩ := hh
  cases e with
  | normal => exact h2 st' q a' w' m' f'
  | _ => exact ⟨st', m', f', h3 _ st' (by simp) q⟩
theorem FRm.block {id : Nat} {c : Code} {st : St} {Q : Exit → St → Prop} (h : FRm P N W z X c st fun e st' => match e with | .exit i => if i = id then Q .normal st' else Q (.exit i) st' | e => Q e st') : FRm P N W z X (.block id c) st Q := fun a w m f => by
  refine wp_block (wp_mono (h a w m f) fun e a' w' hh => ?_)
  obtain ⟨st', m', f', q⟩ := hh
  cases e with
  | exit i =>
    show (if i = id then _ else _)
    by_cases hi : i = id
    · simp only [hi, if_true] at q ⊢
      exact ⟨st', m', f', q⟩
    · simp only [hi, if_false] at q ⊢
      exact ⟨st', m', f', q⟩
  | _ => exact ⟨st', m', f', q⟩
theorem FRm.skip {st : St} {Q : Exit → St → Prop} (h : Q .normal st) : FRm P N W z X .skip st Q := fun a w m f => wp_skip ⟨st, m, f, h⟩
theorem FRm.loop {c : Code} {Q : Exit → St → Prop} (I : Nat → St → Prop) (hI : ∀ k st, I k st → FRm P N W z X c st fun e st' => (e = .normal ∧ ∃ k', k' < k ∧ I k' st') ∨ (e ≠ .normal ∧ Q e st')) {k : Nat} {st : St} (h : I k st) : FRm P N W z X (.loop c) st Q := fun a w m f => by
  have key : ∀ k st a w m, I k st → FM N W z X st a w m → Code.rounds P c (fun e a' w' => ∃ st' m', FM N W z X st' a' w' m' ∧ Q e st') (k + 1) a w := by
    intro k
    induction k using Nat.strongRecOn with
    | _ k ih =>
      intro st a w m hi f
      rw [rounds_succ]
      refine wp_mono (hI k st hi a w m f) fun e a' w' hh => ?_
      obtain ⟨st', m', f', q⟩ := hh
      rcases q with ⟨rfl, k', hk, hi'⟩ | ⟨hne, q⟩
      · exact rounds_le (show k' + 1 ≤ k by omega) (ih k' hk st' a' w' m' hi' f')
      · cases e with
        | normal => exact absurd rfl hne
        | _ => exact ⟨st', m', f', q⟩
  exact wp_loop_rounds (k + 1) (key k st a w m h f)
theorem FRm.to0 {c : Code} {st : St} {Q : Exit → St → Prop} (h : ∀ X, FRm P N W 0 X c st Q) : FRwp P N W c st Q := fun a w m f =>
  wp_mono (h (fun _ => none) a w m ⟨f, fun i hi => by omega⟩) fun e a' w' hh => by
    obtain ⟨st', m', f', q⟩ := hh
    exact ⟨st', m', f'.fr, q⟩
theorem FM.canon {st' : St} {a' : Act} {w' : World} {m' : BM} (f' : FM N W z X st' a' w' m') {e e' : Exit} (p : Nat) (K Ts : List Nat) (O : List Blk) (L : List (Nat × Value))
    (h2 : look2 p K Ts (e', st') = (e, O, L, true)) (hK : nodupB K = true) (hT : Ts.all (fun t => Nat.blt t N) = true)
    (hO : ∀ i, i < p → ∀ o, O[i]? = some o → Fixed 0 o) (h0 : ∀ i, i < z → K[i]? = some i) : e' = e ∧ ∃ g m2, FM N W z X (stOf N g L O) a' w' m2 := by
  simp only [look2, Prod.mk.injEq] at h2
  obtain ⟨rfl, rfl, rfl, h5⟩ := h2
  obtain ⟨h5, h7⟩ := Bool.and_eq_true_iff.1 h5
  obtain ⟨h5, h6⟩ := Bool.and_eq_true_iff.1 h5
  obtain ⟨h3, h4⟩ := Bool.and_eq_true_iff.1 h5
  have hpin := f'.pin
  have hlen : ((K.take p).map (fun b => (st'.hp.get b).getD .dead) ++ (K.drop p).map (fun b => renBlk K ((st'.hp.get b).getD .dead))).length = K.length := by
    simp; omega
  have hget : ∀ (i b : Nat), K[i]? = some b → ∃ o, st'.hp.get b = some o := fun i b hi => by
    have := List.all_eq_true.1 h3 b (List.mem_of_getElem? hi)
    cases hg : st'.hp.get b with
    | none => rw [hg] at this; cases this
    | some o => exact ⟨o, rfl⟩
  have hB : ∀ (i b : Nat) (o2 : Blk), K[i]? = some b → ((K.take p).map (fun b => (st'.hp.get b).getD .dead) ++ (K.drop p).map (fun b => renBlk K ((st'.hp.get b).getD .dead)))[i]? = some o2 → ∃ o, st'.hp.get b = some o ∧ o2 = renBlk K o ∧ niceBlk o = true := fun i b o2 hi ho => by
      obtain ⟨o, hg⟩ := hget i b hi
      refine ⟨o, hg, ?_⟩
      have hiK : i < K.length := (List.getElem?_eq_some_iff.1 hi).1
      by_cases hip : i < p
      · have e1 : ((K.take p).map (fun b => (st'.hp.get b).getD .dead) ++ (K.drop p).map (fun b => renBlk K ((st'.hp.get b).getD .dead)))[i]? = some o := by
          rw [List.getElem?_append_left (by simp; omega), List.getElem?_map, List.getElem?_take, if_pos hip, hi]
          simp [hg]
        rw [e1] at ho
        have e3 : o = o2 := by simpa using ho
        subst e3
        obtain ⟨k1, k2⟩ := hO i hip o e1
        exact ⟨(k2 K (fun i hi => absurd hi (Nat.not_lt_zero _))).symm, k1⟩
      · have hmin : min p K.length = p := by omega
        rw [List.getElem?_append_right (by simp; omega)] at ho
        simp only [List.length_map, List.length_take, hmin, List.getElem?_map, List.getElem?_drop] at ho
        rw [show p + (i - p) = i by omega, hi] at ho
        simp only [Option.map_some, Option.some.injEq, hg, Option.getD_some] at ho
        refine ⟨ho.symm, ?_⟩
        have hbm : b ∈ K.drop p := List.mem_of_getElem? (by rw [List.getElem?_drop, show p + (i - p) = i by omega]; exact hi)
        have := List.all_eq_true.1 h4 b hbm
        simpa [hg] using this
  obtain ⟨g, f2⟩ := f'.fr.canon3 K ((K.take p).map (fun b => (st'.hp.get b).getD .dead) ++ (K.drop p).map (fun b => renBlk K ((st'.hp.get b).getD .dead))) (Ts.map fun t => (t, ren2 K (st'.tget t))) (nodupB_ok hK) hlen hB (fun x hx => by
      obtain ⟨t, ht, rfl⟩ := List.mem_map.1 hx
      exact ⟨by have := List.all_eq_true.1 hT t ht; simpa [Nat.blt_eq] using this, List.all_eq_true.1 h6 t ht, rfl⟩) (List.isEmpty_iff.1 h7)
  refine ⟨rfl, _, _, ⟨f2, fun i hi x hx => ?_⟩⟩
  have hKi := h0 i hi
  have hlt : i < K.length := (List.getElem?_eq_some_iff.1 hKi).1
  rcases hpin i hi x hx with hd | hd
  · refine .inl ?_
    obtain ⟨o2, ho2⟩ : ∃ o2, ((K.take p).map (fun b => (st'.hp.get b).getD .dead) ++ (K.drop p).map (fun b => renBlk K ((st'.hp.get b).getD .dead)))[i]? = some o2 := ⟨_, List.getElem?_eq_getElem (by omega)⟩
    obtain ⟨o, q1, q2, _⟩ := hB i i o2 hKi ho2
    rw [hd] at q1; cases q1
    show (heapOf _ hp0).get i = _
    rw [heapOf0_get, List.getElem?_append_left (by omega), ho2, q2]
    rfl
  · refine .inr ?_
    simp only [canM_at]
    rw [hKi]
    exact hd
theorem FRm.leaf {c : Code} {st : St} {Q : Exit → St → Prop} (h : FRm P N W z X c st fun e st' => ∃ p k, leafT N z Q e st' p k) : FRm P N W z X c st Q := fun a w m f =>
  wp_mono (h a w m f) fun e a' w' hh => by
    obtain ⟨st', m', f', p, k, q⟩ := hh
    obtain ⟨n, K, Ts, O, L, hl, h1, h1', h2, h3, h4⟩ := leafT_ok q
    obtain ⟨-, g, m2, f2⟩ := f'.canon n K Ts O L hl h1 h2 h3 (fun i hi => pinK_ok h1' hi)
    exact ⟨_, m2, f2, h4 g⟩
theorem FRm.run {call : CallF} (hc : CallOk P call) (hm : P.follows .mixedOrders = true) {n : Nat} {c : Code} {st st' : St} {e : Exit} (h1 : exec P call n c st = some (e, st')) (hs : codeSafe P N c = true) {Q : Exit → St → Prop} (hq : Q e st') : FRm P N W z X c st Q := fun a w m f => by
  obtain ⟨_, k1, _, k3⟩ := exec_sound hc hm n c st _ st' h1 hs f.fr.ok
  refine wp_mono (wpR_wp (k3 m hg0 w a (fun _ _ _ => rfl) f.fr.rel)) fun e2 a' w' hh => ?_
  obtain ⟨rfl, m', gg, r⟩ := hh
  refine ⟨st', m', ⟨f.fr.go k1 gg r, fun i hi x hx => ?_⟩, hq⟩
  have le := gg.le
  rw [ovr_hg0 f.fr.ok, ovr_hg0 k1] at le
  rcases f.pin i hi x hx with h | h
  · exact .inl (le.dead i h)
  · exact le.keep i x h
theorem FRm.pieceT {ext : Ext} (hx : ExtOk P ext) (hm : P.follows .mixedOrders = true) {d : Nat} {c : Code} {st : St} {p : Plan} {Q : Exit → St → Prop} (hs : codeSafe P N c = true) {Y : Prop} (e : Y = RT P ext N z d c st p Q) (h : Y) : FRm P N W z X c st Q := by
  rw [e] at h
  obtain ⟨e, st', p', k', q1, q2⟩ := execT_ok (callT_ok ext d) h
  exact FRm.leaf (FRm.run (aCall_sound hx hm d) hm q1 hs ⟨p', k', q2⟩)
end
omit [Inhabited Prop] in
theorem lt_of_get {hp : Hp} (hk : hp.ok) {b : Nat} {o : Blk} (h : hp.get b = some o) : b < hp.sz := by
  rcases Nat.lt_or_ge b hp.sz with h1 | h1
  · exact h1
  · rw [hk b h1] at h; cases h
def mv1 (s : Nat → Nat) : Value → Value
  | .pointer (some a) => .pointer (some ⟨s a.block, a.off, a.spot⟩)
  | .slice (some a) l c => .slice (some ⟨s a.block, a.off, a.spot⟩) l c
  | .map (some b) => .map (some (s b))
  | v => v
def mv2 (s : Nat → Nat) : Value → Value
  | .func f a b => .func f (a.map (mv1 s)) (b.map (mv1 s))
  | .agg cs => .agg (cs.map (mv1 s))
  | v => mv1 s v
def mv3 (s : Nat → Nat) : Value → Value
  | .tuple cs => .tuple (cs.map (mv2 s))
  | v => mv2 s v
def mvB (s : Nat → Nat) : Blk → Blk
  | .cells ty cs ro => .cells ty (cs.map (mv2 s)) ro
  | .map es cl ro => .map (es.map fun e => (e.1, mv2 s e.2.1, e.2.2)) cl ro
  | .dead => .dead
omit [Inhabited Prop] in
theorem mv2_map {s : Nat → Nat} : ∀ v b, mv2 s v = .map (some b) → ∃ c, v = .map (some c) := by
  intro v b h
  cases v with
  | map a => cases a with
    | none => cases h
    | some c => exact ⟨c, rfl⟩
  | pointer a => cases a <;> cases h
  | slice a l c => cases a <;> cases h
  | _ => cases h
structure PS (m : BM) (h : HG) (m2 : BM) (h2 : HG) (s : Nat → Nat) : Prop where
  to : ∀ b (Q : Prop), (h b = some .dead ∨ Q) → h2 (s b) = some .dead ∨ (Q ∧ m2 (s b) = m b)
  lit : ∀ r o t c, m.lit r o t c → m2.lit r o t c
section
variable {m m2 : BM} {h h2 : HG} {s : Nat → Nat}
omit [Inhabited Prop] in
theorem PS.one (pt : PS m h m2 h2 s) {v v' : Value} (r : VRel m h v v') (hv : nice1 v = true) : VRel m2 h2 (mv1 s v) v' := by
  cases r with
  | flat hf =>
    have : mv1 s v = v := by cases v with
      | pointer a => cases a <;> first | rfl | (simp [AI.flat] at hf)
      | slice a l c => cases a <;> first | rfl | (simp [AI.flat] at hf)
      | map a => cases a <;> first | rfl | (simp [AI.flat] at hf)
      | _ => rfl
    rw [this]; exact .flat hf
  | ptr h1 =>
    rcases pt.to _ _ h1 with h | ⟨⟨δ, E, q1, q2⟩, e⟩
    · exact .ptr (.inl h)
    · exact .ptr (.inr ⟨δ, E, by rw [e]; exact q1, q2⟩)
  | slice h0 h1 =>
    rcases pt.to _ _ h1 with h | ⟨⟨δ, E, q1, q2⟩, e⟩
    · exact .slice h0 (.inl h)
    · exact .slice h0 (.inr ⟨δ, E, by rw [e]; exact q1, q2⟩)
  | blind h1 => exact .blind h1
  | blind0 => exact .blind0
  | lit h1 h2 => exact .lit (pt.lit _ _ _ _ h1) h2
  | bag h1 h2 h3 => exact .bag (pt.lit _ _ _ _ h1) h2 h3
  | lit0 => exact .lit0
  | litE => exact .litE
  | bag0 => exact .bag0
  | junk h1 => exact .junk h1
  | map h1 =>
    rcases pt.to _ _ h1 with h | ⟨⟨x, q1⟩, e⟩
    · exact .map (.inl h)
    · exact .map (.inr ⟨x, by rw [e]; exact q1⟩)
  | func _ _ _ _ => cases hv
  | agg _ _ => cases hv
  | tuple _ _ => cases hv
omit [Inhabited Prop] in
theorem PS.two (pt : PS m h m2 h2 s) {v v' : Value} (r : VRel m h v v') (hv : ok2 v = true) : VRel m2 h2 (mv2 s v) v' := by
  cases v with
  | agg cs =>
    obtain ⟨a', rfl, h1, h2⟩ := r.of_agg
    refine .agg (by simpa using h1) fun i x x' q1 q2 => ?_
    simp only [Array.getElem?_map, Option.map_eq_some_iff] at q1
    obtain ⟨y, hy, rfl⟩ := q1
    exact pt.one (h2 i y x' hy q2) (List.all_eq_true.1 hv y (Array.mem_toList_iff.2 (Array.mem_of_getElem? hy)))
  | func fn x y =>
    cases r with
    | flat hf => simp [AI.flat] at hf
    | func h1 h2 h3 h4 =>
      have hv' := Bool.and_eq_true_iff.1 hv
      refine .func (by simpa using h1) (fun i u u' q1 q2 => ?_) (by simpa using h3) (fun i u u' q1 q2 => ?_)
      · simp only [Array.getElem?_map, Option.map_eq_some_iff] at q1
        obtain ⟨z, hz, rfl⟩ := q1
        exact pt.one (h2 i z u' hz q2) (List.all_eq_true.1 hv'.1 z (Array.mem_toList_iff.2 (Array.mem_of_getElem? hz)))
      · simp only [Array.getElem?_map, Option.map_eq_some_iff] at q1
        obtain ⟨z, hz, rfl⟩ := q1
        exact pt.one (h4 i z u' hz q2) (List.all_eq_true.1 hv'.2 z (Array.mem_toList_iff.2 (Array.mem_of_getElem? hz)))
  | tuple cs => cases hv
  | _ => exact pt.one r hv
omit [Inhabited Prop] in
theorem PS.three (pt : PS m h m2 h2 s) {v v' : Value} (r : VRel m h v v') (hv : ok3 v = true) : VRel m2 h2 (mv3 s v) v' := by
  cases v with
  | tuple cs =>
    obtain ⟨a', rfl, h1, h2⟩ := r.of_tuple
    refine .tuple (by simpa using h1) fun i x x' q1 q2 => ?_
    simp only [Array.getElem?_map, Option.map_eq_some_iff] at q1
    obtain ⟨y, hy, rfl⟩ := q1
    exact pt.two (h2 i y x' hy q2) (List.all_eq_true.1 hv y (Array.mem_toList_iff.2 (Array.mem_of_getElem? hy)))
  | _ => exact pt.two r hv
omit [Inhabited Prop] in
theorem PS.threes (pt : PS m h m2 h2 s) {vs vs' : List Value} (r : VRelL m h vs vs') (hv : vs.all ok3 = true) : VRelL m2 h2 (vs.map (mv3 s)) vs' := by
  refine ⟨by simpa using r.1, fun i v v' q1 q2 => ?_⟩
  simp only [List.getElem?_map, Option.map_eq_some_iff] at q1
  obtain ⟨y, hy, rfl⟩ := q1
  exact pt.three (r.2 i y v' hy q2) (List.all_eq_true.1 hv y (List.mem_of_getElem? hy))
omit [Inhabited Prop] in
theorem PS.blk (pt : PS m h m2 h2 s) {w : World} {x : Nat × Nat × Nat} {o : Blk} (r : BRel m h w x o) (ho : okBlk o = true) : BRel m2 h2 w x (mvB s o) := by
  cases o with
  | cells ty cs ro =>
    obtain ⟨cc, fr, g1, g2, g3, g4, g5⟩ := r
    refine ⟨cc, fr, g1, by simpa using g2, g3, fun i v v' q1 q2 => ?_, g5.1, fun hr hk => g5.2 hr (keysBox_map mv2_map hk)⟩
    simp only [List.getElem?_map, Option.map_eq_some_iff] at q1
    obtain ⟨z, hz, rfl⟩ := q1
    exact pt.two (g4 i z v' hz q2) (List.all_eq_true.1 ho z (List.mem_of_getElem? hz))
  | map es cl ro =>
    obtain ⟨fs, g1, g2, g3⟩ := r
    refine ⟨fs, g1, by simpa using g2, fun i e ff q1 q2 => ?_⟩
    simp only [List.getElem?_map, Option.map_eq_some_iff] at q1
    obtain ⟨z, hz, rfl⟩ := q1
    obtain ⟨p1, p2, p3, p4⟩ := g3 i z ff hz q2
    exact ⟨p1, p2, pt.two p3 (List.all_eq_true.1 ho z (List.mem_of_getElem? hz)), p4⟩
  | dead => trivial
end
def nam1 : Value → List Nat
  | .pointer (some a) => [a.block]
  | .slice (some a) _ _ => [a.block]
  | .map (some b) => [b]
  | _ => []
def nam2 : Value → List Nat
  | .func _ a b => (a.toList ++ b.toList).flatMap nam1
  | .agg cs => cs.toList.flatMap nam1
  | v => nam1 v
def namB : Blk → List Nat
  | .cells _ cs _ => cs.flatMap nam2
  | .map es _ _ => es.flatMap fun e => nam2 e.2.1
  | .dead => []
inductive Rch (args : List Value) (hp : Hp) : Nat → Prop where
  | arg {v : Value} {b : Nat} : v ∈ args → b ∈ nam2 v → Rch args hp b
  | blk {b c : Nat} {o : Blk} : Rch args hp b → hp.get b = some o → c ∈ namB o → Rch args hp c
section
variable {m : BM} {h : HG}
omit [Inhabited Prop] in
theorem VRel.nam1 {v v' : Value} (r : VRel m h v v') {b : Nat} (hb : b ∈ AI.nam1 v) : h b = some .dead ∨ ∃ x, m b = some x := by
  cases r with
  | ptr h1 =>
    simp only [AI.nam1, List.mem_singleton] at hb
    subst hb
    rcases h1 with h1 | ⟨δ, E, h1, _⟩
    · exact .inl h1
    · exact .inr ⟨_, h1⟩
  | slice h0 h1 =>
    simp only [AI.nam1, List.mem_singleton] at hb
    subst hb
    rcases h1 with h1 | ⟨δ, E, h1, _⟩
    · exact .inl h1
    · exact .inr ⟨_, h1⟩
  | map h1 =>
    simp only [AI.nam1, List.mem_singleton] at hb
    subst hb
    rcases h1 with h1 | ⟨x, h1⟩
    · exact .inl h1
    · exact .inr ⟨_, h1⟩
  | flat hf =>
    cases v with
    | pointer a => cases a with
      | none => cases hb
      | some a => simp [AI.flat] at hf
    | slice a l c => cases a with
      | none => cases hb
      | some a => simp [AI.flat] at hf
    | map a => cases a with
      | none => cases hb
      | some a => simp [AI.flat] at hf
    | _ => cases hb
  | _ => cases hb
omit [Inhabited Prop] in
theorem VRelA.nam {a a' : Array Value} (r : VRelA m h a a') {b : Nat} (hb : b ∈ a.toList.flatMap AI.nam1) : h b = some .dead ∨ ∃ x, m b = some x := by
  obtain ⟨v, hv, hb⟩ := List.mem_flatMap.1 hb
  obtain ⟨i, hi⟩ := List.getElem?_of_mem hv
  have hi' : a[i]? = some v := by simpa using hi
  have hlt : i < a'.size := by
    have := (Array.getElem?_eq_some_iff.1 hi').1
    have := r.1
    omega
  exact VRel.nam1 (r.2 i v _ hi' (Array.getElem?_eq_getElem hlt)) hb
omit [Inhabited Prop] in
theorem VRel.nam2 {v v' : Value} (r : VRel m h v v') {b : Nat} (hb : b ∈ AI.nam2 v) : h b = some .dead ∨ ∃ x, m b = some x := by
  cases v with
  | agg cs =>
    obtain ⟨a', rfl, h1⟩ := r.of_agg
    exact h1.nam hb
  | func f x y =>
    cases r with
    | flat hf => simp [AI.flat] at hf
    | func h1 h2 h3 h4 =>
      rw [AI.nam2, List.flatMap_append, List.mem_append] at hb
      rcases hb with hb | hb
      · exact VRelA.nam ⟨h1, h2⟩ hb
      · exact VRelA.nam ⟨h3, h4⟩ hb
  | _ => exact r.nam1 hb
omit [Inhabited Prop] in
theorem BRel.nam {w : World} {x : Nat × Nat × Nat} {o : Blk} (r : BRel m h w x o) {b : Nat} (hb : b ∈ namB o) : h b = some .dead ∨ ∃ x, m b = some x := by
  cases o with
  | cells ty cs ro =>
    obtain ⟨cc, fr, g1, g2, g3, g4, g5⟩ := r
    obtain ⟨v, hv, hb⟩ := List.mem_flatMap.1 hb
    obtain ⟨i, hi⟩ := List.getElem?_of_mem hv
    have hlt : i < cs.length := (List.getElem?_eq_some_iff.1 hi).1
    exact VRel.nam2 (g4 i v _ hi (Array.getElem?_eq_getElem (by omega))) hb
  | map es cl ro =>
    obtain ⟨fs, g1, g2, g3⟩ := r
    obtain ⟨e, he, hb⟩ := List.mem_flatMap.1 hb
    obtain ⟨i, hi⟩ := List.getElem?_of_mem he
    have hlt : i < es.length := (List.getElem?_eq_some_iff.1 hi).1
    exact VRel.nam2 (g3 i e _ hi (Array.getElem?_eq_getElem (by omega))).2.2.1 hb
  | dead => cases hb
omit [Inhabited Prop] in
theorem Rch.has {args : List Value} {hp : Hp} (hk : hp.ok) {w : World} {args' : List Value} (s : Sim m (ovr hp h) w) (ra : VRelL m (ovr hp h) args args') {b : Nat} (r : Rch args hp b) : ovr hp h b = some .dead ∨ ∃ x, m b = some x := by
  induction r with
  | arg hv hb =>
    obtain ⟨i, hi⟩ := List.getElem?_of_mem hv
    have hlt : i < args'.length := by
      have := (List.getElem?_eq_some_iff.1 hi).1
      have := ra.1
      omega
    exact VRel.nam2 (ra.2 i _ _ hi (List.getElem?_eq_getElem hlt)) hb
  | @blk b c o _ hg hc ih =>
    have ho := ovr_sub hk h b o hg
    rcases ih with hd | ⟨x, hx⟩
    · rw [ho] at hd; cases hd; cases hc
    · obtain ⟨o', ho', hbr⟩ := s.dom b x hx
      rw [ho] at ho'; cases ho'
      exact hbr.nam hc
end
end Go.Proofs.Ytbhmodlpolgklaa.AI
namespace Go.Proofs.Ytbhmodlpolgklaa.AI
open Go Go.Proofs Go.RowKit
variable [Inhabited Prop]
abbrev Ks := List (Option (Nat × Bool))
def startB (o : Blk) (wr : Bool) : Blk := bif wr then o else roBlk o
def posO (b : Nat) : Ks → Nat → Option Nat
  | [], _ => none
  | none :: K, i => posO b K (i + 1)
  | some (c, _) :: K, i => match Nat.beq c b with
    | true => some i
    | false => posO b K (i + 1)
omit [Inhabited Prop] in
theorem posO_some {b : Nat} : ∀ {K : Ks} {i j : Nat}, posO b K i = some j → ∃ k wr, j = i + k ∧ K[k]? = some (some (b, wr))
  | [], i, j, h => by cases h
  | none :: K, i, j, h => by
    obtain ⟨k, wr, rfl, hk⟩ := posO_some (K := K) (i := i + 1) h
    exact ⟨k + 1, wr, by omega, by simpa using hk⟩
  | some (c, w) :: K, i, j, h => by
    unfold posO at h
    split at h
    · rename_i hb
      cases h
      exact ⟨0, w, rfl, by rw [Nat.eq_of_beq_eq_true hb]; rfl⟩
    · obtain ⟨k, wr, rfl, hk⟩ := posO_some (K := K) (i := i + 1) h
      exact ⟨k + 1, wr, by omega, by simpa using hk⟩
def sg0 (K0 : Ks) (b : Nat) : Nat := (posO b K0 0).getD K0.length
def pinB (K0 : Ks) (hp : Hp) : Option (Nat × Bool) → Blk
  | some (b, wr) => startB (mvB (sg0 K0) ((hp.get b).getD .dead)) wr
  | none => .dead
def pinHp (K0 : Ks) (hp : Hp) : Hp := heapOf (K0.map (pinB K0 hp) ++ [.dead]) hp0
def canO (m : BM) (K0 : Ks) : BM := ⟨fun i => match K0[i]? with
  | some (some (b, _)) => m b
  | _ => none, m.lit⟩
omit [Inhabited Prop] in
theorem canO_at {m : BM} {K0 : Ks} {i : Nat} : canO m K0 i = match K0[i]? with
  | some (some (b, _)) => m b
  | _ => none := rfl
def nodupO (K0 : Ks) : Prop := ∀ (i j b : Nat) (wr wr' : Bool), K0[i]? = some (some (b, wr)) → K0[j]? = some (some (b, wr')) → i = j
def putO : Ks → List Blk → Hp → Hp
  | [], _, h => h
  | _ :: _, [], h => h
  | some (b, true) :: K, o :: O, h => putO K O (h.put b o)
  | some (_, false) :: K, _ :: O, h => putO K O h
  | none :: K, _ :: O, h => putO K O h
abbrev Kw := List (Option Nat)
def posN (b : Nat) : Kw → Nat → Option Nat
  | [], _ => none
  | none :: K, i => posN b K (i + 1)
  | some c :: K, i => match Nat.beq c b with
    | true => some i
    | false => posN b K (i + 1)
omit [Inhabited Prop] in
theorem posN_some {b : Nat} : ∀ {K : Kw} {i j : Nat}, posN b K i = some j → ∃ k, j = i + k ∧ K[k]? = some (some b)
  | [], i, j, h => by cases h
  | none :: K, i, j, h => by
    obtain ⟨k, rfl, hk⟩ := posN_some (K := K) (i := i + 1) h
    exact ⟨k + 1, by omega, by simpa using hk⟩
  | some c :: K, i, j, h => by
    unfold posN at h
    split at h
    · rename_i hb
      cases h
      exact ⟨0, rfl, by rw [Nat.eq_of_beq_eq_true hb]; rfl⟩
    · obtain ⟨k, rfl, hk⟩ := posN_some (K := K) (i := i + 1) h
      exact ⟨k + 1, by omega, by simpa using hk⟩
def nodupN (K : Kw) : Prop := ∀ (i j c : Nat), K[i]? = some (some c) → K[j]? = some (some c) → i = j
def sgE (K0 : Ks) (K : Kw) (B : Nat) (b : Nat) : Nat := match posN b K 0 with
  | some j => B + j
  | none => match K0[b]? with
    | some (some (c, _)) => c
    | _ => B + K.length
def KOk (K0 : Ks) (O : List Blk) (K : Kw) : Prop := ∀ c, some c ∈ K → K0.length ≤ c ∨ ∃ b, K0[c]? = some (some (b, true)) ∧ O[c]? = some .dead
def joinN (m m' : BM) (K : Kw) (B : Nat) : BM := ⟨fun b => if B ≤ b ∧ b ≤ B + K.length then (match K[b - B]? with | some (some c) => m' c | _ => none) else m b, fun r o t c => m.lit r o t c ∨ m'.lit r o t c⟩
omit [Inhabited Prop] in
theorem putO_sz : ∀ (K : Ks) (O : List Blk) (h : Hp), (putO K O h).sz = h.sz
  | [], _, h => by cases ‹List Blk› <;> rfl
  | _ :: _, [], h => by unfold putO; rfl
  | some (b, true) :: K, o :: O, h => by rw [putO, putO_sz, Hp.sz_put]
  | some (_, false) :: K, _ :: O, h => by rw [putO, putO_sz]
  | none :: K, _ :: O, h => by rw [putO, putO_sz]
omit [Inhabited Prop] in
theorem putO_miss {b : Nat} : ∀ {K : Ks} {O : List Blk} {h : Hp}, (∀ i : Nat, K[i]? ≠ some (some (b, true))) → (putO K O h).get b = h.get b
  | [], _, h, _ => by cases ‹List Blk› <;> rfl
  | _ :: _, [], h, _ => by unfold putO; rfl
  | some (c, true) :: K, o :: O, h, hm => by
    rw [putO, putO_miss (fun i => by have := hm (i + 1); simpa using this), Hp.get_put, if_neg (fun e => hm 0 (by rw [e]; rfl))]
  | some (_, false) :: K, _ :: O, h, hm => by rw [putO, putO_miss (fun i => by have := hm (i + 1); simpa using this)]
  | none :: K, _ :: O, h, hm => by rw [putO, putO_miss (fun i => by have := hm (i + 1); simpa using this)]
omit [Inhabited Prop] in
theorem nodupO.tail {k : Option (Nat × Bool)} {K : Ks} (h : nodupO (k :: K)) : nodupO K := fun i j b wr wr' h1 h2 => by
  have := h (i + 1) (j + 1) b wr wr' (by simpa using h1) (by simpa using h2)
  omega
omit [Inhabited Prop] in
theorem putO_hit {b : Nat} : ∀ {K : Ks} {O : List Blk} {h : Hp} {i : Nat} {o : Blk}, nodupO K → K[i]? = some (some (b, true)) → O[i]? = some o → (putO K O h).get b = some o
  | [], O, h, i, o, _, h1, _ => by simp at h1
  | _ :: _, [], h, i, o, _, _, h2 => by simp at h2
  | k :: K, o' :: O, h, i, o, hd, h1, h2 => by
    cases i with
    | zero =>
      have e1 : k = some (b, true) := by simpa using h1
      have e2 : o' = o := by simpa using h2
      subst e1 e2
      rw [putO, putO_miss (fun i hi => by have := hd 0 (i + 1) b true true rfl (by simpa using hi); omega), Hp.get_put, if_pos rfl]
    | succ i =>
      have h1' : K[i]? = some (some (b, true)) := by simpa using h1
      have h2' : O[i]? = some o := by simpa using h2
      match k with
      | some (c, true) => rw [putO]; exact putO_hit hd.tail h1' h2'
      | some (_, false) => rw [putO]; exact putO_hit hd.tail h1' h2'
      | none => rw [putO]; exact putO_hit hd.tail h1' h2'
omit [Inhabited Prop] in
theorem putO_ok {K : Ks} {O : List Blk} {hp : Hp} (hk : hp.ok) (hl : ∀ (i b : Nat), K[i]? = some (some (b, true)) → b < hp.sz) : (putO K O hp).ok := fun c hc => by
  rw [putO_sz] at hc
  rw [putO_miss (fun i hi => by have := hl i c hi; omega)]
  exact hk c hc
omit [Inhabited Prop] in
theorem mvB_rw {s : Nat → Nat} (o : Blk) : rwB (mvB s o) = rwB o := by cases o <;> rfl
omit [Inhabited Prop] in
theorem rw_of {h : HG} {b : Nat} {o : Blk} (e : h b = some o) : rw? h b = rwB o := by unfold rw?; rw [e]; cases o <;> rfl
omit [Inhabited Prop] in
theorem live_of {h : HG} {b : Nat} {o : Blk} (e : h b = some o) : live? h b = true ↔ o ≠ .dead := by
  unfold live?; rw [e]
  cases o <;> simp
section
variable {P : Program}
omit [Inhabited Prop] in
theorem pin_sim {m : BM} {h : HG} {w : World} {hp : Hp} {K0 : Ks} (s : Sim m (ovr hp h) w) (hk : hp.ok) (hK : nodupO K0) (hok : ∀ (i b : Nat) (wr : Bool), K0[i]? = some (some (b, wr)) → ∃ o, hp.get b = some o ∧ startOk o = true) :
    Sim (canO m K0) (pinHp K0 hp).get w ∧ PS m (ovr hp h) (canO m K0) (pinHp K0 hp).get (sg0 K0) ∧
    (∀ i x, canO m K0 i = some x → rw? (pinHp K0 hp).get i = true → ∃ b, K0[i]? = some (some (b, true)) ∧ m b = some x ∧ rw? (ovr hp h) b = true) := by
  have hget : ∀ b, (pinHp K0 hp).get b = (K0.map (pinB K0 hp) ++ [Blk.dead])[b]? := fun b => heapOf0_get _ b
  have hD : (pinHp K0 hp).get K0.length = some .dead := by rw [hget]; simp
  have hblk : ∀ (i b : Nat) (wr : Bool), K0[i]? = some (some (b, wr)) → ∃ o, ovr hp h b = some o ∧ startOk o = true ∧ (pinHp K0 hp).get i = some (startB (mvB (sg0 K0) o) wr) ∧ canO m K0 i = m b := by
    intro i b wr hi
    obtain ⟨o, h1, h2⟩ := hok i b wr hi
    refine ⟨o, ovr_sub hk h b o h1, h2, ?_, by simp only [canO_at]; rw [hi]⟩
    have hlt : i < K0.length := (List.getElem?_eq_some_iff.1 hi).1
    rw [hget, List.getElem?_append_left (by simpa using hlt), List.getElem?_map, hi]
    simp [pinB, h1]
  have pt : PS m (ovr hp h) (canO m K0) (pinHp K0 hp).get (sg0 K0) := by
    refine ⟨fun b Q hq => ?_, fun _ _ _ _ q => q⟩
    unfold sg0
    cases hi : posO b K0 0 with
    | none => exact .inl hD
    | some j =>
      obtain ⟨k, wr, rfl, hk⟩ := posO_some hi
      simp only [Nat.zero_add, Option.getD_some]
      obtain ⟨o, h1, _, h2, h3⟩ := hblk k b wr hk
      rcases hq with hq | hq
      · rw [hq] at h1; cases h1
        left; rw [h2]; cases wr <;> rfl
      · exact .inr ⟨hq, h3⟩
  have hcan : ∀ i x, canO m K0 i = some x → ∃ b wr, K0[i]? = some (some (b, wr)) ∧ m b = some x := by
    intro i x hx
    simp only [canO_at] at hx
    split at hx
    · rename_i b wr hb; exact ⟨b, wr, hb, hx⟩
    · cases hx
  have hrw : ∀ i x, canO m K0 i = some x → rw? (pinHp K0 hp).get i = true → ∃ b, K0[i]? = some (some (b, true)) ∧ m b = some x ∧ rw? (ovr hp h) b = true := by
    intro i x hx hr
    obtain ⟨b, wr, hb, hm⟩ := hcan i x hx
    obtain ⟨o, h1, h2, h3, _⟩ := hblk i b wr hb
    rw [rw_of h3] at hr
    cases wr with
    | false => exfalso; revert hr; unfold startB; cases o <;> simp [mvB, roBlk, rwB]
    | true => exact ⟨b, hb, hm, by rw [rw_of h1]; simpa [startB, mvB_rw] using hr⟩
  refine ⟨⟨⟨fun i x hx => ?_, fun i j x x' hx hx' hr hl hxx => ?_⟩, fun r o t c q => (s.lit r o t c q).mono (fun _ _ _ _ h => h) rfl, fun r q i x hx hr => by
    obtain ⟨b, _, hm, hrb⟩ := hrw i x hx hr
    exact s.ice r q b x hm hrb⟩, pt, hrw⟩
  · obtain ⟨b, wr, hb, hm⟩ := hcan i x hx
    obtain ⟨o, h1, h2, h3, _⟩ := hblk i b wr hb
    refine ⟨_, h3, ?_⟩
    obtain ⟨o', ho', hbr⟩ := s.dom b x hm
    rw [h1] at ho'; cases ho'
    have h2' : okBlk o = true := by
      cases o with
      | cells ty cs ro => exact (Bool.and_eq_true_iff.1 h2).1
      | map => exact h2
      | dead => rfl
    have q := pt.blk hbr h2'
    cases wr with
    | true => exact q
    | false =>
      cases o with
      | cells ty cs ro =>
        obtain ⟨cc, fr, g1, g2, g3, g4, g5⟩ := q
        refine ⟨cc, fr, g1, g2, g3, g4, (fun hr => by cases hr), fun _ hkb => ?_⟩
        have hk' := keysBox_map mv2_map hkb
        obtain ⟨_, k2⟩ := Bool.and_eq_true_iff.1 h2
        rw [hk'] at k2
        have hr : ro = true := by simpa using k2
        exact g5.2 hr hkb
      | map es cl ro => exact q
      | dead => trivial
  · obtain ⟨b, hb, hm, hrb⟩ := hrw i x hx hr
    obtain ⟨b', wr', hb', hm'⟩ := hcan j x' hx'
    obtain ⟨o', h1', _, h3', _⟩ := hblk j b' wr' hb'
    have hl' : live? (ovr hp h) b' = true := by
      rw [live_of h1']
      intro e; subst e
      rw [live_of h3'] at hl
      apply hl
      cases wr' <;> rfl
    have := s.inj b b' x x' hm hm' hrb hl' hxx
    subst this
    exact hK i j b true wr' hb hb'
theorem fn_ofM {w0 : World} {S : Nat → Prop} {z : Nat} {X : Pins} {f : FuncId} {fn : Func} {c : Code} {args : List Value} {args' : Array Value} {hp : Hp} {m : BM} {R : Value → St → Prop} (hf : P.funcs[f]? = some fn) (hb : fn.body = some c) (hn : args.length ≤ fn.ntmps) (hk : hp.ok)
    (s : Sim m hp.get w0) (h0 : ∀ i, i < z → ∀ x, X i = some x → m i = some x) (ro : ∀ b y, m b = some y → rw? hp.get b = true → S y.1) (r : VRelL m hp.get args args'.toList)
    (h : FRm P fn.ntmps ⟨w0, S, m.lrow⟩ z X c ⟨tmsOf args 0 .leaf, hp, []⟩ fun e st => (e = .normal ∨ e = .ret) ∧ st.df = [] ∧ ∃ v, retVal P fn st = some v ∧ R v st) :
    Calls P f args' w0 fun e w' => ∃ v' v st' m', e = .returned v' ∧ R v st' ∧ VRel m' st'.hp.get v v' ∧ Sim m' st'.hp.get w' ∧ Keeps ⟨w0, S, m.lrow⟩ w' ∧ (∀ r, m'.lrow r → m.lrow r ∨ w0.heap.size ≤ r ∨ S r) ∧ (∀ b x, m' b = some x → rw? st'.hp.get b = true → w0.heap.size ≤ x.1 ∨ S x.1) ∧
      (∀ i, i < z → ∀ x, X i = some x → st'.hp.get i = some .dead ∨ m' i = some x) := by
  refine calls_of_wp hf hb (wp_mono (h _ w0 m ⟨⟨hk, ⟨by rw [ovr_hg0 hk]; exact s, by rw [ovr_hg0 hk]; exact args_rel r hn, .nil⟩, Keeps.refl _ _ _, fun b y hx hr => .inr (ro b y hx hr), fun r q => .inl q⟩, fun i hi x hx => .inr (h0 i hi x hx)⟩) fun e a' w' hh => ?_)
  obtain ⟨st', m', f', q1, q2, v, q3, q4⟩ := hh
  have hd : a'.defers = [] := by
    have := f'.fr.rel.df
    rw [q2] at this
    exact this.of_nil
  obtain ⟨v', h1, h2⟩ := retVal_sound f'.fr.ok f'.fr.rel.sim f'.fr.rel.tm q3
  have e1 := ovr_hg0 f'.fr.ok
  have hs := f'.fr.rel.sim
  rw [e1] at h2 hs
  rcases q1 with rfl | rfl
  · exact ⟨hd, v', h1, v', v, st', m', rfl, q4, h2, hs, f'.fr.below, f'.fr.ownl, f'.fr.own, f'.pin⟩
  · exact ⟨hd, v', h1, v', v, st', m', rfl, q4, h2, hs, f'.fr.below, f'.fr.ownl, f'.fr.own, f'.pin⟩
structure EndM (K0 : Ks) (K : Kw) (B : Nat) (O Nw : List Blk) (v v0 : Value) (h g : HG) : Prop where
  val : v = mv3 (sgE K0 K B) v0
  wr : ∀ (i b : Nat), K0[i]? = some (some (b, true)) → ∃ o, h i = some o ∧ okBlk o = true ∧ (O[i]? = some (mvB (sgE K0 K B) o) ∨ O[i]? = some .dead)
  ro : ∀ (i b : Nat), K0[i]? = some (some (b, false)) → h i = some .dead → g b = some .dead
  nw : ∀ (j c : Nat), K[j]? = some (some c) → ∃ o, h c = some o ∧ okBlk o = true ∧ rwB o = true ∧ Nw[j]? = some (mvB (sgE K0 K B) o)
set_option maxHeartbeats 4000000 in
theorem join_mem {m m' : BM} {hp hpR : Hp} {h : HG} {w w' : World} {K0 : Ks} {K : Kw} {O Nw : List Blk} {v v0 v' : Value} (hk : hp.ok) (s : Sim m (ovr hp h) w) (hsim : Sim m' hpR.get w') (hK0 : nodupO K0) (inj : nodupN K) (hge : KOk K0 O K)
    (hlive0 : ∀ (i b : Nat) (wr : Bool), K0[i]? = some (some (b, wr)) → ∃ o, hp.get b = some o ∧ (o = .dead ∧ wr = false ∨ o ≠ .dead ∧ ∃ x, m b = some x)) (hNw : Nw.length = K.length)
    (kp : Keeps ⟨w, fun r => ∃ (i b : Nat) (x : Nat × Nat × Nat), K0[i]? = some (some (b, true)) ∧ m b = some x ∧ rw? (ovr hp h) b = true ∧ x.1 = r, m.lrow⟩ w')
    (ownl : ∀ r, m'.lrow r → m.lrow r ∨ w.heap.size ≤ r ∨ ∃ (i b : Nat) (x : Nat × Nat × Nat), K0[i]? = some (some (b, true)) ∧ m b = some x ∧ rw? (ovr hp h) b = true ∧ x.1 = r)
    (own : ∀ b x, m' b = some x → rw? hpR.get b = true → w.heap.size ≤ x.1 ∨ ∃ (i b : Nat) (x' : Nat × Nat × Nat), K0[i]? = some (some (b, true)) ∧ m b = some x' ∧ rw? (ovr hp h) b = true ∧ x'.1 = x.1)
    (pin : ∀ i, i < K0.length → ∀ x, canO m K0 i = some x → hpR.get i = some .dead ∨ m' i = some x) (hfr : ∀ b, hp.sz ≤ b → b ≤ hp.sz + K.length → h b = none)
    (E : EndM K0 K hp.sz O Nw v v0 hpR.get hp.get) (rv : VRel m' hpR.get v0 v') (hok1 : ok3 v0 = true) :
    Go1 m (ovr hp h) w (joinN m m' K hp.sz) (ovr (heapOf (Nw ++ [.dead]) (putO K0 O hp)) h) w' ∧ VRel (joinN m m' K hp.sz) (ovr (heapOf (Nw ++ [.dead]) (putO K0 O hp)) h) v v' := by
  have hsz' : (heapOf (Nw ++ [.dead]) (putO K0 O hp)).sz = hp.sz + (K.length + 1) := by rw [heapOf_sz, putO_sz]; simp [hNw]
  have hov : ∀ b, ovr (heapOf (Nw ++ [.dead]) (putO K0 O hp)) h b = if hp.sz ≤ b ∧ b ≤ hp.sz + K.length then (Nw ++ [Blk.dead])[b - hp.sz]? else if b < hp.sz then (putO K0 O hp).get b else h b := by
    intro b
    unfold ovr
    rw [hsz', heapOf_get, putO_sz]
    by_cases h1 : b < hp.sz
    · rw [if_pos (by omega), if_pos h1, if_neg (by omega), if_pos h1]
    · by_cases h2 : b ≤ hp.sz + K.length
      · rw [if_pos (by omega), if_neg h1, if_pos ⟨by omega, h2⟩]
        have : b - hp.sz < (Nw ++ [Blk.dead]).length := by simp [hNw]; omega
        rw [List.getElem?_eq_getElem this]
      · rw [if_neg (by omega), if_neg (by omega), if_neg h1]
  have hnone : ∀ b, hp.sz ≤ b → b ≤ hp.sz + K.length → ovr hp h b = none := by
    intro b h1 h2
    unfold ovr
    rw [if_neg (by omega)]
    exact hfr b h1 h2
  have hmn : ∀ b, hp.sz ≤ b → b ≤ hp.sz + K.length → m b = none := by
    intro b h1 h2
    cases e : m b with
    | none => rfl
    | some x => obtain ⟨o, ho, _⟩ := s.dom b x e; rw [hnone b h1 h2] at ho; cases ho
  have hlive : ∀ (i b : Nat), K0[i]? = some (some (b, true)) → (∃ o, hp.get b = some o ∧ o ≠ .dead) ∧ ∃ x, m b = some x := by
    intro i b hi
    obtain ⟨o, ho, h | h⟩ := hlive0 i b true hi
    · cases h.2
    · exact ⟨⟨o, ho, h.1⟩, h.2⟩
  have hlt : ∀ (i b : Nat) (wr : Bool), K0[i]? = some (some (b, wr)) → b < hp.sz := by
    intro i b wr hi
    obtain ⟨o, ho, _⟩ := hlive0 i b wr hi
    exact lt_of_get hk ho
  have hj : ∀ b, joinN m m' K hp.sz b = if hp.sz ≤ b ∧ b ≤ hp.sz + K.length then (match K[b - hp.sz]? with | some (some c) => m' c | _ => none) else m b := fun _ => rfl
  have hD : ovr (heapOf (Nw ++ [.dead]) (putO K0 O hp)) h (hp.sz + K.length) = some .dead := by
    rw [hov, if_pos (by omega), show hp.sz + K.length - hp.sz = Nw.length by omega]; simp
  have hold : ∀ b, b < hp.sz → joinN m m' K hp.sz b = m b := fun b hb => by rw [hj, if_neg (by omega)]
  -- three kinds of numbers
  have hnew : ∀ (j c : Nat), K[j]? = some (some c) → ∃ o, hpR.get c = some o ∧ okBlk o = true ∧ rwB o = true ∧ ovr (heapOf (Nw ++ [.dead]) (putO K0 O hp)) h (hp.sz + j) = some (mvB (sgE K0 K hp.sz) o) ∧ joinN m m' K hp.sz (hp.sz + j) = m' c := by
    intro j c hc
    have hjl : j < K.length := (List.getElem?_eq_some_iff.1 hc).1
    obtain ⟨o, h1, h2, h3, h4⟩ := E.nw j c hc
    refine ⟨o, h1, h2, h3, ?_, ?_⟩
    · rw [hov, if_pos (by omega), show hp.sz + j - hp.sz = j by omega, List.getElem?_append_left (by omega), h4]
    · rw [hj, if_pos (by omega), show hp.sz + j - hp.sz = j by omega, hc]
  have hhit : ∀ (i b : Nat), K0[i]? = some (some (b, true)) → ∃ o, hpR.get i = some o ∧ okBlk o = true ∧ (ovr (heapOf (Nw ++ [.dead]) (putO K0 O hp)) h b = some (mvB (sgE K0 K hp.sz) o) ∨ ovr (heapOf (Nw ++ [.dead]) (putO K0 O hp)) h b = some .dead) := by
    intro i b hi
    obtain ⟨o, h1, h2, h3⟩ := E.wr i b hi
    have := hlt i b true hi
    refine ⟨o, h1, h2, ?_⟩
    rcases h3 with h3 | h3
    · exact .inl (by rw [hov, if_neg (by omega), if_pos this, putO_hit hK0 hi h3])
    · exact .inr (by rw [hov, if_neg (by omega), if_pos this, putO_hit hK0 hi h3])
  have hgone : ∀ (c b : Nat), K0[c]? = some (some (b, true)) → some c ∈ K → ovr (heapOf (Nw ++ [.dead]) (putO K0 O hp)) h b = some .dead := by
    intro c b hc hm
    have hl := (List.getElem?_eq_some_iff.1 hc).1
    rcases hge c hm with h | ⟨b2, h1, h2⟩
    · omega
    · rw [hc] at h1
      cases h1
      have := hlt c b true hc
      rw [hov, if_neg (by omega), if_pos this, putO_hit hK0 hc h2]
  have hmiss : ∀ b, ¬ (hp.sz ≤ b ∧ b ≤ hp.sz + K.length) → (∀ i : Nat, K0[i]? ≠ some (some (b, true))) → ovr (heapOf (Nw ++ [.dead]) (putO K0 O hp)) h b = ovr hp h b := by
    intro b h1 h2
    rw [hov, if_neg h1]
    unfold ovr
    split
    · rw [putO_miss h2]
    · rfl
  have hcan : ∀ (i b : Nat) (wr : Bool), K0[i]? = some (some (b, wr)) → canO m K0 i = m b := fun i b wr hi => by simp only [canO_at]; rw [hi]
  have hpin : ∀ (i b : Nat) (wr : Bool), K0[i]? = some (some (b, wr)) → (∃ x, m b = some x) → hpR.get i = some .dead ∨ m' i = m b := by
    rintro i b wr hi ⟨x, hx⟩
    rcases pin i (List.getElem?_eq_some_iff.1 hi).1 x (by rw [hcan i b wr hi, hx]) with h | h
    · exact .inl h
    · exact .inr (by rw [h, hx])
  have pt : PS m' hpR.get (joinN m m' K hp.sz) (ovr (heapOf (Nw ++ [.dead]) (putO K0 O hp)) h) (sgE K0 K hp.sz) := by
    refine ⟨fun c Q hq => ?_, fun _ _ _ _ q => .inr q⟩
    unfold sgE
    split
    · rename_i j hi
      obtain ⟨k, rfl, hk⟩ := posN_some hi
      simp only [Nat.zero_add]
      obtain ⟨o, h1, _, _, h2, h3⟩ := hnew k c hk
      rcases hq with hq | hq
      · rw [hq] at h1; cases h1; exact .inl h2
      · exact .inr ⟨hq, h3⟩
    split
    · rename_i b wr hc
      have hb := hlt c b wr hc
      cases wr with
      | true =>
        obtain ⟨o, h1, _, h3⟩ := hhit c b hc
        rcases h3 with h3 | h3
        · rcases hq with hq | hq
          · rw [hq] at h1; cases h1; exact .inl h3
          · rcases hpin c b true hc (hlive c b hc).2 with h | h
            · rw [h] at h1; cases h1; exact .inl h3
            · exact .inr ⟨hq, by rw [hold b hb, h]⟩
        · exact .inl h3
      | false =>
        obtain ⟨o, ho, hd⟩ := hlive0 c b false hc
        have hG : ovr (heapOf (Nw ++ [.dead]) (putO K0 O hp)) h b = some o := by
          rw [hmiss b (by omega) fun i hi => by have := hK0 i c b true false hi hc; subst this; rw [hi] at hc; cases hc]
          exact ovr_sub hk h b o ho
        have hdd : hpR.get c = some .dead → ovr (heapOf (Nw ++ [.dead]) (putO K0 O hp)) h b = some .dead := fun h => by
          have := E.ro c b hc h
          rw [ho] at this; cases this
          exact hG
        rcases hd with ⟨rfl, _⟩ | ⟨_, hx⟩
        · exact .inl hG
        · rcases hq with hq | hq
          · exact .inl (hdd hq)
          · rcases hpin c b false hc hx with h | h
            · exact .inl (hdd h)
            · exact .inr ⟨hq, by rw [hold b hb, h]⟩
    · exact .inl hD
  have hwmiss : ∀ b x, m b = some x → live? (ovr hp h) b = true → (∀ i : Nat, K0[i]? ≠ some (some (b, true))) → ¬ ∃ (i b2 : Nat) (x2 : Nat × Nat × Nat), K0[i]? = some (some (b2, true)) ∧ m b2 = some x2 ∧ rw? (ovr hp h) b2 = true ∧ x2.1 = x.1 := by
    rintro b x hx hl hm ⟨i, b2, x2, q1, q2, q3, q4⟩
    have := s.inj b2 b x2 x q2 hx q3 hl q4
    subst this
    exact hm i q1
  have hle : Le m (ovr hp h) (joinN m m' K hp.sz) (ovr (heapOf (Nw ++ [.dead]) (putO K0 O hp)) h) := by
    constructor
    · intro b hb
      by_cases hr : hp.sz ≤ b ∧ b ≤ hp.sz + K.length
      · rw [hnone b hr.1 hr.2] at hb; cases hb
      · rw [hmiss b hr fun i hi => ?_]
        · exact hb
        · obtain ⟨⟨o, ho, hne⟩, _⟩ := hlive i b hi
          rw [ovr_sub hk h b o ho] at hb
          cases hb; exact hne rfl
    · intro b y hb
      refine .inr ?_
      rw [hj]
      split
      · rename_i hc; rw [hmn b hc.1 hc.2] at hb; cases hb
      · exact hb
    · exact fun _ _ _ _ q => .inl q
  have hice : ∀ r, m'.lrow r → ¬ m.lrow r → ∀ b x, joinN m m' K hp.sz b = some x → rw? (ovr (heapOf (Nw ++ [.dead]) (putO K0 O hp)) h) b = true → x.1 ≠ r := by
    intro r q qn b x hx hr
    rw [hj] at hx
    split at hx
    · rename_i hc
      split at hx
      · rename_i c hcK
        obtain ⟨o, h1, h2, _, h3, _⟩ := hnew _ c hcK
        rw [show hp.sz + (b - hp.sz) = b by omega] at h3
        exact hsim.ice r q c x hx (by rw [rw_of h1]; rwa [rw_of h3, mvB_rw] at hr)
      · cases hx
    · rename_i hc
      by_cases hh : ∃ i : Nat, K0[i]? = some (some (b, true))
      · obtain ⟨i, hi⟩ := hh
        obtain ⟨o, h1, h2, h3⟩ := hhit i b hi
        rcases h3 with h3 | h3
        case inr => rw [rw_of h3] at hr; cases hr
        rw [rw_of h3, mvB_rw] at hr
        rcases hpin i b true hi (hlive i b hi).2 with q2 | q2
        · rw [q2] at h1; cases h1; cases hr
        · exact hsim.ice r q i x (by rw [q2, hx]) (by rw [rw_of h1]; exact hr)
      · have hm : ∀ i : Nat, K0[i]? ≠ some (some (b, true)) := fun i hi => hh ⟨i, hi⟩
        have hr2 : rw? (ovr hp h) b = true := by unfold rw? at hr ⊢; rwa [hmiss b hc hm] at hr
        intro e
        rcases (ownl r q).resolve_left qn with h1 | h1
        · have := s.lt hx (live_of_rw hr2)
          omega
        · rw [← e] at h1
          exact hwmiss b x hx (live_of_rw hr2) hm h1
  refine ⟨Go0.join ⟨hle, ⟨?_, ?_⟩, kp.size, ?_, fun k hk' hn => kp.block k hk' (fun ⟨i, b, x, q1, q2, q3, q4⟩ => hn b x q2 q3 q4), ?_, ?_, ?_, ?_, kp.os, kp.tape, kp.output⟩ s hsim (fun _ _ _ _ => Iff.rfl) (fun r q => (ownl r q).imp id (Or.imp id fun ⟨i, b, x, _, q2, q3, q4⟩ => ⟨b, x, q2, q3, q4⟩)) hice, by rw [E.val]; exact pt.three rv hok1⟩
  · -- the blocks
    intro b x hx
    rw [hj] at hx
    split at hx
    · rename_i hc
      split at hx
      · rename_i c hcK
        obtain ⟨o, h1, h2, _, h3, _⟩ := hnew _ c hcK
        rw [show hp.sz + (b - hp.sz) = b by omega] at h3
        obtain ⟨o', ho', hbr⟩ := hsim.dom c x hx
        rw [h1] at ho'; cases ho'
        exact ⟨_, h3, pt.blk hbr h2⟩
      · cases hx
    · rename_i hc
      by_cases hh : ∃ i : Nat, K0[i]? = some (some (b, true))
      · obtain ⟨i, hi⟩ := hh
        obtain ⟨o, h1, h2, h3⟩ := hhit i b hi
        rcases h3 with h3 | h3
        case inr => exact ⟨_, h3, trivial⟩
        refine ⟨_, h3, ?_⟩
        rcases hpin i b true hi (hlive i b hi).2 with h | h
        · rw [h] at h1; cases h1; trivial
        · obtain ⟨o', ho', hbr⟩ := hsim.dom i x (by rw [h, hx])
          rw [h1] at ho'; cases ho'
          exact pt.blk hbr h2
      · have hm : ∀ i : Nat, K0[i]? ≠ some (some (b, true)) := fun i hi => hh ⟨i, hi⟩
        obtain ⟨o, ho, hbr⟩ := s.dom b x hx
        refine ⟨o, by rw [hmiss b hc hm]; exact ho, ?_⟩
        by_cases hd : o = .dead
        · subst hd; trivial
        · have hl := (live_of ho).2 hd
          refine hbr.mono hle (kp.block _ (s.lt hx hl) ?_)
          rintro ⟨i, b2, x2, q⟩
          exact hwmiss b x hx hl hm ⟨i, b2, x2, q⟩
  · -- one block, one number
    intro b b' x x' hx hx' hr hl hxx
    -- what is known of a number: in the callee's, or in the caller's alone
    have kind : ∀ b x, joinN m m' K hp.sz b = some x → live? (ovr (heapOf (Nw ++ [.dead]) (putO K0 O hp)) h) b = true →
        (∃ c o, hpR.get c = some o ∧ o ≠ .dead ∧ m' c = some x ∧ rw? (ovr (heapOf (Nw ++ [.dead]) (putO K0 O hp)) h) b = rwB o ∧ ((∃ j : Nat, K[j]? = some (some c) ∧ b = hp.sz + j ∧ rwB o = true) ∨ (K0[c]? = some (some (b, true)) ∧ m b = some x))) ∨
        ((∀ i : Nat, K0[i]? ≠ some (some (b, true))) ∧ m b = some x ∧ live? (ovr hp h) b = true ∧ rw? (ovr (heapOf (Nw ++ [.dead]) (putO K0 O hp)) h) b = rw? (ovr hp h) b) := by
      intro b x hx hl
      have hx0 := hx
      rw [hj] at hx
      split at hx
      · rename_i hc
        split at hx
        case h_2 => cases hx
        rename_i c hcK
        obtain ⟨o, h1, h2, h2', h3, _⟩ := hnew _ c hcK
        rw [show hp.sz + (b - hp.sz) = b by omega] at h3
        refine .inl ⟨c, o, h1, fun e => ?_, hx, by rw [rw_of h3, mvB_rw], .inl ⟨_, hcK, by omega, h2'⟩⟩
        subst e; cases h2'
      · rename_i hc
        by_cases hh : ∃ i : Nat, K0[i]? = some (some (b, true))
        · obtain ⟨i, hi⟩ := hh
          obtain ⟨o, h1, h2, h3⟩ := hhit i b hi
          rcases h3 with h3 | h3
          case inr => exact absurd rfl ((live_of h3).1 hl)
          have hne : o ≠ .dead := fun e => by
            subst e
            exact ((live_of h3).1 hl) rfl
          refine .inl ⟨i, o, h1, hne, ?_, by rw [rw_of h3, mvB_rw], .inr ⟨hi, hx⟩⟩
          rcases hpin i b true hi (hlive i b hi).2 with h | h
          · rw [h] at h1; cases h1; exact absurd rfl hne
          · rw [h, hx]
        · have hm : ∀ i : Nat, K0[i]? ≠ some (some (b, true)) := fun i hi => hh ⟨i, hi⟩
          have e := hmiss b hc hm
          refine .inr ⟨hm, hx, ?_, ?_⟩
          · unfold live? at hl ⊢; rw [e] at hl; exact hl
          · unfold rw?; rw [e]
    have hl0 : live? (ovr (heapOf (Nw ++ [.dead]) (putO K0 O hp)) h) b = true := live_of_rw hr
    rcases kind b x hx hl0 with ⟨c, o, h1, h2, h3, h4, h5⟩ | ⟨k1, k2, k3, k4⟩
    · rw [h4] at hr
      have hrc : rw? hpR.get c = true := by rw [rw_of h1]; exact hr
      rcases kind b' x' hx' hl with ⟨c', o', h1', h2', h3', h4', h5'⟩ | ⟨k1', k2', k3', k4'⟩
      · have := hsim.inj c c' x x' h3 h3' hrc ((live_of h1').2 h2') hxx
        subst this
        rcases h5 with ⟨j, hj1, rfl, _⟩ | ⟨hi, _⟩
        · rcases h5' with ⟨j', hj1', rfl, _⟩ | ⟨hi', _⟩
          · rw [inj _ _ _ hj1 hj1']
          · exact absurd rfl ((live_of (hgone c b' hi' (List.mem_of_getElem? hj1))).1 hl)
        · rcases h5' with ⟨j', hj1', rfl, _⟩ | ⟨hi', _⟩
          · exact absurd rfl ((live_of (hgone c b hi (List.mem_of_getElem? hj1'))).1 hl0)
          · rw [hi] at hi'
            simp only [Option.some.injEq, Prod.mk.injEq] at hi'
            exact hi'.1
      · rcases own c x h3 hrc with q | q
        · have := s.lt k2' k3'; omega
        · rw [hxx] at q
          exact absurd q (hwmiss b' x' k2' k3' k1')
    · rw [k4] at hr
      rcases kind b' x' hx' hl with ⟨c', o', h1', h2', h3', h4', h5'⟩ | ⟨k1', k2', k3', k4'⟩
      · rcases h5' with ⟨j', hj1', rfl, hrw'⟩ | ⟨hi', hm'⟩
        · rcases own c' x' h3' (by rw [rw_of h1']; exact hrw') with q | q
          · have := s.lt k2 k3; omega
          · rw [← hxx] at q
            exact absurd q (hwmiss b x k2 k3 k1)
        · obtain ⟨⟨ob, hob, hne⟩, _⟩ := hlive c' b' hi'
          have := s.inj b b' x x' k2 hm' hr ((live_of (ovr_sub hk h b' ob hob)).2 hne) hxx
          subst this
          exact absurd hi' (k1 c')
      · exact s.inj b b' x x' k2 k2' hr k3' hxx
  · intro b x hx
    rw [hj] at hx
    split at hx
    · split at hx
      · rename_i c hcK
        obtain ⟨o, h1, _, h2, _⟩ := hnew _ c hcK
        rcases own c x hx (by rw [rw_of h1]; exact h2) with q | ⟨i, b2, x2, q1, q2, q3, q4⟩
        · exact .inr (.inl q)
        · exact .inr (.inr ⟨b2, x2, q2, q3, q4⟩)
      · cases hx
    · exact .inl hx
  · intro b o ho hm
    rw [hj]
    split
    · rename_i hc; rw [hnone b hc.1 hc.2] at ho; cases ho
    · exact hm
  · intro b o ho hm
    by_cases hr : hp.sz ≤ b ∧ b ≤ hp.sz + K.length
    · rw [hnone b hr.1 hr.2] at ho; cases ho
    · rw [hmiss b hr fun i hi => ?_]
      · exact ho
      · obtain ⟨_, x, hx⟩ := hlive i b hi
        rw [hm] at hx; cases hx
  · intro b o ho
    by_cases hr : hp.sz ≤ b ∧ b ≤ hp.sz + K.length
    · rw [hnone b hr.1 hr.2] at ho; cases ho
    · by_cases hh : ∃ i : Nat, K0[i]? = some (some (b, true))
      · obtain ⟨i, hi⟩ := hh
        obtain ⟨o', _, _, h3⟩ := hhit i b hi
        rcases h3 with h3 | h3 <;> exact ⟨_, h3⟩
      · exact ⟨o, by rw [hmiss b hr fun i hi => hh ⟨i, hi⟩]; exact ho⟩
  · intro b x hx hr
    obtain ⟨ob, hob, _⟩ := s.dom b x hx
    have hnr : ¬ (hp.sz ≤ b ∧ b ≤ hp.sz + K.length) := fun hc => by rw [hnone b hc.1 hc.2] at hob; cases hob
    by_cases hh : ∃ i : Nat, K0[i]? = some (some (b, true))
    · obtain ⟨i, hi⟩ := hh
      obtain ⟨o, h1, h2, h3⟩ := hhit i b hi
      rcases h3 with h3 | h3
      case inr => rw [rw_of h3] at hr; cases hr
      rw [rw_of h3, mvB_rw] at hr
      obtain ⟨⟨o2, ho2, hne⟩, _⟩ := hlive i b hi
      have hl := (live_of (ovr_sub hk h b o2 ho2)).2 hne
      rcases hpin i b true hi (hlive i b hi).2 with q | q
      · rw [q] at h1; cases h1; cases hr
      · rcases own i x (by rw [q, hx]) (by rw [rw_of h1]; exact hr) with q | ⟨i2, b2, x2, q1, q2, q3, q4⟩
        · have := s.lt hx hl; omega
        · have := s.inj b2 b x2 x q2 hx q3 hl q4
          subst this
          exact q3
    · have e := hmiss b hnr fun i hi => hh ⟨i, hi⟩
      unfold rw? at hr ⊢
      rw [e] at hr; exact hr
theorem mem_goal (hm : P.follows .mixedOrders = true) {f : FuncId} {fn : Func} {c : Code} {g : HeapFn} (hf : P.funcs[f]? = some fn) (hb : fn.body = some c) (hnm : (fn.name == "runtime.NumGoroutine") = false)
    (H : ∀ args hp v hp', g args hp = some (v, hp') → hp.ok → ∃ (K0 : Ks) (O Nw : List Blk), hp' = heapOf (Nw ++ [.dead]) (putO K0 O hp) ∧ nodupO K0 ∧
      (∀ (i b : Nat) (wr : Bool), K0[i]? = some (some (b, wr)) → (∃ o, hp.get b = some o ∧ (wr = true → o ≠ .dead) ∧ startOk o = true) ∧ Rch args hp b) ∧ args.all ok3 = true ∧ args.length ≤ fn.ntmps ∧
      ∀ W X, FRm P fn.ntmps W K0.length X c ⟨tmsOf (args.map (mv3 (sg0 K0))) 0 .leaf, pinHp K0 hp, []⟩ fun e st => (e = .normal ∨ e = .ret) ∧ st.df = [] ∧ ∃ v0 K, retVal P fn st = some v0 ∧ ok3 v0 = true ∧ Nw.length = K.length ∧ nodupN K ∧ KOk K0 O K ∧ EndM K0 K hp.sz O Nw v v0 st.hp.get hp.get) : CallGoal P f g := by
  intro args hp v hp' he hk
  obtain ⟨K0, O, Nw, rfl, hK0, hst, hargs, hn, hrun⟩ := H args hp v hp' he hk
  have hpo : (putO K0 O hp).ok := putO_ok hk fun i b hi => by
    obtain ⟨⟨o, ho, _⟩, _⟩ := hst i b true hi
    exact lt_of_get hk ho
  refine ⟨heapOf_ok _ _ hpo, by rw [heapOf_sz, putO_sz]; omega, fun m h w args' hfr s ra => .inr ⟨run_callFunc hf (by rw [hb]; rfl) hnm, ?_⟩⟩
  obtain ⟨s0, pt, hrw⟩ := pin_sim s hk hK0 (fun i b wr hi => by
    obtain ⟨⟨o, h1, _, h2⟩, _⟩ := hst i b wr hi
    exact ⟨o, h1, h2⟩)
  refine (fn_ofM (S := fun r => ∃ (i b : Nat) (x : Nat × Nat × Nat), K0[i]? = some (some (b, true)) ∧ m b = some x ∧ rw? (ovr hp h) b = true ∧ x.1 = r) (X := canO m K0) (z := K0.length) (R := fun v0 st => ∃ K, ok3 v0 = true ∧ Nw.length = K.length ∧ nodupN K ∧ KOk K0 O K ∧ EndM K0 K hp.sz O Nw v v0 st.hp.get hp.get) hf hb (by simpa using hn) (heapOf_ok _ _ hp0_ok) s0 (fun i _ x hx => hx) (fun i y hy hr => by
      obtain ⟨b, q1, q2, q3⟩ := hrw i y hy hr
      exact ⟨i, b, y, q1, q2, q3, rfl⟩) (pt.threes ra hargs) (FRm.mono (hrun _ _) fun e st q => by
      obtain ⟨q1, q2, v0, K, q3, q4, q5⟩ := q
      exact ⟨q1, q2, v0, q3, K, q4, q5⟩)).mono fun e w' hh => ?_
  obtain ⟨v', v0, st', m', rfl, ⟨K, q4, hNw, hK, hge, q5⟩, rv, hs', hkp, hownl, hown, hpin⟩ := hh
  have hj := join_mem hk s hs' hK0 hK hge (fun i b wr hi => by
      obtain ⟨⟨o, ho, hne, _⟩, hr⟩ := hst i b wr hi
      refine ⟨o, ho, ?_⟩
      by_cases hd : o = .dead
      · cases wr with
        | true => exact absurd hd (hne rfl)
        | false => exact .inl ⟨hd, rfl⟩
      · refine .inr ⟨hd, ?_⟩
        rcases hr.has hk s ra with q | q
        · rw [ovr_sub hk h b o ho] at q; cases q; exact absurd rfl hd
        · exact q) hNw hkp hownl hown hpin (fun b h1 h2 => hfr b h1 (by rw [heapOf_sz, putO_sz]; simp [hNw]; omega)) q5 rv q4
  exact ⟨v', rfl, _, hj.1, hj.2⟩
end
end Go.Proofs.Ytbhmodlpolgklaa.AI
namespace Go.Proofs.Ytbhmodlpolgklaa.AI
open Go Go.Proofs Go.RowKit
variable [Inhabited Prop]
def blksOf (hp : Hp) : List Nat → Option (List Blk)
  | [] => some []
  | b :: bs => match hp.get b, blksOf hp bs with
    | some o, some os => some (o :: os)
    | _, _ => none
omit [Inhabited Prop] in
theorem blksOf_get {hp : Hp} : ∀ {K : List Nat} {O : List Blk}, blksOf hp K = some O → O.length = K.length ∧ ∀ (j c : Nat), K[j]? = some c → ∃ o, hp.get c = some o ∧ O[j]? = some o
  | [], O, h => by cases h; exact ⟨rfl, fun j c hc => by simp at hc⟩
  | b :: bs, O, h => by
    unfold blksOf at h
    split at h
    · rename_i o os h1 h2
      cases h
      obtain ⟨q1, q2⟩ := blksOf_get h2
      refine ⟨by simp [q1], fun j c hc => ?_⟩
      cases j with
      | zero =>
        have : b = c := by simpa using hc
        subst this
        exact ⟨o, h1, rfl⟩
      | succ j => simpa using q2 j c (by simpa using hc)
    · cases h
def leafF (P : Program) (fn : Func) (Q : Value → List Blk → List Nat → List Blk → Prop) (e : Exit) (st : St) (p : Plan) (k : Nat) : Prop :=
  match p with
  | .stop z K _ => match (match e with | .normal => true | .ret => true | _ => false) && st.df.isEmpty, retVal P fn st, blksOf st.hp (List.range z), blksOf st.hp K with
    | true, some v, some O, some Nw => Q v O K Nw
    | _, _, _, _ => False
  | _ => False
def RF (P : Program) (ext : Ext) (fn : Func) (d : Nat) (c : Code) (st : St) (p : Plan) (Q : Value → List Blk → List Nat → List Blk → Prop) : Prop := execT P (aCall P ext d) (callT P ext d) d c st p 0 (leafF P fn Q)
def FinF (P : Program) (fn : Func) (Q : Value → List Blk → List Nat → List Blk → Prop) (e : Exit) (st : St) : Prop :=
  (e = .normal ∨ e = .ret) ∧ st.df = [] ∧ ∃ v z O K Nw, retVal P fn st = some v ∧ blksOf st.hp (List.range z) = some O ∧ blksOf st.hp K = some Nw ∧ Q v O K Nw
section
variable {P : Program} {N z : Nat} {W : Base} {X : Pins}
omit [Inhabited Prop] in
theorem leafF_ok {fn : Func} {Q : Value → List Blk → List Nat → List Blk → Prop} {e : Exit} {st : St} {p : Plan} {k : Nat} (h : leafF P fn Q e st p k) : FinF P fn Q e st := by
  unfold leafF at h
  split at h
  · rename_i z K _
    split at h
    · rename_i v O Nw h1 h2 h3 h4
      obtain ⟨h1, h5⟩ := Bool.and_eq_true_iff.1 h1
      refine ⟨?_, List.isEmpty_iff.1 h5, v, z, O, K, Nw, h2, h3, h4, h⟩
      cases e <;> first | exact .inl rfl | exact .inr rfl | cases h1
    · exact h.elim
  · exact h.elim
theorem FRm.pieceF {ext : Ext} (hx : ExtOk P ext) (hm : P.follows .mixedOrders = true) {fn : Func} {d : Nat} {c : Code} {st : St} {p : Plan} {Q : Value → List Blk → List Nat → List Blk → Prop} (hs : codeSafe P N c = true) {Y : Prop} (e : Y = RF P ext fn d c st p Q) (h : Y) : FRm P N W z X c st (FinF P fn Q) := by
  rw [e] at h
  obtain ⟨e, st', p', k', q1, q2⟩ := execT_ok (callT_ok ext d) h
  exact FRm.run (aCall_sound hx hm d) hm q1 hs (leafF_ok q2)
theorem FRwp.pieceF {ext : Ext} (hx : ExtOk P ext) (hm : P.follows .mixedOrders = true) {fn : Func} {d : Nat} {c : Code} {st : St} {p : Plan} {Q : Value → List Blk → List Nat → List Blk → Prop} (hs : codeSafe P N c = true) {Y : Prop} (e : Y = RF P ext fn d c st p Q) (h : Y) : FRwp P N W c st (FinF P fn Q) :=
  FRm.to0 fun X => FRm.pieceF hx hm hs e h
end
def placed (Nw : List Blk) (K : List Nat) : List (Option Nat) → Option (List Blk × Kw)
  | [] => some ([], [])
  | none :: r => (placed Nw K r).map fun q => (.dead :: q.1, none :: q.2)
  | some i :: r => match Nw[i]?, K[i]?, placed Nw K r with
    | some o, some c, some q => some (o :: q.1, some c :: q.2)
    | _, _, _ => none
omit [Inhabited Prop] in
theorem placed_get {Nw : List Blk} {K : List Nat} {get : Nat → Option Blk} (hg : ∀ (j c : Nat), K[j]? = some c → ∃ o, get c = some o ∧ Nw[j]? = some o) : ∀ {r : List (Option Nat)} {q : List Blk × Kw}, placed Nw K r = some q → q.1.length = q.2.length ∧ r.length = q.2.length ∧
    ∀ (j c : Nat), q.2[j]? = some (some c) → ∃ i o, r[j]? = some (some i) ∧ K[i]? = some c ∧ get c = some o ∧ q.1[j]? = some o ∧ o ∈ Nw
  | [], q, h => by cases h; exact ⟨rfl, rfl, fun j c hc => by simp at hc⟩
  | none :: r, q, h => by
    obtain ⟨q', h1, rfl⟩ := Option.map_eq_some_iff.1 h
    obtain ⟨k1, k2, k3⟩ := placed_get hg h1
    refine ⟨by simp [k1], by simp [k2], fun j c hc => ?_⟩
    cases j with
    | zero => simp at hc
    | succ j =>
      obtain ⟨i, o, p⟩ := k3 j c (by simpa using hc)
      exact ⟨i, o, by simpa using p⟩
  | some i :: r, q, h => by
    unfold placed at h
    split at h
    · rename_i o c q' h1 h2 h3
      cases h
      obtain ⟨k1, k2, k3⟩ := placed_get hg h3
      refine ⟨by simp [k1], by simp [k2], fun j c' hc => ?_⟩
      cases j with
      | zero =>
        have e : c = c' := by simpa using hc
        subst e
        obtain ⟨o', p1, p2⟩ := hg i c h2
        rw [h1] at p2; cases p2
        exact ⟨i, o, by simp, h2, p1, by simp, List.mem_of_getElem? h1⟩
      | succ j =>
        obtain ⟨i, o, p⟩ := k3 j c' (by simpa using hc)
        exact ⟨i, o, by simpa using p⟩
    · cases h
def nodupP : List (Option Nat) → Bool
  | [] => true
  | none :: r => nodupP r
  | some i :: r => (r.all fun x => match x with | some j => !Nat.beq i j | none => true) && nodupP r
omit [Inhabited Prop] in
theorem nodupP_ok : ∀ {r : List (Option Nat)}, nodupP r = true → nodupN r
  | [], _ => fun i j c h => by simp at h
  | none :: r, h => fun i j c h1 h2 => by
    cases i with
    | zero => simp at h1
    | succ i => cases j with
      | zero => simp at h2
      | succ j => rw [nodupP_ok (r := r) h i j c (by simpa using h1) (by simpa using h2)]
  | some a :: r, h => fun i j c h1 h2 => by
    unfold nodupP at h
    obtain ⟨q1, q2⟩ := Bool.and_eq_true_iff.1 h
    have ne : ∀ k, r[k]? = some (some a) → False := fun k hk => by
      have := List.all_eq_true.1 q1 _ (List.mem_of_getElem? hk)
      simp [Nat.beq_refl] at this
    cases i with
    | zero =>
      cases j with
      | zero => rfl
      | succ j =>
        have e : a = c := by simpa using h1
        subst e
        exact (ne j (by simpa using h2)).elim
    | succ i => cases j with
      | zero =>
        have e : a = c := by simpa using h2
        subst e
        exact (ne i (by simpa using h1)).elim
      | succ j => rw [nodupP_ok q2 i j c (by simpa using h1) (by simpa using h2)]
structure EndQ (K0 : Ks) (B : Nat) (O' Nw' : List Blk) (v' : Value) (g : HG) (v : Value) (O : List Blk) (K : List Nat) (Nw : List Blk) : Prop where
  okv : ok3 v = true
  oko : O.all okBlk = true
  okn : (Nw.all fun o => okBlk o && rwB o) = true
  nd : (nodupB K && K.all fun c => Nat.ble K0.length c) = true
  len : O.length = K0.length
  plc : ∃ r Nq Kq, nodupP r = true ∧ placed Nw K r = some (Nq, Kq) ∧ v' = mv3 (sgE K0 Kq B) v ∧ (∀ (i b : Nat), K0[i]? = some (some (b, true)) → O'[i]? = (O[i]?).map (mvB (sgE K0 Kq B))) ∧ Nw' = Nq.map (mvB (sgE K0 Kq B))
  ro : ∀ (i b : Nat), K0[i]? = some (some (b, false)) → O[i]? = some .dead → g b = some .dead
omit [Inhabited Prop] in
theorem EndQ.fin {P : Program} {fn : Func} {K0 : Ks} {B : Nat} {O Nw : List Blk} {v : Value} {g : HG} {e : Exit} {st : St} (h : FinF P fn (EndQ K0 B O Nw v g) e st) :
    (e = .normal ∨ e = .ret) ∧ st.df = [] ∧ ∃ v0 K, retVal P fn st = some v0 ∧ ok3 v0 = true ∧ Nw.length = K.length ∧ nodupN K ∧ KOk K0 O K ∧ EndM K0 K B O Nw v v0 st.hp.get g := by
  obtain ⟨h1, h2, v0, z, O0, K, N0, h3, h4, h5, q⟩ := h
  obtain ⟨l1, g1⟩ := blksOf_get h4
  obtain ⟨l2, g2⟩ := blksOf_get h5
  obtain ⟨n1, n2⟩ := Bool.and_eq_true_iff.1 q.nd
  obtain ⟨r, Nq, Kq, r1, r2, r3, r4, rfl⟩ := q.plc
  obtain ⟨p1, p2, p3⟩ := placed_get g2 r2
  simp only at p1 p2 p3
  have hz : z = K0.length := by have := q.len; simp at l1; omega
  subst hz
  refine ⟨h1, h2, v0, Kq, h3, q.okv, by simp [p1], fun i j c hi hj => ?_, fun c hc => ?_, ⟨r3, fun i b hi => ?_, fun i b hi hdd => ?_, fun j c hc => ?_⟩⟩
  · obtain ⟨a, oa, a1, a2, _⟩ := p3 i c hi
    obtain ⟨b, ob, b1, b2, _⟩ := p3 j c hj
    have := nodup_inj n1 a2 b2
    subst this
    exact nodupP_ok r1 i j a a1 b1
  · obtain ⟨j, hj⟩ := List.getElem?_of_mem hc
    obtain ⟨i, o, _, a2, _⟩ := p3 j c hj
    have := List.all_eq_true.1 n2 c (List.mem_of_getElem? a2)
    exact .inl (by simpa [Nat.ble_eq] using this)
  · have hlt : i < K0.length := (List.getElem?_eq_some_iff.1 hi).1
    obtain ⟨o, p1, p2⟩ := g1 i i (by simp [hlt])
    exact ⟨o, p1, List.all_eq_true.1 q.oko o (List.mem_of_getElem? p2), .inl (by rw [r4 i b hi, p2]; rfl)⟩
  · have hlt : i < K0.length := (List.getElem?_eq_some_iff.1 hi).1
    obtain ⟨o, p1, p2⟩ := g1 i i (by simp [hlt])
    refine q.ro i b hi ?_
    rw [p1] at hdd
    rw [p2]; exact hdd
  · obtain ⟨i, o, _, _, a3, a4, a5⟩ := p3 j c hc
    have := List.all_eq_true.1 q.okn o a5
    obtain ⟨r1, r2⟩ := Bool.and_eq_true_iff.1 this
    exact ⟨o, a3, r1, r2, by rw [List.getElem?_map, a4]; rfl⟩
end Go.Proofs.Ytbhmodlpolgklaa.AI
namespace Go.Proofs.Ytbhmodlpolgklaa.AI
open Go Go.Proofs Go.RowKit
variable [Inhabited Prop]
def opq (M i : Nat) : Bool := Nat.beq (Nat.land (Nat.shiftRight M i) 1) 1
def blkM (M : Nat) (hp : Hp) (K : List Nat) : Nat → List Nat → List Blk
  | _, [] => []
  | i, b :: bs => (match opq M i with | true => (hp.get b).getD .dead | false => renBlk K ((hp.get b).getD .dead)) :: blkM M hp K (i + 1) bs
def nicM (M : Nat) (hp : Hp) : Nat → List Nat → Bool
  | _, [] => true
  | i, b :: bs => (match opq M i with | true => true | false => niceBlk ((hp.get b).getD .dead)) && nicM M hp (i + 1) bs
def lookM (M : Nat) (K : List Nat) (Ts : List Nat) (r : Exit × St) : Exit × List Blk × List (Nat × Value) × Bool :=
  (r.1, blkM M r.2.hp K 0 K, Ts.map fun t => (t, ren2 K (r.2.tget t)),
    (K.all fun b => match r.2.hp.get b with | some _ => true | none => false) && nicM M r.2.hp 0 K && (Ts.all fun t => nice2 (r.2.tget t)) && r.2.df.isEmpty)
def FixM (M : Nat) (O : List Blk) : Prop := ∀ i, opq M i = true → ∀ o, O[i]? = some o → Fixed 0 o
omit [Inhabited Prop] in
theorem blkM_len {M : Nat} {hp : Hp} {K : List Nat} : ∀ {i : Nat} {bs : List Nat}, (blkM M hp K i bs).length = bs.length
  | _, [] => rfl
  | i, b :: bs => by rw [blkM, List.length_cons, blkM_len, List.length_cons]
omit [Inhabited Prop] in
theorem blkM_get {M : Nat} {hp : Hp} {K : List Nat} : ∀ {i : Nat} {bs : List Nat} {j b : Nat}, bs[j]? = some b → (blkM M hp K i bs)[j]? = some (match opq M (i + j) with | true => (hp.get b).getD .dead | false => renBlk K ((hp.get b).getD .dead))
  | _, [], j, b, h => by simp at h
  | i, c :: bs, 0, b, h => by
    simp at h; subst h; rfl
  | i, c :: bs, j + 1, b, h => by
    rw [blkM, List.getElem?_cons_succ, blkM_get (j := j) (by simpa using h), show i + 1 + j = i + (j + 1) by omega]
omit [Inhabited Prop] in
theorem nicM_get {M : Nat} {hp : Hp} : ∀ {i : Nat} {bs : List Nat} {j b : Nat}, nicM M hp i bs = true → bs[j]? = some b → opq M (i + j) = false → niceBlk ((hp.get b).getD .dead) = true
  | _, [], j, b, _, h, _ => by simp at h
  | i, c :: bs, 0, b, hn, h, ho => by
    simp at h; subst h
    rw [nicM] at hn
    have := (Bool.and_eq_true_iff.1 hn).1
    rw [Nat.add_zero] at ho
    rw [ho] at this; exact this
  | i, c :: bs, j + 1, b, hn, h, ho => by
    rw [nicM] at hn
    exact nicM_get (i := i + 1) (j := j) (Bool.and_eq_true_iff.1 hn).2 (by simpa using h) (by rw [show i + 1 + j = i + (j + 1) by omega]; exact ho)
section
variable {P : Program} {N z : Nat} {W : Base} {X : Pins}
theorem FM.canonM {st' : St} {a' : Act} {w' : World} {m' : BM} (f' : FM N W z X st' a' w' m') {e e' : Exit} (M : Nat) (K Ts : List Nat) (O : List Blk) (L : List (Nat × Value))
    (h2 : lookM M K Ts (e', st') = (e, O, L, true)) (hK : nodupB K = true) (hT : Ts.all (fun t => Nat.blt t N) = true)
    (hO : FixM M O) (h0 : ∀ i, i < z → K[i]? = some i) : e' = e ∧ ∃ g m2, FM N W z X (stOf N g L O) a' w' m2 := by
  simp only [lookM, Prod.mk.injEq] at h2
  obtain ⟨rfl, rfl, rfl, h5⟩ := h2
  obtain ⟨h5, h7⟩ := Bool.and_eq_true_iff.1 h5
  obtain ⟨h5, h6⟩ := Bool.and_eq_true_iff.1 h5
  obtain ⟨h3, h4⟩ := Bool.and_eq_true_iff.1 h5
  have hpin := f'.pin
  have hlen : (blkM M st'.hp K 0 K).length = K.length := blkM_len
  have hget : ∀ (i b : Nat), K[i]? = some b → ∃ o, st'.hp.get b = some o := fun i b hi => by
    have := List.all_eq_true.1 h3 b (List.mem_of_getElem? hi)
    cases hg : st'.hp.get b with
    | none => rw [hg] at this; cases this
    | some o => exact ⟨o, rfl⟩
  have hB : ∀ (i b : Nat) (o2 : Blk), K[i]? = some b → (blkM M st'.hp K 0 K)[i]? = some o2 → ∃ o, st'.hp.get b = some o ∧ o2 = renBlk K o ∧ niceBlk o = true := fun i b o2 hi ho => by
    obtain ⟨o, hg⟩ := hget i b hi
    refine ⟨o, hg, ?_⟩
    have e1 := blkM_get (M := M) (hp := st'.hp) (K := K) (i := 0) hi
    rw [Nat.zero_add, hg, Option.getD_some] at e1
    cases hq : opq M i with
    | true =>
      rw [hq] at e1
      rw [e1] at ho
      have e3 : o = o2 := by simpa using ho
      subst e3
      obtain ⟨k1, k2⟩ := hO i hq o e1
      exact ⟨(k2 K (fun i hi => absurd hi (Nat.not_lt_zero _))).symm, k1⟩
    | false =>
      rw [hq] at e1
      rw [e1] at ho
      have e3 : renBlk K o = o2 := by simpa using ho
      refine ⟨e3.symm, ?_⟩
      have := nicM_get (i := 0) h4 hi (by rw [Nat.zero_add]; exact hq)
      rw [hg] at this; exact this
  obtain ⟨g, f2⟩ := f'.fr.canon3 K (blkM M st'.hp K 0 K) (Ts.map fun t => (t, ren2 K (st'.tget t))) (nodupB_ok hK) hlen hB (fun x hx => by
      obtain ⟨t, ht, rfl⟩ := List.mem_map.1 hx
      exact ⟨by have := List.all_eq_true.1 hT t ht; simpa [Nat.blt_eq] using this, List.all_eq_true.1 h6 t ht, rfl⟩) (List.isEmpty_iff.1 h7)
  refine ⟨rfl, _, _, ⟨f2, fun i hi x hx => ?_⟩⟩
  have hKi := h0 i hi
  have hlt : i < K.length := (List.getElem?_eq_some_iff.1 hKi).1
  rcases hpin i hi x hx with hd | hd
  · refine .inl ?_
    obtain ⟨o2, ho2⟩ : ∃ o2, (blkM M st'.hp K 0 K)[i]? = some o2 := ⟨_, List.getElem?_eq_getElem (by omega)⟩
    obtain ⟨o, q1, q2, _⟩ := hB i i o2 hKi ho2
    rw [hd] at q1; cases q1
    show (heapOf _ hp0).get i = _
    rw [heapOf0_get, List.getElem?_append_left (by omega), ho2, q2]
    rfl
  · refine .inr ?_
    simp only [canM_at]
    rw [hKi]
    exact hd
def leafM (N z : Nat) (Q : Exit → St → Prop) (e : Exit) (st : St) (p : Plan) (k : Nat) : Prop :=
  match p with
  | .stop n K Ts => match nodupB K && pinK z K && Ts.all (fun t => Nat.blt t N), lookM n K Ts (e, st) with
    | true, (e', O, L, true) => FixM n O ∧ ∀ g, Q e' (stOf N g L O)
    | _, _ => False
  | _ => False
def RM (P : Program) (ext : Ext) (N z d : Nat) (c : Code) (st : St) (p : Plan) (Q : Exit → St → Prop) : Prop := execT P (aCall P ext d) (callT P ext d) d c st p 0 (leafM N z Q)
theorem FRm.leafM {c : Code} {st : St} {Q : Exit → St → Prop} (h : FRm P N W z X c st fun e st' => ∃ p k, AI.leafM N z Q e st' p k) : FRm P N W z X c st Q := fun a w m f =>
  wp_mono (h a w m f) fun e a' w' hh => by
    obtain ⟨st', m', f', p, k, q⟩ := hh
    unfold AI.leafM at q
    split at q
    · rename_i n K Ts
      split at q
      · rename_i e' O L hk hl
        obtain ⟨h1, h2⟩ := Bool.and_eq_true_iff.1 hk
        obtain ⟨h0, h1⟩ := Bool.and_eq_true_iff.1 h1
        obtain ⟨rfl, g, m2, f2⟩ := f'.canonM n K Ts O L hl h0 h2 q.1 (fun i hi => pinK_ok h1 hi)
        exact ⟨_, m2, f2, q.2 g⟩
      · exact q.elim
    · exact q.elim
theorem FRm.pieceM {ext : Ext} (hx : ExtOk P ext) (hm : P.follows .mixedOrders = true) {d : Nat} {c : Code} {st : St} {p : Plan} {Q : Exit → St → Prop} (hs : codeSafe P N c = true) {Y : Prop} (e : Y = RM P ext N z d c st p Q) (h : Y) : FRm P N W z X c st Q := by
  rw [e] at h
  obtain ⟨e, st', p', k', q1, q2⟩ := execT_ok (callT_ok ext d) h
  exact FRm.leafM (FRm.run (aCall_sound hx hm d) hm q1 hs ⟨p', k', q2⟩)
end
def LQ {α : Type} (post : α → (Nat → Value) → Exit × St) (ok : α → Prop) (e : Exit) (st : St) : Prop := ∃ a g, ok a ∧ e = (post a g).1 ∧ st = (post a g).2
def LQ2 {α β : Type} (post : α → (Nat → Value) → Exit × St) (ok : α → Prop) (post2 : β → (Nat → Value) → Exit × St) (ok2 : β → Prop) (e : Exit) (st : St) : Prop := LQ post ok e st ∨ LQ post2 ok2 e st
def loopT (P : Program) (N : Nat) (W : Base) (z : Nat) (X : Pins) (n : Nat) (K Ts : List Nat) (c : Code) (st : St) (Q : Exit → St → Prop) (Y : Prop) : Prop :=
  match Nat.blt n 1000 with
  | true => match nodupB K && pinK z K && Ts.all (fun t => Nat.blt t N), look2 n K Ts (.normal, st) with
    | true, (_, O, L, true) => match n with
      | 0 => (∀ g, FRm P N W z X c (stOf N g L O) Q) ∧ Y
      | n => FixO n O ∧ (∀ g, FRm P N W z X c (stOf N g L O) Q) ∧ Y
    | _, _ => False
  | false => match nodupB K && pinK z K && Ts.all (fun t => Nat.blt t N), lookM (n - 1000) K Ts (.normal, st) with
    | true, (_, O, L, true) => FixM (n - 1000) O ∧ (∀ g, FRm P N W z X c (stOf N g L O) Q) ∧ Y
    | _, _ => False
def regT (P : Program) (call : CallF) (cn : CallT) (ops : Array Oper) (draw : Bool) (st : St) (p : Plan) (k : Nat) (K : Exit → St → Plan → Nat → Prop) : Prop :=
  match draw with
  | false => runOpsT P call cn ops ops.toList st p k fun st' p' k' => K .normal st' p' k'
  | true => match floats P ops with
    | [] => runOpsT P call cn ops ops.toList st p k fun st' p' k' => K .normal st' p' k'
    | f :: fs => runLogT P call cn ops ops.toList 0 st p k fun st' l p' k' => match pairsQ l (f :: fs) with
      | some q => metK q (K .normal st' p' k')
      | none => False
def execW (P : Program) (call : CallF) (cn : CallT) (N : Nat) (W : Base) (z : Nat) (X : Pins) : Nat → Code → St → Plan → Nat → (Exit → St → Plan → Nat → Prop) → Prop
  | 0, _, _, _, _, _ => False
  | n + 1, c, st, p, k, K => match c with
    | .skip | .label _ => K .normal st p k
    | .region id ops draw => match p with
      | .l j a b c α post ok x => match Nat.beq j (k + 1000000) with
        | true => loopT P N W z X a b c (.region id ops draw) st (LQ post ok) (∀ u g, ok u → K (post u g).1 (post u g).2 x k)
        | false => regT P call cn ops draw st (.l j a b c α post ok x) k K
      | p => regT P call cn ops draw st p k K
    | .seq x y => execW P call cn N W z X n x st p k fun e st' p' k' => match e with
      | .normal => execW P call cn N W z X n y st' p' k' K
      | e => K e st' p' k'
    | .cond x t f => match st.eval x with
      | .bool true => execW P call cn N W z X n t st p k K
      | .bool false => execW P call cn N W z X n f st p k K
      | _ => False
    | .block id body => execW P call cn N W z X n body st p k fun e st' p' k' => match e with
      | .exit i => match Nat.beq i id with
        | true => K .normal st' p' k'
        | false => K (.exit i) st' p' k'
      | e => K e st' p' k'
    | .loop body => match p with
      | .l j a b c α post ok x => match Nat.beq j k with
        | true => loopT P N W z X a b c (.loop body) st (LQ post ok) (∀ u g, ok u → K (post u g).1 (post u g).2 x k)
        | false => execT P call cn (n + 1) (.loop body) st p k K
      | .m j a b c α post ok x β post2 ok2 y => match Nat.beq j k with
        | true => loopT P N W z X a b c (.loop body) st (LQ2 post ok post2 ok2) ((∀ u g, ok u → K (post u g).1 (post u g).2 x k) ∧ (∀ u g, ok2 u → K (post2 u g).1 (post2 u g).2 y k))
        | false => execT P call cn (n + 1) (.loop body) st p k K
      | p => execT P call cn (n + 1) (.loop body) st p k K
    | .scope body => execW P call cn N W z X n body st p k fun e st' p' k' => match e with
      | .goto _ => False
      | e => K e st' p' k'
    | .exit id => K (.exit id) st p k
    | .ret => K .ret st p k
    | _ => False
section
variable {P : Program} {N z : Nat} {W : Base} {X : Pins}
theorem loopT_ok {n : Nat} {K Ts : List Nat} {c : Code} {st : St} {Q : Exit → St → Prop} {Y : Prop} (h : loopT P N W z X n K Ts c st Q Y) : FRm P N W z X c st Q ∧ Y := by
  unfold loopT at h
  split at h
  · split at h
    · rename_i e O L hk hl
      obtain ⟨h1, h2⟩ := Bool.and_eq_true_iff.1 hk
      obtain ⟨h0, h1⟩ := Bool.and_eq_true_iff.1 h1
      have key : FixO n O → (∀ g, FRm P N W z X c (stOf N g L O) Q) → FRm P N W z X c st Q := fun hf hq a w m f => by
        obtain ⟨-, g, m2, f2⟩ := f.canon n K Ts O L hl h0 h2 hf (fun i hi => pinK_ok h1 hi)
        exact hq g a w m2 f2
      split at h
      · exact ⟨key (fun i hi => by omega) h.1, h.2⟩
      · exact ⟨key h.1 h.2.1, h.2.2⟩
    · exact h.elim
  · split at h
    · rename_i e O L hk hl
      obtain ⟨h1, h2⟩ := Bool.and_eq_true_iff.1 hk
      obtain ⟨h0, h1⟩ := Bool.and_eq_true_iff.1 h1
      refine ⟨fun a w m f => ?_, h.2.2⟩
      obtain ⟨-, g, m2, f2⟩ := f.canonM _ K Ts O L hl h0 h2 h.1 (fun i hi => pinK_ok h1 hi)
      exact h.2.1 g a w m2 f2
    · exact h.elim
theorem FRm.cond_true {y : Operand} {c d : Code} {st : St} {Q : Exit → St → Prop} (hx : okConst y = true) (hv : st.eval y = .bool true) (h : FRm P N W z X c st Q) : FRm P N W z X (.cond y c d) st Q := fun a w m f => by
  refine wp_cond_true ?_ (h a w m f)
  have := f.fr.rel.tm.eval hx
  rw [hv] at this
  exact this.of_bool
theorem FRm.cond_false {y : Operand} {c d : Code} {st : St} {Q : Exit → St → Prop} (hx : okConst y = true) (hv : st.eval y = .bool false) (h : FRm P N W z X d st Q) : FRm P N W z X (.cond y c d) st Q := fun a w m f => by
  refine wp_cond_false ?_ (h a w m f)
  have := f.fr.rel.tm.eval hx
  rw [hv] at this
  exact this.of_bool
theorem FRm.scope {c : Code} {st : St} {Q : Exit → St → Prop} (h : FRm P N W z X c st fun e st' => (∀ l, e ≠ .goto l) ∧ Q e st') : FRm P N W z X (.scope c) st Q := fun a w m f => by
  refine wp_scope_straight (wp_mono (h a w m f) fun e a' w' hh => ?_)
  obtain ⟨st', m', f', q1, q⟩ := hh
  cases e with
  | goto l => exact absurd rfl (q1 l)
  | _ => exact ⟨st', m', f', q⟩
theorem execW_ok {call : CallF} {cn : CallT} (hc : CallOk P call) (hm : P.follows .mixedOrders = true) (hcn : CtOk call cn) : ∀ {n : Nat} {c : Code} {st : St} {p : Plan} {k : Nat} {K : Exit → St → Plan → Nat → Prop}, codeSafe P N c = true → execW P call cn N W z X n c st p k K →
    FRm P N W z X c st fun e st' => ∃ p' k', K e st' p' k'
  | 0, c, st, p, k, K, hs, he => he.elim
  | n + 1, c, st, p, k, K, hs, he => by
    cases c with
    | skip => exact FRm.run hc hm (n := 1) (st' := st) (e := .normal) rfl hs ⟨_, _, he⟩
    | label l => exact FRm.run hc hm (n := 1) (st' := st) (e := .normal) rfl hs ⟨_, _, he⟩
    | exit i => exact FRm.run hc hm (n := 1) (st' := st) (e := .exit i) rfl hs ⟨_, _, he⟩
    | ret => exact FRm.run hc hm (n := 1) (st' := st) (e := .ret) rfl hs ⟨_, _, he⟩
    | region id ops draw =>
      have plain : ∀ {p : Plan}, regT P call cn ops draw st p k K → FRm P N W z X (.region id ops draw) st fun e st' => ∃ p' k', K e st' p' k' := fun {p} he => by
        obtain ⟨e, st', p', k', q1, q2⟩ := execT_ok (n := 1) (c := .region id ops draw) (p := p) (K := K) hcn (by simp only [execT]; unfold regT at he; exact he)
        exact FRm.run hc hm q1 hs ⟨_, _, q2⟩
      simp only [execW] at he
      split at he
      · split at he
        · obtain ⟨q1, q2⟩ := loopT_ok he
          refine FRm.mono q1 fun e st' q => ?_
          obtain ⟨u, g, h1, rfl, rfl⟩ := q
          exact ⟨_, _, q2 u g h1⟩
        · exact plain he
      · exact plain he
    | seq x y =>
      simp only [execW] at he
      simp only [codeSafe, Bool.and_eq_true] at hs
      refine FRm.seq (execW_ok hc hm hcn hs.1 he) (fun st' h => ?_) (fun e st' hne h => ?_)
      · obtain ⟨p', k', q⟩ := h
        exact execW_ok hc hm hcn hs.2 q
      · obtain ⟨p', k', q⟩ := h
        cases e with
        | normal => exact absurd rfl hne
        | _ => exact ⟨p', k', q⟩
    | cond x t f =>
      simp only [execW] at he
      simp only [codeSafe, Bool.and_eq_true] at hs
      split at he
      · rename_i hx; exact FRm.cond_true hs.1.1 hx (execW_ok hc hm hcn hs.1.2 he)
      · rename_i hx; exact FRm.cond_false hs.1.1 hx (execW_ok hc hm hcn hs.2 he)
      · exact he.elim
    | block id b =>
      simp only [execW] at he
      refine FRm.block (FRm.mono (execW_ok hc hm hcn hs he) fun e st' h => ?_)
      obtain ⟨p', k', q⟩ := h
      cases e with
      | exit i =>
        simp only at q ⊢
        split at q
        · rename_i hi
          rw [if_pos (Nat.eq_of_beq_eq_true hi)]
          exact ⟨p', k', q⟩
        · rename_i hi
          rw [if_neg (fun e => by subst e; rw [Nat.beq_refl] at hi; cases hi)]
          exact ⟨p', k', q⟩
      | _ => exact ⟨p', k', q⟩
    | loop b =>
      have plain : execT P call cn (n + 1) (.loop b) st p k K → FRm P N W z X (.loop b) st fun e st' => ∃ p' k', K e st' p' k' := fun he => by
        obtain ⟨e, st', p', k', q1, q2⟩ := execT_ok hcn he
        exact FRm.run hc hm q1 hs ⟨_, _, q2⟩
      simp only [execW] at he
      split at he
      · split at he
        · obtain ⟨q1, q2⟩ := loopT_ok he
          refine FRm.mono q1 fun e st' q => ?_
          obtain ⟨u, g, h1, rfl, rfl⟩ := q
          exact ⟨_, _, q2 u g h1⟩
        · exact plain he
      · split at he
        · obtain ⟨q1, q2⟩ := loopT_ok he
          refine FRm.mono q1 fun e st' q => ?_
          rcases q with ⟨u, g, h1, rfl, rfl⟩ | ⟨u, g, h1, rfl, rfl⟩
          · exact ⟨_, _, q2.1 u g h1⟩
          · exact ⟨_, _, q2.2 u g h1⟩
        · exact plain he
      · exact plain he
    | scope b =>
      simp only [execW] at he
      refine FRm.scope (FRm.mono (execW_ok (c := b) hc hm hcn hs he) fun e st' h => ?_)
      obtain ⟨p', k', q⟩ := h
      cases e with
      | goto l => exact q.elim
      | _ => exact ⟨fun l h => Exit.noConfusion h, p', k', q⟩
    | _ => exact he.elim
def WF (P : Program) (ext : Ext) (fn : Func) (N : Nat) (W : Base) (z : Nat) (X : Pins) (d : Nat) (c : Code) (st : St) (p : Plan) (Q : Value → List Blk → List Nat → List Blk → Prop) : Prop := execW P (aCall P ext d) (callT P ext d) N W z X d c st p 0 (leafF P fn Q)
theorem FRm.pieceWF {ext : Ext} (hx : ExtOk P ext) (hm : P.follows .mixedOrders = true) {fn : Func} {d : Nat} {c : Code} {st : St} {p : Plan} {Q : Value → List Blk → List Nat → List Blk → Prop} (hs : codeSafe P N c = true) {Y : Prop} (e : Y = WF P ext fn N W z X d c st p Q) (h : Y) : FRm P N W z X c st (FinF P fn Q) := by
  rw [e] at h
  exact FRm.mono (execW_ok (aCall_sound hx hm d) hm (callT_ok ext d) hs h) fun e st' ⟨p', k', q⟩ => leafF_ok q
theorem FRm.count {c : Code} {Q : Exit → St → Prop} (n : Nat) (S : Nat → (Nat → Value) → St) (step : ∀ i, i < n → ∀ g, FRm P N W z X c (S i g) fun e st' => (e = .normal ∧ ∃ g', st' = S (i + 1) g') ∨ (e ≠ .normal ∧ Q e st'))
    (last : ∀ g, FRm P N W z X c (S n g) fun e st' => e ≠ .normal ∧ Q e st') (g : Nat → Value) : FRm P N W z X (.loop c) (S 0 g) Q := by
  refine FRm.loop (fun k st => ∃ i g, k + i = n ∧ st = S i g) (fun k st => ?_) (k := n) ⟨0, g, by omega, rfl⟩
  rintro ⟨i, g, hk, rfl⟩
  rcases Nat.lt_or_ge i n with hi | hi
  · refine FRm.mono (step i hi g) fun e st' q => ?_
    rcases q with ⟨rfl, g', rfl⟩ | q
    · exact .inl ⟨rfl, k - 1, by omega, i + 1, g', by omega, rfl⟩
    · exact .inr q
  · obtain rfl : i = n := by omega
    exact FRm.mono (last g) fun e st' q => .inr q
end
end Go.Proofs.Ytbhmodlpolgklaa.AI
namespace Go.Proofs.Ytbhmodlpolgklaa.AI
open Go Go.Proofs Go.RowKit
variable [Inhabited Prop]
def pL : Code → Code
  | .seq a _ => a
  | c => c
def pR : Code → Code
  | .seq _ b => b
  | c => c
def pB : Code → Code
  | .block _ b => b
  | c => c
def pU : Code → Code
  | .loop b => b
  | c => c
section
variable {P : Program} {N z : Nat} {W : Base} {X : Pins}
theorem FRm.fold {b : Code} {α β : Type} {vs : List β} (F : α → β → α) (a0 : α) (I : α → Nat → (Nat → Value) → St) {Q : Exit → St → Prop}
    (last : ∀ a g, vs.foldl F a0 = a → FRm P N W z X b (I a vs.length g) (fun e st => e ≠ .normal ∧ Q e st))
    (step : ∀ i x a g, vs[i]? = some x → i < vs.length → (vs.take i).foldl F a0 = a → FRm P N W z X b (I a i g) (fun e st => (e = .normal ∧ ∃ g', st = I (F a x) (i + 1) g') ∨ (e ≠ .normal ∧ Q e st)))
    (g : Nat → Value) : FRm P N W z X (.loop b) (I a0 0 g) Q := by
  have := FRm.count (P := P) (N := N) (W := W) (z := z) (X := X) (c := b) (Q := Q) vs.length (fun i g => I ((vs.take i).foldl F a0) i g) (fun i hi g => ?_) (fun g => ?_) g
  · simpa using this
  · have hx : vs[i]? = some vs[i] := List.getElem?_eq_getElem hi
    have e : (vs.take (i + 1)).foldl F a0 = F ((vs.take i).foldl F a0) vs[i] := by
      rw [List.take_add_one, hx, List.foldl_append]; rfl
    simp only [e]
    exact step i vs[i] _ g hx hi rfl
  · have := last _ g rfl
    simpa using this
theorem FRm.find {b : Code} {β : Type} {vs : List β} (p : β → Bool) (S : Nat → (Nat → Value) → St) {Q : Exit → St → Prop}
    (last : ∀ g, vs.any p = false → FRm P N W z X b (S vs.length g) (fun e st => e ≠ .normal ∧ Q e st))
    (hit : ∀ i x g, vs[i]? = some x → i < vs.length → p x = true → vs.any p = true → FRm P N W z X b (S i g) (fun e st => e ≠ .normal ∧ Q e st))
    (step : ∀ i x g, vs[i]? = some x → i < vs.length → p x = false → FRm P N W z X b (S i g) (fun e st => e = .normal ∧ ∃ g', st = S (i + 1) g'))
    (g : Nat → Value) : FRm P N W z X (.loop b) (S 0 g) Q := by
  refine FRm.loop (fun k st => ∃ i g, k + i = vs.length ∧ (∀ x ∈ vs.take i, p x = false) ∧ st = S i g) (fun k st => ?_) (k := vs.length) ⟨0, g, by omega, by simp, rfl⟩
  rintro ⟨i, g, hk, hno, rfl⟩
  rcases Nat.lt_or_ge i vs.length with hi | hi
  · have hx : vs[i]? = some vs[i] := List.getElem?_eq_getElem hi
    cases hp : p vs[i] with
    | true => exact FRm.mono (hit i vs[i] g hx hi hp (List.any_eq_true.2 ⟨_, List.getElem_mem hi, hp⟩)) fun e st q => .inr q
    | false =>
      refine FRm.mono (step i vs[i] g hx hi hp) fun e st q => ?_
      obtain ⟨rfl, g', rfl⟩ := q
      refine .inl ⟨rfl, k - 1, by omega, i + 1, g', by omega, fun x hxm => ?_, rfl⟩
      rw [List.take_add_one, hx] at hxm
      rcases List.mem_append.1 hxm with h | h
      · exact hno x h
      · simp at h; subst h; exact hp
  · obtain rfl : i = vs.length := by omega
    refine FRm.mono (last g (List.any_eq_false.2 fun x hx => by rw [hno x (by simpa using hx)]; decide)) fun e st q => .inr q
omit [Inhabited Prop] in
theorem fxO0 {n : Nat} {O : List Blk} (h : ∀ i, i < n → ∀ o, O[i]? = some o → inertB o = true) : FixO n O := fun i hi o ho => inert_fixed (h i hi o ho) 0
omit [Inhabited Prop] in
theorem fxO1 {o : Blk} {r : List Blk} (h : inertB o = true) : FixO 1 (o :: r) := fxO0 fun i hi o' ho => by
  have : i = 0 := by omega
  subst this; cases ho; exact h
omit [Inhabited Prop] in
theorem fxO2 {o p : Blk} {r : List Blk} (h : inertB o = true) (k : inertB p = true) : FixO 2 (o :: p :: r) := fxO0 fun i hi o' ho => by
  match i, hi with
  | 0, _ => cases ho; exact h
  | 1, _ => cases ho; exact k
end
end Go.Proofs.Ytbhmodlpolgklaa.AI
namespace Go.Proofs.Ytbhmodlpolgklaa.AI
open Go Go.Proofs Go.RowKit
variable [Inhabited Prop]
structure EndR (K0 : Ks) (B : Nat) (O' Nw' : List Blk) (v' : Value) (g : HG) (v : Value) (O : List Blk) (K : List Nat) (Nw : List Blk) : Prop where
  okv : ok3 v = true
  oko : O.all okBlk = true
  nd : nodupB K = true
  len : O.length = K0.length
  plc : ∃ r Nq Kq, nodupP r = true ∧ placed Nw K r = some (Nq, Kq) ∧ (∀ (j c : Nat) (o : Blk), Kq[j]? = some (some c) → Nq[j]? = some o → okBlk o = true ∧ rwB o = true) ∧ KOk K0 O' Kq ∧ v' = mv3 (sgE K0 Kq B) v ∧ (∀ (i b : Nat), K0[i]? = some (some (b, true)) → O'[i]? = (O[i]?).map (mvB (sgE K0 Kq B)) ∨ O'[i]? = some .dead) ∧ Nw' = Nq.map (mvB (sgE K0 Kq B))
  ro : ∀ (i b : Nat), K0[i]? = some (some (b, false)) → O[i]? = some .dead → g b = some .dead
omit [Inhabited Prop] in
theorem EndR.fin {P : Program} {fn : Func} {K0 : Ks} {B : Nat} {O Nw : List Blk} {v : Value} {g : HG} {e : Exit} {st : St} (h : FinF P fn (EndR K0 B O Nw v g) e st) :
    (e = .normal ∨ e = .ret) ∧ st.df = [] ∧ ∃ v0 K, retVal P fn st = some v0 ∧ ok3 v0 = true ∧ Nw.length = K.length ∧ nodupN K ∧ KOk K0 O K ∧ EndM K0 K B O Nw v v0 st.hp.get g := by
  obtain ⟨h1, h2, v0, z, O0, K, N0, h3, h4, h5, q⟩ := h
  obtain ⟨l1, g1⟩ := blksOf_get h4
  obtain ⟨l2, g2⟩ := blksOf_get h5
  have n1 := q.nd
  obtain ⟨r, Nq, Kq, r1, r2, r0, rk, r3, r4, rfl⟩ := q.plc
  obtain ⟨p1, p2, p3⟩ := placed_get g2 r2
  simp only at p1 p2 p3
  have hz : z = K0.length := by have := q.len; simp at l1; omega
  subst hz
  refine ⟨h1, h2, v0, Kq, h3, q.okv, by simp [p1], fun i j c hi hj => ?_, rk, ⟨r3, fun i b hi => ?_, fun i b hi hdd => ?_, fun j c hc => ?_⟩⟩
  · obtain ⟨a, oa, a1, a2, _⟩ := p3 i c hi
    obtain ⟨b, ob, b1, b2, _⟩ := p3 j c hj
    have := nodup_inj n1 a2 b2
    subst this
    exact nodupP_ok r1 i j a a1 b1
  · have hlt : i < K0.length := (List.getElem?_eq_some_iff.1 hi).1
    obtain ⟨o, p1, p2⟩ := g1 i i (by simp [hlt])
    refine ⟨o, p1, List.all_eq_true.1 q.oko o (List.mem_of_getElem? p2), ?_⟩
    rcases r4 i b hi with h | h
    · exact .inl (by rw [h, p2]; rfl)
    · exact .inr h
  · have hlt : i < K0.length := (List.getElem?_eq_some_iff.1 hi).1
    obtain ⟨o, p1, p2⟩ := g1 i i (by simp [hlt])
    refine q.ro i b hi ?_
    rw [p1] at hdd
    rw [p2]; exact hdd
  · obtain ⟨i, o, _, _, a3, a4, a5⟩ := p3 j c hc
    obtain ⟨r1, r2⟩ := r0 j c o hc a4
    exact ⟨o, a3, r1, r2, by rw [List.getElem?_map, a4]; rfl⟩
def bv (f : Bool) (o : Blk) : Blk := bif f then o else .dead
def FinT (tr : Nat → Bool) (z : Nat) (Of : Nat → Nat → List Blk) (mk : Nat → Nat → Value) (f1 f2 : Bool) (B1 B2 : Blk) : Value → List Blk → List Nat → List Blk → Prop := fun v O K Nw =>
  nodupB K = true ∧ ∃ b1 b2, v = mk b1 b2 ∧ O = Of b1 b2 ∧ (f1 = true → f2 = true → b1 ≠ b2) ∧ (f1 = true → (Nat.ble z b1 || tr b1) = true ∧ ∃ i : Nat, K[i]? = some b1 ∧ Nw[i]? = some (bv f1 B1)) ∧ (f2 = true → (Nat.ble z b2 || tr b2) = true ∧ ∃ i : Nat, K[i]? = some b2 ∧ Nw[i]? = some (bv f2 B2))
omit [Inhabited Prop] in
theorem posN_two {b1 b2 : Nat} (h : b1 ≠ b2) : posN b2 [some b1, some b2] 0 = some 1 := by
  unfold posN
  have h1 : Nat.beq b1 b2 = false := by cases e : Nat.beq b1 b2 with
    | false => rfl
    | true => exact absurd (Nat.eq_of_beq_eq_true e) h
  rw [h1]
  simp only
  unfold posN
  rw [Nat.beq_refl]
omit [Inhabited Prop] in
theorem posN_one {b1 : Nat} {r : Kw} : posN b1 (some b1 :: r) 0 = some 0 := by
  unfold posN; rw [Nat.beq_refl]
omit [Inhabited Prop] in
theorem posN_non {b2 : Nat} : posN b2 [none, some b2] 0 = some 1 := by
  unfold posN; unfold posN; rw [Nat.beq_refl]
omit [Inhabited Prop] in
theorem FinT.end {tr : Nat → Bool} {K0 : Ks} {B : Nat} {O' : List Blk} {v' : Value} {g : HG} {Of : Nat → Nat → List Blk} {mk : Nat → Nat → Value} {f1 f2 : Bool} {B1 B2 : Blk} {v : Value} {O : List Blk} {K : List Nat} {Nw : List Blk} (q : FinT tr K0.length Of mk f1 f2 B1 B2 v O K Nw)
    (htr : ∀ b, tr b = true → ∃ c, K0[b]? = some (some (c, true)) ∧ O'[b]? = some .dead)
    (okv : ∀ b1 b2, ok3 (mk b1 b2) = true) (oko : ∀ b1 b2, (Of b1 b2).all okBlk = true) (len : ∀ b1 b2, (Of b1 b2).length = K0.length)
    (hmv : ∀ (s : Nat → Nat) b1 b2, (f1 = true → s b1 = B) → (f2 = true → s b2 = B + 1) → (∀ (i b : Nat) (wr : Bool), K0[i]? = some (some (b, wr)) → tr i = false → s i = b) → mv3 s (mk b1 b2) = v')
    (hO : ∀ (s : Nat → Nat) b1 b2, (f1 = true → s b1 = B) → (f2 = true → s b2 = B + 1) → (∀ (i b : Nat) (wr : Bool), K0[i]? = some (some (b, wr)) → tr i = false → s i = b) → ∀ (i b : Nat), K0[i]? = some (some (b, true)) → O'[i]? = ((Of b1 b2)[i]?).map (mvB s) ∨ O'[i]? = some .dead)
    (h1 : ∀ s, mvB s B1 = B1) (h1o : okBlk B1 = true) (h1r : rwB B1 = true) (h2 : ∀ s, mvB s B2 = B2) (h2o : okBlk B2 = true) (h2r : rwB B2 = true)
    (ro : ∀ b1 b2 (i b : Nat), K0[i]? = some (some (b, false)) → (Of b1 b2)[i]? = some .dead → g b = some .dead) : EndR K0 B O' [bv f1 B1, bv f2 B2] v' g v O K Nw := by
  obtain ⟨nd, b1, b2, rfl, rfl, hne, p1, p2⟩ := q
  have hdd : ∀ s : Nat → Nat, mvB s .dead = .dead := fun _ => rfl
  have hge : ∀ {b : Nat}, (Nat.ble K0.length b || tr b) = true → K0.length ≤ b ∨ ∃ c, K0[b]? = some (some (c, true)) ∧ O'[b]? = some .dead := fun {b} h => by
    rcases Bool.or_eq_true_iff.1 h with h | h
    · exact .inl (by simpa [Nat.ble_eq] using h)
    · exact .inr (htr b h)
  have hold : ∀ (Kq : Kw), (∀ c, some c ∈ Kq → (Nat.ble K0.length c || tr c) = true) → ∀ (i b : Nat) (wr : Bool), K0[i]? = some (some (b, wr)) → tr i = false → sgE K0 Kq B i = b := fun Kq hKq i b wr h ht => by
    unfold sgE
    cases hp : posN i Kq 0 with
    | none => simp only [h]
    | some j =>
      obtain ⟨k, -, hk⟩ := posN_some hp
      have := hKq i (List.mem_of_getElem? hk)
      rw [ht, Bool.or_false] at this
      have hl := (List.getElem?_eq_some_iff.1 h).1
      have : K0.length ≤ i := by simpa [Nat.ble_eq] using this
      omega
  have hnew : ∀ (Kq : Kw) {b j : Nat}, posN b Kq 0 = some j → sgE K0 Kq B b = B + j := fun Kq {b j} hp => by
    unfold sgE; rw [hp]
  refine ⟨okv _ _, oko _ _, nd, len _ _, ?_, ro _ _⟩
  cases f1 with
  | true =>
    obtain ⟨t1, i1, k1, n1⟩ := p1 rfl
    cases f2 with
    | true =>
      obtain ⟨t2, i2, k2, n2⟩ := p2 rfl
      have hb := hne rfl rfl
      have hi : i1 ≠ i2 := fun e => by subst e; rw [k1] at k2; cases k2; exact hb rfl
      have hK : ∀ c, some c ∈ [some b1, some b2] → (Nat.ble K0.length c || tr c) = true := fun c hc => by
        simp at hc
        rcases hc with rfl | rfl <;> assumption
      refine ⟨[some i1, some i2], [B1, B2], [some b1, some b2], ?_, ?_, ?_, fun c hc => hge (hK c hc), ?_, ?_, ?_⟩
      · have : Nat.beq i1 i2 = false := by cases e : Nat.beq i1 i2 with
          | false => rfl
          | true => exact absurd (Nat.eq_of_beq_eq_true e) hi
        simp [nodupP, this]
      · simp [placed, n1, n2, k1, k2, bv]
      · intro j c o hc ho
        match j with
        | 0 => simp at ho; subst ho; exact ⟨h1o, h1r⟩
        | 1 => simp at ho; subst ho; exact ⟨h2o, h2r⟩
        | j + 2 => simp at ho
      · exact (hmv _ b1 b2 (fun _ => hnew _ posN_one) (fun _ => hnew _ (posN_two hb)) (hold _ hK)).symm
      · exact hO _ b1 b2 (fun _ => hnew _ posN_one) (fun _ => hnew _ (posN_two hb)) (hold _ hK)
      · simp [bv, h1, h2]
    | false =>
      have hK : ∀ c, some c ∈ [some b1, none] → (Nat.ble K0.length c || tr c) = true := fun c hc => by
        simp at hc
        subst hc; exact t1
      refine ⟨[some i1, none], [B1, .dead], [some b1, none], ?_, ?_, ?_, fun c hc => hge (hK c hc), ?_, ?_, ?_⟩
      · simp [nodupP]
      · simp [placed, n1, k1, bv]
      · intro j c o hc ho
        match j with
        | 0 => simp at ho; subst ho; exact ⟨h1o, h1r⟩
        | 1 => simp at hc
        | j + 2 => simp at ho
      · exact (hmv _ b1 b2 (fun _ => hnew _ posN_one) (fun h => by cases h) (hold _ hK)).symm
      · exact hO _ b1 b2 (fun _ => hnew _ posN_one) (fun h => by cases h) (hold _ hK)
      · simp [bv, h1, hdd]
  | false =>
    cases f2 with
    | true =>
      obtain ⟨t2, i2, k2, n2⟩ := p2 rfl
      have hK : ∀ c, some c ∈ [none, some b2] → (Nat.ble K0.length c || tr c) = true := fun c hc => by
        simp at hc
        subst hc; exact t2
      refine ⟨[none, some i2], [.dead, B2], [none, some b2], ?_, ?_, ?_, fun c hc => hge (hK c hc), ?_, ?_, ?_⟩
      · simp [nodupP]
      · simp [placed, n2, k2, bv]
      · intro j c o hc ho
        match j with
        | 0 => simp at hc
        | 1 => simp at ho; subst ho; exact ⟨h2o, h2r⟩
        | j + 2 => simp at ho
      · exact (hmv _ b1 b2 (fun h => by cases h) (fun _ => hnew _ posN_non) (hold _ hK)).symm
      · exact hO _ b1 b2 (fun h => by cases h) (fun _ => hnew _ posN_non) (hold _ hK)
      · simp [bv, h2, hdd]
    | false =>
      have hK : ∀ c, some c ∈ [(none : Option Nat), none] → (Nat.ble K0.length c || tr c) = true := fun c hc => by simp at hc
      refine ⟨[none, none], [.dead, .dead], [none, none], rfl, rfl, ?_, fun c hc => hge (hK c hc), ?_, ?_, ?_⟩
      · intro j c o hc ho
        match j with
        | 0 => simp at hc
        | 1 => simp at hc
        | j + 2 => simp at ho
      · exact (hmv _ b1 b2 (fun h => by cases h) (fun h => by cases h) (hold _ hK)).symm
      · exact hO _ b1 b2 (fun h => by cases h) (fun h => by cases h) (hold _ hK)
      · simp [bv, hdd]
end Go.Proofs.Ytbhmodlpolgklaa.AI
namespace Go.Proofs.Ytbhmodlpolgklaa.AI
open Go Go.Proofs Go.RowKit
variable [Inhabited Prop]
omit [Inhabited Prop] in
theorem LRel.noBox {m : BM} {cs : List Value} {c : Array Value} {off : Nat} (hl : off + cs.length ≤ c.size) (h : ∀ (i : Nat) (v v' : Value), cs[i]? = some v → c[off + i]? = some v' → LRel m v v') : keysBox cs = false := by
  cases hk : keysBox cs with
  | false => rfl
  | true =>
    unfold keysBox at hk
    split at hk
    · rename_i b
      have hlt : off + 0 < c.size := by simp at hl; omega
      have := h 0 _ _ rfl (Array.getElem?_eq_getElem hlt)
      generalize c[off + 0] = x at this
      cases this with
      | flat hf => simp [AI.flat] at hf
    · cases hk
omit [Inhabited Prop] in
theorem mat_sim {m : BM} {hp : Hp} {w : World} (s : Sim m hp.get w) (hk : hp.ok) {r off : Nat} {ty : TypeId} {cs : List Value} (hm : m.lit r off ty cs) :
    Sim (updM m hp.sz (r, off, off + cs.length)) (hp.push (.cells ty cs true)).get w ∧ Le m hp.get (updM m hp.sz (r, off, off + cs.length)) (hp.push (.cells ty cs true)).get := by
  have hn : hp.get hp.sz = none := hk _ (Nat.le_refl _)
  have hmn : m hp.sz = none := by
    cases e : m hp.sz with
    | none => rfl
    | some x => obtain ⟨o, ho, _⟩ := s.dom _ _ e; rw [hn] at ho; cases ho
  have eH : (hp.push (.cells ty cs true)).get = updH hp.get hp.sz (.cells ty cs true) := by
    funext b; rw [Hp.get_push]; rfl
  rw [eH]
  have l : Le m hp.get (updM m hp.sz (r, off, off + cs.length)) (updH hp.get hp.sz (.cells ty cs true)) := Le.push hn hmn
  refine ⟨?_, l⟩
  obtain ⟨c, fr, g1, g2, g3⟩ := (s.lit r off ty cs hm).row
  have hne : ∀ b, b ≠ hp.sz → updH hp.get hp.sz (.cells ty cs true) b = hp.get b := fun b e => updH_ne e
  have hself : updH hp.get hp.sz (Blk.cells ty cs true) hp.sz = some (.cells ty cs true) := updH_self
  have hmne : ∀ b, b ≠ hp.sz → updM m hp.sz (r, off, off + cs.length) b = m b := fun b e => by rw [updM_at, if_neg e]
  have hmself : updM m hp.sz (r, off, off + cs.length) hp.sz = some (r, off, off + cs.length) := updM_self
  have hrw : ∀ b, rw? (updH hp.get hp.sz (.cells ty cs true)) b = true → b ≠ hp.sz ∧ rw? hp.get b = true := by
    intro b hb
    by_cases e : b = hp.sz
    · subst e; unfold rw? at hb; rw [hself] at hb; cases hb
    · exact ⟨e, by unfold rw? at hb ⊢; rwa [hne b e] at hb⟩
  have hice : ∀ r', m.lrow r' → ∀ b x, updM m hp.sz (r, off, off + cs.length) b = some x → rw? (updH hp.get hp.sz (.cells ty cs true)) b = true → x.1 ≠ r' := by
    intro r' q b x hx hr
    obtain ⟨e, hr⟩ := hrw b hr
    rw [hmne b e] at hx
    exact s.ice r' q b x hx hr
  refine ⟨⟨fun b x hx => ?_, fun b b' x x' hx hx' hr hlv e => ?_⟩, fun r' o t c' q => (s.lit r' o t c' q).mono (fun _ _ _ _ h => h) rfl, hice⟩
  · by_cases e : b = hp.sz
    · subst e
      rw [hmself] at hx; cases hx
      exact ⟨_, hself, c, fr, g1, Nat.le_refl _, g2, fun i v v' a b => ((g3 i v v' a b).vrel (h := hp.get)).mono l, (fun h => by cases h), fun _ hb => by rw [LRel.noBox g2 g3] at hb; cases hb⟩
    · rw [hmne b e] at hx
      obtain ⟨o, ho, hb⟩ := s.dom b x hx
      exact ⟨o, by rw [hne b e]; exact ho, hb.mono l rfl⟩
  · obtain ⟨e1, hr1⟩ := hrw b hr
    have hx1 := hx
    rw [hmne b e1] at hx1
    by_cases e' : b' = hp.sz
    · subst e'
      rw [hmself] at hx'; cases hx'
      exact absurd e (s.ice r ⟨off, ty, cs, hm⟩ b x hx1 hr1)
    · rw [hmne b' e'] at hx'
      exact s.inj b b' x x' hx1 hx' hr1 (by unfold live? at hlv ⊢; rwa [hne b' e'] at hlv) e
section
variable {P : Program} {N z : Nat} {W : Base} {X : Pins} {c : Code}
theorem FRm.mat0 {args : List Value} {O : List Blk} {i n : Nat} {v : Value} {Q : Exit → St → Prop} (hi : args[i]? = some v) (hl : args.length ≤ N) (hn : 0 < n)
    (hv : ∀ m h v', VRel m h v v' → ∃ ty cs, (∃ r off cap, v' = .slice (some ⟨r, off, none⟩) n cap ∧ m.lit r off ty cs ∧ n ≤ cap) ∧ FRm P N W z X c ⟨tmsOf (args.set i (.slice (some ⟨O.length, 0, none⟩) n 2)) 0 .leaf, heapOf (O ++ [.cells ty cs true]) hp0, []⟩ Q) :
    FRm P N W z X c ⟨tmsOf args 0 .leaf, heapOf O hp0, []⟩ Q := by
  intro a w m f
  have hk := f.fr.ok
  have hrel := f.fr.rel
  have e0 := ovr_hg0 hk
  have sim := hrel.sim
  have tm := hrel.tm
  rw [e0] at sim tm
  have hlt : i < args.length := (List.getElem?_eq_some_iff.1 hi).1
  have hti : (⟨tmsOf args 0 .leaf, heapOf O hp0, []⟩ : St).tget i = v := by
    simp only [St.tget, tmsOf_get, Nat.zero_le, true_and, Nat.zero_add, Nat.sub_zero, if_pos hlt, hi, Option.getD_some]
  have hr := tm.tm i
  rw [hti] at hr
  obtain ⟨ty, cs, ⟨r, off, cap, e1, hm, hcap⟩, hrun⟩ := hv _ _ _ hr
  obtain ⟨s2, l2⟩ := mat_sim sim hk hm
  have hsz : (heapOf O hp0).sz = O.length := by rw [heapOf_sz]; simp [hp0]
  have hH : ∀ (O : List Blk) (hp : Hp) (b : Blk), heapOf (O ++ [b]) hp = (heapOf O hp).push b := by
    intro O
    induction O with
    | nil => intro hp b; rfl
    | cons o O ih => intro hp b; show heapOf (O ++ [b]) (hp.push o) = _; rw [ih]; rfl
  have hk2 := hk.push (.cells ty cs true)
  have e2 := ovr_hg0 hk2
  refine hrun a w (updM m (heapOf O hp0).sz (r, off, off + cs.length)) ?_
  rw [hH]
  simp only at *
  refine ⟨⟨hk2, ⟨by rw [e2]; exact s2, ⟨tm.size, fun t => ?_⟩, ?_⟩, f.fr.below, fun b x hx hrw => ?_, f.fr.ownl⟩, fun j hj x hx => ?_⟩
  · show VRel _ (ovr ((heapOf O hp0).push (.cells ty cs true)) hg0) _ _
    rw [e2]
    have ht := (tm.tm t).mono l2
    have el : (args.set i (.slice (some ⟨O.length, 0, none⟩) n 2)).length = args.length := List.length_set ..
    simp only [St.tget, tmsOf_get, Nat.zero_le, true_and, Nat.zero_add, Nat.sub_zero, el] at ht ⊢
    by_cases et : t = i
    · subst et
      rw [if_pos hlt, List.getElem?_set_self hlt, Option.getD_some, e1]
      refine .slice ⟨hcap, fun h => by simp at h⟩ (.inr ⟨off, off + cs.length, by rw [← hsz]; exact updM_self, .inl (by omega), (fun h => by simp at h), (fun h => by simp at h)⟩)
    · rw [List.getElem?_set_ne (Ne.symm et)]
      exact ht
  · have hd := hrel.df.of_nil
    rw [hd]; exact .nil
  · have hne : b ≠ (heapOf O hp0).sz := by
      intro e; subst e
      unfold rw? at hrw; rw [Hp.get_push, if_pos rfl] at hrw; cases hrw
    rw [updM_at, if_neg hne] at hx
    exact f.fr.own b x hx (by unfold rw? at hrw ⊢; rwa [Hp.get_push, if_neg hne] at hrw)
  · rcases f.pin j hj x hx with h | h
    · refine .inl ?_
      have : j ≠ (heapOf O hp0).sz := by intro e; subst e; rw [hk _ (Nat.le_refl _)] at h; cases h
      show ((heapOf O hp0).push _).get j = _
      rw [Hp.get_push, if_neg this]; exact h
    · refine .inr ?_
      have : j ≠ (heapOf O hp0).sz := by
        intro e; subst e
        obtain ⟨o, ho, _⟩ := sim.dom _ _ h
        rw [hk _ (Nat.le_refl _)] at ho; cases ho
      rw [updM_at, if_neg this]; exact h
theorem FRm.mat {args : List Value} {O : List Blk} {i n : Nat} {ty : TypeId} {cs : List Value} {Q : Exit → St → Prop} (hi : args[i]? = some (LIT n ty cs)) (hl : args.length ≤ N) (hn : 0 < n)
    (h : FRm P N W z X c ⟨tmsOf (args.set i (.slice (some ⟨O.length, 0, none⟩) n 2)) 0 .leaf, heapOf (O ++ [.cells ty cs true]) hp0, []⟩ Q) :
    FRm P N W z X c ⟨tmsOf args 0 .leaf, heapOf O hp0, []⟩ Q :=
  FRm.mat0 hi hl hn fun m h' v' r => by
    rcases r.of_lit with h2 | ⟨rfl, _⟩
    · exact ⟨ty, cs, h2, h⟩
    · omega
theorem FRm.matBag {args : List Value} {O : List Blk} {i n : Nat} {ty : TypeId} {cs : List Value} {Q : Exit → St → Prop} (hi : args[i]? = some (BAG n ty cs)) (hl : args.length ≤ N) (hn : 0 < n)
    (h : ∀ ds, cs.Perm ds → FRm P N W z X c ⟨tmsOf (args.set i (.slice (some ⟨O.length, 0, none⟩) n 2)) 0 .leaf, heapOf (O ++ [.cells ty ds true]) hp0, []⟩ Q) :
    FRm P N W z X c ⟨tmsOf args 0 .leaf, heapOf O hp0, []⟩ Q :=
  FRm.mat0 hi hl hn fun m h' v' r => by
    rcases r.of_bag with ⟨r, off, cap, ds, h1, h2, h3, h4⟩ | ⟨rfl, _⟩
    · exact ⟨ty, ds, ⟨r, off, cap, h1, h2, h4⟩, h ds h3⟩
    · omega
end
def litV : Value → Bool
  | .iface _ (.iface _ (.agg _)) => true
  | v => flat v
inductive ReV (k : Nat) (ty : TypeId) (L : List Value) : Value → Value → Prop
  | same {v : Value} : ReV k ty L v v
  | lit {n c : Nat} : 0 < n → ReV k ty L (.slice (some ⟨k, 0, none⟩) n c) (LIT n ty L)
  | agg {asv bs : List Value} : asv.length = bs.length → (∀ (i : Nat) (v v' : Value), asv[i]? = some v → bs[i]? = some v' → ReV k ty L v v') → ReV k ty L (.agg ⟨asv⟩) (.agg ⟨bs⟩)
inductive ReB (k : Nat) (ty : TypeId) (L : List Value) : Blk → Blk → Prop
  | same {o : Blk} : ReB k ty L o o
  | cells {t : TypeId} {asv bs : List Value} {ro : Bool} : asv.length = bs.length → (∀ (i : Nat) (v v' : Value), asv[i]? = some v → bs[i]? = some v' → ReV k ty L v v') → keysBox bs = keysBox asv → ReB k ty L (.cells t asv ro) (.cells t bs ro)
  | map {es es' : List (Value × Value × Nat)} {cl : Nat} {ro : Bool} : es.length = es'.length → (∀ (i : Nat) (e e' : Value × Value × Nat), es[i]? = some e → es'[i]? = some e' → e'.1 = e.1 ∧ e'.2.2 = e.2.2 ∧ ReV k ty L e.2.1 e'.2.1) → ReB k ty L (.map es cl ro) (.map es' cl ro)
section
variable {P : Program} {N z : Nat} {W : Base} {X : Pins} {c : Code}
omit [Inhabited Prop] in
theorem ReB.rw {k : Nat} {ty : TypeId} {L : List Value} {o o' : Blk} (r : ReB k ty L o o') : rwB o' = rwB o ∧ (o' = .dead ↔ o = .dead) := by
  cases r with
  | same => exact ⟨rfl, Iff.rfl⟩
  | cells => exact ⟨rfl, by simp⟩
  | map => exact ⟨rfl, by simp⟩
theorem FM.lit {a : Act} {w : World} {m : BM} {g : Nat → Value} {T T' : List (Nat × Value)} {O O' : List Blk} {k : Nat} {ty : TypeId} {L : List Value} (hO : O[k]? = some (.cells ty L false)) (hL : L.all litV = true) (hlen : O.length = O'.length) (hd : O'[k]? = some .dead)
    (hB : ∀ (i : Nat) (o o' : Blk), i ≠ k → O[i]? = some o → O'[i]? = some o' → ReB k ty L o o')
    (hT : ∀ t, ReV k ty L (frame g T t) (frame g T' t))
    (f : FM N W z X (stOf N g T O) a w m) : ∃ m2, FM N W z X (stOf N g T' O') a w m2 := by
  have hk := f.fr.ok
  have hrel := f.fr.rel
  have e0 := ovr_hg0 hk
  have sim := hrel.sim
  have tm := hrel.tm
  rw [e0] at sim tm
  simp only [stOf] at sim tm hk e0
  have hk2 : (heapOf (O' ++ [.dead]) hp0).ok := heapOf_ok _ _ hp0_ok
  have e2 := ovr_hg0 hk2
  have hget : ∀ b, (heapOf (O ++ [.dead]) hp0).get b = (O ++ [Blk.dead])[b]? := fun b => heapOf0_get _ b
  have hget2 : ∀ b, (heapOf (O' ++ [.dead]) hp0).get b = (O' ++ [Blk.dead])[b]? := fun b => heapOf0_get _ b
  have hkO : k < O.length := (List.getElem?_eq_some_iff.1 hO).1
  have hgk : (heapOf (O ++ [.dead]) hp0).get k = some (.cells ty L false) := by rw [hget, List.getElem?_append_left hkO, hO]
  have hgk2 : (heapOf (O' ++ [.dead]) hp0).get k = some .dead := by rw [hget2, List.getElem?_append_left (by omega), hd]
  -- the other blocks
  have hoth : ∀ b, b ≠ k → ∀ o, (heapOf (O ++ [.dead]) hp0).get b = some o → ∃ o', (heapOf (O' ++ [.dead]) hp0).get b = some o' ∧ ReB k ty L o o' := by
    intro b hb o ho
    rw [hget] at ho
    rw [hget2]
    by_cases h1 : b < O.length
    · rw [List.getElem?_append_left h1] at ho
      have h2 : O'[b]? = some O'[b] := List.getElem?_eq_getElem (by omega)
      exact ⟨O'[b], by rw [List.getElem?_append_left (by omega), h2], hB b o _ hb ho h2⟩
    · rw [List.getElem?_append_right (by omega)] at ho
      rw [List.getElem?_append_right (by omega), ← hlen]
      exact ⟨o, ho, .same⟩
  have hoth2 : ∀ b, b ≠ k → ∀ o', (heapOf (O' ++ [.dead]) hp0).get b = some o' → ∃ o, (heapOf (O ++ [.dead]) hp0).get b = some o ∧ ReB k ty L o o' := by
    intro b hb o' ho'
    have hlt : b < (O' ++ [Blk.dead]).length := by rw [hget2] at ho'; exact (List.getElem?_eq_some_iff.1 ho').1
    have h1 : (heapOf (O ++ [.dead]) hp0).get b = some ((O ++ [Blk.dead])[b]'(by simp at hlt ⊢; omega)) := by rw [hget]; exact List.getElem?_eq_getElem _
    obtain ⟨o2, q1, q2⟩ := hoth b hb _ h1
    rw [ho'] at q1; cases q1
    exact ⟨_, h1, q2⟩
  have hrw2 : ∀ b, rw? (heapOf (O' ++ [.dead]) hp0).get b = true → b ≠ k ∧ rw? (heapOf (O ++ [.dead]) hp0).get b = true := by
    intro b hb
    have hne : b ≠ k := by intro e; subst e; rw [rw_of hgk2] at hb; cases hb
    refine ⟨hne, ?_⟩
    cases e : (heapOf (O' ++ [.dead]) hp0).get b with
    | none => unfold rw? at hb; rw [e] at hb; cases hb
    | some o' =>
      obtain ⟨o, q1, q2⟩ := hoth2 b hne o' e
      rw [rw_of e, q2.rw.1] at hb
      rw [rw_of q1]; exact hb
  have hlv2 : ∀ b, live? (heapOf (O' ++ [.dead]) hp0).get b = true → b ≠ k ∧ live? (heapOf (O ++ [.dead]) hp0).get b = true := by
    intro b hb
    have hne : b ≠ k := by intro e; subst e; exact ((live_of hgk2).1 hb) rfl
    refine ⟨hne, ?_⟩
    cases e : (heapOf (O' ++ [.dead]) hp0).get b with
    | none => unfold live? at hb; rw [e] at hb; cases hb
    | some o' =>
      obtain ⟨o, q1, q2⟩ := hoth2 b hne o' e
      rw [live_of e] at hb
      rw [live_of q1]
      exact fun h => hb (q2.rw.2.2 h)
  let m2 : BM := ⟨m.loc, fun r o t cs => m.lit r o t cs ∨ ∃ E, m k = some (r, o, E) ∧ t = ty ∧ cs = L⟩
  have le : Le m (heapOf (O ++ [.dead]) hp0).get m2 (heapOf (O' ++ [.dead]) hp0).get := by
    refine ⟨fun b hb => ?_, fun b x hx => .inr hx, fun _ _ _ _ q => .inl q⟩
    by_cases e : b = k
    · subst e; exact hgk2
    · obtain ⟨o', q1, q2⟩ := hoth b e _ hb
      rw [q1, q2.rw.2.2 rfl]
  have re : ∀ {v v2 : Value}, ReV k ty L v v2 → ∀ v', VRel m (heapOf (O ++ [.dead]) hp0).get v v' → VRel m2 (heapOf (O' ++ [.dead]) hp0).get v2 v' := by
    intro v v2 r
    induction r with
    | same => exact fun v' q => q.mono le
    | @lit n c hn =>
      intro v' q
      obtain ⟨b, off, r, off', cap, e1, rfl, hcap, hh⟩ := q.of_slice
      cases e1
      rcases hh with hh | ⟨δ, E, hm, ho, _⟩
      · rw [hgk] at hh; cases hh
      · have : off' = δ := by omega
        subst this
        exact .lit (.inr ⟨E, hm, rfl, rfl⟩) hcap
    | @agg asv bs hl _ ih =>
      intro v' q
      obtain ⟨a', rfl, h1, h2⟩ := q.of_agg
      refine .agg (by simpa [hl] using h1) fun i x x' q1 q2 => ?_
      have hlt : i < asv.length := by
        have := (Array.getElem?_eq_some_iff.1 q1).1
        simp at this; omega
      have ha : asv[i]? = some asv[i] := List.getElem?_eq_getElem hlt
      exact ih i asv[i] x ha (by simpa using q1) x' (h2 i asv[i] x' (by simp [ha]) q2)
  have hrowk : ∀ r o E, m k = some (r, o, E) → LitRow m2 w r o ty L ∧ (∀ b x, m b = some x → rw? (heapOf (O' ++ [.dead]) hp0).get b = true → x.1 ≠ r) := by
    intro r o E hm
    obtain ⟨o1, ho, hb⟩ := sim.dom k _ hm
    rw [hgk] at ho; cases ho
    obtain ⟨cc, fr, g1, g2, g3, g4, g5⟩ := hb
    refine ⟨⟨cc, fr, g1, Nat.le_trans g2 g3, fun i v v' q1 q2 => ?_⟩, fun b x hx hr e => ?_⟩
    · have hv := List.all_eq_true.1 hL v (List.mem_of_getElem? q1)
      have r1 := g4 i v v' q1 q2
      unfold litV at hv
      split at hv
      · rename_i n t cs
        rcases VRel.of_lit (cs := cs.toList) r1 with ⟨r', off', cap, rfl, q3, q4⟩ | ⟨rfl, q3, rfl | ⟨a, cap, rfl⟩⟩
        · exact .lit (cs := cs.toList) (.inl q3) q4
        · have : cs = ⟨[]⟩ := by cases cs; simp_all
          subst this; exact .lit0
        · have : cs = ⟨[]⟩ := by cases cs; simp_all
          subst this; exact .litE
      · rw [r1.of_flat hv]; exact .flat hv
    · obtain ⟨hne, hr1⟩ := hrw2 b hr
      exact hne (sim.inj b k x _ hx hm hr1 ((live_of hgk).2 (by simp)) e)
  have sim2 : Sim m2 (heapOf (O' ++ [.dead]) hp0).get w := by
    refine ⟨⟨fun b x hx => ?_, fun b b' x x' hx hx' hr hl e => sim.inj b b' x x' hx hx' (hrw2 b hr).2 (hlv2 b' hl).2 e⟩, fun r o t cs q => ?_, fun r q b x hx hr => ?_⟩
    · by_cases e : b = k
      · subst e; exact ⟨_, hgk2, trivial⟩
      · obtain ⟨o, ho, hb⟩ := sim.dom b x hx
        obtain ⟨o', q1, q2⟩ := hoth b e o ho
        refine ⟨o', q1, ?_⟩
        cases q2 with
        | same => exact hb.mono le rfl
        | @cells t asv bs ro hl hre hkb =>
          obtain ⟨cc, fr, g1, g2, g3, g4, g5⟩ := hb
          refine ⟨cc, fr, g1, by rw [← hl]; exact g2, g3, fun i v v' p1 p2 => ?_, g5.1, fun hr hk => g5.2 hr (by rw [← hkb]; exact hk)⟩
          have hlt : i < asv.length := by rw [hl]; exact (List.getElem?_eq_some_iff.1 p1).1
          have ha : asv[i]? = some asv[i] := List.getElem?_eq_getElem hlt
          exact re (hre i _ v ha p1) v' (g4 i _ v' ha p2)
        | @map es es' cl ro hl hre =>
          obtain ⟨fs, g1, g2, g3⟩ := hb
          refine ⟨fs, g1, by rw [← hl]; exact g2, fun i e' ff p1 p2 => ?_⟩
          have hlt : i < es.length := by rw [hl]; exact (List.getElem?_eq_some_iff.1 p1).1
          have ha : es[i]? = some es[i] := List.getElem?_eq_getElem hlt
          obtain ⟨k1, k2, k3⟩ := hre i _ e' ha p1
          obtain ⟨l1, l2, l3, l4⟩ := g3 i _ ff ha p2
          exact ⟨by rw [k1]; exact l1, by rw [k1]; exact l2, re k3 _ l3, by rw [k2]; exact l4⟩
    · rcases q with q | ⟨E, q, rfl, rfl⟩
      · exact (sim.lit r o t cs q).mono le.lit rfl
      · exact (hrowk r o E q).1
    · obtain ⟨o, t, cs, q⟩ := q
      rcases q with q | ⟨E, q, rfl, rfl⟩
      · exact sim.ice r ⟨o, t, cs, q⟩ b x hx (hrw2 b hr).2
      · exact (hrowk r o E q).2 b x hx hr
  refine ⟨m2, ⟨⟨hk2, ⟨by simp only [stOf]; rw [e2]; exact sim2, ⟨tm.size, fun t => ?_⟩, ?_⟩, f.fr.below, fun b x hx hr => f.fr.own b x hx (hrw2 b hr).2, fun r q => ?_⟩, fun i hi x hx => ?_⟩⟩
  · show VRel m2 (ovr (heapOf (O' ++ [.dead]) hp0) hg0) _ _
    rw [e2]
    have ht := tm.tm t
    simp only [stOf, St.tget, mkT_get] at ht ⊢
    by_cases hN : t < N
    · rw [if_pos hN, Option.getD_some] at ht ⊢
      exact re (hT t) _ ht
    · rw [if_neg hN] at ht ⊢
      exact ht.mono le
  · have hd' := hrel.df.of_nil
    rw [hd']; exact .nil
  · obtain ⟨o, t, cs, q⟩ := q
    rcases q with q | ⟨E, q, rfl, rfl⟩
    · exact f.fr.ownl r ⟨o, t, cs, q⟩
    · exact .inr (f.fr.own k _ q (by simp only [stOf]; rw [rw_of hgk]; rfl))
  · rcases f.pin i hi x hx with q | q
    · refine .inl ?_
      simp only [stOf] at q ⊢
      exact le.dead i q
    · exact .inr q
theorem FRm.lit {g : Nat → Value} {T T' : List (Nat × Value)} {O O' : List Blk} {k : Nat} {ty : TypeId} {L : List Value} {Q : Exit → St → Prop} (hO : O[k]? = some (.cells ty L false)) (hL : L.all litV = true) (hlen : O.length = O'.length) (hd : O'[k]? = some .dead)
    (hB : ∀ (i : Nat) (o o' : Blk), i ≠ k → O[i]? = some o → O'[i]? = some o' → ReB k ty L o o')
    (hT : ∀ t, ReV k ty L (frame g T t) (frame g T' t))
    (h : FRm P N W z X c (stOf N g T' O') Q) : FRm P N W z X c (stOf N g T O) Q := fun a w m f =>
  let ⟨m2, f2⟩ := FM.lit hO hL hlen hd hB hT f
  h a w m2 f2
theorem FRm.post_lit {st : St} {e0 : Exit} {T T' : List (Nat × Value)} {O O' : List Blk} {k : Nat} {ty : TypeId} {L : List Value} (h : FRm P N W z X c st fun e st' => e = e0 ∧ ∃ g, st' = stOf N g T O) (hO : O[k]? = some (.cells ty L false)) (hL : L.all litV = true) (hlen : O.length = O'.length) (hd : O'[k]? = some .dead)
    (hB : ∀ (i : Nat) (o o' : Blk), i ≠ k → O[i]? = some o → O'[i]? = some o' → ReB k ty L o o')
    (hT : ∀ g t, ReV k ty L (frame g T t) (frame g T' t)) : FRm P N W z X c st fun e st' => e = e0 ∧ ∃ g, st' = stOf N g T' O' := fun a w m f =>
  wp_mono (h a w m f) fun e a' w' hh => by
    obtain ⟨st', m', f', rfl, g, rfl⟩ := hh
    obtain ⟨m2, f2⟩ := FM.lit hO hL hlen hd hB (hT g) f'
    exact ⟨_, m2, f2, rfl, g, rfl⟩
end
inductive LW (w : World) : (Nat × Nat × TypeId × List Value) ⊕ (Value × Value) → Prop
  | row {r off : Nat} {ty : TypeId} {cs : List Value} {c : Array Value} {fr : Nat × Nat} : w.heap[r]? = some (.cells c ty fr) → off + cs.length ≤ c.size →
      (∀ (i : Nat) (v v' : Value), cs[i]? = some v → c[off + i]? = some v' → LW w (.inr (v, v'))) → LW w (.inl (r, off, ty, cs))
  | flat {v : Value} : AI.flat v = true → LW w (.inr (v, v))
  | lit {n : Nat} {ty : TypeId} {cs : List Value} {r off cap : Nat} : LW w (.inl (r, off, ty, cs)) → n ≤ cap → LW w (.inr (LIT n ty cs, .slice (some ⟨r, off, none⟩) n cap))
  | lit0 {ty : TypeId} : LW w (.inr (LIT 0 ty [], .slice none 0 0))
  | litE {ty : TypeId} {a : Addr} {cap : Nat} : LW w (.inr (LIT 0 ty [], .slice (some a) 0 cap))
def LTrue (w : World) (r off : Nat) (ty : TypeId) (cs : List Value) : Prop := LW w (.inl (r, off, ty, cs))
def bmW (w : World) : BM := ⟨fun _ => none, LTrue w⟩
omit [Inhabited Prop] in
theorem simW (w : World) : Sim (bmW w) (heapOf [.dead] hp0).get w := by
  refine ⟨⟨fun b x h => (by cases h), fun b b' x x' h => (by cases h)⟩, fun r o t cs h => ?_, fun r _ b x h => (by cases h)⟩
  cases h with
  | row h1 h2 h3 =>
    refine ⟨_, _, h1, h2, fun i v v' q1 q2 => ?_⟩
    cases h3 i v v' q1 q2 with
    | flat q => exact .flat q
    | lit q4 q3 => exact .lit q4 q3
    | lit0 => exact .lit0
    | litE => exact .litE
end Go.Proofs.Ytbhmodlpolgklaa.AI
