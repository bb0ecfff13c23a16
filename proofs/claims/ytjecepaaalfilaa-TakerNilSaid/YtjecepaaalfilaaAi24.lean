/- Runs with claims: what an operation answers may be claimed; what is owed for it is listed. -/
import Derived.Test.YtjecepaaalfilaaAi23
set_option linter.unusedVariables false
set_option linter.unusedSimpArgs false
namespace Go.Proofs.Ytjecepaaalfilaa.AI
open Go

abbrev Obl := Option Value × Value
def Met (l : List Obl) : Prop := ∀ o ∈ l, o.1 = some o.2
theorem Met.nil : Met [] := fun o ho => by cases ho
theorem Met.cons {a : Option Value} {v : Value} {l : List Obl} (h : a = some v) (hl : Met l) : Met ((a, v) :: l) := fun o ho => by
  cases ho with
  | head => exact h
  | tail _ ho => exact hl o ho
theorem met_bool {a b : Bool} (h : a = b) : some (Value.bool a) = some (Value.bool b) := by rw [h]
theorem Met.left {a b : List Obl} (h : Met (a ++ b)) : Met a := fun o ho => h o (List.mem_append_left _ ho)
theorem Met.right {a b : List Obl} (h : Met (a ++ b)) : Met b := fun o ho => h o (List.mem_append_right _ ho)

def claimOf (cl : List (Tmp × Value)) : Option Tmp → Option Value
  | none => none
  | some t => (cl.find? fun p => Nat.beq p.1 t).map (·.2)
def fstV : Option (Value × Option Blk) → Option Value
  | some (v, none) => some v
  | _ => none
/-- What an operation that lays nothing answers. -/
def plainV (P : Program) (ρ : Operand → Value) (get : Nat → Option Blk) (sz : Nat) (o : Oper) : Option Value :=
  match cls P o with
  | .pure => fstV (opP P ρ sz o)
  | .read => opR P ρ get o
  | .big => none
def stepQ (P : Program) (call : CallF) (cl : List (Tmp × Value)) (o : Oper) (st : St) : Option (Value × Hp × List (FuncId × List Value) × List Obl) :=
  match claimOf cl o.dst with
  | some v => match cls P o with
    | .big => match aStep P call o st with
      | some (u, h, d) => some (v, h, d, [(some u, v)])
      | none => none
    | _ => some (v, st.hp, st.df, [(plainV P st.eval st.hp.get st.hp.sz o, v)])
  | none => match aStep P call o st with
    | some (v, h, d) => some (v, h, d, [])
    | none => none
def runOpsQ (P : Program) (call : CallF) (cl : List (Tmp × Value)) (ops : Array Oper) : List Oper → St → Option (St × List Obl)
  | [], st => some (st, [])
  | o :: os, st => match aWanted ops st o with
    | false => runOpsQ P call cl ops os (st.tput o.dst undef)
    | true => match stepQ P call cl o st with
      | some (v, h, d, q) => match runOpsQ P call cl ops os ({ st with hp := h, df := d }.tput o.dst v) with
        | some (st', q') => some (st', q ++ q')
        | none => none
      | none => none
def runLogQ (P : Program) (call : CallF) (cl : List (Tmp × Value)) (ops : Array Oper) : List Oper → Nat → St → Option (St × List Log × List Obl)
  | [], _, st => some (st, [], [])
  | o :: os, i, st => match aWanted ops st o with
    | false => runLogQ P call cl ops os (i + 1) (st.tput o.dst undef)
    | true => match stepQ P call cl o st with
      | some (v, h, d, q) => match runLogQ P call cl ops os (i + 1) ({ st with hp := h, df := d }.tput o.dst v) with
        | some (st', l, q') => match cls P o with
          | .pure => some (st', l, q ++ q')
          | .read => some (st', .read i (fun get => opR P st.eval get o) v :: l, q ++ q')
          | .big => some (st', .big i st.hp h :: l, q ++ q')
        | none => none
      | none => none
/-- Values that are compared cell by cell. -/
def veqOk1 : Value → Bool
  | .bool _ | .int _ _ | .string _ | .pointer _ | .slice .. | .map _ | .nilFunc | .nilIface => true
  | _ => false
def veqOk : Value → Bool
  | .agg a => a.toList.all veqOk1
  | v => veqOk1 v
def bigQ (f : (Nat → Option Blk) → Option Value) (v : Value) (j i2 : Nat) : List Log → List Obl
  | [] => []
  | .big i hb ha :: r => match Nat.beq i i2 with
    | true => (match Nat.ble i j with | true => (f hb.get, v) | false => (f ha.get, v)) :: bigQ f v j i2 r
    | false => bigQ f v j i2 r
  | .read .. :: r => bigQ f v j i2 r
def readQ (all : List Log) (p : Nat × Nat) : List Log → Option (List Obl)
  | [] => some []
  | .read j f v :: r => match Nat.beq j p.1 with
    | true => match veqOk v, readQ all p r with
      | true, some q => some (bigQ f v j p.2 all ++ q)
      | _, _ => none
    | false => readQ all p r
  | .big .. :: r => readQ all p r
def pairsQ (l : List Log) : List (Nat × Nat) → Option (List Obl)
  | [] => some []
  | p :: ps => match readQ l p l, pairsQ l ps with
    | some a, some b => some (a ++ b)
    | _, _ => none
theorem veq1_refl {v : Value} (h : veqOk1 v = true) : veq1 v v = true := by
  cases v with
  | pointer a => cases a <;> simp [veq1]
  | slice a n c => cases a <;> simp [veq1, Nat.beq_refl]
  | map a => cases a <;> simp [veq1, Nat.beq_refl]
  | string s => simp [veq1, strEq]
  | int k n => simp [veq1]
  | bool b => simp [veq1]
  | nilFunc => rfl
  | nilIface => rfl
  | _ => cases h
theorem veqL_refl : ∀ {l : List Value}, l.all veqOk1 = true → veqL l l = true
  | [], _ => rfl
  | v :: l, h => by
    simp only [List.all_cons, Bool.and_eq_true] at h
    simp only [veqL, veq1_refl h.1, veqL_refl h.2, Bool.and_self]
theorem veq_refl {v : Value} (h : veqOk v = true) : veq v v = true := by
  cases v with
  | agg a => exact veqL_refl h
  | bool b => exact veq1_refl (v := .bool b) h
  | int k n => exact veq1_refl (v := .int k n) h
  | string s => exact veq1_refl (v := .string s) h
  | pointer a => exact veq1_refl (v := .pointer a) h
  | slice a n c => exact veq1_refl (v := .slice a n c) h
  | map a => exact veq1_refl (v := .map a) h
  | nilFunc => rfl
  | nilIface => rfl
  | _ => cases h
theorem bigQ_met {f : (Nat → Option Blk) → Option Value} {v : Value} (hv : veqOk v = true) {j i2 : Nat} : ∀ {l : List Log}, Met (bigQ f v j i2 l) → ∀ i hb ha, Log.big i hb ha ∈ l → Nat.beq i i2 = true →
    (match Nat.ble i j with | true => sameRead f v hb | false => sameRead f v ha) = true
  | [], _, i, hb, ha, hm, _ => by cases hm
  | .read _ _ _ :: r, m, i, hb, ha, hm, hi => by
    simp only [bigQ] at m
    cases hm with
    | tail _ hm => exact bigQ_met hv m i hb ha hm hi
  | .big i' hb' ha' :: r, m, i, hb, ha, hm, hi => by
    simp only [bigQ] at m
    split at m
    · rename_i hb2
      cases hm with
      | head =>
        have := m _ (.head _)
        split at this
        · rename_i hle; simp only [hle, sameRead]; simp only at this; simp only [this, veq_refl hv]
        · rename_i hle; simp only [hle, sameRead]; simp only at this; simp only [this, veq_refl hv]
      | tail _ hm => exact bigQ_met hv (fun o ho => m o (.tail _ ho)) i hb ha hm hi
    · rename_i hb2
      cases hm with
      | head => rw [hi] at hb2; cases hb2
      | tail _ hm => exact bigQ_met hv m i hb ha hm hi
theorem readQ_met {all : List Log} {p : Nat × Nat} : ∀ {l : List Log} {q : List Obl}, readQ all p l = some q → Met q → ∀ j f v, Log.read j f v ∈ l → Nat.beq j p.1 = true →
    (all.all fun g => match g with
        | .big i hb ha => match Nat.beq i p.2 with
          | false => true
          | true => match Nat.ble i j with
            | true => sameRead f v hb
            | false => sameRead f v ha
        | _ => true) = true
  | [], q, _, _, j, f, v, hm, _ => by cases hm
  | .big _ _ _ :: r, q, h, m, j, f, v, hm, hj => by
    simp only [readQ] at h
    cases hm with
    | tail _ hm => exact readQ_met h m j f v hm hj
  | .read j' f' v' :: r, q, h, m, j, f, v, hm, hj => by
    simp only [readQ] at h
    split at h
    · rename_i hb
      split at h
      · rename_i q' hv hr
        cases h
        cases hm with
        | head =>
          rw [List.all_eq_true]
          intro g hg
          cases g with
          | read _ _ _ => rfl
          | big i hb ha =>
            simp only
            cases hi : Nat.beq i p.2 with
            | false => rfl
            | true => exact bigQ_met hv m.left i hb ha hg hi
        | tail _ hm => exact readQ_met hr m.right j f v hm hj
      · cases h
    · rename_i hb
      cases hm with
      | head => rw [hj] at hb; cases hb
      | tail _ hm => exact readQ_met h m j f v hm hj
theorem pairsQ_met {l : List Log} : ∀ {ps : List (Nat × Nat)} {q : List Obl}, pairsQ l ps = some q → Met q → ps.all (pairOk l) = true
  | [], q, _, _ => rfl
  | p :: ps, q, h, m => by
    simp only [pairsQ] at h
    split at h
    · rename_i a b h1 h2
      cases h
      rw [List.all_cons, pairsQ_met h2 m.right, Bool.and_true]
      unfold pairOk
      rw [List.all_eq_true]
      intro r hr
      cases r with
      | big _ _ _ => rfl
      | read j f v =>
        simp only
        cases hj : Nat.beq j p.1 with
        | false => rfl
        | true => exact readQ_met h1 m.left j f v hr hj
    · cases h

def aRegionQ (P : Program) (call : CallF) (cl : List (Tmp × Value)) (ops : Array Oper) (draw : Bool) (st : St) : Option (St × List Obl) :=
  match draw with
  | false => runOpsQ P call cl ops ops.toList st
  | true => match floats P ops with
    | [] => runOpsQ P call cl ops ops.toList st
    | ps => match runLogQ P call cl ops ops.toList 0 st with
      | some (st', l, q) => match pairsQ l ps with
        | some q2 => some (st', q2 ++ q)
        | none => none
      | none => none
def execQ (P : Program) (call : CallF) (cl : List (Tmp × Value)) : Nat → Code → St → Option (Exit × St × List Obl)
  | 0, _, _ => none
  | n + 1, c, st => match c with
    | .skip | .label _ => some (.normal, st, [])
    | .region _ ops draw => match aRegionQ P call cl ops draw st with
      | some (st', q) => some (.normal, st', q)
      | none => none
    | .seq a b => match execQ P call cl n a st with
      | some (.normal, st', q) => match execQ P call cl n b st' with
        | some (e, st2, q2) => some (e, st2, q ++ q2)
        | none => none
      | r => r
    | .cond x a b => match st.eval x with
      | .bool true => execQ P call cl n a st
      | .bool false => execQ P call cl n b st
      | _ => none
    | .block id body => match execQ P call cl n body st with
      | some (.exit i, st', q) => match Nat.beq i id with
        | true => some (.normal, st', q)
        | false => some (.exit i, st', q)
      | r => r
    | .loop body => match execQ P call cl n body st with
      | some (.normal, st', q) => match execQ P call cl n (.loop body) st' with
        | some (e, st2, q2) => some (e, st2, q ++ q2)
        | none => none
      | r => r
    | .scope body => execQ P call cl n body st
    | .exit id => some (.exit id, st, [])
    | .ret => some (.ret, st, [])
    | _ => none

section
variable {P : Program} {call : CallF} {cl : List (Tmp × Value)}
theorem plainV_step {o : Oper} {st : St} {v : Value} (h : plainV P st.eval st.hp.get st.hp.sz o = some v) : aStep P call o st = some (v, st.hp, st.df) := by
  unfold plainV at h
  unfold aStep
  split at h
  · rename_i hc
    simp only [hc]
    unfold fstV at h
    split at h
    · rename_i ho; cases h; simp only [ho]
    · cases h
  · rename_i hc
    simp only [hc, h]
  · cases h
theorem stepQ_ok {o : Oper} {st : St} {v : Value} {hp : Hp} {d : List (FuncId × List Value)} {q : List Obl} (h : stepQ P call cl o st = some (v, hp, d, q)) (m : Met q) : aStep P call o st = some (v, hp, d) := by
  unfold stepQ at h
  split at h
  · split at h
    · split at h
      · rename_i hs
        cases h
        have := m _ (.head _)
        simp only [Option.some.injEq] at this
        rw [hs, this]
      · cases h
    · cases h
      exact plainV_step (m _ (.head _))
  · split at h
    · rename_i hs; cases h; exact hs
    · cases h
theorem runOpsQ_ok {ops : Array Oper} : ∀ {os : List Oper} {st st' : St} {q : List Obl}, runOpsQ P call cl ops os st = some (st', q) → Met q → runOps P call ops os st = some st'
  | [], st, st', q, h, m => by cases h; rfl
  | o :: os, st, st', q, h, m => by
    unfold runOpsQ at h
    unfold runOps
    split at h
    · rename_i hw; simp only [hw]; exact runOpsQ_ok h m
    · rename_i hw
      simp only [hw]
      split at h
      · rename_i hs
        split at h
        · rename_i hr
          cases h
          simp only [stepQ_ok hs m.left]
          exact runOpsQ_ok hr m.right
        · cases h
      · cases h
theorem runLogQ_ok {ops : Array Oper} : ∀ {os : List Oper} {i : Nat} {st st' : St} {l : List Log} {q : List Obl}, runLogQ P call cl ops os i st = some (st', l, q) → Met q → runLog P call ops os i st = some (st', l)
  | [], i, st, st', l, q, h, m => by cases h; rfl
  | o :: os, i, st, st', l, q, h, m => by
    unfold runLogQ at h
    unfold runLog
    split at h
    · rename_i hw; simp only [hw]; exact runLogQ_ok h m
    · rename_i hw
      simp only [hw]
      split at h
      · rename_i hs
        split at h
        · rename_i hr
          split at h
          · rename_i hc
            cases h
            simp only [stepQ_ok hs m.left, runLogQ_ok hr m.right, hc]
          · rename_i hc
            cases h
            simp only [stepQ_ok hs m.left, runLogQ_ok hr m.right, hc]
          · rename_i hc
            cases h
            simp only [stepQ_ok hs m.left, runLogQ_ok hr m.right, hc]
        · cases h
      · cases h
theorem aRegionQ_ok {ops : Array Oper} {draw : Bool} {st st' : St} {q : List Obl} (h : aRegionQ P call cl ops draw st = some (st', q)) (m : Met q) : aRegion P call ops draw st = some st' := by
  unfold aRegionQ at h
  unfold aRegion
  split at h
  · exact runOpsQ_ok h m
  · cases hf : floats P ops with
    | nil => rw [hf] at h; exact runOpsQ_ok h m
    | cons p ps =>
      rw [hf] at h
      simp only at h ⊢
      split at h
      · rename_i hr
        split at h
        · rename_i hp
          cases h
          simp only [runLogQ_ok hr m.right, pairsQ_met hp m.left]
        · cases h
      · cases h
theorem execQ_ok : ∀ {n : Nat} {c : Code} {st st' : St} {e : Exit} {q : List Obl}, execQ P call cl n c st = some (e, st', q) → Met q → exec P call n c st = some (e, st')
  | 0, c, st, st', e, q, h, m => by cases h
  | n + 1, c, st, st', e, q, h, m => by
    cases c with
    | skip => cases h; rfl
    | label l => cases h; rfl
    | exit i => cases h; rfl
    | ret => cases h; rfl
    | region id ops draw =>
      simp only [execQ] at h
      simp only [exec]
      split at h
      · rename_i hr; cases h; simp only [aRegionQ_ok hr m]
      · cases h
    | seq a b =>
      simp only [execQ] at h
      simp only [exec]
      split at h
      · rename_i ha
        split at h
        · rename_i hb
          cases h
          simp only [execQ_ok ha m.left]
          exact execQ_ok hb m.right
        · cases h
      · rename_i hne
        rw [execQ_ok h m]
        split
        · rename_i heq; cases heq; exact absurd h (hne _ _)
        · rfl
    | cond x a b =>
      simp only [execQ] at h
      simp only [exec]
      split at h
      · rename_i hx; simp only [hx]; exact execQ_ok h m
      · rename_i hx; simp only [hx]; exact execQ_ok h m
      · cases h
    | block id b =>
      simp only [execQ] at h
      simp only [exec]
      split at h
      · rename_i hb
        split at h
        · rename_i hi; cases h; simp only [execQ_ok hb m, hi]
        · rename_i hi; cases h; simp only [execQ_ok hb m, hi]
      · rename_i hne
        rw [execQ_ok h m]
        split
        · rename_i heq; cases heq; exact absurd h (hne _ _ _)
        · rfl
    | loop b =>
      simp only [execQ] at h
      simp only [exec]
      split at h
      · rename_i ha
        split at h
        · rename_i hb
          cases h
          simp only [execQ_ok ha m.left]
          exact execQ_ok hb m.right
        · cases h
      · rename_i hne
        rw [execQ_ok h m]
        split
        · rename_i heq; cases heq; exact absurd h (hne _ _)
        · rfl
    | scope b =>
      simp only [execQ] at h
      simp only [exec]
      exact execQ_ok h m
    | _ => cases h
end

/-- A call, with claims. -/
def callQ (P : Program) (ext : Ext) (cl : List (Tmp × Value)) (n : Nat) (f : FuncId) (args : List Value) (h : Hp) : Option (Value × Hp × List Obl) :=
  match ext f with
  | some _ => none
  | none => match P.funcs[f]? with
    | none => none
    | some fn => match fn.body with
      | none => none
      | some c => match Nat.ble args.length fn.ntmps with
        | false => none
        | true => match execQ P (aCall P ext n) cl n c ⟨tmsOf args 0 .leaf, h, []⟩ with
          | some (.normal, st, q) => match st.df with
            | [] => (retVal P fn st).map fun v => (v, st.hp, q)
            | _ :: _ => none
          | some (.ret, st, q) => match st.df with
            | [] => (retVal P fn st).map fun v => (v, st.hp, q)
            | _ :: _ => none
          | _ => none
theorem callQ_ok {P : Program} {ext : Ext} {cl : List (Tmp × Value)} {n : Nat} {f : FuncId} {args : List Value} {h hp : Hp} {v : Value} {q : List Obl} (he : callQ P ext cl n f args h = some (v, hp, q)) (m : Met q) : aCall P ext (n + 1) f args h = some (v, hp) := by
  unfold callQ at he
  rw [aCall]
  split at he
  · cases he
  · rename_i hx
    simp only [hx]
    split at he
    · cases he
    · rename_i fn hf
      simp only [hf]
      split at he
      · cases he
      · rename_i c hb
        split at he
        · cases he
        · rename_i hn
          have key : ∀ e st q', execQ P (aCall P ext n) cl n c ⟨tmsOf args 0 .leaf, h, []⟩ = some (e, st, q') → Met q' → (e = .normal ∨ e = .ret) → aBody P (aCall P ext n) n fn args h = some st := by
            intro e st q' hx m' hee
            unfold aBody
            simp only [hb, hn, execQ_ok hx m']
            rcases hee with rfl | rfl <;> rfl
          have fin : ∀ (st : St), aBody P (aCall P ext n) n fn args h = some st → st.df = [] → ((retVal P fn st).map fun v => (v, st.hp)) = some (v, hp) →
              (match aBody P (aCall P ext n) n fn args h with
                | none => none
                | some st => match runDf (aPlain P ext (aCall P ext n) n) st.df st.hp with
                  | some h' => (retVal P fn { st with hp := h' }).map fun v => (v, h')
                  | none => none) = some (v, hp) := by
            intro st h1 h2 h3
            obtain ⟨tm, hp1, df⟩ := st
            simp only at h2
            subst h2
            simp only [h1, runDf]
            exact h3
          split at he
          · rename_i st q' hx
            split at he
            · rename_i hd
              obtain ⟨v0, hv, e⟩ := Option.map_eq_some_iff.1 he
              cases e
              exact fin st (key _ st _ hx m (.inl rfl)) hd (by rw [hv]; rfl)
            · cases he
          · rename_i st q' hx
            split at he
            · rename_i hd
              obtain ⟨v0, hv, e⟩ := Option.map_eq_some_iff.1 he
              cases e
              exact fin st (key _ st _ hx m (.inr rfl)) hd (by rw [hv]; rfl)
            · cases he
          · cases he
theorem callQ_run {P : Program} {ext : Ext} (cl : List (Tmp × Value)) {n : Nat} {f : FuncId} {args : List Value} {h : Hp} {v : Value} {q : List Obl} (he : (callQ P ext cl n f args h).map (fun r => (r.1, r.2.2)) = some (v, q)) (m : Met q) : ∃ hp, aCall P ext (n + 1) f args h = some (v, hp) := by
  obtain ⟨⟨v', hp, q'⟩, h1, h2⟩ := Option.map_eq_some_iff.1 he
  cases h2
  exact ⟨hp, callQ_ok h1 m⟩
end Go.Proofs.Ytjecepaaalfilaa.AI
