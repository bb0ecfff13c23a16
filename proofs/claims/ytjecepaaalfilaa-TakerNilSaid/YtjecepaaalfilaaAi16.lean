/- Soundness, 12: regions that draw their order. -/
import Derived.Test.YtjecepaaalfilaaAi15
import Derived.Orders
set_option linter.unusedVariables false
set_option linter.unusedSimpArgs false
namespace Go.Proofs.Ytjecepaaalfilaa.AI
open Go

/-! ### 1. What stands before an operation -/
theorem or_fold {acc : Array Nat} : ∀ (l : List Edge) (s x : Nat), (l.foldl (fun s e => if Region.binds .any e then s ||| 2 ^ e.on ||| acc.getD e.on 0 else s) s).testBit x = true →
    s.testBit x = true ∨ ∃ e ∈ l, Region.binds .any e = true ∧ (e.on = x ∨ (acc.getD e.on 0).testBit x = true)
  | [], s, x, h => .inl h
  | e :: l, s, x, h => by
    rw [List.foldl_cons] at h
    rcases or_fold l _ x h with h | ⟨e', h1, h2⟩
    · split at h
      · rename_i hb
        rw [Nat.testBit_or, Nat.testBit_or, Bool.or_eq_true, Bool.or_eq_true] at h
        rcases h with (h | h) | h
        · exact .inl h
        · exact .inr ⟨e, .head _, hb, .inl (by simpa [Nat.testBit_two_pow] using h)⟩
        · exact .inr ⟨e, .head _, hb, .inr h⟩
      · exact .inl h
    · exact .inr ⟨e', .tail _ h1, h2⟩

def befStep (acc : Array Nat) (o : Oper) : Array Nat :=
  acc.push (o.after.foldl (fun s e => if Region.binds .any e then s ||| 2 ^ e.on ||| acc.getD e.on 0 else s) 0)
theorem bef_list : ∀ (l : List Oper) (acc : Array Nat), (∀ y, y < acc.size → (l.foldl befStep acc).getD y 0 = acc.getD y 0) ∧ (l.foldl befStep acc).size = acc.size + l.length ∧
    ∀ k o x, l[k]? = some o → ((l.foldl befStep acc).getD (acc.size + k) 0).testBit x = true →
      ∃ e ∈ o.after.toList, Region.binds .any e = true ∧ (e.on = x ∨ ((l.foldl befStep acc).getD e.on 0).testBit x = true)
  | [], acc => ⟨fun _ _ => rfl, by simp, fun k o x h => by simp at h⟩
  | o :: l, acc => by
    obtain ⟨h1, h2, h3⟩ := bef_list l (befStep acc o)
    have hsz : (befStep acc o).size = acc.size + 1 := by simp [befStep]
    have hold : ∀ y, y < acc.size → (befStep acc o).getD y 0 = acc.getD y 0 := fun y hy => by
      simp [befStep, Array.getElem?_push, Nat.ne_of_lt hy]
    simp only [List.foldl_cons]
    refine ⟨fun y hy => by rw [h1 y (by omega), hold y hy], by rw [h2, hsz]; simp; omega, fun k u x hk hb => ?_⟩
    cases k with
    | zero =>
      simp only [List.getElem?_cons_zero, Option.some.injEq] at hk
      subst hk
      rw [Nat.add_zero, h1 _ (by omega)] at hb
      have hv : (befStep acc o).getD acc.size 0 = o.after.foldl (fun s e => if Region.binds .any e then s ||| 2 ^ e.on ||| acc.getD e.on 0 else s) 0 := by
        simp [befStep]
      rw [hv, ← Array.foldl_toList] at hb
      rcases or_fold _ _ _ hb with hb | ⟨e, q1, q2, q3⟩
      · simp at hb
      · refine ⟨e, q1, q2, q3.imp id fun q => ?_⟩
        have hlt : e.on < acc.size := by
          rcases Nat.lt_or_ge e.on acc.size with h | h
          · exact h
          · simp [Array.getElem?_eq_none h] at q
        rw [h1 _ (by omega), hold _ hlt]
        exact q
    | succ k =>
      exact h3 k u x (by simpa using hk) (by rw [hsz]; rwa [show acc.size + (k + 1) = acc.size + 1 + k from by omega] at hb)
theorem before_spec {ops : Array Oper} {y x : Nat} {o : Oper} (ho : ops[y]? = some o) (hb : ((Region.before ops).getD y 0).testBit x = true) :
    ∃ e ∈ o.after.toList, Region.binds .any e = true ∧ (e.on = x ∨ ((Region.before ops).getD e.on 0).testBit x = true) := by
  have e : Region.before ops = ops.toList.foldl befStep #[] := by
    unfold Region.before
    rw [← Array.foldl_toList]
    rfl
  rw [e] at hb ⊢
  exact (bef_list ops.toList #[]).2.2 y o x (by simpa using ho) (by simpa using hb)

/-! ### 2. The run in text order, laid open -/
structure Trace (P : Program) (call : CallF) (ops : Array Oper) (st0 : St) (st : Nat → St) (v : Nat → Value) : Prop where
  zero : st 0 = st0
  step : ∀ i o, ops[i]? = some o → (aWanted ops (st i) o = false ∧ v i = undef ∧ st (i + 1) = (st i).tput o.dst undef) ∨
    (aWanted ops (st i) o = true ∧ ∃ hp df, aStep P call o (st i) = some (v i, hp, df) ∧ st (i + 1) = { st i with hp := hp, df := df }.tput o.dst (v i))
def StepAt (P : Program) (call : CallF) (ops : Array Oper) (st st' : St) (v : Value) (o : Oper) : Prop :=
  (aWanted ops st o = false ∧ v = undef ∧ st' = st.tput o.dst undef) ∨
    (aWanted ops st o = true ∧ ∃ hp df, aStep P call o st = some (v, hp, df) ∧ st' = { st with hp := hp, df := df }.tput o.dst v)

theorem runOps_trace {P : Program} {call : CallF} {ops : Array Oper} : ∀ (os : List Oper) (st st' : St), runOps P call ops os st = some st' →
    ∃ (s : Nat → St) (v : Nat → Value), s 0 = st ∧ s os.length = st' ∧ ∀ i o, os[i]? = some o → StepAt P call ops (s i) (s (i + 1)) (v i) o
  | [], st, st', h => by cases h; exact ⟨fun _ => st, fun _ => undef, rfl, rfl, fun i o hi => by simp at hi⟩
  | o :: os, st, st', h => by
    unfold runOps at h
    have mk : ∀ (st1 : St) (v1 : Value), runOps P call ops os st1 = some st' → StepAt P call ops st st1 v1 o →
        ∃ (s : Nat → St) (v : Nat → Value), s 0 = st ∧ s (o :: os).length = st' ∧ ∀ i u, (o :: os)[i]? = some u → StepAt P call ops (s i) (s (i + 1)) (v i) u := by
      intro st1 v1 h1 hs
      obtain ⟨s, v, h2, h3, h4⟩ := runOps_trace os st1 st' h1
      refine ⟨fun i => match i with | 0 => st | i + 1 => s i, fun i => match i with | 0 => v1 | i + 1 => v i, rfl, by simpa using h3, fun i u hi => ?_⟩
      cases i with
      | zero =>
        simp only [List.getElem?_cons_zero, Option.some.injEq] at hi
        subst hi
        simpa [h2] using hs
      | succ i => exact h4 i u (by simpa using hi)
    split at h
    · rename_i hw
      exact mk _ undef h (.inl ⟨hw, rfl, rfl⟩)
    · rename_i hw
      split at h
      · rename_i v hp df hs
        exact mk _ v h (.inr ⟨hw, hp, df, hs, rfl⟩)
      · cases h

theorem runLog_trace {P : Program} {call : CallF} {ops : Array Oper} : ∀ (os : List Oper) (n : Nat) (st st' : St) (l : List Log), runLog P call ops os n st = some (st', l) →
    ∃ (s : Nat → St) (v : Nat → Value), s 0 = st ∧ s os.length = st' ∧ (∀ i o, os[i]? = some o → StepAt P call ops (s i) (s (i + 1)) (v i) o) ∧
      ∀ i o, os[i]? = some o → aWanted ops (s i) o = true → (cls P o = .read → Log.read (n + i) (fun get => opR P (s i).eval get o) (v i) ∈ l) ∧ (cls P o = .big → Log.big (n + i) (s i).hp (s (i + 1)).hp ∈ l)
  | [], n, st, st', l, h => by cases h; exact ⟨fun _ => st, fun _ => undef, rfl, rfl, fun i o hi => by simp at hi, fun i o hi => by simp at hi⟩
  | o :: os, n, st, st', l, h => by
    unfold runLog at h
    have mk : ∀ (st1 : St) (v1 : Value) (l1 : List Log), runLog P call ops os (n + 1) st1 = some (st', l1) → StepAt P call ops st st1 v1 o → (∀ x ∈ l1, x ∈ l) →
        (aWanted ops st o = true → (cls P o = .read → Log.read n (fun get => opR P st.eval get o) v1 ∈ l) ∧ (cls P o = .big → Log.big n st.hp st1.hp ∈ l)) →
        ∃ (s : Nat → St) (v : Nat → Value), s 0 = st ∧ s (o :: os).length = st' ∧ (∀ i u, (o :: os)[i]? = some u → StepAt P call ops (s i) (s (i + 1)) (v i) u) ∧
          ∀ i u, (o :: os)[i]? = some u → aWanted ops (s i) u = true → (cls P u = .read → Log.read (n + i) (fun get => opR P (s i).eval get u) (v i) ∈ l) ∧ (cls P u = .big → Log.big (n + i) (s i).hp (s (i + 1)).hp ∈ l) := by
      intro st1 v1 l1 h1 hs hl ho
      obtain ⟨s, v, h2, h3, h4, h5⟩ := runLog_trace os (n + 1) st1 st' l1 h1
      refine ⟨fun i => match i with | 0 => st | i + 1 => s i, fun i => match i with | 0 => v1 | i + 1 => v i, rfl, by simpa using h3, fun i u hi => ?_, fun i u hi hw => ?_⟩
      · cases i with
        | zero =>
          simp only [List.getElem?_cons_zero, Option.some.injEq] at hi
          subst hi
          simpa [h2] using hs
        | succ i => exact h4 i u (by simpa using hi)
      · cases i with
        | zero =>
          simp only [List.getElem?_cons_zero, Option.some.injEq] at hi
          subst hi
          simpa [h2] using ho hw
        | succ i =>
          obtain ⟨q1, q2⟩ := h5 i u (by simpa using hi) hw
          rw [show n + (i + 1) = n + 1 + i from by omega]
          exact ⟨fun hh => hl _ (q1 hh), fun hh => hl _ (q2 hh)⟩
    split at h
    · rename_i hw
      exact mk _ undef l h (.inl ⟨hw, rfl, rfl⟩) (fun x hx => hx) (fun hw' => by rw [hw] at hw'; cases hw')
    · rename_i hw
      split at h
      · rename_i v hp df hs
        have e1 : ({ st with hp := hp, df := df }.tput o.dst v : St).hp = hp := by cases o.dst <;> rfl
        split at h
        · rename_i st2 l2 hrec
          split at h
          · rename_i hcl
            cases h
            exact mk _ v _ hrec (.inr ⟨hw, hp, df, hs, rfl⟩) (fun x hx => hx) (fun _ => ⟨fun hh => (by first | cases hh | (rw [hcl] at hh; cases hh)), fun hh => (by first | cases hh | (rw [hcl] at hh; cases hh))⟩)
          · rename_i hcl
            cases h
            exact mk _ v l2 hrec (.inr ⟨hw, hp, df, hs, rfl⟩) (fun x hx => .tail _ hx) (fun _ => ⟨fun _ => .head _, fun hh => (by first | cases hh | (rw [hcl] at hh; cases hh))⟩)
          · rename_i hcl
            cases h
            exact mk _ v l2 hrec (.inr ⟨hw, hp, df, hs, rfl⟩) (fun x hx => .tail _ hx) (fun _ => ⟨fun hh => (by first | cases hh | (rw [hcl] at hh; cases hh)), fun _ => (by rw [e1]; exact .head _)⟩)
        · cases h
      · cases h

theorem veq1_eq : ∀ {a b : Value}, veq1 a b = true → a = b := by
  intro a b h
  unfold veq1 at h
  split at h <;> simp_all [strEq, Nat.beq_eq]
  rename_i x y; cases x; cases y; simp_all
theorem veqL_eq : ∀ {a b : List Value}, veqL a b = true → a = b
  | [], [], _ => rfl
  | a :: as, b :: bs, h => by
    simp only [veqL, Bool.and_eq_true] at h
    rw [veq1_eq h.1, veqL_eq h.2]
  | [], _ :: _, h => by simp [veqL] at h
  | _ :: _, [], h => by simp [veqL] at h
theorem veq_eq {a b : Value} (h : veq a b = true) : a = b := by
  unfold veq at h
  split at h
  · rename_i x y
    have := veqL_eq h
    cases x; cases y; simp_all
  · rename_i x y
    have := veqL_eq h
    cases x; cases y; simp_all
  · rename_i f x y g z u
    simp only [Bool.and_eq_true, Nat.beq_eq] at h
    obtain ⟨⟨h1, h2⟩, h3⟩ := h
    have := veqL_eq h2
    have := veqL_eq h3
    cases x; cases y; cases z; cases u; simp_all
  · exact veq1_eq h

/-- The reads whose order is open: they answer the same there too. -/
def FloatsOk (P : Program) (ops : Array Oper) (st : Nat → St) (v : Nat → Value) : Prop :=
  ∀ j i oj oi, ops[j]? = some oj → ops[i]? = some oi → aWanted ops (st j) oj = true → aWanted ops (st i) oi = true → cls P oj = .read → cls P oi = .big →
    (if j < i then ((Region.before ops).getD i 0).testBit j = false else ((Region.before ops).getD j 0).testBit i = false) →
    (i ≤ j → opR P (st j).eval (st i).hp.get oj = some (v j)) ∧ (j < i → opR P (st j).eval (st (i + 1)).hp.get oj = some (v j))

theorem mem_floats {P : Program} {ops : Array Oper} {j i : Nat} {oj oi : Oper} (hj : ops[j]? = some oj) (hi : ops[i]? = some oi) (rj : cls P oj = .read) (bi : cls P oi = .big)
    (hu : if j < i then ((Region.before ops).getD i 0).testBit j = false else ((Region.before ops).getD j 0).testBit i = false) : (j, i) ∈ floats P ops := by
  unfold floats
  simp only [List.mem_flatMap, List.mem_filter, List.mem_map]
  have hj' : (oj, j) ∈ ops.toList.zipIdx := by rw [List.mk_mem_zipIdx_iff_getElem?]; simpa using hj
  have hi' : (oi, i) ∈ ops.toList.zipIdx := by rw [List.mk_mem_zipIdx_iff_getElem?]; simpa using hi
  refine ⟨(oj, j), ⟨hj', by simp [isRead, rj]⟩, (oi, i), ⟨⟨hi', by simp [isBig, bi]⟩, ?_⟩, rfl⟩
  dsimp only
  by_cases h : j < i
  · rw [if_pos h] at hu ⊢; rw [hu]; rfl
  · rw [if_neg h] at hu ⊢; rw [hu]; rfl

theorem aRegion_trace {P : Program} {call : CallF} {ops : Array Oper} {st0 st' : St} (he : aRegion P call ops true st0 = some st') :
    ∃ (st : Nat → St) (v : Nat → Value), st 0 = st0 ∧ st ops.size = st' ∧ (∀ i o, ops[i]? = some o → StepAt P call ops (st i) (st (i + 1)) (v i) o) ∧ FloatsOk P ops st v := by
  simp only [aRegion] at he
  split at he
  · rename_i hf
    obtain ⟨s, v, h1, h2, h3⟩ := runOps_trace _ _ _ he
    refine ⟨s, v, h1, by simpa using h2, fun i o hi => h3 i o (by simpa using hi), ?_⟩
    intro j i oj oi hj hi _ _ rj bi hu
    have := mem_floats hj hi rj bi hu
    rw [hf] at this
    cases this
  · split at he
    · rename_i st2 l hlog
      split at he
      · rename_i hall
        cases he
        obtain ⟨s, v, h1, h2, h3, h4⟩ := runLog_trace _ _ _ _ _ hlog
        refine ⟨s, v, h1, by simpa using h2, fun i o hi => h3 i o (by simpa using hi), ?_⟩
        intro j i oj oi hj hi wj wi rj bi hu
        have hm := mem_floats hj hi rj bi hu
        have hp := List.all_eq_true.1 hall _ hm
        have hr := (h4 j oj (by simpa using hj) wj).1 rj
        have hb := (h4 i oi (by simpa using hi) wi).2 bi
        rw [Nat.zero_add] at hr hb
        unfold pairOk at hp
        have hp1 := List.all_eq_true.1 hp _ hr
        simp only [show Nat.beq j j = true from Nat.beq_refl j] at hp1
        have hp2 := List.all_eq_true.1 hp1 _ hb
        simp only [show Nat.beq i i = true from Nat.beq_refl i] at hp2
        refine ⟨fun hle => ?_, fun hlt => ?_⟩
        · rw [show Nat.ble i j = true from Nat.ble_eq_true_of_le hle] at hp2
          simp only [sameRead] at hp2
          split at hp2
          · rename_i u hu2; rw [hu2, veq_eq hp2]
          · cases hp2
        · rw [show Nat.ble i j = false from by
            cases hq : Nat.ble i j with
            | false => rfl
            | true => have := Nat.le_of_ble_eq_true hq; omega] at hp2
          simp only [sameRead] at hp2
          split at hp2
          · rename_i u hu2; rw [hu2, veq_eq hp2]
          · cases hp2
      · cases he
    · cases he
end Go.Proofs.Ytjecepaaalfilaa.AI
