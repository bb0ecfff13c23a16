/- Part 2. -/
import Derived.Test.YtbhmodlpolgklaaXcA
import Derived.Orders
import Derived.Laws.LoneSync
import Derived.KernelRfl
import Derived.ProofKit
import Derived.OpenShut
import Derived.Carry
set_option linter.unusedVariables false
set_option linter.unusedSimpArgs false
set_option maxRecDepth 100000
namespace Go.Proofs.Ytbhmodlpolgklaa.AI
open Go
variable [Inhabited Prop]
omit [Inhabited Prop] in
theorem or_fold {acc : Array Nat} : ∀ (l : List Edge) (s x : Nat), (l.foldl (fun s e => if Region.binds .any e then s ||| 2 ^ e.on ||| acc.getD e.on 0 else s) s).testBit x = true →
    s.testBit x = true ∨ ∃ e ∈ l, Region.binds .any e = true ∧ (e.on = x ∨ (acc.getD e.on 0).testBit x = true)
  | [], s, x, h => .inl h
  | e :: l, s, x, h => by
    rw [List.foldl_cons] at h
    rcases or_fold l _ x h with h | ⟨e', h1, h2⟩
    · split at h
      · rename_i hb
        rw [Nat.testBit_or, Nat.testBit_or, Bool.or_eq_true, Bool.or_eq_true] at h
        rcases h with (h | h) | h
        · exact .inl h
        · exact .inr ⟨e, .head _, hb, .inl (by simpa [Nat.testBit_two_pow] using h)⟩
        · exact .inr ⟨e, .head _, hb, .inr h⟩
      · exact .inl h
    · exact .inr ⟨e', .tail _ h1, h2⟩
def befStep (acc : Array Nat) (o : Oper) : Array Nat :=
  acc.push (o.after.foldl (fun s e => if Region.binds .any e then s ||| 2 ^ e.on ||| acc.getD e.on 0 else s) 0)
omit [Inhabited Prop] in
theorem bef_list : ∀ (l : List Oper) (acc : Array Nat), (∀ y, y < acc.size → (l.foldl befStep acc).getD y 0 = acc.getD y 0) ∧ (l.foldl befStep acc).size = acc.size + l.length ∧
    ∀ k o x, l[k]? = some o → ((l.foldl befStep acc).getD (acc.size + k) 0).testBit x = true →
      ∃ e ∈ o.after.toList, Region.binds .any e = true ∧ (e.on = x ∨ ((l.foldl befStep acc).getD e.on 0).testBit x = true)
  | [], acc => ⟨fun _ _ => rfl, by simp, fun k o x h => by simp at h⟩
  | o :: l, acc => by
    obtain ⟨h1, h2, h3⟩ := bef_list l (befStep acc o)
    have hsz : (befStep acc o).size = acc.size + 1 := by simp [befStep]
    have hold : ∀ y, y < acc.size → (befStep acc o).getD y 0 = acc.getD y 0 := fun y hy => by
      simp [befStep, Array.getElem?_push, Nat.ne_of_lt hy]
    simp only [List.foldl_cons]
    refine ⟨fun y hy => by rw [h1 y (by omega), hold y hy], by rw [h2, hsz]; simp; omega, fun k u x hk hb => ?_⟩
    cases k with
    | zero =>
      simp only [List.getElem?_cons_zero, Option.some.injEq] at hk
      subst hk
      rw [Nat.add_zero, h1 _ (by omega)] at hb
      have hv : (befStep acc o).getD acc.size 0 = o.after.foldl (fun s e => if Region.binds .any e then s ||| 2 ^ e.on ||| acc.getD e.on 0 else s) 0 := by
        simp [befStep]
      rw [hv, ← Array.foldl_toList] at hb
      rcases or_fold _ _ _ hb with hb | ⟨e, q1, q2, q3⟩
      · simp at hb
      · refine ⟨e, q1, q2, q3.imp id fun q => ?_⟩
        have hlt : e.on < acc.size := by
          rcases Nat.lt_or_ge e.on acc.size with h | h
          · exact h
          · simp [Array.getElem?_eq_none h] at q
        rw [h1 _ (by omega), hold _ hlt]
        exact q
    | succ k =>
      exact h3 k u x (by simpa using hk) (by rw [hsz]; rwa [show acc.size + (k + 1) = acc.size + 1 + k from by omega] at hb)
omit [Inhabited Prop] in
theorem before_spec {ops : Array Oper} {y x : Nat} {o : Oper} (ho : ops[y]? = some o) (hb : ((Region.before ops).getD y 0).testBit x = true) :
    ∃ e ∈ o.after.toList, Region.binds .any e = true ∧ (e.on = x ∨ ((Region.before ops).getD e.on 0).testBit x = true) := by
  have e : Region.before ops = ops.toList.foldl befStep #[] := by
    unfold Region.before
    rw [← Array.foldl_toList]
    rfl
  rw [e] at hb ⊢
  exact (bef_list ops.toList #[]).2.2 y o x (by simpa using ho) (by simpa using hb)
structure Trace (P : Program) (call : CallF) (ops : Array Oper) (st0 : St) (st : Nat → St) (v : Nat → Value) : Prop where
  zero : st 0 = st0
  step : ∀ i o, ops[i]? = some o → (aWanted ops (st i) o = false ∧ v i = undef ∧ st (i + 1) = (st i).tput o.dst undef) ∨
    (aWanted ops (st i) o = true ∧ ∃ hp df, aStep P call o (st i) = some (v i, hp, df) ∧ st (i + 1) = { st i with hp := hp, df := df }.tput o.dst (v i))
def StepAt (P : Program) (call : CallF) (ops : Array Oper) (st st' : St) (v : Value) (o : Oper) : Prop :=
  (aWanted ops st o = false ∧ v = undef ∧ st' = st.tput o.dst undef) ∨
    (aWanted ops st o = true ∧ ∃ hp df, aStep P call o st = some (v, hp, df) ∧ st' = { st with hp := hp, df := df }.tput o.dst v)
omit [Inhabited Prop] in
theorem runOps_trace {P : Program} {call : CallF} {ops : Array Oper} : ∀ (os : List Oper) (st st' : St), runOps P call ops os st = some st' →
    ∃ (s : Nat → St) (v : Nat → Value), s 0 = st ∧ s os.length = st' ∧ ∀ i o, os[i]? = some o → StepAt P call ops (s i) (s (i + 1)) (v i) o
  | [], st, st', h => by cases h; exact ⟨fun _ => st, fun _ => undef, rfl, rfl, fun i o hi => by simp at hi⟩
  | o :: os, st, st', h => by
    unfold runOps at h
    have mk : ∀ (st1 : St) (v1 : Value), runOps P call ops os st1 = some st' → StepAt P call ops st st1 v1 o →
        ∃ (s : Nat → St) (v : Nat → Value), s 0 = st ∧ s (o :: os).length = st' ∧ ∀ i u, (o :: os)[i]? = some u → StepAt P call ops (s i) (s (i + 1)) (v i) u := by
      intro st1 v1 h1 hs
      obtain ⟨s, v, h2, h3, h4⟩ := runOps_trace os st1 st' h1
      refine ⟨fun i => match i with | 0 => st | i + 1 => s i, fun i => match i with | 0 => v1 | i + 1 => v i, rfl, by simpa using h3, fun i u hi => ?_⟩
      cases i with
      | zero =>
        simp only [List.getElem?_cons_zero, Option.some.injEq] at hi
        subst hi
        simpa [h2] using hs
      | succ i => exact h4 i u (by simpa using hi)
    split at h
    · rename_i hw
      exact mk _ undef h (.inl ⟨hw, rfl, rfl⟩)
    · rename_i hw
      split at h
      · rename_i v hp df hs
        exact mk _ v h (.inr ⟨hw, hp, df, hs, rfl⟩)
      · cases h
omit [Inhabited Prop] in
theorem runLog_trace {P : Program} {call : CallF} {ops : Array Oper} : ∀ (os : List Oper) (n : Nat) (st st' : St) (l : List Log), runLog P call ops os n st = some (st', l) →
    ∃ (s : Nat → St) (v : Nat → Value), s 0 = st ∧ s os.length = st' ∧ (∀ i o, os[i]? = some o → StepAt P call ops (s i) (s (i + 1)) (v i) o) ∧
      ∀ i o, os[i]? = some o → aWanted ops (s i) o = true → (cls P o = .read → Log.read (n + i) (fun get => opR P (s i).eval get o) (v i) ∈ l) ∧ (cls P o = .big → Log.big (n + i) (s i).hp (s (i + 1)).hp ∈ l)
  | [], n, st, st', l, h => by cases h; exact ⟨fun _ => st, fun _ => undef, rfl, rfl, fun i o hi => by simp at hi, fun i o hi => by simp at hi⟩
  | o :: os, n, st, st', l, h => by
    unfold runLog at h
    have mk : ∀ (st1 : St) (v1 : Value) (l1 : List Log), runLog P call ops os (n + 1) st1 = some (st', l1) → StepAt P call ops st st1 v1 o → (∀ x ∈ l1, x ∈ l) →
        (aWanted ops st o = true → (cls P o = .read → Log.read n (fun get => opR P st.eval get o) v1 ∈ l) ∧ (cls P o = .big → Log.big n st.hp st1.hp ∈ l)) →
        ∃ (s : Nat → St) (v : Nat → Value), s 0 = st ∧ s (o :: os).length = st' ∧ (∀ i u, (o :: os)[i]? = some u → StepAt P call ops (s i) (s (i + 1)) (v i) u) ∧
          ∀ i u, (o :: os)[i]? = some u → aWanted ops (s i) u = true → (cls P u = .read → Log.read (n + i) (fun get => opR P (s i).eval get u) (v i) ∈ l) ∧ (cls P u = .big → Log.big (n + i) (s i).hp (s (i + 1)).hp ∈ l) := by
      intro st1 v1 l1 h1 hs hl ho
      obtain ⟨s, v, h2, h3, h4, h5⟩ := runLog_trace os (n + 1) st1 st' l1 h1
      refine ⟨fun i => match i with | 0 => st | i + 1 => s i, fun i => match i with | 0 => v1 | i + 1 => v i, rfl, by simpa using h3, fun i u hi => ?_, fun i u hi hw => ?_⟩
      · cases i with
        | zero =>
          simp only [List.getElem?_cons_zero, Option.some.injEq] at hi
          subst hi
          simpa [h2] using hs
        | succ i => exact h4 i u (by simpa using hi)
      · cases i with
        | zero =>
          simp only [List.getElem?_cons_zero, Option.some.injEq] at hi
          subst hi
          simpa [h2] using ho hw
        | succ i =>
          obtain ⟨q1, q2⟩ := h5 i u (by simpa using hi) hw
          rw [show n + (i + 1) = n + 1 + i from by omega]
          exact ⟨fun hh => hl _ (q1 hh), fun hh => hl _ (q2 hh)⟩
    split at h
    · rename_i hw
      exact mk _ undef l h (.inl ⟨hw, rfl, rfl⟩) (fun x hx => hx) (fun hw' => by rw [hw] at hw'; cases hw')
    · rename_i hw
      split at h
      · rename_i v hp df hs
        have e1 : ({ st with hp := hp, df := df }.tput o.dst v : St).hp = hp := by cases o.dst <;> rfl
        split at h
        · rename_i st2 l2 hrec
          split at h
          · rename_i hcl
            cases h
            exact mk _ v _ hrec (.inr ⟨hw, hp, df, hs, rfl⟩) (fun x hx => hx) (fun _ => ⟨fun hh => (by first | cases hh | (rw [hcl] at hh; cases hh)), fun hh => (by first | cases hh | (rw [hcl] at hh; cases hh))⟩)
          · rename_i hcl
            cases h
            exact mk _ v l2 hrec (.inr ⟨hw, hp, df, hs, rfl⟩) (fun x hx => .tail _ hx) (fun _ => ⟨fun _ => .head _, fun hh => (by first | cases hh | (rw [hcl] at hh; cases hh))⟩)
          · rename_i hcl
            cases h
            exact mk _ v l2 hrec (.inr ⟨hw, hp, df, hs, rfl⟩) (fun x hx => .tail _ hx) (fun _ => ⟨fun hh => (by first | cases hh | (rw [hcl] at hh; cases hh)), fun _ => (by rw [e1]; exact .head _)⟩)
        · cases h
      · cases h
omit [Inhabited Prop] in
theorem veq1_eq : ∀ {a b : Value}, veq1 a b = true → a = b := by
  intro a b h
  unfold veq1 at h
  split at h <;> simp_all [strEq, Nat.beq_eq]
  rename_i x y; cases x; cases y; simp_all
omit [Inhabited Prop] in
theorem veqL_eq : ∀ {a b : List Value}, veqL a b = true → a = b
  | [], [], _ => rfl
  | a :: asv, b :: bs, h => by
    simp only [veqL, Bool.and_eq_true] at h
    rw [veq1_eq h.1, veqL_eq h.2]
  | [], _ :: _, h => by simp [veqL] at h
  | _ :: _, [], h => by simp [veqL] at h
omit [Inhabited Prop] in
theorem veq_eq {a b : Value} (h : veq a b = true) : a = b := by
  unfold veq at h
  split at h
  · rename_i x y
    have := veqL_eq h
    cases x; cases y; simp_all
  · rename_i x y
    have := veqL_eq h
    cases x; cases y; simp_all
  · rename_i f x y g z u
    simp only [Bool.and_eq_true, Nat.beq_eq] at h
    obtain ⟨⟨h1, h2⟩, h3⟩ := h
    have := veqL_eq h2
    have := veqL_eq h3
    cases x; cases y; cases z; cases u; simp_all
  · exact veq1_eq h
def FloatsOk (P : Program) (ops : Array Oper) (st : Nat → St) (v : Nat → Value) : Prop :=
  ∀ j i oj oi, ops[j]? = some oj → ops[i]? = some oi → aWanted ops (st j) oj = true → aWanted ops (st i) oi = true → cls P oj = .read → cls P oi = .big →
    (if j < i then ((Region.before ops).getD i 0).testBit j = false else ((Region.before ops).getD j 0).testBit i = false) →
    (i ≤ j → opR P (st j).eval (st i).hp.get oj = some (v j)) ∧ (j < i → opR P (st j).eval (st (i + 1)).hp.get oj = some (v j))
omit [Inhabited Prop] in
theorem mem_floats {P : Program} {ops : Array Oper} {j i : Nat} {oj oi : Oper} (hj : ops[j]? = some oj) (hi : ops[i]? = some oi) (rj : cls P oj = .read) (bi : cls P oi = .big)
    (hu : if j < i then ((Region.before ops).getD i 0).testBit j = false else ((Region.before ops).getD j 0).testBit i = false) : (j, i) ∈ floats P ops := by
  unfold floats
  simp only [List.mem_flatMap, List.mem_filter, List.mem_map]
  have hj' : (oj, j) ∈ ops.toList.zipIdx := by rw [List.mk_mem_zipIdx_iff_getElem?]; simpa using hj
  have hi' : (oi, i) ∈ ops.toList.zipIdx := by rw [List.mk_mem_zipIdx_iff_getElem?]; simpa using hi
  refine ⟨(oj, j), ⟨hj', by simp [isRead, rj]⟩, (oi, i), ⟨⟨hi', by simp [isBig, bi]⟩, ?_⟩, rfl⟩
  dsimp only
  by_cases h : j < i
  · rw [if_pos h] at hu ⊢; rw [hu]; rfl
  · rw [if_neg h] at hu ⊢; rw [hu]; rfl
omit [Inhabited Prop] in
theorem aRegion_trace {P : Program} {call : CallF} {ops : Array Oper} {st0 st' : St} (he : aRegion P call ops true st0 = some st') :
    ∃ (st : Nat → St) (v : Nat → Value), st 0 = st0 ∧ st ops.size = st' ∧ (∀ i o, ops[i]? = some o → StepAt P call ops (st i) (st (i + 1)) (v i) o) ∧ FloatsOk P ops st v := by
  simp only [aRegion] at he
  split at he
  · rename_i hf
    obtain ⟨s, v, h1, h2, h3⟩ := runOps_trace _ _ _ he
    refine ⟨s, v, h1, by simpa using h2, fun i o hi => h3 i o (by simpa using hi), ?_⟩
    intro j i oj oi hj hi _ _ rj bi hu
    have := mem_floats hj hi rj bi hu
    rw [hf] at this
    cases this
  · split at he
    · rename_i st2 l hlog
      split at he
      · rename_i hall
        cases he
        obtain ⟨s, v, h1, h2, h3, h4⟩ := runLog_trace _ _ _ _ _ hlog
        refine ⟨s, v, h1, by simpa using h2, fun i o hi => h3 i o (by simpa using hi), ?_⟩
        intro j i oj oi hj hi wj wi rj bi hu
        have hm := mem_floats hj hi rj bi hu
        have hp := List.all_eq_true.1 hall _ hm
        have hr := (h4 j oj (by simpa using hj) wj).1 rj
        have hb := (h4 i oi (by simpa using hi) wi).2 bi
        rw [Nat.zero_add] at hr hb
        unfold pairOk at hp
        have hp1 := List.all_eq_true.1 hp _ hr
        simp only [show Nat.beq j j = true from Nat.beq_refl j] at hp1
        have hp2 := List.all_eq_true.1 hp1 _ hb
        simp only [show Nat.beq i i = true from Nat.beq_refl i] at hp2
        refine ⟨fun hle => ?_, fun hlt => ?_⟩
        · rw [show Nat.ble i j = true from Nat.ble_eq_true_of_le hle] at hp2
          simp only [sameRead] at hp2
          split at hp2
          · rename_i u hu2; rw [hu2, veq_eq hp2]
          · cases hp2
        · rw [show Nat.ble i j = false from by
            cases hq : Nat.ble i j with
            | false => rfl
            | true => have := Nat.le_of_ble_eq_true hq; omega] at hp2
          simp only [sameRead] at hp2
          split at hp2
          · rename_i u hu2; rw [hu2, veq_eq hp2]
          · cases hp2
      · cases he
    · cases he
end Go.Proofs.Ytbhmodlpolgklaa.AI
namespace Go.Proofs.Ytbhmodlpolgklaa.AI
open Go
variable [Inhabited Prop]
omit [Inhabited Prop] in
theorem tput_hp (s : St) (d : Option Tmp) (v : Value) : (s.tput d v).hp = s.hp := by cases d <;> rfl
omit [Inhabited Prop] in
theorem tput_df (s : St) (d : Option Tmp) (v : Value) : (s.tput d v).df = s.df := by cases d <;> rfl
section
variable (P : Program) (ops : Array Oper) (st : Nat → St) (v : Nat → Value)
def Big (i : Nat) : Prop := ∃ o, ops[i]? = some o ∧ aWanted ops (st i) o = true ∧ cls P o = .big
def PA (i : Nat) (b : Blk) : Prop := ∃ o, ops[i]? = some o ∧ aWanted ops (st i) o = true ∧ cls P o = .pure ∧ opP P (st i).eval (st i).hp.sz o = some (v i, some b)
end
section
variable {P : Program} {call : CallF} {ops : Array Oper} {st : Nat → St} {v : Nat → Value}
omit [Inhabited Prop] in
theorem PA.uniq {i : Nat} {b b' : Blk} (h : PA P ops st v i b) (h' : PA P ops st v i b') : b = b' := by
  obtain ⟨o, h1, h2, h3, h4⟩ := h
  obtain ⟨o', h1', h2', h3', h4'⟩ := h'
  rw [h1] at h1'; cases h1'
  rw [h4] at h4'; cases h4'; rfl
omit [Inhabited Prop] in
theorem PA.notBig {i : Nat} {b : Blk} (h : PA P ops st v i b) : ¬ Big P ops st i := by
  rintro ⟨o', h1', h2', h3'⟩
  obtain ⟨o, h1, h2, h3, h4⟩ := h
  rw [h1] at h1'; cases h1'
  rw [h3] at h3'; cases h3'
variable (hs : ∀ i o, ops[i]? = some o → StepAt P call ops (st i) (st (i + 1)) (v i) o) (hc : CallOk P call)
include hs
omit [Inhabited Prop] in
theorem PA.next {i : Nat} {b : Blk} (h : PA P ops st v i b) : (st (i + 1)).hp = (st i).hp.push b ∧ (st (i + 1)).df = (st i).df := by
  obtain ⟨o, h1, h2, h3, h4⟩ := h
  rcases hs i o h1 with ⟨hw, _⟩ | ⟨hw, hp, df, hst, e⟩
  · rw [h2] at hw; cases hw
  · unfold aStep at hst
    simp only [h3, h4] at hst
    cases hst
    rw [e, tput_hp, tput_df]
    exact ⟨rfl, rfl⟩
omit [Inhabited Prop] in
theorem idle_next {i : Nat} (hi : i < ops.size) (h1 : ¬ Big P ops st i) (h2 : ∀ b, ¬ PA P ops st v i b) : (st (i + 1)).hp = (st i).hp ∧ (st (i + 1)).df = (st i).df := by
  have ho := Array.getElem?_eq_getElem hi
  rcases hs i ops[i] ho with ⟨hw, _, e⟩ | ⟨hw, hp, df, hst, e⟩
  · rw [e, tput_hp, tput_df]; exact ⟨rfl, rfl⟩
  · rw [e, tput_hp, tput_df]
    unfold aStep at hst
    split at hst
    · rename_i hcl
      split at hst
      · cases hst; exact ⟨rfl, rfl⟩
      · rename_i v0 b hop
        cases hst
        exact absurd ⟨ops[i], ho, hw, hcl, hop⟩ (h2 b)
      · cases hst
    · split at hst
      · cases hst; exact ⟨rfl, rfl⟩
      · cases hst
    · rename_i hcl
      exact absurd ⟨ops[i], ho, hw, hcl⟩ h1
include hc in
theorem trace_ok (h0 : (st 0).hp.ok) : ∀ i, i ≤ ops.size → (st i).hp.ok
  | 0, _ => h0
  | i + 1, hi => by
    have ih := trace_ok h0 i (by omega)
    have ho := Array.getElem?_eq_getElem (show i < ops.size by omega)
    rcases hs i _ ho with ⟨hw, _, e⟩ | ⟨hw, hp, df, hst, e⟩
    · rw [e, tput_hp]; exact ih
    · rw [e, tput_hp]; exact (step_sound hc hst ih).1
include hc in
theorem trace_sz (h0 : (st 0).hp.ok) {i : Nat} : ∀ j, i ≤ j → j ≤ ops.size → (st i).hp.sz ≤ (st j).hp.sz
  | 0, hij, _ => by have : i = 0 := by omega
                    subst this; exact Nat.le_refl _
  | j + 1, hij, hj => by
    rcases Nat.lt_or_ge j i with h | h
    · have : i = j + 1 := by omega
      subst this; exact Nat.le_refl _
    · refine Nat.le_trans (trace_sz h0 j h (by omega)) ?_
      have ih := trace_ok hs hc h0 j (by omega)
      have ho := Array.getElem?_eq_getElem (show j < ops.size by omega)
      rcases hs j _ ho with ⟨hw, _, e⟩ | ⟨hw, hp, df, hst, e⟩
      · rw [e, tput_hp]; exact Nat.le_refl _
      · rw [e, tput_hp]; exact (step_sound hc hst ih).2.1
omit [Inhabited Prop] in
theorem quiet {c : Nat} : ∀ i, c ≤ i → i ≤ ops.size → (∀ k, c ≤ k → k < i → ¬ Big P ops st k) →
    (st c).hp.sz ≤ (st i).hp.sz ∧ (∀ b, b < (st c).hp.sz → (st i).hp.get b = (st c).hp.get b) ∧
    (∀ b, (st c).hp.sz ≤ b → b < (st i).hp.sz → ∃ k o, c ≤ k ∧ k < i ∧ PA P ops st v k o ∧ (st k).hp.sz = b ∧ (st i).hp.get b = some o) ∧ (st i).df = (st c).df
  | 0, hci, _, _ => by
    have : c = 0 := by omega
    subst this
    exact ⟨Nat.le_refl _, fun _ _ => rfl, fun b h1 h2 => by omega, rfl⟩
  | i + 1, hci, hi, hq => by
    rcases Nat.lt_or_ge i c with h | h
    · have : c = i + 1 := by omega
      subst this
      exact ⟨Nat.le_refl _, fun _ _ => rfl, fun b h1 h2 => by omega, rfl⟩
    · obtain ⟨k0, k1, k2, k3⟩ := quiet i h (by omega) (fun k a b => hq k a (by omega))
      by_cases hp : ∃ b, PA P ops st v i b
      · obtain ⟨b, hb⟩ := hp
        obtain ⟨e1, e2⟩ := hb.next hs
        rw [e1, e2]
        refine ⟨Nat.le_trans k0 (Nat.le_succ _), fun x hx => ?_, fun x h1 h2 => ?_, k3⟩
        · rw [Hp.get_push, if_neg (by omega)]; exact k1 x hx
        · rw [Hp.get_push]
          rw [Hp.sz_push] at h2
          by_cases e : x = (st i).hp.sz
          · rw [if_pos e]
            exact ⟨i, b, h, Nat.lt_succ_self _, hb, e.symm, rfl⟩
          · rw [if_neg e]
            obtain ⟨k, o, q1, q2, q3⟩ := k2 x h1 (by omega)
            exact ⟨k, o, q1, by omega, q3⟩
      · obtain ⟨e1, e2⟩ := idle_next hs (by omega) (hq i h (Nat.lt_succ_self _)) (fun b hb => hp ⟨b, hb⟩)
        rw [e1, e2]
        refine ⟨k0, k1, fun x h1 h2 => ?_, k3⟩
        obtain ⟨k, o, q1, q2, q3⟩ := k2 x h1 h2
        exact ⟨k, o, q1, by omega, q3⟩
omit [Inhabited Prop] in
theorem tget_at (t : Tmp) : ∀ i, i ≤ ops.size →
    (∃ j oj, j < i ∧ ops[j]? = some oj ∧ oj.dst = some t ∧ (∀ j' o', j' < i → ops[j']? = some o' → o'.dst = some t → j' ≤ j) ∧ (st i).tget t = v j) ∨
    ((∀ j oj, j < i → ops[j]? = some oj → oj.dst ≠ some t) ∧ (st i).tget t = (st 0).tget t)
  | 0, _ => .inr ⟨fun j oj hj => by omega, rfl⟩
  | i + 1, hi => by
    have ho := Array.getElem?_eq_getElem (show i < ops.size by omega)
    have key : (st (i + 1)).tget t = if (ops[i]).dst = some t then v i else (st i).tget t := by
      rcases hs i _ ho with ⟨hw, e0, e⟩ | ⟨hw, hp, df, hst, e⟩
      · rw [e, St.tget_put, e0]
      · rw [e, St.tget_put]; rfl
    by_cases hd : (ops[i]).dst = some t
    · rw [if_pos hd] at key
      exact .inl ⟨i, _, Nat.lt_succ_self _, ho, hd, fun j' o' h1 _ _ => by omega, key⟩
    · rw [if_neg hd] at key
      rcases tget_at t i (by omega) with ⟨j, oj, h1, h2, h3, h4, h5⟩ | ⟨h1, h2⟩
      · refine .inl ⟨j, oj, by omega, h2, h3, fun j' o' q1 q2 q3 => ?_, key.trans h5⟩
        rcases Nat.lt_or_ge j' i with q | q
        · exact h4 j' o' q q2 q3
        · have : j' = i := by omega
          subst this
          rw [ho] at q2; cases q2
          exact absurd q3 hd
      · refine .inr ⟨fun j oj q1 q2 q3 => ?_, key.trans h2⟩
        rcases Nat.lt_or_ge j i with q | q
        · exact h1 j oj q q2 q3
        · have : j = i := by omega
          subst this
          rw [ho] at q2; cases q2
          exact hd q3
end
structure Safe (P : Program) (ops : Array Oper) : Prop where
  after : ∀ y o e, ops[y]? = some o → e ∈ o.after.toList → Region.binds .any e = true → e.on < y
  guard : ∀ y o j w, ops[y]? = some o → o.guard = some (j, w) → j < y ∧ ((Region.before ops).getD y 0).testBit j = true
  pair : ∀ x y ox oy, ops[x]? = some ox → ops[y]? = some oy → x < y → ((Region.before ops).getD y 0).testBit x = true ∨
    ((∀ d, ox.dst = some d → d ∉ tmpsOf ops oy) ∧ (∀ d, oy.dst = some d → d ∉ tmpsOf ops ox) ∧ ¬ (cls P ox = .big ∧ cls P oy = .big))
omit [Inhabited Prop] in
theorem regSafe_safe {P : Program} {ops : Array Oper} (h : regSafe P ops = true) : Safe P ops := by
  unfold regSafe at h
  have hm : ∀ y o, ops[y]? = some o → (o, y) ∈ ops.toList.zipIdx := fun y o ho => by
    rw [List.mk_mem_zipIdx_iff_getElem?]; simpa using ho
  have hy := fun y o (ho : ops[y]? = some o) => List.all_eq_true.1 h _ (hm y o ho)
  refine ⟨fun y o e ho he hb => ?_, fun y o j w ho hg => ?_, fun x y ox oy hx hyy hlt => ?_⟩
  · have := hy y o ho
    simp only [Bool.and_eq_true, List.all_eq_true, Bool.or_eq_true, Bool.not_eq_true', decide_eq_true_eq] at this
    rcases this.1.1 e he with q | q
    · rw [hb] at q; cases q
    · exact q
  · have := hy y o ho
    simp only [Bool.and_eq_true, hg, decide_eq_true_eq] at this
    exact this.1.2
  · have := hy y oy hyy
    simp only [Bool.and_eq_true] at this
    have q := List.all_eq_true.1 this.2 _ (hm x ox hx)
    simp only [Bool.or_eq_true, Bool.not_eq_true', decide_eq_false_iff_not] at q
    rcases q with (q | q) | q
    · exact absurd hlt q
    · exact .inl q
    · refine .inr ?_
      unfold freeOk at q
      simp only [Bool.and_eq_true, Bool.not_eq_true', Bool.and_eq_false_iff] at q
      refine ⟨fun d hd => ?_, fun d hd => ?_, fun hb => ?_⟩
      · have := q.1.1; rw [hd] at this; simpa using this
      · have := q.1.2; rw [hd] at this; simpa using this
      · rcases q.2 with q | q
        · simp [isBig, hb.1] at q
        · simp [isBig, hb.2] at q
section
variable {P : Program} {call : CallF} {ops : Array Oper} {st : Nat → St} {v : Nat → Value} {N : Nat} {m0 : BM} {h0 : HG} {w0 : World}
structure Inv (P : Program) (ops : Array Oper) (st : Nat → St) (v : Nat → Value) (N : Nat) (m0 : BM) (h0 : HG) (w0 : World) (S : Nat → Prop) (c : Nat) (m : BM) (h : HG) (w : World) (a : Act) : Prop where
  dom : ∀ i, S i → i < ops.size
  down : ∀ j o e, S j → ops[j]? = some o → e ∈ o.after.toList → Region.binds .any e = true → S e.on
  bigs : ∀ i, Big P ops st i → (i < c ↔ S i)
  last : c = 0 ∨ ∃ i, c = i + 1 ∧ Big P ops st i
  cn : c ≤ ops.size
  hA : ∀ b, b < (st c).hp.sz → h b = (st c).hp.get b
  hB : ∀ b, (st ops.size).hp.sz ≤ b → h b = h0 b
  hC : ∀ b, (st c).hp.sz ≤ b → b < (st ops.size).hp.sz → (∃ k o, c ≤ k ∧ PA P ops st v k o ∧ (st k).hp.sz = b ∧ h b = some o) ∨ ((∀ k o, PA P ops st v k o → (st k).hp.sz ≠ b) ∧ h b = none)
  mat : ∀ k o, PA P ops st v k o → ¬ S k → m (st k).hp.sz = none ∧ h (st k).hp.sz = some o
  go : Go1 m0 (ovr (st 0).hp h0) w0 m h w
  tsize : a.tmps.size = N
  tm : ∀ t, (∃ j oj, S j ∧ ops[j]? = some oj ∧ oj.dst = some t ∧ (∀ j' o', S j' → ops[j']? = some o' → o'.dst = some t → j' ≤ j) ∧ VRel m h (v j) (a.tmps.getD t undef)) ∨
    ((∀ j oj, S j → ops[j]? = some oj → oj.dst ≠ some t) ∧ VRel m h ((st 0).tget t) (a.tmps.getD t undef))
  df : DRel m h (st c).df a.defers
omit [Inhabited Prop] in
theorem PA.lt {i : Nat} {b : Blk} (h : PA P ops st v i b) : i < ops.size := by
  obtain ⟨o, h1, _⟩ := h
  exact (Array.getElem?_eq_some_iff.1 h1).1
variable (hs : ∀ i o, ops[i]? = some o → StepAt P call ops (st i) (st (i + 1)) (v i) o) (hc : CallOk P call) (hk : (st 0).hp.ok) (hsafe : Safe P ops)
include hs hc hk
theorem PA.order {i k : Nat} {b : Blk} (h : PA P ops st v i b) (hik : i < k) (hkn : k ≤ ops.size) : (st i).hp.sz < (st k).hp.sz := by
  have e := (h.next hs).1
  have := trace_sz hs hc hk k (show i + 1 ≤ k by omega) hkn
  rw [e, Hp.sz_push] at this
  omega
theorem PA.inj {i k : Nat} {b b' : Blk} (h : PA P ops st v i b) (h' : PA P ops st v k b') (e : (st i).hp.sz = (st k).hp.sz) : i = k := by
  rcases Nat.lt_trichotomy i k with q | q | q
  · have := h.order hs hc hk q (Nat.le_of_lt h'.lt); omega
  · exact q
  · have := h'.order hs hc hk q (Nat.le_of_lt h.lt); omega
theorem Inv.agree {S : Nat → Prop} {c : Nat} {m : BM} {h : HG} {w : World} {a : Act} (I : Inv P ops st v N m0 h0 w0 S c m h w a) {i : Nat} (hci : c ≤ i) (hi : i ≤ ops.size) (hq : ∀ k, c ≤ k → k < i → ¬ Big P ops st k) :
    ∀ b, b < (st i).hp.sz → h b = (st i).hp.get b := by
  intro b hb
  obtain ⟨k0, k1, k2, k3⟩ := quiet hs i hci hi hq
  rcases Nat.lt_or_ge b (st c).hp.sz with q | q
  · rw [I.hA b q, k1 b q]
  · obtain ⟨k, o, q1, q2, q3, q4, q5⟩ := k2 b q hb
    have hbn : b < (st ops.size).hp.sz := Nat.lt_of_lt_of_le hb (trace_sz hs hc hk ops.size hi (Nat.le_refl _))
    rcases I.hC b q hbn with ⟨k', o', r1, r2, r3, r4⟩ | ⟨r1, _⟩
    · have := r2.inj hs hc hk q3 (r3.trans q4.symm)
      subst this
      rw [r4, q5, r2.uniq q3]
    · exact absurd q4 (r1 k o q3)
theorem Inv.fresh {S : Nat → Prop} {c : Nat} {m : BM} {h : HG} {w : World} {a : Act} (I : Inv P ops st v N m0 h0 w0 S c m h w a) {i : Nat} (hci : c ≤ i) (hi : Big P ops st i) :
    ∀ b, (st i).hp.sz ≤ b → b < (st (i + 1)).hp.sz → h b = none := by
  intro b h1 h2
  obtain ⟨o, ho, _, _⟩ := id hi
  have hin : i < ops.size := (Array.getElem?_eq_some_iff.1 ho).1
  have hcs : (st c).hp.sz ≤ b := Nat.le_trans (trace_sz hs hc hk i hci (by omega)) h1
  have hbn : b < (st ops.size).hp.sz := Nat.lt_of_lt_of_le h2 (trace_sz hs hc hk ops.size (by omega) (Nat.le_refl _))
  rcases I.hC b hcs hbn with ⟨k, o', r1, r2, r3, r4⟩ | ⟨_, r2⟩
  · exfalso
    rcases Nat.lt_trichotomy k i with q | q | q
    · have := r2.order hs hc hk q (by omega); omega
    · subst q; exact r2.notBig hi
    · have := trace_sz hs hc hk k (show i + 1 ≤ k by omega) (Nat.le_of_lt r2.lt); omega
  · exact r2
omit hs hc hk in
include hsafe in
theorem Inv.anc {S : Nat → Prop} {c : Nat} {m : BM} {h : HG} {w : World} {a : Act} (I : Inv P ops st v N m0 h0 w0 S c m h w a) : ∀ (n y x : Nat), y < n → S y → ((Region.before ops).getD y 0).testBit x = true → S x
  | 0, y, x, hn, _, _ => by omega
  | n + 1, y, x, hn, hy, hb => by
    have ho := Array.getElem?_eq_getElem (I.dom y hy)
    obtain ⟨e, h1, h2, h3⟩ := before_spec ho hb
    have hlt := hsafe.after y _ e ho h1 h2
    have hS := I.down y _ e hy ho h1 h2
    rcases h3 with rfl | h3
    · exact hS
    · exact Inv.anc I n e.on x (by omega) hS h3
structure Nxt (P : Program) (ops : Array Oper) (st : Nat → St) (S : Nat → Prop) (i : Nat) (o : Oper) : Prop where
  new : ¬ S i
  get : ops[i]? = some o
  pre : ∀ e ∈ o.after.toList, Region.binds .any e = true → S e.on
omit hs hc hk in
include hsafe in
theorem Nxt.anc {S : Nat → Prop} {c : Nat} {m : BM} {h : HG} {w : World} {a : Act} (I : Inv P ops st v N m0 h0 w0 S c m h w a) {i : Nat} {o : Oper} (n : Nxt P ops st S i o) {x : Nat} (hb : ((Region.before ops).getD i 0).testBit x = true) : S x := by
  obtain ⟨e, h1, h2, h3⟩ := before_spec n.get hb
  rcases h3 with rfl | h3
  · exact n.pre e h1 h2
  · exact I.anc hsafe _ e.on x (Nat.lt_succ_self _) (n.pre e h1 h2) h3
omit hs hc hk in
include hsafe in
theorem Nxt.writers {S : Nat → Prop} {c : Nat} {m : BM} {h : HG} {w : World} {a : Act} (I : Inv P ops st v N m0 h0 w0 S c m h w a) {i : Nat} {o : Oper} (n : Nxt P ops st S i o) {t : Tmp} (ht : t ∈ tmpsOf ops o) {x : Nat} {ox : Oper} (hx : ops[x]? = some ox) (hd : ox.dst = some t) :
    (x < i → S x) ∧ (S x → x < i) := by
  refine ⟨fun hlt => ?_, fun hS => ?_⟩
  · rcases hsafe.pair x i ox o hx n.get hlt with q | q
    · exact n.anc hsafe I q
    · exact absurd ht (q.1 t hd)
  · rcases Nat.lt_trichotomy x i with q | q | q
    · exact q
    · subst q; exact absurd hS n.new
    · rcases hsafe.pair i x o ox n.get hx q with r | r
      · exact absurd (I.anc hsafe _ x i (Nat.lt_succ_self _) hS r) n.new
      · exact absurd ht (r.2.1 t hd)
omit hc hk in
include hsafe in
theorem Nxt.names {S : Nat → Prop} {c : Nat} {m : BM} {h : HG} {w : World} {a : Act} (I : Inv P ops st v N m0 h0 w0 S c m h w a) {i : Nat} {o : Oper} (n : Nxt P ops st S i o) {t : Tmp} (ht : t ∈ tmpsOf ops o) :
    VRel m h ((st i).tget t) (a.tmps.getD t undef) := by
  have hin : i < ops.size := (Array.getElem?_eq_some_iff.1 n.get).1
  rcases I.tm t with ⟨j, oj, h1, h2, h3, h4, h5⟩ | ⟨h1, h2⟩
  · rcases tget_at hs t i (by omega) with ⟨j', oj', q1, q2, q3, q4, q5⟩ | ⟨q1, q2⟩
    · have a1 := h4 j' oj' ((n.writers hsafe I ht q2 q3).1 q1) q2 q3
      have a2 := q4 j oj ((n.writers hsafe I ht h2 h3).2 h1) h2 h3
      have : j' = j := by omega
      subst this
      rw [q5]; exact h5
    · exact absurd h3 (q1 j oj ((n.writers hsafe I ht h2 h3).2 h1) h2)
  · rcases tget_at hs t i (by omega) with ⟨j', oj', q1, q2, q3, q4, q5⟩ | ⟨q1, q2⟩
    · exact absurd q3 (h1 j' oj' ((n.writers hsafe I ht q2 q3).1 q1) q2)
    · rw [q2]; exact h2
omit hs hc hk in
theorem Nxt.tmps {S : Nat → Prop} {c : Nat} {m : BM} {h : HG} {w : World} {a : Act} (hsafe : Safe P ops) (I : Inv P ops st v N m0 h0 w0 S c m h w a) {i : Nat} {o : Oper} (n : Nxt P ops st S i o) {m' : BM} {h' : HG} (l : Le m h m' h') {v' : Value} (hv : VRel m' h' (v i) v') {ds' : List Deferred} (hb : ∀ x, o.dst = some x → x < N) :
    ∀ t, (∃ j oj, (S j ∨ j = i) ∧ ops[j]? = some oj ∧ oj.dst = some t ∧ (∀ j' o', (S j' ∨ j' = i) → ops[j']? = some o' → o'.dst = some t → j' ≤ j) ∧ VRel m' h' (v j) ((({ a with defers := ds' } : Act).put o.dst v').tmps.getD t undef)) ∨
      ((∀ j oj, (S j ∨ j = i) → ops[j]? = some oj → oj.dst ≠ some t) ∧ VRel m' h' ((st 0).tget t) ((({ a with defers := ds' } : Act).put o.dst v').tmps.getD t undef)) := by
  intro t
  rw [Act.getD_put _ _ _ _ (fun x hx => by have := hb x hx; rw [← I.tsize] at this; exact this)]
  by_cases hd : o.dst = some t
  · rw [if_pos hd]
    refine .inl ⟨i, o, .inr rfl, n.get, hd, fun j' o' h1 h2 h3 => ?_, hv⟩
    rcases h1 with h1 | rfl
    · exact Nat.le_of_lt ((n.writers hsafe I (t := t) (by simp [tmpsOf, hd]) h2 h3).2 h1)
    · exact Nat.le_refl _
  · rw [if_neg hd]
    rcases I.tm t with ⟨j, oj, h1, h2, h3, h4, h5⟩ | ⟨h1, h2⟩
    · refine .inl ⟨j, oj, .inl h1, h2, h3, fun j' o' q1 q2 q3 => ?_, h5.mono l⟩
      rcases q1 with q1 | rfl
      · exact h4 j' o' q1 q2 q3
      · rw [n.get] at q2; cases q2; exact absurd q3 hd
    · refine .inr ⟨fun j oj q1 q2 q3 => ?_, h2.mono l⟩
      rcases q1 with q1 | rfl
      · exact h1 j oj q1 q2 q3
      · rw [n.get] at q2; cases q2; exact hd q3
end
end Go.Proofs.Ytbhmodlpolgklaa.AI
namespace Go.Proofs.Ytbhmodlpolgklaa.AI
open Go
variable [Inhabited Prop]
section
variable {P : Program} {call : CallF} {ops : Array Oper} {st : Nat → St} {v : Nat → Value} {N : Nat} {m0 : BM} {h0 : HG} {w0 : World}
variable (hs : ∀ i o, ops[i]? = some o → StepAt P call ops (st i) (st (i + 1)) (v i) o) (hc : CallOk P call) (hk : (st 0).hp.ok) (hsafe : Safe P ops)
include hs hc hk hsafe
omit hs hc hk hsafe in
theorem Nxt.still {S : Nat → Prop} {c : Nat} {m : BM} {h : HG} {w : World} {a : Act} (hsafe : Safe P ops) (I : Inv P ops st v N m0 h0 w0 S c m h w a) {i : Nat} {o : Oper} (n : Nxt P ops st S i o)
    (hb : ¬ Big P ops st i) (hp : ∀ b, ¬ PA P ops st v i b) (hd : ∀ x, o.dst = some x → x < N) {v' : Value} (hv : VRel m h (v i) v') :
    Inv P ops st v N m0 h0 w0 (fun x => S x ∨ x = i) c m h w (a.put o.dst v') := by
  refine ⟨?_, ?_, ?_, I.last, I.cn, I.hA, I.hB, I.hC, ?_, I.go, by rw [Act.size_put]; exact I.tsize, ?_, by rw [Act.defers_put]; exact I.df⟩
  · rintro x (hx | rfl)
    · exact I.dom x hx
    · exact (Array.getElem?_eq_some_iff.1 n.get).1
  · rintro j u ed (hj | rfl) hu he hbd
    · exact .inl (I.down j u ed hj hu he hbd)
    · rw [n.get] at hu; cases hu
      exact .inl (n.pre ed he hbd)
  · intro x hx
    refine ⟨fun q => .inl ((I.bigs x hx).1 q), fun q => ?_⟩
    rcases q with q | rfl
    · exact (I.bigs x hx).2 q
    · exact absurd hx hb
  · intro k u hu hS
    exact I.mat k u hu (fun q => hS (.inl q))
  · exact n.tmps (ds' := a.defers) hsafe I (Le.refl _ _) hv hd
theorem Nxt.step {S : Nat → Prop} {c : Nat} {m : BM} {h : HG} {w : World} {a : Act} (hf : FloatsOk P ops st v) (h0f : ∀ b, (st 0).hp.sz ≤ b → b < (st ops.size).hp.sz → h0 b = none)
    (I : Inv P ops st v N m0 h0 w0 S c m h w a) {i : Nat} {o : Oper} (n : Nxt P ops st S i o) (hok : okOp N o = true) {K : Act → World → Prop} {Q : Exit → Act → World → Prop}
    (hK : ∀ c' m' h' w' a', Inv P ops st v N m0 h0 w0 (fun x => S x ∨ x = i) c' m' h' w' a' → K a' w') : wpOp P ops Q i K a w := by
  obtain ⟨hb, hop⟩ := okOp_dst hok
  have hin : i < ops.size := (Array.getElem?_eq_some_iff.1 n.get).1
  have hnames : ∀ t, t ∈ tmpsOf ops o → VRel m h ((st i).tget t) (a.tmps.getD t undef) := fun t ht => n.names hs hsafe I ht
  have hwant : Region.wanted o (yielded ops a.tmps) = aWanted ops (st i) o := wanted_iff fun j wd t hg ht => hnames t (by simp [tmpsOf, hg, ht])
  have hops : ∀ x ∈ o.op.operands.toList, VRel m h ((st i).eval x) (a.eval x) := by
    intro x hx
    have hx' := hop x hx
    cases x with
    | tmp t => exact hnames t (by
        unfold tmpsOf
        simp only [List.mem_append]
        exact .inl (.inr (List.mem_filterMap.2 ⟨.tmp t, hx, rfl⟩)))
    | const u => exact VRel.plain hx'
    | global g => cases hx'
    | func f => exact VRel.fn f
  unfold wpOp
  rw [n.get]
  simp only [hwant]
  rcases hs i o n.get with ⟨hw, hv, _⟩ | ⟨hw, hp', df', hst, e⟩
  · -- passed over
    rw [hw]
    simp only [Bool.false_eq_true, if_false]
    refine hK c m h w _ (n.still hsafe I ?_ ?_ hb (by rw [hv]; exact VRel.undef))
    · rintro ⟨o', q1, q2, _⟩; rw [n.get] at q1; cases q1; rw [hw] at q2; cases q2
    · rintro b ⟨o', q1, q2, _⟩; rw [n.get] at q1; cases q1; rw [hw] at q2; cases q2
  · rw [hw]
    simp only [if_true]
    refine .inl ?_
    have hst0 := hst
    unfold aStep at hst
    split at hst
    · rename_i hcl
      have hnb : ¬ Big P ops st i := by rintro ⟨o', q1, _, q3⟩; rw [n.get] at q1; cases q1; rw [hcl] at q3; cases q3
      split at hst
      · -- no block
        rename_i v0 hopp
        cases hst
        obtain ⟨v', h1, h2⟩ : LaysN P m h w (st i).hp.sz none (v i) _ := opP_sound hopp hops
        unfold Oper.wp
        rw [h1, Oper.upon_value]
        refine hK c m h w _ (n.still hsafe I hnb ?_ hb h2)
        rintro b ⟨o', q1, q2, q3, q4⟩; rw [n.get] at q1; cases q1; rw [hopp] at q4; cases q4
      · -- a new block
        rename_i v0 b hopp
        cases hst
        have hPA : PA P ops st v i b := ⟨o, n.get, hw, hcl, hopp⟩
        obtain ⟨hm0, hh0⟩ := I.mat i b hPA n.new
        obtain ⟨v', obj, E, h1, h2, h3⟩ : LaysN P m h w (st i).hp.sz (some b) (v i) _ := opP_sound hopp hops
        have hupd : updH h (st i).hp.sz b = h := by
          funext x; unfold updH; split
          · rename_i e; rw [e, hh0]
          · rfl
        rw [hupd] at h2
        have h0s : ovr (st 0).hp h0 (st i).hp.sz = none := by
          have q1 := trace_sz hs hc hk i (Nat.zero_le _) (Nat.le_of_lt hin)
          have q2 := hPA.order hs hc hk hin (Nat.le_refl _)
          unfold ovr; rw [if_neg (by omega)]
          exact h0f _ q1 q2
        obtain ⟨g, l⟩ := mat_go I.go hh0 hm0 h0s h3
        unfold Oper.wp
        rw [h1, Oper.upon_value]
        refine hK c (updM m (st i).hp.sz (w.heap.size, 0, E)) h _ _ ⟨?_, ?_, ?_, I.last, I.cn, I.hA, I.hB, I.hC, ?_, g, by rw [Act.size_put]; exact I.tsize, n.tmps (ds' := a.defers) hsafe I l h2 hb, by rw [Act.defers_put]; exact I.df.mono l⟩
        · rintro x (hx | rfl)
          · exact I.dom x hx
          · exact hin
        · rintro j u ed (hj | rfl) hu he hbd
          · exact .inl (I.down j u ed hj hu he hbd)
          · rw [n.get] at hu; cases hu
            exact .inl (n.pre ed he hbd)
        · intro x hx
          refine ⟨fun q => .inl ((I.bigs x hx).1 q), fun q => ?_⟩
          rcases q with q | rfl
          · exact (I.bigs x hx).2 q
          · exact absurd hx hnb
        · intro k u hu hS
          obtain ⟨r1, r2⟩ := I.mat k u hu (fun q => hS (.inl q))
          refine ⟨?_, r2⟩
          have hne : (st k).hp.sz ≠ (st i).hp.sz := fun e => hS (.inr (hu.inj hs hc hk hPA e))
          simp only [updM_at]; rw [if_neg hne]; exact r1
      · cases hst
    · -- reads
      rename_i hcl
      have hnb : ¬ Big P ops st i := by rintro ⟨o', q1, _, q3⟩; rw [n.get] at q1; cases q1; rw [hcl] at q3; cases q3
      have hnp : ∀ b, ¬ PA P ops st v i b := by rintro b ⟨o', q1, _, q3, _⟩; rw [n.get] at q1; cases q1; rw [hcl] at q3; cases q3
      split at hst
      · rename_i v0 hopr
        cases hst
        have hok' : ∀ k, k ≤ ops.size → (st k).hp.ok := trace_ok hs hc hk
        have sub : ∀ k, c ≤ k → k ≤ ops.size → (∀ x, c ≤ x → x < k → ¬ Big P ops st x) → Sub (st k).hp.get h := by
          intro k h1 h2 h3 b ob hbo
          rw [I.agree hs hc hk h1 h2 h3 b ((hok' k h2).lt hbo)]
          exact hbo
        have hread : opR P (st i).eval h o = some (v i) := by
          by_cases hci : c ≤ i
          · by_cases hex : ∃ k, c ≤ k ∧ k < i ∧ Big P ops st k
            · -- the first great operation that is not done
              obtain ⟨k, r1, r2, r3, r4⟩ : ∃ k, c ≤ k ∧ k < i ∧ Big P ops st k ∧ ∀ x, c ≤ x → x < k → ¬ Big P ops st x := by
                obtain ⟨k, r1, r2, r3⟩ := hex
                have : ∀ d k, k < d → c ≤ k → k < i → Big P ops st k → ∃ k, c ≤ k ∧ k < i ∧ Big P ops st k ∧ ∀ x, c ≤ x → x < k → ¬ Big P ops st x := by
                  intro d
                  induction d with
                  | zero => intro k hk; omega
                  | succ d ih =>
                    intro k hkd h1 h2 h3
                    by_cases hx : ∃ x, c ≤ x ∧ x < k ∧ Big P ops st x
                    · obtain ⟨x, x1, x2, x3⟩ := hx
                      exact ih x (by omega) x1 (by omega) x3
                    · exact ⟨k, h1, h2, h3, fun x x1 x2 x3 => hx ⟨x, x1, x2, x3⟩⟩
                exact this _ k (Nat.lt_succ_self _) r1 r2 r3
              obtain ⟨ok, ho1, ho2, ho3⟩ := id r3
              have hnS : ¬ S k := fun q => by have := (I.bigs k r3).2 q; omega
              have hun : ((Region.before ops).getD i 0).testBit k = false := by
                cases hq : ((Region.before ops).getD i 0).testBit k with
                | false => rfl
                | true => exact absurd (n.anc hsafe I hq) hnS
              have := (hf i k o ok n.get ho1 hw ho2 hcl ho3 (by rw [if_neg (by omega)]; exact hun)).1 (by omega)
              exact opR_mono (sub k r1 (by omega) r4) this
            · exact opR_mono (sub i hci (Nat.le_of_lt hin) (fun x x1 x2 x3 => hex ⟨x, x1, x2, x3⟩)) hopr
          · -- great operations behind it are done
            rcases I.last with hl | ⟨k, hl, hkb⟩
            · omega
            · obtain ⟨ok, ho1, ho2, ho3⟩ := id hkb
              have hSk : S k := (I.bigs k hkb).1 (by omega)
              have hik : i < k := by
                rcases Nat.lt_or_ge i k with q | q
                · exact q
                · have : i = k := by omega
                  subst this; exact absurd hkb hnb
              have hun : ((Region.before ops).getD k 0).testBit i = false := by
                cases hq : ((Region.before ops).getD k 0).testBit i with
                | false => rfl
                | true => exact absurd (I.anc hsafe _ k i (Nat.lt_succ_self _) hSk hq) n.new
              have := (hf i k o ok n.get ho1 hw ho2 hcl ho3 (by rw [if_pos hik]; exact hun)).2 hik
              rw [← hl] at this
              exact opR_mono (sub c (Nat.le_refl _) I.cn (fun x x1 x2 => by omega)) this
        obtain ⟨v', h1, h2⟩ := opR_sound I.go.sim hread hops
        unfold Oper.wp
        rw [h1, Oper.upon_value]
        exact hK c m h w _ (n.still hsafe I hnb hnp hb h2)
      · cases hst
    · -- great ones
      rename_i hcl
      have hbig : Big P ops st i := ⟨o, n.get, hw, hcl⟩
      have hci : c ≤ i := by
        rcases Nat.lt_or_ge i c with q | q
        · exact absurd ((I.bigs i hbig).1 q) n.new
        · exact q
      have hq : ∀ k, c ≤ k → k < i → ¬ Big P ops st k := by
        intro k h1 h2 hkb
        obtain ⟨ok, ho1, ho2, ho3⟩ := id hkb
        rcases hsafe.pair k i ok o ho1 n.get h2 with q | q
        · have := (I.bigs k hkb).2 (n.anc hsafe I q); omega
        · exact q.2.2 ⟨ho3, hcl⟩
      have hag := I.agree hs hc hk hci (Nat.le_of_lt hin) hq
      have hfr := I.fresh hs hc hk hci hbig
      have hovr : ovr (st i).hp h = h := ovr_self hag
      have hdf : (st i).df = (st c).df := (quiet hs i hci (Nat.le_of_lt hin) hq).2.2.2
      obtain ⟨k1, k2, k3⟩ := step_sound hc hst0 (trace_ok hs hc hk i (Nat.le_of_lt hin))
      have e1 : (st (i + 1)).hp = hp' := by rw [e, tput_hp]
      have e2 : (st (i + 1)).df = df' := by rw [e, tput_df]
      rw [e1] at hfr
      refine k3 m h w a hfr (by rw [hovr]; exact I.go.sim) (by rw [hovr]; exact hops) (by rw [hovr, hdf]; exact I.df) K Q ?_
      intro m' w' v' ds' g hv hd
      rw [hovr] at g
      rw [← e1] at g hv hd
      have hszn : (st (i + 1)).hp.sz ≤ (st ops.size).hp.sz := trace_sz hs hc hk ops.size (by omega) (Nat.le_refl _)
      refine hK (i + 1) m' (ovr (st (i + 1)).hp h) w' _ ⟨?_, ?_, ?_, .inr ⟨i, rfl, hbig⟩, by omega, ?_, ?_, ?_, ?_, I.go.trans g, by rw [Act.size_put]; exact I.tsize, n.tmps hsafe I g.le hv hb, by rw [Act.defers_put, e2]; exact hd⟩
      · rintro x (hx | rfl)
        · exact I.dom x hx
        · exact hin
      · rintro j u ed (hj | rfl) hu he hbd
        · exact .inl (I.down j u ed hj hu he hbd)
        · rw [n.get] at hu; cases hu
          exact .inl (n.pre ed he hbd)
      · intro x hx
        refine ⟨fun q => ?_, fun q => ?_⟩
        · by_cases e : x = i
          · exact .inr e
          · refine .inl ((I.bigs x hx).1 ?_)
            rcases Nat.lt_or_ge x c with r | r
            · exact r
            · exact absurd hx (hq x r (by omega))
        · rcases q with q | rfl
          · have := (I.bigs x hx).2 q; omega
          · exact Nat.lt_succ_self _
      · intro b hbb; unfold ovr; rw [if_pos hbb]
      · intro b hbb
        unfold ovr; rw [if_neg (by omega)]
        exact I.hB b hbb
      · intro b hb1 hb2
        have hcb : (st c).hp.sz ≤ b := Nat.le_trans (trace_sz hs hc hk (i + 1) (by omega) (by omega)) hb1
        have hov : ovr (st (i + 1)).hp h b = h b := by unfold ovr; rw [if_neg (by omega)]
        rw [hov]
        rcases I.hC b hcb hb2 with ⟨k, u, r1, r2, r3, r4⟩ | r
        · refine .inl ⟨k, u, ?_, r2, r3, r4⟩
          rcases Nat.lt_trichotomy k i with q | q | q
          · have := r2.order hs hc hk q (Nat.le_of_lt hin)
            rw [← e1] at k2; omega
          · subst q; exact absurd hbig r2.notBig
          · exact q
        · exact .inr r
      · intro k u hu hS
        obtain ⟨r1, r2⟩ := I.mat k u hu (fun q => hS (.inl q))
        exact ⟨g.un _ _ r2 r1, g.idle _ _ r2 r1⟩
theorem any_sound (hf : FloatsOk P ops st v) (h0f : ∀ b, (st 0).hp.sz ≤ b → b < (st ops.size).hp.sz → h0 b = none) (hok : ∀ (i : Nat) (o : Oper), ops[i]? = some o → okOp N o = true) {Q : Exit → Act → World → Prop}
    (hQ : ∀ m' w' a', Go1 m0 (ovr (st 0).hp h0) w0 m' (ovr (st ops.size).hp h0) w' → Rel N m' h0 w' (st ops.size) a' → Q .normal a' w') :
    ∀ (fuel : Nat) (listed : Array Bool) (S : Nat → Prop) (c : Nat) (m : BM) (h : HG) (w : World) (a : Act), listed.size = ops.size → (∀ i, S i ↔ listed.getD i false = true) →
      (listed.toList.filter (! ·)).length = fuel → Inv P ops st v N m0 h0 w0 S c m h w a → wpAny P .any ops Q fuel listed a w := by
  have hend : ∀ (listed : Array Bool) (S : Nat → Prop) (c : Nat) (m : BM) (h : HG) (w : World) (a : Act), listed.size = ops.size → (∀ i, S i ↔ listed.getD i false = true) →
      Inv P ops st v N m0 h0 w0 S c m h w a → Region.ready .any ops listed = [] → Q .normal a w := by
    intro listed S c m h w a hl hS I hr
    have hall : ∀ d i, i < d → i < ops.size → S i := by
      intro d
      induction d with
      | zero => intro i hi; omega
      | succ d ih =>
        intro i hi hin
        by_cases hSi : S i
        · exact hSi
        · exfalso
          have : i ∈ Region.ready .any ops listed := by
            rw [mem_ready]
            refine ⟨?_, ops[i], Array.getElem?_eq_getElem hin, fun e he hb => ?_⟩
            · have h1 : listed.getD i false = false := by
                cases hq : listed.getD i false with
                | false => rfl
                | true => exact absurd ((hS i).2 hq) hSi
              have hil : i < listed.size := by omega
              simp only [Array.getD_eq_getD_getElem?, Array.getElem?_eq_getElem hil, Option.getD_some] at h1 ⊢
              exact h1
            · have hlt := hsafe.after i _ e (Array.getElem?_eq_getElem hin) (Array.mem_toList_iff.2 he) hb
              exact (hS e.on).1 (ih e.on (by omega) (by omega))
          rw [hr] at this; cases this
    have hSall : ∀ i, i < ops.size → S i := fun i hi => hall _ i (Nat.lt_succ_self _) hi
    have hq : ∀ k, c ≤ k → k < ops.size → ¬ Big P ops st k := fun k h1 h2 hb => by
      have := (I.bigs k hb).2 (hSall k h2); omega
    have hag := I.agree hs hc hk I.cn (Nat.le_refl _) hq
    have hh : ovr (st ops.size).hp h0 = h := by
      funext b; unfold ovr
      split
      · rename_i hb; exact (hag b hb).symm
      · rename_i hb; exact (I.hB b (by omega)).symm
    have hdf : (st ops.size).df = (st c).df := (quiet hs ops.size I.cn (Nat.le_refl _) hq).2.2.2
    refine hQ m w a (by rw [hh]; exact I.go) ⟨by rw [hh]; exact I.go.sim, ⟨I.tsize, fun t => ?_⟩, by rw [hh, hdf]; exact I.df⟩
    rw [hh]
    rcases I.tm t with ⟨j, oj, h1, h2, h3, h4, h5⟩ | ⟨h1, h2⟩
    · rcases tget_at hs t ops.size (Nat.le_refl _) with ⟨j', oj', q1, q2, q3, q4, q5⟩ | ⟨q1, q2⟩
      · have a1 := h4 j' oj' (hSall j' q1) q2 q3
        have a2 := q4 j oj (I.dom j h1) h2 h3
        have : j' = j := by omega
        subst this
        rw [q5]; exact h5
      · exact absurd h3 (q1 j oj (I.dom j h1) h2)
    · rcases tget_at hs t ops.size (Nat.le_refl _) with ⟨j', oj', q1, q2, q3, q4, q5⟩ | ⟨q1, q2⟩
      · exact absurd q3 (h1 j' oj' (hSall j' q1) q2)
      · rw [q2]; exact h2
  intro fuel
  induction fuel with
  | zero =>
    intro listed S c m h w a hl hS hn I
    have hr : Region.ready .any ops listed = [] := by
      apply List.eq_nil_iff_forall_not_mem.2
      intro i hi
      rw [mem_ready] at hi
      obtain ⟨h1, o, ho, _⟩ := hi
      have hin : i < listed.size := by rw [hl]; exact (Array.getElem?_eq_some_iff.1 ho).1
      simp only [Array.getD_eq_getD_getElem?, Array.getElem?_eq_getElem hin, Option.getD_some] at h1
      have : listed[i] ∈ listed.toList.filter (! ·) := List.mem_filter.2 ⟨by simp, by rw [h1]; rfl⟩
      rw [List.eq_nil_of_length_eq_zero hn] at this
      cases this
    exact ⟨hr, hend listed S c m h w a hl hS I hr⟩
  | succ fuel ih =>
    intro listed S c m h w a hl hS hn I
    refine ⟨hend listed S c m h w a hl hS I, fun i hi => ?_⟩
    rw [mem_ready] at hi
    obtain ⟨h1, o, ho, hpre⟩ := hi
    have hin : i < listed.size := by rw [hl]; exact (Array.getElem?_eq_some_iff.1 ho).1
    have h1' : listed[i] = false := by
      simpa only [Array.getD_eq_getD_getElem?, Array.getElem?_eq_getElem hin, Option.getD_some] using h1
    have hnew : ¬ S i := fun q => by
      have := (hS i).1 q
      simp only [Array.getD_eq_getD_getElem?, Array.getElem?_eq_getElem hin, Option.getD_some, h1'] at this
      cases this
    have n : Nxt P ops st S i o := ⟨hnew, ho, fun e he hb => (hS e.on).2 (hpre e (Array.mem_toList_iff.1 he) hb)⟩
    refine n.step hs hc hk hsafe hf h0f I (hok i o ho) ?_
    intro c' m' h' w' a' I'
    refine ih _ _ c' m' h' w' a' (by simp [hl]) ?_ ?_ I'
    · intro x
      by_cases e : x = i
      · subst e; simp [hin]
      · rw [getD_set_ne false (Ne.symm e)]
        simp [e, hS x]
    · have hset : (listed.setIfInBounds i true).toList = listed.toList.set i true := by simp
      rw [hset]
      have key : ∀ (l : List Bool) (i : Nat), l[i]? = some false → ((l.set i true).filter (! ·)).length + 1 = (l.filter (! ·)).length := by
        intro l
        induction l with
        | nil => intro i hi; simp at hi
        | cons b l ih =>
          intro i hi
          cases i with
          | zero => simp at hi; subst hi; simp
          | succ i =>
            have := ih i (by simpa using hi)
            cases b <;> simp at this ⊢ <;> omega
      have := key listed.toList i (by rw [Array.getElem?_toList, Array.getElem?_eq_getElem hin, h1'])
      omega
end
open Classical in
noncomputable def ahead (P : Program) (ops : Array Oper) (st : Nat → St) (v : Nat → Value) (h0 : HG) : HG := fun b =>
  if b < (st 0).hp.sz then (st 0).hp.get b else if h : ∃ k o, PA P ops st v k o ∧ (st k).hp.sz = b then some h.choose_spec.choose else h0 b
theorem region_draw {P : Program} {call : CallF} (hc : CallOk P call) (hm : P.follows .mixedOrders = true) {ops : Array Oper} {n id : Nat} {st0 st' : St} (hok : ops.toList.all (okOp n) = true) (hsafe : regSafe P ops = true) (he : aRegion P call ops true st0 = some st') (hk : st0.hp.ok) :
    RegionGoal P n id ops true st0 st' := by
  obtain ⟨st, v, e0, en, hs, hf⟩ := aRegion_trace he
  subst e0
  subst en
  have hok' : ∀ i o, ops[i]? = some o → okOp n o = true := fun i o ho => List.all_eq_true.1 hok o (List.mem_of_getElem? (by simpa using ho))
  refine ⟨trace_ok hs hc hk _ (Nat.le_refl _), trace_sz hs hc hk _ (Nat.zero_le _) (Nat.le_refl _), fun m0 h0 w a hfr r Q hQ => ?_⟩
  refine wp_region_any hm ?_
  have hS := regSafe_safe hsafe
  have hPAlt : ∀ k o, PA P ops st v k o → (st 0).hp.sz ≤ (st k).hp.sz ∧ (st k).hp.sz < (st ops.size).hp.sz := fun k o hp =>
    ⟨trace_sz hs hc hk k (Nat.zero_le _) (Nat.le_of_lt hp.lt), hp.order hs hc hk hp.lt (Nat.le_refl _)⟩
  have hah : ∀ k o, PA P ops st v k o → ahead P ops st v h0 (st k).hp.sz = some o := by
    intro k o hp
    unfold ahead
    have hex : ∃ k' o', PA P ops st v k' o' ∧ (st k').hp.sz = (st k).hp.sz := ⟨k, o, hp, rfl⟩
    rw [if_neg (by have := hPAlt k o hp; omega), dif_pos hex]
    obtain ⟨q1, q2⟩ := hex.choose_spec.choose_spec
    have := q1.inj hs hc hk hp q2
    congr 1
    generalize hg : hex.choose_spec.choose = o' at q1 ⊢
    rw [this] at q1
    exact q1.uniq hp
  have hext : ∀ b o, ovr (st 0).hp h0 b = some o → ahead P ops st v h0 b = some o := by
    intro b o hb
    unfold ovr at hb
    unfold ahead
    split at hb
    · rename_i hlt; rw [if_pos hlt]; exact hb
    · rename_i hlt
      rw [if_neg hlt, dif_neg ?_]
      · exact hb
      · rintro ⟨k, o', hp, hsz⟩
        have := hPAlt k o' hp
        rw [hfr b (by omega) (by omega)] at hb
        cases hb
  have hmn : ∀ b x, m0 b = some x → ∃ o, ovr (st 0).hp h0 b = some o := fun b x hx => by
    obtain ⟨o, ho, _⟩ := r.sim.dom b x hx; exact ⟨o, ho⟩
  have hsame : ∀ b x, m0 b = some x → ahead P ops st v h0 b = ovr (st 0).hp h0 b := fun b x hx => by
    obtain ⟨o, ho⟩ := hmn b x hx
    rw [ho, hext b o ho]
  have hle : Le m0 (ovr (st 0).hp h0) m0 (ahead P ops st v h0) := ⟨fun b hb => hext b _ hb, fun b x hx => .inr hx, fun _ _ _ _ h => h⟩
  have hgo : Go1 m0 (ovr (st 0).hp h0) w m0 (ahead P ops st v h0) { w with drawn := w.drawn + 1 } := by
    refine Go0.go ⟨hle, ⟨fun b x hx => ?_, fun b b' x x' hx hx' hr hl hxx => ?_⟩, Nat.le_refl _, fun _ _ hx => .inl hx, fun _ _ _ => rfl, fun _ _ _ hm => hm, fun b o hb _ => hext b o hb, fun b o hb => ⟨o, hext b o hb⟩, fun b x hx hr => ?_, rfl, ⟨rfl, fun _ => Nat.le_succ _⟩, rfl⟩ r.sim rfl
    · obtain ⟨o, ho, hb⟩ := r.sim.dom b x hx
      exact ⟨o, hext b o ho, hb.mono hle rfl⟩
    · refine r.sim.inj b b' x x' hx hx' ?_ ?_ hxx
      · unfold rw? at hr ⊢; rwa [hsame b x hx] at hr
      · unfold live? at hl ⊢; rwa [hsame b' x' hx'] at hl
    · unfold rw? at hr ⊢; rwa [hsame b x hx] at hr
  refine any_sound hs hc hk hS hf hfr hok' (m0 := m0) (w0 := w) hQ ops.size (Array.replicate ops.size false) (fun _ => False) 0 m0 (ahead P ops st v h0) _ a (by simp) ?_ ?_ ?_
  · intro i
    constructor
    · intro q; cases q
    · intro q
      by_cases hi : i < ops.size <;> simp [hi] at q
  · simp
  · refine ⟨fun i q => q.elim, fun j o e q => q.elim, fun i _ => ⟨fun q => absurd q (Nat.not_lt_zero _), fun q => q.elim⟩, .inl rfl, Nat.zero_le _, ?_, ?_, ?_, ?_, hgo, r.tm.size, ?_, r.df.mono hle⟩
    · intro b hb; unfold ahead; rw [if_pos hb]
    · intro b hb
      have h1 := trace_sz hs hc hk ops.size (Nat.zero_le _) (Nat.le_refl _)
      unfold ahead
      rw [if_neg (by omega), dif_neg ?_]
      rintro ⟨k, o, hp, hsz⟩
      have := hPAlt k o hp; omega
    · intro b h1 h2
      by_cases hex : ∃ k o, PA P ops st v k o ∧ (st k).hp.sz = b
      · obtain ⟨k, o, hp, hsz⟩ := hex
        exact .inl ⟨k, o, Nat.zero_le _, hp, hsz, by rw [← hsz]; exact hah k o hp⟩
      · refine .inr ⟨fun k o hp hsz => hex ⟨k, o, hp, hsz⟩, ?_⟩
        unfold ahead
        rw [if_neg (by omega), dif_neg hex]
        exact hfr b h1 h2
    · intro k o hp _
      refine ⟨?_, hah k o hp⟩
      cases hq : m0 (st k).hp.sz with
      | none => rfl
      | some x =>
        obtain ⟨o', ho'⟩ := hmn _ x hq
        have := hPAlt k o hp
        unfold ovr at ho'
        rw [if_neg (by omega), hfr _ this.1 this.2] at ho'
        cases ho'
    · intro t
      exact .inr ⟨fun j oj q => q.elim, (r.tm.mono hle).tm t⟩
end Go.Proofs.Ytbhmodlpolgklaa.AI
namespace Go.Proofs.Ytbhmodlpolgklaa.AI
open Go
variable [Inhabited Prop]
section
variable {P : Program} {call : CallF}
theorem region_sound (hc : CallOk P call) (hm : P.follows .mixedOrders = true) {ops : Array Oper} {n id : Nat} {draw : Bool} {st st' : St} (hok : ops.toList.all (okOp n) = true) (hs : draw = true → regSafe P ops = true)
    (he : aRegion P call ops draw st = some st') (hk : st.hp.ok) : RegionGoal P n id ops draw st st' := by
  cases draw with
  | false => exact region_plain hc hok he hk
  | true => exact region_draw hc hm hok (hs rfl) he hk
def Ends (P : Program) (N : Nat) (m : BM) (h : HG) (w : World) (st : St) (e : Exit) (st' : St) : Exit → Act → World → Prop :=
  fun e' a' w' => e' = e ∧ ∃ m', Go1 m (ovr st.hp h) w m' (ovr st'.hp h) w' ∧ Rel N m' h w' st' a'
def wpR (P : Program) (n : Nat) (c : Code) (Q : Exit → Act → World → Prop) (a : Act) (w : World) : Prop :=
  match c with
  | .loop b => Code.rounds P b Q n a w
  | c => c.wp P Q a w
omit [Inhabited Prop] in
theorem wpR_wp {n : Nat} {c : Code} {Q : Exit → Act → World → Prop} {a : Act} {w : World} (h : wpR P n c Q a w) : c.wp P Q a w := by
  cases c <;> first | exact h | exact wp_loop_rounds n h
def plainExit : Exit → Prop
  | .normal | .ret | .exit _ => True
  | _ => False
def CodeGoal (P : Program) (N n : Nat) (c : Code) (st : St) (e : Exit) (st' : St) : Prop :=
  plainExit e ∧ st'.hp.ok ∧ st.hp.sz ≤ st'.hp.sz ∧ ∀ (m : BM) (h : HG) (w : World) (a : Act), (∀ b, st.hp.sz ≤ b → b < st'.hp.sz → h b = none) → Rel N m h w st a → wpR P n c (Ends P N m h w st e st') a w
theorem Ends.trans {N : Nat} {m m1 : BM} {h : HG} {w w1 : World} {st st1 st' : St} {e : Exit} (g : Go1 m (ovr st.hp h) w m1 (ovr st1.hp h) w1) {e' : Exit} {a' : Act} {w' : World} (q : Ends P N m1 h w1 st1 e st' e' a' w') : Ends P N m h w st e st' e' a' w' := by
  obtain ⟨q1, m', q2, q3⟩ := q
  exact ⟨q1, m', g.trans q2, q3⟩
omit [Inhabited Prop] in
theorem rounds_mono {c : Code} {Q Q' : Exit → Act → World → Prop} (hq : ∀ e a w, Q e a w → Q' e a w) : ∀ n a w, Code.rounds P c Q n a w → Code.rounds P c Q' n a w
  | 0, _, _, h => h.elim
  | n + 1, a, w, h => by
    rw [rounds_succ] at h ⊢
    refine wp_mono h fun e a' w' q => ?_
    cases e with
    | normal => exact rounds_mono hq n a' w' q
    | _ => exact hq _ _ _ q
theorem exec_sound (hc : CallOk P call) (hm : P.follows .mixedOrders = true) {N : Nat} : ∀ (n : Nat) (c : Code) (st : St) (e : Exit) (st' : St), exec P call n c st = some (e, st') → codeSafe P N c = true → st.hp.ok → CodeGoal P N n c st e st'
  | 0, c, st, e, st', he, _, _ => by cases he
  | n + 1, c, st, e, st', he, hs, hk => by
    cases c with
    | skip =>
      cases he
      exact ⟨trivial, hk, Nat.le_refl _, fun m h w a hf r => wp_skip ⟨rfl, m, Go1.refl r.sim, r⟩⟩
    | label l =>
      cases he
      exact ⟨trivial, hk, Nat.le_refl _, fun m h w a hf r => wp_label ⟨rfl, m, Go1.refl r.sim, r⟩⟩
    | region id ops draw =>
      simp only [exec] at he
      split at he
      · rename_i st1 hr
        cases he
        simp only [codeSafe, Bool.and_eq_true, Bool.or_eq_true, Bool.not_eq_true'] at hs
        obtain ⟨k1, k2, k3⟩ := region_sound (id := id) hc hm hs.1 (fun hd => by rcases hs.2 with q | q; rw [hd] at q; cases q; exact q) hr hk
        exact ⟨trivial, k1, k2, fun m h w a hf r => k3 m h w a hf r _ fun m' w' a' g r' => ⟨rfl, m', g, r'⟩⟩
      · cases he
    | seq x y =>
      simp only [exec] at he
      simp only [codeSafe, Bool.and_eq_true] at hs
      split at he
      · rename_i st1 hx
        obtain ⟨_, k1, k2, k3⟩ := exec_sound hc hm n x st .normal st1 hx hs.1 hk
        obtain ⟨j0, j1, j2, j3⟩ := exec_sound hc hm n y st1 e st' he hs.2 k1
        refine ⟨j0, j1, Nat.le_trans k2 j2, fun m h w a hf r => wp_seq ?_⟩
        refine wp_mono (wpR_wp (k3 m h w a (fun b h1 h2 => hf b h1 (Nat.lt_of_lt_of_le h2 j2)) r)) fun e' a' w' q => ?_
        obtain ⟨rfl, m', g, r'⟩ := q
        exact wp_mono (wpR_wp (j3 m' h w' a' (fun b h1 h2 => hf b (Nat.le_trans k2 h1) h2) r')) fun e2 a2 w2 q2 => Ends.trans g q2
      · rename_i r hne
        obtain ⟨k0, k1, k2, k3⟩ := exec_sound hc hm n x st e st' he hs.1 hk
        refine ⟨k0, k1, k2, fun m h w a hf r => wp_seq ?_⟩
        refine wp_mono (wpR_wp (k3 m h w a hf r)) fun e' a' w' q => ?_
        cases e' with
        | normal => obtain ⟨rfl, _⟩ := q; exact absurd he (hne _)
        | _ => exact q
    | cond x y z =>
      simp only [exec] at he
      simp only [codeSafe, Bool.and_eq_true] at hs
      split at he
      · rename_i hx
        obtain ⟨k0, k1, k2, k3⟩ := exec_sound hc hm n y st e st' he hs.1.2 hk
        refine ⟨k0, k1, k2, fun m h w a hf r => wp_cond_true ?_ (wpR_wp (k3 m h w a hf r))⟩
        have := r.tm.eval hs.1.1
        rw [hx] at this
        exact this.of_bool
      · rename_i hx
        obtain ⟨k0, k1, k2, k3⟩ := exec_sound hc hm n z st e st' he hs.2 hk
        refine ⟨k0, k1, k2, fun m h w a hf r => wp_cond_false ?_ (wpR_wp (k3 m h w a hf r))⟩
        have := r.tm.eval hs.1.1
        rw [hx] at this
        exact this.of_bool
      · cases he
    | block id b =>
      simp only [exec] at he
      simp only [codeSafe] at hs
      split at he
      · rename_i i st1 hb
        obtain ⟨k0, k1, k2, k3⟩ := exec_sound hc hm n b st _ st1 hb hs hk
        split at he
        · rename_i hi
          cases he
          have hi' : i = id := Nat.eq_of_beq_eq_true hi
          subst hi'
          refine ⟨trivial, k1, k2, fun m h w a hf r => wp_block ?_⟩
          refine wp_mono (wpR_wp (k3 m h w a hf r)) fun e' a' w' q => ?_
          obtain ⟨rfl, q2⟩ := q
          show (if i = i then _ else _)
          rw [if_pos rfl]; exact ⟨rfl, q2⟩
        · rename_i hi
          cases he
          have hi' : i ≠ id := fun q => by rw [q, Nat.beq_refl] at hi; cases hi
          refine ⟨trivial, k1, k2, fun m h w a hf r => wp_block ?_⟩
          refine wp_mono (wpR_wp (k3 m h w a hf r)) fun e' a' w' q => ?_
          obtain ⟨rfl, q2⟩ := q
          show (if i = id then _ else _)
          rw [if_neg hi']; exact ⟨rfl, q2⟩
      · rename_i r hne
        obtain ⟨k0, k1, k2, k3⟩ := exec_sound hc hm n b st e st' he hs hk
        refine ⟨k0, k1, k2, fun m h w a hf r => wp_block ?_⟩
        refine wp_mono (wpR_wp (k3 m h w a hf r)) fun e' a' w' q => ?_
        cases e' with
        | exit i => obtain ⟨rfl, _⟩ := q; exact absurd he (hne _ _)
        | _ => exact q
    | loop b =>
      simp only [exec] at he
      simp only [codeSafe] at hs
      split at he
      · rename_i st1 hb
        obtain ⟨_, k1, k2, k3⟩ := exec_sound hc hm n b st _ st1 hb hs hk
        obtain ⟨j0, j1, j2, j3⟩ := exec_sound hc hm n (.loop b) st1 e st' he (by simpa [codeSafe] using hs) k1
        refine ⟨j0, j1, Nat.le_trans k2 j2, fun m h w a hf r => ?_⟩
        show Code.rounds P b _ (n + 1) a w
        rw [rounds_succ]
        refine wp_mono (wpR_wp (k3 m h w a (fun b h1 h2 => hf b h1 (Nat.lt_of_lt_of_le h2 j2)) r)) fun e' a' w' q => ?_
        obtain ⟨rfl, m', g, r'⟩ := q
        exact rounds_mono (fun e2 a2 w2 q2 => Ends.trans g q2) n a' w' (j3 m' h w' a' (fun b h1 h2 => hf b (Nat.le_trans k2 h1) h2) r')
      · rename_i r hne
        obtain ⟨k0, k1, k2, k3⟩ := exec_sound hc hm n b st e st' he hs hk
        refine ⟨k0, k1, k2, fun m h w a hf r => ?_⟩
        show Code.rounds P b _ (n + 1) a w
        rw [rounds_succ]
        refine wp_mono (wpR_wp (k3 m h w a hf r)) fun e' a' w' q => ?_
        cases e' with
        | normal => obtain ⟨rfl, _⟩ := q; exact absurd he (hne _)
        | _ => exact q
    | scope b =>
      simp only [exec] at he
      simp only [codeSafe] at hs
      obtain ⟨k0, k1, k2, k3⟩ := exec_sound hc hm n b st e st' he hs hk
      refine ⟨k0, k1, k2, fun m h w a hf r => wp_scope_straight ?_⟩
      refine wp_mono (wpR_wp (k3 m h w a hf r)) fun e' a' w' q => ?_
      cases e' with
      | goto l => obtain ⟨rfl, _⟩ := q; exact k0
      | _ => exact q
    | exit id =>
      cases he
      exact ⟨trivial, hk, Nat.le_refl _, fun m h w a hf r => wp_exit ⟨rfl, m, Go1.refl r.sim, r⟩⟩
    | ret =>
      cases he
      exact ⟨trivial, hk, Nat.le_refl _, fun m h w a hf r => wp_ret ⟨rfl, m, Go1.refl r.sim, r⟩⟩
    | _ => cases he
def resS (tmps : Array Value) : ResultVar → Sem Value
  | .tmp t => pure (tmps.getD t undef)
  | .cell x t => do loadVar t (← asAddr (tmps.getD x undef))
omit [Inhabited Prop] in
theorem results_eq (fn : Func) (tmps : Array Value) : results fn tmps = (do
    let vs ← fn.results.mapM (resS tmps)
    pure (if h : vs.size = 1 then vs[0] else .tuple vs)) := by
  have : resS tmps = (fun
    | .tmp t => pure (tmps.getD t undef)
    | .cell a t => do loadVar t (← asAddr (tmps.getD a undef)) : ResultVar → Sem Value) := by funext r; cases r <;> rfl
  unfold results
  rw [this]
  congr 2
omit [Inhabited Prop] in
theorem resVar_sound {st : St} {a : Act} {N : Nat} {m : BM} {h : HG} {w : World} (hk : st.hp.ok) (s : Sim m (ovr st.hp h) w) (t : TRel N m (ovr st.hp h) st a) {r : ResultVar} {v : Value} (he : resVar P st r = some v) :
    ∃ v', (resS a.tmps r).run P w = .ok v' w ∧ VRel m (ovr st.hp h) v v' := by
  cases r with
  | tmp x => cases he; exact ⟨_, rfl, t.tm x⟩
  | cell x ty =>
    simp only [resVar] at he
    have hx := t.tm x
    obtain ⟨v', h1, h2⟩ := aLoad_sound s (aLoad_mono (ovr_sub hk h) he) hx
    refine ⟨v', ?_, h2⟩
    unfold aLoad at he
    split at he
    · rename_i ad hq
      rw [hq] at hx
      obtain ⟨b, off, r, off', e1, e2, _⟩ := hx.of_ptr
      rw [e2] at h1
      simp only [resS, e2]
      simpa [Instr.loadAt, Instr.sureAddr, asAddr] using h1
    · cases he
omit [Inhabited Prop] in
theorem resVars_sound {st : St} {a : Act} {N : Nat} {m : BM} {h : HG} {w : World} (hk : st.hp.ok) (s : Sim m (ovr st.hp h) w) (t : TRel N m (ovr st.hp h) st a) : ∀ {rs : List ResultVar} {vs : List Value}, resVars P st rs = some vs →
    ∃ vs' : List Value, (rs.mapM (resS a.tmps)).run P w = .ok vs' w ∧ VRelL m (ovr st.hp h) vs vs'
  | [], vs, he => by cases he; exact ⟨[], rfl, .nil⟩
  | r :: rs, vs, he => by
    simp only [resVars] at he
    split at he
    · rename_i v us hv hus
      cases he
      obtain ⟨v', h1, h2⟩ := resVar_sound hk s t hv
      obtain ⟨us', h3, h4⟩ := resVars_sound hk s t hus
      refine ⟨v' :: us', ?_, .cons h2 h4⟩
      rw [List.mapM_cons]
      simp only [Sem.run_bind, h1, Result.andThen_ok, h3, Sem.run_pure]
    · cases he
omit [Inhabited Prop] in
theorem retVal_sound {fn : Func} {st : St} {a : Act} {N : Nat} {m : BM} {h : HG} {w : World} (hk : st.hp.ok) (s : Sim m (ovr st.hp h) w) (t : TRel N m (ovr st.hp h) st a) {v : Value} (he : retVal P fn st = some v) :
    ∃ v', (results fn a.tmps).run P w = .ok v' w ∧ VRel m (ovr st.hp h) v v' := by
  unfold retVal at he
  have key : ∀ vs, resVars P st fn.results.toList = some vs → ∃ vs' : List Value, (results fn a.tmps).run P w = .ok (if h : vs'.toArray.size = 1 then vs'.toArray[0] else .tuple vs'.toArray) w ∧ VRelL m (ovr st.hp h) vs vs' := by
    intro vs hvs
    obtain ⟨vs', h1, h2⟩ := resVars_sound hk s t hvs
    refine ⟨vs', ?_, h2⟩
    rw [results_eq, Array.mapM_eq_mapM_toList]
    simp only [Sem.run_bind, Sem.run_map]
    rw [h1]
    rfl
  split at he
  · rename_i u hvs
    cases he
    obtain ⟨vs', h1, h2⟩ := key _ hvs
    obtain ⟨u', us', e, r1, r2⟩ := h2.of_cons
    have := r2.of_nil
    subst this; subst e
    exact ⟨u', by simpa using h1, r1⟩
  · rename_i vs hne hvs
    cases he
    obtain ⟨vs', h1, h2⟩ := key _ hvs
    refine ⟨.tuple vs'.toArray, ?_, .tuple h2.toArray.1 h2.toArray.2⟩
    rw [h1]
    congr 1
    rw [dif_neg ?_]
    intro hl
    have hlen : vs.length = 1 := by have := h2.1; simp at hl; omega
    obtain ⟨x, rfl⟩ := List.length_eq_one_iff.1 hlen
    exact hne x rfl
  · cases he
end
end Go.Proofs.Ytbhmodlpolgklaa.AI
namespace Go.Proofs.Ytbhmodlpolgklaa.AI
open Go
variable [Inhabited Prop]
def CallGoal (P : Program) (f : FuncId) (e : List Value → Hp → Option (Value × Hp)) : Prop :=
  ∀ args hp v hp', e args hp = some (v, hp') → hp.ok → hp'.ok ∧ hp.sz ≤ hp'.sz ∧
    ∀ m h w args', (∀ b, hp.sz ≤ b → b < hp'.sz → h b = none) → Sim m (ovr hp h) w → VRelL m (ovr hp h) args args'.toList →
      CallRun P f args' w fun v' w' => ∃ m', Go1 m (ovr hp h) w m' (ovr hp' h) w' ∧ VRel m' (ovr hp' h) v v'
def ExtOk (P : Program) (ext : Ext) : Prop :=
  ∀ f, match ext f with
    | some e => ∀ call, CallOk P call → CallGoal P f (e call)
    | none => ∃ fn, P.funcs[f]? = some fn ∧ fnSafe P fn = true
omit [Inhabited Prop] in
theorem DRel.of_nil {m : BM} {h : HG} {ds : List Deferred} (r : DRel m h [] ds) : ds = [] := by cases r; rfl
omit [Inhabited Prop] in
theorem tmsOf_get : ∀ (args : List Value) (i : Nat) (tr : Tr Value) (x : Nat), (tmsOf args i tr).get x = if i ≤ x ∧ x < i + args.length then args[x - i]? else tr.get x
  | [], i, tr, x => by simp [tmsOf]; intro h1 h2; omega
  | a :: asv, i, tr, x => by
    unfold tmsOf
    rw [tmsOf_get asv (i + 1), Tr.get_set _ _ _ _ _ (Nat.lt_succ_self i)]
    by_cases h : x = i
    · subst h
      rw [if_neg (by omega), if_pos rfl, if_pos (by simp)]
      simp
    · rw [if_neg h]
      by_cases h2 : i + 1 ≤ x ∧ x < i + 1 + asv.length
      · rw [if_pos h2, if_pos (by simp; omega)]
        rw [show x - i = (x - (i + 1)) + 1 from by omega]
        simp
      · rw [if_neg h2, if_neg (by simp; omega)]
section
variable {P : Program} {call : CallF}
omit [Inhabited Prop] in
theorem args_rel {m : BM} {h : HG} {args : List Value} {args' : Array Value} {n : Nat} {hp : Hp} (r : VRelL m h args args'.toList) (hn : args.length ≤ n) :
    TRel n m h ⟨tmsOf args 0 .leaf, hp, []⟩ { tmps := args' ++ Array.replicate (n - args'.size) undef, defers := [] } := by
  have hl : args.length = args'.size := by simpa using r.1
  refine ⟨by simp; omega, fun t => ?_⟩
  simp only [St.tget, tmsOf_get, Nat.zero_le, true_and, Nat.zero_add, Nat.sub_zero, Tr.get_leaf]
  by_cases ht : t < args.length
  · rw [if_pos ht]
    have h1 : args[t]? = some args[t] := List.getElem?_eq_getElem ht
    have h2 : args'.toList[t]? = some args'[t] := by simp [show t < args'.size by omega]
    have := r.2 t _ _ h1 h2
    simp only [h1, Option.getD_some, Array.getD_eq_getD_getElem?, Array.getElem?_append, show t < args'.size by omega, if_true]
    simpa [show t < args'.size by omega] using this
  · rw [if_neg ht]
    have : (args' ++ Array.replicate (n - args'.size) undef).getD t undef = undef := by
      simp only [Array.getD_eq_getD_getElem?, Array.getElem?_append, show ¬ t < args'.size by omega, if_false]
      by_cases hx : t - args'.size < n - args'.size
      · simp [hx]
      · simp [hx]
    rw [this]
    exact VRel.undef
omit [Inhabited Prop] in
theorem fnSafe_parts {fn : Func} (h : fnSafe P fn = true) : ∃ c, fn.body = some c ∧ codeSafe P fn.ntmps c = true ∧ (fn.name == "runtime.NumGoroutine") = false := by
  unfold fnSafe at h
  split at h
  · cases h
  · rename_i c hc
    simp only [Bool.and_eq_true, Bool.not_eq_true'] at h
    exact ⟨c, hc, h.1, h.2⟩
theorem aBody_sound (hc : CallOk P call) (hm : P.follows .mixedOrders = true) {n : Nat} {fn : Func} {c : Code} (hb : fn.body = some c) (hs : codeSafe P fn.ntmps c = true) {args : List Value} {hp : Hp} {st : St} (he : aBody P call n fn args hp = some st) (hk : hp.ok) :
    st.hp.ok ∧ hp.sz ≤ st.hp.sz ∧ ∀ (m : BM) (h : HG) (w : World) (args' : Array Value), (∀ b, hp.sz ≤ b → b < st.hp.sz → h b = none) → Sim m (ovr hp h) w → VRelL m (ovr hp h) args args'.toList →
      c.wp P (fun e' a' w' => (e' = .normal ∨ e' = .ret) ∧ ∃ m', Go1 m (ovr hp h) w m' (ovr st.hp h) w' ∧ Rel fn.ntmps m' h w' st a') { tmps := args' ++ Array.replicate (fn.ntmps - args'.size) undef, defers := [] } w := by
  unfold aBody at he
  simp only [hb] at he
  split at he
  · cases he
  · rename_i hle
    have hle' : args.length ≤ fn.ntmps := Nat.le_of_ble_eq_true hle
    have key : ∀ e, exec P call n c ⟨tmsOf args 0 .leaf, hp, []⟩ = some (e, st) → (e = .normal ∨ e = .ret) →
        st.hp.ok ∧ hp.sz ≤ st.hp.sz ∧ ∀ (m : BM) (h : HG) (w : World) (args' : Array Value), (∀ b, hp.sz ≤ b → b < st.hp.sz → h b = none) → Sim m (ovr hp h) w → VRelL m (ovr hp h) args args'.toList →
          c.wp P (fun e' a' w' => (e' = .normal ∨ e' = .ret) ∧ ∃ m', Go1 m (ovr hp h) w m' (ovr st.hp h) w' ∧ Rel fn.ntmps m' h w' st a') { tmps := args' ++ Array.replicate (fn.ntmps - args'.size) undef, defers := [] } w := by
      intro e hx hee
      obtain ⟨_, k1, k2, k3⟩ := exec_sound hc hm n c _ e st hx hs hk
      refine ⟨k1, k2, fun m h w args' hf s r => ?_⟩
      refine wp_mono (wpR_wp (k3 m h w _ hf ⟨s, args_rel r hle', .nil⟩)) fun e' a' w' q => ?_
      obtain ⟨rfl, q2⟩ := q
      exact ⟨hee, q2⟩
    split at he
    · rename_i st1 hx
      cases he
      exact key _ hx (.inl rfl)
    · rename_i st1 hx
      cases he
      exact key _ hx (.inr rfl)
    · cases he
theorem aPlain_sound {ext : Ext} (hx : ExtOk P ext) (hc : CallOk P call) (hm : P.follows .mixedOrders = true) {n : Nat} {f : FuncId} {args : List Value} {hp hp' : Hp} {v : Value} (he : aPlain P ext call n f args hp = some (v, hp')) (hk : hp.ok) :
    hp'.ok ∧ hp.sz ≤ hp'.sz ∧ ∀ (m : BM) (h : HG) (w : World) (args' : Array Value), (∀ b, hp.sz ≤ b → b < hp'.sz → h b = none) → Sim m (ovr hp h) w → VRelL m (ovr hp h) args args'.toList →
      (callFunc f args').run P w = .ok (.enter f args') w ∧
      CallsD P f args' .returning w fun e u' w' => u' = .returning ∧ ∃ v', e = .returned v' ∧ ∃ m', Go1 m (ovr hp h) w m' (ovr hp' h) w' := by
  unfold aPlain at he
  have hxf := hx f
  split at he
  · cases he
  · rename_i hef
    rw [hef] at hxf
    obtain ⟨fn, hfn, hsafe⟩ := hxf
    simp only [hfn] at he
    obtain ⟨c, hb, hs, hnm⟩ := fnSafe_parts hsafe
    split at he
    · cases he
    · rename_i st hbd
      obtain ⟨k1, k2, k3⟩ := aBody_sound hc hm hb hs hbd hk
      split at he
      · rename_i hdf
        obtain ⟨v0, hv, e⟩ := Option.map_eq_some_iff.1 he
        cases e
        refine ⟨k1, k2, fun m h w args' hf s r => ⟨run_callFunc hfn (by rw [hb]; rfl) hnm, ?_⟩⟩
        refine callsD_of_wp (R := fun e w' => ∃ v', e = .returned v' ∧ ∃ m', Go1 m (ovr hp h) w m' (ovr st.hp h) w') hfn hb ?_
        refine wp_mono (k3 m h w args' hf s r) fun e' a' w' q => ?_
        obtain ⟨q1, m', g, rl⟩ := q
        have hnil : a'.defers = [] := by
          have := rl.df
          rw [hdf] at this
          exact this.of_nil
        obtain ⟨v', h1, h2⟩ := retVal_sound k1 rl.sim rl.tm hv
        rcases q1 with rfl | rfl
        · exact ⟨hnil, v', h1, v', rfl, m', g⟩
        · exact ⟨hnil, v', h1, v', rfl, m', g⟩
      · cases he
theorem runDf_sound {ext : Ext} (hx : ExtOk P ext) (hc : CallOk P call) (hm : P.follows .mixedOrders = true) {n : Nat} {fn : Func} {tmps : Array Value} {R : Ending → World → Prop} : ∀ (df : List (FuncId × List Value)) (hp hp' : Hp), runDf (aPlain P ext call n) df hp = some hp' → hp.ok →
    hp'.ok ∧ hp.sz ≤ hp'.sz ∧ ∀ (m : BM) (h : HG) (w : World) (ds : List Deferred), (∀ b, hp.sz ≤ b → b < hp'.sz → h b = none) → Sim m (ovr hp h) w → DRel m (ovr hp h) df ds →
      (∀ m' w', Go1 m (ovr hp h) w m' (ovr hp' h) w' → ∃ v, (results fn tmps).run P w' = .ok v w' ∧ R (.returned v) w') → Leaves P fn tmps R ds .returning w
  | [], hp, hp', he, hk => by
    cases he
    refine ⟨hk, Nat.le_refl _, fun m h w ds hf s hd hR => ?_⟩
    cases hd
    exact hR m w (Go1.refl s)
  | (f, args) :: df, hp, hp', he, hk => by
    unfold runDf at he
    split at he
    · rename_i v hp1 h1
      obtain ⟨k1, k2, k3⟩ := aPlain_sound hx hc hm h1 hk
      obtain ⟨j1, j2, j3⟩ := runDf_sound hx hc hm df hp1 hp' he k1
      refine ⟨j1, Nat.le_trans k2 j2, fun m h w ds hf s hd hR => ?_⟩
      cases hd with
      | cons htar hargs hrest =>
        rename_i d cap ds'
        obtain ⟨tar, dargs⟩ := d
        simp only at htar hargs
        subst htar
        obtain ⟨q1, q2⟩ := k3 m h w _ (fun b h1 h2 => hf b h1 (Nat.lt_of_lt_of_le h2 j2)) s hargs
        refine leaves_cons (f := f) (args := dargs ++ cap) (by simp) q1 ?_
        refine q2.mono fun e u' w' hh => ?_
        obtain ⟨rfl, v', rfl, m', g⟩ := hh
        exact j3 m' h w' ds' (fun b h1 h2 => hf b (Nat.le_trans k2 h1) h2) g.sim (hrest.mono g.le) fun m2 w2 g2 => hR m2 w2 (g.trans g2)
    · cases he
theorem aCall_sound {ext : Ext} (hx : ExtOk P ext) (hm : P.follows .mixedOrders = true) : ∀ n, CallOk P (aCall P ext n)
  | 0 => fun f args hp v hp' he => by cases he
  | n + 1 => fun f args hp v hp' he hk => by
    have hc := aCall_sound hx hm n
    have hxf := hx f
    simp only [aCall] at he
    split at he
    · rename_i e hef
      rw [hef] at hxf
      exact hxf _ hc args hp v hp' he hk
    · rename_i hef
      rw [hef] at hxf
      obtain ⟨fn, hfn, hsafe⟩ := hxf
      simp only [hfn] at he
      obtain ⟨c, hb, hs, hnm⟩ := fnSafe_parts hsafe
      split at he
      · cases he
      · rename_i st hbd
        obtain ⟨k1, k2, k3⟩ := aBody_sound hc hm hb hs hbd hk
        split at he
        · rename_i h' hdf
          obtain ⟨v0, hv, e⟩ := Option.map_eq_some_iff.1 he
          cases e
          obtain ⟨j1, j2, _⟩ := runDf_sound (fn := fn) (tmps := #[]) (R := fun _ _ => True) hx hc hm st.df st.hp hp' hdf k1
          refine ⟨j1, Nat.le_trans k2 j2, fun m h w args' hf s r => .inr ⟨run_callFunc hfn (by rw [hb]; rfl) hnm, ?_⟩⟩
          refine calls_of_wp_defers hfn hb ?_
          refine wp_mono (k3 m h w args' (fun b h1 h2 => hf b h1 (Nat.lt_of_lt_of_le h2 j2)) s r) fun e' a' w' q => ?_
          obtain ⟨q1, m', g, rl⟩ := q
          have hl : Leaves P fn a'.tmps (fun e w' => ∃ v', e = .returned v' ∧ ∃ m', Go1 m (ovr hp h) w m' (ovr hp' h) w' ∧ VRel m' (ovr hp' h) v v') a'.defers .returning w' := by
            refine (runDf_sound hx hc hm st.df st.hp hp' hdf k1).2.2 m' h w' a'.defers (fun b h1 h2 => hf b (Nat.le_trans k2 h1) h2) rl.sim rl.df fun m2 w2 g2 => ?_
            have t2 : TRel fn.ntmps m2 (ovr hp' h) { st with hp := hp' } a' := ⟨rl.tm.size, fun t => (rl.tm.tm t).mono g2.le⟩
            obtain ⟨v', h1, h2⟩ := retVal_sound (st := { st with hp := hp' }) j1 g2.sim t2 hv
            exact ⟨v', h1, v', rfl, m2, g.trans g2, h2⟩
          rcases q1 with rfl | rfl
          · exact hl
          · exact hl
        · cases he
end
end Go.Proofs.Ytbhmodlpolgklaa.AI
namespace Go.Proofs.Ytbhmodlpolgklaa.AI
open Go
variable [Inhabited Prop]
section
variable {P : Program} {w : World} {m : BM} {h : HG} {hp : Hp}
omit [Inhabited Prop] in
theorem cellAt_sound (hk : hp.ok) (s : Sim m (ovr hp h) w) {a : Addr} {v x' : Value} (he : cellAt hp a = some v) (rx : VRel m (ovr hp h) (.pointer (some a)) x') :
    ∃ a' v', x' = .pointer (some a') ∧ w.cell? a' = some v' ∧ VRel m (ovr hp h) v v' := by
  unfold cellAt at he
  obtain ⟨b, off, r, off', rfl, rfl, hh⟩ := rx.of_ptr
  split at he
  · rename_i ty cs ro hb
    have hb' := ovr_sub hk h _ _ hb
    rcases hh with hh | ⟨δ, E, hm, rfl⟩
    · dsimp only at hb'; rw [hb'] at hh; cases hh
    · obtain ⟨c, fr, h1, h2, h3, h4, _⟩ := Sim.row (s := s) hb' hm
      dsimp only at h1 h2 h3 h4 he
      have hlt : off < cs.length := (List.getElem?_eq_some_iff.1 he).1
      have hv : c[δ + off]? = some c[δ + off] := Array.getElem?_eq_getElem (by omega)
      exact ⟨_, c[δ + off], rfl, by rw [cell_of h1]; exact hv, h4 off v _ he hv⟩
  · cases he
omit [Inhabited Prop] in
theorem unfrozen (hk : hp.ok) (s : Sim m (ovr hp h) w) {a : Addr} {x' : Value} {ty : TypeId} {cs : List Value} {v : Value} (hb : hp.get a.block = some (.cells ty cs false)) (hv : cellAt hp a = some v) (rx : VRel m (ovr hp h) (.pointer (some a)) x') {a' : Addr} (e : x' = .pointer (some a')) : w.frozen? a' = false := by
  obtain ⟨b, off, r, off', rfl, e2, hh⟩ := rx.of_ptr
  rw [e2] at e
  cases e
  have hb' := ovr_sub hk h _ _ hb
  rcases hh with hh | ⟨δ, E, hm, rfl⟩
  · dsimp only at hb'; rw [hb'] at hh; cases hh
  · obtain ⟨c, fr, h1, h2, h3, h4, h5⟩ := Sim.row (s := s) hb' hm
    dsimp only at h1 h2 h3 h4 h5
    unfold cellAt at hv
    dsimp only at hb hv
    rw [hb] at hv
    dsimp only at hv
    have hlt : off < cs.length := (List.getElem?_eq_some_iff.1 hv).1
    exact frozen_of h1 (h5.1 rfl _ (by omega))
theorem cellPut_sound (hk : hp.ok) (s : Sim m (ovr hp h) w) {a : Addr} {v v' x' : Value} {hp' : Hp} (he : cellPut hp a v = some hp') (rx : VRel m (ovr hp h) (.pointer (some a)) x') (rv : VRel m (ovr hp h) v v') :
    ∃ a' u, x' = .pointer (some a') ∧ w.cell? a' = some u ∧ w.frozen? a' = false ∧ v'.oneCell' = true ∧ hp'.ok ∧ hp.sz = hp'.sz ∧ Go1 m (ovr hp h) w m (ovr hp' h) (w.setCell a' v') := by
  unfold cellPut at he
  obtain ⟨b, off, r, off', rfl, rfl, hh⟩ := rx.of_ptr
  split at he
  · rename_i ty cs hb
    split at he
    · rename_i hcond
      cases he
      simp only [Bool.and_eq_true, decide_eq_true_eq] at hcond
      have hb' := ovr_sub hk h _ _ hb
      rcases hh with hh | ⟨δ, E, hm, rfl⟩
      · dsimp only at hb'; rw [hb'] at hh; cases hh
      · obtain ⟨c, fr, h1, h2, h3, h4, h5⟩ := Sim.row (s := s) hb' hm
        dsimp only at h1 h2 h3 h4 h5 hb hcond hb'
        have hone := rv.isOne hcond.2
        obtain ⟨w', g1, g2⟩ := put_cells (P := default) (off := off) s hb' hm (VRelL.cons rv VRelL.nil) (by simp [hcond.2]) (by simp; omega)
        have hv : c[δ + off]? = some c[δ + off] := Array.getElem?_eq_getElem (by omega)
        have hcell : w.cell? ⟨r, δ + off, none⟩ = some c[δ + off] := by rw [cell_of h1]; exact hv
        have hfro : w.frozen? ⟨r, δ + off, none⟩ = false := frozen_of h1 (h5.1 rfl _ (by omega))
        have hw : w' = w.setCell ⟨r, δ + off, none⟩ v' := by
          simp only [storeCells, addr_add, Nat.add_zero, Sem.run_bind, run_store _ _ _ _ _ hone, hcell, hfro, Bool.false_eq_true, if_false, Result.andThen_ok, Sem.run_pure] at g1
          cases g1; rfl
        rw [hw, ovr_put (hk.lt hb)] at g2
        exact ⟨_, _, rfl, hcell, hfro, hone, hk.put _ (hk.lt hb), rfl, g2⟩
    · cases he
  · cases he
end
structure Row (n : String) (e : Array Value → Sem Value) : Prop where
  next : Extern.allNextRows.lookup n = none
  nextE : Extern.allNextRows.lookup "" = none
  gen : Extern.allGenericRows.lookup n = none
  typed : Extern.allTypedRows.lookup n = none
  row : Extern.allRows.lookup n = some e
  name : (n == "runtime.NumGoroutine") = false
omit [Inhabited Prop] in
theorem Row.find {n : String} {e : Array Value → Sem Value} (r : Row n e) {fn : Func} (hn : fn.name = n) (ho : fn.origin = "") : Extern.findNext fn = none ∧ Extern.find fn = some e ∧ (fn.name == "runtime.NumGoroutine") = false := by
  refine ⟨?_, ?_, by rw [hn]; exact r.name⟩
  · simp [Extern.findNext, hn, ho, r.next, r.nextE]
  · simp [Extern.find, hn, r.gen, r.typed, r.row]
def AtomGoal (n : String) (e : CallF → List Value → Hp → Option (Value × Hp)) : Prop :=
  ∀ (P : Program) (f : FuncId) (fn : Func), P.funcs[f]? = some fn → fn.name = n → fn.origin = "" → fn.body.isNone = true → ∀ call, CallGoal P f (e call)
omit [Inhabited Prop] in
theorem args1 {m : BM} {h : HG} {x : Value} {xs' : Array Value} (r : VRelL m h [x] xs'.toList) : ∃ x', xs' = #[x'] ∧ VRel m h x x' := by
  obtain ⟨b, bs', e, h1, h2⟩ := r.of_cons
  have := h2.of_nil
  subst this
  exact ⟨b, by cases xs'; simp_all, h1⟩
omit [Inhabited Prop] in
theorem args2 {m : BM} {h : HG} {x y : Value} {xs' : Array Value} (r : VRelL m h [x, y] xs'.toList) : ∃ x' y', xs' = #[x', y'] ∧ VRel m h x x' ∧ VRel m h y y' := by
  obtain ⟨b, bs', e, h1, h2⟩ := r.of_cons
  obtain ⟨c, cs', e2, h3, h4⟩ := h2.of_cons
  have := h4.of_nil
  subst this; subst e2
  exact ⟨b, c, by cases xs'; simp_all, h1, h3⟩
omit [Inhabited Prop] in
theorem args3 {m : BM} {h : HG} {x y z : Value} {xs' : Array Value} (r : VRelL m h [x, y, z] xs'.toList) : ∃ x' y' z', xs' = #[x', y', z'] ∧ VRel m h x x' ∧ VRel m h y y' ∧ VRel m h z z' := by
  obtain ⟨b, bs', e, h1, h2⟩ := r.of_cons
  obtain ⟨c, cs', e2, h3, h4⟩ := h2.of_cons
  obtain ⟨d, ds', e3, h5, h6⟩ := h4.of_cons
  have := h6.of_nil
  subst this; subst e3; subst e2
  exact ⟨b, c, d, by cases xs'; simp_all, h1, h3, h5⟩
theorem load_goal {n : String} {k : IntKind} (row : Row n (Extern.Atomic.loadT (.int k))) : AtomGoal n (atLoad k) := by
  intro P f fn hf hn ho hb call args hp v hp' he hk
  obtain ⟨h1, h2, h3⟩ := row.find hn ho
  unfold atLoad at he
  split at he
  · rename_i a _
    split at he
    · rename_i k' q hc
      split at he
      · rename_i e; subst e
        cases he
        refine ⟨hk, Nat.le_refl _, fun m h w args' hfr s r => .inl ?_⟩
        obtain ⟨x', rfl, rx⟩ := args1 r
        obtain ⟨a', v', rfl, c1, c2⟩ := cellAt_sound hk s hc rx
        obtain rfl := c2.of_int
        exact ⟨_, _, run_call_load hf h3 hb h1 k' h2 c1, m, Go1.refl s, .flat rfl⟩
      · cases he
    · cases he
  · cases he
theorem store_goal {n : String} (row : Row n Extern.Atomic.storeT) : AtomGoal n atStore := by
  intro P f fn hf hn ho hb call args hp v hp' he hk
  obtain ⟨h1, h2, h3⟩ := row.find hn ho
  unfold atStore at he
  split at he
  · rename_i a x _
    obtain ⟨hp1, hq, e⟩ := Option.map_eq_some_iff.1 he
    cases e
    have hk' : hp'.ok ∧ hp.sz = hp'.sz := by
      unfold cellPut at hq
      split at hq
      · rename_i hb2
        split at hq
        · cases hq; exact ⟨hk.put _ (hk.lt hb2), rfl⟩
        · cases hq
      · cases hq
    refine ⟨hk'.1, Nat.le_of_eq hk'.2, fun m h w args' hfr s r => .inl ?_⟩
    obtain ⟨x', y', rfl, rx, ry⟩ := args2 r
    obtain ⟨a', u, rfl, c1, c2, c3, c4, c5, g⟩ := cellPut_sound hk s hq rx ry
    refine ⟨.tuple #[], _, ?_, m, g, VRel.undef⟩
    rw [run_callFunc_extern hf h3 hb h1 h2]
    change (Sem.run P (do
      store (← asAddr (.pointer (some a'))) y' .atomic
      pure Extern.Atomic.none_) w).andThen _ = _
    simp [asAddr, c1, c2, run_store P w a' y' .atomic c3, Result.andThen, Extern.Atomic.none_]
  · cases he
theorem add_goal {n : String} {k : IntKind} (row : Row n (Extern.Atomic.update (Op.intArith .add) k true)) : AtomGoal n (atAdd k) := by
  intro P f fn hf hn ho hb call args hp v hp' he hk
  obtain ⟨h1, h2, h3⟩ := row.find hn ho
  unfold atAdd at he
  split at he
  · rename_i _ a k1 d
    split at he
    · rename_i k' q hc
      split at he
      · rename_i e; obtain ⟨e1, e2⟩ := e; subst e1; subst e2
        obtain ⟨hp1, hq, e⟩ := Option.map_eq_some_iff.1 he
        cases e
        have hk' : hp'.ok ∧ hp.sz = hp'.sz := by
          unfold cellPut at hq
          split at hq
          · rename_i hb2
            split at hq
            · cases hq; exact ⟨hk.put _ (hk.lt hb2), rfl⟩
            · cases hq
          · cases hq
        refine ⟨hk'.1, Nat.le_of_eq hk'.2, fun m h w args' hfr s r => .inl ?_⟩
        obtain ⟨x', y', rfl, rx, ry⟩ := args2 r
        obtain rfl := ry.of_int
        obtain ⟨a', u, rfl, c1, c2, c3, c4, c5, g⟩ := cellPut_sound hk s hq rx (.flat rfl)
        obtain ⟨a2, v2, e2, d1, d2⟩ := cellAt_sound hk s hc rx
        cases e2
        obtain rfl := d2.of_int
        exact ⟨_, _, run_call_add hf h3 hb h1 k1 h2 d1 c2 (by simp [Op.intArith, wrapF_eq]), m, g, .flat rfl⟩
      · cases he
    · cases he
  · cases he
theorem cas_goal {n : String} {k : IntKind} (row : Row n (Extern.Atomic.casT (.int k))) : AtomGoal n (atCas k) := by
  intro P f fn hf hn ho hb call args hp v hp' he hk
  obtain ⟨h1, h2, h3⟩ := row.find hn ho
  unfold atCas at he
  split at he
  · rename_i _ a k1 old k2 new
    split at he
    · rename_i k' q hc
      split at he
      · rename_i e; obtain ⟨e1, e2, e3⟩ := e; subst e1; subst e2; subst e3
        split at he
        · rename_i hd
          have hqo : q = old := of_decide_eq_true hd
          subst hqo
          obtain ⟨hp1, hq, e⟩ := Option.map_eq_some_iff.1 he
          cases e
          have hk' : hp'.ok ∧ hp.sz = hp'.sz := by
            unfold cellPut at hq
            split at hq
            · rename_i hb2
              split at hq
              · cases hq; exact ⟨hk.put _ (hk.lt hb2), rfl⟩
              · cases hq
            · cases hq
          refine ⟨hk'.1, Nat.le_of_eq hk'.2, fun m h w args' hfr s r => .inl ?_⟩
          obtain ⟨x', y', z', rfl, rx, ry, rz⟩ := args3 r
          obtain rfl := ry.of_int
          obtain rfl := rz.of_int
          obtain ⟨a', u, rfl, c1, c2, c3, c4, c5, g⟩ := cellPut_sound hk s hq rx (.flat rfl)
          obtain ⟨a2, v2, e2, d1, d2⟩ := cellAt_sound hk s hc rx
          cases e2
          obtain rfl := d2.of_int
          exact ⟨_, _, run_call_cas_hit hf h3 hb h1 _ h2 d1 c2, m, g, .flat rfl⟩
        · rename_i ty cs hd hblk
          have hqo : ¬ q = old := of_decide_eq_false hd
          cases he
          refine ⟨hk, Nat.le_refl _, fun m h w args' hfr s r => .inl ?_⟩
          obtain ⟨x', y', z', rfl, rx, ry, rz⟩ := args3 r
          obtain rfl := ry.of_int
          obtain rfl := rz.of_int
          obtain ⟨a2, v2, e2, d1, d2⟩ := cellAt_sound hk s hc rx
          have hfz := unfrozen hk s hblk hc rx e2
          subst e2
          obtain rfl := d2.of_int
          exact ⟨_, _, run_call_cas_miss hf h3 hb h1 _ h2 d1 hfz hqo, m, Go1.refl s, .flat rfl⟩
        · cases he
      · cases he
    · cases he
  · cases he
theorem none_goal {n : String} {mk : Mark} (row : Row n (fun _ => do mark mk; pure Extern.Race.none_)) : AtomGoal n noneE := by
  intro P f fn hf hn ho hb call args hp v hp' he hk
  obtain ⟨h1, h2, h3⟩ := row.find hn ho
  unfold noneE at he
  split at he
  · cases he
    refine ⟨hk, Nat.le_refl _, fun m h w args' hfr s r => .inl ?_⟩
    have : args' = #[] := by have := r.of_nil; cases args'; simp_all
    subst this
    exact ⟨_, _, run_call_mark0 hf h3 hb h1 mk h2 w, m, Go1.refl s, VRel.undef⟩
  · cases he
theorem mark_goal {n : String} {mk : Addr → Mark} (row : Row n (Extern.Race.marked mk)) : AtomGoal n markE := by
  intro P f fn hf hn ho hb call args hp v hp' he hk
  obtain ⟨h1, h2, h3⟩ := row.find hn ho
  unfold markE at he
  split at he
  · cases he
    refine ⟨hk, Nat.le_refl _, fun m h w args' hfr s r => .inl ?_⟩
    obtain ⟨x', rfl, rx⟩ := args1 r
    obtain ⟨b, off, r, off', _, rfl, _⟩ := rx.of_ptr
    exact ⟨_, _, run_call_marked hf h3 hb h1 mk h2 _ w, m, Go1.refl s, VRel.undef⟩
  · cases he
theorem stuck_goal {P : Program} {f : FuncId} {call : CallF} : CallGoal P f (stuckE call) := by
  intro args hp v hp' he; cases he
theorem atoms_ok : ∀ p ∈ atoms, AtomGoal p.1 p.2 := by
  intro p hp
  simp only [atoms, List.mem_cons, List.mem_nil_iff, or_false] at hp
  rcases hp with rfl | rfl | rfl | rfl | rfl | rfl | rfl | rfl | rfl | rfl | rfl | rfl | rfl | rfl | rfl | rfl
  · exact load_goal ⟨by kernel_rfl, by kernel_rfl, by kernel_rfl, by kernel_rfl, by kernel_rfl, by kernel_rfl⟩
  · exact load_goal ⟨by kernel_rfl, by kernel_rfl, by kernel_rfl, by kernel_rfl, by kernel_rfl, by kernel_rfl⟩
  · exact load_goal ⟨by kernel_rfl, by kernel_rfl, by kernel_rfl, by kernel_rfl, by kernel_rfl, by kernel_rfl⟩
  · exact load_goal ⟨by kernel_rfl, by kernel_rfl, by kernel_rfl, by kernel_rfl, by kernel_rfl, by kernel_rfl⟩
  · exact store_goal ⟨by kernel_rfl, by kernel_rfl, by kernel_rfl, by kernel_rfl, by kernel_rfl, by kernel_rfl⟩
  · exact store_goal ⟨by kernel_rfl, by kernel_rfl, by kernel_rfl, by kernel_rfl, by kernel_rfl, by kernel_rfl⟩
  · exact store_goal ⟨by kernel_rfl, by kernel_rfl, by kernel_rfl, by kernel_rfl, by kernel_rfl, by kernel_rfl⟩
  · exact store_goal ⟨by kernel_rfl, by kernel_rfl, by kernel_rfl, by kernel_rfl, by kernel_rfl, by kernel_rfl⟩
  · exact add_goal ⟨by kernel_rfl, by kernel_rfl, by kernel_rfl, by kernel_rfl, by kernel_rfl, by kernel_rfl⟩
  · exact add_goal ⟨by kernel_rfl, by kernel_rfl, by kernel_rfl, by kernel_rfl, by kernel_rfl, by kernel_rfl⟩
  · exact cas_goal ⟨by kernel_rfl, by kernel_rfl, by kernel_rfl, by kernel_rfl, by kernel_rfl, by kernel_rfl⟩
  · exact cas_goal ⟨by kernel_rfl, by kernel_rfl, by kernel_rfl, by kernel_rfl, by kernel_rfl, by kernel_rfl⟩
  · exact none_goal (mk := .disable) ⟨by kernel_rfl, by kernel_rfl, by kernel_rfl, by kernel_rfl, by kernel_rfl, by kernel_rfl⟩
  · exact none_goal (mk := .enable) ⟨by kernel_rfl, by kernel_rfl, by kernel_rfl, by kernel_rfl, by kernel_rfl, by kernel_rfl⟩
  · exact mark_goal (mk := .acquire) ⟨by kernel_rfl, by kernel_rfl, by kernel_rfl, by kernel_rfl, by kernel_rfl, by kernel_rfl⟩
  · exact mark_goal (mk := .releaseMerge) ⟨by kernel_rfl, by kernel_rfl, by kernel_rfl, by kernel_rfl, by kernel_rfl, by kernel_rfl⟩
omit [Inhabited Prop] in
theorem atomIn_mem {n : String} {e : CallF → List Value → Hp → Option (Value × Hp)} : ∀ {l : List (String × (CallF → List Value → Hp → Option (Value × Hp)))}, atomIn n l = some e → (n, e) ∈ l
  | [], h => by cases h
  | (n', e') :: l, h => by
    unfold atomIn at h
    split at h
    · rename_i hd
      cases h
      have := of_decide_eq_true hd
      subst this
      exact .head _
    · exact .tail _ (atomIn_mem h)
theorem extOf_ok (P : Program) : ExtOk P (extOf P) := by
  intro f
  unfold extOf
  cases hf : P.funcs[f]? with
  | none => exact fun call _ => stuck_goal
  | some fn =>
    simp only
    cases hb : fn.body with
    | none =>
      simp only
      cases hd : decide (fn.origin = "") with
      | false => exact fun call _ => stuck_goal
      | true =>
        simp only
        cases ha : atomIn fn.name atoms with
        | none => exact fun call _ => stuck_goal
        | some e => exact fun call _ => atoms_ok _ (atomIn_mem ha) P f fn hf rfl (of_decide_eq_true hd) (by rw [hb]; rfl) call
    | some c =>
      simp only
      cases hs : fnSafe P fn with
      | false => exact fun call _ => stuck_goal
      | true => exact ⟨fn, rfl, hs⟩
end Go.Proofs.Ytbhmodlpolgklaa.AI
namespace Go.Proofs.Ytbhmodlpolgklaa.AI
open Go
variable [Inhabited Prop]
section
variable {P : Program} {c c' : CallF}
end
open Classical in
noncomputable def C (P : Program) : CallF := fun f args h => if e : ∃ n r, aCall P (extOf P) n f args h = some r then some e.choose_spec.choose else none
open Classical in
noncomputable def X (P : Program) (c : Code) (st : St) : Option (Exit × St) := if e : ∃ n r, exec P (aCall P (extOf P) n) n c st = some r then some e.choose_spec.choose else none
section
variable {P : Program}
end
end Go.Proofs.Ytbhmodlpolgklaa.AI
namespace Go.Proofs.Ytbhmodlpolgklaa.AI
open Go Go.ChangeShapes Go.RowKit
variable [Inhabited Prop]
section
variable {P : Program}
omit [Inhabited Prop] in
theorem trodAll_below {H : Type} {enc : TypeId × Value → H} (hl : laidOutB P = true) {W W' : World} (hb : Below W.heap.size W W') : ∀ {ts : List TypeId} {vs : List Value} {ds : List (DataW H)} {p : List MemPlace},
    (∀ t ∈ ts, P.readableRec t = true ∧ t < P.types.size) → (∀ x ∈ p, x.block < W.heap.size) → DataW.TrodAll enc P W 0 (fun _ => true) true ts vs ds p →
    ∀ sp' : Nat → Bool, (∀ x ∈ p, sp' x.block = true) → DataW.TrodAll enc P W' 0 sp' true ts vs ds p
  | [], vs, ds, p, _, _, h, sp', _ => by
    obtain ⟨rfl, rfl, rfl⟩ := trodAll_nil h
    exact trodAll_mk0
  | t :: ts, vs, ds, p, ht, hp, h, sp', hs => by
    obtain ⟨v, vs1, d, ds1, a, b, rfl, rfl, rfl, h1, h2⟩ := trodAll_cons h
    obtain ⟨q1, q2⟩ := ht t (.head _)
    refine trodAll_cons_mk ?_ (trodAll_below hl hb (fun u hu => ht u (.tail _ hu)) (fun x hx => hp x (List.mem_append_right _ hx)) h2 sp' (fun x hx => hs x (List.mem_append_right _ hx)))
    exact WideElems.Trod_stays hl q1 q2 h1 (fun x hx => hb.same (hp x (List.mem_append_left _ hx))) (fun x hx => hs x (List.mem_append_left _ hx))
omit [Inhabited Prop] in
theorem post_true {H : Type} {enc : TypeId × Value → H} {f : Func} {s : ChangeSpec} {apart fresh handsOn again : Bool} {W W' : World} {args : Array Value} {ds gs : List (DataW H)} {before : List MemPlace} {tb : TypeId}
    (hl : laidOutB P = true) (hp : ∀ t ∈ f.params.toList, P.readableRec t = true ∧ t < P.types.size) (hv : s.vars = []) (hr : f.resultTypes = #[tb]) (htb : P.underlying tb = some .bool)
    (hs : ∀ ds : List (DataW H), ds.length = f.params.size → s.fn H ds = { results := [.lit (.bool true)], args := ds })
    (hW : DataW.Whole enc P f.params.toList s.vars apart W args.toList ds gs before) (hb : Below W.heap.size W W') : s.post enc P f apart fresh handsOn again W args (.bool true) W' := by
  have hW' := hW
  obtain ⟨p, q, hA, hV, e1, hz, hn⟩ := hW
  rw [hv] at hV
  obtain ⟨rfl, rfl⟩ := trodVars_none hV
  have hlt : ∀ x ∈ before, x.block < W.heap.size := fun x hx => hW'.lt x hx
  rw [e1, List.append_nil] at hlt
  have hlen : ds.length = f.params.size := by
    have : ∀ {ts : List TypeId} {vs : List Value} {ds : List (DataW H)} {p : List MemPlace}, DataW.TrodAll enc P W 0 (fun _ => true) true ts vs ds p → ds.length = ts.length := by
      intro ts
      induction ts with
      | nil => intro vs ds p h; obtain ⟨rfl, rfl, rfl⟩ := trodAll_nil h; rfl
      | cons t ts ih =>
        intro vs ds p h
        obtain ⟨v, vs1, d, ds1, a, b, rfl, rfl, rfl, h1, h2⟩ := trodAll_cons h
        simp [ih h2]
    have := this hA
    simpa using this
  have hfn : s.fn H (ds ++ []) = { results := [.lit (.bool true)], args := ds } := by rw [List.append_nil]; exact hs ds hlen
  have hold : ∀ sp : Nat → Bool, (∀ x ∈ p, sp x.block = true) → DataW.TrodAll enc P W' 0 sp true f.params.toList args.toList ds p := fun sp hsp => trodAll_below hl hb hp hlt hA sp hsp
  have hres : ∀ (b : Nat) (sp : Nat → Bool) (hd : Bool), DataW.TrodAll enc P W' b sp hd f.resultTypes.toList ((Value.bool true).resultList f.resultTypes.size) (s.fn H (ds ++ [])).results [] := by
    intro b sp hd
    rw [hfn, hr]
    exact trodAll_mk1 (shut_bool htb true)
  have hfz : ∀ b off, MemPlace.cell b off ∈ p → W'.frozen? ⟨b, off, none⟩ = W.frozen? ⟨b, off, none⟩ := fun b off hx => hb.frozen (p := ⟨b, off, none⟩) (hlt _ hx)
  subst e1
  refine ⟨ds, [], p ++ [], [], p, [], hW', hres _ _ _, ?_, ?_, ?_, fun _ => ?_⟩
  · rw [hfn]; exact hold _ fun x hx => by simpa using hlt x hx
  · rw [hfn, hv]; exact rfl
  · exact hb.frame _
  · refine ⟨ok_one hr rfl (okWide_bool_mk htb true), [.lit (.bool true)] ++ ds, [], ([] ++ p) ++ [], ⟨[] ++ p, [], trodAll_append (hold _ fun _ _ => rfl) ?_, by rw [hv]; exact rfl, rfl, ?_, ?_⟩, ?_⟩
    · have := hres 0 (fun _ => true) true
      rw [hfn] at this
      exact this
    · intro b off hx
      have hx' : MemPlace.cell b off ∈ p := by simpa using hx
      rw [hfz b off hx']
      exact hz b off (by simpa using hx')
    · intro ha
      have := hn ha
      simpa using this
    · intro x hx _
      simpa using hx
omit [Inhabited Prop] in
theorem law_lifted {C : Checked} {os : Os} (started : os.Started) {H : Type} {enc : TypeId × Value → H} {f : FuncId} {fn : Func} {s : ChangeSpec} {apart fresh handsOn again : Bool} {tb : TypeId} (own : ownKnob C.prog.godebug = none) (noInit : C.prog.inits.idxOf? f = none)
    (hf : C.prog.funcs[f]? = some fn) (hl : laidOutB C.prog = true) (hp : ∀ t ∈ fn.params.toList, C.prog.readableRec t = true ∧ t < C.prog.types.size) (hv : s.vars = []) (hr : fn.resultTypes = #[tb]) (htb : C.prog.underlying tb = some .bool)
    (hs : ∀ ds : List (DataW H), ds.length = fn.params.size → s.fn H ds = { results := [.lit (.bool true)], args := ds })
    (witness : ∃ (w : World) (tape : Tape) (i : Input), w.os = os ∧ (w.forCall tape i).Shaped C.prog ∧ i.vars = [] ∧ Input.okWide C.prog (w.forCall tape i) .any w.heap.size f i ∧
      s.pre6 enc C.prog fn [] apart (w.forCall tape i).memory i.args ∧ ({} : Assume).holds C.prog (lone (Frame.enter C.prog f i.args .normal) [] (w.forCall tape i)))
    (walk : ∀ (W : World) (base : Nat) (args : Array Value) (ds : List (DataW H)) (p : List MemPlace), args.size = fn.params.size → (∀ (j : Nat) t v, fn.params[j]? = some t → args[j]? = some v → Value.okWide C.prog W .any base t v) →
      DataW.TrodAll enc C.prog W 0 (fun _ => true) true fn.params.toList args.toList ds p → Calls C.prog f args W fun e W' => e = .returned (.bool true) ∧ Below W.heap.size W W') :
    ReturnsInHanded {} C os f .any (s.pre6 enc C.prog fn [] apart) (s.post enc C.prog fn apart fresh handsOn again) := by
  refine returnsInHanded_of_change own started noInit hf witness ?_
  intro W base args ds gs before hval hW _ _
  have hW' := hW
  obtain ⟨p, q, hA, hV, e1, hz, hn⟩ := hW
  have hsz : args.size = fn.params.size := by
    have : ∀ {ts : List TypeId} {vs : List Value} {ds : List (DataW H)} {p : List MemPlace}, DataW.TrodAll enc C.prog W 0 (fun _ => true) true ts vs ds p → vs.length = ts.length := by
      intro ts
      induction ts with
      | nil => intro vs ds p h; obtain ⟨rfl, rfl, rfl⟩ := trodAll_nil h; rfl
      | cons t ts ih =>
        intro vs ds p h
        obtain ⟨v, vs1, d, ds1, a, b, rfl, rfl, rfl, h1, h2⟩ := trodAll_cons h
        simp [ih h2]
    have := this hA
    simpa using this
  refine (walk W base args ds p hsz hval hA).mono fun e W' hh => ?_
  exact ⟨.bool true, hh.1, post_true hl hp hv hr htb hs hW' hh.2⟩
def bm0 : BM := ⟨fun _ => none, fun _ _ _ _ => False⟩
def hp0 : Hp := ⟨0, .leaf⟩
omit [Inhabited Prop] in
theorem hp0_ok : hp0.ok := fun _ _ => rfl
omit [Inhabited Prop] in
theorem sim0 {w : World} : Sim bm0 hp0.get w := ⟨⟨fun b x h => (by cases h), fun b b' x x' h => (by cases h)⟩, fun _ _ _ _ h => h.elim, fun _ ⟨_, _, _, h⟩ => h.elim⟩
end
end Go.Proofs.Ytbhmodlpolgklaa.AI
namespace Go.Proofs.Ytbhmodlpolgklaa.AI
open Go
variable [Inhabited Prop]
abbrev Obl := Option Value × Value
def Met (l : List Obl) : Prop := ∀ o ∈ l, o.1 = some o.2
omit [Inhabited Prop] in
theorem Met.nil : Met [] := fun o ho => by cases ho
omit [Inhabited Prop] in
theorem Met.cons {a : Option Value} {v : Value} {l : List Obl} (h : a = some v) (hl : Met l) : Met ((a, v) :: l) := fun o ho => by
  cases ho with
  | head => exact h
  | tail _ ho => exact hl o ho
omit [Inhabited Prop] in
theorem Met.left {a b : List Obl} (h : Met (a ++ b)) : Met a := fun o ho => h o (List.mem_append_left _ ho)
omit [Inhabited Prop] in
theorem Met.right {a b : List Obl} (h : Met (a ++ b)) : Met b := fun o ho => h o (List.mem_append_right _ ho)
def fstV : Option (Value × Option Blk) → Option Value
  | some (v, none) => some v
  | _ => none
def plainV (P : Program) (ρ : Operand → Value) (get : Nat → Option Blk) (sz : Nat) (o : Oper) : Option Value :=
  match cls P o with
  | .pure => fstV (opP P ρ sz o)
  | .read => opR P ρ get o
  | .big => none
def veqOk1 : Value → Bool
  | .bool _ | .int _ _ | .string _ | .pointer _ | .slice .. | .map _ | .nilFunc | .nilIface => true
  | _ => false
def veqOk : Value → Bool
  | .agg a => a.toList.all veqOk1
  | v => veqOk1 v
def bigQ (f : (Nat → Option Blk) → Option Value) (v : Value) (j i2 : Nat) : List Log → List Obl
  | [] => []
  | .big i hb ha :: r => match Nat.beq i i2 with
    | true => (match Nat.ble i j with | true => (f hb.get, v) | false => (f ha.get, v)) :: bigQ f v j i2 r
    | false => bigQ f v j i2 r
  | .read .. :: r => bigQ f v j i2 r
def readQ (all : List Log) (p : Nat × Nat) : List Log → Option (List Obl)
  | [] => some []
  | .read j f v :: r => match Nat.beq j p.1 with
    | true => match veqOk v, readQ all p r with
      | true, some q => some (bigQ f v j p.2 all ++ q)
      | _, _ => none
    | false => readQ all p r
  | .big .. :: r => readQ all p r
def pairsQ (l : List Log) : List (Nat × Nat) → Option (List Obl)
  | [] => some []
  | p :: ps => match readQ l p l, pairsQ l ps with
    | some a, some b => some (a ++ b)
    | _, _ => none
omit [Inhabited Prop] in
theorem veq1_refl {v : Value} (h : veqOk1 v = true) : veq1 v v = true := by
  cases v with
  | pointer a => cases a <;> simp [veq1]
  | slice a n c => cases a <;> simp [veq1, Nat.beq_refl]
  | map a => cases a <;> simp [veq1, Nat.beq_refl]
  | string s => simp [veq1, strEq]
  | int k n => simp [veq1]
  | bool b => simp [veq1]
  | nilFunc => rfl
  | nilIface => rfl
  | _ => cases h
omit [Inhabited Prop] in
theorem veqL_refl : ∀ {l : List Value}, l.all veqOk1 = true → veqL l l = true
  | [], _ => rfl
  | v :: l, h => by
    simp only [List.all_cons, Bool.and_eq_true] at h
    simp only [veqL, veq1_refl h.1, veqL_refl h.2, Bool.and_self]
omit [Inhabited Prop] in
theorem veq_refl {v : Value} (h : veqOk v = true) : veq v v = true := by
  cases v with
  | agg a => exact veqL_refl h
  | bool b => exact veq1_refl (v := .bool b) h
  | int k n => exact veq1_refl (v := .int k n) h
  | string s => exact veq1_refl (v := .string s) h
  | pointer a => exact veq1_refl (v := .pointer a) h
  | slice a n c => exact veq1_refl (v := .slice a n c) h
  | map a => exact veq1_refl (v := .map a) h
  | nilFunc => rfl
  | nilIface => rfl
  | _ => cases h
omit [Inhabited Prop] in
theorem bigQ_met {f : (Nat → Option Blk) → Option Value} {v : Value} (hv : veqOk v = true) {j i2 : Nat} : ∀ {l : List Log}, Met (bigQ f v j i2 l) → ∀ i hb ha, Log.big i hb ha ∈ l → Nat.beq i i2 = true →
    (match Nat.ble i j with | true => sameRead f v hb | false => sameRead f v ha) = true
  | [], _, i, hb, ha, hm, _ => by cases hm
  | .read _ _ _ :: r, m, i, hb, ha, hm, hi => by
    simp only [bigQ] at m
    cases hm with
    | tail _ hm => exact bigQ_met hv m i hb ha hm hi
  | .big i' hb' ha' :: r, m, i, hb, ha, hm, hi => by
    simp only [bigQ] at m
    split at m
    · rename_i hb2
      cases hm with
      | head =>
        have := m _ (.head _)
        split at this
        · rename_i hle; simp only [hle, sameRead]; simp only at this; simp only [this, veq_refl hv]
        · rename_i hle; simp only [hle, sameRead]; simp only at this; simp only [this, veq_refl hv]
      | tail _ hm => exact bigQ_met hv (fun o ho => m o (.tail _ ho)) i hb ha hm hi
    · rename_i hb2
      cases hm with
      | head => rw [hi] at hb2; cases hb2
      | tail _ hm => exact bigQ_met hv m i hb ha hm hi
omit [Inhabited Prop] in
theorem readQ_met {all : List Log} {p : Nat × Nat} : ∀ {l : List Log} {q : List Obl}, readQ all p l = some q → Met q → ∀ j f v, Log.read j f v ∈ l → Nat.beq j p.1 = true →
    (all.all fun g => match g with
        | .big i hb ha => match Nat.beq i p.2 with
          | false => true
          | true => match Nat.ble i j with
            | true => sameRead f v hb
            | false => sameRead f v ha
        | _ => true) = true
  | [], q, _, _, j, f, v, hm, _ => by cases hm
  | .big _ _ _ :: r, q, h, m, j, f, v, hm, hj => by
    simp only [readQ] at h
    cases hm with
    | tail _ hm => exact readQ_met h m j f v hm hj
  | .read j' f' v' :: r, q, h, m, j, f, v, hm, hj => by
    simp only [readQ] at h
    split at h
    · rename_i hb
      split at h
      · rename_i q' hv hr
        cases h
        cases hm with
        | head =>
          rw [List.all_eq_true]
          intro g hg
          cases g with
          | read _ _ _ => rfl
          | big i hb ha =>
            simp only
            cases hi : Nat.beq i p.2 with
            | false => rfl
            | true => exact bigQ_met hv m.left i hb ha hg hi
        | tail _ hm => exact readQ_met hr m.right j f v hm hj
      · cases h
    · rename_i hb
      cases hm with
      | head => rw [hj] at hb; cases hb
      | tail _ hm => exact readQ_met h m j f v hm hj
omit [Inhabited Prop] in
theorem pairsQ_met {l : List Log} : ∀ {ps : List (Nat × Nat)} {q : List Obl}, pairsQ l ps = some q → Met q → ps.all (pairOk l) = true
  | [], q, _, _ => rfl
  | p :: ps, q, h, m => by
    simp only [pairsQ] at h
    split at h
    · rename_i a b h1 h2
      cases h
      rw [List.all_cons, pairsQ_met h2 m.right, Bool.and_true]
      unfold pairOk
      rw [List.all_eq_true]
      intro r hr
      cases r with
      | big _ _ _ => rfl
      | read j f v =>
        simp only
        cases hj : Nat.beq j p.1 with
        | false => rfl
        | true => exact readQ_met h1 m.left j f v hr hj
    · cases h
section
variable {P : Program} {call : CallF} {cl : List (Tmp × Value)}
omit [Inhabited Prop] in
theorem plainV_step {o : Oper} {st : St} {v : Value} (h : plainV P st.eval st.hp.get st.hp.sz o = some v) : aStep P call o st = some (v, st.hp, st.df) := by
  unfold plainV at h
  unfold aStep
  split at h
  · rename_i hc
    simp only [hc]
    unfold fstV at h
    split at h
    · rename_i ho; cases h; simp only [ho]
    · cases h
  · rename_i hc
    simp only [hc, h]
  · cases h
end
end Go.Proofs.Ytbhmodlpolgklaa.AI
namespace Go.Proofs.Ytbhmodlpolgklaa.AI
open Go Go.RowKit
variable [Inhabited Prop]
def flatD : Value → Bool
  | .agg cs => cs.toList.all flat
  | v => flat v
abbrev Hooks := List (FuncId × (List Value → Option Value))
def hookOf : Hooks → FuncId → Option (List Value → Option Value)
  | [], _ => none
  | (g, k) :: r, f => match Nat.beq g f with
    | true => some k
    | false => hookOf r f
def extH (P : Program) (hs : Hooks) : Ext := fun f => match hookOf hs f with
  | some g => some fun _ args h => (g args).map fun v => (v, h)
  | none => extOf P f
structure HookGoal (P : Program) (f : FuncId) (g : List Value → Option Value) : Prop where
  fn : ∃ fn, P.funcs[f]? = some fn ∧ fnSafe P fn = true
  flats : ∀ args v, g args = some v → args.all flatD = true ∧ flatD v = true
  run : ∀ args v, g args = some v → ∀ w, Calls P f args.toArray w fun e w' => e = .returned v ∧ Bel w.heap.size w w'
section
variable {P : Program}
omit [Inhabited Prop] in
theorem VRel.of_flatD {m : BM} {h : HG} {v v' : Value} (hf : flatD v = true) (r : VRel m h v v') : v' = v := by
  cases v with
  | agg cs =>
    obtain ⟨a', rfl, r2⟩ := r.of_agg
    have := VRelL.of_flats (by simpa [flatD] using hf) r2.toList
    congr 1
    cases a'; cases cs; simp_all
  | _ => exact r.of_flat (by simpa [flatD] using hf)
omit [Inhabited Prop] in
theorem VRelL.of_flatDs {m : BM} {h : HG} : ∀ {asv bs : List Value}, asv.all flatD = true → VRelL m h asv bs → bs = asv
  | [], bs, _, r => r.of_nil
  | a :: asv, bs, hf, r => by
    obtain ⟨b, bs', rfl, h1, h2⟩ := r.of_cons
    simp only [List.all_cons, Bool.and_eq_true] at hf
    rw [h1.of_flatD hf.1, VRelL.of_flatDs hf.2 h2]
omit [Inhabited Prop] in
theorem VRel.flatD {m : BM} {h : HG} {v : Value} (hf : AI.flatD v = true) : VRel m h v v := by
  cases v with
  | agg cs =>
    have := VRelL.flats (m := m) (h := h) (asv := cs.toList) (by simpa [AI.flatD] using hf)
    simpa using VRel.agg' this
  | _ => exact .flat (by simpa [AI.flatD] using hf)
omit [Inhabited Prop] in
theorem VRelL.flatDs {m : BM} {h : HG} : ∀ {asv : List Value}, asv.all AI.flatD = true → VRelL m h asv asv
  | [], _ => .nil
  | a :: asv, hf => by
    simp only [List.all_cons, Bool.and_eq_true] at hf
    exact .cons (VRel.flatD hf.1) (VRelL.flatDs hf.2)
theorem go_below {m : BM} {h : HG} {w w' : World} (s : Sim m h w) (b : Bel w.heap.size w w') : Go1 m h w m h w' := by
  refine Go0.go ⟨Le.refl _ _, ⟨fun c x hx => ?_, s.inj⟩, b.size, fun _ _ hx => .inl hx, fun r hr _ => b.block r hr, fun _ _ _ hm => hm, fun _ _ ho _ => ho, fun _ o ho => ⟨o, ho⟩, fun _ _ _ hr => hr, b.os, b.tape, b.output⟩ s rfl
  obtain ⟨o, ho, hr⟩ := s.dom c x hx
  refine ⟨o, ho, ?_⟩
  by_cases hd : o = .dead
  · subst hd; trivial
  · refine hr.mono (Le.refl _ _) (b.block _ (s.lt hx ?_))
    unfold live?; rw [ho]; cases o <;> simp_all
theorem hook_call {f : FuncId} {g : List Value → Option Value} (hg : HookGoal P f g) : CallGoal P f (fun args h => (g args).map fun v => (v, h)) := by
  intro args hp v hp' he hk
  obtain ⟨v0, hv, e⟩ := Option.map_eq_some_iff.1 he
  cases e
  obtain ⟨q1, q2⟩ := hg.flats args v hv
  obtain ⟨fn, hf, hs⟩ := hg.fn
  obtain ⟨c, hb, _, hnm⟩ := fnSafe_parts hs
  refine ⟨hk, Nat.le_refl _, fun m h w args' hfr s r => .inr ⟨run_callFunc hf (by rw [hb]; rfl) hnm, ?_⟩⟩
  have ha : args' = args.toArray := by
    have := VRelL.of_flatDs q1 r
    cases args'; simp_all
  subst ha
  refine (hg.run args v hv w).mono fun e w' hh => ?_
  exact ⟨v, hh.1, m, go_below s hh.2, VRel.flatD q2⟩
def HooksOk (P : Program) (hs : Hooks) : Prop := ∀ p ∈ hs, HookGoal P p.1 p.2
omit [Inhabited Prop] in
theorem hookOf_mem : ∀ {hs : Hooks} {f : FuncId} {g : List Value → Option Value}, hookOf hs f = some g → (f, g) ∈ hs
  | [], f, g, h => by cases h
  | (k, e) :: r, f, g, h => by
    unfold hookOf at h
    split at h
    · rename_i hb
      cases h
      rw [Nat.eq_of_beq_eq_true hb]
      exact .head _
    · exact .tail _ (hookOf_mem h)
theorem extH_ok {hs : Hooks} (h : HooksOk P hs) : ExtOk P (extH P hs) := by
  intro f
  unfold extH
  cases hf : hookOf hs f with
  | none => exact extOf_ok P f
  | some g => exact fun call _ => hook_call (h _ (hookOf_mem hf))
theorem HooksOk.nil : HooksOk P [] := fun p hp => by cases hp
theorem HooksOk.cons {f : FuncId} {g : List Value → Option Value} {hs : Hooks} (h : HookGoal P f g) (hr : HooksOk P hs) : HooksOk P ((f, g) :: hs) := fun p hp => by
  cases hp with
  | head => exact h
  | tail _ hp => exact hr p hp
theorem call_soundX {ext : Ext} (hx : ExtOk P ext) (hm : P.follows .mixedOrders = true) {n : Nat} {f : FuncId} {args : List Value} {hp hp' : Hp} {v : Value} (he : aCall P ext n f args hp = some (v, hp')) (hk : hp.ok)
    {m : BM} {w : World} {args' : Array Value} (s : Sim m hp.get w) (r : VRelL m hp.get args args'.toList) {fn : Func} (hf : P.funcs[f]? = some fn) (hb : fn.body.isSome = true) :
    Calls P f args' w fun e w' => ∃ v', e = .returned v' ∧ ∃ m', Go1 m hp.get w m' hp'.get w' ∧ VRel m' hp'.get v v' := by
  obtain ⟨k1, k2, k3⟩ := aCall_sound hx hm n f args hp v hp' he hk
  have e1 : ovr hp (fun _ => none) = hp.get := by
    funext b; unfold ovr
    split
    · rfl
    · rename_i hlt; exact (hk b (by omega)).symm
  have e2 : ovr hp' (fun _ => none) = hp'.get := by
    funext b; unfold ovr
    split
    · rfl
    · rename_i hlt; exact (k1 b (by omega)).symm
  have := k3 m (fun _ => none) w args' (fun _ _ _ => rfl) (by rw [e1]; exact s) (by rw [e1]; exact r)
  rw [e1, e2] at this
  rcases this with ⟨v', w', h1, _⟩ | ⟨_, h2⟩
  · exfalso
    have hbn : fn.body.isNone = false := by cases hq : fn.body <;> simp_all
    simp only [callFunc, Sem.run_bind, run_program, Result.andThen_ok, hf, hbn, Bool.false_eq_true, if_false] at h1
    split at h1 <;> simp at h1
  · exact h2
theorem hook_of {ext : Ext} (hx : ExtOk P ext) (hm : P.follows .mixedOrders = true) {f : FuncId} {fn : Func} {g : List Value → Option Value} (hf : P.funcs[f]? = some fn) (hs : fnSafe P fn = true)
    (h : ∀ args v, g args = some v → args.all flatD = true ∧ flatD v = true ∧ ∃ n hp', aCall P ext n f args hp0 = some (v, hp')) : HookGoal P f g := by
  obtain ⟨c, hb, _, _⟩ := fnSafe_parts hs
  refine ⟨⟨fn, hf, hs⟩, fun args v hg => ⟨(h args v hg).1, (h args v hg).2.1⟩, fun args v hg w => ?_⟩
  obtain ⟨q1, q2, n, hp', he⟩ := h args v hg
  have r : VRelL bm0 hp0.get args args.toArray.toList := by simpa using VRelL.flatDs q1
  refine (call_soundX hx hm he hp0_ok sim0 r hf (by rw [hb]; rfl)).mono fun e w' hh => ?_
  obtain ⟨v', rfl, m', gg, rv⟩ := hh
  exact ⟨by rw [rv.of_flatD q2], ⟨gg.os, gg.tape, gg.output, gg.size, fun k hk => gg.frame k hk fun b x hx _ => by cases hx⟩⟩
end
end Go.Proofs.Ytbhmodlpolgklaa.AI
namespace Go.Proofs.Ytbhmodlpolgklaa.AI
open Go Go.RowKit
variable [Inhabited Prop]
def hg0 : HG := fun _ => none
omit [Inhabited Prop] in
theorem ovr_hg0 {hp : Hp} (k : hp.ok) : ovr hp hg0 = hp.get := by
  funext b; unfold ovr
  split
  · rfl
  · rename_i hlt; exact (k b (by omega)).symm
structure Base where
  w : World
  S : Nat → Prop
  L : Nat → Prop
def Base.shut (w : World) (L : Nat → Prop) : Base := ⟨w, fun _ => False, L⟩
structure Keeps (W : Base) (w' : World) : Prop where
  os : w'.os = W.w.os
  tape : Tp w' W.w
  output : w'.output = W.w.output
  size : W.w.heap.size ≤ w'.heap.size
  block : ∀ k, k < W.w.heap.size → ¬ W.S k → w'.heap[k]? = W.w.heap[k]?
theorem Keeps.refl (w : World) (S L : Nat → Prop) : Keeps ⟨w, S, L⟩ w := ⟨rfl, .refl _, rfl, Nat.le_refl _, fun _ _ _ => rfl⟩
theorem Keeps.shut {w w' : World} {L : Nat → Prop} (h : Keeps (Base.shut w L) w') : Bel w.heap.size w w' := ⟨h.os, h.tape, h.output, h.size, fun k hk => h.block k hk fun h => h⟩
structure FR (n : Nat) (W : Base) (st : St) (a : Act) (w : World) (m : BM) : Prop where
  ok : st.hp.ok
  rel : Rel n m hg0 w st a
  below : Keeps W w
  own : ∀ b x, m b = some x → rw? st.hp.get b = true → W.w.heap.size ≤ x.1 ∨ W.S x.1
  ownl : ∀ r, m.lrow r → W.L r ∨ W.w.heap.size ≤ r ∨ W.S r
theorem FR.go {n : Nat} {W : Base} {st st' : St} {a a' : Act} {w w' : World} {m m' : BM} (f : FR n W st a w m) (k : st'.hp.ok) (g : Go1 m (ovr st.hp hg0) w m' (ovr st'.hp hg0) w') (r : Rel n m' hg0 w' st' a') : FR n W st' a' w' m' := by
  rw [ovr_hg0 f.ok, ovr_hg0 k] at g
  refine ⟨k, r, ⟨g.os.trans f.below.os, g.tape.trans f.below.tape, g.output.trans f.below.output, Nat.le_trans f.below.size g.size, fun i hi hS => ?_⟩, fun b x hx hr => ?_, fun r q => ?_⟩
  · refine (g.frame i (Nat.lt_of_lt_of_le hi f.below.size) fun b x hx hr e => ?_).trans (f.below.block i hi hS)
    rcases f.own b x hx hr with h | h
    · omega
    · rw [e] at h; exact hS h
  · rcases g.new b x hx with h | h | ⟨b0, x0, h0, hr0, e⟩
    · exact f.own b x h (g.rwb b x h hr)
    · exact .inl (Nat.le_trans f.below.size h)
    · rw [← e]; exact f.own b0 x0 h0 hr0
  · rcases g.newl r q with h | h | ⟨b0, x0, h0, hr0, e⟩
    · exact f.ownl r h
    · exact .inr (.inl (Nat.le_trans f.below.size h))
    · rw [← e]; exact .inr (f.own b0 x0 h0 hr0)
section
variable {P : Program} {call : CallF}
theorem seg (hc : CallOk P call) (hm : P.follows .mixedOrders = true) {N n : Nat} {c : Code} {st st' : St} {e : Exit} (he : exec P call n c st = some (e, st')) (hs : codeSafe P N c = true) {W : Base} {w : World} {a : Act} {m : BM} (f : FR N W st a w m) :
    c.wp P (fun e' a' w' => e' = e ∧ ∃ m', FR N W st' a' w' m') a w := by
  obtain ⟨_, k1, _, k3⟩ := exec_sound hc hm n c st e st' he hs f.ok
  refine wp_mono (wpR_wp (k3 m hg0 w a (fun _ _ _ => rfl) f.rel)) fun e' a' w' q => ?_
  obtain ⟨q1, m', g, r⟩ := q
  exact ⟨q1, m', f.go k1 g r⟩
end
def mkT (f : Nat → Value) : Nat → Tr Value
  | 0 => .leaf
  | n + 1 => Tr.set (f n) (n + 1) n (mkT f n)
omit [Inhabited Prop] in
theorem mkT_get (f : Nat → Value) : ∀ n t, (mkT f n).get t = if t < n then some (f t) else none
  | 0, t => by simp [mkT, Tr.get_leaf]
  | n + 1, t => by
    simp only [mkT, Tr.get_set _ _ _ _ _ (Nat.lt_succ_self n), mkT_get f n]
    by_cases h : t = n
    · subst h; simp
    · rw [if_neg h]
      by_cases h2 : t < n
      · rw [if_pos h2, if_pos (by omega)]
      · rw [if_neg h2, if_neg (by omega)]
def frame (g : Nat → Value) (L : List (Nat × Value)) : Nat → Value := fun t => match L.find? (fun p => Nat.beq p.1 t) with
  | some p => p.2
  | none => g t
def idxOf (b : Nat) : List Nat → Nat → Option Nat
  | [], _ => none
  | c :: cs, i => match Nat.beq c b with
    | true => some i
    | false => idxOf b cs (i + 1)
omit [Inhabited Prop] in
theorem idxOf_some {b : Nat} : ∀ {K : List Nat} {i j : Nat}, idxOf b K i = some j → ∃ k, j = i + k ∧ K[k]? = some b
  | [], i, j, h => by cases h
  | c :: cs, i, j, h => by
    unfold idxOf at h
    split at h
    · rename_i hb
      cases h
      exact ⟨0, rfl, by simp [Nat.eq_of_beq_eq_true hb]⟩
    · obtain ⟨k, h1, h2⟩ := idxOf_some h
      exact ⟨k + 1, by omega, by simpa using h2⟩
def rho (K : List Nat) (b : Nat) : Nat := (idxOf b K 0).getD K.length
def ren1 (K : List Nat) : Value → Value
  | .pointer (some a) => .pointer (some ⟨rho K a.block, a.off, a.spot⟩)
  | .slice (some a) l c => .slice (some ⟨rho K a.block, a.off, a.spot⟩) l c
  | .map (some b) => .map (some (rho K b))
  | v => v
def ren (K : List Nat) : Value → Value
  | .agg cs => .agg (cs.map (ren1 K))
  | v => ren1 K v
def nice : Value → Bool
  | .agg cs => cs.toList.all fun v => match v with | .agg _ | .tuple _ | .func .. => false | _ => true
  | .tuple cs => cs.isEmpty
  | .func .. => false
  | _ => true
def heapOf : List Blk → Hp → Hp
  | [], h => h
  | o :: os, h => heapOf os (h.push o)
omit [Inhabited Prop] in
theorem heapOf_get : ∀ (os : List Blk) (h : Hp) (b : Nat), (heapOf os h).get b = if b < h.sz then h.get b else match os[b - h.sz]? with | some o => some o | none => h.get b
  | [], h, b => by simp [heapOf]
  | o :: os, h, b => by
    rw [heapOf, heapOf_get os, Hp.sz_push, Hp.get_push]
    by_cases h1 : b < h.sz
    · rw [if_pos (by omega), if_neg (by omega), if_pos h1]
    · rw [if_neg h1]
      by_cases h2 : b = h.sz
      · subst h2; simp
      · rw [if_neg (by omega), if_neg h2, show b - h.sz = (b - (h.sz + 1)) + 1 from by omega]
        simp
omit [Inhabited Prop] in
theorem heapOf_ok : ∀ (os : List Blk) (h : Hp), h.ok → (heapOf os h).ok
  | [], h, k => k
  | o :: os, h, k => heapOf_ok os _ (k.push o)
def BSame (o o2 : Blk) : Prop := o2 = o ∧ match o with
  | .cells _ cs _ => cs.all flat = true
  | .map es _ _ => ∀ e ∈ es, flat e.2.1 = true
  | .dead => True
omit [Inhabited Prop] in
theorem garb {m m2 : BM} {h h2 : HG} {D : Nat} (hD : h2 D = some .dead) {v v' : Value} (r : VRel m h v v') : ∃ u, VRel m2 h2 u v' := by
  have arr : ∀ {a a' : Array Value}, a.size = a'.size → (∀ (i : Nat) (x x' : Value), a[i]? = some x → a'[i]? = some x' → ∃ u, VRel m2 h2 u x') → ∃ b : Array Value, b.size = a'.size ∧ ∀ (i : Nat) (x x' : Value), b[i]? = some x → a'[i]? = some x' → VRel m2 h2 x x' := by
    intro a a' hs hi
    have hc : ∀ i : Fin a'.size, ∃ u, VRel m2 h2 u a'[i] := fun i =>
      hi i (a[i.1]'(by have := i.2; omega)) a'[i] (Array.getElem?_eq_getElem _) (Array.getElem?_eq_getElem _)
    refine ⟨Array.ofFn fun i => (hc i).choose, by simp, fun i x x' h1 h2 => ?_⟩
    obtain ⟨hi1, rfl⟩ := Array.getElem?_eq_some_iff.1 h1
    obtain ⟨hi2, rfl⟩ := Array.getElem?_eq_some_iff.1 h2
    simp only [Array.getElem_ofFn]
    exact (hc ⟨i, hi2⟩).choose_spec
  induction r with
  | flat hf => exact ⟨_, .flat hf⟩
  | blind h1 => exact ⟨_, .blind h1⟩
  | blind0 => exact ⟨_, .blind0⟩
  | @lit n ty cs r off cap h1 h2 => exact ⟨_, .blind h2⟩
  | @bag n ty cs ds r off cap h1 h2 h3 => exact ⟨_, .blind h3⟩
  | lit0 => exact ⟨_, .blind0⟩
  | litE => exact ⟨_, .blind (Nat.zero_le _)⟩
  | bag0 => exact ⟨_, .blind0⟩
  | junk h1 => exact ⟨_, .junk h1⟩
  | @ptr b off r off' h1 => exact ⟨.pointer (some ⟨D, off, none⟩), .ptr (.inl hD)⟩
  | @slice b off len c r off' cap h0 h1 => exact ⟨.slice (some ⟨D, off, none⟩) len c, .slice h0 (.inl hD)⟩
  | map h1 => exact ⟨.map (some D), .map (.inl hD)⟩
  | @func f a a' c c' h1 _ h3 _ ih1 ih2 =>
    obtain ⟨x, x1, x2⟩ := arr h1 ih1
    obtain ⟨y, y1, y2⟩ := arr h3 ih2
    exact ⟨.func (.func f) x y, .func x1 x2 y1 y2⟩
  | agg h1 _ ih =>
    obtain ⟨x, x1, x2⟩ := arr h1 ih
    exact ⟨.agg x, .agg x1 x2⟩
  | tuple h1 _ ih =>
    obtain ⟨x, x1, x2⟩ := arr h1 ih
    exact ⟨.tuple x, .tuple x1 x2⟩
def canM (m : BM) (K : List Nat) : BM := ⟨fun b2 => match K[b2]? with
  | some b => m b
  | none => none, m.lit⟩
omit [Inhabited Prop] in
theorem canM_at {m : BM} {K : List Nat} {b2 : Nat} : canM m K b2 = match K[b2]? with
  | some b => m b
  | none => none := rfl
theorem FR.canon {n : Nat} {W : Base} {w : World} {st : St} {a : Act} {m : BM} (f : FR n W st a w m) (K : List Nat) (O : List Blk) (L : List (Nat × Value)) (hK : K.Nodup) (hO : O.length = K.length)
    (hB : ∀ (i b : Nat) (o2 : Blk), K[i]? = some b → O[i]? = some o2 → ∃ o, st.hp.get b = some o ∧ BSame o o2)
    (hL : ∀ p ∈ L, p.1 < n ∧ nice (st.tget p.1) = true ∧ p.2 = ren K (st.tget p.1)) (hd : st.df = []) :
    ∃ g m2, FR n W ⟨mkT (frame g L) n, heapOf (O ++ [.dead]) hp0, []⟩ a w m2 := by
  have hget : ∀ b2, (heapOf (O ++ [.dead]) hp0).get b2 = (O ++ [Blk.dead])[b2]? := by
    intro b2
    rw [heapOf_get]
    simp only [hp0, Nat.not_lt_zero, if_false, Nat.sub_zero]
    cases (O ++ [Blk.dead])[b2]? <;> rfl
  have hD : (heapOf (O ++ [.dead]) hp0).get K.length = some .dead := by
    rw [hget, ← hO]; simp
  have hold : ∀ (i b : Nat), K[i]? = some b → ∃ o o2, st.hp.get b = some o ∧ (heapOf (O ++ [.dead]) hp0).get i = some o2 ∧ BSame o o2 := by
    intro i b hi
    have hlt : i < O.length := by rw [hO]; exact (List.getElem?_eq_some_iff.1 hi).1
    have h2 : O[i]? = some O[i] := List.getElem?_eq_getElem hlt
    obtain ⟨o, h3, h4⟩ := hB i b _ hi h2
    exact ⟨o, O[i], h3, by rw [hget, List.getElem?_append_left hlt, h2], h4⟩
  have inj : ∀ (i j b : Nat), K[i]? = some b → K[j]? = some b → i = j := by
    intro i j b h1 h2
    obtain ⟨q1, e1⟩ := List.getElem?_eq_some_iff.1 h1
    obtain ⟨q2, e2⟩ := List.getElem?_eq_some_iff.1 h2
    have hp := List.pairwise_iff_getElem.1 hK
    rcases Nat.lt_trichotomy i j with q | q | q
    · exact absurd (e1.trans e2.symm) (hp i j q1 q2 q)
    · exact q
    · exact absurd (e2.trans e1.symm) (hp j i q2 q1 q)
  have hrel := f.rel
  have e0 : ovr st.hp hg0 = st.hp.get := ovr_hg0 f.ok
  have hk2 : (heapOf (O ++ [.dead]) hp0).ok := heapOf_ok _ _ hp0_ok
  have sim := hrel.sim
  rw [e0] at sim
  have tm := hrel.tm
  rw [e0] at tm
  -- what points at a block
  have pt : ∀ b (Q : Prop), (st.hp.get b = some .dead ∨ Q) → (heapOf (O ++ [.dead]) hp0).get (rho K b) = some .dead ∨ (Q ∧ canM m K (rho K b) = m b) := by
    intro b Q hq
    unfold rho
    cases hi : idxOf b K 0 with
    | none => exact .inl hD
    | some j =>
      obtain ⟨k, rfl, hk⟩ := idxOf_some hi
      simp only [Nat.zero_add, Option.getD_some]
      rcases hq with hq | hq
      · obtain ⟨o, o2, h1, h2, h3⟩ := hold k b hk
        rw [hq] at h1; cases h1
        rw [h2, h3.1]; exact .inl rfl
      · exact .inr ⟨hq, by simp only [canM_at]; rw [hk]⟩
  have one : ∀ {v v' : Value}, VRel m st.hp.get v v' → (match v with | .agg _ | .tuple _ | .func .. => false | _ => true) = true → VRel (canM m K) (heapOf (O ++ [.dead]) hp0).get (ren1 K v) v' := by
    intro v v' r hv
    cases r with
    | flat hf =>
      have : ren1 K v = v := by cases v with
        | pointer a => cases a <;> first | rfl | (simp [AI.flat] at hf)
        | slice a l c => cases a <;> first | rfl | (simp [AI.flat] at hf)
        | map a => cases a <;> first | rfl | (simp [AI.flat] at hf)
        | _ => rfl
      rw [this]; exact .flat hf
    | ptr h1 =>
      rcases pt _ _ h1 with h | ⟨⟨δ, E, q1, q2⟩, e⟩
      · exact .ptr (.inl h)
      · exact .ptr (.inr ⟨δ, E, by rw [e]; exact q1, q2⟩)
    | slice h0 h1 =>
      rcases pt _ _ h1 with h | ⟨⟨δ, E, q1, q2⟩, e⟩
      · exact .slice h0 (.inl h)
      · exact .slice h0 (.inr ⟨δ, E, by rw [e]; exact q1, q2⟩)
    | blind h1 => exact .blind h1
    | blind0 => exact .blind0
    | lit h1 h2 => exact .lit h1 h2
    | bag h1 h2 h3 => exact .bag h1 h2 h3
    | lit0 => exact .lit0
    | litE => exact .litE
    | bag0 => exact .bag0
    | junk h1 => exact .junk h1
    | map h1 =>
      rcases pt _ _ h1 with h | ⟨⟨x, q1⟩, e⟩
      · exact .map (.inl h)
      · exact .map (.inr ⟨x, by rw [e]; exact q1⟩)
    | func _ _ _ _ => cases hv
    | agg _ _ => cases hv
    | tuple _ _ => cases hv
  have two : ∀ {v v' : Value}, VRel m st.hp.get v v' → nice v = true → VRel (canM m K) (heapOf (O ++ [.dead]) hp0).get (ren K v) v' := by
    intro v v' r hv
    cases v with
    | agg cs =>
      obtain ⟨a', rfl, h1, h2⟩ := r.of_agg
      refine .agg (by simpa using h1) fun i x x' q1 q2 => ?_
      simp only [Array.getElem?_map, Option.map_eq_some_iff] at q1
      obtain ⟨y, hy, rfl⟩ := q1
      refine one (h2 i y x' hy q2) ?_
      have := List.all_eq_true.1 hv y (Array.mem_toList_iff.2 (Array.mem_of_getElem? hy))
      exact this
    | tuple cs =>
      obtain ⟨a', rfl, h1, h2⟩ := r.of_tuple
      have he : cs = #[] := by simpa [nice] using hv
      subst he
      exact .tuple h1 fun i x x' q1 _ => by simp [ren, ren1] at q1
    | func fn x y => cases hv
    | _ => exact one r rfl
  have hgarb : ∀ t, ∃ u, VRel (canM m K) (heapOf (O ++ [.dead]) hp0).get u (a.tmps.getD t undef) := fun t => garb hD (tm.tm t)
  refine ⟨fun t => (hgarb t).choose, canM m K, hk2, ⟨?_, ⟨tm.size, fun t => ?_⟩, ?_⟩, f.below, ?_, f.ownl⟩
  · -- the heap
    rw [ovr_hg0 hk2]
    refine ⟨⟨fun b2 x hx => ?_, fun b b' x x' hx hx' hr hl e => ?_⟩, fun r o t c q => (sim.lit r o t c q).mono (fun _ _ _ _ h => h) rfl, fun r q b2 x hx hr => ?_⟩
    · simp only [canM_at] at hx
      split at hx
      · rename_i b hb
        obtain ⟨o, o2, h1, h2, h3, h4⟩ := hold b2 b hb
        refine ⟨o2, h2, ?_⟩
        obtain ⟨o', ho', hbr⟩ := sim.dom b x hx
        rw [h1] at ho'; cases ho'
        subst h3
        cases o2 with
        | cells ty cs ro =>
          obtain ⟨c, fr, g1, g2, g3, g4, g5⟩ := hbr
          refine ⟨c, fr, g1, g2, g3, fun i v v' q1 q2 => ?_, g5⟩
          have hf := List.all_eq_true.1 h4 v (List.mem_of_getElem? q1)
          rw [(g4 i v v' q1 q2).of_flat hf]
          exact .flat hf
        | map es cl ro =>
          obtain ⟨fs, g1, g2, g3⟩ := hbr
          refine ⟨fs, g1, g2, fun i e ff q1 q2 => ?_⟩
          obtain ⟨p1, p2, p3, p4⟩ := g3 i e ff q1 q2
          have hf := h4 e (List.mem_of_getElem? q1)
          refine ⟨p1, p2, ?_, p4⟩
          rw [p3.of_flat hf]; exact .flat hf
        | dead => trivial
      · cases hx
    · simp only [canM_at] at hx hx'
      split at hx
      · rename_i c hc
        split at hx'
        · rename_i c' hc'
          obtain ⟨o, o2, h1, h2, h3, _⟩ := hold b c hc
          obtain ⟨o', o2', h1', h2', h3', _⟩ := hold b' c' hc'
          subst h3; subst h3'
          have hr' : rw? st.hp.get c = true := by unfold rw? at hr ⊢; rw [h1]; rwa [h2] at hr
          have hl' : live? st.hp.get c' = true := by unfold live? at hl ⊢; rw [h1']; rwa [h2'] at hl
          have := sim.inj c c' x x' hx hx' hr' hl' e
          subst this
          exact inj b b' c hc hc'
        · cases hx'
      · cases hx
    · simp only [canM_at] at hx
      split at hx
      · rename_i c hc
        obtain ⟨o, o2, h1, h2, h3, _⟩ := hold b2 c hc
        subst h3
        exact sim.ice r q c x hx (by unfold rw? at hr ⊢; rw [h1]; rwa [h2] at hr)
      · cases hx
  · rw [ovr_hg0 hk2]
    simp only [St.tget, mkT_get]
    by_cases ht : t < n
    · rw [if_pos ht]
      simp only [Option.getD_some, frame]
      cases hq : L.find? (fun p => Nat.beq p.1 t) with
      | none => exact (hgarb t).choose_spec
      | some p =>
        have h1 := List.find?_some hq
        have h2 := List.mem_of_find?_eq_some hq
        have e : p.1 = t := Nat.eq_of_beq_eq_true h1
        subst e
        obtain ⟨_, h3, h4⟩ := hL p h2
        simp only
        rw [h4]
        exact two (tm.tm p.1) h3
    · rw [if_neg ht]
      have : a.tmps.getD t undef = undef := by
        have hs := tm.size
        simp [Array.getElem?_eq_none (show a.tmps.size ≤ t by omega)]
      rw [this]
      exact VRel.undef
  · rw [ovr_hg0 hk2]
    have := hrel.df
    rw [hd] at this
    rw [this.of_nil]
    exact .nil
  · intro b2 x hx hr
    simp only [canM_at] at hx
    split at hx
    · rename_i b hb
      obtain ⟨o, o2, h1, h2, h3, _⟩ := hold b2 b hb
      subst h3
      exact f.own b x hx (by unfold rw? at hr ⊢; rw [h1]; rwa [h2] at hr)
    · cases hx
end Go.Proofs.Ytbhmodlpolgklaa.AI
namespace Go.Proofs.Ytbhmodlpolgklaa.AI
open Go Go.RowKit
variable [Inhabited Prop]
def FRwp (P : Program) (N : Nat) (W : Base) (c : Code) (st : St) (Q : Exit → St → Prop) : Prop :=
  ∀ a w m, FR N W st a w m → c.wp P (fun e a' w' => ∃ st' m', FR N W st' a' w' m' ∧ Q e st') a w
section
variable {P : Program} {N : Nat} {W : Base}
theorem FRwp.mono {c : Code} {st : St} {Q Q' : Exit → St → Prop} (h : FRwp P N W c st Q) (hq : ∀ e st', Q e st' → Q' e st') : FRwp P N W c st Q' := fun a w m f =>
  wp_mono (h a w m f) fun e a' w' hh => by
    obtain ⟨st', m', f', q⟩ := hh
    exact ⟨st', m', f', hq e st' q⟩
theorem FRwp.run {call : CallF} (hc : CallOk P call) (hm : P.follows .mixedOrders = true) {n : Nat} {c : Code} {st st' : St} {e : Exit} (he : exec P call n c st = some (e, st')) (hs : codeSafe P N c = true) {Q : Exit → St → Prop} (hq : Q e st') : FRwp P N W c st Q := fun a w m f =>
  wp_mono (seg hc hm he hs f) fun e' a' w' hh => by
    obtain ⟨rfl, m', f'⟩ := hh
    exact ⟨st', m', f', hq⟩
theorem FRwp.seq {x y : Code} {st : St} {Q1 Q : Exit → St → Prop} (h1 : FRwp P N W x st Q1) (h2 : ∀ st', Q1 .normal st' → FRwp P N W y st' Q) (h3 : ∀ e st', e ≠ .normal → Q1 e st' → Q e st') : FRwp P N W (.seq x y) st Q := fun a w m f => by
  refine wp_seq (wp_mono (h1 a w m f) fun e a' w' hh => ?_)
  obtain ⟨st', m', f', q⟩ := hh
  cases e with
  | normal => exact h2 st' q a' w' m' f'
  | _ => exact ⟨st', m', f', h3 _ st' (by simp) q⟩
theorem FRwp.block {id : Nat} {x : Code} {st : St} {Q : Exit → St → Prop} (h : FRwp P N W x st fun e st' => match e with | .exit i => if i = id then Q .normal st' else Q (.exit i) st' | e => Q e st') : FRwp P N W (.block id x) st Q := fun a w m f => by
  refine wp_block (wp_mono (h a w m f) fun e a' w' hh => ?_)
  obtain ⟨st', m', f', q⟩ := hh
  cases e with
  | exit i =>
    show (if i = id then _ else _)
    by_cases hi : i = id
    · simp only [hi, if_true] at q ⊢
      exact ⟨st', m', f', q⟩
    · simp only [hi, if_false] at q ⊢
      exact ⟨st', m', f', q⟩
  | _ => exact ⟨st', m', f', q⟩
theorem FRwp.cond_true {x : Operand} {y z : Code} {st : St} {Q : Exit → St → Prop} (hx : okConst x = true) (hv : st.eval x = .bool true) (h : FRwp P N W y st Q) : FRwp P N W (.cond x y z) st Q := fun a w m f => by
  refine wp_cond_true ?_ (h a w m f)
  have := f.rel.tm.eval hx
  rw [hv] at this
  exact this.of_bool
theorem FRwp.cond_false {x : Operand} {y z : Code} {st : St} {Q : Exit → St → Prop} (hx : okConst x = true) (hv : st.eval x = .bool false) (h : FRwp P N W z st Q) : FRwp P N W (.cond x y z) st Q := fun a w m f => by
  refine wp_cond_false ?_ (h a w m f)
  have := f.rel.tm.eval hx
  rw [hv] at this
  exact this.of_bool
theorem FRwp.scope {x : Code} {st : St} {Q : Exit → St → Prop} (h : FRwp P N W x st fun e st' => (∀ l, e ≠ .goto l) ∧ Q e st') : FRwp P N W (.scope x) st Q := fun a w m f => by
  refine wp_scope_straight (wp_mono (h a w m f) fun e a' w' hh => ?_)
  obtain ⟨st', m', f', q1, q⟩ := hh
  cases e with
  | goto l => exact absurd rfl (q1 l)
  | _ => exact ⟨st', m', f', q⟩
omit [Inhabited Prop] in
theorem rounds_up {c : Code} {Q : Exit → Act → World → Prop} : ∀ n a w, Code.rounds P c Q n a w → Code.rounds P c Q (n + 1) a w
  | 0, _, _, h => h.elim
  | n + 1, a, w, h => by
    rw [rounds_succ] at h ⊢
    refine wp_mono h fun e a' w' q => ?_
    cases e with
    | normal => exact rounds_up n a' w' q
    | _ => exact q
omit [Inhabited Prop] in
theorem rounds_le {c : Code} {Q : Exit → Act → World → Prop} {n n' : Nat} {a : Act} {w : World} (h : n ≤ n') (k : Code.rounds P c Q n a w) : Code.rounds P c Q n' a w := by
  induction n' with
  | zero =>
    have : n = 0 := by omega
    subst this; exact k
  | succ n' ih =>
    rcases Nat.lt_or_ge n' n with q | q
    · have : n = n' + 1 := by omega
      subst this; exact k
    · exact rounds_up n' a w (ih q)
theorem FRwp.loop {x : Code} {Q : Exit → St → Prop} (I : Nat → St → Prop) (hI : ∀ k st, I k st → FRwp P N W x st fun e st' => (e = .normal ∧ ∃ k', k' < k ∧ I k' st') ∨ (e ≠ .normal ∧ Q e st')) {k : Nat} {st : St} (h : I k st) : FRwp P N W (.loop x) st Q := fun a w m f => by
  have key : ∀ k st a w m, I k st → FR N W st a w m → Code.rounds P x (fun e a' w' => ∃ st' m', FR N W st' a' w' m' ∧ Q e st') (k + 1) a w := by
    intro k
    induction k using Nat.strongRecOn with
    | _ k ih =>
      intro st a w m hi f
      rw [rounds_succ]
      refine wp_mono (hI k st hi a w m f) fun e a' w' hh => ?_
      obtain ⟨st', m', f', q⟩ := hh
      rcases q with ⟨rfl, k', hk, hi'⟩ | ⟨hne, q⟩
      · exact rounds_le (show k' + 1 ≤ k by omega) (ih k' hk st' a' w' m' hi' f')
      · cases e with
        | normal => exact absurd rfl hne
        | _ => exact ⟨st', m', f', q⟩
  exact wp_loop_rounds (k + 1) (key k st a w m h f)
theorem FRwp.canon {c : Code} {st : St} {Q : Exit → St → Prop} (K : List Nat) (O : List Blk) (L : List (Nat × Value)) (hK : K.Nodup) (hO : O.length = K.length)
    (hB : ∀ (i b : Nat) (o2 : Blk), K[i]? = some b → O[i]? = some o2 → ∃ o, st.hp.get b = some o ∧ BSame o o2)
    (hL : ∀ p ∈ L, p.1 < N ∧ nice (st.tget p.1) = true ∧ p.2 = ren K (st.tget p.1)) (hd : st.df = [])
    (h : ∀ g, FRwp P N W c ⟨mkT (frame g L) N, heapOf (O ++ [.dead]) hp0, []⟩ Q) : FRwp P N W c st Q := fun a w m f => by
  obtain ⟨g, m2, f2⟩ := f.canon K O L hK hO hB hL hd
  exact h g a w m2 f2
theorem fn_ofS {w0 : World} {S : Nat → Prop} {f : FuncId} {fn : Func} {c : Code} {args : List Value} {args' : Array Value} {hp : Hp} {m : BM} {R : Value → St → Prop} (hf : P.funcs[f]? = some fn) (hb : fn.body = some c) (hn : args.length ≤ fn.ntmps) (hk : hp.ok)
    (s : Sim m hp.get w0) (ro : ∀ b x, m b = some x → rw? hp.get b = true → S x.1) (r : VRelL m hp.get args args'.toList)
    (h : FRwp P fn.ntmps ⟨w0, S, m.lrow⟩ c ⟨tmsOf args 0 .leaf, hp, []⟩ fun e st => (e = .normal ∨ e = .ret) ∧ st.df = [] ∧ ∃ v, retVal P fn st = some v ∧ R v st) :
    Calls P f args' w0 fun e w' => ∃ v' v st' m', e = .returned v' ∧ R v st' ∧ VRel m' st'.hp.get v v' ∧ Sim m' st'.hp.get w' ∧ st'.hp.ok ∧ Keeps ⟨w0, S, m.lrow⟩ w' ∧ (∀ b x, m' b = some x → rw? st'.hp.get b = true → w0.heap.size ≤ x.1 ∨ S x.1) ∧ (∀ r, m'.lrow r → m.lrow r ∨ w0.heap.size ≤ r ∨ S r) := by
  refine calls_of_wp hf hb (wp_mono (h _ w0 m ⟨hk, ⟨by rw [ovr_hg0 hk]; exact s, by rw [ovr_hg0 hk]; exact args_rel r hn, .nil⟩, Keeps.refl _ _ _, fun b x hx hr => .inr (ro b x hx hr), fun r q => .inl q⟩) fun e a' w' hh => ?_)
  obtain ⟨st', m', f', q1, q2, v, q3, q4⟩ := hh
  have hd : a'.defers = [] := by
    have := f'.rel.df
    rw [q2] at this
    exact this.of_nil
  obtain ⟨v', h1, h2⟩ := retVal_sound f'.ok f'.rel.sim f'.rel.tm q3
  have e1 := ovr_hg0 f'.ok
  have hs := f'.rel.sim
  rw [e1] at h2 hs
  rcases q1 with rfl | rfl
  · exact ⟨hd, v', h1, v', v, st', m', rfl, q4, h2, hs, f'.ok, f'.below, f'.own, f'.ownl⟩
  · exact ⟨hd, v', h1, v', v, st', m', rfl, q4, h2, hs, f'.ok, f'.below, f'.own, f'.ownl⟩
theorem fn_of {w0 : World} {f : FuncId} {fn : Func} {c : Code} {args : List Value} {args' : Array Value} {hp : Hp} {m : BM} {R : Value → St → Prop} (hf : P.funcs[f]? = some fn) (hb : fn.body = some c) (hn : args.length ≤ fn.ntmps) (hk : hp.ok)
    (s : Sim m hp.get w0) (ro : ∀ b, rw? hp.get b = false) (r : VRelL m hp.get args args'.toList)
    (h : FRwp P fn.ntmps (Base.shut w0 m.lrow) c ⟨tmsOf args 0 .leaf, hp, []⟩ fun e st => (e = .normal ∨ e = .ret) ∧ st.df = [] ∧ ∃ v, retVal P fn st = some v ∧ R v st) :
    Calls P f args' w0 fun e w' => ∃ v' v st' m', e = .returned v' ∧ R v st' ∧ VRel m' st'.hp.get v v' ∧ Sim m' st'.hp.get w' ∧ st'.hp.ok ∧ Bel w0.heap.size w0 w' ∧ (∀ b x, m' b = some x → rw? st'.hp.get b = true → w0.heap.size ≤ x.1) ∧ (∀ r, m'.lrow r → m.lrow r ∨ w0.heap.size ≤ r) := by
  refine (fn_ofS (S := fun _ => False) hf hb hn hk s (fun b x _ hr => by rw [ro b] at hr; cases hr) r h).mono fun e w' hh => ?_
  obtain ⟨v', v, st', m', q1, q2, q3, q4, q5, q6, q7, q8⟩ := hh
  exact ⟨v', v, st', m', q1, q2, q3, q4, q5, q6.shut, fun b x hx hr => (q7 b x hx hr).elim id False.elim, fun r q => (q8 r q).imp id fun h => h.elim id False.elim⟩
end
end Go.Proofs.Ytbhmodlpolgklaa.AI
namespace Go.Proofs.Ytbhmodlpolgklaa.AI
open Go Go.RowKit
variable [Inhabited Prop]
def ren2 (K : List Nat) : Value → Value
  | .func f a b => .func f (a.map (ren1 K)) (b.map (ren1 K))
  | v => ren K v
def nice1 : Value → Bool
  | .agg _ | .tuple _ | .func .. => false
  | _ => true
def nice2 : Value → Bool
  | .func (.func _) a b => a.toList.all nice1 && b.toList.all nice1
  | v => nice v
omit [Inhabited Prop] in
theorem keysBox_map {f : Value → Value} (hf : ∀ v b, f v = .map (some b) → ∃ c, v = .map (some c)) {cs : List Value} (h : keysBox (cs.map f) = true) : keysBox cs = true := by
  match cs, h with
  | [], h => cases h
  | [v], h =>
    simp only [List.map_cons, List.map_nil] at h
    cases e : f v with
    | map a =>
      cases a with
      | none => rw [e] at h; cases h
      | some b => obtain ⟨c, rfl⟩ := hf v b e; rfl
    | _ => rw [e] at h; cases h
  | _ :: _ :: _, h => simp [keysBox] at h
omit [Inhabited Prop] in
theorem ren2_map {K : List Nat} : ∀ v b, ren2 K v = .map (some b) → ∃ c, v = .map (some c) := by
  intro v b h
  cases v with
  | map a => cases a with
    | none => cases h
    | some c => exact ⟨c, rfl⟩
  | pointer a => cases a <;> cases h
  | slice a l c => cases a <;> cases h
  | _ => cases h
def renBlk (K : List Nat) : Blk → Blk
  | .cells ty cs ro => .cells ty (cs.map (ren2 K)) ro
  | .map es cl ro => .map (es.map fun e => (e.1, ren2 K e.2.1, e.2.2)) cl ro
  | .dead => .dead
def niceBlk : Blk → Bool
  | .cells _ cs _ => cs.all nice2
  | .map es _ _ => es.all fun e => nice2 e.2.1
  | .dead => true
theorem FR.canon3 {n : Nat} {W : Base} {w : World} {st : St} {a : Act} {m : BM} (f : FR n W st a w m) (K : List Nat) (O : List Blk) (L : List (Nat × Value)) (hK : K.Nodup) (hO : O.length = K.length)
    (hB : ∀ (i b : Nat) (o2 : Blk), K[i]? = some b → O[i]? = some o2 → ∃ o, st.hp.get b = some o ∧ o2 = renBlk K o ∧ niceBlk o = true)
    (hL : ∀ p ∈ L, p.1 < n ∧ nice2 (st.tget p.1) = true ∧ p.2 = ren2 K (st.tget p.1)) (hd : st.df = []) :
    ∃ g, FR n W ⟨mkT (frame g L) n, heapOf (O ++ [.dead]) hp0, []⟩ a w (canM m K) := by
  have hget : ∀ b2, (heapOf (O ++ [.dead]) hp0).get b2 = (O ++ [Blk.dead])[b2]? := by
    intro b2
    rw [heapOf_get]
    simp only [hp0, Nat.not_lt_zero, if_false, Nat.sub_zero]
    cases (O ++ [Blk.dead])[b2]? <;> rfl
  have hD : (heapOf (O ++ [.dead]) hp0).get K.length = some .dead := by
    rw [hget, ← hO]; simp
  have hold : ∀ (i b : Nat), K[i]? = some b → ∃ o o2, st.hp.get b = some o ∧ (heapOf (O ++ [.dead]) hp0).get i = some o2 ∧ o2 = renBlk K o ∧ niceBlk o = true := by
    intro i b hi
    have hlt : i < O.length := by rw [hO]; exact (List.getElem?_eq_some_iff.1 hi).1
    have h2 : O[i]? = some O[i] := List.getElem?_eq_getElem hlt
    obtain ⟨o, h3, h4⟩ := hB i b _ hi h2
    exact ⟨o, O[i], h3, by rw [hget, List.getElem?_append_left hlt, h2], h4⟩
  have inj : ∀ (i j b : Nat), K[i]? = some b → K[j]? = some b → i = j := by
    intro i j b h1 h2
    obtain ⟨q1, e1⟩ := List.getElem?_eq_some_iff.1 h1
    obtain ⟨q2, e2⟩ := List.getElem?_eq_some_iff.1 h2
    have hp := List.pairwise_iff_getElem.1 hK
    rcases Nat.lt_trichotomy i j with q | q | q
    · exact absurd (e1.trans e2.symm) (hp i j q1 q2 q)
    · exact q
    · exact absurd (e2.trans e1.symm) (hp j i q2 q1 q)
  have hrel := f.rel
  have e0 : ovr st.hp hg0 = st.hp.get := ovr_hg0 f.ok
  have hk2 : (heapOf (O ++ [.dead]) hp0).ok := heapOf_ok _ _ hp0_ok
  have sim := hrel.sim
  rw [e0] at sim
  have tm := hrel.tm
  rw [e0] at tm
  -- what points at a block
  have pt : ∀ b (Q : Prop), (st.hp.get b = some .dead ∨ Q) → (heapOf (O ++ [.dead]) hp0).get (rho K b) = some .dead ∨ (Q ∧ canM m K (rho K b) = m b) := by
    intro b Q hq
    unfold rho
    cases hi : idxOf b K 0 with
    | none => exact .inl hD
    | some j =>
      obtain ⟨k, rfl, hk⟩ := idxOf_some hi
      simp only [Nat.zero_add, Option.getD_some]
      rcases hq with hq | hq
      · obtain ⟨o, o2, h1, h2, h3⟩ := hold k b hk
        rw [hq] at h1; cases h1
        rw [h2, h3.1]; exact .inl rfl
      · exact .inr ⟨hq, by simp only [canM_at]; rw [hk]⟩
  have one : ∀ {v v' : Value}, VRel m st.hp.get v v' → (match v with | .agg _ | .tuple _ | .func .. => false | _ => true) = true → VRel (canM m K) (heapOf (O ++ [.dead]) hp0).get (ren1 K v) v' := by
    intro v v' r hv
    cases r with
    | flat hf =>
      have : ren1 K v = v := by cases v with
        | pointer a => cases a <;> first | rfl | (simp [AI.flat] at hf)
        | slice a l c => cases a <;> first | rfl | (simp [AI.flat] at hf)
        | map a => cases a <;> first | rfl | (simp [AI.flat] at hf)
        | _ => rfl
      rw [this]; exact .flat hf
    | ptr h1 =>
      rcases pt _ _ h1 with h | ⟨⟨δ, E, q1, q2⟩, e⟩
      · exact .ptr (.inl h)
      · exact .ptr (.inr ⟨δ, E, by rw [e]; exact q1, q2⟩)
    | slice h0 h1 =>
      rcases pt _ _ h1 with h | ⟨⟨δ, E, q1, q2⟩, e⟩
      · exact .slice h0 (.inl h)
      · exact .slice h0 (.inr ⟨δ, E, by rw [e]; exact q1, q2⟩)
    | blind h1 => exact .blind h1
    | blind0 => exact .blind0
    | lit h1 h2 => exact .lit h1 h2
    | bag h1 h2 h3 => exact .bag h1 h2 h3
    | lit0 => exact .lit0
    | litE => exact .litE
    | bag0 => exact .bag0
    | junk h1 => exact .junk h1
    | map h1 =>
      rcases pt _ _ h1 with h | ⟨⟨x, q1⟩, e⟩
      · exact .map (.inl h)
      · exact .map (.inr ⟨x, by rw [e]; exact q1⟩)
    | func _ _ _ _ => cases hv
    | agg _ _ => cases hv
    | tuple _ _ => cases hv
  have two : ∀ {v v' : Value}, VRel m st.hp.get v v' → nice v = true → VRel (canM m K) (heapOf (O ++ [.dead]) hp0).get (ren K v) v' := by
    intro v v' r hv
    cases v with
    | agg cs =>
      obtain ⟨a', rfl, h1, h2⟩ := r.of_agg
      refine .agg (by simpa using h1) fun i x x' q1 q2 => ?_
      simp only [Array.getElem?_map, Option.map_eq_some_iff] at q1
      obtain ⟨y, hy, rfl⟩ := q1
      refine one (h2 i y x' hy q2) ?_
      have := List.all_eq_true.1 hv y (Array.mem_toList_iff.2 (Array.mem_of_getElem? hy))
      exact this
    | tuple cs =>
      obtain ⟨a', rfl, h1, h2⟩ := r.of_tuple
      have he : cs = #[] := by simpa [nice] using hv
      subst he
      exact .tuple h1 fun i x x' q1 _ => by simp [ren, ren1] at q1
    | func fn x y => cases hv
    | _ => exact one r rfl
  have three : ∀ {v v' : Value}, VRel m st.hp.get v v' → nice2 v = true → VRel (canM m K) (heapOf (O ++ [.dead]) hp0).get (ren2 K v) v' := by
    intro v v' r hv
    cases v with
    | func fn x y =>
      cases r with
      | flat hf => simp [AI.flat] at hf
      | func h1 h2 h3 h4 =>
        have hv' := Bool.and_eq_true_iff.1 hv
        refine .func (by simpa using h1) (fun i u u' q1 q2 => ?_) (by simpa using h3) (fun i u u' q1 q2 => ?_)
        · simp only [Array.getElem?_map, Option.map_eq_some_iff] at q1
          obtain ⟨z, hz, rfl⟩ := q1
          exact one (h2 i z u' hz q2) (List.all_eq_true.1 hv'.1 z (Array.mem_toList_iff.2 (Array.mem_of_getElem? hz)))
        · simp only [Array.getElem?_map, Option.map_eq_some_iff] at q1
          obtain ⟨z, hz, rfl⟩ := q1
          exact one (h4 i z u' hz q2) (List.all_eq_true.1 hv'.2 z (Array.mem_toList_iff.2 (Array.mem_of_getElem? hz)))
    | _ => exact two r hv
  have hgarb : ∀ t, ∃ u, VRel (canM m K) (heapOf (O ++ [.dead]) hp0).get u (a.tmps.getD t undef) := fun t => garb hD (tm.tm t)
  refine ⟨fun t => (hgarb t).choose, hk2, ⟨?_, ⟨tm.size, fun t => ?_⟩, ?_⟩, f.below, ?_, f.ownl⟩
  · -- the heap
    rw [ovr_hg0 hk2]
    refine ⟨⟨fun b2 x hx => ?_, fun b b' x x' hx hx' hr hl e => ?_⟩, fun r o t c q => (sim.lit r o t c q).mono (fun _ _ _ _ h => h) rfl, fun r q b2 x hx hr => ?_⟩
    · simp only [canM_at] at hx
      split at hx
      · rename_i b hb
        obtain ⟨o, o2, h1, h2, h3, h4⟩ := hold b2 b hb
        refine ⟨o2, h2, ?_⟩
        obtain ⟨o', ho', hbr⟩ := sim.dom b x hx
        rw [h1] at ho'; cases ho'
        subst h3
        cases o with
        | cells ty cs ro =>
          obtain ⟨c, fr, g1, g2, g3, g4, g5⟩ := hbr
          refine ⟨c, fr, g1, by simpa using g2, g3, fun i v v' q1 q2 => ?_, g5.1, fun hr hk => g5.2 hr (keysBox_map ren2_map hk)⟩
          simp only [List.getElem?_map, Option.map_eq_some_iff] at q1
          obtain ⟨z, hz, rfl⟩ := q1
          exact three (g4 i z v' hz q2) (List.all_eq_true.1 h4 z (List.mem_of_getElem? hz))
        | map es cl ro =>
          obtain ⟨fs, g1, g2, g3⟩ := hbr
          refine ⟨fs, g1, by simpa using g2, fun i e ff q1 q2 => ?_⟩
          simp only [List.getElem?_map, Option.map_eq_some_iff] at q1
          obtain ⟨z, hz, rfl⟩ := q1
          obtain ⟨p1, p2, p3, p4⟩ := g3 i z ff hz q2
          exact ⟨p1, p2, three p3 (List.all_eq_true.1 h4 z (List.mem_of_getElem? hz)), p4⟩
        | dead => trivial
      · cases hx
    · simp only [canM_at] at hx hx'
      split at hx
      · rename_i c hc
        split at hx'
        · rename_i c' hc'
          obtain ⟨o, o2, h1, h2, h3, _⟩ := hold b c hc
          obtain ⟨o', o2', h1', h2', h3', _⟩ := hold b' c' hc'
          subst h3; subst h3'
          have hr' : rw? st.hp.get c = true := by unfold rw? at hr ⊢; rw [h1]; rw [h2] at hr; cases o <;> exact hr
          have hl' : live? st.hp.get c' = true := by unfold live? at hl ⊢; rw [h1']; rw [h2'] at hl; cases o' <;> exact hl
          have := sim.inj c c' x x' hx hx' hr' hl' e
          subst this
          exact inj b b' c hc hc'
        · cases hx'
      · cases hx
    · simp only [canM_at] at hx
      split at hx
      · rename_i c hc
        obtain ⟨o, o2, h1, h2, h3, _⟩ := hold b2 c hc
        subst h3
        exact sim.ice r q c x hx (by unfold rw? at hr ⊢; rw [h1]; rw [h2] at hr; cases o <;> exact hr)
      · cases hx
  · rw [ovr_hg0 hk2]
    simp only [St.tget, mkT_get]
    by_cases ht : t < n
    · rw [if_pos ht]
      simp only [Option.getD_some, frame]
      cases hq : L.find? (fun p => Nat.beq p.1 t) with
      | none => exact (hgarb t).choose_spec
      | some p =>
        have h1 := List.find?_some hq
        have h2 := List.mem_of_find?_eq_some hq
        have e : p.1 = t := Nat.eq_of_beq_eq_true h1
        subst e
        obtain ⟨_, h3, h4⟩ := hL p h2
        simp only
        rw [h4]
        exact three (tm.tm p.1) h3
    · rw [if_neg ht]
      have : a.tmps.getD t undef = undef := by
        have hs := tm.size
        simp [Array.getElem?_eq_none (show a.tmps.size ≤ t by omega)]
      rw [this]
      exact VRel.undef
  · rw [ovr_hg0 hk2]
    have := hrel.df
    rw [hd] at this
    rw [this.of_nil]
    exact .nil
  · intro b2 x hx hr
    simp only [canM_at] at hx
    split at hx
    · rename_i b hb
      obtain ⟨o, o2, h1, h2, h3, _⟩ := hold b2 b hb
      subst h3
      exact f.own b x hx (by unfold rw? at hr ⊢; rw [h1]; rw [h2] at hr; cases o <;> exact hr)
    · cases hx
theorem FR.canon2 {n : Nat} {W : Base} {w : World} {st : St} {a : Act} {m : BM} (f : FR n W st a w m) (K : List Nat) (O : List Blk) (L : List (Nat × Value)) (hK : K.Nodup) (hO : O.length = K.length)
    (hB : ∀ (i b : Nat) (o2 : Blk), K[i]? = some b → O[i]? = some o2 → ∃ o, st.hp.get b = some o ∧ o2 = renBlk K o ∧ niceBlk o = true)
    (hL : ∀ p ∈ L, p.1 < n ∧ nice2 (st.tget p.1) = true ∧ p.2 = ren2 K (st.tget p.1)) (hd : st.df = []) :
    ∃ g m2, FR n W ⟨mkT (frame g L) n, heapOf (O ++ [.dead]) hp0, []⟩ a w m2 := by
  obtain ⟨g, h⟩ := f.canon3 K O L hK hO hB hL hd
  exact ⟨g, _, h⟩
def look (K : List Nat) (Ts : List Nat) (r : Exit × St) : Exit × List Blk × List (Nat × Value) × Bool :=
  (r.1, K.map fun b => renBlk K ((r.2.hp.get b).getD .dead), Ts.map fun t => (t, ren2 K (r.2.tget t)),
    (K.all fun b => match r.2.hp.get b with | some o => niceBlk o | none => false) && (Ts.all fun t => nice2 (r.2.tget t)) && r.2.df.isEmpty)
def nodupB : List Nat → Bool
  | [] => true
  | a :: asv => (asv.all fun b => !Nat.beq a b) && nodupB asv
omit [Inhabited Prop] in
theorem nodupB_ok : ∀ {K : List Nat}, nodupB K = true → K.Nodup
  | [], _ => List.nodup_nil
  | a :: asv, h => by
    unfold nodupB at h
    obtain ⟨h1, h2⟩ := Bool.and_eq_true_iff.1 h
    refine List.nodup_cons.2 ⟨fun hm => ?_, nodupB_ok h2⟩
    have := List.all_eq_true.1 h1 a hm
    simp at this
section
variable {P : Program} {N : Nat} {W : Base}
theorem FRwp.canon2 {c : Code} {st : St} {Q : Exit → St → Prop} (K : List Nat) (O : List Blk) (L : List (Nat × Value)) (hK : K.Nodup) (hO : O.length = K.length)
    (hB : ∀ (i b : Nat) (o2 : Blk), K[i]? = some b → O[i]? = some o2 → ∃ o, st.hp.get b = some o ∧ o2 = renBlk K o ∧ niceBlk o = true)
    (hL : ∀ p ∈ L, p.1 < N ∧ nice2 (st.tget p.1) = true ∧ p.2 = ren2 K (st.tget p.1)) (hd : st.df = [])
    (h : ∀ g, FRwp P N W c ⟨mkT (frame g L) N, heapOf (O ++ [.dead]) hp0, []⟩ Q) : FRwp P N W c st Q := fun a w m f => by
  obtain ⟨g, m2, f2⟩ := f.canon2 K O L hK hO hB hL hd
  exact h g a w m2 f2
theorem FRwp.cut {call : CallF} (hc : CallOk P call) (hm : P.follows .mixedOrders = true) {n : Nat} {x y : Code} {st : St} {Q : Exit → St → Prop} (K Ts : List Nat) (O : List Blk) (L : List (Nat × Value))
    (he : (exec P call n x st).map (look K Ts) = some (.normal, O, L, true)) (hs : codeSafe P N x = true) (hK : nodupB K = true) (hT : Ts.all (fun t => Nat.blt t N) = true)
    (h : ∀ g, FRwp P N W y ⟨mkT (frame g L) N, heapOf (O ++ [.dead]) hp0, []⟩ Q) : FRwp P N W (.seq x y) st Q := by
  obtain ⟨⟨e, st'⟩, h1, h2⟩ := Option.map_eq_some_iff.1 he
  simp only [look, Prod.mk.injEq] at h2
  obtain ⟨rfl, rfl, rfl, h5⟩ := h2
  obtain ⟨h5, h7⟩ := Bool.and_eq_true_iff.1 h5
  obtain ⟨h5, h6⟩ := Bool.and_eq_true_iff.1 h5
  refine FRwp.seq (Q1 := fun e s => e = .normal ∧ s = st') (FRwp.run hc hm h1 hs ⟨rfl, rfl⟩) (fun s hq => ?_) (fun e s hne hq => absurd hq.1 hne)
  obtain ⟨-, rfl⟩ := hq
  refine FRwp.canon2 K _ _ (nodupB_ok hK) (by simp) (fun i b o2 hi ho => ?_) (fun p hp => ?_) (List.isEmpty_iff.1 h7) h
  · rw [List.getElem?_map, hi] at ho
    simp only [Option.map_some, Option.some.injEq] at ho
    have := List.all_eq_true.1 h5 b (List.mem_of_getElem? hi)
    cases hg : s.hp.get b with
    | none => rw [hg] at this; cases this
    | some o =>
      rw [hg] at this ho
      exact ⟨o, rfl, ho.symm, this⟩
  · obtain ⟨t, ht, rfl⟩ := List.mem_map.1 hp
    exact ⟨by have := List.all_eq_true.1 hT t ht; simpa [Nat.blt_eq] using this, List.all_eq_true.1 h6 t ht, rfl⟩
end
end Go.Proofs.Ytbhmodlpolgklaa.AI
namespace Go.Proofs.Ytbhmodlpolgklaa.AI
open Go Go.RowKit
variable [Inhabited Prop]
abbrev HeapFn := List Value → Hp → Option (Value × Hp)
def heapOfFn : List (FuncId × HeapFn) → FuncId → Option HeapFn
  | [], _ => none
  | (g, k) :: r, f => match Nat.beq g f with
    | true => some k
    | false => heapOfFn r f
def extG (base : Ext) (hs : List (FuncId × HeapFn)) : Ext := fun f => match heapOfFn hs f with
  | some g => some fun _ args h => g args h
  | none => base f
def HeapFnsOk (P : Program) (hs : List (FuncId × HeapFn)) : Prop := ∀ p ∈ hs, CallGoal P p.1 p.2
omit [Inhabited Prop] in
theorem heapOfFn_mem : ∀ {hs : List (FuncId × HeapFn)} {f : FuncId} {g : HeapFn}, heapOfFn hs f = some g → (f, g) ∈ hs
  | [], f, g, h => by cases h
  | (k, e) :: r, f, g, h => by
    unfold heapOfFn at h
    split at h
    · rename_i hb
      cases h
      rw [Nat.eq_of_beq_eq_true hb]
      exact .head _
    · exact .tail _ (heapOfFn_mem h)
section
variable {P : Program}
theorem extG_ok {base : Ext} {hs : List (FuncId × HeapFn)} (hb : ExtOk P base) (h : HeapFnsOk P hs) : ExtOk P (extG base hs) := by
  intro f
  unfold extG
  cases hf : heapOfFn hs f with
  | none => exact hb f
  | some g => exact fun call _ => h _ (heapOfFn_mem hf)
theorem HeapFnsOk.nil : HeapFnsOk P [] := fun p hp => by cases hp
theorem HeapFnsOk.cons {f : FuncId} {g : HeapFn} {hs : List (FuncId × HeapFn)} (h : CallGoal P f g) (hr : HeapFnsOk P hs) : HeapFnsOk P ((f, g) :: hs) := fun p hp => by
  cases hp with
  | head => exact h
  | tail _ hp => exact hr p hp
theorem go_new {m : BM} {h : HG} {w w' : World} (s : Sim m h w) (b : Bel w.heap.size w w') {sz : Nat} (hs : h sz = none) {o : Blk} {g E : Nat} (hg : w.heap.size ≤ g)
    (hb : ∀ m' h', Le m h m' h' → BRel m' h' w' (g, 0, E) o) :
    Go1 m h w (updM m sz (g, 0, E)) (updH h sz o) w' := by
  have hm : m sz = none := by
    cases e : m sz with
    | none => rfl
    | some x => obtain ⟨o, ho, _⟩ := s.dom _ _ e; rw [hs] at ho; cases ho
  have l := Le.push (m := m) (h := h) (o := o) (x := (g, 0, E)) hs hm
  have hrw : ∀ b, b ≠ sz → updH h sz o b = h b := fun b e => by unfold updH; rw [if_neg e]
  refine Go0.go ⟨l, ⟨?_, ?_⟩, b.size, ?_, fun r hr _ => b.block r hr, ?_, fun c oc hc _ => by
    have e : c ≠ sz := by intro e; subst e; rw [hc] at hs; cases hs
    rw [hrw c e]; exact hc, ?_, ?_, b.os, b.tape, b.output⟩ s rfl
  · intro b2 x hx
    by_cases e : b2 = sz
    · subst e
      simp [updM] at hx
      subst hx
      exact ⟨o, by simp [updH], hb _ _ l⟩
    · have hx' : m b2 = some x := by simpa [updM, e] using hx
      obtain ⟨o', ho', hr⟩ := s.dom b2 x hx'
      refine ⟨o', by rw [hrw b2 e]; exact ho', ?_⟩
      by_cases hd : o' = .dead
      · subst hd; trivial
      · refine hr.mono l (b.block _ (s.lt hx' ?_))
        unfold live?
        rw [ho']
        cases o' <;> simp_all
  · intro b2 b' x x' hx hx' hr hl hxx
    by_cases e : b2 = sz <;> by_cases e' : b' = sz
    · rw [e, e']
    · subst e
      simp [updM] at hx
      subst hx
      have hx2 : m b' = some x' := by simpa [updM, e'] using hx'
      have hl2 : live? h b' = true := by unfold live? at hl ⊢; rwa [hrw b' e'] at hl
      have := s.lt hx2 hl2
      simp at hxx; omega
    · subst e'
      simp [updM] at hx'
      subst hx'
      have hx2 : m b2 = some x := by simpa [updM, e] using hx
      have hr2 : rw? h b2 = true := by unfold rw? at hr ⊢; rwa [hrw b2 e] at hr
      have := s.lt hx2 (live_of_rw hr2)
      simp at hxx; omega
    · have hx2 : m b2 = some x := by simpa [updM, e] using hx
      have hx3 : m b' = some x' := by simpa [updM, e'] using hx'
      exact s.inj b2 b' x x' hx2 hx3 (by unfold rw? at hr ⊢; rwa [hrw b2 e] at hr) (by unfold live? at hl ⊢; rwa [hrw b' e'] at hl) hxx
  · intro b2 x hx
    by_cases e : b2 = sz
    · subst e; simp [updM] at hx; subst hx; exact .inr (.inl hg)
    · exact .inl (by simpa [updM, e] using hx)
  · intro b2 o2 ho hmb
    have e : b2 ≠ sz := by intro e; subst e; rw [ho] at hs; cases hs
    simpa [updM, e] using hmb
  · intro b2 o2 ho
    by_cases e : b2 = sz
    · exact ⟨o, by simp [updH, e]⟩
    · exact ⟨o2, by rw [hrw b2 e]; exact ho⟩
  · intro b2 x hx hr
    have e : b2 ≠ sz := by intro e; subst e; rw [hm] at hx; cases hx
    unfold rw? at hr ⊢; rwa [hrw b2 e] at hr
end
end Go.Proofs.Ytbhmodlpolgklaa.AI
namespace Go.Proofs.Ytbhmodlpolgklaa.AI
open Go Go.RowKit
variable [Inhabited Prop]
def sh1 (K : List Nat) (B : Nat) : Value → Value
  | .pointer (some a) => .pointer (some ⟨B + rho K a.block, a.off, a.spot⟩)
  | .slice (some a) l c => .slice (some ⟨B + rho K a.block, a.off, a.spot⟩) l c
  | .map (some b) => .map (some (B + rho K b))
  | v => v
def sh2 (K : List Nat) (B : Nat) : Value → Value
  | .func f a b => .func f (a.map (sh1 K B)) (b.map (sh1 K B))
  | .agg cs => .agg (cs.map (sh1 K B))
  | v => sh1 K B v
def sh3 (K : List Nat) (B : Nat) : Value → Value
  | .tuple cs => .tuple (cs.map (sh2 K B))
  | v => sh2 K B v
def ok2 : Value → Bool
  | .func (.func _) a b => a.toList.all nice1 && b.toList.all nice1
  | .agg cs => cs.toList.all nice1
  | v => nice1 v
def ok3 : Value → Bool
  | .tuple cs => cs.toList.all ok2
  | v => ok2 v
def okBlk : Blk → Bool
  | .cells _ cs _ => cs.all ok2
  | .map es _ _ => es.all fun e => ok2 e.2.1
  | .dead => true
abbrev Deep := List Value → Option (Nat → Value × List Blk)
def tellK (G : Deep) : HeapFn := fun args h => match G args with
  | some r => some ((r h.sz).1, heapOf ((r h.sz).2 ++ [.dead]) h)
  | none => none
section
variable {P : Program}
omit [Inhabited Prop] in
theorem heapOf_sz : ∀ (os : List Blk) (h : Hp), (heapOf os h).sz = h.sz + os.length
  | [], h => rfl
  | o :: os, h => by rw [heapOf, heapOf_sz os, Hp.sz_push]; simp; omega
end
end Go.Proofs.Ytbhmodlpolgklaa.AI
namespace Go.Proofs.Ytbhmodlpolgklaa.AI
open Go Go.RowKit
variable [Inhabited Prop]
section
variable {P : Program} {w : World} {r : Reach} {base : Nat}
omit [Inhabited Prop] in
theorem cellw_slice {t e : TypeId} {v : Value} (ht : P.underlying t = some (.slice e)) (h : Cell.okWide P w r base t v) :
    v = .slice none 0 0 ∨ ∃ b off n c, v = .slice (some ⟨b, off, none⟩) n c ∧ n ≤ c := by
  unfold Cell.okWide at h
  rw [ht] at h
  cases v with
  | slice a n c =>
    cases a with
    | none =>
      cases n <;> cases c <;> first | exact .inl rfl | (simp [Cell.ok, ht] at h)
    | some a =>
      simp only [Cell.ok, ht] at h
      obtain ⟨h1, _, _, h2, _⟩ := h
      obtain ⟨b, off, sp⟩ := a
      simp only at h2
      subst h2
      exact .inr ⟨b, off, n, c, rfl, h1⟩
  | _ => simp [Cell.ok, ht] at h
end
def hp1 : Hp := heapOf [.dead] hp0
def blind (n : Nat) : Value := .slice (some ⟨0, 0, none⟩) n 2
variable {P : Program}
end Go.Proofs.Ytbhmodlpolgklaa.AI
namespace Go.Proofs.Ytbhmodlpolgklaa.AI
open Go Go.RowKit
variable [Inhabited Prop]
structure PT (m : BM) (h : HG) (m2 : BM) (h2 : HG) (K : List Nat) (B : Nat) : Prop where
  to : ∀ b (Q : Prop), (h b = some .dead ∨ Q) → h2 (B + rho K b) = some .dead ∨ (Q ∧ m2 (B + rho K b) = m b)
  lit : ∀ r o t c, m.lit r o t c → m2.lit r o t c
section
variable {m m2 : BM} {h h2 : HG} {K : List Nat} {B : Nat}
omit [Inhabited Prop] in
theorem PT.one (pt : PT m h m2 h2 K B) {v v' : Value} (r : VRel m h v v') (hv : nice1 v = true) : VRel m2 h2 (sh1 K B v) v' := by
  cases r with
  | flat hf =>
    have : sh1 K B v = v := by cases v with
      | pointer a => cases a <;> first | rfl | (simp [AI.flat] at hf)
      | slice a l c => cases a <;> first | rfl | (simp [AI.flat] at hf)
      | map a => cases a <;> first | rfl | (simp [AI.flat] at hf)
      | _ => rfl
    rw [this]; exact .flat hf
  | ptr h1 =>
    rcases pt.to _ _ h1 with h | ⟨⟨δ, E, q1, q2⟩, e⟩
    · exact .ptr (.inl h)
    · exact .ptr (.inr ⟨δ, E, by rw [e]; exact q1, q2⟩)
  | slice h0 h1 =>
    rcases pt.to _ _ h1 with h | ⟨⟨δ, E, q1, q2⟩, e⟩
    · exact .slice h0 (.inl h)
    · exact .slice h0 (.inr ⟨δ, E, by rw [e]; exact q1, q2⟩)
  | blind h1 => exact .blind h1
  | blind0 => exact .blind0
  | lit h1 h2 => exact .lit (pt.lit _ _ _ _ h1) h2
  | bag h1 h2 h3 => exact .bag (pt.lit _ _ _ _ h1) h2 h3
  | lit0 => exact .lit0
  | litE => exact .litE
  | bag0 => exact .bag0
  | junk h1 => exact .junk h1
  | map h1 =>
    rcases pt.to _ _ h1 with h | ⟨⟨x, q1⟩, e⟩
    · exact .map (.inl h)
    · exact .map (.inr ⟨x, by rw [e]; exact q1⟩)
  | func _ _ _ _ => cases hv
  | agg _ _ => cases hv
  | tuple _ _ => cases hv
omit [Inhabited Prop] in
theorem PT.two (pt : PT m h m2 h2 K B) {v v' : Value} (r : VRel m h v v') (hv : ok2 v = true) : VRel m2 h2 (sh2 K B v) v' := by
  cases v with
  | agg cs =>
    obtain ⟨a', rfl, h1, h2⟩ := r.of_agg
    refine .agg (by simpa using h1) fun i x x' q1 q2 => ?_
    simp only [Array.getElem?_map, Option.map_eq_some_iff] at q1
    obtain ⟨y, hy, rfl⟩ := q1
    exact pt.one (h2 i y x' hy q2) (List.all_eq_true.1 hv y (Array.mem_toList_iff.2 (Array.mem_of_getElem? hy)))
  | func fn x y =>
    cases r with
    | flat hf => simp [AI.flat] at hf
    | func h1 h2 h3 h4 =>
      have hv' := Bool.and_eq_true_iff.1 hv
      refine .func (by simpa using h1) (fun i u u' q1 q2 => ?_) (by simpa using h3) (fun i u u' q1 q2 => ?_)
      · simp only [Array.getElem?_map, Option.map_eq_some_iff] at q1
        obtain ⟨z, hz, rfl⟩ := q1
        exact pt.one (h2 i z u' hz q2) (List.all_eq_true.1 hv'.1 z (Array.mem_toList_iff.2 (Array.mem_of_getElem? hz)))
      · simp only [Array.getElem?_map, Option.map_eq_some_iff] at q1
        obtain ⟨z, hz, rfl⟩ := q1
        exact pt.one (h4 i z u' hz q2) (List.all_eq_true.1 hv'.2 z (Array.mem_toList_iff.2 (Array.mem_of_getElem? hz)))
  | tuple cs => cases hv
  | _ => exact pt.one r hv
omit [Inhabited Prop] in
theorem PT.three (pt : PT m h m2 h2 K B) {v v' : Value} (r : VRel m h v v') (hv : ok3 v = true) : VRel m2 h2 (sh3 K B v) v' := by
  cases v with
  | tuple cs =>
    obtain ⟨a', rfl, h1, h2⟩ := r.of_tuple
    refine .tuple (by simpa using h1) fun i x x' q1 q2 => ?_
    simp only [Array.getElem?_map, Option.map_eq_some_iff] at q1
    obtain ⟨y, hy, rfl⟩ := q1
    exact pt.two (h2 i y x' hy q2) (List.all_eq_true.1 hv y (Array.mem_toList_iff.2 (Array.mem_of_getElem? hy)))
  | _ => exact pt.two r hv
omit [Inhabited Prop] in
theorem PT.threes (pt : PT m h m2 h2 K B) {vs vs' : List Value} (r : VRelL m h vs vs') (hv : vs.all ok3 = true) : VRelL m2 h2 (vs.map (sh3 K B)) vs' := by
  refine ⟨by simpa using r.1, fun i v v' q1 q2 => ?_⟩
  simp only [List.getElem?_map, Option.map_eq_some_iff] at q1
  obtain ⟨y, hy, rfl⟩ := q1
  exact pt.three (r.2 i y v' hy q2) (List.all_eq_true.1 hv y (List.mem_of_getElem? hy))
end
omit [Inhabited Prop] in
theorem nodup_inj {K : List Nat} (hK : nodupB K = true) {i j b : Nat} (h1 : K[i]? = some b) (h2 : K[j]? = some b) : i = j := by
  obtain ⟨q1, f1⟩ := List.getElem?_eq_some_iff.1 h1
  obtain ⟨q2, f2⟩ := List.getElem?_eq_some_iff.1 h2
  have hp := List.pairwise_iff_getElem.1 (nodupB_ok hK)
  rcases Nat.lt_trichotomy i j with q | q | q
  · exact absurd (f1.trans f2.symm) (hp i j q1 q2 q)
  · exact q
  · exact absurd (f2.trans f1.symm) (hp j i q2 q1 q)
end Go.Proofs.Ytbhmodlpolgklaa.AI
namespace Go.Proofs.Ytbhmodlpolgklaa.AI
open Go Go.RowKit
variable [Inhabited Prop]
def Fixed (p : Nat) (o : Blk) : Prop := niceBlk o = true ∧ ∀ K : List Nat, (∀ i, i < p → rho K i = i) → renBlk K o = o
def look2 (p : Nat) (K : List Nat) (Ts : List Nat) (r : Exit × St) : Exit × List Blk × List (Nat × Value) × Bool :=
  (r.1, (K.take p).map (fun b => (r.2.hp.get b).getD .dead) ++ (K.drop p).map (fun b => renBlk K ((r.2.hp.get b).getD .dead)), Ts.map fun t => (t, ren2 K (r.2.tget t)),
    (K.all fun b => match r.2.hp.get b with | some _ => true | none => false) && ((K.drop p).all fun b => niceBlk ((r.2.hp.get b).getD .dead)) && (Ts.all fun t => nice2 (r.2.tget t)) && r.2.df.isEmpty)
section
variable {P : Program} {N : Nat} {W : Base}
def stOf (N : Nat) (g : Nat → Value) (L : List (Nat × Value)) (O : List Blk) : St := ⟨mkT (frame g L) N, heapOf (O ++ [.dead]) hp0, []⟩
def roBlk : Blk → Blk
  | .cells ty cs _ => .cells ty cs true
  | .map es cl _ => .map es cl true
  | .dead => .dead
def startOk : Blk → Bool
  | .cells _ cs ro => cs.all ok2 && (ro || !keysBox cs)
  | .map es _ _ => es.all fun e => ok2 e.2.1
  | .dead => true
omit [Inhabited Prop] in
theorem heapOf0_get (O : List Blk) (b : Nat) : (heapOf O hp0).get b = O[b]? := by
  rw [heapOf_get]
  simp only [hp0, Nat.not_lt_zero, if_false, Nat.sub_zero]
  cases O[b]? <;> rfl
def rwB : Blk → Bool
  | .cells _ _ ro => !ro
  | .map _ _ ro => !ro
  | .dead => false
end
end Go.Proofs.Ytbhmodlpolgklaa.AI
namespace Go.Proofs.Ytbhmodlpolgklaa.AI
open Go Go.RowKit
variable [Inhabited Prop]
abbrev OblH := Option (Value × Hp) × (Value × Hp)
def MetH (l : List OblH) : Prop := ∀ o ∈ l, o.1 = some o.2
omit [Inhabited Prop] in
theorem MetH.nil : MetH [] := fun o ho => by cases ho
omit [Inhabited Prop] in
theorem MetH.cons {a : Option (Value × Hp)} {v : Value × Hp} {l : List OblH} (h : a = some v) (hl : MetH l) : MetH ((a, v) :: l) := fun o ho => by
  cases ho with
  | head => exact h
  | tail _ ho => exact hl o ho
omit [Inhabited Prop] in
theorem MetH.left {a b : List OblH} (h : MetH (a ++ b)) : MetH a := fun o ho => h o (List.mem_append_left _ ho)
omit [Inhabited Prop] in
theorem MetH.right {a b : List OblH} (h : MetH (a ++ b)) : MetH b := fun o ho => h o (List.mem_append_right _ ho)
abbrev ClH := List (Tmp × Value × List Blk)
section
variable {P : Program} {call : CallF} {cl : List (Tmp × Value)} {ch : ClH}
end
section
variable {P : Program} {N : Nat} {W : Base}
end
end Go.Proofs.Ytbhmodlpolgklaa.AI
