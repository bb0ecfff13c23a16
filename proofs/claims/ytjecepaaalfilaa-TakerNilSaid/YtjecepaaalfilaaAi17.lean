/- Soundness, 13: regions that draw their order: whatever is drawn, the run in text order tells it. -/
import Derived.Test.YtjecepaaalfilaaAi16
set_option linter.unusedVariables false
set_option linter.unusedSimpArgs false
namespace Go.Proofs.Ytjecepaaalfilaa.AI
open Go

theorem tput_hp (s : St) (d : Option Tmp) (v : Value) : (s.tput d v).hp = s.hp := by cases d <;> rfl
theorem tput_df (s : St) (d : Option Tmp) (v : Value) : (s.tput d v).df = s.df := by cases d <;> rfl

section
variable (P : Program) (ops : Array Oper) (st : Nat → St) (v : Nat → Value)
/-- A great operation that is taken. -/
def Big (i : Nat) : Prop := ∃ o, ops[i]? = some o ∧ aWanted ops (st i) o = true ∧ cls P o = .big
/-- A small operation that lays a block. -/
def PA (i : Nat) (b : Blk) : Prop := ∃ o, ops[i]? = some o ∧ aWanted ops (st i) o = true ∧ cls P o = .pure ∧ opP P (st i).eval (st i).hp.sz o = some (v i, some b)
end

section
variable {P : Program} {call : CallF} {ops : Array Oper} {st : Nat → St} {v : Nat → Value}

theorem PA.uniq {i : Nat} {b b' : Blk} (h : PA P ops st v i b) (h' : PA P ops st v i b') : b = b' := by
  obtain ⟨o, h1, h2, h3, h4⟩ := h
  obtain ⟨o', h1', h2', h3', h4'⟩ := h'
  rw [h1] at h1'; cases h1'
  rw [h4] at h4'; cases h4'; rfl
theorem PA.notBig {i : Nat} {b : Blk} (h : PA P ops st v i b) : ¬ Big P ops st i := by
  rintro ⟨o', h1', h2', h3'⟩
  obtain ⟨o, h1, h2, h3, h4⟩ := h
  rw [h1] at h1'; cases h1'
  rw [h3] at h3'; cases h3'

variable (hs : ∀ i o, ops[i]? = some o → StepAt P call ops (st i) (st (i + 1)) (v i) o) (hc : CallOk P call)
include hs

theorem PA.next {i : Nat} {b : Blk} (h : PA P ops st v i b) : (st (i + 1)).hp = (st i).hp.push b ∧ (st (i + 1)).df = (st i).df := by
  obtain ⟨o, h1, h2, h3, h4⟩ := h
  rcases hs i o h1 with ⟨hw, _⟩ | ⟨hw, hp, df, hst, e⟩
  · rw [h2] at hw; cases hw
  · unfold aStep at hst
    simp only [h3, h4] at hst
    cases hst
    rw [e, tput_hp, tput_df]
    exact ⟨rfl, rfl⟩
/-- A step that is neither great nor lays a block. -/
theorem idle_next {i : Nat} (hi : i < ops.size) (h1 : ¬ Big P ops st i) (h2 : ∀ b, ¬ PA P ops st v i b) : (st (i + 1)).hp = (st i).hp ∧ (st (i + 1)).df = (st i).df := by
  have ho := Array.getElem?_eq_getElem hi
  rcases hs i ops[i] ho with ⟨hw, _, e⟩ | ⟨hw, hp, df, hst, e⟩
  · rw [e, tput_hp, tput_df]; exact ⟨rfl, rfl⟩
  · rw [e, tput_hp, tput_df]
    unfold aStep at hst
    split at hst
    · rename_i hcl
      split at hst
      · cases hst; exact ⟨rfl, rfl⟩
      · rename_i v0 b hop
        cases hst
        exact absurd ⟨ops[i], ho, hw, hcl, hop⟩ (h2 b)
      · cases hst
    · split at hst
      · cases hst; exact ⟨rfl, rfl⟩
      · cases hst
    · rename_i hcl
      exact absurd ⟨ops[i], ho, hw, hcl⟩ h1

include hc in
theorem trace_ok (h0 : (st 0).hp.ok) : ∀ i, i ≤ ops.size → (st i).hp.ok
  | 0, _ => h0
  | i + 1, hi => by
    have ih := trace_ok h0 i (by omega)
    have ho := Array.getElem?_eq_getElem (show i < ops.size by omega)
    rcases hs i _ ho with ⟨hw, _, e⟩ | ⟨hw, hp, df, hst, e⟩
    · rw [e, tput_hp]; exact ih
    · rw [e, tput_hp]; exact (step_sound hc hst ih).1
include hc in
theorem trace_sz (h0 : (st 0).hp.ok) {i : Nat} : ∀ j, i ≤ j → j ≤ ops.size → (st i).hp.sz ≤ (st j).hp.sz
  | 0, hij, _ => by have : i = 0 := by omega
                    subst this; exact Nat.le_refl _
  | j + 1, hij, hj => by
    rcases Nat.lt_or_ge j i with h | h
    · have : i = j + 1 := by omega
      subst this; exact Nat.le_refl _
    · refine Nat.le_trans (trace_sz h0 j h (by omega)) ?_
      have ih := trace_ok hs hc h0 j (by omega)
      have ho := Array.getElem?_eq_getElem (show j < ops.size by omega)
      rcases hs j _ ho with ⟨hw, _, e⟩ | ⟨hw, hp, df, hst, e⟩
      · rw [e, tput_hp]; exact Nat.le_refl _
      · rw [e, tput_hp]; exact (step_sound hc hst ih).2.1

/-- A stretch without great operations. -/
theorem quiet {c : Nat} : ∀ i, c ≤ i → i ≤ ops.size → (∀ k, c ≤ k → k < i → ¬ Big P ops st k) →
    (st c).hp.sz ≤ (st i).hp.sz ∧ (∀ b, b < (st c).hp.sz → (st i).hp.get b = (st c).hp.get b) ∧
    (∀ b, (st c).hp.sz ≤ b → b < (st i).hp.sz → ∃ k o, c ≤ k ∧ k < i ∧ PA P ops st v k o ∧ (st k).hp.sz = b ∧ (st i).hp.get b = some o) ∧ (st i).df = (st c).df
  | 0, hci, _, _ => by
    have : c = 0 := by omega
    subst this
    exact ⟨Nat.le_refl _, fun _ _ => rfl, fun b h1 h2 => by omega, rfl⟩
  | i + 1, hci, hi, hq => by
    rcases Nat.lt_or_ge i c with h | h
    · have : c = i + 1 := by omega
      subst this
      exact ⟨Nat.le_refl _, fun _ _ => rfl, fun b h1 h2 => by omega, rfl⟩
    · obtain ⟨k0, k1, k2, k3⟩ := quiet i h (by omega) (fun k a b => hq k a (by omega))
      by_cases hp : ∃ b, PA P ops st v i b
      · obtain ⟨b, hb⟩ := hp
        obtain ⟨e1, e2⟩ := hb.next hs
        rw [e1, e2]
        refine ⟨Nat.le_trans k0 (Nat.le_succ _), fun x hx => ?_, fun x h1 h2 => ?_, k3⟩
        · rw [Hp.get_push, if_neg (by omega)]; exact k1 x hx
        · rw [Hp.get_push]
          rw [Hp.sz_push] at h2
          by_cases e : x = (st i).hp.sz
          · rw [if_pos e]
            exact ⟨i, b, h, Nat.lt_succ_self _, hb, e.symm, rfl⟩
          · rw [if_neg e]
            obtain ⟨k, o, q1, q2, q3⟩ := k2 x h1 (by omega)
            exact ⟨k, o, q1, by omega, q3⟩
      · obtain ⟨e1, e2⟩ := idle_next hs (by omega) (hq i h (Nat.lt_succ_self _)) (fun b hb => hp ⟨b, hb⟩)
        rw [e1, e2]
        refine ⟨k0, k1, fun x h1 h2 => ?_, k3⟩
        obtain ⟨k, o, q1, q2, q3⟩ := k2 x h1 h2
        exact ⟨k, o, q1, by omega, q3⟩

/-- What a temporary holds in the run in text order. -/
theorem tget_at (t : Tmp) : ∀ i, i ≤ ops.size →
    (∃ j oj, j < i ∧ ops[j]? = some oj ∧ oj.dst = some t ∧ (∀ j' o', j' < i → ops[j']? = some o' → o'.dst = some t → j' ≤ j) ∧ (st i).tget t = v j) ∨
    ((∀ j oj, j < i → ops[j]? = some oj → oj.dst ≠ some t) ∧ (st i).tget t = (st 0).tget t)
  | 0, _ => .inr ⟨fun j oj hj => by omega, rfl⟩
  | i + 1, hi => by
    have ho := Array.getElem?_eq_getElem (show i < ops.size by omega)
    have key : (st (i + 1)).tget t = if (ops[i]).dst = some t then v i else (st i).tget t := by
      rcases hs i _ ho with ⟨hw, e0, e⟩ | ⟨hw, hp, df, hst, e⟩
      · rw [e, St.tget_put, e0]
      · rw [e, St.tget_put]; rfl
    by_cases hd : (ops[i]).dst = some t
    · rw [if_pos hd] at key
      exact .inl ⟨i, _, Nat.lt_succ_self _, ho, hd, fun j' o' h1 _ _ => by omega, key⟩
    · rw [if_neg hd] at key
      rcases tget_at t i (by omega) with ⟨j, oj, h1, h2, h3, h4, h5⟩ | ⟨h1, h2⟩
      · refine .inl ⟨j, oj, by omega, h2, h3, fun j' o' q1 q2 q3 => ?_, key.trans h5⟩
        rcases Nat.lt_or_ge j' i with q | q
        · exact h4 j' o' q q2 q3
        · have : j' = i := by omega
          subst this
          rw [ho] at q2; cases q2
          exact absurd q3 hd
      · refine .inr ⟨fun j oj q1 q2 q3 => ?_, key.trans h2⟩
        rcases Nat.lt_or_ge j i with q | q
        · exact h1 j oj q q2 q3
        · have : j = i := by omega
          subst this
          rw [ho] at q2; cases q2
          exact hd q3
end

/-! ### What is asked of a region's text -/
structure Safe (P : Program) (ops : Array Oper) : Prop where
  after : ∀ y o e, ops[y]? = some o → e ∈ o.after.toList → Region.binds .any e = true → e.on < y
  guard : ∀ y o j w, ops[y]? = some o → o.guard = some (j, w) → j < y ∧ ((Region.before ops).getD y 0).testBit j = true
  pair : ∀ x y ox oy, ops[x]? = some ox → ops[y]? = some oy → x < y → ((Region.before ops).getD y 0).testBit x = true ∨
    ((∀ d, ox.dst = some d → d ∉ tmpsOf ops oy) ∧ (∀ d, oy.dst = some d → d ∉ tmpsOf ops ox) ∧ ¬ (cls P ox = .big ∧ cls P oy = .big))
theorem regSafe_safe {P : Program} {ops : Array Oper} (h : regSafe P ops = true) : Safe P ops := by
  unfold regSafe at h
  have hm : ∀ y o, ops[y]? = some o → (o, y) ∈ ops.toList.zipIdx := fun y o ho => by
    rw [List.mk_mem_zipIdx_iff_getElem?]; simpa using ho
  have hy := fun y o (ho : ops[y]? = some o) => List.all_eq_true.1 h _ (hm y o ho)
  refine ⟨fun y o e ho he hb => ?_, fun y o j w ho hg => ?_, fun x y ox oy hx hyy hlt => ?_⟩
  · have := hy y o ho
    simp only [Bool.and_eq_true, List.all_eq_true, Bool.or_eq_true, Bool.not_eq_true', decide_eq_true_eq] at this
    rcases this.1.1 e he with q | q
    · rw [hb] at q; cases q
    · exact q
  · have := hy y o ho
    simp only [Bool.and_eq_true, hg, decide_eq_true_eq] at this
    exact this.1.2
  · have := hy y oy hyy
    simp only [Bool.and_eq_true] at this
    have q := List.all_eq_true.1 this.2 _ (hm x ox hx)
    simp only [Bool.or_eq_true, Bool.not_eq_true', decide_eq_false_iff_not] at q
    rcases q with (q | q) | q
    · exact absurd hlt q
    · exact .inl q
    · refine .inr ?_
      unfold freeOk at q
      simp only [Bool.and_eq_true, Bool.not_eq_true', Bool.and_eq_false_iff] at q
      refine ⟨fun d hd => ?_, fun d hd => ?_, fun hb => ?_⟩
      · have := q.1.1; rw [hd] at this; simpa using this
      · have := q.1.2; rw [hd] at this; simpa using this
      · rcases q.2 with q | q
        · simp [isBig, hb.1] at q
        · simp [isBig, hb.2] at q

section
variable {P : Program} {call : CallF} {ops : Array Oper} {st : Nat → St} {v : Nat → Value} {N : Nat} {m0 : BM} {h0 : HG} {w0 : World}

/-- Where a run of the region stands: these operations are done. -/
structure Inv (P : Program) (ops : Array Oper) (st : Nat → St) (v : Nat → Value) (N : Nat) (m0 : BM) (h0 : HG) (w0 : World) (S : Nat → Prop) (c : Nat) (m : BM) (h : HG) (w : World) (a : Act) : Prop where
  dom : ∀ i, S i → i < ops.size
  down : ∀ j o e, S j → ops[j]? = some o → e ∈ o.after.toList → Region.binds .any e = true → S e.on
  bigs : ∀ i, Big P ops st i → (i < c ↔ S i)
  last : c = 0 ∨ ∃ i, c = i + 1 ∧ Big P ops st i
  cn : c ≤ ops.size
  hA : ∀ b, b < (st c).hp.sz → h b = (st c).hp.get b
  hB : ∀ b, (st ops.size).hp.sz ≤ b → h b = h0 b
  hC : ∀ b, (st c).hp.sz ≤ b → b < (st ops.size).hp.sz → (∃ k o, c ≤ k ∧ PA P ops st v k o ∧ (st k).hp.sz = b ∧ h b = some o) ∨ ((∀ k o, PA P ops st v k o → (st k).hp.sz ≠ b) ∧ h b = none)
  mat : ∀ k o, PA P ops st v k o → ¬ S k → m (st k).hp.sz = none ∧ h (st k).hp.sz = some o
  go : Go1 m0 (ovr (st 0).hp h0) w0 m h w
  tsize : a.tmps.size = N
  tm : ∀ t, (∃ j oj, S j ∧ ops[j]? = some oj ∧ oj.dst = some t ∧ (∀ j' o', S j' → ops[j']? = some o' → o'.dst = some t → j' ≤ j) ∧ VRel m h (v j) (a.tmps.getD t undef)) ∨
    ((∀ j oj, S j → ops[j]? = some oj → oj.dst ≠ some t) ∧ VRel m h ((st 0).tget t) (a.tmps.getD t undef))
  df : DRel m h (st c).df a.defers

theorem PA.lt {i : Nat} {b : Blk} (h : PA P ops st v i b) : i < ops.size := by
  obtain ⟨o, h1, _⟩ := h
  exact (Array.getElem?_eq_some_iff.1 h1).1

variable (hs : ∀ i o, ops[i]? = some o → StepAt P call ops (st i) (st (i + 1)) (v i) o) (hc : CallOk P call) (hk : (st 0).hp.ok) (hsafe : Safe P ops)
include hs hc hk

theorem PA.order {i k : Nat} {b : Blk} (h : PA P ops st v i b) (hik : i < k) (hkn : k ≤ ops.size) : (st i).hp.sz < (st k).hp.sz := by
  have e := (h.next hs).1
  have := trace_sz hs hc hk k (show i + 1 ≤ k by omega) hkn
  rw [e, Hp.sz_push] at this
  omega
theorem PA.inj {i k : Nat} {b b' : Blk} (h : PA P ops st v i b) (h' : PA P ops st v k b') (e : (st i).hp.sz = (st k).hp.sz) : i = k := by
  rcases Nat.lt_trichotomy i k with q | q | q
  · have := h.order hs hc hk q (Nat.le_of_lt h'.lt); omega
  · exact q
  · have := h'.order hs hc hk q (Nat.le_of_lt h.lt); omega

/-- Behind a stretch without great operations the heap is the run's own, as far as its numbers reach. -/
theorem Inv.agree {S : Nat → Prop} {c : Nat} {m : BM} {h : HG} {w : World} {a : Act} (I : Inv P ops st v N m0 h0 w0 S c m h w a) {i : Nat} (hci : c ≤ i) (hi : i ≤ ops.size) (hq : ∀ k, c ≤ k → k < i → ¬ Big P ops st k) :
    ∀ b, b < (st i).hp.sz → h b = (st i).hp.get b := by
  intro b hb
  obtain ⟨k0, k1, k2, k3⟩ := quiet hs i hci hi hq
  rcases Nat.lt_or_ge b (st c).hp.sz with q | q
  · rw [I.hA b q, k1 b q]
  · obtain ⟨k, o, q1, q2, q3, q4, q5⟩ := k2 b q hb
    have hbn : b < (st ops.size).hp.sz := Nat.lt_of_lt_of_le hb (trace_sz hs hc hk ops.size hi (Nat.le_refl _))
    rcases I.hC b q hbn with ⟨k', o', r1, r2, r3, r4⟩ | ⟨r1, _⟩
    · have := r2.inj hs hc hk q3 (r3.trans q4.symm)
      subst this
      rw [r4, q5, r2.uniq q3]
    · exact absurd q4 (r1 k o q3)
theorem Inv.fresh {S : Nat → Prop} {c : Nat} {m : BM} {h : HG} {w : World} {a : Act} (I : Inv P ops st v N m0 h0 w0 S c m h w a) {i : Nat} (hci : c ≤ i) (hi : Big P ops st i) :
    ∀ b, (st i).hp.sz ≤ b → b < (st (i + 1)).hp.sz → h b = none := by
  intro b h1 h2
  obtain ⟨o, ho, _, _⟩ := id hi
  have hin : i < ops.size := (Array.getElem?_eq_some_iff.1 ho).1
  have hcs : (st c).hp.sz ≤ b := Nat.le_trans (trace_sz hs hc hk i hci (by omega)) h1
  have hbn : b < (st ops.size).hp.sz := Nat.lt_of_lt_of_le h2 (trace_sz hs hc hk ops.size (by omega) (Nat.le_refl _))
  rcases I.hC b hcs hbn with ⟨k, o', r1, r2, r3, r4⟩ | ⟨_, r2⟩
  · exfalso
    rcases Nat.lt_trichotomy k i with q | q | q
    · have := r2.order hs hc hk q (by omega); omega
    · subst q; exact r2.notBig hi
    · have := trace_sz hs hc hk k (show i + 1 ≤ k by omega) (Nat.le_of_lt r2.lt); omega
  · exact r2

omit hs hc hk in
include hsafe in
theorem Inv.anc {S : Nat → Prop} {c : Nat} {m : BM} {h : HG} {w : World} {a : Act} (I : Inv P ops st v N m0 h0 w0 S c m h w a) : ∀ (n y x : Nat), y < n → S y → ((Region.before ops).getD y 0).testBit x = true → S x
  | 0, y, x, hn, _, _ => by omega
  | n + 1, y, x, hn, hy, hb => by
    have ho := Array.getElem?_eq_getElem (I.dom y hy)
    obtain ⟨e, h1, h2, h3⟩ := before_spec ho hb
    have hlt := hsafe.after y _ e ho h1 h2
    have hS := I.down y _ e hy ho h1 h2
    rcases h3 with rfl | h3
    · exact hS
    · exact Inv.anc I n e.on x (by omega) hS h3

/-- The next operation: what stands before it is done, what it names is told. -/
structure Nxt (P : Program) (ops : Array Oper) (st : Nat → St) (S : Nat → Prop) (i : Nat) (o : Oper) : Prop where
  new : ¬ S i
  get : ops[i]? = some o
  pre : ∀ e ∈ o.after.toList, Region.binds .any e = true → S e.on

omit hs hc hk in
include hsafe in
theorem Nxt.anc {S : Nat → Prop} {c : Nat} {m : BM} {h : HG} {w : World} {a : Act} (I : Inv P ops st v N m0 h0 w0 S c m h w a) {i : Nat} {o : Oper} (n : Nxt P ops st S i o) {x : Nat} (hb : ((Region.before ops).getD i 0).testBit x = true) : S x := by
  obtain ⟨e, h1, h2, h3⟩ := before_spec n.get hb
  rcases h3 with rfl | h3
  · exact n.pre e h1 h2
  · exact I.anc hsafe _ e.on x (Nat.lt_succ_self _) (n.pre e h1 h2) h3

omit hs hc hk in
include hsafe in
/-- Who writes what the next operation names: what stands before it in the text, and nobody else that is done. -/
theorem Nxt.writers {S : Nat → Prop} {c : Nat} {m : BM} {h : HG} {w : World} {a : Act} (I : Inv P ops st v N m0 h0 w0 S c m h w a) {i : Nat} {o : Oper} (n : Nxt P ops st S i o) {t : Tmp} (ht : t ∈ tmpsOf ops o) {x : Nat} {ox : Oper} (hx : ops[x]? = some ox) (hd : ox.dst = some t) :
    (x < i → S x) ∧ (S x → x < i) := by
  refine ⟨fun hlt => ?_, fun hS => ?_⟩
  · rcases hsafe.pair x i ox o hx n.get hlt with q | q
    · exact n.anc hsafe I q
    · exact absurd ht (q.1 t hd)
  · rcases Nat.lt_trichotomy x i with q | q | q
    · exact q
    · subst q; exact absurd hS n.new
    · rcases hsafe.pair i x o ox n.get hx q with r | r
      · exact absurd (I.anc hsafe _ x i (Nat.lt_succ_self _) hS r) n.new
      · exact absurd ht (r.2.1 t hd)

omit hc hk in
include hsafe in
theorem Nxt.names {S : Nat → Prop} {c : Nat} {m : BM} {h : HG} {w : World} {a : Act} (I : Inv P ops st v N m0 h0 w0 S c m h w a) {i : Nat} {o : Oper} (n : Nxt P ops st S i o) {t : Tmp} (ht : t ∈ tmpsOf ops o) :
    VRel m h ((st i).tget t) (a.tmps.getD t undef) := by
  have hin : i < ops.size := (Array.getElem?_eq_some_iff.1 n.get).1
  rcases I.tm t with ⟨j, oj, h1, h2, h3, h4, h5⟩ | ⟨h1, h2⟩
  · rcases tget_at hs t i (by omega) with ⟨j', oj', q1, q2, q3, q4, q5⟩ | ⟨q1, q2⟩
    · have a1 := h4 j' oj' ((n.writers hsafe I ht q2 q3).1 q1) q2 q3
      have a2 := q4 j oj ((n.writers hsafe I ht h2 h3).2 h1) h2 h3
      have : j' = j := by omega
      subst this
      rw [q5]; exact h5
    · exact absurd h3 (q1 j oj ((n.writers hsafe I ht h2 h3).2 h1) h2)
  · rcases tget_at hs t i (by omega) with ⟨j', oj', q1, q2, q3, q4, q5⟩ | ⟨q1, q2⟩
    · exact absurd q3 (h1 j' oj' ((n.writers hsafe I ht q2 q3).1 q1) q2)
    · rw [q2]; exact h2

omit hs hc hk in
/-- The temporaries behind a step. -/
theorem Nxt.tmps {S : Nat → Prop} {c : Nat} {m : BM} {h : HG} {w : World} {a : Act} (hsafe : Safe P ops) (I : Inv P ops st v N m0 h0 w0 S c m h w a) {i : Nat} {o : Oper} (n : Nxt P ops st S i o) {m' : BM} {h' : HG} (l : Le m h m' h') {v' : Value} (hv : VRel m' h' (v i) v') {ds' : List Deferred} (hb : ∀ x, o.dst = some x → x < N) :
    ∀ t, (∃ j oj, (S j ∨ j = i) ∧ ops[j]? = some oj ∧ oj.dst = some t ∧ (∀ j' o', (S j' ∨ j' = i) → ops[j']? = some o' → o'.dst = some t → j' ≤ j) ∧ VRel m' h' (v j) ((({ a with defers := ds' } : Act).put o.dst v').tmps.getD t undef)) ∨
      ((∀ j oj, (S j ∨ j = i) → ops[j]? = some oj → oj.dst ≠ some t) ∧ VRel m' h' ((st 0).tget t) ((({ a with defers := ds' } : Act).put o.dst v').tmps.getD t undef)) := by
  intro t
  rw [Act.getD_put _ _ _ _ (fun x hx => by have := hb x hx; rw [← I.tsize] at this; exact this)]
  by_cases hd : o.dst = some t
  · rw [if_pos hd]
    refine .inl ⟨i, o, .inr rfl, n.get, hd, fun j' o' h1 h2 h3 => ?_, hv⟩
    rcases h1 with h1 | rfl
    · exact Nat.le_of_lt ((n.writers hsafe I (t := t) (by simp [tmpsOf, hd]) h2 h3).2 h1)
    · exact Nat.le_refl _
  · rw [if_neg hd]
    rcases I.tm t with ⟨j, oj, h1, h2, h3, h4, h5⟩ | ⟨h1, h2⟩
    · refine .inl ⟨j, oj, .inl h1, h2, h3, fun j' o' q1 q2 q3 => ?_, h5.mono l⟩
      rcases q1 with q1 | rfl
      · exact h4 j' o' q1 q2 q3
      · rw [n.get] at q2; cases q2; exact absurd q3 hd
    · refine .inr ⟨fun j oj q1 q2 q3 => ?_, h2.mono l⟩
      rcases q1 with q1 | rfl
      · exact h1 j oj q1 q2 q3
      · rw [n.get] at q2; cases q2; exact hd q3
end
end Go.Proofs.Ytjecepaaalfilaa.AI
