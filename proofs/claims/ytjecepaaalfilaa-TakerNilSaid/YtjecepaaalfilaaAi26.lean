/- Functions at the model's level: segments that the abstract interpreter runs, joined by the model's own rules. -/
import Derived.Test.YtjecepaaalfilaaAi25
set_option linter.unusedVariables false
set_option linter.unusedSimpArgs false
namespace Go.Proofs.Ytjecepaaalfilaa.AI
open Go Go.RowKit

def hg0 : HG := fun _ => none
theorem ovr_hg0 {hp : Hp} (k : hp.ok) : ovr hp hg0 = hp.get := by
  funext b; unfold ovr
  split
  · rfl
  · rename_i hlt; exact (k b (by omega)).symm

/-- Where a function's run stands: its frame is told by an abstract state; what may be written is new since the call. -/
structure FR (n : Nat) (W : World) (st : St) (a : Act) (w : World) (m : BM) : Prop where
  ok : st.hp.ok
  rel : Rel n m hg0 w st a
  below : Below W.heap.size W w
  own : ∀ b x, m b = some x → rw? st.hp.get b = true → W.heap.size ≤ x.1

theorem FR.go {n : Nat} {W : World} {st st' : St} {a a' : Act} {w w' : World} {m m' : BM} (f : FR n W st a w m) (k : st'.hp.ok) (g : Go1 m (ovr st.hp hg0) w m' (ovr st'.hp hg0) w') (r : Rel n m' hg0 w' st' a') : FR n W st' a' w' m' := by
  rw [ovr_hg0 f.ok, ovr_hg0 k] at g
  refine ⟨k, r, f.below.trans ⟨g.os, g.tape, g.output, g.size, fun i hi => ?_⟩, fun b x hx hr => ?_⟩
  · exact g.frame i (Nat.lt_of_lt_of_le hi f.below.size) fun b x hx hr e => by have := f.own b x hx hr; omega
  · rcases g.new b x hx with h | h | ⟨b0, x0, h0, hr0, e⟩
    · exact f.own b x h (g.rwb b x h hr)
    · exact Nat.le_trans f.below.size h
    · rw [← e]; exact f.own b0 x0 h0 hr0

section
variable {P : Program} {call : CallF}
/-- A segment. -/
theorem seg (hc : CallOk P call) (hm : P.follows .mixedOrders = true) {N n : Nat} {c : Code} {st st' : St} {e : Exit} (he : exec P call n c st = some (e, st')) (hs : codeSafe P N c = true) {W w : World} {a : Act} {m : BM} (f : FR N W st a w m) :
    c.wp P (fun e' a' w' => e' = e ∧ ∃ m', FR N W st' a' w' m') a w := by
  obtain ⟨_, k1, _, k3⟩ := exec_sound hc hm n c st e st' he hs f.ok
  refine wp_mono (wpR_wp (k3 m hg0 w a (fun _ _ _ => rfl) f.rel)) fun e' a' w' q => ?_
  obtain ⟨q1, m', g, r⟩ := q
  exact ⟨q1, m', f.go k1 g r⟩
theorem segQ (hc : CallOk P call) (hm : P.follows .mixedOrders = true) {N n : Nat} {c : Code} {cl : List (Tmp × Value)} {st st' : St} {e : Exit} {q : List Obl} (he : execQ P call cl n c st = some (e, st', q)) (hq : Met q) (hs : codeSafe P N c = true) {W w : World} {a : Act} {m : BM} (f : FR N W st a w m) :
    c.wp P (fun e' a' w' => e' = e ∧ ∃ m', FR N W st' a' w' m') a w := seg hc hm (execQ_ok he hq) hs f
end

/-! ### Another reading of the same frame: blocks under other numbers, blocks forgotten -/
def mkT (f : Nat → Value) : Nat → Tr Value
  | 0 => .leaf
  | n + 1 => Tr.set (f n) (n + 1) n (mkT f n)
theorem mkT_get (f : Nat → Value) : ∀ n t, (mkT f n).get t = if t < n then some (f t) else none
  | 0, t => by simp [mkT, Tr.get_leaf]
  | n + 1, t => by
    simp only [mkT, Tr.get_set _ _ _ _ _ (Nat.lt_succ_self n), mkT_get f n]
    by_cases h : t = n
    · subst h; simp
    · rw [if_neg h]
      by_cases h2 : t < n
      · rw [if_pos h2, if_pos (by omega)]
      · rw [if_neg h2, if_neg (by omega)]
/-- A frame's temporaries: those that are told, and what else lies there. -/
def frame (g : Nat → Value) (L : List (Nat × Value)) : Nat → Value := fun t => match L.find? (fun p => Nat.beq p.1 t) with
  | some p => p.2
  | none => g t

def idxOf (b : Nat) : List Nat → Nat → Option Nat
  | [], _ => none
  | c :: cs, i => match Nat.beq c b with
    | true => some i
    | false => idxOf b cs (i + 1)
theorem idxOf_some {b : Nat} : ∀ {K : List Nat} {i j : Nat}, idxOf b K i = some j → ∃ k, j = i + k ∧ K[k]? = some b
  | [], i, j, h => by cases h
  | c :: cs, i, j, h => by
    unfold idxOf at h
    split at h
    · rename_i hb
      cases h
      exact ⟨0, rfl, by simp [Nat.eq_of_beq_eq_true hb]⟩
    · obtain ⟨k, h1, h2⟩ := idxOf_some h
      exact ⟨k + 1, by omega, by simpa using h2⟩
/-- The new number of a block that is kept; the one dead block's, of one that is forgotten. -/
def rho (K : List Nat) (b : Nat) : Nat := (idxOf b K 0).getD K.length
def ren1 (K : List Nat) : Value → Value
  | .pointer (some a) => .pointer (some ⟨rho K a.block, a.off, a.spot⟩)
  | .slice (some a) l c => .slice (some ⟨rho K a.block, a.off, a.spot⟩) l c
  | .map (some b) => .map (some (rho K b))
  | v => v
def ren (K : List Nat) : Value → Value
  | .agg cs => .agg (cs.map (ren1 K))
  | v => ren1 K v
def nice : Value → Bool
  | .agg cs => cs.toList.all fun v => match v with | .agg _ | .tuple _ | .func .. => false | _ => true
  | .tuple cs => cs.isEmpty
  | .func .. => false
  | _ => true
def heapOf : List Blk → Hp → Hp
  | [], h => h
  | o :: os, h => heapOf os (h.push o)
theorem heapOf_get : ∀ (os : List Blk) (h : Hp) (b : Nat), (heapOf os h).get b = if b < h.sz then h.get b else match os[b - h.sz]? with | some o => some o | none => h.get b
  | [], h, b => by simp [heapOf]
  | o :: os, h, b => by
    rw [heapOf, heapOf_get os, Hp.sz_push, Hp.get_push]
    by_cases h1 : b < h.sz
    · rw [if_pos (by omega), if_neg (by omega), if_pos h1]
    · rw [if_neg h1]
      by_cases h2 : b = h.sz
      · subst h2; simp
      · rw [if_neg (by omega), if_neg h2, show b - h.sz = (b - (h.sz + 1)) + 1 from by omega]
        simp
theorem heapOf_ok : ∀ (os : List Blk) (h : Hp), h.ok → (heapOf os h).ok
  | [], h, k => k
  | o :: os, h, k => heapOf_ok os _ (k.push o)

/-- What a kept block is read as: the same, where no address lies in it. -/
def BSame (o o2 : Blk) : Prop := o2 = o ∧ match o with
  | .cells _ cs _ => cs.all flat = true
  | .map es _ _ => ∀ e ∈ es, flat e.2.1 = true
  | .dead => True

theorem garb {m m2 : BM} {h h2 : HG} {D : Nat} (hD : h2 D = some .dead) {v v' : Value} (r : VRel m h v v') : ∃ u, VRel m2 h2 u v' := by
  have arr : ∀ {a a' : Array Value}, a.size = a'.size → (∀ (i : Nat) (x x' : Value), a[i]? = some x → a'[i]? = some x' → ∃ u, VRel m2 h2 u x') → ∃ b : Array Value, b.size = a'.size ∧ ∀ (i : Nat) (x x' : Value), b[i]? = some x → a'[i]? = some x' → VRel m2 h2 x x' := by
    intro a a' hs hi
    have hc : ∀ i : Fin a'.size, ∃ u, VRel m2 h2 u a'[i] := fun i =>
      hi i (a[i.1]'(by have := i.2; omega)) a'[i] (Array.getElem?_eq_getElem _) (Array.getElem?_eq_getElem _)
    refine ⟨Array.ofFn fun i => (hc i).choose, by simp, fun i x x' h1 h2 => ?_⟩
    obtain ⟨hi1, rfl⟩ := Array.getElem?_eq_some_iff.1 h1
    obtain ⟨hi2, rfl⟩ := Array.getElem?_eq_some_iff.1 h2
    simp only [Array.getElem_ofFn]
    exact (hc ⟨i, hi2⟩).choose_spec
  induction r with
  | flat hf => exact ⟨_, .flat hf⟩
  | @ptr b off r off' h1 => exact ⟨.pointer (some ⟨D, off, none⟩), .ptr (.inl hD)⟩
  | @slice b off len c r off' cap h0 h1 => exact ⟨.slice (some ⟨D, off, none⟩) len c, .slice h0 (.inl hD)⟩
  | map h1 => exact ⟨.map (some D), .map (.inl hD)⟩
  | @func f a a' c c' h1 _ h3 _ ih1 ih2 =>
    obtain ⟨x, x1, x2⟩ := arr h1 ih1
    obtain ⟨y, y1, y2⟩ := arr h3 ih2
    exact ⟨.func (.func f) x y, .func x1 x2 y1 y2⟩
  | agg h1 _ ih =>
    obtain ⟨x, x1, x2⟩ := arr h1 ih
    exact ⟨.agg x, .agg x1 x2⟩
  | tuple h1 _ ih =>
    obtain ⟨x, x1, x2⟩ := arr h1 ih
    exact ⟨.tuple x, .tuple x1 x2⟩

/-- The block map behind a new numbering. -/
def canM (m : BM) (K : List Nat) : BM := fun b2 => match K[b2]? with
  | some b => m b
  | none => none

theorem FR.canon {n : Nat} {W w : World} {st : St} {a : Act} {m : BM} (f : FR n W st a w m) (K : List Nat) (O : List Blk) (L : List (Nat × Value)) (hK : K.Nodup) (hO : O.length = K.length)
    (hB : ∀ (i b : Nat) (o2 : Blk), K[i]? = some b → O[i]? = some o2 → ∃ o, st.hp.get b = some o ∧ BSame o o2)
    (hL : ∀ p ∈ L, p.1 < n ∧ nice (st.tget p.1) = true ∧ p.2 = ren K (st.tget p.1)) (hd : st.df = []) :
    ∃ g m2, FR n W ⟨mkT (frame g L) n, heapOf (O ++ [.dead]) hp0, []⟩ a w m2 := by
  have hget : ∀ b2, (heapOf (O ++ [.dead]) hp0).get b2 = (O ++ [Blk.dead])[b2]? := by
    intro b2
    rw [heapOf_get]
    simp only [hp0, Nat.not_lt_zero, if_false, Nat.sub_zero]
    cases (O ++ [Blk.dead])[b2]? <;> rfl
  have hD : (heapOf (O ++ [.dead]) hp0).get K.length = some .dead := by
    rw [hget, ← hO]; simp
  have hold : ∀ (i b : Nat), K[i]? = some b → ∃ o o2, st.hp.get b = some o ∧ (heapOf (O ++ [.dead]) hp0).get i = some o2 ∧ BSame o o2 := by
    intro i b hi
    have hlt : i < O.length := by rw [hO]; exact (List.getElem?_eq_some_iff.1 hi).1
    have h2 : O[i]? = some O[i] := List.getElem?_eq_getElem hlt
    obtain ⟨o, h3, h4⟩ := hB i b _ hi h2
    exact ⟨o, O[i], h3, by rw [hget, List.getElem?_append_left hlt, h2], h4⟩
  have inj : ∀ (i j b : Nat), K[i]? = some b → K[j]? = some b → i = j := by
    intro i j b h1 h2
    obtain ⟨q1, e1⟩ := List.getElem?_eq_some_iff.1 h1
    obtain ⟨q2, e2⟩ := List.getElem?_eq_some_iff.1 h2
    have hp := List.pairwise_iff_getElem.1 hK
    rcases Nat.lt_trichotomy i j with q | q | q
    · exact absurd (e1.trans e2.symm) (hp i j q1 q2 q)
    · exact q
    · exact absurd (e2.trans e1.symm) (hp j i q2 q1 q)
  have hrel := f.rel
  have e0 : ovr st.hp hg0 = st.hp.get := ovr_hg0 f.ok
  have hk2 : (heapOf (O ++ [.dead]) hp0).ok := heapOf_ok _ _ hp0_ok
  have sim := hrel.sim
  rw [e0] at sim
  have tm := hrel.tm
  rw [e0] at tm
  -- what points at a block
  have pt : ∀ b (Q : Prop), (st.hp.get b = some .dead ∨ Q) → (heapOf (O ++ [.dead]) hp0).get (rho K b) = some .dead ∨ (Q ∧ canM m K (rho K b) = m b) := by
    intro b Q hq
    unfold rho
    cases hi : idxOf b K 0 with
    | none => exact .inl hD
    | some j =>
      obtain ⟨k, rfl, hk⟩ := idxOf_some hi
      simp only [Nat.zero_add, Option.getD_some]
      rcases hq with hq | hq
      · obtain ⟨o, o2, h1, h2, h3⟩ := hold k b hk
        rw [hq] at h1; cases h1
        rw [h2, h3.1]; exact .inl rfl
      · exact .inr ⟨hq, by unfold canM; rw [hk]⟩
  have one : ∀ {v v' : Value}, VRel m st.hp.get v v' → (match v with | .agg _ | .tuple _ | .func .. => false | _ => true) = true → VRel (canM m K) (heapOf (O ++ [.dead]) hp0).get (ren1 K v) v' := by
    intro v v' r hv
    cases r with
    | flat hf =>
      have : ren1 K v = v := by cases v with
        | pointer a => cases a <;> first | rfl | (simp [AI.flat] at hf)
        | slice a l c => cases a <;> first | rfl | (simp [AI.flat] at hf)
        | map a => cases a <;> first | rfl | (simp [AI.flat] at hf)
        | _ => rfl
      rw [this]; exact .flat hf
    | ptr h1 =>
      rcases pt _ _ h1 with h | ⟨⟨δ, E, q1, q2⟩, e⟩
      · exact .ptr (.inl h)
      · exact .ptr (.inr ⟨δ, E, by rw [e]; exact q1, q2⟩)
    | slice h0 h1 =>
      rcases pt _ _ h1 with h | ⟨⟨δ, E, q1, q2⟩, e⟩
      · exact .slice h0 (.inl h)
      · exact .slice h0 (.inr ⟨δ, E, by rw [e]; exact q1, q2⟩)
    | map h1 =>
      rcases pt _ _ h1 with h | ⟨⟨x, q1⟩, e⟩
      · exact .map (.inl h)
      · exact .map (.inr ⟨x, by rw [e]; exact q1⟩)
    | func _ _ _ _ => cases hv
    | agg _ _ => cases hv
    | tuple _ _ => cases hv
  have two : ∀ {v v' : Value}, VRel m st.hp.get v v' → nice v = true → VRel (canM m K) (heapOf (O ++ [.dead]) hp0).get (ren K v) v' := by
    intro v v' r hv
    cases v with
    | agg cs =>
      obtain ⟨a', rfl, h1, h2⟩ := r.of_agg
      refine .agg (by simpa using h1) fun i x x' q1 q2 => ?_
      simp only [Array.getElem?_map, Option.map_eq_some_iff] at q1
      obtain ⟨y, hy, rfl⟩ := q1
      refine one (h2 i y x' hy q2) ?_
      have := List.all_eq_true.1 hv y (Array.mem_toList_iff.2 (Array.mem_of_getElem? hy))
      exact this
    | tuple cs =>
      obtain ⟨a', rfl, h1, h2⟩ := r.of_tuple
      have he : cs = #[] := by simpa [nice] using hv
      subst he
      exact .tuple h1 fun i x x' q1 _ => by simp [ren, ren1] at q1
    | func fn x y => cases hv
    | _ => exact one r rfl
  have hgarb : ∀ t, ∃ u, VRel (canM m K) (heapOf (O ++ [.dead]) hp0).get u (a.tmps.getD t undef) := fun t => garb hD (tm.tm t)
  refine ⟨fun t => (hgarb t).choose, canM m K, hk2, ⟨?_, ⟨tm.size, fun t => ?_⟩, ?_⟩, f.below, ?_⟩
  · -- the heap
    rw [ovr_hg0 hk2]
    refine ⟨fun b2 x hx => ?_, fun b b' x x' hx hx' hr hl e => ?_⟩
    · unfold canM at hx
      split at hx
      · rename_i b hb
        obtain ⟨o, o2, h1, h2, h3, h4⟩ := hold b2 b hb
        refine ⟨o2, h2, ?_⟩
        obtain ⟨o', ho', hbr⟩ := sim.dom b x hx
        rw [h1] at ho'; cases ho'
        subst h3
        cases o2 with
        | cells ty cs ro =>
          obtain ⟨c, fr, g1, g2, g3, g4, g5⟩ := hbr
          refine ⟨c, fr, g1, g2, g3, fun i v v' q1 q2 => ?_, g5⟩
          have hf := List.all_eq_true.1 h4 v (List.mem_of_getElem? q1)
          rw [(g4 i v v' q1 q2).of_flat hf]
          exact .flat hf
        | map es cl ro =>
          obtain ⟨fs, g1, g2, g3⟩ := hbr
          refine ⟨fs, g1, g2, fun i e ff q1 q2 => ?_⟩
          obtain ⟨p1, p2, p3, p4⟩ := g3 i e ff q1 q2
          have hf := h4 e (List.mem_of_getElem? q1)
          refine ⟨p1, p2, ?_, p4⟩
          rw [p3.of_flat hf]; exact .flat hf
        | dead => trivial
      · cases hx
    · unfold canM at hx hx'
      split at hx
      · rename_i c hc
        split at hx'
        · rename_i c' hc'
          obtain ⟨o, o2, h1, h2, h3, _⟩ := hold b c hc
          obtain ⟨o', o2', h1', h2', h3', _⟩ := hold b' c' hc'
          subst h3; subst h3'
          have hr' : rw? st.hp.get c = true := by unfold rw? at hr ⊢; rw [h1]; rwa [h2] at hr
          have hl' : live? st.hp.get c' = true := by unfold live? at hl ⊢; rw [h1']; rwa [h2'] at hl
          have := sim.inj c c' x x' hx hx' hr' hl' e
          subst this
          exact inj b b' c hc hc'
        · cases hx'
      · cases hx
  · rw [ovr_hg0 hk2]
    simp only [St.tget, mkT_get]
    by_cases ht : t < n
    · rw [if_pos ht]
      simp only [Option.getD_some, frame]
      cases hq : L.find? (fun p => Nat.beq p.1 t) with
      | none => exact (hgarb t).choose_spec
      | some p =>
        have h1 := List.find?_some hq
        have h2 := List.mem_of_find?_eq_some hq
        have e : p.1 = t := Nat.eq_of_beq_eq_true h1
        subst e
        obtain ⟨_, h3, h4⟩ := hL p h2
        simp only
        rw [h4]
        exact two (tm.tm p.1) h3
    · rw [if_neg ht]
      have : a.tmps.getD t undef = undef := by
        have hs := tm.size
        simp [Array.getElem?_eq_none (show a.tmps.size ≤ t by omega)]
      rw [this]
      exact VRel.undef
  · rw [ovr_hg0 hk2]
    have := hrel.df
    rw [hd] at this
    rw [this.of_nil]
    exact .nil
  · intro b2 x hx hr
    unfold canM at hx
    split at hx
    · rename_i b hb
      obtain ⟨o, o2, h1, h2, h3, _⟩ := hold b2 b hb
      subst h3
      exact f.own b x hx (by unfold rw? at hr ⊢; rw [h1]; rwa [h2] at hr)
    · cases hx
end Go.Proofs.Ytjecepaaalfilaa.AI
