/- Part 5. -/
import Derived.Test.YtgeoommlmddgpaaXcD
set_option linter.unusedVariables false
set_option linter.unusedSimpArgs false
set_option maxRecDepth 100000
namespace Go.Proofs.Ytgeoommlmddgpaa.AI
open Go Go.Proofs Go.RowKit
abbrev Pins := Nat → Option (Nat × Nat × Nat)
structure FM (n : Nat) (W : Base) (z : Nat) (X : Pins) (st : St) (a : Act) (w : World) (m : BM) : Prop where
  fr : FR n W st a w m
  pin : ∀ i, i < z → ∀ x, X i = some x → st.hp.get i = some .dead ∨ m i = some x
def FRm (P : Program) (N : Nat) (W : Base) (z : Nat) (X : Pins) (c : Code) (st : St) (Q : Exit → St → Prop) : Prop :=
  ∀ a w m, FM N W z X st a w m → c.wp P (fun e a' w' => ∃ st' m', FM N W z X st' a' w' m' ∧ Q e st') a w
section
variable {P : Program} {N : Nat} {W : Base} {z : Nat} {X : Pins}
theorem FRm.mono {c : Code} {st : St} {Q Q' : Exit → St → Prop} (h : FRm P N W z X c st Q) (hq : ∀ e st', Q e st' → Q' e st') : FRm P N W z X c st Q' := fun a w m f =>
  wp_mono (h a w m f) fun e a' w' hh => by
    obtain ⟨st', m', f', q⟩ := hh
    exact ⟨st', m', f', hq e st' q⟩
theorem FRm.seq {c d : Code} {st : St} {Q1 Q : Exit → St → Prop} (h1 : FRm P N W z X c st Q1) (h2 : ∀ st', Q1 .normal st' → FRm P N W z X d st' Q) (h3 : ∀ e st', e ≠ .normal → Q1 e st' → Q e st') : FRm P N W z X (.seq c d) st Q := fun a w m f => by
  refine wp_seq (wp_mono (h1 a w m f) fun e a' w' hh => ?_)
  obtain ⟨st', m', f', q⟩ := hh
  cases e with
  | normal => exact h2 st' q a' w' m' f'
  | _ => exact ⟨st', m', f', h3 _ st' (by simp) q⟩
theorem FRm.block {id : Nat} {c : Code} {st : St} {Q : Exit → St → Prop} (h : FRm P N W z X c st fun e st' => match e with | .exit i => if i = id then Q .normal st' else Q (.exit i) st' | e => Q e st') : FRm P N W z X (.block id c) st Q := fun a w m f => by
  refine wp_block (wp_mono (h a w m f) fun e a' w' hh => ?_)
  obtain ⟨st', m', f', q⟩ := hh
  cases e with
  | exit i =>
    show (if i = id then _ else _)
    by_cases hi : i = id
    · simp only [hi, if_true] at q ⊢
      exact ⟨st', m', f', q⟩
    · simp only [hi, if_false] at q ⊢
      exact ⟨st', m', f', q⟩
  | _ => exact ⟨st', m', f', q⟩
theorem FRm.skip {st : St} {Q : Exit → St → Prop} (h : Q .normal st) : FRm P N W z X .skip st Q := fun a w m f => wp_skip ⟨st, m, f, h⟩
theorem FRm.loop {c : Code} {Q : Exit → St → Prop} (I : Nat → St → Prop) (hI : ∀ k st, I k st → FRm P N W z X c st fun e st' => (e = .normal ∧ ∃ k', k' < k ∧ I k' st') ∨ (e ≠ .normal ∧ Q e st')) {k : Nat} {st : St} (h : I k st) : FRm P N W z X (.loop c) st Q := fun a w m f => by
  have key : ∀ k st a w m, I k st → FM N W z X st a w m → Code.rounds P c (fun e a' w' => ∃ st' m', FM N W z X st' a' w' m' ∧ Q e st') (k + 1) a w := by
    intro k
    induction k using Nat.strongRecOn with
    | _ k ih =>
      intro st a w m hi f
      rw [rounds_succ]
      refine wp_mono (hI k st hi a w m f) fun e a' w' hh => ?_
      obtain ⟨st', m', f', q⟩ := hh
      rcases q with ⟨rfl, k', hk, hi'⟩ | ⟨hne, q⟩
      · exact rounds_le (show k' + 1 ≤ k by omega) (ih k' hk st' a' w' m' hi' f')
      · cases e with
        | normal => exact absurd rfl hne
        | _ => exact ⟨st', m', f', q⟩
  exact wp_loop_rounds (k + 1) (key k st a w m h f)
theorem FRm.to0 {c : Code} {st : St} {Q : Exit → St → Prop} (h : ∀ X, FRm P N W 0 X c st Q) : FRwp P N W c st Q := fun a w m f =>
  wp_mono (h (fun _ => none) a w m ⟨f, fun i hi => by omega⟩) fun e a' w' hh => by
    obtain ⟨st', m', f', q⟩ := hh
    exact ⟨st', m', f'.fr, q⟩
theorem FM.canon {st' : St} {a' : Act} {w' : World} {m' : BM} (f' : FM N W z X st' a' w' m') {e e' : Exit} (p : Nat) (K Ts : List Nat) (O : List Blk) (L : List (Nat × Value))
    (h2 : look2 p K Ts (e', st') = (e, O, L, true)) (hK : nodupB K = true) (hT : Ts.all (fun t => Nat.blt t N) = true)
    (hO : ∀ i, i < p → ∀ o, O[i]? = some o → Fixed 0 o) (h0 : ∀ i, i < z → K[i]? = some i) : e' = e ∧ ∃ g m2, FM N W z X (stOf N g L O) a' w' m2 := by
  simp only [look2, Prod.mk.injEq] at h2
  obtain ⟨rfl, rfl, rfl, h5⟩ := h2
  obtain ⟨h5, h7⟩ := Bool.and_eq_true_iff.1 h5
  obtain ⟨h5, h6⟩ := Bool.and_eq_true_iff.1 h5
  obtain ⟨h3, h4⟩ := Bool.and_eq_true_iff.1 h5
  have hpin := f'.pin
  have hlen : ((K.take p).map (fun b => (st'.hp.get b).getD .dead) ++ (K.drop p).map (fun b => renBlk K ((st'.hp.get b).getD .dead))).length = K.length := by
    simp; omega
  have hget : ∀ (i b : Nat), K[i]? = some b → ∃ o, st'.hp.get b = some o := fun i b hi => by
    have := List.all_eq_true.1 h3 b (List.mem_of_getElem? hi)
    cases hg : st'.hp.get b with
    | none => rw [hg] at this; cases this
    | some o => exact ⟨o, rfl⟩
  have hB : ∀ (i b : Nat) (o2 : Blk), K[i]? = some b → ((K.take p).map (fun b => (st'.hp.get b).getD .dead) ++ (K.drop p).map (fun b => renBlk K ((st'.hp.get b).getD .dead)))[i]? = some o2 → ∃ o, st'.hp.get b = some o ∧ o2 = renBlk K o ∧ niceBlk o = true := fun i b o2 hi ho => by
      obtain ⟨o, hg⟩ := hget i b hi
      refine ⟨o, hg, ?_⟩
      have hiK : i < K.length := (List.getElem?_eq_some_iff.1 hi).1
      by_cases hip : i < p
      · have e1 : ((K.take p).map (fun b => (st'.hp.get b).getD .dead) ++ (K.drop p).map (fun b => renBlk K ((st'.hp.get b).getD .dead)))[i]? = some o := by
          rw [List.getElem?_append_left (by simp; omega), List.getElem?_map, List.getElem?_take, if_pos hip, hi]
          simp [hg]
        rw [e1] at ho
        have e3 : o = o2 := by simpa using ho
        subst e3
        obtain ⟨k1, k2⟩ := hO i hip o e1
        exact ⟨(k2 K (fun i hi => absurd hi (Nat.not_lt_zero _))).symm, k1⟩
      · have hmin : min p K.length = p := by omega
        rw [List.getElem?_append_right (by simp; omega)] at ho
        simp only [List.length_map, List.length_take, hmin, List.getElem?_map, List.getElem?_drop] at ho
        rw [show p + (i - p) = i by omega, hi] at ho
        simp only [Option.map_some, Option.some.injEq, hg, Option.getD_some] at ho
        refine ⟨ho.symm, ?_⟩
        have hbm : b ∈ K.drop p := List.mem_of_getElem? (by rw [List.getElem?_drop, show p + (i - p) = i by omega]; exact hi)
        have := List.all_eq_true.1 h4 b hbm
        simpa [hg] using this
  obtain ⟨g, f2⟩ := f'.fr.canon3 K ((K.take p).map (fun b => (st'.hp.get b).getD .dead) ++ (K.drop p).map (fun b => renBlk K ((st'.hp.get b).getD .dead))) (Ts.map fun t => (t, ren2 K (st'.tget t))) (nodupB_ok hK) hlen hB (fun x hx => by
      obtain ⟨t, ht, rfl⟩ := List.mem_map.1 hx
      exact ⟨by have := List.all_eq_true.1 hT t ht; simpa [Nat.blt_eq] using this, List.all_eq_true.1 h6 t ht, rfl⟩) (List.isEmpty_iff.1 h7)
  refine ⟨rfl, _, _, ⟨f2, fun i hi x hx => ?_⟩⟩
  have hKi := h0 i hi
  have hlt : i < K.length := (List.getElem?_eq_some_iff.1 hKi).1
  rcases hpin i hi x hx with hd | hd
  · refine .inl ?_
    obtain ⟨o2, ho2⟩ : ∃ o2, ((K.take p).map (fun b => (st'.hp.get b).getD .dead) ++ (K.drop p).map (fun b => renBlk K ((st'.hp.get b).getD .dead)))[i]? = some o2 := ⟨_, List.getElem?_eq_getElem (by omega)⟩
    obtain ⟨o, q1, q2, _⟩ := hB i i o2 hKi ho2
    rw [hd] at q1; cases q1
    show (heapOf _ hp0).get i = _
    rw [heapOf0_get, List.getElem?_append_left (by omega), ho2, q2]
    rfl
  · refine .inr ?_
    unfold canM
    rw [hKi]
    exact hd
theorem FRm.leaf {c : Code} {st : St} {Q : Exit → St → Prop} (h : FRm P N W z X c st fun e st' => ∃ p k, leafT N z Q e st' p k) : FRm P N W z X c st Q := fun a w m f =>
  wp_mono (h a w m f) fun e a' w' hh => by
    obtain ⟨st', m', f', p, k, q⟩ := hh
    obtain ⟨n, K, Ts, O, L, hl, h1, h1', h2, h3, h4⟩ := leafT_ok q
    obtain ⟨-, g, m2, f2⟩ := f'.canon n K Ts O L hl h1 h2 h3 (fun i hi => pinK_ok h1' hi)
    exact ⟨_, m2, f2, h4 g⟩
theorem FRm.run {call : CallF} (hc : CallOk P call) (hm : P.follows .mixedOrders = true) {n : Nat} {c : Code} {st st' : St} {e : Exit} (h1 : exec P call n c st = some (e, st')) (hs : codeSafe P N c = true) {Q : Exit → St → Prop} (hq : Q e st') : FRm P N W z X c st Q := fun a w m f => by
  obtain ⟨_, k1, _, k3⟩ := exec_sound hc hm n c st _ st' h1 hs f.fr.ok
  refine wp_mono (wpR_wp (k3 m hg0 w a (fun _ _ _ => rfl) f.fr.rel)) fun e2 a' w' hh => ?_
  obtain ⟨rfl, m', gg, r⟩ := hh
  refine ⟨st', m', ⟨f.fr.go k1 gg r, fun i hi x hx => ?_⟩, hq⟩
  have le := gg.le
  rw [ovr_hg0 f.fr.ok, ovr_hg0 k1] at le
  rcases f.pin i hi x hx with h | h
  · exact .inl (le.dead i h)
  · exact le.keep i x h
end
def mv1 (s : Nat → Nat) : Value → Value
  | .pointer (some a) => .pointer (some ⟨s a.block, a.off, a.spot⟩)
  | .slice (some a) l c => .slice (some ⟨s a.block, a.off, a.spot⟩) l c
  | .map (some b) => .map (some (s b))
  | v => v
def mv2 (s : Nat → Nat) : Value → Value
  | .func f a b => .func f (a.map (mv1 s)) (b.map (mv1 s))
  | .agg cs => .agg (cs.map (mv1 s))
  | v => mv1 s v
def mv3 (s : Nat → Nat) : Value → Value
  | .tuple cs => .tuple (cs.map (mv2 s))
  | v => mv2 s v
def mvB (s : Nat → Nat) : Blk → Blk
  | .cells ty cs ro => .cells ty (cs.map (mv2 s)) ro
  | .map es cl ro => .map (es.map fun e => (e.1, mv2 s e.2.1, e.2.2)) cl ro
  | .dead => .dead
theorem mv2_map {s : Nat → Nat} : ∀ v b, mv2 s v = .map (some b) → ∃ c, v = .map (some c) := by
  intro v b h
  cases v with
  | map a => cases a with
    | none => cases h
    | some c => exact ⟨c, rfl⟩
  | pointer a => cases a <;> cases h
  | slice a l c => cases a <;> cases h
  | _ => cases h
def PS (m : BM) (h : HG) (m2 : BM) (h2 : HG) (s : Nat → Nat) : Prop :=
  ∀ b (Q : Prop), (h b = some .dead ∨ Q) → h2 (s b) = some .dead ∨ (Q ∧ m2 (s b) = m b)
section
variable {m m2 : BM} {h h2 : HG} {s : Nat → Nat}
theorem PS.one (pt : PS m h m2 h2 s) {v v' : Value} (r : VRel m h v v') (hv : nice1 v = true) : VRel m2 h2 (mv1 s v) v' := by
  cases r with
  | flat hf =>
    have : mv1 s v = v := by cases v with
      | pointer a => cases a <;> first | rfl | (simp [AI.flat] at hf)
      | slice a l c => cases a <;> first | rfl | (simp [AI.flat] at hf)
      | map a => cases a <;> first | rfl | (simp [AI.flat] at hf)
      | _ => rfl
    rw [this]; exact .flat hf
  | ptr h1 =>
    rcases pt _ _ h1 with h | ⟨⟨δ, E, q1, q2⟩, e⟩
    · exact .ptr (.inl h)
    · exact .ptr (.inr ⟨δ, E, by rw [e]; exact q1, q2⟩)
  | slice h0 h1 =>
    rcases pt _ _ h1 with h | ⟨⟨δ, E, q1, q2⟩, e⟩
    · exact .slice h0 (.inl h)
    · exact .slice h0 (.inr ⟨δ, E, by rw [e]; exact q1, q2⟩)
  | blind h1 => exact .blind h1
  | blind0 => exact .blind0
  | junk h1 => exact .junk h1
  | map h1 =>
    rcases pt _ _ h1 with h | ⟨⟨x, q1⟩, e⟩
    · exact .map (.inl h)
    · exact .map (.inr ⟨x, by rw [e]; exact q1⟩)
  | func _ _ _ _ => cases hv
  | agg _ _ => cases hv
  | tuple _ _ => cases hv
theorem PS.two (pt : PS m h m2 h2 s) {v v' : Value} (r : VRel m h v v') (hv : ok2 v = true) : VRel m2 h2 (mv2 s v) v' := by
  cases v with
  | agg cs =>
    obtain ⟨a', rfl, h1, h2⟩ := r.of_agg
    refine .agg (by simpa using h1) fun i x x' q1 q2 => ?_
    simp only [Array.getElem?_map, Option.map_eq_some_iff] at q1
    obtain ⟨y, hy, rfl⟩ := q1
    exact pt.one (h2 i y x' hy q2) (List.all_eq_true.1 hv y (Array.mem_toList_iff.2 (Array.mem_of_getElem? hy)))
  | func fn x y =>
    cases r with
    | flat hf => simp [AI.flat] at hf
    | func h1 h2 h3 h4 =>
      have hv' := Bool.and_eq_true_iff.1 hv
      refine .func (by simpa using h1) (fun i u u' q1 q2 => ?_) (by simpa using h3) (fun i u u' q1 q2 => ?_)
      · simp only [Array.getElem?_map, Option.map_eq_some_iff] at q1
        obtain ⟨z, hz, rfl⟩ := q1
        exact pt.one (h2 i z u' hz q2) (List.all_eq_true.1 hv'.1 z (Array.mem_toList_iff.2 (Array.mem_of_getElem? hz)))
      · simp only [Array.getElem?_map, Option.map_eq_some_iff] at q1
        obtain ⟨z, hz, rfl⟩ := q1
        exact pt.one (h4 i z u' hz q2) (List.all_eq_true.1 hv'.2 z (Array.mem_toList_iff.2 (Array.mem_of_getElem? hz)))
  | tuple cs => cases hv
  | _ => exact pt.one r hv
theorem PS.three (pt : PS m h m2 h2 s) {v v' : Value} (r : VRel m h v v') (hv : ok3 v = true) : VRel m2 h2 (mv3 s v) v' := by
  cases v with
  | tuple cs =>
    obtain ⟨a', rfl, h1, h2⟩ := r.of_tuple
    refine .tuple (by simpa using h1) fun i x x' q1 q2 => ?_
    simp only [Array.getElem?_map, Option.map_eq_some_iff] at q1
    obtain ⟨y, hy, rfl⟩ := q1
    exact pt.two (h2 i y x' hy q2) (List.all_eq_true.1 hv y (Array.mem_toList_iff.2 (Array.mem_of_getElem? hy)))
  | _ => exact pt.two r hv
theorem PS.threes (pt : PS m h m2 h2 s) {vs vs' : List Value} (r : VRelL m h vs vs') (hv : vs.all ok3 = true) : VRelL m2 h2 (vs.map (mv3 s)) vs' := by
  refine ⟨by simpa using r.1, fun i v v' q1 q2 => ?_⟩
  simp only [List.getElem?_map, Option.map_eq_some_iff] at q1
  obtain ⟨y, hy, rfl⟩ := q1
  exact pt.three (r.2 i y v' hy q2) (List.all_eq_true.1 hv y (List.mem_of_getElem? hy))
theorem PS.blk (pt : PS m h m2 h2 s) {w : World} {x : Nat × Nat × Nat} {o : Blk} (r : BRel m h w x o) (ho : okBlk o = true) : BRel m2 h2 w x (mvB s o) := by
  cases o with
  | cells ty cs ro =>
    obtain ⟨cc, fr, g1, g2, g3, g4, g5⟩ := r
    refine ⟨cc, fr, g1, by simpa using g2, g3, fun i v v' q1 q2 => ?_, g5.1, fun hr hk => g5.2 hr (keysBox_map mv2_map hk)⟩
    simp only [List.getElem?_map, Option.map_eq_some_iff] at q1
    obtain ⟨z, hz, rfl⟩ := q1
    exact pt.two (g4 i z v' hz q2) (List.all_eq_true.1 ho z (List.mem_of_getElem? hz))
  | map es cl ro =>
    obtain ⟨fs, g1, g2, g3⟩ := r
    refine ⟨fs, g1, by simpa using g2, fun i e ff q1 q2 => ?_⟩
    simp only [List.getElem?_map, Option.map_eq_some_iff] at q1
    obtain ⟨z, hz, rfl⟩ := q1
    obtain ⟨p1, p2, p3, p4⟩ := g3 i z ff hz q2
    exact ⟨p1, p2, pt.two p3 (List.all_eq_true.1 ho z (List.mem_of_getElem? hz)), p4⟩
  | dead => trivial
end
def nam1 : Value → List Nat
  | .pointer (some a) => [a.block]
  | .slice (some a) _ _ => [a.block]
  | .map (some b) => [b]
  | _ => []
def nam2 : Value → List Nat
  | .func _ a b => (a.toList ++ b.toList).flatMap nam1
  | .agg cs => cs.toList.flatMap nam1
  | v => nam1 v
def namB : Blk → List Nat
  | .cells _ cs _ => cs.flatMap nam2
  | .map es _ _ => es.flatMap fun e => nam2 e.2.1
  | .dead => []
inductive Rch (args : List Value) (hp : Hp) : Nat → Prop where
  | arg {v : Value} {b : Nat} : v ∈ args → b ∈ nam2 v → Rch args hp b
  | blk {b c : Nat} {o : Blk} : Rch args hp b → hp.get b = some o → c ∈ namB o → Rch args hp c
section
variable {m : BM} {h : HG}
theorem VRel.nam1 {v v' : Value} (r : VRel m h v v') {b : Nat} (hb : b ∈ AI.nam1 v) : h b = some .dead ∨ ∃ x, m b = some x := by
  cases r with
  | ptr h1 =>
    simp only [AI.nam1, List.mem_singleton] at hb
    subst hb
    rcases h1 with h1 | ⟨δ, E, h1, _⟩
    · exact .inl h1
    · exact .inr ⟨_, h1⟩
  | slice h0 h1 =>
    simp only [AI.nam1, List.mem_singleton] at hb
    subst hb
    rcases h1 with h1 | ⟨δ, E, h1, _⟩
    · exact .inl h1
    · exact .inr ⟨_, h1⟩
  | map h1 =>
    simp only [AI.nam1, List.mem_singleton] at hb
    subst hb
    rcases h1 with h1 | ⟨x, h1⟩
    · exact .inl h1
    · exact .inr ⟨_, h1⟩
  | flat hf =>
    cases v with
    | pointer a => cases a with
      | none => cases hb
      | some a => simp [AI.flat] at hf
    | slice a l c => cases a with
      | none => cases hb
      | some a => simp [AI.flat] at hf
    | map a => cases a with
      | none => cases hb
      | some a => simp [AI.flat] at hf
    | _ => cases hb
  | _ => cases hb
theorem VRelA.nam {a a' : Array Value} (r : VRelA m h a a') {b : Nat} (hb : b ∈ a.toList.flatMap AI.nam1) : h b = some .dead ∨ ∃ x, m b = some x := by
  obtain ⟨v, hv, hb⟩ := List.mem_flatMap.1 hb
  obtain ⟨i, hi⟩ := List.getElem?_of_mem hv
  have hi' : a[i]? = some v := by simpa using hi
  have hlt : i < a'.size := by
    have := (Array.getElem?_eq_some_iff.1 hi').1
    have := r.1
    omega
  exact VRel.nam1 (r.2 i v _ hi' (Array.getElem?_eq_getElem hlt)) hb
theorem VRel.nam2 {v v' : Value} (r : VRel m h v v') {b : Nat} (hb : b ∈ AI.nam2 v) : h b = some .dead ∨ ∃ x, m b = some x := by
  cases v with
  | agg cs =>
    obtain ⟨a', rfl, h1⟩ := r.of_agg
    exact h1.nam hb
  | func f x y =>
    cases r with
    | flat hf => simp [AI.flat] at hf
    | func h1 h2 h3 h4 =>
      rw [AI.nam2, List.flatMap_append, List.mem_append] at hb
      rcases hb with hb | hb
      · exact VRelA.nam ⟨h1, h2⟩ hb
      · exact VRelA.nam ⟨h3, h4⟩ hb
  | _ => exact r.nam1 hb
theorem BRel.nam {w : World} {x : Nat × Nat × Nat} {o : Blk} (r : BRel m h w x o) {b : Nat} (hb : b ∈ namB o) : h b = some .dead ∨ ∃ x, m b = some x := by
  cases o with
  | cells ty cs ro =>
    obtain ⟨cc, fr, g1, g2, g3, g4, g5⟩ := r
    obtain ⟨v, hv, hb⟩ := List.mem_flatMap.1 hb
    obtain ⟨i, hi⟩ := List.getElem?_of_mem hv
    have hlt : i < cs.length := (List.getElem?_eq_some_iff.1 hi).1
    exact VRel.nam2 (g4 i v _ hi (Array.getElem?_eq_getElem (by omega))) hb
  | map es cl ro =>
    obtain ⟨fs, g1, g2, g3⟩ := r
    obtain ⟨e, he, hb⟩ := List.mem_flatMap.1 hb
    obtain ⟨i, hi⟩ := List.getElem?_of_mem he
    have hlt : i < es.length := (List.getElem?_eq_some_iff.1 hi).1
    exact VRel.nam2 (g3 i e _ hi (Array.getElem?_eq_getElem (by omega))).2.2.1 hb
  | dead => cases hb
theorem Rch.has {args : List Value} {hp : Hp} (hk : hp.ok) {w : World} {args' : List Value} (s : Sim m (ovr hp h) w) (ra : VRelL m (ovr hp h) args args') {b : Nat} (r : Rch args hp b) : ovr hp h b = some .dead ∨ ∃ x, m b = some x := by
  induction r with
  | arg hv hb =>
    obtain ⟨i, hi⟩ := List.getElem?_of_mem hv
    have hlt : i < args'.length := by
      have := (List.getElem?_eq_some_iff.1 hi).1
      have := ra.1
      omega
    exact VRel.nam2 (ra.2 i _ _ hi (List.getElem?_eq_getElem hlt)) hb
  | @blk b c o _ hg hc ih =>
    have ho := ovr_sub hk h b o hg
    rcases ih with hd | ⟨x, hx⟩
    · rw [ho] at hd; cases hd; cases hc
    · obtain ⟨o', ho', hbr⟩ := s.dom b x hx
      rw [ho] at ho'; cases ho'
      exact hbr.nam hc
end
end Go.Proofs.Ytgeoommlmddgpaa.AI
namespace Go.Proofs.Ytgeoommlmddgpaa.AI
open Go Go.Proofs Go.RowKit
abbrev Ks := List (Option (Nat × Bool))
def startB (o : Blk) (wr : Bool) : Blk := bif wr then o else roBlk o
def posO (b : Nat) : Ks → Nat → Option Nat
  | [], _ => none
  | none :: K, i => posO b K (i + 1)
  | some (c, _) :: K, i => match Nat.beq c b with
    | true => some i
    | false => posO b K (i + 1)
theorem posO_some {b : Nat} : ∀ {K : Ks} {i j : Nat}, posO b K i = some j → ∃ k wr, j = i + k ∧ K[k]? = some (some (b, wr))
  | [], i, j, h => by cases h
  | none :: K, i, j, h => by
    obtain ⟨k, wr, rfl, hk⟩ := posO_some (K := K) (i := i + 1) h
    exact ⟨k + 1, wr, by omega, by simpa using hk⟩
  | some (c, w) :: K, i, j, h => by
    unfold posO at h
    split at h
    · rename_i hb
      cases h
      exact ⟨0, w, rfl, by rw [Nat.eq_of_beq_eq_true hb]; rfl⟩
    · obtain ⟨k, wr, rfl, hk⟩ := posO_some (K := K) (i := i + 1) h
      exact ⟨k + 1, wr, by omega, by simpa using hk⟩
def sg0 (K0 : Ks) (b : Nat) : Nat := (posO b K0 0).getD K0.length
def pinB (K0 : Ks) (hp : Hp) : Option (Nat × Bool) → Blk
  | some (b, wr) => startB (mvB (sg0 K0) ((hp.get b).getD .dead)) wr
  | none => .dead
def pinHp (K0 : Ks) (hp : Hp) : Hp := heapOf (K0.map (pinB K0 hp) ++ [.dead]) hp0
def canO (m : BM) (K0 : Ks) : BM := fun i => match K0[i]? with
  | some (some (b, _)) => m b
  | _ => none
def nodupO (K0 : Ks) : Prop := ∀ (i j b : Nat) (wr wr' : Bool), K0[i]? = some (some (b, wr)) → K0[j]? = some (some (b, wr')) → i = j
def putO : Ks → List Blk → Hp → Hp
  | [], _, h => h
  | _ :: _, [], h => h
  | some (b, true) :: K, o :: O, h => putO K O (h.put b o)
  | some (_, false) :: K, _ :: O, h => putO K O h
  | none :: K, _ :: O, h => putO K O h
abbrev Kw := List (Option Nat)
def posN (b : Nat) : Kw → Nat → Option Nat
  | [], _ => none
  | none :: K, i => posN b K (i + 1)
  | some c :: K, i => match Nat.beq c b with
    | true => some i
    | false => posN b K (i + 1)
theorem posN_some {b : Nat} : ∀ {K : Kw} {i j : Nat}, posN b K i = some j → ∃ k, j = i + k ∧ K[k]? = some (some b)
  | [], i, j, h => by cases h
  | none :: K, i, j, h => by
    obtain ⟨k, rfl, hk⟩ := posN_some (K := K) (i := i + 1) h
    exact ⟨k + 1, by omega, by simpa using hk⟩
  | some c :: K, i, j, h => by
    unfold posN at h
    split at h
    · rename_i hb
      cases h
      exact ⟨0, rfl, by rw [Nat.eq_of_beq_eq_true hb]; rfl⟩
    · obtain ⟨k, rfl, hk⟩ := posN_some (K := K) (i := i + 1) h
      exact ⟨k + 1, by omega, by simpa using hk⟩
def nodupN (K : Kw) : Prop := ∀ (i j c : Nat), K[i]? = some (some c) → K[j]? = some (some c) → i = j
def sgE (K0 : Ks) (K : Kw) (B : Nat) (b : Nat) : Nat := match K0[b]? with
  | some (some (c, _)) => c
  | some none => B + K.length
  | none => B + (posN b K 0).getD K.length
def joinN (m m' : BM) (K : Kw) (B : Nat) : BM := fun b => if B ≤ b ∧ b ≤ B + K.length then (match K[b - B]? with | some (some c) => m' c | _ => none) else m b
theorem putO_sz : ∀ (K : Ks) (O : List Blk) (h : Hp), (putO K O h).sz = h.sz
  | [], _, h => by cases ‹List Blk› <;> rfl
  | _ :: _, [], h => by unfold putO; rfl
  | some (b, true) :: K, o :: O, h => by rw [putO, putO_sz, Hp.sz_put]
  | some (_, false) :: K, _ :: O, h => by rw [putO, putO_sz]
  | none :: K, _ :: O, h => by rw [putO, putO_sz]
theorem putO_miss {b : Nat} : ∀ {K : Ks} {O : List Blk} {h : Hp}, (∀ i : Nat, K[i]? ≠ some (some (b, true))) → (putO K O h).get b = h.get b
  | [], _, h, _ => by cases ‹List Blk› <;> rfl
  | _ :: _, [], h, _ => by unfold putO; rfl
  | some (c, true) :: K, o :: O, h, hm => by
    rw [putO, putO_miss (fun i => by have := hm (i + 1); simpa using this), Hp.get_put, if_neg (fun e => hm 0 (by rw [e]; rfl))]
  | some (_, false) :: K, _ :: O, h, hm => by rw [putO, putO_miss (fun i => by have := hm (i + 1); simpa using this)]
  | none :: K, _ :: O, h, hm => by rw [putO, putO_miss (fun i => by have := hm (i + 1); simpa using this)]
theorem nodupO.tail {k : Option (Nat × Bool)} {K : Ks} (h : nodupO (k :: K)) : nodupO K := fun i j b wr wr' h1 h2 => by
  have := h (i + 1) (j + 1) b wr wr' (by simpa using h1) (by simpa using h2)
  omega
theorem putO_hit {b : Nat} : ∀ {K : Ks} {O : List Blk} {h : Hp} {i : Nat} {o : Blk}, nodupO K → K[i]? = some (some (b, true)) → O[i]? = some o → (putO K O h).get b = some o
  | [], O, h, i, o, _, h1, _ => by simp at h1
  | _ :: _, [], h, i, o, _, _, h2 => by simp at h2
  | k :: K, o' :: O, h, i, o, hd, h1, h2 => by
    cases i with
    | zero =>
      have e1 : k = some (b, true) := by simpa using h1
      have e2 : o' = o := by simpa using h2
      subst e1 e2
      rw [putO, putO_miss (fun i hi => by have := hd 0 (i + 1) b true true rfl (by simpa using hi); omega), Hp.get_put, if_pos rfl]
    | succ i =>
      have h1' : K[i]? = some (some (b, true)) := by simpa using h1
      have h2' : O[i]? = some o := by simpa using h2
      match k with
      | some (c, true) => rw [putO]; exact putO_hit hd.tail h1' h2'
      | some (_, false) => rw [putO]; exact putO_hit hd.tail h1' h2'
      | none => rw [putO]; exact putO_hit hd.tail h1' h2'
theorem putO_ok {K : Ks} {O : List Blk} {hp : Hp} (hk : hp.ok) (hl : ∀ (i b : Nat), K[i]? = some (some (b, true)) → b < hp.sz) : (putO K O hp).ok := fun c hc => by
  rw [putO_sz] at hc
  rw [putO_miss (fun i hi => by have := hl i c hi; omega)]
  exact hk c hc
theorem mvB_rw {s : Nat → Nat} (o : Blk) : rwB (mvB s o) = rwB o := by cases o <;> rfl
theorem rw_of {h : HG} {b : Nat} {o : Blk} (e : h b = some o) : rw? h b = rwB o := by unfold rw?; rw [e]; cases o <;> rfl
theorem live_of {h : HG} {b : Nat} {o : Blk} (e : h b = some o) : live? h b = true ↔ o ≠ .dead := by
  unfold live?; rw [e]
  cases o <;> simp
section
variable {P : Program}
theorem pin_sim {m : BM} {h : HG} {w : World} {hp : Hp} {K0 : Ks} (s : Sim m (ovr hp h) w) (hk : hp.ok) (hK : nodupO K0) (hok : ∀ (i b : Nat) (wr : Bool), K0[i]? = some (some (b, wr)) → ∃ o, hp.get b = some o ∧ startOk o = true) :
    Sim (canO m K0) (pinHp K0 hp).get w ∧ PS m (ovr hp h) (canO m K0) (pinHp K0 hp).get (sg0 K0) ∧
    (∀ i x, canO m K0 i = some x → rw? (pinHp K0 hp).get i = true → ∃ b, K0[i]? = some (some (b, true)) ∧ m b = some x ∧ rw? (ovr hp h) b = true) := by
  have hget : ∀ b, (pinHp K0 hp).get b = (K0.map (pinB K0 hp) ++ [Blk.dead])[b]? := fun b => heapOf0_get _ b
  have hD : (pinHp K0 hp).get K0.length = some .dead := by rw [hget]; simp
  have hblk : ∀ (i b : Nat) (wr : Bool), K0[i]? = some (some (b, wr)) → ∃ o, ovr hp h b = some o ∧ startOk o = true ∧ (pinHp K0 hp).get i = some (startB (mvB (sg0 K0) o) wr) ∧ canO m K0 i = m b := by
    intro i b wr hi
    obtain ⟨o, h1, h2⟩ := hok i b wr hi
    refine ⟨o, ovr_sub hk h b o h1, h2, ?_, by unfold canO; rw [hi]⟩
    have hlt : i < K0.length := (List.getElem?_eq_some_iff.1 hi).1
    rw [hget, List.getElem?_append_left (by simpa using hlt), List.getElem?_map, hi]
    simp [pinB, h1]
  have pt : PS m (ovr hp h) (canO m K0) (pinHp K0 hp).get (sg0 K0) := by
    intro b Q hq
    unfold sg0
    cases hi : posO b K0 0 with
    | none => exact .inl hD
    | some j =>
      obtain ⟨k, wr, rfl, hk⟩ := posO_some hi
      simp only [Nat.zero_add, Option.getD_some]
      obtain ⟨o, h1, _, h2, h3⟩ := hblk k b wr hk
      rcases hq with hq | hq
      · rw [hq] at h1; cases h1
        left; rw [h2]; cases wr <;> rfl
      · exact .inr ⟨hq, h3⟩
  have hcan : ∀ i x, canO m K0 i = some x → ∃ b wr, K0[i]? = some (some (b, wr)) ∧ m b = some x := by
    intro i x hx
    unfold canO at hx
    split at hx
    · rename_i b wr hb; exact ⟨b, wr, hb, hx⟩
    · cases hx
  have hrw : ∀ i x, canO m K0 i = some x → rw? (pinHp K0 hp).get i = true → ∃ b, K0[i]? = some (some (b, true)) ∧ m b = some x ∧ rw? (ovr hp h) b = true := by
    intro i x hx hr
    obtain ⟨b, wr, hb, hm⟩ := hcan i x hx
    obtain ⟨o, h1, h2, h3, _⟩ := hblk i b wr hb
    rw [rw_of h3] at hr
    cases wr with
    | false => exfalso; revert hr; unfold startB; cases o <;> simp [mvB, roBlk, rwB]
    | true => exact ⟨b, hb, hm, by rw [rw_of h1]; simpa [startB, mvB_rw] using hr⟩
  refine ⟨⟨fun i x hx => ?_, fun i j x x' hx hx' hr hl hxx => ?_⟩, pt, hrw⟩
  · obtain ⟨b, wr, hb, hm⟩ := hcan i x hx
    obtain ⟨o, h1, h2, h3, _⟩ := hblk i b wr hb
    refine ⟨_, h3, ?_⟩
    obtain ⟨o', ho', hbr⟩ := s.dom b x hm
    rw [h1] at ho'; cases ho'
    have h2' : okBlk o = true := by
      cases o with
      | cells ty cs ro => exact (Bool.and_eq_true_iff.1 h2).1
      | map => exact h2
      | dead => rfl
    have q := pt.blk hbr h2'
    cases wr with
    | true => exact q
    | false =>
      cases o with
      | cells ty cs ro =>
        obtain ⟨cc, fr, g1, g2, g3, g4, g5⟩ := q
        refine ⟨cc, fr, g1, g2, g3, g4, (fun hr => by cases hr), fun _ hkb => ?_⟩
        have hk' := keysBox_map mv2_map hkb
        obtain ⟨_, k2⟩ := Bool.and_eq_true_iff.1 h2
        rw [hk'] at k2
        have hr : ro = true := by simpa using k2
        exact g5.2 hr hkb
      | map es cl ro => exact q
      | dead => trivial
  · obtain ⟨b, hb, hm, hrb⟩ := hrw i x hx hr
    obtain ⟨b', wr', hb', hm'⟩ := hcan j x' hx'
    obtain ⟨o', h1', _, h3', _⟩ := hblk j b' wr' hb'
    have hl' : live? (ovr hp h) b' = true := by
      rw [live_of h1']
      intro e; subst e
      rw [live_of h3'] at hl
      apply hl
      cases wr' <;> rfl
    have := s.inj b b' x x' hm hm' hrb hl' hxx
    subst this
    exact hK i j b true wr' hb hb'
theorem fn_ofM {w0 : World} {S : Nat → Prop} {z : Nat} {X : Pins} {f : FuncId} {fn : Func} {c : Code} {args : List Value} {args' : Array Value} {hp : Hp} {m : BM} {R : Value → St → Prop} (hf : P.funcs[f]? = some fn) (hb : fn.body = some c) (hn : args.length ≤ fn.ntmps) (hk : hp.ok)
    (s : Sim m hp.get w0) (h0 : ∀ i, i < z → ∀ x, X i = some x → m i = some x) (ro : ∀ b y, m b = some y → rw? hp.get b = true → S y.1) (r : VRelL m hp.get args args'.toList)
    (h : FRm P fn.ntmps ⟨w0, S⟩ z X c ⟨tmsOf args 0 .leaf, hp, []⟩ fun e st => (e = .normal ∨ e = .ret) ∧ st.df = [] ∧ ∃ v, retVal P fn st = some v ∧ R v st) :
    Calls P f args' w0 fun e w' => ∃ v' v st' m', e = .returned v' ∧ R v st' ∧ VRel m' st'.hp.get v v' ∧ Sim m' st'.hp.get w' ∧ Keeps ⟨w0, S⟩ w' ∧ (∀ b x, m' b = some x → rw? st'.hp.get b = true → w0.heap.size ≤ x.1 ∨ S x.1) ∧
      (∀ i, i < z → ∀ x, X i = some x → st'.hp.get i = some .dead ∨ m' i = some x) := by
  refine calls_of_wp hf hb (wp_mono (h _ w0 m ⟨⟨hk, ⟨by rw [ovr_hg0 hk]; exact s, by rw [ovr_hg0 hk]; exact args_rel r hn, .nil⟩, Keeps.refl _ _, fun b y hx hr => .inr (ro b y hx hr)⟩, fun i hi x hx => .inr (h0 i hi x hx)⟩) fun e a' w' hh => ?_)
  obtain ⟨st', m', f', q1, q2, v, q3, q4⟩ := hh
  have hd : a'.defers = [] := by
    have := f'.fr.rel.df
    rw [q2] at this
    exact this.of_nil
  obtain ⟨v', h1, h2⟩ := retVal_sound f'.fr.ok f'.fr.rel.sim f'.fr.rel.tm q3
  have e1 := ovr_hg0 f'.fr.ok
  have hs := f'.fr.rel.sim
  rw [e1] at h2 hs
  rcases q1 with rfl | rfl
  · exact ⟨hd, v', h1, v', v, st', m', rfl, q4, h2, hs, f'.fr.below, f'.fr.own, f'.pin⟩
  · exact ⟨hd, v', h1, v', v, st', m', rfl, q4, h2, hs, f'.fr.below, f'.fr.own, f'.pin⟩
structure EndM (K0 : Ks) (K : Kw) (B : Nat) (O Nw : List Blk) (v v0 : Value) (h g : HG) : Prop where
  val : v = mv3 (sgE K0 K B) v0
  wr : ∀ (i b : Nat), K0[i]? = some (some (b, true)) → ∃ o, h i = some o ∧ okBlk o = true ∧ O[i]? = some (mvB (sgE K0 K B) o)
  ro : ∀ (i b : Nat), K0[i]? = some (some (b, false)) → h i = some .dead → g b = some .dead
  nw : ∀ (j c : Nat), K[j]? = some (some c) → ∃ o, h c = some o ∧ okBlk o = true ∧ rwB o = true ∧ Nw[j]? = some (mvB (sgE K0 K B) o)
set_option maxHeartbeats 4000000 in
theorem join_mem {m m' : BM} {hp hpR : Hp} {h : HG} {w w' : World} {K0 : Ks} {K : Kw} {O Nw : List Blk} {v v0 v' : Value} (hk : hp.ok) (s : Sim m (ovr hp h) w) (hsim : Sim m' hpR.get w') (hK0 : nodupO K0) (inj : nodupN K) (hge : ∀ c, some c ∈ K → K0.length ≤ c)
    (hlive0 : ∀ (i b : Nat) (wr : Bool), K0[i]? = some (some (b, wr)) → ∃ o, hp.get b = some o ∧ (o = .dead ∧ wr = false ∨ o ≠ .dead ∧ ∃ x, m b = some x)) (hNw : Nw.length = K.length)
    (kp : Keeps ⟨w, fun r => ∃ (i b : Nat) (x : Nat × Nat × Nat), K0[i]? = some (some (b, true)) ∧ m b = some x ∧ rw? (ovr hp h) b = true ∧ x.1 = r⟩ w')
    (own : ∀ b x, m' b = some x → rw? hpR.get b = true → w.heap.size ≤ x.1 ∨ ∃ (i b : Nat) (x' : Nat × Nat × Nat), K0[i]? = some (some (b, true)) ∧ m b = some x' ∧ rw? (ovr hp h) b = true ∧ x'.1 = x.1)
    (pin : ∀ i, i < K0.length → ∀ x, canO m K0 i = some x → hpR.get i = some .dead ∨ m' i = some x) (hfr : ∀ b, hp.sz ≤ b → b ≤ hp.sz + K.length → h b = none)
    (E : EndM K0 K hp.sz O Nw v v0 hpR.get hp.get) (rv : VRel m' hpR.get v0 v') (hok1 : ok3 v0 = true) :
    Go1 m (ovr hp h) w (joinN m m' K hp.sz) (ovr (heapOf (Nw ++ [.dead]) (putO K0 O hp)) h) w' ∧ VRel (joinN m m' K hp.sz) (ovr (heapOf (Nw ++ [.dead]) (putO K0 O hp)) h) v v' := by
  have hsz' : (heapOf (Nw ++ [.dead]) (putO K0 O hp)).sz = hp.sz + (K.length + 1) := by rw [heapOf_sz, putO_sz]; simp [hNw]
  have hov : ∀ b, ovr (heapOf (Nw ++ [.dead]) (putO K0 O hp)) h b = if hp.sz ≤ b ∧ b ≤ hp.sz + K.length then (Nw ++ [Blk.dead])[b - hp.sz]? else if b < hp.sz then (putO K0 O hp).get b else h b := by
    intro b
    unfold ovr
    rw [hsz', heapOf_get, putO_sz]
    by_cases h1 : b < hp.sz
    · rw [if_pos (by omega), if_pos h1, if_neg (by omega), if_pos h1]
    · by_cases h2 : b ≤ hp.sz + K.length
      · rw [if_pos (by omega), if_neg h1, if_pos ⟨by omega, h2⟩]
        have : b - hp.sz < (Nw ++ [Blk.dead]).length := by simp [hNw]; omega
        rw [List.getElem?_eq_getElem this]
      · rw [if_neg (by omega), if_neg (by omega), if_neg h1]
  have hnone : ∀ b, hp.sz ≤ b → b ≤ hp.sz + K.length → ovr hp h b = none := by
    intro b h1 h2
    unfold ovr
    rw [if_neg (by omega)]
    exact hfr b h1 h2
  have hmn : ∀ b, hp.sz ≤ b → b ≤ hp.sz + K.length → m b = none := by
    intro b h1 h2
    cases e : m b with
    | none => rfl
    | some x => obtain ⟨o, ho, _⟩ := s.dom b x e; rw [hnone b h1 h2] at ho; cases ho
  have hlive : ∀ (i b : Nat), K0[i]? = some (some (b, true)) → (∃ o, hp.get b = some o ∧ o ≠ .dead) ∧ ∃ x, m b = some x := by
    intro i b hi
    obtain ⟨o, ho, h | h⟩ := hlive0 i b true hi
    · cases h.2
    · exact ⟨⟨o, ho, h.1⟩, h.2⟩
  have hlt : ∀ (i b : Nat) (wr : Bool), K0[i]? = some (some (b, wr)) → b < hp.sz := by
    intro i b wr hi
    obtain ⟨o, ho, _⟩ := hlive0 i b wr hi
    exact lt_of_get hk ho
  have hj : ∀ b, joinN m m' K hp.sz b = if hp.sz ≤ b ∧ b ≤ hp.sz + K.length then (match K[b - hp.sz]? with | some (some c) => m' c | _ => none) else m b := fun _ => rfl
  have hD : ovr (heapOf (Nw ++ [.dead]) (putO K0 O hp)) h (hp.sz + K.length) = some .dead := by
    rw [hov, if_pos (by omega), show hp.sz + K.length - hp.sz = Nw.length by omega]; simp
  have hold : ∀ b, b < hp.sz → joinN m m' K hp.sz b = m b := fun b hb => by rw [hj, if_neg (by omega)]
  -- three kinds of numbers
  have hnew : ∀ (j c : Nat), K[j]? = some (some c) → ∃ o, hpR.get c = some o ∧ okBlk o = true ∧ rwB o = true ∧ ovr (heapOf (Nw ++ [.dead]) (putO K0 O hp)) h (hp.sz + j) = some (mvB (sgE K0 K hp.sz) o) ∧ joinN m m' K hp.sz (hp.sz + j) = m' c := by
    intro j c hc
    have hjl : j < K.length := (List.getElem?_eq_some_iff.1 hc).1
    obtain ⟨o, h1, h2, h3, h4⟩ := E.nw j c hc
    refine ⟨o, h1, h2, h3, ?_, ?_⟩
    · rw [hov, if_pos (by omega), show hp.sz + j - hp.sz = j by omega, List.getElem?_append_left (by omega), h4]
    · rw [hj, if_pos (by omega), show hp.sz + j - hp.sz = j by omega, hc]
  have hhit : ∀ (i b : Nat), K0[i]? = some (some (b, true)) → ∃ o, hpR.get i = some o ∧ okBlk o = true ∧ ovr (heapOf (Nw ++ [.dead]) (putO K0 O hp)) h b = some (mvB (sgE K0 K hp.sz) o) := by
    intro i b hi
    obtain ⟨o, h1, h2, h3⟩ := E.wr i b hi
    have := hlt i b true hi
    exact ⟨o, h1, h2, by rw [hov, if_neg (by omega), if_pos this, putO_hit hK0 hi h3]⟩
  have hmiss : ∀ b, ¬ (hp.sz ≤ b ∧ b ≤ hp.sz + K.length) → (∀ i : Nat, K0[i]? ≠ some (some (b, true))) → ovr (heapOf (Nw ++ [.dead]) (putO K0 O hp)) h b = ovr hp h b := by
    intro b h1 h2
    rw [hov, if_neg h1]
    unfold ovr
    split
    · rw [putO_miss h2]
    · rfl
  have hcan : ∀ (i b : Nat) (wr : Bool), K0[i]? = some (some (b, wr)) → canO m K0 i = m b := fun i b wr hi => by unfold canO; rw [hi]
  have hpin : ∀ (i b : Nat) (wr : Bool), K0[i]? = some (some (b, wr)) → (∃ x, m b = some x) → hpR.get i = some .dead ∨ m' i = m b := by
    rintro i b wr hi ⟨x, hx⟩
    rcases pin i (List.getElem?_eq_some_iff.1 hi).1 x (by rw [hcan i b wr hi, hx]) with h | h
    · exact .inl h
    · exact .inr (by rw [h, hx])
  have pt : PS m' hpR.get (joinN m m' K hp.sz) (ovr (heapOf (Nw ++ [.dead]) (putO K0 O hp)) h) (sgE K0 K hp.sz) := by
    intro c Q hq
    unfold sgE
    split
    · rename_i b wr hc
      have hb := hlt c b wr hc
      cases wr with
      | true =>
        obtain ⟨o, h1, _, h3⟩ := hhit c b hc
        rcases hq with hq | hq
        · rw [hq] at h1; cases h1; exact .inl h3
        · rcases hpin c b true hc (hlive c b hc).2 with h | h
          · rw [h] at h1; cases h1; exact .inl h3
          · exact .inr ⟨hq, by rw [hold b hb, h]⟩
      | false =>
        obtain ⟨o, ho, hd⟩ := hlive0 c b false hc
        have hG : ovr (heapOf (Nw ++ [.dead]) (putO K0 O hp)) h b = some o := by
          rw [hmiss b (by omega) fun i hi => by have := hK0 i c b true false hi hc; subst this; rw [hi] at hc; cases hc]
          exact ovr_sub hk h b o ho
        have hdd : hpR.get c = some .dead → ovr (heapOf (Nw ++ [.dead]) (putO K0 O hp)) h b = some .dead := fun h => by
          have := E.ro c b hc h
          rw [ho] at this; cases this
          exact hG
        rcases hd with ⟨rfl, _⟩ | ⟨_, hx⟩
        · exact .inl hG
        · rcases hq with hq | hq
          · exact .inl (hdd hq)
          · rcases hpin c b false hc hx with h | h
            · exact .inl (hdd h)
            · exact .inr ⟨hq, by rw [hold b hb, h]⟩
    · exact .inl hD
    · cases hi : posN c K 0 with
      | none => exact .inl hD
      | some j =>
        obtain ⟨k, rfl, hk⟩ := posN_some hi
        simp only [Nat.zero_add, Option.getD_some]
        obtain ⟨o, h1, _, _, h2, h3⟩ := hnew k c hk
        rcases hq with hq | hq
        · rw [hq] at h1; cases h1; exact .inl h2
        · exact .inr ⟨hq, h3⟩
  have hwmiss : ∀ b x, m b = some x → live? (ovr hp h) b = true → (∀ i : Nat, K0[i]? ≠ some (some (b, true))) → ¬ ∃ (i b2 : Nat) (x2 : Nat × Nat × Nat), K0[i]? = some (some (b2, true)) ∧ m b2 = some x2 ∧ rw? (ovr hp h) b2 = true ∧ x2.1 = x.1 := by
    rintro b x hx hl hm ⟨i, b2, x2, q1, q2, q3, q4⟩
    have := s.inj b2 b x2 x q2 hx q3 hl q4
    subst this
    exact hm i q1
  have hle : Le m (ovr hp h) (joinN m m' K hp.sz) (ovr (heapOf (Nw ++ [.dead]) (putO K0 O hp)) h) := by
    constructor
    · intro b hb
      by_cases hr : hp.sz ≤ b ∧ b ≤ hp.sz + K.length
      · rw [hnone b hr.1 hr.2] at hb; cases hb
      · rw [hmiss b hr fun i hi => ?_]
        · exact hb
        · obtain ⟨⟨o, ho, hne⟩, _⟩ := hlive i b hi
          rw [ovr_sub hk h b o ho] at hb
          cases hb; exact hne rfl
    · intro b y hb
      refine .inr ?_
      rw [hj]
      split
      · rename_i hc; rw [hmn b hc.1 hc.2] at hb; cases hb
      · exact hb
  refine ⟨⟨hle, ⟨?_, ?_⟩, kp.size, ?_, fun k hk' hn => kp.block k hk' (fun ⟨i, b, x, q1, q2, q3, q4⟩ => hn b x q2 q3 q4), ?_, ?_, ?_, ?_, kp.os, kp.tape, kp.output⟩, by rw [E.val]; exact pt.three rv hok1⟩
  · -- the blocks
    intro b x hx
    rw [hj] at hx
    split at hx
    · rename_i hc
      split at hx
      · rename_i c hcK
        obtain ⟨o, h1, h2, _, h3, _⟩ := hnew _ c hcK
        rw [show hp.sz + (b - hp.sz) = b by omega] at h3
        obtain ⟨o', ho', hbr⟩ := hsim.dom c x hx
        rw [h1] at ho'; cases ho'
        exact ⟨_, h3, pt.blk hbr h2⟩
      · cases hx
    · rename_i hc
      by_cases hh : ∃ i : Nat, K0[i]? = some (some (b, true))
      · obtain ⟨i, hi⟩ := hh
        obtain ⟨o, h1, h2, h3⟩ := hhit i b hi
        refine ⟨_, h3, ?_⟩
        rcases hpin i b true hi (hlive i b hi).2 with h | h
        · rw [h] at h1; cases h1; trivial
        · obtain ⟨o', ho', hbr⟩ := hsim.dom i x (by rw [h, hx])
          rw [h1] at ho'; cases ho'
          exact pt.blk hbr h2
      · have hm : ∀ i : Nat, K0[i]? ≠ some (some (b, true)) := fun i hi => hh ⟨i, hi⟩
        obtain ⟨o, ho, hbr⟩ := s.dom b x hx
        refine ⟨o, by rw [hmiss b hc hm]; exact ho, ?_⟩
        by_cases hd : o = .dead
        · subst hd; trivial
        · have hl := (live_of ho).2 hd
          refine hbr.mono hle (kp.block _ (s.lt hx hl) ?_)
          rintro ⟨i, b2, x2, q⟩
          exact hwmiss b x hx hl hm ⟨i, b2, x2, q⟩
  · -- one block, one number
    intro b b' x x' hx hx' hr hl hxx
    -- what is known of a number: in the callee's, or in the caller's alone
    have kind : ∀ b x, joinN m m' K hp.sz b = some x → live? (ovr (heapOf (Nw ++ [.dead]) (putO K0 O hp)) h) b = true →
        (∃ c o, hpR.get c = some o ∧ o ≠ .dead ∧ m' c = some x ∧ rw? (ovr (heapOf (Nw ++ [.dead]) (putO K0 O hp)) h) b = rwB o ∧ ((∃ j : Nat, K[j]? = some (some c) ∧ b = hp.sz + j ∧ rwB o = true) ∨ (K0[c]? = some (some (b, true)) ∧ m b = some x))) ∨
        ((∀ i : Nat, K0[i]? ≠ some (some (b, true))) ∧ m b = some x ∧ live? (ovr hp h) b = true ∧ rw? (ovr (heapOf (Nw ++ [.dead]) (putO K0 O hp)) h) b = rw? (ovr hp h) b) := by
      intro b x hx hl
      have hx0 := hx
      rw [hj] at hx
      split at hx
      · rename_i hc
        split at hx
        case h_2 => cases hx
        rename_i c hcK
        obtain ⟨o, h1, h2, h2', h3, _⟩ := hnew _ c hcK
        rw [show hp.sz + (b - hp.sz) = b by omega] at h3
        refine .inl ⟨c, o, h1, fun e => ?_, hx, by rw [rw_of h3, mvB_rw], .inl ⟨_, hcK, by omega, h2'⟩⟩
        subst e; cases h2'
      · rename_i hc
        by_cases hh : ∃ i : Nat, K0[i]? = some (some (b, true))
        · obtain ⟨i, hi⟩ := hh
          obtain ⟨o, h1, h2, h3⟩ := hhit i b hi
          have hne : o ≠ .dead := fun e => by
            subst e
            exact ((live_of h3).1 hl) rfl
          refine .inl ⟨i, o, h1, hne, ?_, by rw [rw_of h3, mvB_rw], .inr ⟨hi, hx⟩⟩
          rcases hpin i b true hi (hlive i b hi).2 with h | h
          · rw [h] at h1; cases h1; exact absurd rfl hne
          · rw [h, hx]
        · have hm : ∀ i : Nat, K0[i]? ≠ some (some (b, true)) := fun i hi => hh ⟨i, hi⟩
          have e := hmiss b hc hm
          refine .inr ⟨hm, hx, ?_, ?_⟩
          · unfold live? at hl ⊢; rw [e] at hl; exact hl
          · unfold rw?; rw [e]
    have hl0 : live? (ovr (heapOf (Nw ++ [.dead]) (putO K0 O hp)) h) b = true := live_of_rw hr
    rcases kind b x hx hl0 with ⟨c, o, h1, h2, h3, h4, h5⟩ | ⟨k1, k2, k3, k4⟩
    · rw [h4] at hr
      have hrc : rw? hpR.get c = true := by rw [rw_of h1]; exact hr
      rcases kind b' x' hx' hl with ⟨c', o', h1', h2', h3', h4', h5'⟩ | ⟨k1', k2', k3', k4'⟩
      · have := hsim.inj c c' x x' h3 h3' hrc ((live_of h1').2 h2') hxx
        subst this
        rcases h5 with ⟨j, hj1, rfl, _⟩ | ⟨hi, _⟩
        · rcases h5' with ⟨j', hj1', rfl, _⟩ | ⟨hi', _⟩
          · rw [inj _ _ _ hj1 hj1']
          · have := hge c (List.mem_of_getElem? hj1)
            have := (List.getElem?_eq_some_iff.1 hi').1
            omega
        · rcases h5' with ⟨j', hj1', rfl, _⟩ | ⟨hi', _⟩
          · have := hge c (List.mem_of_getElem? hj1')
            have := (List.getElem?_eq_some_iff.1 hi).1
            omega
          · rw [hi] at hi'
            simp only [Option.some.injEq, Prod.mk.injEq] at hi'
            exact hi'.1
      · rcases own c x h3 hrc with q | q
        · have := s.lt k2' k3'; omega
        · rw [hxx] at q
          exact absurd q (hwmiss b' x' k2' k3' k1')
    · rw [k4] at hr
      rcases kind b' x' hx' hl with ⟨c', o', h1', h2', h3', h4', h5'⟩ | ⟨k1', k2', k3', k4'⟩
      · rcases h5' with ⟨j', hj1', rfl, hrw'⟩ | ⟨hi', hm'⟩
        · rcases own c' x' h3' (by rw [rw_of h1']; exact hrw') with q | q
          · have := s.lt k2 k3; omega
          · rw [← hxx] at q
            exact absurd q (hwmiss b x k2 k3 k1)
        · obtain ⟨⟨ob, hob, hne⟩, _⟩ := hlive c' b' hi'
          have := s.inj b b' x x' k2 hm' hr ((live_of (ovr_sub hk h b' ob hob)).2 hne) hxx
          subst this
          exact absurd hi' (k1 c')
      · exact s.inj b b' x x' k2 k2' hr k3' hxx
  · intro b x hx
    rw [hj] at hx
    split at hx
    · split at hx
      · rename_i c hcK
        obtain ⟨o, h1, _, h2, _⟩ := hnew _ c hcK
        rcases own c x hx (by rw [rw_of h1]; exact h2) with q | ⟨i, b2, x2, q1, q2, q3, q4⟩
        · exact .inr (.inl q)
        · exact .inr (.inr ⟨b2, x2, q2, q3, q4⟩)
      · cases hx
    · exact .inl hx
  · intro b o ho hm
    rw [hj]
    split
    · rename_i hc; rw [hnone b hc.1 hc.2] at ho; cases ho
    · exact hm
  · intro b o ho hm
    by_cases hr : hp.sz ≤ b ∧ b ≤ hp.sz + K.length
    · rw [hnone b hr.1 hr.2] at ho; cases ho
    · rw [hmiss b hr fun i hi => ?_]
      · exact ho
      · obtain ⟨_, x, hx⟩ := hlive i b hi
        rw [hm] at hx; cases hx
  · intro b o ho
    by_cases hr : hp.sz ≤ b ∧ b ≤ hp.sz + K.length
    · rw [hnone b hr.1 hr.2] at ho; cases ho
    · by_cases hh : ∃ i : Nat, K0[i]? = some (some (b, true))
      · obtain ⟨i, hi⟩ := hh
        obtain ⟨o', _, _, h3⟩ := hhit i b hi
        exact ⟨_, h3⟩
      · exact ⟨o, by rw [hmiss b hr fun i hi => hh ⟨i, hi⟩]; exact ho⟩
  · intro b x hx hr
    obtain ⟨ob, hob, _⟩ := s.dom b x hx
    have hnr : ¬ (hp.sz ≤ b ∧ b ≤ hp.sz + K.length) := fun hc => by rw [hnone b hc.1 hc.2] at hob; cases hob
    by_cases hh : ∃ i : Nat, K0[i]? = some (some (b, true))
    · obtain ⟨i, hi⟩ := hh
      obtain ⟨o, h1, h2, h3⟩ := hhit i b hi
      rw [rw_of h3, mvB_rw] at hr
      obtain ⟨⟨o2, ho2, hne⟩, _⟩ := hlive i b hi
      have hl := (live_of (ovr_sub hk h b o2 ho2)).2 hne
      rcases hpin i b true hi (hlive i b hi).2 with q | q
      · rw [q] at h1; cases h1; cases hr
      · rcases own i x (by rw [q, hx]) (by rw [rw_of h1]; exact hr) with q | ⟨i2, b2, x2, q1, q2, q3, q4⟩
        · have := s.lt hx hl; omega
        · have := s.inj b2 b x2 x q2 hx q3 hl q4
          subst this
          exact q3
    · have e := hmiss b hnr fun i hi => hh ⟨i, hi⟩
      unfold rw? at hr ⊢
      rw [e] at hr; exact hr
theorem mem_goal (hm : P.follows .mixedOrders = true) {f : FuncId} {fn : Func} {c : Code} {g : HeapFn} (hf : P.funcs[f]? = some fn) (hb : fn.body = some c) (hnm : (fn.name == "runtime.NumGoroutine") = false)
    (H : ∀ args hp v hp', g args hp = some (v, hp') → hp.ok → ∃ (K0 : Ks) (O Nw : List Blk), hp' = heapOf (Nw ++ [.dead]) (putO K0 O hp) ∧ nodupO K0 ∧
      (∀ (i b : Nat) (wr : Bool), K0[i]? = some (some (b, wr)) → (∃ o, hp.get b = some o ∧ (wr = true → o ≠ .dead) ∧ startOk o = true) ∧ Rch args hp b) ∧ args.all ok3 = true ∧ args.length ≤ fn.ntmps ∧
      ∀ W X, FRm P fn.ntmps W K0.length X c ⟨tmsOf (args.map (mv3 (sg0 K0))) 0 .leaf, pinHp K0 hp, []⟩ fun e st => (e = .normal ∨ e = .ret) ∧ st.df = [] ∧ ∃ v0 K, retVal P fn st = some v0 ∧ ok3 v0 = true ∧ Nw.length = K.length ∧ nodupN K ∧ (∀ c, some c ∈ K → K0.length ≤ c) ∧ EndM K0 K hp.sz O Nw v v0 st.hp.get hp.get) : CallGoal P f g := by
  intro args hp v hp' he hk
  obtain ⟨K0, O, Nw, rfl, hK0, hst, hargs, hn, hrun⟩ := H args hp v hp' he hk
  have hpo : (putO K0 O hp).ok := putO_ok hk fun i b hi => by
    obtain ⟨⟨o, ho, _⟩, _⟩ := hst i b true hi
    exact lt_of_get hk ho
  refine ⟨heapOf_ok _ _ hpo, by rw [heapOf_sz, putO_sz]; omega, fun m h w args' hfr s ra => .inr ⟨run_callFunc hf (by rw [hb]; rfl) hnm, ?_⟩⟩
  obtain ⟨s0, pt, hrw⟩ := pin_sim s hk hK0 (fun i b wr hi => by
    obtain ⟨⟨o, h1, _, h2⟩, _⟩ := hst i b wr hi
    exact ⟨o, h1, h2⟩)
  refine (fn_ofM (S := fun r => ∃ (i b : Nat) (x : Nat × Nat × Nat), K0[i]? = some (some (b, true)) ∧ m b = some x ∧ rw? (ovr hp h) b = true ∧ x.1 = r) (X := canO m K0) (z := K0.length) (R := fun v0 st => ∃ K, ok3 v0 = true ∧ Nw.length = K.length ∧ nodupN K ∧ (∀ c, some c ∈ K → K0.length ≤ c) ∧ EndM K0 K hp.sz O Nw v v0 st.hp.get hp.get) hf hb (by simpa using hn) (heapOf_ok _ _ hp0_ok) s0 (fun i _ x hx => hx) (fun i y hy hr => by
      obtain ⟨b, q1, q2, q3⟩ := hrw i y hy hr
      exact ⟨i, b, y, q1, q2, q3, rfl⟩) (pt.threes ra hargs) (FRm.mono (hrun _ _) fun e st q => by
      obtain ⟨q1, q2, v0, K, q3, q4, q5⟩ := q
      exact ⟨q1, q2, v0, q3, K, q4, q5⟩)).mono fun e w' hh => ?_
  obtain ⟨v', v0, st', m', rfl, ⟨K, q4, hNw, hK, hge, q5⟩, rv, hs', hkp, hown, hpin⟩ := hh
  have hj := join_mem hk s hs' hK0 hK hge (fun i b wr hi => by
      obtain ⟨⟨o, ho, hne, _⟩, hr⟩ := hst i b wr hi
      refine ⟨o, ho, ?_⟩
      by_cases hd : o = .dead
      · cases wr with
        | true => exact absurd hd (hne rfl)
        | false => exact .inl ⟨hd, rfl⟩
      · refine .inr ⟨hd, ?_⟩
        rcases hr.has hk s ra with q | q
        · rw [ovr_sub hk h b o ho] at q; cases q; exact absurd rfl hd
        · exact q) hNw hkp hown hpin (fun b h1 h2 => hfr b h1 (by rw [heapOf_sz, putO_sz]; simp [hNw]; omega)) q5 rv q4
  exact ⟨v', rfl, _, hj.1, hj.2⟩
end
end Go.Proofs.Ytgeoommlmddgpaa.AI
namespace Go.Proofs.Ytgeoommlmddgpaa.AI
open Go Go.Proofs Go.RowKit
def blksOf (hp : Hp) : List Nat → Option (List Blk)
  | [] => some []
  | b :: bs => match hp.get b, blksOf hp bs with
    | some o, some os => some (o :: os)
    | _, _ => none
theorem blksOf_get {hp : Hp} : ∀ {K : List Nat} {O : List Blk}, blksOf hp K = some O → O.length = K.length ∧ ∀ (j c : Nat), K[j]? = some c → ∃ o, hp.get c = some o ∧ O[j]? = some o
  | [], O, h => by cases h; exact ⟨rfl, fun j c hc => by simp at hc⟩
  | b :: bs, O, h => by
    unfold blksOf at h
    split at h
    · rename_i o os h1 h2
      cases h
      obtain ⟨q1, q2⟩ := blksOf_get h2
      refine ⟨by simp [q1], fun j c hc => ?_⟩
      cases j with
      | zero =>
        have : b = c := by simpa using hc
        subst this
        exact ⟨o, h1, rfl⟩
      | succ j => simpa using q2 j c (by simpa using hc)
    · cases h
def leafF (P : Program) (fn : Func) (Q : Value → List Blk → List Nat → List Blk → Prop) (e : Exit) (st : St) (p : Plan) (k : Nat) : Prop :=
  match p with
  | .stop z K _ => match (match e with | .normal => true | .ret => true | _ => false) && st.df.isEmpty, retVal P fn st, blksOf st.hp (List.range z), blksOf st.hp K with
    | true, some v, some O, some Nw => Q v O K Nw
    | _, _, _, _ => False
  | _ => False
def RF (P : Program) (ext : Ext) (fn : Func) (d : Nat) (c : Code) (st : St) (p : Plan) (Q : Value → List Blk → List Nat → List Blk → Prop) : Prop := execT P (aCall P ext d) (callT P ext d) d c st p 0 (leafF P fn Q)
def FinF (P : Program) (fn : Func) (Q : Value → List Blk → List Nat → List Blk → Prop) (e : Exit) (st : St) : Prop :=
  (e = .normal ∨ e = .ret) ∧ st.df = [] ∧ ∃ v z O K Nw, retVal P fn st = some v ∧ blksOf st.hp (List.range z) = some O ∧ blksOf st.hp K = some Nw ∧ Q v O K Nw
section
variable {P : Program} {N z : Nat} {W : Base} {X : Pins}
theorem leafF_ok {fn : Func} {Q : Value → List Blk → List Nat → List Blk → Prop} {e : Exit} {st : St} {p : Plan} {k : Nat} (h : leafF P fn Q e st p k) : FinF P fn Q e st := by
  unfold leafF at h
  split at h
  · rename_i z K _
    split at h
    · rename_i v O Nw h1 h2 h3 h4
      obtain ⟨h1, h5⟩ := Bool.and_eq_true_iff.1 h1
      refine ⟨?_, List.isEmpty_iff.1 h5, v, z, O, K, Nw, h2, h3, h4, h⟩
      cases e <;> first | exact .inl rfl | exact .inr rfl | cases h1
    · exact h.elim
  · exact h.elim
theorem FRm.pieceF {ext : Ext} (hx : ExtOk P ext) (hm : P.follows .mixedOrders = true) {fn : Func} {d : Nat} {c : Code} {st : St} {p : Plan} {Q : Value → List Blk → List Nat → List Blk → Prop} (hs : codeSafe P N c = true) {Y : Prop} (e : Y = RF P ext fn d c st p Q) (h : Y) : FRm P N W z X c st (FinF P fn Q) := by
  rw [e] at h
  obtain ⟨e, st', p', k', q1, q2⟩ := execT_ok (callT_ok ext d) h
  exact FRm.run (aCall_sound hx hm d) hm q1 hs (leafF_ok q2)
theorem FRwp.pieceF {ext : Ext} (hx : ExtOk P ext) (hm : P.follows .mixedOrders = true) {fn : Func} {d : Nat} {c : Code} {st : St} {p : Plan} {Q : Value → List Blk → List Nat → List Blk → Prop} (hs : codeSafe P N c = true) {Y : Prop} (e : Y = RF P ext fn d c st p Q) (h : Y) : FRwp P N W c st (FinF P fn Q) :=
  FRm.to0 fun X => FRm.pieceF hx hm hs e h
end
def placed (Nw : List Blk) (K : List Nat) : List (Option Nat) → Option (List Blk × Kw)
  | [] => some ([], [])
  | none :: r => (placed Nw K r).map fun q => (.dead :: q.1, none :: q.2)
  | some i :: r => match Nw[i]?, K[i]?, placed Nw K r with
    | some o, some c, some q => some (o :: q.1, some c :: q.2)
    | _, _, _ => none
theorem placed_get {Nw : List Blk} {K : List Nat} {get : Nat → Option Blk} (hg : ∀ (j c : Nat), K[j]? = some c → ∃ o, get c = some o ∧ Nw[j]? = some o) : ∀ {r : List (Option Nat)} {q : List Blk × Kw}, placed Nw K r = some q → q.1.length = q.2.length ∧ r.length = q.2.length ∧
    ∀ (j c : Nat), q.2[j]? = some (some c) → ∃ i o, r[j]? = some (some i) ∧ K[i]? = some c ∧ get c = some o ∧ q.1[j]? = some o ∧ o ∈ Nw
  | [], q, h => by cases h; exact ⟨rfl, rfl, fun j c hc => by simp at hc⟩
  | none :: r, q, h => by
    obtain ⟨q', h1, rfl⟩ := Option.map_eq_some_iff.1 h
    obtain ⟨k1, k2, k3⟩ := placed_get hg h1
    refine ⟨by simp [k1], by simp [k2], fun j c hc => ?_⟩
    cases j with
    | zero => simp at hc
    | succ j =>
      obtain ⟨i, o, p⟩ := k3 j c (by simpa using hc)
      exact ⟨i, o, by simpa using p⟩
  | some i :: r, q, h => by
    unfold placed at h
    split at h
    · rename_i o c q' h1 h2 h3
      cases h
      obtain ⟨k1, k2, k3⟩ := placed_get hg h3
      refine ⟨by simp [k1], by simp [k2], fun j c' hc => ?_⟩
      cases j with
      | zero =>
        have e : c = c' := by simpa using hc
        subst e
        obtain ⟨o', p1, p2⟩ := hg i c h2
        rw [h1] at p2; cases p2
        exact ⟨i, o, by simp, h2, p1, by simp, List.mem_of_getElem? h1⟩
      | succ j =>
        obtain ⟨i, o, p⟩ := k3 j c' (by simpa using hc)
        exact ⟨i, o, by simpa using p⟩
    · cases h
def nodupP : List (Option Nat) → Bool
  | [] => true
  | none :: r => nodupP r
  | some i :: r => (r.all fun x => match x with | some j => !Nat.beq i j | none => true) && nodupP r
theorem nodupP_ok : ∀ {r : List (Option Nat)}, nodupP r = true → nodupN r
  | [], _ => fun i j c h => by simp at h
  | none :: r, h => fun i j c h1 h2 => by
    cases i with
    | zero => simp at h1
    | succ i => cases j with
      | zero => simp at h2
      | succ j => rw [nodupP_ok (r := r) h i j c (by simpa using h1) (by simpa using h2)]
  | some a :: r, h => fun i j c h1 h2 => by
    unfold nodupP at h
    obtain ⟨q1, q2⟩ := Bool.and_eq_true_iff.1 h
    have ne : ∀ k, r[k]? = some (some a) → False := fun k hk => by
      have := List.all_eq_true.1 q1 _ (List.mem_of_getElem? hk)
      simp [Nat.beq_refl] at this
    cases i with
    | zero =>
      cases j with
      | zero => rfl
      | succ j =>
        have e : a = c := by simpa using h1
        subst e
        exact (ne j (by simpa using h2)).elim
    | succ i => cases j with
      | zero =>
        have e : a = c := by simpa using h2
        subst e
        exact (ne i (by simpa using h1)).elim
      | succ j => rw [nodupP_ok q2 i j c (by simpa using h1) (by simpa using h2)]
structure EndQ (K0 : Ks) (B : Nat) (O' Nw' : List Blk) (v' : Value) (g : HG) (v : Value) (O : List Blk) (K : List Nat) (Nw : List Blk) : Prop where
  okv : ok3 v = true
  oko : O.all okBlk = true
  okn : (Nw.all fun o => okBlk o && rwB o) = true
  nd : (nodupB K && K.all fun c => Nat.ble K0.length c) = true
  len : O.length = K0.length
  plc : ∃ r Nq Kq, nodupP r = true ∧ placed Nw K r = some (Nq, Kq) ∧ v' = mv3 (sgE K0 Kq B) v ∧ (∀ (i b : Nat), K0[i]? = some (some (b, true)) → O'[i]? = (O[i]?).map (mvB (sgE K0 Kq B))) ∧ Nw' = Nq.map (mvB (sgE K0 Kq B))
  ro : ∀ (i b : Nat), K0[i]? = some (some (b, false)) → O[i]? = some .dead → g b = some .dead
theorem EndQ.fin {P : Program} {fn : Func} {K0 : Ks} {B : Nat} {O Nw : List Blk} {v : Value} {g : HG} {e : Exit} {st : St} (h : FinF P fn (EndQ K0 B O Nw v g) e st) :
    (e = .normal ∨ e = .ret) ∧ st.df = [] ∧ ∃ v0 K, retVal P fn st = some v0 ∧ ok3 v0 = true ∧ Nw.length = K.length ∧ nodupN K ∧ (∀ c, some c ∈ K → K0.length ≤ c) ∧ EndM K0 K B O Nw v v0 st.hp.get g := by
  obtain ⟨h1, h2, v0, z, O0, K, N0, h3, h4, h5, q⟩ := h
  obtain ⟨l1, g1⟩ := blksOf_get h4
  obtain ⟨l2, g2⟩ := blksOf_get h5
  obtain ⟨n1, n2⟩ := Bool.and_eq_true_iff.1 q.nd
  obtain ⟨r, Nq, Kq, r1, r2, r3, r4, rfl⟩ := q.plc
  obtain ⟨p1, p2, p3⟩ := placed_get g2 r2
  simp only at p1 p2 p3
  have hz : z = K0.length := by have := q.len; simp at l1; omega
  subst hz
  refine ⟨h1, h2, v0, Kq, h3, q.okv, by simp [p1], fun i j c hi hj => ?_, fun c hc => ?_, ⟨r3, fun i b hi => ?_, fun i b hi hdd => ?_, fun j c hc => ?_⟩⟩
  · obtain ⟨a, oa, a1, a2, _⟩ := p3 i c hi
    obtain ⟨b, ob, b1, b2, _⟩ := p3 j c hj
    have := nodup_inj n1 a2 b2
    subst this
    exact nodupP_ok r1 i j a a1 b1
  · obtain ⟨j, hj⟩ := List.getElem?_of_mem hc
    obtain ⟨i, o, _, a2, _⟩ := p3 j c hj
    have := List.all_eq_true.1 n2 c (List.mem_of_getElem? a2)
    simpa [Nat.ble_eq] using this
  · have hlt : i < K0.length := (List.getElem?_eq_some_iff.1 hi).1
    obtain ⟨o, p1, p2⟩ := g1 i i (by simp [hlt])
    exact ⟨o, p1, List.all_eq_true.1 q.oko o (List.mem_of_getElem? p2), by rw [r4 i b hi, p2]; rfl⟩
  · have hlt : i < K0.length := (List.getElem?_eq_some_iff.1 hi).1
    obtain ⟨o, p1, p2⟩ := g1 i i (by simp [hlt])
    refine q.ro i b hi ?_
    rw [p1] at hdd
    rw [p2]; exact hdd
  · obtain ⟨i, o, _, _, a3, a4, a5⟩ := p3 j c hc
    have := List.all_eq_true.1 q.okn o a5
    obtain ⟨r1, r2⟩ := Bool.and_eq_true_iff.1 this
    exact ⟨o, a3, r1, r2, by rw [List.getElem?_map, a4]; rfl⟩
end Go.Proofs.Ytgeoommlmddgpaa.AI
namespace Go.Proofs.Ytgeoommlmddgpaa.AI
open Go Go.Proofs Go.RowKit
section
variable {P : Program} {N z : Nat} {W : Base} {X : Pins}
theorem FRm.cond_true {y : Operand} {c d : Code} {st : St} {Q : Exit → St → Prop} (hx : okConst y = true) (hv : st.eval y = .bool true) (h : FRm P N W z X c st Q) : FRm P N W z X (.cond y c d) st Q := fun a w m f => by
  refine wp_cond_true ?_ (h a w m f)
  have := f.fr.rel.tm.eval hx
  rw [hv] at this
  exact this.of_bool
theorem FRm.cond_false {y : Operand} {c d : Code} {st : St} {Q : Exit → St → Prop} (hx : okConst y = true) (hv : st.eval y = .bool false) (h : FRm P N W z X d st Q) : FRm P N W z X (.cond y c d) st Q := fun a w m f => by
  refine wp_cond_false ?_ (h a w m f)
  have := f.fr.rel.tm.eval hx
  rw [hv] at this
  exact this.of_bool
theorem FRm.scope {c : Code} {st : St} {Q : Exit → St → Prop} (h : FRm P N W z X c st fun e st' => (∀ l, e ≠ .goto l) ∧ Q e st') : FRm P N W z X (.scope c) st Q := fun a w m f => by
  refine wp_scope_straight (wp_mono (h a w m f) fun e a' w' hh => ?_)
  obtain ⟨st', m', f', q1, q⟩ := hh
  cases e with
  | goto l => exact absurd rfl (q1 l)
  | _ => exact ⟨st', m', f', q⟩
end
end Go.Proofs.Ytgeoommlmddgpaa.AI
namespace Go.Proofs.Ytgeoommlmddgpaa.LtL
open Go Go.Proofs Go.Proofs.Ytgeoommlmddgpaa.AI Go.RowKit Go.Proofs.Ytgeoommlmddgpaa.Sort Go.Proofs.Ytgeoommlmddgpaa.LtA
def Q1 (o : Blk) (v0 : Value) : Value → List Blk → List Nat → List Blk → Prop := fun v O K Nw => v = v0 ∧ O = [o] ∧ K = [] ∧ Nw = []
theorem Q1.of {o : Blk} {v v0 : Value} (h : v = v0) : Q1 o v0 v [o] [] [] := ⟨h, rfl, rfl, rfl⟩
def stayV (v : Value) : Prop := ok3 v = true ∧ ∀ s, mv3 s v = v
theorem stayV_int (k : IntKind) (z : Int) : stayV (.int k z) := ⟨rfl, fun _ => rfl⟩
theorem stayV_bool (b : Bool) : stayV (.bool b) := ⟨rfl, fun _ => rfl⟩
theorem stayV_h (y : ViewV) : stayV (hcA y) := ⟨rfl, fun _ => by simp [mv3, mv2, mv1, hcA]⟩
structure RunA (fn : Func) (code : Code) (N j : Nat) (vs : List ViewV) (rest : List Value) (v0 : Value) : Prop where
  okv : stayV v0
  flat : ∀ r ∈ rest, stayV r
  len : rest.length + 1 ≤ N
  run : ∀ f o c W X, inertB o = true → (vs = [] ∨ ∃ ty ro, o = .cells ty (vrow vs) ro) → (f = false → vs = [] ∧ o = .dead) →
    FRm Try.prog N W 1 X code ⟨tmsOf (rest.insertIdx j (vS f 0 vs.length c)) 0 .leaf, heapOf [o, .dead] hp0, []⟩ (FinF Try.prog fn (Q1 o v0))
open Classical in
noncomputable def toldA (j : Nat) (A : List ViewV → List Value → Option Value) : HeapFn := fun args hp => match args[j]? with
  | some s => if h : ∃ vs, TN vs s hp ∧ vs.length < 1000000 then (A h.choose (args.eraseIdx j)).map fun v => (v, heapOf [.dead] hp) else none
  | none => none
theorem mv3_map {rest : List Value} (h : ∀ r ∈ rest, stayV r) (s : Nat → Nat) : rest.map (mv3 s) = rest := by
  induction rest with
  | nil => rfl
  | cons r rest ih => rw [List.map_cons, (h r (.head _)).2, ih fun x hx => h x (.tail _ hx)]
theorem ins_erase {α : Type} {l : List α} {j : Nat} {s : α} (h : l[j]? = some s) : (l.eraseIdx j).insertIdx j s = l := by
  induction l generalizing j with
  | nil => simp at h
  | cons a l ih =>
    cases j with
    | zero => simp at h; subst h; simp
    | succ j => simp only [List.eraseIdx_cons_succ, List.insertIdx_succ_cons]; rw [ih (by simpa using h)]
theorem mem_erase {α : Type} {l : List α} {j : Nat} {s x : α} (h : l[j]? = some s) (hx : x ∈ l) : x = s ∨ x ∈ l.eraseIdx j := by
  have e := ins_erase h
  rw [← e] at hx
  have hj : j ≤ (l.eraseIdx j).length := by
    have := (List.getElem?_eq_some_iff.1 h).1
    rw [List.length_eraseIdx]; split <;> omega
  rcases (List.mem_insertIdx hj).1 hx with h | h
  · exact .inl h
  · exact .inr h
theorem map_ins {α β : Type} (f : α → β) (l : List α) (j : Nat) (s : α) : (l.insertIdx j s).map f = (l.map f).insertIdx j (f s) := by
  induction l generalizing j with
  | nil => cases j <;> simp
  | cons a l ih =>
    cases j with
    | zero => simp
    | succ j => simp [ih]
theorem mvB_inert {s : Nat → Nat} {o : Blk} (h : inertB o = true) : mvB s o = o := by
  cases o with
  | cells ty cs ro =>
    have h' : ∀ v ∈ cs, inert v = true := fun v hv => List.all_eq_true.1 h v hv
    show Blk.cells ty (cs.map (mv2 s)) ro = _
    have : cs.map (mv2 s) = cs.map id := List.map_congr_left fun v hv => by
      have := h' v hv
      cases v with
      | pointer a => cases a <;> first | rfl | cases this
      | slice a l c => cases a <;> first | rfl | cases this
      | map a => cases a <;> first | rfl | cases this
      | agg _ => cases this
      | func _ _ _ => cases this
      | _ => rfl
    rw [this]; simp
  | map => cases h
  | dead => rfl
theorem inert_live {vs : List ViewV} {o : Blk} (hi : inertB o = true) : okBlk o = true := by
  have := inert_start hi
  cases o with
  | cells ty cs ro => exact (Bool.and_eq_true_iff.1 this).1
  | map => exact this
  | dead => rfl
theorem toldA_goal {j : Nat} {A : List ViewV → List Value → Option Value} {f : FuncId} {fn : Func} {code : Code} {N : Nat} (hf : Try.prog.funcs[f]? = some fn) (hb : fn.body = some code) (hnm : (fn.name == "runtime.NumGoroutine") = false) (hN : fn.ntmps = N)
    (H : ∀ vs, vs.length < 1000000 → ∀ rest v0, A vs rest = some v0 → RunA fn code N j vs rest v0) : CallGoal Try.prog f (toldA j A) := mem_goal follows hf hb hnm fun args hp v hp' h hk => by
  rw [hN]
  unfold toldA at h
  split at h
  case h_2 => cases h
  rename_i s hs
  split at h
  case isFalse => cases h
  rename_i hx
  obtain ⟨hT, hn⟩ := hx.choose_spec
  generalize hx.choose = vs at *
  obtain ⟨v0, hA, h2⟩ := Option.map_eq_some_iff.1 h
  cases h2
  have R := H vs hn _ v hA
  have hlen : args.length ≤ N := by
    have := R.len
    have h1 := (List.getElem?_eq_some_iff.1 hs).1
    rw [List.length_eraseIdx, if_pos h1] at this; omega
  have key : ∀ (K0 : Ks) (f : Bool) (o : Blk) (c : Nat), K0.length = 1 → nodupO K0 → mv3 (sg0 K0) s = vS f 0 vs.length c → pinHp K0 hp = heapOf [o, .dead] hp0 → inertB o = true → (vs = [] ∨ ∃ ty ro, o = .cells ty (vrow vs) ro) → (f = false → vs = [] ∧ o = .dead) → ok3 s = true →
      (∀ (i b : Nat) (wr : Bool), K0[i]? = some (some (b, wr)) → (∃ o, hp.get b = some o ∧ (wr = true → o ≠ .dead) ∧ startOk o = true) ∧ Rch args hp b ∧ wr = false ∧ (o = .dead → hp.get b = some .dead)) →
      ∃ (K0 : Ks) (O Nw : List Blk), heapOf [.dead] hp = heapOf (Nw ++ [.dead]) (putO K0 O hp) ∧ nodupO K0 ∧
      (∀ (i b : Nat) (wr : Bool), K0[i]? = some (some (b, wr)) → (∃ o, hp.get b = some o ∧ (wr = true → o ≠ .dead) ∧ startOk o = true) ∧ Rch args hp b) ∧ args.all ok3 = true ∧ args.length ≤ N ∧
      ∀ W X, FRm Try.prog N W K0.length X code ⟨tmsOf (args.map (mv3 (sg0 K0))) 0 .leaf, pinHp K0 hp, []⟩ fun e st => (e = .normal ∨ e = .ret) ∧ st.df = [] ∧ ∃ v0 K, retVal Try.prog fn st = some v0 ∧ ok3 v0 = true ∧ Nw.length = K.length ∧ nodupN K ∧ (∀ c, some c ∈ K → K0.length ≤ c) ∧ EndM K0 K hp.sz O Nw v v0 st.hp.get hp.get := by
    intro K0 f o c hl1 hnd he hpn hi hr hfl hok hst
    refine ⟨K0, [o], [], ?_, hnd, fun i b wr hi => ⟨(hst i b wr hi).1, (hst i b wr hi).2.1⟩, ?_, hlen, fun W X => ?_⟩
    · have e : putO K0 [o] hp = hp := by
        match K0, hl1 with
        | [none], _ => rfl
        | [some (b, false)], _ => rfl
        | [some (b, true)], _ => exact absurd (hst 0 b true rfl).2.2.1 (by decide)
      rw [e]; rfl
    · refine List.all_eq_true.2 fun x hx => ?_
      rcases mem_erase hs hx with rfl | hx
      · exact hok
      · exact (R.flat x hx).1
    · have ea : args.map (mv3 (sg0 K0)) = (args.eraseIdx j).insertIdx j (vS f 0 vs.length c) := by
        conv => lhs; rw [← ins_erase hs]
        rw [map_ins, mv3_map R.flat, he]
      rw [ea, hpn, hl1]
      refine FRm.mono (R.run f o c W X hi hr hfl) fun e st q => ?_
      have := EndQ.fin (K0 := K0) (B := hp.sz) (O := [o]) (Nw := []) (v := v) (g := hp.get) (fn := fn) (P := Try.prog) (e := e) (st := st) (by
        obtain ⟨q1, q2, v1, z, O, K, Nw, q3, q4, q5, rfl, rfl, rfl, rfl⟩ := q
        refine ⟨q1, q2, _, z, _, _, _, q3, q4, q5, ?_⟩
        refine ⟨R.okv.1, by simp [inert_live (vs := vs) hi], rfl, rfl, by simp [hl1], ⟨[], [], [], rfl, rfl, (R.okv.2 _).symm, fun i b hi' => ?_, rfl⟩, fun i b hi' hdd => ?_⟩
        · exact absurd (hst i b true hi').2.2.1 (by decide)
        · have h0 : i = 0 := by have := (List.getElem?_eq_some_iff.1 hi').1; omega
          subst h0
          exact (hst 0 b false hi').2.2.2 (by simpa using hdd))
      rw [hl1] at this
      exact this
  rcases hT with ⟨rfl, rfl⟩ | ⟨b, c, ob, rfl, hb, hi, hr⟩
  · exact key [none] false .dead 0 rfl (fun i j b wr wr' h1 h2 => by cases i <;> simp at h1) rfl rfl rfl (.inl rfl) (fun _ => ⟨rfl, rfl⟩) rfl (fun i b wr h => by cases i <;> simp at h)
  · have e1 : sg0 [some (b, false)] b = 0 := by simp [sg0, posO, Nat.beq_refl]
    refine key [some (b, false)] true (roBlk ob) c rfl (fun i j b wr wr' h1 h2 => ?_) ?_ ?_ (ro_inert hi) (ro_row hr) (fun h => by cases h) rfl (fun i b' wr h => ?_)
    · have := (List.getElem?_eq_some_iff.1 h1).1
      have := (List.getElem?_eq_some_iff.1 h2).1
      simp at *; omega
    · show mv3 _ (rowS b vs.length c) = _
      simp [mv3, mv2, mv1, rowS, vS, e1]
    · unfold pinHp
      simp [pinB, hb, mvB_inert hi, startB]
    · have h0 : i = 0 := by have := (List.getElem?_eq_some_iff.1 h).1; simpa using this
      subst h0
      simp at h
      obtain ⟨rfl, rfl⟩ := h
      refine ⟨⟨ob, hb, (fun h => by cases h), inert_start hi⟩, .arg (List.mem_of_getElem? hs) (by simp [nam2, nam1, rowS]), rfl, ?_⟩
      intro h
      cases ob <;> first | exact hb | cases h
theorem toldA_of {j : Nat} {A : List ViewV → List Value → Option Value} {vs : List ViewV} {s : Value} {args : List Value} {hp : Hp} {v0 : Value} (hs : args[j]? = some s) (h : TN vs s hp) (hn : vs.length < 1000000) (hA : A vs (args.eraseIdx j) = some v0) :
    toldA j A args hp = some (v0, heapOf [.dead] hp) := by
  unfold toldA
  have hx : ∃ vs, TN vs s hp ∧ vs.length < 1000000 := ⟨vs, h, hn⟩
  simp only [hs]
  rw [dif_pos hx, hx.choose_spec.1.uniq h, hA]
  rfl
def Q0 (v0 : Value) : Value → List Blk → List Nat → List Blk → Prop := fun v O K Nw => v = v0 ∧ O = [] ∧ K = [] ∧ Nw = []
theorem Q0.of {v v0 : Value} (h : v = v0) : Q0 v0 v [] [] [] := ⟨h, rfl, rfl, rfl⟩
structure RunS (fn : Func) (code : Code) (N : Nat) (args : List Value) (v0 : Value) : Prop where
  okv : stayV v0
  flat : ∀ r ∈ args, stayV r
  len : args.length ≤ N
  run : ∀ W X, FRm Try.prog N W 0 X code ⟨tmsOf args 0 .leaf, heapOf [.dead] hp0, []⟩ (FinF Try.prog fn (Q0 v0))
end Go.Proofs.Ytgeoommlmddgpaa.LtL
