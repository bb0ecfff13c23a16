/- A run cut in pieces: between two pieces the blocks that are still in use are numbered anew, and the others forgotten. -/
import Derived.Test.YtjecepaaalfilaaAi27
set_option linter.unusedVariables false
set_option linter.unusedSimpArgs false
namespace Go.Proofs.Ytjecepaaalfilaa.AI
open Go Go.RowKit

/-- A value under other block numbers; a function's value too. -/
def ren2 (K : List Nat) : Value → Value
  | .func f a b => .func f (a.map (ren1 K)) (b.map (ren1 K))
  | v => ren K v
def nice1 : Value → Bool
  | .agg _ | .tuple _ | .func .. => false
  | _ => true
def nice2 : Value → Bool
  | .func (.func _) a b => a.toList.all nice1 && b.toList.all nice1
  | v => nice v
theorem keysBox_map {f : Value → Value} (hf : ∀ v b, f v = .map (some b) → ∃ c, v = .map (some c)) {cs : List Value} (h : keysBox (cs.map f) = true) : keysBox cs = true := by
  match cs, h with
  | [], h => cases h
  | [v], h =>
    simp only [List.map_cons, List.map_nil] at h
    cases e : f v with
    | map a =>
      cases a with
      | none => rw [e] at h; cases h
      | some b => obtain ⟨c, rfl⟩ := hf v b e; rfl
    | _ => rw [e] at h; cases h
  | _ :: _ :: _, h => simp [keysBox] at h
theorem ren2_map {K : List Nat} : ∀ v b, ren2 K v = .map (some b) → ∃ c, v = .map (some c) := by
  intro v b h
  cases v with
  | map a => cases a with
    | none => cases h
    | some c => exact ⟨c, rfl⟩
  | pointer a => cases a <;> cases h
  | slice a l c => cases a <;> cases h
  | _ => cases h
def renBlk (K : List Nat) : Blk → Blk
  | .cells ty cs ro => .cells ty (cs.map (ren2 K)) ro
  | .map es cl ro => .map (es.map fun e => (e.1, ren2 K e.2.1, e.2.2)) cl ro
  | .dead => .dead
def niceBlk : Blk → Bool
  | .cells _ cs _ => cs.all nice2
  | .map es _ _ => es.all fun e => nice2 e.2.1
  | .dead => true

theorem FR.canon2 {n : Nat} {W w : World} {st : St} {a : Act} {m : BM} (f : FR n W st a w m) (K : List Nat) (O : List Blk) (L : List (Nat × Value)) (hK : K.Nodup) (hO : O.length = K.length)
    (hB : ∀ (i b : Nat) (o2 : Blk), K[i]? = some b → O[i]? = some o2 → ∃ o, st.hp.get b = some o ∧ o2 = renBlk K o ∧ niceBlk o = true)
    (hL : ∀ p ∈ L, p.1 < n ∧ nice2 (st.tget p.1) = true ∧ p.2 = ren2 K (st.tget p.1)) (hd : st.df = []) :
    ∃ g m2, FR n W ⟨mkT (frame g L) n, heapOf (O ++ [.dead]) hp0, []⟩ a w m2 := by
  have hget : ∀ b2, (heapOf (O ++ [.dead]) hp0).get b2 = (O ++ [Blk.dead])[b2]? := by
    intro b2
    rw [heapOf_get]
    simp only [hp0, Nat.not_lt_zero, if_false, Nat.sub_zero]
    cases (O ++ [Blk.dead])[b2]? <;> rfl
  have hD : (heapOf (O ++ [.dead]) hp0).get K.length = some .dead := by
    rw [hget, ← hO]; simp
  have hold : ∀ (i b : Nat), K[i]? = some b → ∃ o o2, st.hp.get b = some o ∧ (heapOf (O ++ [.dead]) hp0).get i = some o2 ∧ o2 = renBlk K o ∧ niceBlk o = true := by
    intro i b hi
    have hlt : i < O.length := by rw [hO]; exact (List.getElem?_eq_some_iff.1 hi).1
    have h2 : O[i]? = some O[i] := List.getElem?_eq_getElem hlt
    obtain ⟨o, h3, h4⟩ := hB i b _ hi h2
    exact ⟨o, O[i], h3, by rw [hget, List.getElem?_append_left hlt, h2], h4⟩
  have inj : ∀ (i j b : Nat), K[i]? = some b → K[j]? = some b → i = j := by
    intro i j b h1 h2
    obtain ⟨q1, e1⟩ := List.getElem?_eq_some_iff.1 h1
    obtain ⟨q2, e2⟩ := List.getElem?_eq_some_iff.1 h2
    have hp := List.pairwise_iff_getElem.1 hK
    rcases Nat.lt_trichotomy i j with q | q | q
    · exact absurd (e1.trans e2.symm) (hp i j q1 q2 q)
    · exact q
    · exact absurd (e2.trans e1.symm) (hp j i q2 q1 q)
  have hrel := f.rel
  have e0 : ovr st.hp hg0 = st.hp.get := ovr_hg0 f.ok
  have hk2 : (heapOf (O ++ [.dead]) hp0).ok := heapOf_ok _ _ hp0_ok
  have sim := hrel.sim
  rw [e0] at sim
  have tm := hrel.tm
  rw [e0] at tm
  -- what points at a block
  have pt : ∀ b (Q : Prop), (st.hp.get b = some .dead ∨ Q) → (heapOf (O ++ [.dead]) hp0).get (rho K b) = some .dead ∨ (Q ∧ canM m K (rho K b) = m b) := by
    intro b Q hq
    unfold rho
    cases hi : idxOf b K 0 with
    | none => exact .inl hD
    | some j =>
      obtain ⟨k, rfl, hk⟩ := idxOf_some hi
      simp only [Nat.zero_add, Option.getD_some]
      rcases hq with hq | hq
      · obtain ⟨o, o2, h1, h2, h3⟩ := hold k b hk
        rw [hq] at h1; cases h1
        rw [h2, h3.1]; exact .inl rfl
      · exact .inr ⟨hq, by unfold canM; rw [hk]⟩
  have one : ∀ {v v' : Value}, VRel m st.hp.get v v' → (match v with | .agg _ | .tuple _ | .func .. => false | _ => true) = true → VRel (canM m K) (heapOf (O ++ [.dead]) hp0).get (ren1 K v) v' := by
    intro v v' r hv
    cases r with
    | flat hf =>
      have : ren1 K v = v := by cases v with
        | pointer a => cases a <;> first | rfl | (simp [AI.flat] at hf)
        | slice a l c => cases a <;> first | rfl | (simp [AI.flat] at hf)
        | map a => cases a <;> first | rfl | (simp [AI.flat] at hf)
        | _ => rfl
      rw [this]; exact .flat hf
    | ptr h1 =>
      rcases pt _ _ h1 with h | ⟨⟨δ, E, q1, q2⟩, e⟩
      · exact .ptr (.inl h)
      · exact .ptr (.inr ⟨δ, E, by rw [e]; exact q1, q2⟩)
    | slice h0 h1 =>
      rcases pt _ _ h1 with h | ⟨⟨δ, E, q1, q2⟩, e⟩
      · exact .slice h0 (.inl h)
      · exact .slice h0 (.inr ⟨δ, E, by rw [e]; exact q1, q2⟩)
    | map h1 =>
      rcases pt _ _ h1 with h | ⟨⟨x, q1⟩, e⟩
      · exact .map (.inl h)
      · exact .map (.inr ⟨x, by rw [e]; exact q1⟩)
    | func _ _ _ _ => cases hv
    | agg _ _ => cases hv
    | tuple _ _ => cases hv
  have two : ∀ {v v' : Value}, VRel m st.hp.get v v' → nice v = true → VRel (canM m K) (heapOf (O ++ [.dead]) hp0).get (ren K v) v' := by
    intro v v' r hv
    cases v with
    | agg cs =>
      obtain ⟨a', rfl, h1, h2⟩ := r.of_agg
      refine .agg (by simpa using h1) fun i x x' q1 q2 => ?_
      simp only [Array.getElem?_map, Option.map_eq_some_iff] at q1
      obtain ⟨y, hy, rfl⟩ := q1
      refine one (h2 i y x' hy q2) ?_
      have := List.all_eq_true.1 hv y (Array.mem_toList_iff.2 (Array.mem_of_getElem? hy))
      exact this
    | tuple cs =>
      obtain ⟨a', rfl, h1, h2⟩ := r.of_tuple
      have he : cs = #[] := by simpa [nice] using hv
      subst he
      exact .tuple h1 fun i x x' q1 _ => by simp [ren, ren1] at q1
    | func fn x y => cases hv
    | _ => exact one r rfl
  have three : ∀ {v v' : Value}, VRel m st.hp.get v v' → nice2 v = true → VRel (canM m K) (heapOf (O ++ [.dead]) hp0).get (ren2 K v) v' := by
    intro v v' r hv
    cases v with
    | func fn x y =>
      cases r with
      | flat hf => simp [AI.flat] at hf
      | func h1 h2 h3 h4 =>
        have hv' := Bool.and_eq_true_iff.1 hv
        refine .func (by simpa using h1) (fun i u u' q1 q2 => ?_) (by simpa using h3) (fun i u u' q1 q2 => ?_)
        · simp only [Array.getElem?_map, Option.map_eq_some_iff] at q1
          obtain ⟨z, hz, rfl⟩ := q1
          exact one (h2 i z u' hz q2) (List.all_eq_true.1 hv'.1 z (Array.mem_toList_iff.2 (Array.mem_of_getElem? hz)))
        · simp only [Array.getElem?_map, Option.map_eq_some_iff] at q1
          obtain ⟨z, hz, rfl⟩ := q1
          exact one (h4 i z u' hz q2) (List.all_eq_true.1 hv'.2 z (Array.mem_toList_iff.2 (Array.mem_of_getElem? hz)))
    | _ => exact two r hv
  have hgarb : ∀ t, ∃ u, VRel (canM m K) (heapOf (O ++ [.dead]) hp0).get u (a.tmps.getD t undef) := fun t => garb hD (tm.tm t)
  refine ⟨fun t => (hgarb t).choose, canM m K, hk2, ⟨?_, ⟨tm.size, fun t => ?_⟩, ?_⟩, f.below, ?_⟩
  · -- the heap
    rw [ovr_hg0 hk2]
    refine ⟨fun b2 x hx => ?_, fun b b' x x' hx hx' hr hl e => ?_⟩
    · unfold canM at hx
      split at hx
      · rename_i b hb
        obtain ⟨o, o2, h1, h2, h3, h4⟩ := hold b2 b hb
        refine ⟨o2, h2, ?_⟩
        obtain ⟨o', ho', hbr⟩ := sim.dom b x hx
        rw [h1] at ho'; cases ho'
        subst h3
        cases o with
        | cells ty cs ro =>
          obtain ⟨c, fr, g1, g2, g3, g4, g5⟩ := hbr
          refine ⟨c, fr, g1, by simpa using g2, g3, fun i v v' q1 q2 => ?_, g5.1, fun hr hk => g5.2 hr (keysBox_map ren2_map hk)⟩
          simp only [List.getElem?_map, Option.map_eq_some_iff] at q1
          obtain ⟨z, hz, rfl⟩ := q1
          exact three (g4 i z v' hz q2) (List.all_eq_true.1 h4 z (List.mem_of_getElem? hz))
        | map es cl ro =>
          obtain ⟨fs, g1, g2, g3⟩ := hbr
          refine ⟨fs, g1, by simpa using g2, fun i e ff q1 q2 => ?_⟩
          simp only [List.getElem?_map, Option.map_eq_some_iff] at q1
          obtain ⟨z, hz, rfl⟩ := q1
          obtain ⟨p1, p2, p3, p4⟩ := g3 i z ff hz q2
          exact ⟨p1, p2, three p3 (List.all_eq_true.1 h4 z (List.mem_of_getElem? hz)), p4⟩
        | dead => trivial
      · cases hx
    · unfold canM at hx hx'
      split at hx
      · rename_i c hc
        split at hx'
        · rename_i c' hc'
          obtain ⟨o, o2, h1, h2, h3, _⟩ := hold b c hc
          obtain ⟨o', o2', h1', h2', h3', _⟩ := hold b' c' hc'
          subst h3; subst h3'
          have hr' : rw? st.hp.get c = true := by unfold rw? at hr ⊢; rw [h1]; rw [h2] at hr; cases o <;> exact hr
          have hl' : live? st.hp.get c' = true := by unfold live? at hl ⊢; rw [h1']; rw [h2'] at hl; cases o' <;> exact hl
          have := sim.inj c c' x x' hx hx' hr' hl' e
          subst this
          exact inj b b' c hc hc'
        · cases hx'
      · cases hx
  · rw [ovr_hg0 hk2]
    simp only [St.tget, mkT_get]
    by_cases ht : t < n
    · rw [if_pos ht]
      simp only [Option.getD_some, frame]
      cases hq : L.find? (fun p => Nat.beq p.1 t) with
      | none => exact (hgarb t).choose_spec
      | some p =>
        have h1 := List.find?_some hq
        have h2 := List.mem_of_find?_eq_some hq
        have e : p.1 = t := Nat.eq_of_beq_eq_true h1
        subst e
        obtain ⟨_, h3, h4⟩ := hL p h2
        simp only
        rw [h4]
        exact three (tm.tm p.1) h3
    · rw [if_neg ht]
      have : a.tmps.getD t undef = undef := by
        have hs := tm.size
        simp [Array.getElem?_eq_none (show a.tmps.size ≤ t by omega)]
      rw [this]
      exact VRel.undef
  · rw [ovr_hg0 hk2]
    have := hrel.df
    rw [hd] at this
    rw [this.of_nil]
    exact .nil
  · intro b2 x hx hr
    unfold canM at hx
    split at hx
    · rename_i b hb
      obtain ⟨o, o2, h1, h2, h3, _⟩ := hold b2 b hb
      subst h3
      exact f.own b x hx (by unfold rw? at hr ⊢; rw [h1]; rw [h2] at hr; cases o <;> exact hr)
    · cases hx

/-- What is seen of a run's end. -/
def look (K : List Nat) (Ts : List Nat) (r : Exit × St) : Exit × List Blk × List (Nat × Value) × Bool :=
  (r.1, K.map fun b => renBlk K ((r.2.hp.get b).getD .dead), Ts.map fun t => (t, ren2 K (r.2.tget t)),
    (K.all fun b => match r.2.hp.get b with | some o => niceBlk o | none => false) && (Ts.all fun t => nice2 (r.2.tget t)) && r.2.df.isEmpty)
def nodupB : List Nat → Bool
  | [] => true
  | a :: as => (as.all fun b => !Nat.beq a b) && nodupB as
theorem nodupB_ok : ∀ {K : List Nat}, nodupB K = true → K.Nodup
  | [], _ => List.nodup_nil
  | a :: as, h => by
    unfold nodupB at h
    obtain ⟨h1, h2⟩ := Bool.and_eq_true_iff.1 h
    refine List.nodup_cons.2 ⟨fun hm => ?_, nodupB_ok h2⟩
    have := List.all_eq_true.1 h1 a hm
    simp at this

section
variable {P : Program} {N : Nat} {W : World}
theorem FRwp.canon2 {c : Code} {st : St} {Q : Exit → St → Prop} (K : List Nat) (O : List Blk) (L : List (Nat × Value)) (hK : K.Nodup) (hO : O.length = K.length)
    (hB : ∀ (i b : Nat) (o2 : Blk), K[i]? = some b → O[i]? = some o2 → ∃ o, st.hp.get b = some o ∧ o2 = renBlk K o ∧ niceBlk o = true)
    (hL : ∀ p ∈ L, p.1 < N ∧ nice2 (st.tget p.1) = true ∧ p.2 = ren2 K (st.tget p.1)) (hd : st.df = [])
    (h : ∀ g, FRwp P N W c ⟨mkT (frame g L) N, heapOf (O ++ [.dead]) hp0, []⟩ Q) : FRwp P N W c st Q := fun a w m f => by
  obtain ⟨g, m2, f2⟩ := f.canon2 K O L hK hO hB hL hd
  exact h g a w m2 f2
/-- One piece, and the rest behind it. -/
theorem FRwp.cut {call : CallF} (hc : CallOk P call) (hm : P.follows .mixedOrders = true) {n : Nat} {x y : Code} {st : St} {Q : Exit → St → Prop} (K Ts : List Nat) (O : List Blk) (L : List (Nat × Value))
    (he : (exec P call n x st).map (look K Ts) = some (.normal, O, L, true)) (hs : codeSafe P N x = true) (hK : nodupB K = true) (hT : Ts.all (fun t => Nat.blt t N) = true)
    (h : ∀ g, FRwp P N W y ⟨mkT (frame g L) N, heapOf (O ++ [.dead]) hp0, []⟩ Q) : FRwp P N W (.seq x y) st Q := by
  obtain ⟨⟨e, st'⟩, h1, h2⟩ := Option.map_eq_some_iff.1 he
  simp only [look, Prod.mk.injEq] at h2
  obtain ⟨rfl, rfl, rfl, h5⟩ := h2
  obtain ⟨h5, h7⟩ := Bool.and_eq_true_iff.1 h5
  obtain ⟨h5, h6⟩ := Bool.and_eq_true_iff.1 h5
  refine FRwp.seq (Q1 := fun e s => e = .normal ∧ s = st') (FRwp.run hc hm h1 hs ⟨rfl, rfl⟩) (fun s hq => ?_) (fun e s hne hq => absurd hq.1 hne)
  obtain ⟨-, rfl⟩ := hq
  refine FRwp.canon2 K _ _ (nodupB_ok hK) (by simp) (fun i b o2 hi ho => ?_) (fun p hp => ?_) (List.isEmpty_iff.1 h7) h
  · rw [List.getElem?_map, hi] at ho
    simp only [Option.map_some, Option.some.injEq] at ho
    have := List.all_eq_true.1 h5 b (List.mem_of_getElem? hi)
    cases hg : s.hp.get b with
    | none => rw [hg] at this; cases this
    | some o =>
      rw [hg] at this ho
      exact ⟨o, rfl, ho.symm, this⟩
  · obtain ⟨t, ht, rfl⟩ := List.mem_map.1 hp
    exact ⟨by have := List.all_eq_true.1 hT t ht; simpa [Nat.blt_eq] using this, List.all_eq_true.1 h6 t ht, rfl⟩

theorem hook_fr (hm : P.follows .mixedOrders = true) {f : FuncId} {fn : Func} {c : Code} {u : Value} (hf : P.funcs[f]? = some fn) (hb : fn.body = some c) (hs : fnSafe P fn = true) (hu : flatD u = true)
    (h : ∀ W, FRwp P fn.ntmps W c ⟨.leaf, hp0, []⟩ fun e st => (e = .normal ∨ e = .ret) ∧ st.df = [] ∧ retVal P fn st = some u) : HookGoal P f (fun | [] => some u | _ => none) := by
  refine ⟨⟨fn, hf, hs⟩, fun args v hg => ?_, fun args v hg w => ?_⟩
  · split at hg
    · cases hg; exact ⟨rfl, hu⟩
    · cases hg
  · split at hg
    · cases hg
      refine (fn_of (R := fun v _ => v = u) (args := []) hf hb (Nat.zero_le _) hp0_ok sim0 (fun b => rfl) VRelL.nil (by
        refine FRwp.mono (h w) fun e st q => ?_
        obtain ⟨q1, q2, q3⟩ := q
        exact ⟨q1, q2, u, q3, rfl⟩)).mono fun e w' hh => ?_
      obtain ⟨v', v, st', m', rfl, rfl, rv, _, _, hb, _⟩ := hh
      exact ⟨by rw [rv.of_flatD hu], hb⟩
    · cases hg
end
end Go.Proofs.Ytjecepaaalfilaa.AI
