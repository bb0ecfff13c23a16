/- Functions that are told, whose answer lies in new blocks: a run of its own, in a heap of its own, laid behind the caller's. -/
import Derived.Test.YtjecepaaalfilaaAi29
set_option linter.unusedVariables false
set_option linter.unusedSimpArgs false
namespace Go.Proofs.Ytjecepaaalfilaa.AI
open Go Go.RowKit

/-! ### 1. A value's blocks under other numbers, from a base on -/
def sh1 (K : List Nat) (B : Nat) : Value → Value
  | .pointer (some a) => .pointer (some ⟨B + rho K a.block, a.off, a.spot⟩)
  | .slice (some a) l c => .slice (some ⟨B + rho K a.block, a.off, a.spot⟩) l c
  | .map (some b) => .map (some (B + rho K b))
  | v => v
def sh2 (K : List Nat) (B : Nat) : Value → Value
  | .func f a b => .func f (a.map (sh1 K B)) (b.map (sh1 K B))
  | .agg cs => .agg (cs.map (sh1 K B))
  | v => sh1 K B v
def sh3 (K : List Nat) (B : Nat) : Value → Value
  | .tuple cs => .tuple (cs.map (sh2 K B))
  | v => sh2 K B v
def ok2 : Value → Bool
  | .func (.func _) a b => a.toList.all nice1 && b.toList.all nice1
  | .agg cs => cs.toList.all nice1
  | v => nice1 v
def ok3 : Value → Bool
  | .tuple cs => cs.toList.all ok2
  | v => ok2 v
theorem sh2_map {K : List Nat} {B : Nat} : ∀ v b, sh2 K B v = .map (some b) → ∃ c, v = .map (some c) := by
  intro v b h
  cases v with
  | map a => cases a with
    | none => cases h
    | some c => exact ⟨c, rfl⟩
  | pointer a => cases a <;> cases h
  | slice a l c => cases a <;> cases h
  | _ => cases h
def shBlk (K : List Nat) (B : Nat) : Blk → Blk
  | .cells ty cs ro => .cells ty (cs.map (sh2 K B)) ro
  | .map es cl ro => .map (es.map fun e => (e.1, sh2 K B e.2.1, e.2.2)) cl ro
  | .dead => .dead
def okBlk : Blk → Bool
  | .cells _ cs _ => cs.all ok2
  | .map es _ _ => es.all fun e => ok2 e.2.1
  | .dead => true

/-- What is seen of a run: the answer, the blocks that it needs, from a base on. -/
def lookK (K : List Nat) (B : Nat) (r : Value × Hp) : Value × List Blk × Bool :=
  (sh3 K B r.1, K.map fun b => shBlk K B ((r.2.get b).getD .dead), ok3 r.1 && K.all fun b => match r.2.get b with | some o => okBlk o | none => false)
/-- The answers of some arguments: a value, and blocks that are laid. -/
abbrev Deep := List Value → Option (Nat → Value × List Blk)
def tellK (G : Deep) : HeapFn := fun args h => match G args with
  | some r => some ((r h.sz).1, heapOf ((r h.sz).2 ++ [.dead]) h)
  | none => none

section
variable {P : Program}
theorem heapOf_sz : ∀ (os : List Blk) (h : Hp), (heapOf os h).sz = h.sz + os.length
  | [], h => rfl
  | o :: os, h => by rw [heapOf, heapOf_sz os, Hp.sz_push]; simp; omega

/-- Where the caller's blocks and the call's lie, behind the call. -/
def joinM (m m' : BM) (K : List Nat) (B : Nat) : BM := fun b => if B ≤ b ∧ b ≤ B + K.length then (match K[b - B]? with | some c => m' c | none => none) else m b

set_option maxHeartbeats 2000000 in
theorem deep_goal {ext : Ext} (hx : ExtOk P ext) (hm : P.follows .mixedOrders = true) {f : FuncId} {fn : Func} {G : Deep} (hf : P.funcs[f]? = some fn) (hs : fnSafe P fn = true)
    (hG : ∀ args r, G args = some r → args.all flatD = true ∧ ∃ K n, nodupB K = true ∧ ∀ B, (aCall P ext n f args hp0).map (lookK K B) = some ((r B).1, (r B).2, true)) : CallGoal P f (tellK G) := by
  intro args hp v hp' he hk
  unfold tellK at he
  split at he
  case h_2 => cases he
  rename_i r hr
  cases he
  obtain ⟨hfl, K, n, hK, hrun⟩ := hG args r hr
  obtain ⟨⟨v0, hpR⟩, hc, hl⟩ := Option.map_eq_some_iff.1 (hrun hp.sz)
  simp only [lookK, Prod.mk.injEq] at hl
  obtain ⟨e1, e2, hok⟩ := hl
  obtain ⟨hok1, hok2⟩ := Bool.and_eq_true_iff.1 hok
  obtain ⟨c, hb, _, hnm⟩ := fnSafe_parts hs
  have hlen : ((r hp.sz).2).length = K.length := by rw [← e2]; simp
  have hsz' : (heapOf ((r hp.sz).2 ++ [.dead]) hp).sz = hp.sz + (K.length + 1) := by rw [heapOf_sz]; simp [hlen]
  refine ⟨heapOf_ok _ _ hk, by rw [hsz']; omega, fun m h w args' hfr s ra => .inr ⟨run_callFunc hf (by rw [hb]; rfl) hnm, ?_⟩⟩
  have ha : args' = args.toArray := by
    have := VRelL.of_flatDs hfl ra
    cases args'; simp_all
  subst ha
  have r0 : VRelL bm0 hp0.get args args.toArray.toList := by simpa using VRelL.flatDs hfl
  obtain ⟨k1, -, -⟩ := aCall_sound hx hm n f args hp0 v0 hpR hc hp0_ok
  refine (call_soundX hx hm hc hp0_ok (sim0 (w := w)) r0 hf (by rw [hb]; rfl)).mono fun e w' hh => ?_
  obtain ⟨v', rfl, m', gg, rv⟩ := hh
  have bw : Below w.heap.size w w' := ⟨gg.os, gg.tape, gg.output, gg.size, fun k hk => gg.frame k hk fun b x hx _ => by cases hx⟩
  have hnew : ∀ b x, m' b = some x → w.heap.size ≤ x.1 := fun b x hx => by
    rcases gg.new b x hx with h1 | h1 | ⟨b0, x0, h1, _⟩
    · cases h1
    · exact h1
    · cases h1
  have hKn := nodupB_ok hK
  have inj : ∀ (i j b : Nat), K[i]? = some b → K[j]? = some b → i = j := by
    intro i j b h1 h2
    obtain ⟨q1, f1⟩ := List.getElem?_eq_some_iff.1 h1
    obtain ⟨q2, f2⟩ := List.getElem?_eq_some_iff.1 h2
    have hp := List.pairwise_iff_getElem.1 hKn
    rcases Nat.lt_trichotomy i j with q | q | q
    · exact absurd (f1.trans f2.symm) (hp i j q1 q2 q)
    · exact q
    · exact absurd (f2.trans f1.symm) (hp j i q2 q1 q)
  generalize hO : (r hp.sz).2 = O at *
  generalize hV : (r hp.sz).1 = V at *
  -- the heap behind
  have hget : ∀ b, (heapOf (O ++ [.dead]) hp).get b = if b < hp.sz then hp.get b else match (O ++ [Blk.dead])[b - hp.sz]? with | some o => some o | none => hp.get b := fun b => heapOf_get _ _ _
  have hov : ∀ b, ovr (heapOf (O ++ [.dead]) hp) h b = if hp.sz ≤ b ∧ b ≤ hp.sz + K.length then (O ++ [Blk.dead])[b - hp.sz]? else ovr hp h b := by
    intro b
    unfold ovr
    rw [hsz']
    by_cases h1 : b < hp.sz
    · rw [if_pos (by omega), if_neg (by omega), if_pos h1, hget, if_pos h1]
    · by_cases h2 : b ≤ hp.sz + K.length
      · rw [if_pos (by omega), if_pos ⟨by omega, h2⟩, hget, if_neg h1]
        have : b - hp.sz < (O ++ [Blk.dead]).length := by simp [hlen]; omega
        rw [List.getElem?_eq_getElem this]
      · rw [if_neg (by omega), if_neg (by omega), if_neg h1]
  have hnone : ∀ b, hp.sz ≤ b → b ≤ hp.sz + K.length → ovr hp h b = none := by
    intro b h1 h2
    unfold ovr
    rw [if_neg (by omega)]
    exact hfr b h1 (by rw [hsz']; omega)
  have hmn : ∀ b, hp.sz ≤ b → b ≤ hp.sz + K.length → m b = none := by
    intro b h1 h2
    cases e : m b with
    | none => rfl
    | some x => obtain ⟨o, ho, _⟩ := s.dom b x e; rw [hnone b h1 h2] at ho; cases ho
  have hD : ovr (heapOf (O ++ [.dead]) hp) h (hp.sz + K.length) = some .dead := by
    rw [hov, if_pos (by omega)]
    rw [show hp.sz + K.length - hp.sz = O.length by omega]; simp
  have hj : ∀ b, joinM m m' K hp.sz b = if hp.sz ≤ b ∧ b ≤ hp.sz + K.length then (match K[b - hp.sz]? with | some c => m' c | none => none) else m b := fun _ => rfl
  have hblk : ∀ i b, K[i]? = some b → ∃ o, hpR.get b = some o ∧ okBlk o = true ∧ ovr (heapOf (O ++ [.dead]) hp) h (hp.sz + i) = some (shBlk K hp.sz o) ∧ joinM m m' K hp.sz (hp.sz + i) = m' b := by
    intro i b hi
    have hlt : i < K.length := (List.getElem?_eq_some_iff.1 hi).1
    have := List.all_eq_true.1 hok2 b (List.mem_of_getElem? hi)
    cases hg : hpR.get b with
    | none => rw [hg] at this; cases this
    | some o =>
      rw [hg] at this
      refine ⟨o, rfl, this, ?_, ?_⟩
      · rw [hov, if_pos (by omega), show hp.sz + i - hp.sz = i by omega, List.getElem?_append_left (by omega), ← e2, List.getElem?_map, hi]
        simp [hg]
      · rw [hj, if_pos (by omega), show hp.sz + i - hp.sz = i by omega, hi]
  have pt : ∀ b (Q : Prop), (hpR.get b = some .dead ∨ Q) → ovr (heapOf (O ++ [.dead]) hp) h (hp.sz + rho K b) = some .dead ∨ (Q ∧ joinM m m' K hp.sz (hp.sz + rho K b) = m' b) := by
    intro b Q hq
    unfold rho
    cases hi : idxOf b K 0 with
    | none => exact .inl hD
    | some j =>
      obtain ⟨k, rfl, hk⟩ := idxOf_some hi
      simp only [Nat.zero_add, Option.getD_some]
      obtain ⟨o, h1, _, h2, h3⟩ := hblk k b hk
      rcases hq with hq | hq
      · rw [hq] at h1; cases h1
        exact .inl h2
      · exact .inr ⟨hq, h3⟩
  have one : ∀ {v v' : Value}, VRel m' hpR.get v v' → nice1 v = true → VRel (joinM m m' K hp.sz) (ovr (heapOf (O ++ [.dead]) hp) h) (sh1 K hp.sz v) v' := by
    intro v v' r hv
    cases r with
    | flat hf =>
      have : sh1 K hp.sz v = v := by cases v with
        | pointer a => cases a <;> first | rfl | (simp [AI.flat] at hf)
        | slice a l c => cases a <;> first | rfl | (simp [AI.flat] at hf)
        | map a => cases a <;> first | rfl | (simp [AI.flat] at hf)
        | _ => rfl
      rw [this]; exact .flat hf
    | ptr h1 =>
      rcases pt _ _ h1 with h | ⟨⟨δ, E, q1, q2⟩, e⟩
      · exact .ptr (.inl h)
      · exact .ptr (.inr ⟨δ, E, by rw [e]; exact q1, q2⟩)
    | slice h0 h1 =>
      rcases pt _ _ h1 with h | ⟨⟨δ, E, q1, q2⟩, e⟩
      · exact .slice h0 (.inl h)
      · exact .slice h0 (.inr ⟨δ, E, by rw [e]; exact q1, q2⟩)
    | map h1 =>
      rcases pt _ _ h1 with h | ⟨⟨x, q1⟩, e⟩
      · exact .map (.inl h)
      · exact .map (.inr ⟨x, by rw [e]; exact q1⟩)
    | func _ _ _ _ => cases hv
    | agg _ _ => cases hv
    | tuple _ _ => cases hv
  have two : ∀ {v v' : Value}, VRel m' hpR.get v v' → ok2 v = true → VRel (joinM m m' K hp.sz) (ovr (heapOf (O ++ [.dead]) hp) h) (sh2 K hp.sz v) v' := by
    intro v v' r hv
    cases v with
    | agg cs =>
      obtain ⟨a', rfl, h1, h2⟩ := r.of_agg
      refine .agg (by simpa using h1) fun i x x' q1 q2 => ?_
      simp only [Array.getElem?_map, Option.map_eq_some_iff] at q1
      obtain ⟨y, hy, rfl⟩ := q1
      exact one (h2 i y x' hy q2) (List.all_eq_true.1 hv y (Array.mem_toList_iff.2 (Array.mem_of_getElem? hy)))
    | func fn x y =>
      cases r with
      | flat hf => simp [AI.flat] at hf
      | func h1 h2 h3 h4 =>
        have hv' := Bool.and_eq_true_iff.1 hv
        refine .func (by simpa using h1) (fun i u u' q1 q2 => ?_) (by simpa using h3) (fun i u u' q1 q2 => ?_)
        · simp only [Array.getElem?_map, Option.map_eq_some_iff] at q1
          obtain ⟨z, hz, rfl⟩ := q1
          exact one (h2 i z u' hz q2) (List.all_eq_true.1 hv'.1 z (Array.mem_toList_iff.2 (Array.mem_of_getElem? hz)))
        · simp only [Array.getElem?_map, Option.map_eq_some_iff] at q1
          obtain ⟨z, hz, rfl⟩ := q1
          exact one (h4 i z u' hz q2) (List.all_eq_true.1 hv'.2 z (Array.mem_toList_iff.2 (Array.mem_of_getElem? hz)))
    | tuple cs => cases hv
    | _ => exact one r hv
  have three : ∀ {v v' : Value}, VRel m' hpR.get v v' → ok3 v = true → VRel (joinM m m' K hp.sz) (ovr (heapOf (O ++ [.dead]) hp) h) (sh3 K hp.sz v) v' := by
    intro v v' r hv
    cases v with
    | tuple cs =>
      obtain ⟨a', rfl, h1, h2⟩ := r.of_tuple
      refine .tuple (by simpa using h1) fun i x x' q1 q2 => ?_
      simp only [Array.getElem?_map, Option.map_eq_some_iff] at q1
      obtain ⟨y, hy, rfl⟩ := q1
      exact two (h2 i y x' hy q2) (List.all_eq_true.1 hv y (Array.mem_toList_iff.2 (Array.mem_of_getElem? hy)))
    | _ => exact two r hv
  have hle : Le m (ovr hp h) (joinM m m' K hp.sz) (ovr (heapOf (O ++ [.dead]) hp) h) := by
    constructor
    · intro b hb
      rw [hov]
      split
      · rename_i hc; rw [hnone b hc.1 hc.2] at hb; cases hb
      · exact hb
    · intro b y hb
      refine .inr ?_
      rw [hj]
      split
      · rename_i hc; rw [hmn b hc.1 hc.2] at hb; cases hb
      · exact hb
  have hsim := gg.sim
  refine ⟨v', rfl, joinM m m' K hp.sz, ⟨hle, ⟨?_, ?_⟩, gg.size, ?_, fun k hk _ => bw.block k hk, ?_, ?_, ?_, ?_, gg.os, gg.tape, gg.output⟩, ?_⟩
  · -- the blocks
    intro b x hx
    rw [hj] at hx
    split at hx
    · rename_i hc
      split at hx
      · rename_i c hcK
        obtain ⟨o, h1, h2, h3, _⟩ := hblk _ c hcK
        rw [show hp.sz + (b - hp.sz) = b by omega] at h3
        refine ⟨_, h3, ?_⟩
        obtain ⟨o', ho', hbr⟩ := hsim.dom c x hx
        rw [h1] at ho'; cases ho'
        cases o with
        | cells ty cs ro =>
          obtain ⟨cc, fr, g1, g2, g3, g4, g5⟩ := hbr
          refine ⟨cc, fr, g1, by simpa using g2, g3, fun i v v' q1 q2 => ?_, g5.1, fun hr hk => g5.2 hr (keysBox_map sh2_map hk)⟩
          simp only [List.getElem?_map, Option.map_eq_some_iff] at q1
          obtain ⟨z, hz, rfl⟩ := q1
          exact two (g4 i z v' hz q2) (List.all_eq_true.1 h2 z (List.mem_of_getElem? hz))
        | map es cl ro =>
          obtain ⟨fs, g1, g2, g3⟩ := hbr
          refine ⟨fs, g1, by simpa using g2, fun i e ff q1 q2 => ?_⟩
          simp only [List.getElem?_map, Option.map_eq_some_iff] at q1
          obtain ⟨z, hz, rfl⟩ := q1
          obtain ⟨p1, p2, p3, p4⟩ := g3 i z ff hz q2
          exact ⟨p1, p2, two p3 (List.all_eq_true.1 h2 z (List.mem_of_getElem? hz)), p4⟩
        | dead => trivial
      · cases hx
    · rename_i hc
      obtain ⟨o, ho, hbr⟩ := s.dom b x hx
      refine ⟨o, by rw [hov, if_neg hc]; exact ho, ?_⟩
      by_cases hd : o = .dead
      · subst hd; trivial
      · refine hbr.mono hle (bw.block _ (s.lt hx ?_))
        unfold live?; rw [ho]; cases o <;> first | rfl | exact absurd rfl hd
  · -- one block, one number
    have rwo : ∀ b, ¬ (hp.sz ≤ b ∧ b ≤ hp.sz + K.length) → rw? (ovr (heapOf (O ++ [.dead]) hp) h) b = rw? (ovr hp h) b := fun b hc => by unfold rw?; rw [hov, if_neg hc]
    have lio : ∀ b, ¬ (hp.sz ≤ b ∧ b ≤ hp.sz + K.length) → live? (ovr (heapOf (O ++ [.dead]) hp) h) b = live? (ovr hp h) b := fun b hc => by unfold live?; rw [hov, if_neg hc]
    intro b b' x x' hx hx' hr hl hxx
    rw [hj] at hx hx'
    split at hx
    · rename_i hc
      split at hx
      case h_2 => cases hx
      rename_i c hcK
      split at hx'
      · rename_i hc'
        split at hx'
        case h_2 => cases hx'
        rename_i c' hcK'
        obtain ⟨o, h1, _, h3, _⟩ := hblk _ c hcK
        obtain ⟨o', h1', _, h3', _⟩ := hblk _ c' hcK'
        rw [show hp.sz + (b - hp.sz) = b by omega] at h3
        rw [show hp.sz + (b' - hp.sz) = b' by omega] at h3'
        have hr' : rw? hpR.get c = true := by unfold rw? at hr ⊢; rw [h1]; rw [h3] at hr; cases o <;> exact hr
        have hl' : live? hpR.get c' = true := by unfold live? at hl ⊢; rw [h1']; rw [h3'] at hl; cases o' <;> exact hl
        have := hsim.inj c c' x x' hx hx' hr' hl' hxx
        subst this
        have := inj _ _ c hcK hcK'
        omega
      · rename_i hc'
        have h1 := hnew c x hx
        rw [lio b' hc'] at hl
        have h2 := s.lt hx' hl
        omega
    · rename_i hc
      rw [rwo b hc] at hr
      split at hx'
      · rename_i hc'
        split at hx'
        case h_2 => cases hx'
        rename_i c' hcK'
        have h1 := hnew c' x' hx'
        have h2 := s.lt hx (live_of_rw hr)
        omega
      · rename_i hc'
        rw [lio b' hc'] at hl
        exact s.inj b b' x x' hx hx' hr hl hxx
  · intro b x hx
    rw [hj] at hx
    split at hx
    · split at hx
      · exact .inr (.inl (hnew _ _ hx))
      · cases hx
    · exact .inl hx
  · intro b o ho hmb
    rw [hj]
    split
    · rename_i hc; rw [hnone b hc.1 hc.2] at ho; cases ho
    · exact hmb
  · intro b o ho hmb
    rw [hov]
    split
    · rename_i hc; rw [hnone b hc.1 hc.2] at ho; cases ho
    · exact ho
  · intro b o ho
    rw [hov]
    split
    · rename_i hc; rw [hnone b hc.1 hc.2] at ho; cases ho
    · exact ⟨o, ho⟩
  · intro b x hx hr
    have hc : ¬ (hp.sz ≤ b ∧ b ≤ hp.sz + K.length) := fun hc => by rw [hmn b hc.1 hc.2] at hx; cases hx
    unfold rw? at hr ⊢
    rwa [hov, if_neg hc] at hr
  · rw [← e1]
    exact three rv hok1
end
end Go.Proofs.Ytjecepaaalfilaa.AI
