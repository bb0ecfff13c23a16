/- Functions with loops, told with memory: a frame of their own, over rows that are only read; pieces with claims. -/
import Derived.Test.YtgeoommlmddgpaaAi32
set_option linter.unusedVariables false
set_option linter.unusedSimpArgs false
namespace Go.Proofs.Ytgeoommlmddgpaa.AI
open Go Go.RowKit

/-! ### 1. From one numbering to another -/
def PT (m : BM) (h : HG) (m2 : BM) (h2 : HG) (K : List Nat) (B : Nat) : Prop :=
  ∀ b (Q : Prop), (h b = some .dead ∨ Q) → h2 (B + rho K b) = some .dead ∨ (Q ∧ m2 (B + rho K b) = m b)
section
variable {m m2 : BM} {h h2 : HG} {K : List Nat} {B : Nat}
theorem PT.one (pt : PT m h m2 h2 K B) {v v' : Value} (r : VRel m h v v') (hv : nice1 v = true) : VRel m2 h2 (sh1 K B v) v' := by
  cases r with
  | flat hf =>
    have : sh1 K B v = v := by cases v with
      | pointer a => cases a <;> first | rfl | (simp [AI.flat] at hf)
      | slice a l c => cases a <;> first | rfl | (simp [AI.flat] at hf)
      | map a => cases a <;> first | rfl | (simp [AI.flat] at hf)
      | _ => rfl
    rw [this]; exact .flat hf
  | ptr h1 =>
    rcases pt _ _ h1 with h | ⟨⟨δ, E, q1, q2⟩, e⟩
    · exact .ptr (.inl h)
    · exact .ptr (.inr ⟨δ, E, by rw [e]; exact q1, q2⟩)
  | slice h0 h1 =>
    rcases pt _ _ h1 with h | ⟨⟨δ, E, q1, q2⟩, e⟩
    · exact .slice h0 (.inl h)
    · exact .slice h0 (.inr ⟨δ, E, by rw [e]; exact q1, q2⟩)
  | blind h1 => exact .blind h1
  | blind0 => exact .blind0
  | junk h1 => exact .junk h1
  | map h1 =>
    rcases pt _ _ h1 with h | ⟨⟨x, q1⟩, e⟩
    · exact .map (.inl h)
    · exact .map (.inr ⟨x, by rw [e]; exact q1⟩)
  | func _ _ _ _ => cases hv
  | agg _ _ => cases hv
  | tuple _ _ => cases hv
theorem PT.two (pt : PT m h m2 h2 K B) {v v' : Value} (r : VRel m h v v') (hv : ok2 v = true) : VRel m2 h2 (sh2 K B v) v' := by
  cases v with
  | agg cs =>
    obtain ⟨a', rfl, h1, h2⟩ := r.of_agg
    refine .agg (by simpa using h1) fun i x x' q1 q2 => ?_
    simp only [Array.getElem?_map, Option.map_eq_some_iff] at q1
    obtain ⟨y, hy, rfl⟩ := q1
    exact pt.one (h2 i y x' hy q2) (List.all_eq_true.1 hv y (Array.mem_toList_iff.2 (Array.mem_of_getElem? hy)))
  | func fn x y =>
    cases r with
    | flat hf => simp [AI.flat] at hf
    | func h1 h2 h3 h4 =>
      have hv' := Bool.and_eq_true_iff.1 hv
      refine .func (by simpa using h1) (fun i u u' q1 q2 => ?_) (by simpa using h3) (fun i u u' q1 q2 => ?_)
      · simp only [Array.getElem?_map, Option.map_eq_some_iff] at q1
        obtain ⟨z, hz, rfl⟩ := q1
        exact pt.one (h2 i z u' hz q2) (List.all_eq_true.1 hv'.1 z (Array.mem_toList_iff.2 (Array.mem_of_getElem? hz)))
      · simp only [Array.getElem?_map, Option.map_eq_some_iff] at q1
        obtain ⟨z, hz, rfl⟩ := q1
        exact pt.one (h4 i z u' hz q2) (List.all_eq_true.1 hv'.2 z (Array.mem_toList_iff.2 (Array.mem_of_getElem? hz)))
  | tuple cs => cases hv
  | _ => exact pt.one r hv
theorem PT.three (pt : PT m h m2 h2 K B) {v v' : Value} (r : VRel m h v v') (hv : ok3 v = true) : VRel m2 h2 (sh3 K B v) v' := by
  cases v with
  | tuple cs =>
    obtain ⟨a', rfl, h1, h2⟩ := r.of_tuple
    refine .tuple (by simpa using h1) fun i x x' q1 q2 => ?_
    simp only [Array.getElem?_map, Option.map_eq_some_iff] at q1
    obtain ⟨y, hy, rfl⟩ := q1
    exact pt.two (h2 i y x' hy q2) (List.all_eq_true.1 hv y (Array.mem_toList_iff.2 (Array.mem_of_getElem? hy)))
  | _ => exact pt.two r hv
theorem PT.threes (pt : PT m h m2 h2 K B) {vs vs' : List Value} (r : VRelL m h vs vs') (hv : vs.all ok3 = true) : VRelL m2 h2 (vs.map (sh3 K B)) vs' := by
  refine ⟨by simpa using r.1, fun i v v' q1 q2 => ?_⟩
  simp only [List.getElem?_map, Option.map_eq_some_iff] at q1
  obtain ⟨y, hy, rfl⟩ := q1
  exact pt.three (r.2 i y v' hy q2) (List.all_eq_true.1 hv y (List.mem_of_getElem? hy))
end
theorem nodup_inj {K : List Nat} (hK : nodupB K = true) {i j b : Nat} (h1 : K[i]? = some b) (h2 : K[j]? = some b) : i = j := by
  obtain ⟨q1, f1⟩ := List.getElem?_eq_some_iff.1 h1
  obtain ⟨q2, f2⟩ := List.getElem?_eq_some_iff.1 h2
  have hp := List.pairwise_iff_getElem.1 (nodupB_ok hK)
  rcases Nat.lt_trichotomy i j with q | q | q
  · exact absurd (f1.trans f2.symm) (hp i j q1 q2 q)
  · exact q
  · exact absurd (f2.trans f1.symm) (hp j i q2 q1 q)

/-! ### 2. What a call has laid, behind the caller's blocks -/
def outOf (K : List Nat) (B : Nat) (hp : Hp) : List Blk := K.map fun b => shBlk K B ((hp.get b).getD .dead)
set_option maxHeartbeats 2000000 in
theorem join_go {m m' : BM} {hp hpR : Hp} {h : HG} {w w' : World} {K : List Nat} (s : Sim m (ovr hp h) w) (bw : Bel w.heap.size w w') (hsim : Sim m' hpR.get w') (hK : nodupB K = true)
    (hok : ∀ b ∈ K, ∃ o, hpR.get b = some o ∧ okBlk o = true) (hnew : ∀ b ∈ K, ∀ x, m' b = some x → w.heap.size ≤ x.1) (hfr : ∀ b, hp.sz ≤ b → b ≤ hp.sz + K.length → h b = none) {v0 v' : Value}
    (rv : VRel m' hpR.get v0 v') (hok1 : ok3 v0 = true) :
    Go1 m (ovr hp h) w (joinM m m' K hp.sz) (ovr (heapOf (outOf K hp.sz hpR ++ [.dead]) hp) h) w' ∧ VRel (joinM m m' K hp.sz) (ovr (heapOf (outOf K hp.sz hpR ++ [.dead]) hp) h) (sh3 K hp.sz v0) v' := by
  have hlen : (outOf K hp.sz hpR).length = K.length := by simp [outOf]
  have hsz' : (heapOf (outOf K hp.sz hpR ++ [.dead]) hp).sz = hp.sz + (K.length + 1) := by rw [heapOf_sz]; simp [hlen]
  have inj : ∀ (i j b : Nat), K[i]? = some b → K[j]? = some b → i = j := fun i j b => nodup_inj hK
  have e2 : outOf K hp.sz hpR = K.map fun b => shBlk K hp.sz ((hpR.get b).getD .dead) := rfl
  generalize outOf K hp.sz hpR = O at *
  have hget : ∀ b, (heapOf (O ++ [.dead]) hp).get b = if b < hp.sz then hp.get b else match (O ++ [Blk.dead])[b - hp.sz]? with | some o => some o | none => hp.get b := fun b => heapOf_get _ _ _
  have hov : ∀ b, ovr (heapOf (O ++ [.dead]) hp) h b = if hp.sz ≤ b ∧ b ≤ hp.sz + K.length then (O ++ [Blk.dead])[b - hp.sz]? else ovr hp h b := by
    intro b
    unfold ovr
    rw [hsz']
    by_cases h1 : b < hp.sz
    · rw [if_pos (by omega), if_neg (by omega), if_pos h1, hget, if_pos h1]
    · by_cases h2 : b ≤ hp.sz + K.length
      · rw [if_pos (by omega), if_pos ⟨by omega, h2⟩, hget, if_neg h1]
        have : b - hp.sz < (O ++ [Blk.dead]).length := by simp [hlen]; omega
        rw [List.getElem?_eq_getElem this]
      · rw [if_neg (by omega), if_neg (by omega), if_neg h1]
  have hnone : ∀ b, hp.sz ≤ b → b ≤ hp.sz + K.length → ovr hp h b = none := by
    intro b h1 h2
    unfold ovr
    rw [if_neg (by omega)]
    exact hfr b h1 h2
  have hmn : ∀ b, hp.sz ≤ b → b ≤ hp.sz + K.length → m b = none := by
    intro b h1 h2
    cases e : m b with
    | none => rfl
    | some x => obtain ⟨o, ho, _⟩ := s.dom b x e; rw [hnone b h1 h2] at ho; cases ho
  have hD : ovr (heapOf (O ++ [.dead]) hp) h (hp.sz + K.length) = some .dead := by
    rw [hov, if_pos (by omega)]
    rw [show hp.sz + K.length - hp.sz = O.length by omega]; simp
  have hj : ∀ b, joinM m m' K hp.sz b = if hp.sz ≤ b ∧ b ≤ hp.sz + K.length then (match K[b - hp.sz]? with | some c => m' c | none => none) else m b := fun _ => rfl
  have hblk : ∀ i b, K[i]? = some b → ∃ o, hpR.get b = some o ∧ okBlk o = true ∧ ovr (heapOf (O ++ [.dead]) hp) h (hp.sz + i) = some (shBlk K hp.sz o) ∧ joinM m m' K hp.sz (hp.sz + i) = m' b := by
    intro i b hi
    have hlt : i < K.length := (List.getElem?_eq_some_iff.1 hi).1
    obtain ⟨o, hg, ho⟩ := hok b (List.mem_of_getElem? hi)
    refine ⟨o, hg, ho, ?_, ?_⟩
    · rw [hov, if_pos (by omega), show hp.sz + i - hp.sz = i by omega, List.getElem?_append_left (by omega), e2, List.getElem?_map, hi]
      simp [hg]
    · rw [hj, if_pos (by omega), show hp.sz + i - hp.sz = i by omega, hi]
  have pt : PT m' hpR.get (joinM m m' K hp.sz) (ovr (heapOf (O ++ [.dead]) hp) h) K hp.sz := by
    intro b Q hq
    unfold rho
    cases hi : idxOf b K 0 with
    | none => exact .inl hD
    | some j =>
      obtain ⟨k, rfl, hk⟩ := idxOf_some hi
      simp only [Nat.zero_add, Option.getD_some]
      obtain ⟨o, h1, _, h2, h3⟩ := hblk k b hk
      rcases hq with hq | hq
      · rw [hq] at h1; cases h1
        exact .inl h2
      · exact .inr ⟨hq, h3⟩
  have hle : Le m (ovr hp h) (joinM m m' K hp.sz) (ovr (heapOf (O ++ [.dead]) hp) h) := by
    constructor
    · intro b hb
      rw [hov]
      split
      · rename_i hc; rw [hnone b hc.1 hc.2] at hb; cases hb
      · exact hb
    · intro b y hb
      refine .inr ?_
      rw [hj]
      split
      · rename_i hc; rw [hmn b hc.1 hc.2] at hb; cases hb
      · exact hb
  refine ⟨⟨hle, ⟨?_, ?_⟩, bw.size, ?_, fun k hk _ => bw.block k hk, ?_, ?_, ?_, ?_, bw.os, bw.tape, bw.output⟩, pt.three rv hok1⟩
  · -- the blocks
    intro b x hx
    rw [hj] at hx
    split at hx
    · rename_i hc
      split at hx
      · rename_i c hcK
        obtain ⟨o, h1, h2, h3, _⟩ := hblk _ c hcK
        rw [show hp.sz + (b - hp.sz) = b by omega] at h3
        refine ⟨_, h3, ?_⟩
        obtain ⟨o', ho', hbr⟩ := hsim.dom c x hx
        rw [h1] at ho'; cases ho'
        cases o with
        | cells ty cs ro =>
          obtain ⟨cc, fr, g1, g2, g3, g4, g5⟩ := hbr
          refine ⟨cc, fr, g1, by simpa using g2, g3, fun i v v' q1 q2 => ?_, g5.1, fun hr hk => g5.2 hr (keysBox_map sh2_map hk)⟩
          simp only [List.getElem?_map, Option.map_eq_some_iff] at q1
          obtain ⟨z, hz, rfl⟩ := q1
          exact pt.two (g4 i z v' hz q2) (List.all_eq_true.1 h2 z (List.mem_of_getElem? hz))
        | map es cl ro =>
          obtain ⟨fs, g1, g2, g3⟩ := hbr
          refine ⟨fs, g1, by simpa using g2, fun i e ff q1 q2 => ?_⟩
          simp only [List.getElem?_map, Option.map_eq_some_iff] at q1
          obtain ⟨z, hz, rfl⟩ := q1
          obtain ⟨p1, p2, p3, p4⟩ := g3 i z ff hz q2
          exact ⟨p1, p2, pt.two p3 (List.all_eq_true.1 h2 z (List.mem_of_getElem? hz)), p4⟩
        | dead => trivial
      · cases hx
    · rename_i hc
      obtain ⟨o, ho, hbr⟩ := s.dom b x hx
      refine ⟨o, by rw [hov, if_neg hc]; exact ho, ?_⟩
      by_cases hd : o = .dead
      · subst hd; trivial
      · refine hbr.mono hle (bw.block _ (s.lt hx ?_))
        unfold live?; rw [ho]; cases o <;> first | rfl | exact absurd rfl hd
  · -- one block, one number
    have rwo : ∀ b, ¬ (hp.sz ≤ b ∧ b ≤ hp.sz + K.length) → rw? (ovr (heapOf (O ++ [.dead]) hp) h) b = rw? (ovr hp h) b := fun b hc => by unfold rw?; rw [hov, if_neg hc]
    have lio : ∀ b, ¬ (hp.sz ≤ b ∧ b ≤ hp.sz + K.length) → live? (ovr (heapOf (O ++ [.dead]) hp) h) b = live? (ovr hp h) b := fun b hc => by unfold live?; rw [hov, if_neg hc]
    intro b b' x x' hx hx' hr hl hxx
    rw [hj] at hx hx'
    split at hx
    · rename_i hc
      split at hx
      case h_2 => cases hx
      rename_i c hcK
      split at hx'
      · rename_i hc'
        split at hx'
        case h_2 => cases hx'
        rename_i c' hcK'
        obtain ⟨o, h1, _, h3, _⟩ := hblk _ c hcK
        obtain ⟨o', h1', _, h3', _⟩ := hblk _ c' hcK'
        rw [show hp.sz + (b - hp.sz) = b by omega] at h3
        rw [show hp.sz + (b' - hp.sz) = b' by omega] at h3'
        have hr' : rw? hpR.get c = true := by unfold rw? at hr ⊢; rw [h1]; rw [h3] at hr; cases o <;> exact hr
        have hl' : live? hpR.get c' = true := by unfold live? at hl ⊢; rw [h1']; rw [h3'] at hl; cases o' <;> exact hl
        have := hsim.inj c c' x x' hx hx' hr' hl' hxx
        subst this
        have := inj _ _ c hcK hcK'
        omega
      · rename_i hc'
        have h1 := hnew c (List.mem_of_getElem? hcK) x hx
        rw [lio b' hc'] at hl
        have h2 := s.lt hx' hl
        omega
    · rename_i hc
      rw [rwo b hc] at hr
      split at hx'
      · rename_i hc'
        split at hx'
        case h_2 => cases hx'
        rename_i c' hcK'
        have h1 := hnew c' (List.mem_of_getElem? hcK') x' hx'
        have h2 := s.lt hx (live_of_rw hr)
        omega
      · rename_i hc'
        rw [lio b' hc'] at hl
        exact s.inj b b' x x' hx hx' hr hl hxx
  · intro b x hx
    rw [hj] at hx
    split at hx
    · split at hx
      · rename_i c hcK; exact .inr (.inl (hnew c (List.mem_of_getElem? hcK) _ hx))
      · cases hx
    · exact .inl hx
  · intro b o ho hmb
    rw [hj]
    split
    · rename_i hc; rw [hnone b hc.1 hc.2] at ho; cases ho
    · exact hmb
  · intro b o ho hmb
    rw [hov]
    split
    · rename_i hc; rw [hnone b hc.1 hc.2] at ho; cases ho
    · exact ho
  · intro b o ho
    rw [hov]
    split
    · rename_i hc; rw [hnone b hc.1 hc.2] at ho; cases ho
    · exact ⟨o, ho⟩
  · intro b x hx hr
    have hc : ¬ (hp.sz ≤ b ∧ b ≤ hp.sz + K.length) := fun hc => by rw [hmn b hc.1 hc.2] at hx; cases hx
    unfold rw? at hr ⊢
    rwa [hov, if_neg hc] at hr
end Go.Proofs.Ytgeoommlmddgpaa.AI
