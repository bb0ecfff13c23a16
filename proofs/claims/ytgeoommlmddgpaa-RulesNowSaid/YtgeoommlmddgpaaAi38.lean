/- Behind a call that may have written its caller's rows: these are given up, and new ones are laid. -/
import Derived.Test.YtgeoommlmddgpaaAi37
set_option linter.unusedVariables false
set_option linter.unusedSimpArgs false
namespace Go.Proofs.Ytgeoommlmddgpaa.AI
open Go Go.RowKit

def killL : List Nat → Hp → Hp
  | [], h => h
  | b :: bs, h => killL bs (h.put b .dead)
theorem killL_sz : ∀ (D : List Nat) (h : Hp), (killL D h).sz = h.sz
  | [], h => rfl
  | b :: bs, h => by rw [killL, killL_sz bs, Hp.sz_put]
theorem killL_get : ∀ (D : List Nat) (h : Hp) (b : Nat), (killL D h).get b = if b ∈ D then some .dead else h.get b
  | [], h, b => by simp [killL]
  | c :: bs, h, b => by
    rw [killL, killL_get bs, Hp.get_put]
    by_cases h1 : b = c
    · subst h1; simp
    · by_cases h2 : b ∈ bs <;> simp [h1, h2]
def rowsOf (m : BM) (D : List Nat) (r : Nat) : Prop := ∃ b ∈ D, ∃ x, m b = some x ∧ x.1 = r
set_option maxHeartbeats 2000000 in
theorem join_kill {m m' : BM} {hp hpR : Hp} {h : HG} {w w' : World} {K D : List Nat} (hkk : hp.ok) (s : Sim m (ovr hp h) w) (hDD : ∀ b ∈ D, (∃ o, hp.get b = some o ∧ rwB o = true) ∧ ∃ x, m b = some x) (bw : Keeps ⟨w, rowsOf m D⟩ w') (hsim : Sim m' hpR.get w') (hK : nodupB K = true)
    (hok : ∀ b ∈ K, ∃ o, hpR.get b = some o ∧ okBlk o = true) (hnew : ∀ b ∈ K, ∀ x, m' b = some x → w.heap.size ≤ x.1 ∨ rowsOf m D x.1) (hfr : ∀ b, hp.sz ≤ b → b ≤ hp.sz + K.length → h b = none) {v0 v' : Value}
    (rv : VRel m' hpR.get v0 v') (hok1 : ok3 v0 = true) :
    Go1 m (ovr hp h) w (joinM m m' K hp.sz) (ovr (heapOf (outOf K hp.sz hpR ++ [.dead]) (killL D hp)) h) w' ∧ VRel (joinM m m' K hp.sz) (ovr (heapOf (outOf K hp.sz hpR ++ [.dead]) (killL D hp)) h) (sh3 K hp.sz v0) v' := by
  have hlen : (outOf K hp.sz hpR).length = K.length := by simp [outOf]
  have hsz' : (heapOf (outOf K hp.sz hpR ++ [.dead]) (killL D hp)).sz = hp.sz + (K.length + 1) := by rw [heapOf_sz, killL_sz]; simp [hlen]
  have inj : ∀ (i j b : Nat), K[i]? = some b → K[j]? = some b → i = j := fun i j b => nodup_inj hK
  have e2 : outOf K hp.sz hpR = K.map fun b => shBlk K hp.sz ((hpR.get b).getD .dead) := rfl
  generalize outOf K hp.sz hpR = O at *
  have hDlt : ∀ b ∈ D, b < hp.sz := fun b hb => by
    obtain ⟨⟨o, ho, _⟩, _⟩ := hDD b hb
    rcases Nat.lt_or_ge b hp.sz with h1 | h1
    · exact h1
    · rw [hkk b h1] at ho; cases ho
  have hrwD : ∀ b ∈ D, rw? (ovr hp h) b = true := fun b hb => by
    obtain ⟨⟨o, ho, hr⟩, _⟩ := hDD b hb
    unfold rw?
    rw [ovr_sub hkk h b o ho]
    cases o <;> exact hr
  have hget : ∀ b, (heapOf (O ++ [.dead]) (killL D hp)).get b = if b < hp.sz then (killL D hp).get b else match (O ++ [Blk.dead])[b - hp.sz]? with | some o => some o | none => (killL D hp).get b := fun b => by
    have := heapOf_get (O ++ [.dead]) (killL D hp) b
    rw [killL_sz] at this
    exact this
  have hov : ∀ b, ovr (heapOf (O ++ [.dead]) (killL D hp)) h b = if hp.sz ≤ b ∧ b ≤ hp.sz + K.length then (O ++ [Blk.dead])[b - hp.sz]? else if b ∈ D then some .dead else ovr hp h b := by
    intro b
    unfold ovr
    rw [hsz']
    by_cases h1 : b < hp.sz
    · rw [if_pos (by omega), if_neg (by omega), if_pos h1, hget, if_pos h1, killL_get]
    · have h3 : b ∉ D := fun hb => h1 (hDlt b hb)
      rw [if_neg h3]
      by_cases h2 : b ≤ hp.sz + K.length
      · rw [if_pos (by omega), if_pos ⟨by omega, h2⟩, hget, if_neg h1]
        have : b - hp.sz < (O ++ [Blk.dead]).length := by simp [hlen]; omega
        rw [List.getElem?_eq_getElem this]
      · rw [if_neg (by omega), if_neg (by omega), if_neg h1]
  have hnone : ∀ b, hp.sz ≤ b → b ≤ hp.sz + K.length → ovr hp h b = none := by
    intro b h1 h2
    unfold ovr
    rw [if_neg (by omega)]
    exact hfr b h1 h2
  have hmn : ∀ b, hp.sz ≤ b → b ≤ hp.sz + K.length → m b = none := by
    intro b h1 h2
    cases e : m b with
    | none => rfl
    | some x => obtain ⟨o, ho, _⟩ := s.dom b x e; rw [hnone b h1 h2] at ho; cases ho
  have hD : ovr (heapOf (O ++ [.dead]) (killL D hp)) h (hp.sz + K.length) = some .dead := by
    rw [hov, if_pos (by omega)]
    rw [show hp.sz + K.length - hp.sz = O.length by omega]; simp
  have hj : ∀ b, joinM m m' K hp.sz b = if hp.sz ≤ b ∧ b ≤ hp.sz + K.length then (match K[b - hp.sz]? with | some c => m' c | none => none) else m b := fun _ => rfl
  have hblk : ∀ i b, K[i]? = some b → ∃ o, hpR.get b = some o ∧ okBlk o = true ∧ ovr (heapOf (O ++ [.dead]) (killL D hp)) h (hp.sz + i) = some (shBlk K hp.sz o) ∧ joinM m m' K hp.sz (hp.sz + i) = m' b := by
    intro i b hi
    have hlt : i < K.length := (List.getElem?_eq_some_iff.1 hi).1
    obtain ⟨o, hg, ho⟩ := hok b (List.mem_of_getElem? hi)
    refine ⟨o, hg, ho, ?_, ?_⟩
    · rw [hov, if_pos (by omega), show hp.sz + i - hp.sz = i by omega, List.getElem?_append_left (by omega), e2, List.getElem?_map, hi]
      simp [hg]
    · rw [hj, if_pos (by omega), show hp.sz + i - hp.sz = i by omega, hi]
  have pt : PT m' hpR.get (joinM m m' K hp.sz) (ovr (heapOf (O ++ [.dead]) (killL D hp)) h) K hp.sz := by
    intro b Q hq
    unfold rho
    cases hi : idxOf b K 0 with
    | none => exact .inl hD
    | some j =>
      obtain ⟨k, rfl, hk⟩ := idxOf_some hi
      simp only [Nat.zero_add, Option.getD_some]
      obtain ⟨o, h1, _, h2, h3⟩ := hblk k b hk
      rcases hq with hq | hq
      · rw [hq] at h1; cases h1
        exact .inl h2
      · exact .inr ⟨hq, h3⟩
  have hle : Le m (ovr hp h) (joinM m m' K hp.sz) (ovr (heapOf (O ++ [.dead]) (killL D hp)) h) := by
    constructor
    · intro b hb
      rw [hov]
      split
      · rename_i hc; rw [hnone b hc.1 hc.2] at hb; cases hb
      · split
        · rfl
        · exact hb
    · intro b y hb
      refine .inr ?_
      rw [hj]
      split
      · rename_i hc; rw [hmn b hc.1 hc.2] at hb; cases hb
      · exact hb
  have hfree : ∀ b x, m b = some x → b ∉ D → live? (ovr hp h) b = true → ¬ rowsOf m D x.1 := fun b x hx hb hl ⟨b0, hb0, x0, hx0, e⟩ => by
    have := s.inj b0 b x0 x hx0 hx (hrwD b0 hb0) hl e
    subst this
    exact hb hb0
  refine ⟨⟨hle, ⟨?_, ?_⟩, bw.size, ?_, fun k hk hn => bw.block k hk (fun ⟨b0, hb0, x0, hx0, e⟩ => hn b0 x0 hx0 (hrwD b0 hb0) e), ?_, ?_, ?_, ?_, bw.os, bw.tape, bw.output⟩, pt.three rv hok1⟩
  · -- the blocks
    intro b x hx
    rw [hj] at hx
    split at hx
    · rename_i hc
      split at hx
      · rename_i c hcK
        obtain ⟨o, h1, h2, h3, _⟩ := hblk _ c hcK
        rw [show hp.sz + (b - hp.sz) = b by omega] at h3
        refine ⟨_, h3, ?_⟩
        obtain ⟨o', ho', hbr⟩ := hsim.dom c x hx
        rw [h1] at ho'; cases ho'
        cases o with
        | cells ty cs ro =>
          obtain ⟨cc, fr, g1, g2, g3, g4, g5⟩ := hbr
          refine ⟨cc, fr, g1, by simpa using g2, g3, fun i v v' q1 q2 => ?_, g5.1, fun hr hk => g5.2 hr (keysBox_map sh2_map hk)⟩
          simp only [List.getElem?_map, Option.map_eq_some_iff] at q1
          obtain ⟨z, hz, rfl⟩ := q1
          exact pt.two (g4 i z v' hz q2) (List.all_eq_true.1 h2 z (List.mem_of_getElem? hz))
        | map es cl ro =>
          obtain ⟨fs, g1, g2, g3⟩ := hbr
          refine ⟨fs, g1, by simpa using g2, fun i e ff q1 q2 => ?_⟩
          simp only [List.getElem?_map, Option.map_eq_some_iff] at q1
          obtain ⟨z, hz, rfl⟩ := q1
          obtain ⟨p1, p2, p3, p4⟩ := g3 i z ff hz q2
          exact ⟨p1, p2, pt.two p3 (List.all_eq_true.1 h2 z (List.mem_of_getElem? hz)), p4⟩
        | dead => trivial
      · cases hx
    · rename_i hc
      by_cases hbD : b ∈ D
      · exact ⟨.dead, by rw [hov, if_neg hc, if_pos hbD], trivial⟩
      · obtain ⟨o, ho, hbr⟩ := s.dom b x hx
        refine ⟨o, by rw [hov, if_neg hc, if_neg hbD]; exact ho, ?_⟩
        by_cases hd : o = .dead
        · subst hd; trivial
        · have hl : live? (ovr hp h) b = true := by unfold live?; rw [ho]; cases o <;> first | rfl | exact absurd rfl hd
          exact hbr.mono hle (bw.block _ (s.lt hx hl) (hfree b x hx hbD hl))
  · -- one block, one number
    have rwo : ∀ b, ¬ (hp.sz ≤ b ∧ b ≤ hp.sz + K.length) → rw? (ovr (heapOf (O ++ [.dead]) (killL D hp)) h) b = true → b ∉ D ∧ rw? (ovr hp h) b = true := fun b hc hr => by
      unfold rw? at hr ⊢
      rw [hov, if_neg hc] at hr
      split at hr
      · rename_i h1
        split at h1
        · cases h1
        · rename_i h2; exact ⟨h2, by rw [h1]; exact hr⟩
      · rename_i h1
        split at h1
        · cases h1
        · rename_i h2; exact ⟨h2, by rw [h1]; exact hr⟩
      · cases hr
    have lio : ∀ b, ¬ (hp.sz ≤ b ∧ b ≤ hp.sz + K.length) → live? (ovr (heapOf (O ++ [.dead]) (killL D hp)) h) b = true → b ∉ D ∧ live? (ovr hp h) b = true := fun b hc hl => by
      unfold live? at hl ⊢
      rw [hov, if_neg hc] at hl
      by_cases h2 : b ∈ D
      · rw [if_pos h2] at hl; cases hl
      · rw [if_neg h2] at hl; exact ⟨h2, hl⟩
    intro b b' x x' hx hx' hr hl hxx
    rw [hj] at hx hx'
    split at hx
    · rename_i hc
      split at hx
      case h_2 => cases hx
      rename_i c hcK
      split at hx'
      · rename_i hc'
        split at hx'
        case h_2 => cases hx'
        rename_i c' hcK'
        obtain ⟨o, h1, _, h3, _⟩ := hblk _ c hcK
        obtain ⟨o', h1', _, h3', _⟩ := hblk _ c' hcK'
        rw [show hp.sz + (b - hp.sz) = b by omega] at h3
        rw [show hp.sz + (b' - hp.sz) = b' by omega] at h3'
        have hr' : rw? hpR.get c = true := by unfold rw? at hr ⊢; rw [h1]; rw [h3] at hr; cases o <;> exact hr
        have hl' : live? hpR.get c' = true := by unfold live? at hl ⊢; rw [h1']; rw [h3'] at hl; cases o' <;> exact hl
        have := hsim.inj c c' x x' hx hx' hr' hl' hxx
        subst this
        have := inj _ _ c hcK hcK'
        omega
      · rename_i hc'
        obtain ⟨hnD, hl⟩ := lio b' hc' hl
        have h2 := s.lt hx' hl
        rcases hnew c (List.mem_of_getElem? hcK) x hx with h1 | h1
        · omega
        · rw [hxx] at h1; exact absurd h1 (hfree b' x' hx' hnD hl)
    · rename_i hc
      obtain ⟨hnD, hr⟩ := rwo b hc hr
      split at hx'
      · rename_i hc'
        split at hx'
        case h_2 => cases hx'
        rename_i c' hcK'
        have h2 := s.lt hx (live_of_rw hr)
        rcases hnew c' (List.mem_of_getElem? hcK') x' hx' with h1 | h1
        · omega
        · rw [← hxx] at h1; exact absurd h1 (hfree b x hx hnD (live_of_rw hr))
      · rename_i hc'
        exact s.inj b b' x x' hx hx' hr (lio b' hc' hl).2 hxx
  · intro b x hx
    rw [hj] at hx
    split at hx
    · split at hx
      · rename_i c hcK
        rcases hnew c (List.mem_of_getElem? hcK) _ hx with h1 | ⟨b0, hb0, x0, hx0, e⟩
        · exact .inr (.inl h1)
        · exact .inr (.inr ⟨b0, x0, hx0, hrwD b0 hb0, e⟩)
      · cases hx
    · exact .inl hx
  · intro b o ho hmb
    rw [hj]
    split
    · rename_i hc; rw [hnone b hc.1 hc.2] at ho; cases ho
    · exact hmb
  · intro b o ho hmb
    rw [hov]
    split
    · rename_i hc; rw [hnone b hc.1 hc.2] at ho; cases ho
    · split
      · rename_i hbD
        obtain ⟨_, x, hx⟩ := hDD b hbD
        rw [hmb] at hx; cases hx
      · exact ho
  · intro b o ho
    rw [hov]
    split
    · rename_i hc; rw [hnone b hc.1 hc.2] at ho; cases ho
    · split
      · exact ⟨_, rfl⟩
      · exact ⟨o, ho⟩
  · intro b x hx hr
    have hc : ¬ (hp.sz ≤ b ∧ b ≤ hp.sz + K.length) := fun hc => by rw [hmn b hc.1 hc.2] at hx; cases hx
    unfold rw? at hr ⊢
    rw [hov, if_neg hc] at hr
    by_cases hbD : b ∈ D
    · rw [if_pos hbD] at hr; cases hr
    · rw [if_neg hbD] at hr; exact hr
end Go.Proofs.Ytgeoommlmddgpaa.AI
