/- Soundness, 14: a step of a region that draws its order; the region. -/
import Derived.Test.YtjecepaaalfilaaAi17
set_option linter.unusedVariables false
set_option linter.unusedSimpArgs false
namespace Go.Proofs.Ytjecepaaalfilaa.AI
open Go

section
variable {P : Program} {call : CallF} {ops : Array Oper} {st : Nat → St} {v : Nat → Value} {N : Nat} {m0 : BM} {h0 : HG} {w0 : World}
variable (hs : ∀ i o, ops[i]? = some o → StepAt P call ops (st i) (st (i + 1)) (v i) o) (hc : CallOk P call) (hk : (st 0).hp.ok) (hsafe : Safe P ops)
include hs hc hk hsafe

omit hs hc hk hsafe in
/-- A step that turns no block. -/
theorem Nxt.still {S : Nat → Prop} {c : Nat} {m : BM} {h : HG} {w : World} {a : Act} (hsafe : Safe P ops) (I : Inv P ops st v N m0 h0 w0 S c m h w a) {i : Nat} {o : Oper} (n : Nxt P ops st S i o)
    (hb : ¬ Big P ops st i) (hp : ∀ b, ¬ PA P ops st v i b) (hd : ∀ x, o.dst = some x → x < N) {v' : Value} (hv : VRel m h (v i) v') :
    Inv P ops st v N m0 h0 w0 (fun x => S x ∨ x = i) c m h w (a.put o.dst v') := by
  refine ⟨?_, ?_, ?_, I.last, I.cn, I.hA, I.hB, I.hC, ?_, I.go, by rw [Act.size_put]; exact I.tsize, ?_, by rw [Act.defers_put]; exact I.df⟩
  · rintro x (hx | rfl)
    · exact I.dom x hx
    · exact (Array.getElem?_eq_some_iff.1 n.get).1
  · rintro j u ed (hj | rfl) hu he hbd
    · exact .inl (I.down j u ed hj hu he hbd)
    · rw [n.get] at hu; cases hu
      exact .inl (n.pre ed he hbd)
  · intro x hx
    refine ⟨fun q => .inl ((I.bigs x hx).1 q), fun q => ?_⟩
    rcases q with q | rfl
    · exact (I.bigs x hx).2 q
    · exact absurd hx hb
  · intro k u hu hS
    exact I.mat k u hu (fun q => hS (.inl q))
  · exact n.tmps (ds' := a.defers) hsafe I (Le.refl _ _) hv hd

theorem Nxt.step {S : Nat → Prop} {c : Nat} {m : BM} {h : HG} {w : World} {a : Act} (hf : FloatsOk P ops st v) (h0f : ∀ b, (st 0).hp.sz ≤ b → b < (st ops.size).hp.sz → h0 b = none)
    (I : Inv P ops st v N m0 h0 w0 S c m h w a) {i : Nat} {o : Oper} (n : Nxt P ops st S i o) (hok : okOp N o = true) {K : Act → World → Prop} {Q : Exit → Act → World → Prop}
    (hK : ∀ c' m' h' w' a', Inv P ops st v N m0 h0 w0 (fun x => S x ∨ x = i) c' m' h' w' a' → K a' w') : wpOp P ops Q i K a w := by
  obtain ⟨hb, hop⟩ := okOp_dst hok
  have hin : i < ops.size := (Array.getElem?_eq_some_iff.1 n.get).1
  have hnames : ∀ t, t ∈ tmpsOf ops o → VRel m h ((st i).tget t) (a.tmps.getD t undef) := fun t ht => n.names hs hsafe I ht
  have hwant : Region.wanted o (yielded ops a.tmps) = aWanted ops (st i) o := wanted_iff fun j wd t hg ht => hnames t (by simp [tmpsOf, hg, ht])
  have hops : ∀ x ∈ o.op.operands.toList, VRel m h ((st i).eval x) (a.eval x) := by
    intro x hx
    have hx' := hop x hx
    cases x with
    | tmp t => exact hnames t (by
        unfold tmpsOf
        simp only [List.mem_append]
        exact .inl (.inr (List.mem_filterMap.2 ⟨.tmp t, hx, rfl⟩)))
    | const u => exact VRel.plain hx'
    | global g => cases hx'
    | func f => exact VRel.fn f
  unfold wpOp
  rw [n.get]
  simp only [hwant]
  rcases hs i o n.get with ⟨hw, hv, _⟩ | ⟨hw, hp', df', hst, e⟩
  · -- passed over
    rw [hw]
    simp only [Bool.false_eq_true, if_false]
    refine hK c m h w _ (n.still hsafe I ?_ ?_ hb (by rw [hv]; exact VRel.undef))
    · rintro ⟨o', q1, q2, _⟩; rw [n.get] at q1; cases q1; rw [hw] at q2; cases q2
    · rintro b ⟨o', q1, q2, _⟩; rw [n.get] at q1; cases q1; rw [hw] at q2; cases q2
  · rw [hw]
    simp only [if_true]
    refine .inl ?_
    have hst0 := hst
    unfold aStep at hst
    split at hst
    · rename_i hcl
      have hnb : ¬ Big P ops st i := by rintro ⟨o', q1, _, q3⟩; rw [n.get] at q1; cases q1; rw [hcl] at q3; cases q3
      split at hst
      · -- no block
        rename_i v0 hopp
        cases hst
        obtain ⟨v', h1, h2⟩ : LaysN P m h w (st i).hp.sz none (v i) _ := opP_sound hopp hops
        unfold Oper.wp
        rw [h1, Oper.upon_value]
        refine hK c m h w _ (n.still hsafe I hnb ?_ hb h2)
        rintro b ⟨o', q1, q2, q3, q4⟩; rw [n.get] at q1; cases q1; rw [hopp] at q4; cases q4
      · -- a new block
        rename_i v0 b hopp
        cases hst
        have hPA : PA P ops st v i b := ⟨o, n.get, hw, hcl, hopp⟩
        obtain ⟨hm0, hh0⟩ := I.mat i b hPA n.new
        obtain ⟨v', obj, E, h1, h2, h3⟩ : LaysN P m h w (st i).hp.sz (some b) (v i) _ := opP_sound hopp hops
        have hupd : updH h (st i).hp.sz b = h := by
          funext x; unfold updH; split
          · rename_i e; rw [e, hh0]
          · rfl
        rw [hupd] at h2
        have h0s : ovr (st 0).hp h0 (st i).hp.sz = none := by
          have q1 := trace_sz hs hc hk i (Nat.zero_le _) (Nat.le_of_lt hin)
          have q2 := hPA.order hs hc hk hin (Nat.le_refl _)
          unfold ovr; rw [if_neg (by omega)]
          exact h0f _ q1 q2
        obtain ⟨g, l⟩ := mat_go I.go hh0 hm0 h0s h3
        unfold Oper.wp
        rw [h1, Oper.upon_value]
        refine hK c (updM m (st i).hp.sz (w.heap.size, 0, E)) h _ _ ⟨?_, ?_, ?_, I.last, I.cn, I.hA, I.hB, I.hC, ?_, g, by rw [Act.size_put]; exact I.tsize, n.tmps (ds' := a.defers) hsafe I l h2 hb, by rw [Act.defers_put]; exact I.df.mono l⟩
        · rintro x (hx | rfl)
          · exact I.dom x hx
          · exact hin
        · rintro j u ed (hj | rfl) hu he hbd
          · exact .inl (I.down j u ed hj hu he hbd)
          · rw [n.get] at hu; cases hu
            exact .inl (n.pre ed he hbd)
        · intro x hx
          refine ⟨fun q => .inl ((I.bigs x hx).1 q), fun q => ?_⟩
          rcases q with q | rfl
          · exact (I.bigs x hx).2 q
          · exact absurd hx hnb
        · intro k u hu hS
          obtain ⟨r1, r2⟩ := I.mat k u hu (fun q => hS (.inl q))
          refine ⟨?_, r2⟩
          have hne : (st k).hp.sz ≠ (st i).hp.sz := fun e => hS (.inr (hu.inj hs hc hk hPA e))
          unfold updM; rw [if_neg hne]; exact r1
      · cases hst
    · -- reads
      rename_i hcl
      have hnb : ¬ Big P ops st i := by rintro ⟨o', q1, _, q3⟩; rw [n.get] at q1; cases q1; rw [hcl] at q3; cases q3
      have hnp : ∀ b, ¬ PA P ops st v i b := by rintro b ⟨o', q1, _, q3, _⟩; rw [n.get] at q1; cases q1; rw [hcl] at q3; cases q3
      split at hst
      · rename_i v0 hopr
        cases hst
        have hok' : ∀ k, k ≤ ops.size → (st k).hp.ok := trace_ok hs hc hk
        have sub : ∀ k, c ≤ k → k ≤ ops.size → (∀ x, c ≤ x → x < k → ¬ Big P ops st x) → Sub (st k).hp.get h := by
          intro k h1 h2 h3 b ob hbo
          rw [I.agree hs hc hk h1 h2 h3 b ((hok' k h2).lt hbo)]
          exact hbo
        have hread : opR P (st i).eval h o = some (v i) := by
          by_cases hci : c ≤ i
          · by_cases hex : ∃ k, c ≤ k ∧ k < i ∧ Big P ops st k
            · -- the first great operation that is not done
              obtain ⟨k, r1, r2, r3, r4⟩ : ∃ k, c ≤ k ∧ k < i ∧ Big P ops st k ∧ ∀ x, c ≤ x → x < k → ¬ Big P ops st x := by
                obtain ⟨k, r1, r2, r3⟩ := hex
                have : ∀ d k, k < d → c ≤ k → k < i → Big P ops st k → ∃ k, c ≤ k ∧ k < i ∧ Big P ops st k ∧ ∀ x, c ≤ x → x < k → ¬ Big P ops st x := by
                  intro d
                  induction d with
                  | zero => intro k hk; omega
                  | succ d ih =>
                    intro k hkd h1 h2 h3
                    by_cases hx : ∃ x, c ≤ x ∧ x < k ∧ Big P ops st x
                    · obtain ⟨x, x1, x2, x3⟩ := hx
                      exact ih x (by omega) x1 (by omega) x3
                    · exact ⟨k, h1, h2, h3, fun x x1 x2 x3 => hx ⟨x, x1, x2, x3⟩⟩
                exact this _ k (Nat.lt_succ_self _) r1 r2 r3
              obtain ⟨ok, ho1, ho2, ho3⟩ := id r3
              have hnS : ¬ S k := fun q => by have := (I.bigs k r3).2 q; omega
              have hun : ((Region.before ops).getD i 0).testBit k = false := by
                cases hq : ((Region.before ops).getD i 0).testBit k with
                | false => rfl
                | true => exact absurd (n.anc hsafe I hq) hnS
              have := (hf i k o ok n.get ho1 hw ho2 hcl ho3 (by rw [if_neg (by omega)]; exact hun)).1 (by omega)
              exact opR_mono (sub k r1 (by omega) r4) this
            · exact opR_mono (sub i hci (Nat.le_of_lt hin) (fun x x1 x2 x3 => hex ⟨x, x1, x2, x3⟩)) hopr
          · -- great operations behind it are done
            rcases I.last with hl | ⟨k, hl, hkb⟩
            · omega
            · obtain ⟨ok, ho1, ho2, ho3⟩ := id hkb
              have hSk : S k := (I.bigs k hkb).1 (by omega)
              have hik : i < k := by
                rcases Nat.lt_or_ge i k with q | q
                · exact q
                · have : i = k := by omega
                  subst this; exact absurd hkb hnb
              have hun : ((Region.before ops).getD k 0).testBit i = false := by
                cases hq : ((Region.before ops).getD k 0).testBit i with
                | false => rfl
                | true => exact absurd (I.anc hsafe _ k i (Nat.lt_succ_self _) hSk hq) n.new
              have := (hf i k o ok n.get ho1 hw ho2 hcl ho3 (by rw [if_pos hik]; exact hun)).2 hik
              rw [← hl] at this
              exact opR_mono (sub c (Nat.le_refl _) I.cn (fun x x1 x2 => by omega)) this
        obtain ⟨v', h1, h2⟩ := opR_sound I.go.sim hread hops
        unfold Oper.wp
        rw [h1, Oper.upon_value]
        exact hK c m h w _ (n.still hsafe I hnb hnp hb h2)
      · cases hst
    · -- great ones
      rename_i hcl
      have hbig : Big P ops st i := ⟨o, n.get, hw, hcl⟩
      have hci : c ≤ i := by
        rcases Nat.lt_or_ge i c with q | q
        · exact absurd ((I.bigs i hbig).1 q) n.new
        · exact q
      have hq : ∀ k, c ≤ k → k < i → ¬ Big P ops st k := by
        intro k h1 h2 hkb
        obtain ⟨ok, ho1, ho2, ho3⟩ := id hkb
        rcases hsafe.pair k i ok o ho1 n.get h2 with q | q
        · have := (I.bigs k hkb).2 (n.anc hsafe I q); omega
        · exact q.2.2 ⟨ho3, hcl⟩
      have hag := I.agree hs hc hk hci (Nat.le_of_lt hin) hq
      have hfr := I.fresh hs hc hk hci hbig
      have hovr : ovr (st i).hp h = h := ovr_self hag
      have hdf : (st i).df = (st c).df := (quiet hs i hci (Nat.le_of_lt hin) hq).2.2.2
      obtain ⟨k1, k2, k3⟩ := step_sound hc hst0 (trace_ok hs hc hk i (Nat.le_of_lt hin))
      have e1 : (st (i + 1)).hp = hp' := by rw [e, tput_hp]
      have e2 : (st (i + 1)).df = df' := by rw [e, tput_df]
      rw [e1] at hfr
      refine k3 m h w a hfr (by rw [hovr]; exact I.go.sim) (by rw [hovr]; exact hops) (by rw [hovr, hdf]; exact I.df) K Q ?_
      intro m' w' v' ds' g hv hd
      rw [hovr] at g
      rw [← e1] at g hv hd
      have hszn : (st (i + 1)).hp.sz ≤ (st ops.size).hp.sz := trace_sz hs hc hk ops.size (by omega) (Nat.le_refl _)
      refine hK (i + 1) m' (ovr (st (i + 1)).hp h) w' _ ⟨?_, ?_, ?_, .inr ⟨i, rfl, hbig⟩, by omega, ?_, ?_, ?_, ?_, I.go.trans g, by rw [Act.size_put]; exact I.tsize, n.tmps hsafe I g.le hv hb, by rw [Act.defers_put, e2]; exact hd⟩
      · rintro x (hx | rfl)
        · exact I.dom x hx
        · exact hin
      · rintro j u ed (hj | rfl) hu he hbd
        · exact .inl (I.down j u ed hj hu he hbd)
        · rw [n.get] at hu; cases hu
          exact .inl (n.pre ed he hbd)
      · intro x hx
        refine ⟨fun q => ?_, fun q => ?_⟩
        · by_cases e : x = i
          · exact .inr e
          · refine .inl ((I.bigs x hx).1 ?_)
            rcases Nat.lt_or_ge x c with r | r
            · exact r
            · exact absurd hx (hq x r (by omega))
        · rcases q with q | rfl
          · have := (I.bigs x hx).2 q; omega
          · exact Nat.lt_succ_self _
      · intro b hbb; unfold ovr; rw [if_pos hbb]
      · intro b hbb
        unfold ovr; rw [if_neg (by omega)]
        exact I.hB b hbb
      · intro b hb1 hb2
        have hcb : (st c).hp.sz ≤ b := Nat.le_trans (trace_sz hs hc hk (i + 1) (by omega) (by omega)) hb1
        have hov : ovr (st (i + 1)).hp h b = h b := by unfold ovr; rw [if_neg (by omega)]
        rw [hov]
        rcases I.hC b hcb hb2 with ⟨k, u, r1, r2, r3, r4⟩ | r
        · refine .inl ⟨k, u, ?_, r2, r3, r4⟩
          rcases Nat.lt_trichotomy k i with q | q | q
          · have := r2.order hs hc hk q (Nat.le_of_lt hin)
            rw [← e1] at k2; omega
          · subst q; exact absurd hbig r2.notBig
          · exact q
        · exact .inr r
      · intro k u hu hS
        obtain ⟨r1, r2⟩ := I.mat k u hu (fun q => hS (.inl q))
        exact ⟨g.un _ _ r2 r1, g.idle _ _ r2 r1⟩

/-- Whatever comes up next: to the end of the region. -/
theorem any_sound (hf : FloatsOk P ops st v) (h0f : ∀ b, (st 0).hp.sz ≤ b → b < (st ops.size).hp.sz → h0 b = none) (hok : ∀ (i : Nat) (o : Oper), ops[i]? = some o → okOp N o = true) {Q : Exit → Act → World → Prop}
    (hQ : ∀ m' w' a', Go1 m0 (ovr (st 0).hp h0) w0 m' (ovr (st ops.size).hp h0) w' → Rel N m' h0 w' (st ops.size) a' → Q .normal a' w') :
    ∀ (fuel : Nat) (listed : Array Bool) (S : Nat → Prop) (c : Nat) (m : BM) (h : HG) (w : World) (a : Act), listed.size = ops.size → (∀ i, S i ↔ listed.getD i false = true) →
      (listed.toList.filter (! ·)).length = fuel → Inv P ops st v N m0 h0 w0 S c m h w a → wpAny P .any ops Q fuel listed a w := by
  have hend : ∀ (listed : Array Bool) (S : Nat → Prop) (c : Nat) (m : BM) (h : HG) (w : World) (a : Act), listed.size = ops.size → (∀ i, S i ↔ listed.getD i false = true) →
      Inv P ops st v N m0 h0 w0 S c m h w a → Region.ready .any ops listed = [] → Q .normal a w := by
    intro listed S c m h w a hl hS I hr
    have hall : ∀ d i, i < d → i < ops.size → S i := by
      intro d
      induction d with
      | zero => intro i hi; omega
      | succ d ih =>
        intro i hi hin
        by_cases hSi : S i
        · exact hSi
        · exfalso
          have : i ∈ Region.ready .any ops listed := by
            rw [mem_ready]
            refine ⟨?_, ops[i], Array.getElem?_eq_getElem hin, fun e he hb => ?_⟩
            · have h1 : listed.getD i false = false := by
                cases hq : listed.getD i false with
                | false => rfl
                | true => exact absurd ((hS i).2 hq) hSi
              have hil : i < listed.size := by omega
              simp only [Array.getD_eq_getD_getElem?, Array.getElem?_eq_getElem hil, Option.getD_some] at h1 ⊢
              exact h1
            · have hlt := hsafe.after i _ e (Array.getElem?_eq_getElem hin) (Array.mem_toList_iff.2 he) hb
              exact (hS e.on).1 (ih e.on (by omega) (by omega))
          rw [hr] at this; cases this
    have hSall : ∀ i, i < ops.size → S i := fun i hi => hall _ i (Nat.lt_succ_self _) hi
    have hq : ∀ k, c ≤ k → k < ops.size → ¬ Big P ops st k := fun k h1 h2 hb => by
      have := (I.bigs k hb).2 (hSall k h2); omega
    have hag := I.agree hs hc hk I.cn (Nat.le_refl _) hq
    have hh : ovr (st ops.size).hp h0 = h := by
      funext b; unfold ovr
      split
      · rename_i hb; exact (hag b hb).symm
      · rename_i hb; exact (I.hB b (by omega)).symm
    have hdf : (st ops.size).df = (st c).df := (quiet hs ops.size I.cn (Nat.le_refl _) hq).2.2.2
    refine hQ m w a (by rw [hh]; exact I.go) ⟨by rw [hh]; exact I.go.sim, ⟨I.tsize, fun t => ?_⟩, by rw [hh, hdf]; exact I.df⟩
    rw [hh]
    rcases I.tm t with ⟨j, oj, h1, h2, h3, h4, h5⟩ | ⟨h1, h2⟩
    · rcases tget_at hs t ops.size (Nat.le_refl _) with ⟨j', oj', q1, q2, q3, q4, q5⟩ | ⟨q1, q2⟩
      · have a1 := h4 j' oj' (hSall j' q1) q2 q3
        have a2 := q4 j oj (I.dom j h1) h2 h3
        have : j' = j := by omega
        subst this
        rw [q5]; exact h5
      · exact absurd h3 (q1 j oj (I.dom j h1) h2)
    · rcases tget_at hs t ops.size (Nat.le_refl _) with ⟨j', oj', q1, q2, q3, q4, q5⟩ | ⟨q1, q2⟩
      · exact absurd q3 (h1 j' oj' (hSall j' q1) q2)
      · rw [q2]; exact h2
  intro fuel
  induction fuel with
  | zero =>
    intro listed S c m h w a hl hS hn I
    have hr : Region.ready .any ops listed = [] := by
      apply List.eq_nil_iff_forall_not_mem.2
      intro i hi
      rw [mem_ready] at hi
      obtain ⟨h1, o, ho, _⟩ := hi
      have hin : i < listed.size := by rw [hl]; exact (Array.getElem?_eq_some_iff.1 ho).1
      simp only [Array.getD_eq_getD_getElem?, Array.getElem?_eq_getElem hin, Option.getD_some] at h1
      have : listed[i] ∈ listed.toList.filter (! ·) := List.mem_filter.2 ⟨by simp, by rw [h1]; rfl⟩
      rw [List.eq_nil_of_length_eq_zero hn] at this
      cases this
    exact ⟨hr, hend listed S c m h w a hl hS I hr⟩
  | succ fuel ih =>
    intro listed S c m h w a hl hS hn I
    refine ⟨hend listed S c m h w a hl hS I, fun i hi => ?_⟩
    rw [mem_ready] at hi
    obtain ⟨h1, o, ho, hpre⟩ := hi
    have hin : i < listed.size := by rw [hl]; exact (Array.getElem?_eq_some_iff.1 ho).1
    have h1' : listed[i] = false := by
      simpa only [Array.getD_eq_getD_getElem?, Array.getElem?_eq_getElem hin, Option.getD_some] using h1
    have hnew : ¬ S i := fun q => by
      have := (hS i).1 q
      simp only [Array.getD_eq_getD_getElem?, Array.getElem?_eq_getElem hin, Option.getD_some, h1'] at this
      cases this
    have n : Nxt P ops st S i o := ⟨hnew, ho, fun e he hb => (hS e.on).2 (hpre e (Array.mem_toList_iff.1 he) hb)⟩
    refine n.step hs hc hk hsafe hf h0f I (hok i o ho) ?_
    intro c' m' h' w' a' I'
    refine ih _ _ c' m' h' w' a' (by simp [hl]) ?_ ?_ I'
    · intro x
      by_cases e : x = i
      · subst e; simp [hin]
      · rw [getD_set_ne false (Ne.symm e)]
        simp [e, hS x]
    · have hset : (listed.setIfInBounds i true).toList = listed.toList.set i true := by simp
      rw [hset]
      have key : ∀ (l : List Bool) (i : Nat), l[i]? = some false → ((l.set i true).filter (! ·)).length + 1 = (l.filter (! ·)).length := by
        intro l
        induction l with
        | nil => intro i hi; simp at hi
        | cons b l ih =>
          intro i hi
          cases i with
          | zero => simp at hi; subst hi; simp
          | succ i =>
            have := ih i (by simpa using hi)
            cases b <;> simp at this ⊢ <;> omega
      have := key listed.toList i (by rw [Array.getElem?_toList, Array.getElem?_eq_getElem hin, h1'])
      omega
end

open Classical in
/-- The heap at a region's beginning, with the blocks that its small operations will lay. -/
noncomputable def ahead (P : Program) (ops : Array Oper) (st : Nat → St) (v : Nat → Value) (h0 : HG) : HG := fun b =>
  if b < (st 0).hp.sz then (st 0).hp.get b else if h : ∃ k o, PA P ops st v k o ∧ (st k).hp.sz = b then some h.choose_spec.choose else h0 b

theorem region_draw {P : Program} {call : CallF} (hc : CallOk P call) (hm : P.follows .mixedOrders = true) {ops : Array Oper} {n id : Nat} {st0 st' : St} (hok : ops.toList.all (okOp n) = true) (hsafe : regSafe P ops = true) (he : aRegion P call ops true st0 = some st') (hk : st0.hp.ok) :
    RegionGoal P n id ops true st0 st' := by
  obtain ⟨st, v, e0, en, hs, hf⟩ := aRegion_trace he
  subst e0
  subst en
  have hok' : ∀ i o, ops[i]? = some o → okOp n o = true := fun i o ho => List.all_eq_true.1 hok o (List.mem_of_getElem? (by simpa using ho))
  refine ⟨trace_ok hs hc hk _ (Nat.le_refl _), trace_sz hs hc hk _ (Nat.zero_le _) (Nat.le_refl _), fun m0 h0 w a hfr r Q hQ => ?_⟩
  refine wp_region_any hm ?_
  have hS := regSafe_safe hsafe
  have hPAlt : ∀ k o, PA P ops st v k o → (st 0).hp.sz ≤ (st k).hp.sz ∧ (st k).hp.sz < (st ops.size).hp.sz := fun k o hp =>
    ⟨trace_sz hs hc hk k (Nat.zero_le _) (Nat.le_of_lt hp.lt), hp.order hs hc hk hp.lt (Nat.le_refl _)⟩
  have hah : ∀ k o, PA P ops st v k o → ahead P ops st v h0 (st k).hp.sz = some o := by
    intro k o hp
    unfold ahead
    have hex : ∃ k' o', PA P ops st v k' o' ∧ (st k').hp.sz = (st k).hp.sz := ⟨k, o, hp, rfl⟩
    rw [if_neg (by have := hPAlt k o hp; omega), dif_pos hex]
    obtain ⟨q1, q2⟩ := hex.choose_spec.choose_spec
    have := q1.inj hs hc hk hp q2
    congr 1
    generalize hg : hex.choose_spec.choose = o' at q1 ⊢
    rw [this] at q1
    exact q1.uniq hp
  have hext : ∀ b o, ovr (st 0).hp h0 b = some o → ahead P ops st v h0 b = some o := by
    intro b o hb
    unfold ovr at hb
    unfold ahead
    split at hb
    · rename_i hlt; rw [if_pos hlt]; exact hb
    · rename_i hlt
      rw [if_neg hlt, dif_neg ?_]
      · exact hb
      · rintro ⟨k, o', hp, hsz⟩
        have := hPAlt k o' hp
        rw [hfr b (by omega) (by omega)] at hb
        cases hb
  have hmn : ∀ b x, m0 b = some x → ∃ o, ovr (st 0).hp h0 b = some o := fun b x hx => by
    obtain ⟨o, ho, _⟩ := r.sim.dom b x hx; exact ⟨o, ho⟩
  have hsame : ∀ b x, m0 b = some x → ahead P ops st v h0 b = ovr (st 0).hp h0 b := fun b x hx => by
    obtain ⟨o, ho⟩ := hmn b x hx
    rw [ho, hext b o ho]
  have hle : Le m0 (ovr (st 0).hp h0) m0 (ahead P ops st v h0) := ⟨fun b hb => hext b _ hb, fun b x hx => .inr hx⟩
  have hgo : Go1 m0 (ovr (st 0).hp h0) w m0 (ahead P ops st v h0) { w with drawn := w.drawn + 1 } := by
    refine ⟨hle, ⟨fun b x hx => ?_, fun b b' x x' hx hx' hr hl hxx => ?_⟩, Nat.le_refl _, fun _ _ hx => .inl hx, fun _ _ _ => rfl, fun _ _ _ hm => hm, fun b o hb _ => hext b o hb, fun b o hb => ⟨o, hext b o hb⟩, fun b x hx hr => ?_, rfl, rfl, rfl⟩
    · obtain ⟨o, ho, hb⟩ := r.sim.dom b x hx
      exact ⟨o, hext b o ho, hb.mono hle rfl⟩
    · refine r.sim.inj b b' x x' hx hx' ?_ ?_ hxx
      · unfold rw? at hr ⊢; rwa [hsame b x hx] at hr
      · unfold live? at hl ⊢; rwa [hsame b' x' hx'] at hl
    · unfold rw? at hr ⊢; rwa [hsame b x hx] at hr
  refine any_sound hs hc hk hS hf hfr hok' (m0 := m0) (w0 := w) hQ ops.size (Array.replicate ops.size false) (fun _ => False) 0 m0 (ahead P ops st v h0) _ a (by simp) ?_ ?_ ?_
  · intro i
    constructor
    · intro q; cases q
    · intro q
      by_cases hi : i < ops.size <;> simp [hi] at q
  · simp
  · refine ⟨fun i q => q.elim, fun j o e q => q.elim, fun i _ => ⟨fun q => absurd q (Nat.not_lt_zero _), fun q => q.elim⟩, .inl rfl, Nat.zero_le _, ?_, ?_, ?_, ?_, hgo, r.tm.size, ?_, r.df.mono hle⟩
    · intro b hb; unfold ahead; rw [if_pos hb]
    · intro b hb
      have h1 := trace_sz hs hc hk ops.size (Nat.zero_le _) (Nat.le_refl _)
      unfold ahead
      rw [if_neg (by omega), dif_neg ?_]
      rintro ⟨k, o, hp, hsz⟩
      have := hPAlt k o hp; omega
    · intro b h1 h2
      by_cases hex : ∃ k o, PA P ops st v k o ∧ (st k).hp.sz = b
      · obtain ⟨k, o, hp, hsz⟩ := hex
        exact .inl ⟨k, o, Nat.zero_le _, hp, hsz, by rw [← hsz]; exact hah k o hp⟩
      · refine .inr ⟨fun k o hp hsz => hex ⟨k, o, hp, hsz⟩, ?_⟩
        unfold ahead
        rw [if_neg (by omega), dif_neg hex]
        exact hfr b h1 h2
    · intro k o hp _
      refine ⟨?_, hah k o hp⟩
      cases hq : m0 (st k).hp.sz with
      | none => rfl
      | some x =>
        obtain ⟨o', ho'⟩ := hmn _ x hq
        have := hPAlt k o hp
        unfold ovr at ho'
        rw [if_neg (by omega), hfr _ this.1 this.2] at ho'
        cases ho'
    · intro t
      exact .inr ⟨fun j oj q => q.elim, (r.tm.mono hle).tm t⟩
end Go.Proofs.Ytjecepaaalfilaa.AI
