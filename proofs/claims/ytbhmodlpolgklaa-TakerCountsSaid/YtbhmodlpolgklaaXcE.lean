/- Part 5. -/
import Derived.Test.YtbhmodlpolgklaaXcD
import Derived.Shelf.SlSortCmp.Whole1
set_option linter.unusedVariables false
set_option linter.unusedSimpArgs false
set_option maxRecDepth 100000
namespace Go.Proofs.Ytbhmodlpolgklaa.Tk
open Go Go.Proofs Go.Proofs.Ytbhmodlpolgklaa.AI Go.RowKit Go.Shelf
variable [Inhabited Prop]
def soF : Nat → Nat
  | 6 => 32
  | 14 => 45
  | 15 => 46
  | 20 => 55
  | 21 => 56
  | 22 => 57
  | 23 => 58
  | 24 => 59
  | 25 => 60
  | 26 => 61
  | 27 => 62
  | 28 => 63
  | 29 => 64
  | 46 => 76
  | 47 => 77
  | 48 => 78
  | 49 => 79
  | 50 => 80
  | 57 => 89
  | n => n
def soT : Nat → Nat
  | 22 => 82
  | 24 => 85
  | 25 => 87
  | 39 => 100
  | 45 => 111
  | 46 => 112
  | 50 => 116
  | 53 => 54
  | 55 => 120
  | 66 => 131
  | 70 => 135
  | 76 => 141
  | 77 => 142
  | n => n
def soR : Ren := ⟨soF, soT, fun n => n⟩
omit [Inhabited Prop] in
theorem soL : SlLaysF.n6 Try.prog soR where
  mixed := follows
  f6 := ⟨Try.f32.name, by kernel_rfl, by kernel_rfl⟩
  f14 := ⟨Try.f45.name, by kernel_rfl, by kernel_rfl⟩
  f15 := by kernel_rfl
  f20 := ⟨Try.f55.name, by kernel_rfl, by kernel_rfl⟩
  f21 := ⟨Try.f56.name, by kernel_rfl, by kernel_rfl⟩
  f22 := ⟨Try.f57.name, by kernel_rfl, by kernel_rfl⟩
  f23 := ⟨Try.f58.name, by kernel_rfl, by kernel_rfl⟩
  f24 := ⟨Try.f59.name, by kernel_rfl, by kernel_rfl⟩
  f25 := ⟨Try.f60.name, by kernel_rfl, by kernel_rfl⟩
  f26 := ⟨Try.f61.name, by kernel_rfl, by kernel_rfl⟩
  f27 := ⟨Try.f62.name, by kernel_rfl, by kernel_rfl⟩
  f28 := by kernel_rfl
  f29 := by kernel_rfl
  f46 := ⟨Try.f76.name, by kernel_rfl, by kernel_rfl⟩
  f47 := by kernel_rfl
  f48 := by kernel_rfl
  f49 := ⟨Try.f79.name, by kernel_rfl, by kernel_rfl⟩
  f50 := ⟨Try.f80.name, by kernel_rfl, by kernel_rfl⟩
  f57 := ⟨Try.f89.name, by kernel_rfl, by kernel_rfl⟩
  t0 := by kernel_rfl
  a0 := fun w => by kernel_rfl
  z0 := fun w => by kernel_rfl
  v0 := fun w => by kernel_rfl
  t3 := by kernel_rfl
  a3 := fun w => by kernel_rfl
  z3 := fun w => by kernel_rfl
  v3 := fun w => by kernel_rfl
  t4 := by kernel_rfl
  a4 := fun w => by kernel_rfl
  z4 := fun w => by kernel_rfl
  v4 := fun w => by kernel_rfl
  t5 := by kernel_rfl
  a5 := fun w => by kernel_rfl
  z5 := fun w => by kernel_rfl
  v5 := fun w => by kernel_rfl
  t9 := by kernel_rfl
  a9 := fun w => by kernel_rfl
  z9 := fun w => by kernel_rfl
  v9 := fun w => by kernel_rfl
  t22 := by kernel_rfl
  a22 := fun w => by kernel_rfl
  z22 := fun w => by kernel_rfl
  v22 := fun w => by kernel_rfl
  a24 := fun w => by kernel_rfl
  z24 := fun w => by kernel_rfl
  t25 := by kernel_rfl
  a25 := fun w => by kernel_rfl
  z25 := fun w => by kernel_rfl
  v25 := fun w => by kernel_rfl
  t39 := by kernel_rfl
  a39 := fun w => by kernel_rfl
  z39 := fun w => by kernel_rfl
  v39 := fun w => by kernel_rfl
  t45 := by kernel_rfl
  a45 := fun w => by kernel_rfl
  z45 := fun w => by kernel_rfl
  v45 := fun w => by kernel_rfl
  t46 := by kernel_rfl
  a46 := fun w => by kernel_rfl
  z46 := fun w => by kernel_rfl
  v46 := fun w => by kernel_rfl
  t50 := by kernel_rfl
  a50 := fun w => by kernel_rfl
  z50 := fun w => by kernel_rfl
  v50 := fun w => by kernel_rfl
  t53 := by kernel_rfl
  a53 := fun w => by kernel_rfl
  z53 := fun w => by kernel_rfl
  v53 := fun w => by kernel_rfl
  t55 := by kernel_rfl
  a55 := fun w => by kernel_rfl
  z55 := fun w => by kernel_rfl
  v55 := fun w => by kernel_rfl
  t66 := by kernel_rfl
  a66 := fun w => by kernel_rfl
  z66 := fun w => by kernel_rfl
  v66 := fun w => by kernel_rfl
  t70 := by kernel_rfl
  a70 := fun w => by kernel_rfl
  z70 := fun w => by kernel_rfl
  v70 := fun w => by kernel_rfl
  t76 := by kernel_rfl
  a76 := fun w => by kernel_rfl
  z76 := fun w => by kernel_rfl
  v76 := fun w => by kernel_rfl
  t77 := by kernel_rfl
  a77 := fun w => by kernel_rfl
  z77 := fun w => by kernel_rfl
  v77 := fun w => by kernel_rfl
noncomputable def ECM : Ext := extH Try.prog []
theorem ECM_ok : ExtOk Try.prog ECM := extH_ok .nil
omit [Inhabited Prop] in
theorem tCM_e (a b : Int) (Q : Value → Prop) : (((a != a) = true → ((b != b) = true → Q (iN 0)) ∧ ((b != b) = false → Q (.int .i64 (Int.negSucc 0)))) ∧ ((a != a) = false → ((b != b) = true → Q (iN 1)) ∧ ((b != b) = false → ((decide (a < b)) = true → Q (.int .i64 (Int.negSucc 0))) ∧ ((decide (a < b)) = false → ((decide (a > b)) = true → Q (iN 1)) ∧ ((decide (a > b)) = false → Q (iN 0)))))) = CT Try.prog ECM 61 34 [.int .i64 a, .int .i64 b] (.b 6 (.b 14 (.stop 0 [] []) (.stop 0 [] [])) (.b 14 (.stop 0 [] []) (.b 21 (.stop 0 [] []) (.b 24 (.stop 0 [] []) (.stop 0 [] []))))) Q := by kernel_rfl
def cmpI (a b : Int) : Int := bif decide (a < b) then -1 else bif decide (a > b) then 1 else 0
omit [Inhabited Prop] in
theorem cmpI_lt {a b : Int} (h : a < b) : cmpI a b = -1 := by unfold cmpI; rw [decide_eq_true h]; rfl
omit [Inhabited Prop] in
theorem cmpI_gt {a b : Int} (h : b < a) : cmpI a b = 1 := by unfold cmpI; rw [decide_eq_false (by omega), decide_eq_true h]; rfl
omit [Inhabited Prop] in
theorem cmpI_eq {a b : Int} (h : a = b) : cmpI a b = 0 := by unfold cmpI; rw [decide_eq_false (by omega), decide_eq_false (by omega)]; rfl
omit [Inhabited Prop] in
theorem tCM_run (a b : Int) : ∃ hp, aCall Try.prog ECM 61 34 [.int .i64 a, .int .i64 b] hp0 = some (.int .i64 (cmpI a b), hp) := by
  refine CT_run (tCM_e a b _) ?_
  refine ⟨fun h_6 => ⟨fun h_14 => ?_, fun h_14 => ?_⟩, fun h_6 => ⟨fun h_14 => ?_, fun h_14 => ⟨fun h_21 => ?_, fun h_21 => ⟨fun h_24 => ?_, fun h_24 => ?_⟩⟩⟩⟩
  all_goals (refine congrArg (Value.int .i64) ?_; rcases Int.lt_trichotomy a b with h | h | h)
  all_goals first | rw [cmpI_lt h] | rw [cmpI_gt h] | rw [cmpI_eq h]
  all_goals first | rfl | (exfalso; simp_all; done) | (exfalso; simp_all; omega)
def gCM : List Value → Option Value
  | [.int .i64 a, .int .i64 b] => some (.int .i64 (cmpI a b))
  | _ => none
theorem hkCM : HookGoal Try.prog 34 gCM := hook_of (ext := ECM) ECM_ok follows Try.func34 (by kernel_rfl) fun args v h => by
  unfold gCM at h
  split at h
  case h_2 => cases h
  rename_i a b
  cases h
  obtain ⟨hp, q⟩ := tCM_run a b
  exact ⟨rfl, rfl, _, hp, q⟩
noncomputable def ELT : Ext := extH Try.prog [(34, gCM), (19, gFar)]
theorem ELT_ok : ExtOk Try.prog ELT := extH_ok (.cons hkCM (.cons hkFar .nil))
noncomputable def fbLT : Code := (Try.f33.body).getD .skip
omit [Inhabited Prop] in
theorem bodyLT : Try.f33.body = some fbLT := by kernel_rfl
omit [Inhabited Prop] in
theorem ntLT : Try.f33.ntmps = 15 := by kernel_rfl
omit [Inhabited Prop] in
theorem sLT : codeSafe Try.prog 15 fbLT = true := by kernel_rfl
abbrev LTT (fs x y : Int) (Q : Value → List Blk → List Nat → List Blk → Prop) : Prop := (some (.int .i64 fs) : Option Value) = some (.int .i64 fs) ∧ (Q (.int .i64 (cmpI (far fs (wrapF .i64 x)) (far fs (wrapF .i64 y)))) [.cells 3 [.int .i64 fs] true] [] [])
omit [Inhabited Prop] in
theorem LT_e (fs x y : Int) (Q : Value → List Blk → List Nat → List Blk → Prop) : LTT fs x y Q = RF Try.prog ELT Try.f33 61 fbLT ⟨tmsOf [.int .u16 x, .int .u16 y, pb 0 0] 0 .leaf, heapOf [.cells 3 [.int .i64 fs] true, .dead] hp0, []⟩ (.stop 1 [] []) Q := by kernel_rfl
def cmpF (fs x y : Int) : Int := cmpI (far fs (wrapF .i64 x)) (far fs (wrapF .i64 y))
def gLT : HeapFn := fun args hp => match args with
  | [.int .u16 x, .int .u16 y, .pointer (some ⟨p, 0, none⟩)] => match hp.get p with
    | some (.cells 3 [.int .i64 fs] _) => some (.int .i64 (cmpF fs x y), heapOf [.dead] hp)
    | _ => none
  | _ => none
theorem hkLT : CallGoal Try.prog 33 gLT := mem_goal follows Try.func33 bodyLT (by kernel_rfl) fun args hp v hp' h hk => by
  unfold gLT at h
  split at h
  case h_2 => cases h
  rename_i x y p
  split at h
  case h_2 => cases h
  rename_i fs ro hg
  cases h
  have e1 : sg0 [some (p, false)] p = 0 := by simp [sg0, posO, Nat.beq_refl]
  refine ⟨[some (p, false)], [], [], rfl, (fun i j b' wr wr' h1 h2 => ?_), (fun i b' wr h => ?_), rfl, by rw [ntLT]; simp, fun W X => ?_⟩
  · have q1 := (List.getElem?_eq_some_iff.1 h1).1
    have q2 := (List.getElem?_eq_some_iff.1 h2).1
    simp at q1 q2; omega
  · have h0 : i = 0 := by have := (List.getElem?_eq_some_iff.1 h).1; simpa using this
    subst h0
    simp at h
    obtain ⟨rfl, rfl⟩ := h
    exact ⟨⟨_, hg, (fun h => by cases h), inert_start rfl⟩, .arg (.tail _ (.tail _ (.head _))) (by simp [nam2, nam1])⟩
  · have ea : [Value.int .u16 x, .int .u16 y, .pointer (some ⟨p, 0, none⟩)].map (mv3 (sg0 [some (p, false)])) = [.int .u16 x, .int .u16 y, pb 0 0] := by
      simp [mv3, mv2, mv1, e1, pb]
    have ep : pinHp [some (p, false)] hp = heapOf [.cells 3 [.int .i64 fs] true, .dead] hp0 := by
      unfold pinHp
      simp [pinB, hg, mvB, mv2, mv1, startB, roBlk]
    rw [ea, ep, ntLT]
    refine FRm.mono (Q := FinF Try.prog Try.f33 (EndQ [some (p, false)] hp.sz [] [] (.int .i64 (cmpF fs x y)) hp.get)) ?_ fun e st q => EndQ.fin q
    refine FRm.pieceF ELT_ok follows sLT (LT_e fs x y _) ?_
    refine ⟨rfl, ?_⟩
    exact EndQ.pureR one_ro rfl rfl (by simp) (stayV_int _ _) rfl
end Go.Proofs.Ytbhmodlpolgklaa.Tk
namespace Go.Proofs.Ytbhmodlpolgklaa.AI
open Go Go.Proofs Go.RowKit
variable [Inhabited Prop]
theorem put_row {m : BM} {hp : Hp} {h : HG} {w w' : World} {L0 : Nat → Prop} {x : Nat × Nat × Nat} (hk : hp.ok) (s : Sim m (ovr hp h) w) {b : Nat} {ty : TypeId} {L L' : List Value} (hb : hp.get b = some (.cells ty L false)) (hx : m b = some x) (kp : Keeps ⟨w, fun k => k = x.1, L0⟩ w')
    (hbr : ∀ m' h', BRel m' h' w' x (.cells ty L' false)) : Go1 m (ovr hp h) w m (ovr (hp.put b (.cells ty L' false)) h) w' := by
  have hlt := lt_of_get hk hb
  have gb := ovr_sub hk h b _ hb
  have hov : ∀ b', ovr (hp.put b (.cells ty L' false)) h b' = if b' = b then some (.cells ty L' false) else ovr hp h b' := by
    intro b'
    unfold ovr
    rw [Hp.sz_put, Hp.get_put]
    by_cases h1 : b' = b
    · subst h1; rw [if_pos hlt, if_pos rfl, if_pos rfl]
    · rw [if_neg h1, if_neg h1]
  have hrwb : rw? (ovr hp h) b = true := by unfold rw?; rw [gb]; rfl
  have le : Le m (ovr hp h) m (ovr (hp.put b (.cells ty L' false)) h) := ⟨fun b' hd => by
    rw [hov]
    by_cases h1 : b' = b
    · subst h1; rw [gb] at hd; cases hd
    · rw [if_neg h1]; exact hd, fun b' y hy => .inr hy, fun _ _ _ _ q => q⟩
  have hrw : ∀ b', rw? (ovr (hp.put b (.cells ty L' false)) h) b' = rw? (ovr hp h) b' := fun b' => by
    by_cases h1 : b' = b
    · subst h1; rw [hrwb]; unfold rw?; rw [hov, if_pos rfl]; rfl
    · unfold rw?; rw [hov, if_neg h1]
  have hlv : ∀ b', live? (ovr (hp.put b (.cells ty L' false)) h) b' = live? (ovr hp h) b' := fun b' => by
    by_cases h1 : b' = b
    · subst h1; unfold live?; rw [hov, if_pos rfl, gb]
    · unfold live?; rw [hov, if_neg h1]
  refine Go0.go ⟨le, ⟨fun b' y hy => ?_, fun b1 b2 x1 x2 q1 q2 hr hl e => s.inj b1 b2 x1 x2 q1 q2 (by rw [← hrw]; exact hr) (by rw [← hlv]; exact hl) e⟩, kp.size, fun b' y hy => .inl hy, fun r hr hn => kp.block r hr (fun e => hn b x hx hrwb e.symm), fun _ _ _ h => h, fun b' o ho hm => ?_, fun b' o ho => ?_, fun b' y hy hr => by rw [← hrw]; exact hr, kp.os, kp.tape, kp.output⟩ s rfl
  · by_cases h1 : b' = b
    · subst h1
      rw [hx] at hy; cases hy
      exact ⟨_, by rw [hov, if_pos rfl], hbr _ _⟩
    · obtain ⟨o, ho, hbr⟩ := s.dom b' y hy
      refine ⟨o, by rw [hov, if_neg h1]; exact ho, ?_⟩
      by_cases hl : live? (ovr hp h) b' = true
      · refine hbr.mono le (kp.block y.1 (s.lt hy hl) fun e => h1 ?_)
        exact (s.inj b b' x y hx hy hrwb hl e.symm).symm
      · cases o with
        | dead => trivial
        | cells => unfold live? at hl; rw [ho] at hl; exact absurd rfl hl
        | map => unfold live? at hl; rw [ho] at hl; exact absurd rfl hl
  · rw [hov]
    by_cases h1 : b' = b
    · subst h1; rw [hx] at hm; cases hm
    · rw [if_neg h1]; exact ho
  · by_cases h1 : b' = b
    · exact ⟨_, by rw [hov, if_pos h1]⟩
    · exact ⟨o, by rw [hov, if_neg h1]; exact ho⟩
omit [Inhabited Prop] in
theorem put_ok {hp : Hp} (hk : hp.ok) {b : Nat} {o o' : Blk} (hg : hp.get b = some o) : (hp.put b o').ok := fun c hc => by
  have := lt_of_get hk hg
  rw [Hp.sz_put] at hc
  rw [Hp.get_put, if_neg (by omega)]
  exact hk c hc
theorem Go1.bel {m m' : BM} {h h' : HG} {w w' : World} (g : Go1 m h w m' h' w') (hr : ∀ b, rw? h b = false) : Bel w.heap.size w w' :=
  ⟨g.os, g.tape, g.output, g.size, fun k hk => g.frame k hk fun b x _ hb => by rw [hr b] at hb; cases hb⟩
end Go.Proofs.Ytbhmodlpolgklaa.AI
namespace Go.Proofs.Ytbhmodlpolgklaa.Tk
open Go Go.Proofs Go.Proofs.Ytbhmodlpolgklaa.AI Go.RowKit Go.Shelf
theorem cell_of {w : World} {r off : Nat} {c : Array Value} {ty : TypeId} {fr : Nat × Nat} (h : w.heap[r]? = some (.cells c ty fr)) : w.cell? ⟨r, off, none⟩ = c[off]? := by
  simp [World.cell?, h]
abbrev UN := { x : Int // 0 ≤ x ∧ x < 65536 }
instance : Inhabited UN := ⟨⟨0, by decide⟩⟩
def iA (x : UN) : Value := .int .u16 x.1
theorem wrapU (n : Int) : wrapF .u16 n = n % 65536 := by
  show IntKind.u16.wrap n = _
  have h1 : IntKind.u16.bits = 16 := rfl
  have h2 : IntKind.u16.signed = false := rfl
  simp only [IntKind.wrap, h1, h2, Bool.false_and]
  rfl
theorem far_mod (a b : Int) : far a b = (b - a) % 65536 := by
  unfold far
  simp only [wrapU]
  rw [wrapI (by omega) (by omega)]
  omega
def cfN (fs : Int) (x y : UN) : Int := cmpF fs x.1 y.1
theorem cfN_lt {fs : Int} {x y : UN} : Go.Proofs.ltOf (cfN fs) x y = decide (far fs x.1 < far fs y.1) := by
  have hx : wrapF .i64 x.1 = x.1 := wrapI (by have := x.2; omega) (by have := x.2; omega)
  have hy : wrapF .i64 y.1 = y.1 := wrapI (by have := y.2; omega) (by have := y.2; omega)
  show decide (cmpI (far fs (wrapF .i64 x.1)) (far fs (wrapF .i64 y.1)) < 0) = _
  rw [hx, hy]
  rcases Int.lt_trichotomy (far fs x.1) (far fs y.1) with h | h | h
  · rw [cmpI_lt h, decide_eq_true h]; rfl
  · rw [cmpI_eq h]; have q : decide (far fs x.1 < far fs y.1) = false := decide_eq_false (by omega)
    rw [q]; rfl
  · rw [cmpI_gt h]; have q : decide (far fs x.1 < far fs y.1) = false := decide_eq_false (by omega)
    rw [q]; rfl
theorem swoN (fs : Int) : Go.Sort.SWO (Go.Proofs.ltOf (cfN fs)) where
  irrefl x := by rw [cfN_lt]; exact decide_eq_false (by omega)
  trans x y z h1 h2 := by
    rw [cfN_lt] at *
    have h1 := of_decide_eq_true h1
    have h2 := of_decide_eq_true h2
    exact decide_eq_true (by omega)
  ntrans x y z h1 h2 := by
    rw [cfN_lt] at *
    have h1 := of_decide_eq_false h1
    have h2 := of_decide_eq_false h2
    exact decide_eq_false (by omega)
theorem cfN_anti {fs : Int} {x y : UN} (h1 : Go.Proofs.ltOf (cfN fs) x y = false) (h2 : Go.Proofs.ltOf (cfN fs) y x = false) : x = y := by
  rw [cfN_lt] at h1 h2
  have h1 := of_decide_eq_false h1
  have h2 := of_decide_eq_false h2
  have e : far fs x.1 = far fs y.1 := by omega
  rw [far_mod, far_mod] at e
  have hx := x.2
  have hy := y.2
  exact Subtype.ext (by omega)
def sortN (fs : Int) (us : List UN) : List UN := us.mergeSort fun x y => !Go.Proofs.ltOf (cfN fs) y x
theorem sortN_len (fs : Int) (us : List UN) : (sortN fs us).length = us.length := List.length_mergeSort ..
theorem sortN_perm (fs : Int) (us : List UN) : (sortN fs us).Perm us := List.mergeSort_perm ..
theorem iA_inert (us : List UN) : (us.map iA).all inert = true := List.all_eq_true.2 fun v hv => by obtain ⟨x, -, rfl⟩ := List.mem_map.1 hv; rfl
theorem iA_inj : ∀ {us vs : List UN}, us.map iA = vs.map iA → us = vs
  | [], [], _ => rfl
  | [], v :: vs, h => by simp at h
  | u :: us, [], h => by simp at h
  | u :: us, v :: vs, h => by
    simp only [List.map_cons, List.cons.injEq, iA, Value.int.injEq, true_and] at h
    rw [Subtype.ext h.1, iA_inj (us := us) (vs := vs) h.2]
noncomputable def unsOf (cs : List Value) : Option (List UN) := by
  classical exact if h : ∃ us : List UN, cs = us.map iA then some h.choose else none
theorem unsOf_eq (us : List UN) : unsOf (us.map iA) = some us := by
  unfold unsOf
  have hx : ∃ l : List UN, us.map iA = l.map iA := ⟨us, rfl⟩
  rw [dif_pos hx]
  have h2 := hx.choose_spec
  generalize hx.choose = l at *
  exact congrArg some (iA_inj h2.symm)
theorem unsOf_some {cs : List Value} {us : List UN} (h : unsOf cs = some us) : cs = us.map iA := by
  unfold unsOf at h
  split at h
  · rename_i hx
    have := hx.choose_spec
    cases h
    exact this
  · cases h
abbrev DT : Inhabited Prop := ⟨True⟩
theorem grow_of_bel {w w' : World} (b : @Bel DT w.heap.size w w') : ∃ q os, w' = Go.Sort.grow (w.drewN q) os := by
  refine ⟨w'.drawn - w.drawn, w'.heap.extract w.heap.size w'.heap.size, ?_⟩
  have hd := b.tape.dr trivial
  have hh : w'.heap = w.heap ++ w'.heap.extract w.heap.size w'.heap.size := by
    apply Array.ext_getElem?
    intro k
    by_cases hk : k < w.heap.size
    · rw [Array.getElem?_append_left hk, b.block k hk]
    · rw [Array.getElem?_append_right (by omega), Array.getElem?_extract]
      have hs := b.size
      by_cases hk2 : k < w'.heap.size
      · rw [if_pos (by omega)]; congr 1; omega
      · rw [if_neg (by omega)]; exact Array.getElem?_eq_none (by omega)
  obtain ⟨h1, t1, d1, o1, u1⟩ := w
  obtain ⟨h2, t2, d2, o2, u2⟩ := w'
  have e1 : o2 = o1 := b.os
  have e2 : t2 = t1 := b.tape.eq
  have e3 : u2 = u1 := b.output
  have e4 : d1 + (d2 - d1) = d2 := by have : d1 ≤ d2 := hd; omega
  subst e1; subst e2; subst e3
  show World.mk _ _ _ _ _ = World.mk _ _ _ _ _
  simp only [World.drewN, e4]
  exact congrArg (fun h => World.mk h _ _ _ _) hh
theorem run_goal [Inhabited Prop] {P : Program} {f : FuncId} {fn : Func} {g : HeapFn} (hg : CallGoal P f g) (hf : P.funcs[f]? = some fn) (hb : fn.body.isSome = true) (hn : (fn.name == "runtime.NumGoroutine") = false) {args : List Value} {hp hp' : Hp} {v : Value} (h : g args hp = some (v, hp')) (hk : hp.ok)
    {m : BM} {w : World} {args' : Array Value} (s : Sim m hp.get w) (r : VRelL m hp.get args args'.toList) :
    Calls P f args' w fun e w' => ∃ v', e = .returned v' ∧ ∃ m', Go1 m hp.get w m' (ovr hp' hg0) w' ∧ VRel m' (ovr hp' hg0) v v' := by
  obtain ⟨_, _, h3⟩ := hg args hp v hp' h hk
  have e0 := ovr_hg0 hk
  have h4 := h3 m hg0 w args' (fun _ _ _ => rfl) (by rw [e0]; exact s) (by rw [e0]; exact r)
  rw [e0] at h4
  rcases h4 with ⟨v', w', h5, _⟩ | ⟨_, h5⟩
  · rw [run_callFunc hf hb hn] at h5; cases h5
  · exact h5
theorem heap_sort {w : World} {r off q : Nat} {d : Array UN} {os : Array Obj} : ∀ k, (sortWorld iA w r off q d os).heap[k]? = if k < w.heap.size then (if k = r then (w.heap[k]?).map (Go.Sort.onCells (Go.Sort.putCells iA off d)) else w.heap[k]?) else os[k - w.heap.size]? := by
  intro k
  unfold sortWorld Go.Sort.grow Go.Sort.putRow Go.Sort.mapBlock Go.Sort.ahead
  simp only [Array.getElem?_append, Array.size_modify, Array.getElem?_modify]
  by_cases hk1 : k < w.heap.size
  · rw [if_pos hk1, if_pos hk1]
    by_cases hk2 : r = k
    · subst hk2; simp
    · rw [if_neg hk2, if_neg (fun e => hk2 e.symm)]
  · rw [if_neg hk1, if_neg hk1]
set_option maxHeartbeats 2000000 in
theorem cmpLays {w : World} {blk off size rp op : Nat} {fs : Int} {c : Array Value} {fr : Nat × Nat} (hc : w.heap[rp]? = some (.cells c 3 fr)) (hv : c[op]? = some (.int .i64 fs)) (hne : rp ≠ blk) :
    CmpLays1 Try.prog 33 #[.pointer (some ⟨rp, op, none⟩)] iA (cfN fs) blk off size w := by
  intro m os dk _ x y
  have hlt : rp < w.heap.size := (Array.getElem?_eq_some_iff.1 hc).1
  have hW : (sortWorld iA w blk off m dk os).heap[rp]? = some (.cells c 3 fr) := by
    rw [heap_sort, if_pos hlt, if_neg hne, hc]
  generalize sortWorld iA w blk off m dk os = W at *
  have hk : (heapOf [.cells 3 [.int .i64 fs] true, .dead] hp0).ok := heapOf_ok _ _ hp0_ok
  have hget : ∀ b, (heapOf [Blk.cells 3 [.int .i64 fs] true, .dead] hp0).get b = [Blk.cells 3 [.int .i64 fs] true, .dead][b]? := fun b => heapOf0_get _ b
  have hro : ∀ b, rw? (heapOf [Blk.cells 3 [.int .i64 fs] true, .dead] hp0).get b = false := by
    intro b
    unfold rw?
    rw [hget]
    match b with
    | 0 => rfl
    | 1 => rfl
    | b + 2 => rfl
  let bm : BM := ⟨fun b => if b = 0 then some (rp, op, op + 1) else none, fun _ _ _ _ => False⟩
  have hb0 : ∀ b z, bm b = some z → b = 0 ∧ z = (rp, op, op + 1) := by
    intro b z hz
    have hz' : (if b = 0 then some (rp, op, op + 1) else none) = some z := hz
    by_cases e : b = 0
    · rw [if_pos e] at hz'; exact ⟨e, (Option.some.inj hz').symm⟩
    · rw [if_neg e] at hz'; cases hz'
  have hop : op < c.size := (Array.getElem?_eq_some_iff.1 hv).1
  have s : @Sim bm (heapOf [Blk.cells 3 [.int .i64 fs] true, .dead] hp0).get W := by
    refine ⟨⟨fun b z hz => ?_, fun b b' z z' _ _ hr => by rw [hro b] at hr; cases hr⟩, fun _ _ _ _ h => h.elim, fun _ ⟨_, _, _, h⟩ => h.elim⟩
    obtain ⟨rfl, rfl⟩ := hb0 b z hz
    refine ⟨_, hget 0, c, fr, hW, by simp, by show op + 1 ≤ c.size; omega, fun i v v' q1 q2 => ?_, (fun h => by cases h), fun _ h => by cases h⟩
    have hi : i = 0 := by
      have := (List.getElem?_eq_some_iff.1 q1).1
      simp at this; exact this
    subst hi
    simp at q1 q2
    subst q1
    have e3 : c[op]? = some v' := by rw [← q2, Array.getElem?_eq_getElem hop]
    rw [hv] at e3; cases e3
    exact .flat rfl
  have r : VRelL bm (heapOf [Blk.cells 3 [.int .i64 fs] true, .dead] hp0).get [.int .u16 x.1, .int .u16 y.1, .pointer (some ⟨0, 0, none⟩)] (#[iA x, iA y] ++ #[Value.pointer (some ⟨rp, op, none⟩)]).toList := by
    refine .cons (.flat rfl) (.cons (.flat rfl) (.cons (.ptr (.inr ⟨op, op + 1, rfl, rfl⟩)) .nil))
  have hgl : gLT [.int .u16 x.1, .int .u16 y.1, .pointer (some ⟨0, 0, none⟩)] (heapOf [Blk.cells 3 [.int .i64 fs] true, .dead] hp0) = some (.int .i64 (cmpF fs x.1 y.1), heapOf [.dead] (heapOf [Blk.cells 3 [.int .i64 fs] true, .dead] hp0)) := by
    unfold gLT
    simp only [hget 0]
    rfl
  refine (@run_goal DT _ _ _ _ (@hkLT DT) Try.func33 (by rfl) (by kernel_rfl) _ _ _ _ hgl hk _ W _ s r).mono fun e w' hh => ?_
  obtain ⟨v', rfl, m', g, rv⟩ := hh
  refine ⟨by rw [rv.of_int]; rfl, grow_of_bel (@Go1.bel DT _ _ _ _ _ _ g hro)⟩
section
variable [Inhabited Prop]
def nuA (us : List UN) : Blk := .cells 85 (us.map iA) false
noncomputable def gSF : HeapFn := fun args hp => match args with
  | [.slice (some ⟨b, 0, none⟩) n _, .func (.func 33) ⟨[]⟩ ⟨[.pointer (some ⟨p, 0, none⟩)]⟩] => match Nat.beq p b, hp.get b, hp.get p with
    | false, some (.cells 85 cs false), some (.cells 3 [.int .i64 fs] _) => match unsOf cs with
      | some us => if us.length = n ∧ 0 < n ∧ n < 1000000 then some (.tuple #[], hp.put b (nuA (sortN fs us))) else none
      | none => none
    | _, _, _ => none
  | _ => none
omit [Inhabited Prop] in
theorem gSF_of {us : List UN} {b c p : Nat} {fs : Int} {ro : Bool} {hp : Hp} (hb : hp.get b = some (nuA us)) (hp' : hp.get p = some (.cells 3 [.int .i64 fs] ro)) (hne : Nat.beq p b = false) (h0 : 0 < us.length) (h1 : us.length < 1000000) :
    gSF [.slice (some ⟨b, 0, none⟩) us.length c, .func (.func 33) #[] #[.pointer (some ⟨p, 0, none⟩)]] hp = some (.tuple #[], hp.put b (nuA (sortN fs us))) := by
  unfold gSF
  simp only [hne, hb, hp', nuA, unsOf_eq]
  rw [if_pos ⟨trivial, h0, h1⟩]
set_option maxHeartbeats 4000000 in
theorem hkSF : CallGoal Try.prog 32 gSF := by
  intro args hp v hp' he hk
  unfold gSF at he
  split at he
  case h_2 => cases he
  rename_i b n cc0 p
  split at he
  case h_2 => cases he
  rename_i cs fs ro hne hb hp1
  split at he
  case h_2 => cases he
  rename_i us hus
  obtain rfl := unsOf_some hus
  split at he
  case isFalse => cases he
  rename_i hx
  obtain ⟨hn, hn0, hn1⟩ := hx
  cases he
  refine ⟨put_ok hk hb, by rw [Hp.sz_put]; exact Nat.le_refl _, fun m h w args' hfr s ra => .inr ⟨run_callFunc Try.func32 (by rfl) (by kernel_rfl), ?_⟩⟩
  obtain ⟨v1, bs1, e1, r1, q1⟩ := ra.of_cons
  obtain ⟨v2, bs2, e2, r2, q2⟩ := q1.of_cons
  have e3 := q2.of_nil
  subst e3
  obtain ⟨b', off, r, off', cap, ea, rfl, hcap, hd⟩ := r1.of_slice
  cases ea
  have gb := ovr_sub hk h b _ hb
  have gp := ovr_sub hk h p _ hp1
  rcases hd with hd | ⟨δ, E, hm, hoff, -⟩
  · rw [gb] at hd; cases hd
  have ho : off' = δ := by rcases hoff with h1 | h1 <;> omega
  subst ho
  -- the captured cell
  obtain ⟨a', c', rfl, ⟨s1, _⟩, ⟨s3, s4⟩⟩ := r2.of_func
  have z1 : a' = #[] := Array.eq_empty_of_size_eq_zero (by simpa using s1.symm)
  subst z1
  obtain ⟨pv, rfl⟩ : ∃ pv, c' = #[pv] := by
    obtain ⟨l⟩ := c'
    match l, s3 with
    | [x], _ => exact ⟨x, rfl⟩
  obtain ⟨p', offp, rp, offp', ep, rfl, hdp⟩ := (s4 0 _ pv rfl rfl).of_ptr
  cases ep
  rcases hdp with hdp | ⟨δp, Ep, hmp, hop⟩
  · rw [gp] at hdp; cases hdp
  have hop' : offp' = δp := by omega
  subst hop'
  have eargs : args' = #[.slice (some ⟨r, off', none⟩) n cap, .func (.func 33) #[] #[.pointer (some ⟨rp, offp', none⟩)]] := by
    have : args'.toList = [.slice (some ⟨r, off', none⟩) n cap, .func (.func 33) #[] #[.pointer (some ⟨rp, offp', none⟩)]] := by rw [e1, e2]
    exact Array.ext' this
  subst eargs
  obtain ⟨o, ho', hbr⟩ := s.dom b _ hm
  rw [gb] at ho'; cases ho'
  obtain ⟨cc, fr, g1, g2, g3, g4, g5⟩ := hbr
  obtain ⟨o2, ho2, hbr2⟩ := s.dom p _ hmp
  rw [gp] at ho2; cases ho2
  obtain ⟨cp, frp, k1, k2, k3, k4, k5⟩ := hbr2
  simp only at g1 g2 g3 g4 g5 k1 k2 k3 k4
  have hrb : rw? (ovr hp h) b = true := by unfold rw?; rw [gb]; rfl
  have hlp : live? (ovr hp h) p = true := by unfold live?; rw [gp]
  have hpb : p ≠ b := fun e => by subst e; rw [Nat.beq_refl] at hne; cases hne
  have hrne : rp ≠ r := fun e => hpb (s.inj b p _ _ hm hmp hrb hlp e.symm).symm
  have hlen : (us.map iA).length = us.length := List.length_map ..
  have hr : r < w.heap.size := (Array.getElem?_eq_some_iff.1 g1).1
  have hcv : cp[offp']? = some (.int .i64 fs) := by
    have hl : offp' < cp.size := by simp at k2; omega
    have := k4 0 (.int .i64 fs) cp[offp'] rfl (by rw [Nat.add_zero]; exact Array.getElem?_eq_getElem hl)
    rw [Array.getElem?_eq_getElem hl, this.of_int]
  have hH : Go.Sort.Holds iA w r off' us.toArray := by
    intro j hj
    have hj' : j < us.length := by simpa using hj
    have hcj : off' + j < cc.size := by omega
    have hv := g4 j (iA us[j]) cc[off' + j] (by rw [List.getElem?_map, List.getElem?_eq_getElem hj']; rfl) (Array.getElem?_eq_getElem hcj)
    have ev : cc[off' + j] = iA us[j] := hv.of_int
    have ed : us.toArray[j]! = us[j] := by rw [getElem!_pos _ j hj]; simp
    constructor
    · rw [cell_of g1, Array.getElem?_eq_getElem hcj, ev, ed]
    · unfold World.frozen?
      rw [g1]
      have := g5.1 trivial (off' + j) (by omega)
      obtain ⟨lo, hi⟩ := fr
      simp only at this ⊢
      simp only [Bool.and_eq_false_imp, decide_eq_true_eq, decide_eq_false_iff_not]
      intro q; omega
  have eg : ∀ args w, (callFunc 33 args).run Try.prog w = .ok (.enter 33 args) w := fun args w => run_callFunc Try.func33 (by rfl) (by kernel_rfl)
  have hsz : us.toArray.size = n := hn
  have hcon := Any.slices_SortFunc soL iA (fun _ => rfl) (cfN fs) (swoN fs) 33 #[.pointer (some ⟨rp, offp', none⟩)] r off' cap us.toArray w eg (cmpLays k1 hcv hrne) hH hr (by rw [hsz]; omega)
  change Calls Try.prog 32 _ _ _ at hcon
  rw [hsz] at hcon
  refine hcon.mono fun e w' hh => ?_
  obtain ⟨rfl, d', q, os, hp2, hs2, rfl⟩ := hh
  have hd' : d'.toList = sortN fs us := by
    have := Go.Sort.sorted_unique_holds (swoN fs) (fun x y => cfN_anti) us.toArray d' (by rw [hsz]; exact hp2) (by rw [hsz]; exact hs2)
    exact this
  have hds : d'.size = n := by
    have := congrArg List.length hd'
    rw [sortN_len, Array.length_toList] at this
    omega
  refine ⟨.tuple #[], rfl, m, ?_, .tuple rfl fun i v v' q1 _ => by simp at q1⟩
  have kp : Keeps ⟨w, fun k => k = (r, off', E).1, fun _ => True⟩ (sortWorld iA w r off' q d' os) := by
    refine ⟨rfl, ⟨rfl, fun _ => Nat.le_add_right _ _⟩, rfl, ?_, fun k hk1 hne => ?_⟩
    · unfold sortWorld Go.Sort.grow Go.Sort.putRow Go.Sort.mapBlock Go.Sort.ahead; simp
    · rw [heap_sort, if_pos hk1, if_neg hne]
  refine put_row hk s hb hm kp fun m' h' => ?_
  refine ⟨Go.Sort.putCells iA off' d' cc, fr, ?_, ?_, ?_, fun i u u' p1 p2 => ?_, ?_⟩
  · rw [heap_sort, if_pos hr, if_pos rfl, g1]; rfl
  · rw [List.length_map, sortN_len]; rw [hlen] at g2; exact g2
  · show E ≤ _
    simpa [Go.Sort.putCells] using g3
  · rw [List.getElem?_map] at p1
    obtain ⟨x, hx, rfl⟩ := Option.map_eq_some_iff.1 p1
    have hi : i < n := by
      have := (List.getElem?_eq_some_iff.1 hx).1
      rw [sortN_len] at this; omega
    have hci : off' + i < cc.size := by omega
    have hu : u' = iA (d'[i]!) := by
      simp only [Go.Sort.putCells, Array.getElem?_mapIdx, Array.getElem?_eq_getElem hci, Option.map_some, Option.some.injEq] at p2
      rw [if_pos ⟨by omega, by omega⟩, show off' + i - off' = i by omega] at p2
      exact p2.symm
    have hdx : d'[i]! = x := by
      rw [getElem!_pos _ i (by omega)]
      have := congrArg (fun l => l[i]?) hd'
      simp only [Array.getElem?_toList, hx, Array.getElem?_eq_getElem (show i < d'.size by omega), Option.some.injEq] at this
      exact this
    rw [hu, hdx]
    exact .flat rfl
  · exact ⟨fun _ j hj => g5.1 trivial j (by simpa [Go.Sort.putCells] using hj), fun h => by cases h⟩
end
end Go.Proofs.Ytbhmodlpolgklaa.Tk
namespace Go.Proofs.Ytbhmodlpolgklaa.Tk
open Go Go.Proofs Go.Proofs.Ytbhmodlpolgklaa.AI Go.RowKit
variable [Inhabited Prop]
def iZ (x : UN) : Value := .int .i64 x.1
def cvI (x : UN) : Value := .int .i64 (wrapF .i64 x.1)
omit [Inhabited Prop] in
theorem cvI_eq (x : UN) : cvI x = iZ x := by unfold cvI iZ; rw [wrapI (by have := x.2; omega) (by have := x.2; omega)]
omit [Inhabited Prop] in
theorem map_cvI (us : List UN) : us.map cvI = us.map iZ := List.map_congr_left fun x _ => cvI_eq x
omit [Inhabited Prop] in
theorem iZ_inert (us : List UN) : (us.map iZ).all inert = true := List.all_eq_true.2 fun v hv => by obtain ⟨x, -, rfl⟩ := List.mem_map.1 hv; rfl
omit [Inhabited Prop] in
theorem cvI_inert (us : List UN) : (us.map cvI).all inert = true := by rw [map_cvI]; exact iZ_inert us
omit [Inhabited Prop] in
theorem nuA_inert (us : List UN) : inertB (nuA us) = true := iA_inert us
omit [Inhabited Prop] in
theorem iZ_map (us : List UN) : us.map iZ = (us.map Subtype.val).map iI := by rw [List.map_map]; rfl
omit [Inhabited Prop] in
theorem iA_map (us : List UN) : us.map iA = (us.map Subtype.val).map iU := by rw [List.map_map]; rfl
omit [Inhabited Prop] in
theorem cvU_map (us : List UN) : (us.map Subtype.val).map cvU = us.map iA := by
  rw [List.map_map]
  refine List.map_congr_left fun x _ => ?_
  show Value.int .u16 (wrapF .u16 x.1) = .int .u16 x.1
  rw [wrapU]
  have := x.2
  rw [Int.emod_eq_of_lt (by omega) (by omega)]
omit [Inhabited Prop] in
theorem gOf_nu {b c ty : Nat} {vs : List UN} {ro : Bool} {hp : Hp} (hg : hp.get b = some (.cells ty (vs.map iZ) ro)) (hn : vs.length < 1000000) :
    gOf [.slice (some ⟨b, 0, none⟩) vs.length c] hp = some (.slice (some ⟨hp.sz, 0, none⟩) vs.length 4, heapOf [nuA vs, .dead] hp) := by
  rw [iZ_map] at hg
  have := gOf_of (c := c) hg (by rw [List.length_map]; exact hn)
  rw [List.length_map, cvU_map] at this
  exact this
omit [Inhabited Prop] in
theorem gCo_nu {b c : Nat} {vs : List UN} {hp : Hp} {n : Nat} (hg : hp.get b = some (nuA vs)) (hs : vs.length = n) (hn : n < 1000000) (h0 : 0 < n) (hd : vs.Nodup) :
    gCo [.slice (some ⟨b, 0, none⟩) n c] hp = some (.slice (some ⟨b, 0, none⟩) n c, heapOf [.dead] hp) := by
  subst hs
  unfold nuA at hg
  rw [iA_map] at hg
  have := gCo_of (c := c) hg (by rw [List.length_map]; exact hn) (by rw [List.length_map]; exact h0) (hd.map _ fun x y hne e => hne (Subtype.ext e))
  rwa [List.length_map] at this
omit [Inhabited Prop] in
theorem aload {hp : Hp} {b : Nat} {us : List UN} {i : Nat} {x : UN} (hg : hp.get b = some (nuA us)) (h : us[i]? = some x) : aLoad Try.prog hp.get 85 (pb b i) = some (.int .u16 x.1) := rload1 (f := iA) agg85 siz85 hg h
omit [Inhabited Prop] in
theorem perm_map_inv {α β : Type} {f : α → β} {l ds : List β} (h : l.Perm ds) : ∀ us : List α, l = us.map f → ∃ vs, ds = vs.map f ∧ us.Perm vs := by
  induction h with
  | nil => intro us e; exact ⟨[], rfl, by rw [List.map_eq_nil_iff.1 e.symm]⟩
  | @cons x l1 l2 _ ih =>
    intro us e
    cases us with
    | nil => cases e
    | cons u us =>
      simp only [List.map_cons, List.cons.injEq] at e
      obtain ⟨vs, h1, h2⟩ := ih us e.2
      exact ⟨u :: vs, by rw [List.map_cons, e.1, h1], h2.cons u⟩
  | swap x y l =>
    intro us e
    match us, e with
    | a :: b :: us, e =>
      simp only [List.map_cons, List.cons.injEq] at e
      exact ⟨b :: a :: us, by simp [e.1, e.2.1, e.2.2], .swap b a us⟩
  | trans _ _ ih1 ih2 =>
    intro us e
    obtain ⟨vs, h1, h2⟩ := ih1 us e
    obtain ⟨ws, h3, h4⟩ := ih2 vs h1
    exact ⟨ws, h3, h2.trans h4⟩
omit [Inhabited Prop] in
theorem sortN_of_perm {fs : Int} {us vs : List UN} (h : us.Perm vs) : sortN fs us = sortN fs vs := by
  have S : ∀ l : List UN, (sortN fs l).Pairwise fun x y => (!Go.Proofs.ltOf (cfN fs) y x) = true := fun l =>
    List.pairwise_mergeSort (fun a b c h1 h2 => by
      simp only [Bool.not_eq_true'] at *
      exact (swoN fs).ntrans c b a h2 h1) (fun a b => by
      cases h1 : Go.Proofs.ltOf (cfN fs) b a with
      | false => rfl
      | true =>
        cases h2 : Go.Proofs.ltOf (cfN fs) a b with
        | false => rfl
        | true => have := (swoN fs).trans _ _ _ h1 h2; rw [(swoN fs).irrefl] at this; cases this) l
  refine List.Perm.eq_of_pairwise (le := fun x y => (!Go.Proofs.ltOf (cfN fs) y x) = true) (fun a b _ _ h1 h2 => ?_) (S us) (S vs) (((sortN_perm fs us).trans h).trans (sortN_perm fs vs).symm)
  simp only [Bool.not_eq_true'] at h1 h2
  exact cfN_anti h2 h1
noncomputable def ESo : Ext := extG (extH Try.prog []) [(31, gOf), (32, gSF), (35, gCo)]
theorem ESo_ok : ExtOk Try.prog ESo := extG_ok (extH_ok .nil) (.cons hkOf (.cons hkSF (.cons hkCo .nil)))
noncomputable def fbSo : Code := (Try.f23.body).getD .skip
omit [Inhabited Prop] in
theorem bodySo : Try.f23.body = some fbSo := by kernel_rfl
omit [Inhabited Prop] in
theorem ntSo : Try.f23.ntmps = 28 := by kernel_rfl
omit [Inhabited Prop] in
theorem sSo : codeSafe Try.prog 28 fbSo = true := by kernel_rfl
noncomputable def lpSo : Code := pB (pR (pL (pR (pR (pR (pR (fbSo)))))))
noncomputable def lbSo : Code := pU lpSo
omit [Inhabited Prop] in
theorem lpSo_eq : lpSo = .loop lbSo := by kernel_rfl
omit [Inhabited Prop] in
theorem slSo : codeSafe Try.prog 28 lbSo = true := by kernel_rfl
abbrev SoT (fs : Int) (ty : TypeId) (vs : List UN) (W : Base) (X : Pins) (Q : Value → List Blk → List Nat → List Blk → Prop) : Prop := HT (gOf [.slice (some ⟨1, 0, none⟩) vs.length 2]) (heapOf [.dead, (.cells ty (vs.map iZ) true), .cells 3 [.int .i64 fs] false] hp0) (.slice (some ⟨3, 0, none⟩) vs.length 4) [(nuA vs), .dead] ∧ (HE (gSF [.slice (some ⟨3, 0, none⟩) vs.length 4, .func (.func 33) #[] #[pb 2 0]]) (heapOf [.dead, (.cells ty (vs.map iZ) true), .cells 3 [.int .i64 fs] false, (nuA vs), .dead] hp0) (.tuple #[]) [.put 3 ((nuA (sortN fs vs)))] ∧ (HT (gCo [.slice (some ⟨3, 0, none⟩) vs.length 4]) (heapOf [.dead, (.cells ty (vs.map iZ) true), .cells 3 [.int .i64 fs] false, (nuA (sortN fs vs)), .dead] hp0) (.slice (some ⟨3, 0, none⟩) vs.length 4) [.dead] ∧ (FixO 1 [(nuA (sortN fs vs))] ∧ (∀ g, FRm Try.prog 28 W 0 X lpSo (stOf 28 g [(4, nilS), (6, nilS), (15, .slice (some ⟨0, 0, none⟩) vs.length 4), (16, iN vs.length), (17, iN 0)] [(nuA (sortN fs vs))]) (LQ (fun (_ : Unit) g => (.exit 0, stOf 28 g [(6, .slice (some ⟨0, 0, none⟩) vs.length 4)] [(.cells 3 ((sortN fs vs).map cvI) false)])) (fun (_ : Unit) => True))) ∧ (∀ (_ : Unit) (g : Nat → Value), True → Q (.slice (some ⟨0, 0, none⟩) vs.length 4) [] [0] [(.cells 3 ((sortN fs vs).map cvI) false)]))))
theorem So_e (fs : Int) (ty : TypeId) (vs : List UN) (W : Base) (X : Pins) (Q : Value → List Blk → List Nat → List Blk → Prop) : SoT fs ty vs W X Q = WF Try.prog ESo Try.f23 28 W 0 X 60 fbSo ⟨tmsOf [.slice (some ⟨1, 0, none⟩) vs.length 2, .int .i64 fs] 0 .leaf, heapOf [.dead, .cells ty (vs.map iZ) true] hp0, []⟩ (.h 3 (.slice (some ⟨3, 0, none⟩) vs.length 4) [(nuA vs), .dead] (.e 7 (.tuple #[]) [.put 3 ((nuA (sortN fs vs)))] (.h 10 (.slice (some ⟨3, 0, none⟩) vs.length 4) [.dead] (.l 13 1 [3] [4, 6, 15, 16, 17] Unit (fun (_ : Unit) g => (.exit 0, stOf 28 g [(6, .slice (some ⟨0, 0, none⟩) vs.length 4)] [(.cells 3 ((sortN fs vs).map cvI) false)])) (fun (_ : Unit) => True) (.stop 0 [0] []))))) Q := by kernel_rfl
abbrev SonT (us : List UN) (x : UN) (g : Nat → Value) (Q : Exit → St → Prop) : Prop := ((decide ((Int.ofNat 0) < (Int.ofNat us.length))) = true → (fstV ((aIndexAddr Try.prog 82 (.slice (some ⟨0, 0, none⟩) us.length 4) (iN 0)).map fun v => (v, none)) : Option Value) = some (pb 0 0) ∧ ((aLoad Try.prog (heapOf [(nuA us), .dead] hp0).get 85 (pb 0 0) : Option Value) = some (.int .u16 x.1) ∧ (FixO 1 [(nuA us), .cells 3 [.int .i64 (wrapF .i64 x.1)] false] ∧ ∀ g, Q .normal (stOf 28 g [(4, nilS), (6, .slice (some ⟨1, 0, none⟩) 1 4), (15, .slice (some ⟨0, 0, none⟩) us.length 4), (16, iN us.length), (17, iN 1)] [(nuA us), .cells 3 [.int .i64 (wrapF .i64 x.1)] false])))) ∧ ((decide ((Int.ofNat 0) < (Int.ofNat us.length))) = false → ∀ g, Q (.exit 0) (stOf 28 g [(6, nilS)] []))
omit [Inhabited Prop] in
theorem Son_e (us : List UN) (x : UN) (g : Nat → Value) (Q : Exit → St → Prop) : SonT us x g Q = RT Try.prog ESo 28 0 60 lbSo (stOf 28 g [(4, nilS), (6, nilS), (15, .slice (some ⟨0, 0, none⟩) us.length 4), (16, iN us.length), (17, iN 0)] [(nuA us)]) (.b 0 (.v 1 (pb 0 0) (.v 2 (.int .u16 x.1) (.stop 1 [0, 3] [4, 6, 15, 16, 17]))) (.stop 0 [] [6])) Q := by kernel_rfl
abbrev SorT (us : List UN) (i : Nat) (a : List Value) (x : UN) (g : Nat → Value) (Q : Exit → St → Prop) : Prop := ((decide ((Int.ofNat i) < (Int.ofNat us.length))) = true → (fstV ((aIndexAddr Try.prog 82 (.slice (some ⟨0, 0, none⟩) us.length 4) (iN i)).map fun v => (v, none)) : Option Value) = some (pb 0 i) ∧ ((aLoad Try.prog (heapOf [(nuA us), (.cells 3 a false), .dead] hp0).get 85 (pb 0 i) : Option Value) = some (.int .u16 x.1) ∧ (aAppend Try.prog (heapOf [(nuA us), (.cells 3 a false), .dead, .cells 3 [.int .i64 (wrapF .i64 x.1)] false] hp0).get 4 [23, 23] [.slice (some ⟨1, 0, none⟩) a.length 4, .slice (some ⟨3, 0, none⟩) 1 4] = some (.slice (some ⟨4, 0, none⟩) (a.length + 1) 4, [.put 1 (.dead), .push ((.cells 3 (a ++ [.int .i64 (wrapF .i64 x.1)]) false))]) ∧ ((some (.int .i64 (wrapF .i64 (Int.ofNat i + Int.ofNat 1))) : Option Value) = some (iN (i + 1)) ∧ (FixO 2 [(nuA us), (.cells 3 (a ++ [.int .i64 (wrapF .i64 x.1)]) false)] ∧ ∀ g, Q .normal (stOf 28 g [(4, nilS), (6, .slice (some ⟨1, 0, none⟩) (a.length + 1) 4), (15, .slice (some ⟨0, 0, none⟩) us.length 4), (16, iN us.length), (17, iN (i + 1))] [(nuA us), (.cells 3 (a ++ [.int .i64 (wrapF .i64 x.1)]) false)])))))) ∧ ((decide ((Int.ofNat i) < (Int.ofNat us.length))) = false → FixO 1 [(.cells 3 a false)] ∧ ∀ g, Q (.exit 0) (stOf 28 g [(6, .slice (some ⟨0, 0, none⟩) a.length 4)] [(.cells 3 a false)]))
omit [Inhabited Prop] in
theorem Sor_e (us : List UN) (i : Nat) (a : List Value) (x : UN) (g : Nat → Value) (Q : Exit → St → Prop) : SorT us i a x g Q = RT Try.prog ESo 28 0 60 lbSo (stOf 28 g [(4, nilS), (6, .slice (some ⟨1, 0, none⟩) a.length 4), (15, .slice (some ⟨0, 0, none⟩) us.length 4), (16, iN us.length), (17, iN i)] [(nuA us), (.cells 3 a false)]) (.b 0 (.v 1 (pb 0 i) (.v 2 (.int .u16 x.1) (.e 8 (.slice (some ⟨4, 0, none⟩) (a.length + 1) 4) [.put 1 (.dead), .push ((.cells 3 (a ++ [.int .i64 (wrapF .i64 x.1)]) false))] (.v 10 (iN (i + 1)) (.stop 2 [0, 4] [4, 6, 15, 16, 17]))))) (.stop 1 [1] [6])) Q := by kernel_rfl
abbrev SozT (fs : Int) (Q : Value → List Blk → List Nat → List Blk → Prop) : Prop := Q (nilS) [] [] []
omit [Inhabited Prop] in
theorem Soz_e (fs : Int) (Q : Value → List Blk → List Nat → List Blk → Prop) : SozT fs Q = RF Try.prog (extH Try.prog []) Try.f23 100 fbSo ⟨tmsOf [nilS, .int .i64 fs] 0 .leaf, heapOf [.dead] hp0, []⟩ (.stop 0 [] []) Q := by kernel_rfl
theorem loopSo (us : List UN) (h0 : 0 < us.length) (hn : us.length < 1000000) (W : Base) (X : Pins) (g : Nat → Value) :
    FRm Try.prog 28 W 0 X lpSo (stOf 28 g [(4, nilS), (6, nilS), (15, .slice (some ⟨0, 0, none⟩) us.length 4), (16, iN us.length), (17, iN 0)] [(nuA us)]) (LQ (fun (_ : Unit) g => (.exit 0, stOf 28 g [(6, .slice (some ⟨0, 0, none⟩) us.length 4)] [(.cells 3 (us.map cvI) false)])) (fun (_ : Unit) => True)) := by
  rw [lpSo_eq]
  refine FRm.loop (fun k st => (k = us.length ∧ ∃ g, st = (stOf 28 g [(4, nilS), (6, nilS), (15, .slice (some ⟨0, 0, none⟩) us.length 4), (16, iN us.length), (17, iN 0)] [(nuA us)])) ∨ (∃ i a g, k + i = us.length ∧ 0 < i ∧ a = (us.take i).map cvI ∧ st = (stOf 28 g [(4, nilS), (6, .slice (some ⟨1, 0, none⟩) a.length 4), (15, .slice (some ⟨0, 0, none⟩) us.length 4), (16, iN us.length), (17, iN i)] [(nuA us), (.cells 3 a false)]))) (fun k st => ?_) (k := us.length) (.inl ⟨rfl, g, rfl⟩)
  rintro (⟨rfl, g, rfl⟩ | ⟨i, a, g, hk, hi, ha, rfl⟩)
  · have hlt : 0 < us.length := h0
    have hx : us[0]? = some us[0] := List.getElem?_eq_getElem hlt
    have e1 : (us.take 1).map cvI = [cvI us[0]] := by
      rw [show 1 = 0 + 1 from rfl, List.take_add_one, hx]; rfl
    generalize us[0] = x at *
    refine FRm.pieceT ESo_ok follows slSo (Son_e us x g _) ?_
    refine ⟨fun h_0 => ⟨nidx hlt, ⟨aload (hgn rfl) hx, ⟨fxO1 (nuA_inert _), fun g => ?_⟩⟩⟩, fun h_0 => Bool.noConfusion ((decide_eq_true (by simpa using hlt)).symm.trans h_0)⟩
    exact .inl ⟨rfl, us.length - 1, by omega, .inr ⟨1, _, g, by omega, by decide, e1.symm, rfl⟩⟩
  · have hal : a.length = i := by rw [ha, List.length_map, List.length_take]; omega
    have hia : a.all inert = true := by rw [ha]; exact cvI_inert _
    rcases Nat.lt_or_ge i us.length with hlt | hge
    · have hx : us[i]? = some us[i] := List.getElem?_eq_getElem hlt
      have e1 : (us.take (i + 1)).map cvI = a ++ [cvI us[i]] := by rw [List.take_add_one, hx, List.map_append, ← ha]; rfl
      generalize us[i] = x at *
      have hw : (some (Value.int .i64 (wrapF .i64 (Int.ofNat i + Int.ofNat 1)))) = some (iN (i + 1)) := wup (by omega)
      refine FRm.pieceT ESo_ok follows slSo (Sor_e us i a x g _) ?_
      refine ⟨fun h_0 => ⟨nidx hlt, ⟨aload (hgn rfl) hx, ⟨app_row elI (fun _ => src_row (hgn rfl) rfl) rfl rfl (by decide) (by omega) (hgn rfl) (by omega), ⟨hw, ⟨fxO2 (nuA_inert _) ?_, fun g => ?_⟩⟩⟩⟩⟩, fun h_0 => Bool.noConfusion ((decide_eq_true (by simpa using hlt)).symm.trans h_0)⟩
      · show ((a ++ [cvI x]).all inert) = true
        rw [List.all_append, hia]; rfl
      · refine .inl ⟨rfl, k - 1, by omega, .inr ⟨i + 1, a ++ [cvI x], g, by omega, by omega, e1.symm, ?_⟩⟩
        rw [List.length_append]; rfl
    · obtain rfl : i = us.length := by omega
      refine FRm.pieceT ESo_ok follows slSo (Sor_e us us.length a ⟨0, by decide⟩ g _) ?_
      refine ⟨fun h_0 => Bool.noConfusion (h_0.symm.trans (decide_eq_false (by simp))), fun h_0 => ⟨fxO1 ?_, fun g => ?_⟩⟩
      · exact hia
      · refine .inr ⟨by simp, (), g, trivial, rfl, ?_⟩
        rw [ha, List.take_length, List.length_map]
noncomputable def zsOf (cs : List Value) : Option (List UN) := by
  classical exact if h : ∃ us : List UN, cs = us.map iZ then some h.choose else none
omit [Inhabited Prop] in
theorem iZ_inj : ∀ {us vs : List UN}, us.map iZ = vs.map iZ → us = vs
  | [], [], _ => rfl
  | [], v :: vs, h => by simp at h
  | u :: us, [], h => by simp at h
  | u :: us, v :: vs, h => by
    simp only [List.map_cons, List.cons.injEq, iZ, Value.int.injEq, true_and] at h
    rw [Subtype.ext h.1, iZ_inj (us := us) (vs := vs) h.2]
omit [Inhabited Prop] in
theorem zsOf_eq (us : List UN) : zsOf (us.map iZ) = some us := by
  unfold zsOf
  have hx : ∃ l : List UN, us.map iZ = l.map iZ := ⟨us, rfl⟩
  rw [dif_pos hx]
  have h2 := hx.choose_spec
  generalize hx.choose = l at *
  exact congrArg some (iZ_inj h2.symm)
omit [Inhabited Prop] in
theorem zsOf_some {cs : List Value} {us : List UN} (h : zsOf cs = some us) : cs = us.map iZ := by
  unfold zsOf at h
  split at h
  · rename_i hx
    have := hx.choose_spec
    cases h
    exact this
  · cases h
open Classical in
noncomputable def GSo : Deep := fun args => match args with
  | [.iface n (.iface ty (.tuple ⟨cs⟩)), .int .i64 fs] => match zsOf cs with
    | some us => if us.length = n ∧ 0 < n ∧ n < 1000000 ∧ us.Nodup then some fun B => (.slice (some ⟨B, 0, none⟩) n 4, [.cells 3 ((sortN fs us).map iZ) false]) else none
    | none => none
  | [.slice none 0 0, .int .i64 fs] => some fun _ => (nilS, [])
  | _ => none
noncomputable def gSo : HeapFn := tellK GSo
theorem hkSo : CallGoal Try.prog 23 gSo := deepG follows Try.func23 bodySo (by kernel_rfl) fun args r h => by
  unfold GSo at h
  split at h
  · rename_i n ty cs fs
    split at h
    case h_2 => cases h
    rename_i us hus
    obtain rfl := zsOf_some hus
    split at h
    case isFalse => cases h
    rename_i hx
    obtain ⟨rfl, h0, hn, hd⟩ := hx
    cases h
    rw [ntSo]
    refine ⟨fun x hx => ?_, by simp, fun B g' W X => ?_⟩
    · simp only [List.mem_cons, List.not_mem_nil, or_false] at hx
      rcases hx with rfl | rfl
      · exact stayV_bag _ _ _
      · exact stayV_int _ _
    · refine FRm.matBag (i := 0) (ty := ty) (cs := us.map iZ) rfl (by simp) h0 fun ds hp => ?_
      obtain ⟨vs, rfl, hv⟩ := perm_map_inv hp us rfl
      have el := hv.length_eq
      rw [sortN_of_perm hv]
      show FRm _ _ _ _ _ _ ⟨tmsOf [.slice (some ⟨1, 0, none⟩) us.length 2, .int .i64 fs] 0 .leaf, heapOf [.dead, .cells ty (vs.map iZ) true] hp0, []⟩ _
      rw [el] at h0 hn ⊢
      replace hd := hv.nodup hd
      clear el hv hp
      have hs : (sortN fs vs).length = vs.length := sortN_len fs vs
      replace hd : (sortN fs vs).Nodup := (sortN_perm fs vs).symm.nodup hd
      have hloop := fun g => loopSo (sortN fs vs) (by rw [hs]; exact h0) (by rw [hs]; exact hn) W X g
      simp only [hs] at hloop
      refine FRm.pieceWF ESo_ok follows sSo (So_e fs ty vs W X _) ?_
      refine ⟨gOf_nu (hgn rfl) hn, ⟨gSF_of (hgn rfl) (hgn rfl) rfl h0 hn, ⟨gCo_nu (hgn rfl) hs hn h0 hd, ⟨fxO1 (nuA_inert _), hloop, fun _ g hok => ?_⟩⟩⟩⟩
      rw [map_cvI]
      exact EndQ.row (iZ_inert _)
  · rename_i fs
    cases h
    rw [ntSo]
    refine ⟨fun x hx => ?_, by simp, fun B g' W X => ?_⟩
    · simp only [List.mem_cons, List.not_mem_nil, or_false] at hx
      rcases hx with rfl | rfl
      · exact stayV_nil
      · exact stayV_int _ _
    · refine FRm.pieceF (extH_ok .nil) follows sSo (Soz_e fs _) ?_
      refine ?_
      exact EndQ.pure stayV_nil rfl
  · cases h
omit [Inhabited Prop] in
theorem gSo_of {ty : TypeId} {us : List UN} {fs : Int} {hp : Hp} (h0 : 0 < us.length) (hn : us.length < 1000000) (hd : us.Nodup) :
    gSo [BAG us.length ty (us.map iZ), .int .i64 fs] hp = some (.slice (some ⟨hp.sz, 0, none⟩) us.length 4, heapOf [.cells 3 ((sortN fs us).map iZ) false, .dead] hp) := by
  unfold gSo tellK GSo
  simp only [zsOf_eq]
  rw [if_pos ⟨trivial, h0, hn, hd⟩]
  rfl
end Go.Proofs.Ytbhmodlpolgklaa.Tk
