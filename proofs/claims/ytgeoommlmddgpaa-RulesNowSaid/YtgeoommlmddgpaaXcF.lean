/- RulesNow, of the given program: for every height, views, two times and flag the law returns true, and the arguments read asv they did. No condition. -/
import Derived.Test.YtgeoommlmddgpaaXcE
import Derived.Shelf.SlSortCmp.WholeK
import Derived.Test.YtgeoommlmddgpaaRows
set_option linter.unusedVariables false
set_option linter.unusedSimpArgs false
set_option maxRecDepth 100000
namespace Go.Proofs.Ytgeoommlmddgpaa.LtL
open Go Go.Proofs Go.Proofs.Ytgeoommlmddgpaa.AI Go.RowKit Go.Proofs.Ytgeoommlmddgpaa.LtA Go.Shelf
def soF : Nat → Nat
  | 6 => 44
  | 14 => 79
  | 15 => 80
  | 20 => 83
  | 21 => 84
  | 22 => 85
  | 23 => 86
  | 24 => 87
  | 25 => 88
  | 26 => 89
  | 27 => 90
  | 28 => 91
  | 29 => 92
  | 46 => 95
  | 47 => 96
  | 48 => 97
  | 49 => 98
  | 50 => 99
  | 57 => 101
  | n => n
def soT : Nat → Nat
  | 22 => 34
  | 24 => 42
  | 25 => 40
  | 39 => 87
  | 45 => 91
  | 46 => 92
  | 50 => 26
  | 53 => 98
  | 55 => 100
  | 66 => 103
  | 70 => 107
  | 76 => 109
  | 77 => 110
  | n => n
def soR : Ren := ⟨soF, soT, fun n => n⟩
theorem soL : SlLaysF0.n6 Try.prog soR where
  mixed := follows
  f6 := ⟨Try.f44.name, by kernel_rfl, by kernel_rfl⟩
  f14 := ⟨Try.f79.name, by kernel_rfl, by kernel_rfl⟩
  f15 := by kernel_rfl
  f20 := ⟨Try.f83.name, by kernel_rfl, by kernel_rfl⟩
  f21 := ⟨Try.f84.name, by kernel_rfl, by kernel_rfl⟩
  f22 := ⟨Try.f85.name, by kernel_rfl, by kernel_rfl⟩
  f23 := ⟨Try.f86.name, by kernel_rfl, by kernel_rfl⟩
  f24 := ⟨Try.f87.name, by kernel_rfl, by kernel_rfl⟩
  f25 := ⟨Try.f88.name, by kernel_rfl, by kernel_rfl⟩
  f26 := ⟨Try.f89.name, by kernel_rfl, by kernel_rfl⟩
  f27 := ⟨Try.f90.name, by kernel_rfl, by kernel_rfl⟩
  f28 := by kernel_rfl
  f29 := by kernel_rfl
  f46 := ⟨Try.f95.name, by kernel_rfl, by kernel_rfl⟩
  f47 := by kernel_rfl
  f48 := by kernel_rfl
  f49 := ⟨Try.f98.name, by kernel_rfl, by kernel_rfl⟩
  f50 := ⟨Try.f99.name, by kernel_rfl, by kernel_rfl⟩
  f57 := ⟨Try.f101.name, by kernel_rfl, by kernel_rfl⟩
  t0 := by kernel_rfl
  a0 := fun w => by kernel_rfl
  z0 := fun w => by kernel_rfl
  v0 := fun w => by kernel_rfl
  t3 := by kernel_rfl
  a3 := fun w => by kernel_rfl
  z3 := fun w => by kernel_rfl
  v3 := fun w => by kernel_rfl
  t4 := by kernel_rfl
  a4 := fun w => by kernel_rfl
  z4 := fun w => by kernel_rfl
  v4 := fun w => by kernel_rfl
  t5 := by kernel_rfl
  a5 := fun w => by kernel_rfl
  z5 := fun w => by kernel_rfl
  v5 := fun w => by kernel_rfl
  t9 := by kernel_rfl
  a9 := fun w => by kernel_rfl
  z9 := fun w => by kernel_rfl
  v9 := fun w => by kernel_rfl
  t22 := by kernel_rfl
  a22 := fun w => by kernel_rfl
  z22 := fun w => by kernel_rfl
  v22 := fun w => by kernel_rfl
  t25 := by kernel_rfl
  a25 := fun w => by kernel_rfl
  z25 := fun w => by kernel_rfl
  v25 := fun w => by kernel_rfl
  t39 := by kernel_rfl
  a39 := fun w => by kernel_rfl
  z39 := fun w => by kernel_rfl
  v39 := fun w => by kernel_rfl
  t45 := by kernel_rfl
  a45 := fun w => by kernel_rfl
  z45 := fun w => by kernel_rfl
  v45 := fun w => by kernel_rfl
  t46 := by kernel_rfl
  a46 := fun w => by kernel_rfl
  z46 := fun w => by kernel_rfl
  v46 := fun w => by kernel_rfl
  t50 := by kernel_rfl
  a50 := fun w => by kernel_rfl
  z50 := fun w => by kernel_rfl
  v50 := fun w => by kernel_rfl
  t53 := by kernel_rfl
  a53 := fun w => by kernel_rfl
  z53 := fun w => by kernel_rfl
  v53 := fun w => by kernel_rfl
  t55 := by kernel_rfl
  a55 := fun w => by kernel_rfl
  z55 := fun w => by kernel_rfl
  v55 := fun w => by kernel_rfl
  t66 := by kernel_rfl
  a66 := fun w => by kernel_rfl
  z66 := fun w => by kernel_rfl
  v66 := fun w => by kernel_rfl
  t70 := by kernel_rfl
  a70 := fun w => by kernel_rfl
  z70 := fun w => by kernel_rfl
  v70 := fun w => by kernel_rfl
  t76 := by kernel_rfl
  a76 := fun w => by kernel_rfl
  z76 := fun w => by kernel_rfl
  v76 := fun w => by kernel_rfl
  t77 := by kernel_rfl
  a77 := fun w => by kernel_rfl
  z77 := fun w => by kernel_rfl
  v77 := fun w => by kernel_rfl
end Go.Proofs.Ytgeoommlmddgpaa.LtL
namespace Go.Proofs.Ytgeoommlmddgpaa.LtL
open Go Go.Proofs Go.Proofs.Ytgeoommlmddgpaa.AI Go.RowKit Go.Proofs.Ytgeoommlmddgpaa.LtA Go.Shelf
abbrev Lev := Int × Int × Int
def lc (x : Lev) : List Value := [.int .i64 x.1, .int .i64 x.2.1, .int .i64 x.2.2]
def lrow (ls : List Lev) : List Value := ls.flatMap lc
def lB (ls : List Lev) : Blk := .cells 42 (lrow ls) false
def ordL (x y : Lev) : Int := ord3 x.1 x.2.1 x.2.2 y.1 y.2.1 y.2.2
def ltL (x y : Lev) : Bool := Go.Proofs.ltOf ordL x y
theorem ordL_lt {x y : Lev} : ordL x y < 0 ↔ (x.1 < y.1 ∨ x.1 = y.1 ∧ (x.2.1 < y.2.1 ∨ x.2.1 = y.2.1 ∧ x.2.2 < y.2.2)) := by
  obtain ⟨a, b, c⟩ := x
  obtain ⟨d, e, f⟩ := y
  show ord3 a b c d e f < 0 ↔ (a < d ∨ a = d ∧ (b < e ∨ b = e ∧ c < f))
  unfold ord3 or3 cmp3
  rcases Int.lt_trichotomy a d with h1 | h1 | h1
  · have : ¬ (a > d) := by omega
    simp [h1]
  · subst h1
    rcases Int.lt_trichotomy b e with h2 | h2 | h2
    · simp [h2]
    · subst h2
      rcases Int.lt_trichotomy c f with h3 | h3 | h3
      · simp [h3]
      · subst h3; simp
      · have q : ¬ (c < f) := by omega
        simp [h3, q]
    · have q : ¬ (b < e) := by omega
      have q2 : ¬ (b = e) := by omega
      simp [h2, q, q2]
  · have q : ¬ (a < d) := by omega
    have q2 : ¬ (a = d) := by omega
    simp [h1, q, q2]
theorem ltL_iff {x y : Lev} : ltL x y = true ↔ (x.1 < y.1 ∨ x.1 = y.1 ∧ (x.2.1 < y.2.1 ∨ x.2.1 = y.2.1 ∧ x.2.2 < y.2.2)) := by
  unfold ltL Go.Proofs.ltOf
  rw [decide_eq_true_iff, ordL_lt]
theorem ltL_not {x y : Lev} : ltL x y = false ↔ ¬ (x.1 < y.1 ∨ x.1 = y.1 ∧ (x.2.1 < y.2.1 ∨ x.2.1 = y.2.1 ∧ x.2.2 < y.2.2)) := by
  rw [← ltL_iff]; simp
theorem swoL : Go.Sort.SWO (Go.Proofs.ltOf ordL) where
  irrefl x := by
    show ltL x x = false
    rw [ltL_not]; omega
  trans x y z h1 h2 := by
    have h1 := ltL_iff.1 h1
    have h2 := ltL_iff.1 h2
    exact ltL_iff.2 (by omega)
  ntrans x y z h1 h2 := by
    have h1 := ltL_not.1 h1
    have h2 := ltL_not.1 h2
    exact ltL_not.2 (by omega)
theorem ltL_eq {x y : Lev} (h1 : ltL x y = false) (h2 : ltL y x = false) : x = y := by
  rw [ltL_not] at h1 h2
  obtain ⟨a, b, c⟩ := x
  obtain ⟨d, e, f⟩ := y
  simp only at h1 h2
  have : a = d := by omega
  have : b = e := by omega
  have : c = f := by omega
  simp [*]
def sortL (ls : List Lev) : List Lev := ls.mergeSort fun x y => !Go.Proofs.ltOf ordL y x
theorem sortL_len (ls : List Lev) : (sortL ls).length = ls.length := List.length_mergeSort ..
theorem lc_len (x : Lev) : (lc x).length = 3 := rfl
theorem lrow_len (ls : List Lev) : (lrow ls).length = ls.length * 3 := by unfold lrow; rw [flat_len lc 3 ls fun _ _ => rfl]
theorem lrow_inert (ls : List Lev) : (lrow ls).all inert = true := by
  refine List.all_eq_true.2 fun v hv => ?_
  obtain ⟨x, -, hx⟩ := List.mem_flatMap.1 hv
  simp only [lc, List.mem_cons, List.not_mem_nil, or_false] at hx
  rcases hx with rfl | rfl | rfl <;> rfl
theorem lB_inert (ls : List Lev) : inertB (lB ls) = true := lrow_inert ls
theorem grow_of_bel {w w' : World} (b : Bel w.heap.size w w') : ∃ q os, w' = Go.Sort.grow (w.drewN q) os := by
  refine ⟨w'.drawn - w.drawn, w'.heap.extract w.heap.size w'.heap.size, ?_⟩
  have hd := b.tape.dr trivial
  have hh : w'.heap = w.heap ++ w'.heap.extract w.heap.size w'.heap.size := by
    apply Array.ext_getElem?
    intro k
    by_cases hk : k < w.heap.size
    · rw [Array.getElem?_append_left hk, b.block k hk]
    · rw [Array.getElem?_append_right (by omega), Array.getElem?_extract]
      have hs := b.size
      by_cases hk2 : k < w'.heap.size
      · rw [if_pos (by omega)]; congr 1; omega
      · rw [if_neg (by omega)]; exact Array.getElem?_eq_none (by omega)
  obtain ⟨h1, t1, d1, o1, u1⟩ := w
  obtain ⟨h2, t2, d2, o2, u2⟩ := w'
  have e1 : o2 = o1 := b.os
  have e2 : t2 = t1 := b.tape.eq
  have e3 : u2 = u1 := b.output
  have e4 : d1 + (d2 - d1) = d2 := by have : d1 ≤ d2 := hd; omega
  subst e1; subst e2; subst e3
  show World.mk _ _ _ _ _ = World.mk _ _ _ _ _
  simp only [World.drewN, e4]
  exact congrArg (fun h => World.mk h _ _ _ _) hh
theorem cmpLays (blk off size : Nat) (w : World) : CmpLays Try.prog 25 #[] lc 3 ordL blk off size w := fun m os dk _ x y =>
  (hk30.run [.agg (lc x).toArray, .agg (lc y).toArray] (.int .i64 (ordL x y)) rfl _).mono fun e w' h => ⟨h.1, grow_of_bel h.2⟩
theorem flatL (ls : List Lev) : (Go.Sort.flatK lc 3 ls.toArray).toList = lrow ls := by
  apply List.ext_getElem?
  intro t
  have hs : (Go.Sort.flatK lc 3 ls.toArray).size = ls.length * 3 := by rw [Go.Sort.size_flatK]; simp
  by_cases ht : t < ls.length * 3
  · have hq : t / 3 < ls.length := by omega
    have hg : ls[t / 3]? = some ls[t / 3] := List.getElem?_eq_getElem hq
    have h1 := flat_get lc 3 ls (fun _ _ => rfl) (t / 3) (t % 3) _ hg (by omega)
    rw [show t / 3 * 3 + t % 3 = t by omega] at h1
    show _ = (ls.flatMap lc)[t]?
    rw [h1, Array.getElem?_toList, Array.getElem?_eq_getElem (by omega), ← getElem!_pos _ t (by omega), Go.Sort.get_flatK _ _ _ _ (by simpa using ht)]
    have e : ls.toArray[t / 3]! = ls[t / 3] := by rw [getElem!_pos _ _ (by simpa using hq)]; simp
    rw [e]
    have h3 : t % 3 < (lc ls[t / 3]).length := by rw [lc_len]; omega
    rw [List.getElem?_eq_getElem h3, getElem!_pos (lc ls[t / 3]) (t % 3) h3]
  · rw [Array.getElem?_toList, Array.getElem?_eq_none (by omega), List.getElem?_eq_none (by rw [lrow_len]; omega)]
open Classical in
noncomputable def gSF : HeapFn := fun args hp => match args with
  | [.slice (some ⟨b, 0, none⟩) n c, f] => if h : f = .func (.func 25) #[] #[] ∧ ∃ ls : List Lev, hp.get b = some (lB ls) ∧ n = ls.length ∧ 0 < n ∧ n < 4611686018427387904 then some (.tuple #[], hp.put b (lB (sortL h.2.choose))) else none
  | _ => none
theorem lrow_inj : ∀ {us vs : List Lev}, lrow us = lrow vs → us = vs
  | [], [], _ => rfl
  | [], v :: vs, h => by simp [lrow, lc] at h
  | u :: us, [], h => by simp [lrow, lc] at h
  | u :: us, v :: vs, h => by
    simp only [lrow, List.flatMap_cons, lc, List.cons_append, List.nil_append, List.cons.injEq, Value.int.injEq, true_and] at h
    obtain ⟨h1, h2, h3, h4⟩ := h
    rw [lrow_inj (us := us) (vs := vs) h4]
    obtain ⟨a, b, c⟩ := u
    obtain ⟨d, e, f⟩ := v
    simp only at h1 h2 h3
    rw [h1, h2, h3]
theorem gSF_of {ls : List Lev} {b n c : Nat} {hp : Hp} (hb : hp.get b = some (lB ls)) (hn : n = ls.length) (h0 : 0 < n) (h1 : n < 4611686018427387904) : gSF [.slice (some ⟨b, 0, none⟩) n c, .func (.func 25) #[] #[]] hp = some (.tuple #[], hp.put b (lB (sortL ls))) := by
  unfold gSF
  have hx : Value.func (.func 25) #[] #[] = .func (.func 25) #[] #[] ∧ ∃ ls : List Lev, hp.get b = some (lB ls) ∧ n = ls.length ∧ 0 < n ∧ n < 4611686018427387904 := ⟨rfl, ls, hb, hn, h0, h1⟩
  simp only
  rw [dif_pos hx]
  have e := hx.2.choose_spec.1
  have e2 := hb.symm.trans e
  unfold lB at e2
  injection e2 with e2
  injection e2 with _ e2 _
  have e3 := lrow_inj e2
  exact congrArg (fun l => some (Value.tuple #[], hp.put b (lB (sortL l)))) e3.symm
theorem hkSF : CallGoal Try.prog 44 gSF := by
  intro args hp v hp' he hk
  unfold gSF at he
  split at he
  case h_2 => cases he
  rename_i b n c f
  split at he
  case isFalse => cases he
  rename_i hx
  obtain ⟨hf, hex⟩ := hx
  obtain ⟨hb, hn, hn0, hn1⟩ := hex.choose_spec
  generalize hex.choose = ls at *
  cases he
  subst hf
  have hlt := lt_of_get hk hb
  have hkput : (hp.put b (lB (sortL ls))).ok := fun c hc => by
    rw [Hp.sz_put] at hc
    rw [Hp.get_put, if_neg (by omega)]
    exact hk c hc
  refine ⟨hkput, by rw [Hp.sz_put]; exact Nat.le_refl _, fun m h w args' hfr s ra => .inr ⟨run_callFunc Try.func44 (by rfl) (by kernel_rfl), ?_⟩⟩
  obtain ⟨v1, bs1, e1, r1, q1⟩ := ra.of_cons
  obtain ⟨v2, bs2, e2, r2, q2⟩ := q1.of_cons
  have e3 := q2.of_nil
  subst e3
  obtain ⟨b', off, r, off', cap, ea, rfl, hcap, hd⟩ := r1.of_slice
  cases ea
  have gb := ovr_sub hk h b _ hb
  rcases hd with hd | ⟨δ, E, hm, hoff, -⟩
  · rw [gb] at hd; cases hd
  · have ho : off' = δ := by
      rcases hoff with h1 | h1
      · omega
      · omega
    subst ho
    have ev2 : v2 = .func (.func 25) #[] #[] := by
      obtain ⟨a', c', rfl, ⟨s1, _⟩, ⟨s3, _⟩⟩ := r2.of_func
      have z1 : a' = #[] := Array.eq_empty_of_size_eq_zero (by simpa using s1.symm)
      have z2 : c' = #[] := Array.eq_empty_of_size_eq_zero (by simpa using s3.symm)
      subst z1; subst z2; rfl
    subst ev2
    have eargs : args' = #[.slice (some ⟨r, off', none⟩) n cap, .func (.func 25) #[] #[]] := by
      have : args'.toList = [.slice (some ⟨r, off', none⟩) n cap, .func (.func 25) #[] #[]] := by rw [e1, e2]
      cases args'; simp_all
    subst eargs
    obtain ⟨o, ho', hbr⟩ := s.dom b _ hm
    rw [gb] at ho'; cases ho'
    obtain ⟨cc, fr, g1, g2, g3, g4, g5⟩ := hbr
    have hlen : (lrow ls).length = ls.length * 3 := lrow_len ls
    simp only at g1 g2 g3 g4 g5
    have hr : r < w.heap.size := (Array.getElem?_eq_some_iff.1 g1).1
    have hH : Go.Sort.HoldsK lc 3 w r off' ls.toArray := by
      intro j hj
      have hj' : j < ls.length * 3 := by rw [Go.Sort.size_flatK] at hj; simpa using hj
      have hjL : j < (lrow ls).length := by omega
      have hcj : off' + j < cc.size := by omega
      have hv := g4 j _ cc[off' + j] (List.getElem?_eq_getElem hjL) (Array.getElem?_eq_getElem hcj)
      have hin := List.all_eq_true.1 (lrow_inert ls) _ (List.getElem_mem hjL)
      have ev : cc[off' + j] = (lrow ls)[j] := by
        obtain ⟨x, -, hx⟩ := List.mem_flatMap.1 (List.getElem_mem hjL)
        simp only [lc, List.mem_cons, List.not_mem_nil, or_false] at hx
        rcases hx with hx | hx | hx <;> (rw [hx] at hv ⊢; exact hv.of_int)
      constructor
      · rw [cell_of g1, Array.getElem?_eq_getElem hcj, ev]
        have := congrArg (fun l => l[j]?) (flatL ls)
        simp only [Array.getElem?_toList] at this
        rw [Array.getElem?_eq_getElem hj, List.getElem?_eq_getElem hjL] at this
        rw [getElem!_pos _ j hj]
        simpa using this.symm
      · unfold World.frozen?
        rw [g1]
        have := g5.1 trivial (off' + j) (by omega)
        obtain ⟨lo, hi⟩ := fr
        simp only at this ⊢
        simp only [Bool.and_eq_false_imp, decide_eq_true_eq, decide_eq_false_iff_not]
        intro q; omega
    have eg : ∀ args w, (callFunc 25 args).run Try.prog w = .ok (.enter 25 args) w := fun args w => run_callFunc Try.func25 (by rfl) (by kernel_rfl)
    have hcon := AnyQ.slices_SortFunc soL 3 (fun w => by kernel_rfl) (fun w => by kernel_rfl) lc (fun _ => rfl) (fun x v hv => by simp [lc] at hv; rcases hv with rfl | rfl | rfl <;> rfl) ordL swoL 25 #[] r off' cap ls.toArray w eg (cmpLays r off' _ w) hH hr (by simp; omega)
    change Calls Try.prog 44 _ _ _ at hcon
    rw [show ls.toArray.size = n by simp [hn]] at hcon
    refine hcon.mono fun e w' hh => ?_
    obtain ⟨rfl, d', q, os, hp1, hs1, rfl⟩ := hh
    have hd' : d'.toList = sortL ls := by
      have := Go.Sort.sorted_unique_holds swoL (fun x y => ltL_eq) ls.toArray d' (by rw [show ls.toArray.size = n by simp [hn]]; exact hp1) (by rw [show ls.toArray.size = n by simp [hn]]; exact hs1)
      simpa [sortL] using this
    have hds : d'.size = n := by
      have := congrArg List.length hd'
      rw [sortL_len, Array.length_toList] at this
      omega
    have ed : d' = (sortL ls).toArray := by rw [← hd']
    refine ⟨.tuple #[], rfl, m, ?_, .tuple rfl fun i v v' q1 _ => by simp at q1⟩
    -- the world behind it
    have hheap : ∀ k, (Go.Proofs.sortWorldK lc 3 w r off' q d' os).heap[k]? = if k < w.heap.size then (if k = r then (w.heap[k]?).map (Go.Sort.onCells (Go.Sort.putCells id off' (Go.Sort.flatK lc 3 d'))) else w.heap[k]?) else os[k - w.heap.size]? := by
      intro k
      unfold Go.Proofs.sortWorldK Go.Sort.grow Go.Sort.putRowK Go.Sort.putRow Go.Sort.mapBlock Go.Sort.ahead
      simp only [Array.getElem?_append, Array.size_modify, Array.getElem?_modify]
      by_cases hk1 : k < w.heap.size
      · rw [if_pos hk1, if_pos hk1]
        by_cases hk2 : r = k
        · subst hk2; simp
        · rw [if_neg hk2, if_neg (fun e => hk2 e.symm)]
      · rw [if_neg hk1, if_neg hk1]
    have kp : Keeps ⟨w, fun k => k = (r, off', E).1⟩ (Go.Proofs.sortWorldK lc 3 w r off' q d' os) := by
      refine ⟨rfl, ⟨rfl, fun _ => Nat.le_add_right _ _⟩, rfl, ?_, fun k hk1 hne => ?_⟩
      · unfold Go.Proofs.sortWorldK Go.Sort.grow Go.Sort.putRowK Go.Sort.putRow Go.Sort.mapBlock Go.Sort.ahead; simp
      · rw [hheap, if_pos hk1, if_neg hne]
    have e0 : (heapOf [lB (sortL ls), .dead] hp0).get 0 = some (lB (sortL ls)) := by rw [heapOf0_get]; rfl
    have fsz : (Go.Sort.flatK lc 3 d').size = n * 3 := by rw [Go.Sort.size_flatK, hds]
    have hsim : Sim (fun b => if b = 0 then some (r, off', E) else none) (heapOf [lB (sortL ls), .dead] hp0).get (Go.Proofs.sortWorldK lc 3 w r off' q d' os) := by
      refine ⟨fun b x hx => ?_, fun b b' x x' hx hx' _ _ _ => ?_⟩
      · by_cases hb0 : b = 0
        · subst hb0
          simp only [if_true, Option.some.injEq] at hx
          subst hx
          refine ⟨_, e0, Go.Sort.putCells id off' (Go.Sort.flatK lc 3 d') cc, fr, ?_, ?_, ?_, fun i u u' p1 p2 => ?_, ?_⟩
          · rw [hheap, if_pos hr, if_pos rfl, g1]; rfl
          · rw [lrow_len, sortL_len]; rw [hlen] at g2; exact g2
          · show E ≤ _
            simpa [Go.Sort.putCells] using g3
          · have hi : i < (lrow (sortL ls)).length := (List.getElem?_eq_some_iff.1 p1).1
            have hi' : i < n * 3 := by rw [lrow_len, sortL_len] at hi; omega
            have hci : off' + i < cc.size := by omega
            have hu : u' = (Go.Sort.flatK lc 3 d')[i]! := by
              simp only [Go.Sort.putCells, Array.getElem?_mapIdx, Array.getElem?_eq_getElem hci, Option.map_some, Option.some.injEq] at p2
              rw [if_pos ⟨by omega, by omega⟩, show off' + i - off' = i by omega] at p2
              exact p2.symm
            have hfl : (Go.Sort.flatK lc 3 d')[i]? = some u := by
              have := congrArg (fun l => l[i]?) (flatL (sortL ls))
              simp only [Array.getElem?_toList] at this
              rw [ed, this, p1]
            have : u' = u := by
              rw [hu, getElem!_pos _ i (by omega)]
              rw [Array.getElem?_eq_getElem (by omega)] at hfl
              simpa using hfl
            subst this
            have hin := List.all_eq_true.1 (lrow_inert (sortL ls)) _ (List.mem_of_getElem? p1)
            obtain ⟨x, -, hx⟩ := List.mem_flatMap.1 (List.mem_of_getElem? p1)
            simp only [lc, List.mem_cons, List.not_mem_nil, or_false] at hx
            rcases hx with rfl | rfl | rfl <;> exact .flat rfl
          · refine ⟨fun _ j hj => g5.1 trivial j (by simpa [Go.Sort.putCells] using hj), fun h => by cases h⟩
        · rw [if_neg hb0] at hx; cases hx
      · by_cases hb0 : b = 0
        · by_cases hb1 : b' = 0
          · rw [hb0, hb1]
          · rw [if_neg hb1] at hx'; cases hx'
        · rw [if_neg hb0] at hx; cases hx
    exact putIn_go (x := (r, off', E)) hk s hb hm kp hsim (by simp) e0 (lrow_inert _)
end Go.Proofs.Ytgeoommlmddgpaa.LtL
namespace Go.Proofs.Ytgeoommlmddgpaa.LtL
open Go Go.Proofs Go.Proofs.Ytgeoommlmddgpaa.AI Go.RowKit Go.Proofs.Ytgeoommlmddgpaa.Sort Go.Proofs.Ytgeoommlmddgpaa.LtA
def lA (x : Lev) : Value := .agg ⟨lc x⟩
def slL (off n : Nat) : Value := .slice (some ⟨0, off, none⟩) n 11
noncomputable def E45 : Ext := extH Try.prog []
theorem E45_ok : ExtOk Try.prog E45 := extH_ok .nil
noncomputable def fb45 : Code := (Try.f45.body).getD .skip
theorem ntmps45 : Try.f45.ntmps = 61 := by kernel_rfl
theorem q45 (v : Value) (O : List Blk) (g : Nat → Value) : retVal Try.prog Try.f45 (stOf 61 g [(2, v)] O) = some v := by kernel_rfl
def cT : Code → Code
  | .cond _ a _ => a
  | c => c
noncomputable def k45a : Code := sL (fb45)
theorem sk45a : codeSafe Try.prog 61 k45a = true := by kernel_rfl
noncomputable def k45b : Code := sL (sL (sR (fb45)))
theorem sk45b : codeSafe Try.prog 61 k45b = true := by kernel_rfl
noncomputable def k45c : Code := sR (sL (sR (fb45)))
theorem sk45c : codeSafe Try.prog 61 k45c = true := by kernel_rfl
noncomputable def k45d : Code := sL (sL (sR (sR (fb45))))
theorem sk45d : codeSafe Try.prog 61 k45d = true := by kernel_rfl
noncomputable def k45La : Code := sL (unL (unB (sR (sL (sR (sR (fb45)))))))
theorem sk45La : codeSafe Try.prog 61 k45La = true := by kernel_rfl
noncomputable def k45Lba : Code := sL (unB (sL (sR (unL (unB (sR (sL (sR (sR (fb45))))))))))
theorem sk45Lba : codeSafe Try.prog 61 k45Lba = true := by kernel_rfl
noncomputable def k45Lbb : Code := cT (sR (unB (sL (sR (unL (unB (sR (sL (sR (sR (fb45)))))))))))
noncomputable def k45Lc : Code := sR (sR (unL (unB (sR (sL (sR (sR (fb45))))))))
noncomputable def k45I0 : Code := sL (sL (sR (cT (sR (unB (sL (sR (unL (unB (sR (sL (sR (sR (fb45))))))))))))))
theorem sk45I0 : codeSafe Try.prog 61 k45I0 = true := by kernel_rfl
noncomputable def k45IL : Code := unL (unB (sR (sL (sR (cT (sR (unB (sL (sR (unL (unB (sR (sL (sR (sR (fb45))))))))))))))))
theorem sk45IL : codeSafe Try.prog 61 k45IL = true := by kernel_rfl
noncomputable def k45Ie : Code := sR (sR (cT (sR (unB (sL (sR (unL (unB (sR (sL (sR (sR (fb45)))))))))))))
theorem sk45Ie : codeSafe Try.prog 61 k45Ie = true := by kernel_rfl
noncomputable def k45z : Code := sR (sR (sR (fb45)))
theorem sk45z : codeSafe Try.prog 61 k45z = true := by kernel_rfl
noncomputable abbrev code45 : Code := .seq k45a (.seq (.seq k45b k45c) (.seq (.seq k45d (.block 0 (.loop (.seq k45La (.seq (.block 1 (.seq k45Lba (.cond (.tmp 25) (.seq (sL k45Lbb) (.seq (.seq k45I0 (.block 2 (.loop k45IL))) k45Ie)) .skip))) k45Lc))))) k45z))
theorem codeB45 : Try.f45.body = some code45 := by kernel_rfl
section
theorem A_0 (us : List Lev) (n : Nat) : (execN Try.prog (aCall Try.prog E45 5) (callN Try.prog E45 5) 30 k45a ⟨tmsOf [slL 0 n] 0 .leaf, heapOf [lB us, .dead] hp0, []⟩ (acc0 [])).map (fun y => (look2 1 [0] [0] (y.1, y.2.1), y.2.2.q, y.2.2.r, y.2.2.x)) =
    some ((.normal, [lB us], [(0, slL 0 n)], true), [], [], []) := by kernel_rfl
end
section
theorem B_0 (us : List Lev) (n : Nat) (g : Nat → Value) : (execN Try.prog (aCall Try.prog E45 5) (callN Try.prog E45 5) 30 (.seq k45b k45c) (stOf 61 g [(0, slL 0 n)] [lB us]) (acc0 [(2, .v (.bool true))])).map (fun y => (look2 1 [0] [2] (y.1, y.2.1), y.2.2.q, y.2.2.r, y.2.2.x)) =
    some ((.ret, [lB us], [(2, slL 0 n)], true), [(some (.bool (decide ((Int.ofNat n) < (Int.ofNat 2)))), .bool true)], [], []) := by kernel_rfl
theorem B_1 (us : List Lev) (n : Nat) (g : Nat → Value) : (execN Try.prog (aCall Try.prog E45 5) (callN Try.prog E45 5) 30 (.seq k45b k45c) (stOf 61 g [(0, slL 0 n)] [lB us]) (acc0 [(2, .v (.bool false))])).map (fun y => (look2 1 [0] [0] (y.1, y.2.1), y.2.2.q, y.2.2.r, y.2.2.x)) =
    some ((.normal, [lB us], [(0, slL 0 n)], true), [(some (.bool (decide ((Int.ofNat n) < (Int.ofNat 2)))), .bool false)], [], []) := by kernel_rfl
end
section
theorem D_0 (us : List Lev) (n : Nat) (g : Nat → Value) : (execN Try.prog (aCall Try.prog E45 5) (callN Try.prog E45 5) 30 k45d (stOf 61 g [(0, slL 0 n)] [lB us]) (acc0 [])).map (fun y => (look2 1 [0] [0, 3] (y.1, y.2.1), y.2.2.q, y.2.2.r, y.2.2.x)) =
    some ((.normal, [lB us], [(0, slL 0 n), (3, iN 1)], true), [], [], []) := by kernel_rfl
end
section
theorem X_0 (us : List Lev) (n q : Nat) (g : Nat → Value) : (execN Try.prog (aCall Try.prog E45 5) (callN Try.prog E45 5) 30 k45La (stOf 61 g [(0, slL 0 n), (3, iN (q + 1))] [lB us]) (acc0 [(3, .v (.bool true))])).map (fun y => (look2 1 [0] [0, 3] (y.1, y.2.1), y.2.2.q, y.2.2.r, y.2.2.x)) =
    some ((.normal, [lB us], [(0, slL 0 n), (3, iN (q + 1))], true), [(some (.bool (decide ((Int.ofNat (q + 1)) < (Int.ofNat n)))), .bool true)], [], []) := by kernel_rfl
theorem X_1 (us : List Lev) (n q : Nat) (g : Nat → Value) : (execN Try.prog (aCall Try.prog E45 5) (callN Try.prog E45 5) 30 k45La (stOf 61 g [(0, slL 0 n), (3, iN (q + 1))] [lB us]) (acc0 [(3, .v (.bool false))])).map (fun y => (look2 1 [0] [0, 3] (y.1, y.2.1), y.2.2.q, y.2.2.r, y.2.2.x)) =
    some ((.exit 0, [lB us], [(0, slL 0 n), (3, iN (q + 1))], true), [(some (.bool (decide ((Int.ofNat (q + 1)) < (Int.ofNat n)))), .bool false)], [], []) := by kernel_rfl
end
section
theorem Y_0 (us : List Lev) (n q : Nat) (x y : Lev) (g : Nat → Value) : (execN Try.prog (aCall Try.prog E45 5) (callN Try.prog E45 5) 30 k45Lba (stOf 61 g [(0, slL 0 n), (3, iN (q + 1))] [lB us]) (acc0 [(9, .v (.bool true)), (8, .v (lA y)), (7, .v (pb 0 (q * 3))), (6, .v (iN q)), (3, .v (lA x)), (2, .v (pb 0 ((q + 1) * 3)))])).map (fun y => (look2 1 [0] [0, 3, 25] (y.1, y.2.1), y.2.2.q, y.2.2.r, y.2.2.x)) =
    some ((.normal, [lB us], [(0, slL 0 n), (3, iN (q + 1)), (25, .bool true)], true), [(fstV ((aBin Try.prog .eql 42 (lA x) (lA y)).map fun v => (v, none)), .bool true), (aLoad Try.prog (heapOf [lB us, .dead] hp0).get 42 (pb 0 (q * 3)), lA y), (fstV ((aIndexAddr Try.prog 34 (slL 0 n) (iN q)).map fun v => (v, none)), pb 0 (q * 3)), (some (.int .i64 (wrapF .i64 (Int.ofNat (q + 1) - Int.ofNat 1))), iN q), (aLoad Try.prog (heapOf [lB us, .dead] hp0).get 42 (pb 0 ((q + 1) * 3)), lA x), (fstV ((aIndexAddr Try.prog 34 (slL 0 n) (iN (q + 1))).map fun v => (v, none)), pb 0 ((q + 1) * 3))], [], []) := by kernel_rfl
end
noncomputable abbrev kR45 : Code := .seq (.block 1 (.seq k45Lba (.cond (.tmp 25) (.seq (sL k45Lbb) (.seq (.seq k45I0 (.block 2 (.loop k45IL))) k45Ie)) .skip))) k45Lc
theorem sR45 : codeSafe Try.prog 61 kR45 = true := by kernel_rfl
section
theorem V_0 (us : List Lev) (n q : Nat) (x y : Lev) (g : Nat → Value) : (execN Try.prog (aCall Try.prog E45 5) (callN Try.prog E45 5) 30 kR45 (stOf 61 g [(0, slL 0 n), (3, iN (q + 1))] [lB us]) (acc0 [(11, .v (iN ((q + 1) + 1))), (9, .v (.bool false)), (8, .v (lA y)), (7, .v (pb 0 (q * 3))), (6, .v (iN q)), (3, .v (lA x)), (2, .v (pb 0 ((q + 1) * 3)))])).map (fun y => (look2 1 [0] [0, 3] (y.1, y.2.1), y.2.2.q, y.2.2.r, y.2.2.x)) =
    some ((.normal, [lB us], [(0, slL 0 n), (3, iN ((q + 1) + 1))], true), [(some (.int .i64 (wrapF .i64 (Int.ofNat (q + 1) + Int.ofNat 1))), iN ((q + 1) + 1)), (fstV ((aBin Try.prog .eql 42 (lA x) (lA y)).map fun v => (v, none)), .bool false), (aLoad Try.prog (heapOf [lB us, .dead] hp0).get 42 (pb 0 (q * 3)), lA y), (fstV ((aIndexAddr Try.prog 34 (slL 0 n) (iN q)).map fun v => (v, none)), pb 0 (q * 3)), (some (.int .i64 (wrapF .i64 (Int.ofNat (q + 1) - Int.ofNat 1))), iN q), (aLoad Try.prog (heapOf [lB us, .dead] hp0).get 42 (pb 0 ((q + 1) * 3)), lA x), (fstV ((aIndexAddr Try.prog 34 (slL 0 n) (iN (q + 1))).map fun v => (v, none)), pb 0 ((q + 1) * 3))], [], []) := by kernel_rfl
end
section
end
section
theorem T_0 (us : List Lev) (n q : Nat) (g : Nat → Value) : (execN Try.prog (aCall Try.prog E45 5) (callN Try.prog E45 5) 30 (sL k45Lbb) (stOf 61 g [(0, slL 0 n), (3, iN (q + 1))] [lB us]) (acc0 [(2, .v (slL ((q + 1) * 3) (n - (q + 1))))])).map (fun y => (look2 1 [0] [0, 3, 4] (y.1, y.2.1), y.2.2.q, y.2.2.r, y.2.2.x)) =
    some ((.normal, [lB us], [(0, slL 0 n), (3, iN (q + 1)), (4, slL ((q + 1) * 3) (n - (q + 1)))], true), [(fstV ((aSlice Try.prog 34 (slL 0 n) (some (iN (q + 1))) none none).map fun v => (v, none)), slL ((q + 1) * 3) (n - (q + 1)))], [], []) := by kernel_rfl
end
section
theorem I_0 (us : List Lev) (n p : Nat) (g : Nat → Value) : (execN Try.prog (aCall Try.prog E45 5) (callN Try.prog E45 5) 30 k45I0 (stOf 61 g [(0, slL 0 n), (3, iN (p + 1)), (4, slL ((p + 1) * 3) (n - (p + 1)))] [lB us]) (acc0 [])).map (fun y => (look2 1 [0] [0, 3, 4, 5] (y.1, y.2.1), y.2.2.q, y.2.2.r, y.2.2.x)) =
    some ((.normal, [lB us], [(0, slL 0 n), (3, iN (p + 1)), (4, slL ((p + 1) * 3) (n - (p + 1))), (5, iN 1)], true), [], [], []) := by kernel_rfl
end
section
theorem J_0 (us vs : List Lev) (n p j m : Nat) (x y : Lev) (g : Nat → Value) : (execN Try.prog (aCall Try.prog E45 5) (callN Try.prog E45 5) 30 k45IL (stOf 61 g [(0, slL 0 n), (3, iN m), (4, slL ((p + 1) * 3) (n - (p + 1))), (5, iN (j + 1))] [lB us]) (acc0 [(26, .v (iN ((j + 1) + 1))), (23, .v (iN (m + 1))), (21, .e undef [.put 0 (lB vs)]), (20, .v (pb 0 (m * 3))), (19, .v (lA x)), (18, .v (pb 0 (((p + 1) + (j + 1)) * 3))), (13, .v (.bool true)), (12, .v (lA y)), (11, .v (pb 0 (((p + 1) + j) * 3))), (10, .v (iN j)), (7, .v (lA x)), (6, .v (pb 0 (((p + 1) + (j + 1)) * 3))), (3, .v (.bool true))])).map (fun y => (look2 1 [0] [0, 3, 4, 5] (y.1, y.2.1), y.2.2.q, y.2.2.r, y.2.2.x)) =
    some ((.normal, [lB vs], [(0, slL 0 n), (3, iN (m + 1)), (4, slL ((p + 1) * 3) (n - (p + 1))), (5, iN ((j + 1) + 1))], true), [(some (.int .i64 (wrapF .i64 (Int.ofNat (j + 1) + Int.ofNat 1))), iN ((j + 1) + 1)), (some (.int .i64 (wrapF .i64 (Int.ofNat m + Int.ofNat 1))), iN (m + 1)), (fstV ((aIndexAddr Try.prog 34 (slL 0 n) (iN m)).map fun v => (v, none)), pb 0 (m * 3)), (aLoad Try.prog (heapOf [lB us, .dead] hp0).get 42 (pb 0 (((p + 1) + (j + 1)) * 3)), lA x), (fstV ((aIndexAddr Try.prog 34 (slL ((p + 1) * 3) (n - (p + 1))) (iN (j + 1))).map fun v => (v, none)), pb 0 (((p + 1) + (j + 1)) * 3)), (fstV ((aBin Try.prog .neq 42 (lA x) (lA y)).map fun v => (v, none)), .bool true), (aLoad Try.prog (heapOf [lB us, .dead] hp0).get 42 (pb 0 (((p + 1) + j) * 3)), lA y), (fstV ((aIndexAddr Try.prog 34 (slL ((p + 1) * 3) (n - (p + 1))) (iN j)).map fun v => (v, none)), pb 0 (((p + 1) + j) * 3)), (some (.int .i64 (wrapF .i64 (Int.ofNat (j + 1) - Int.ofNat 1))), iN j), (aLoad Try.prog (heapOf [lB us, .dead] hp0).get 42 (pb 0 (((p + 1) + (j + 1)) * 3)), lA x), (fstV ((aIndexAddr Try.prog 34 (slL ((p + 1) * 3) (n - (p + 1))) (iN (j + 1))).map fun v => (v, none)), pb 0 (((p + 1) + (j + 1)) * 3)), (some (.bool (decide ((Int.ofNat (j + 1)) < (Int.ofNat (n - (p + 1)))))), .bool true)], [], [((aStore Try.prog (heapOf [lB us, .dead] hp0).get 42 (pb 0 (m * 3)) (lA x)).map (fun es => (undef, es)), (undef, [.put 0 (lB vs)]))]) := by kernel_rfl
theorem J_1 (us vs : List Lev) (n p j m : Nat) (x y : Lev) (g : Nat → Value) : (execN Try.prog (aCall Try.prog E45 5) (callN Try.prog E45 5) 30 k45IL (stOf 61 g [(0, slL 0 n), (3, iN m), (4, slL ((p + 1) * 3) (n - (p + 1))), (5, iN (j + 1))] [lB us]) (acc0 [(15, .v (iN ((j + 1) + 1))), (13, .v (.bool false)), (12, .v (lA y)), (11, .v (pb 0 (((p + 1) + j) * 3))), (10, .v (iN j)), (7, .v (lA x)), (6, .v (pb 0 (((p + 1) + (j + 1)) * 3))), (3, .v (.bool true))])).map (fun y => (look2 1 [0] [0, 3, 4, 5] (y.1, y.2.1), y.2.2.q, y.2.2.r, y.2.2.x)) =
    some ((.normal, [lB us], [(0, slL 0 n), (3, iN m), (4, slL ((p + 1) * 3) (n - (p + 1))), (5, iN ((j + 1) + 1))], true), [(some (.int .i64 (wrapF .i64 (Int.ofNat (j + 1) + Int.ofNat 1))), iN ((j + 1) + 1)), (fstV ((aBin Try.prog .neq 42 (lA x) (lA y)).map fun v => (v, none)), .bool false), (aLoad Try.prog (heapOf [lB us, .dead] hp0).get 42 (pb 0 (((p + 1) + j) * 3)), lA y), (fstV ((aIndexAddr Try.prog 34 (slL ((p + 1) * 3) (n - (p + 1))) (iN j)).map fun v => (v, none)), pb 0 (((p + 1) + j) * 3)), (some (.int .i64 (wrapF .i64 (Int.ofNat (j + 1) - Int.ofNat 1))), iN j), (aLoad Try.prog (heapOf [lB us, .dead] hp0).get 42 (pb 0 (((p + 1) + (j + 1)) * 3)), lA x), (fstV ((aIndexAddr Try.prog 34 (slL ((p + 1) * 3) (n - (p + 1))) (iN (j + 1))).map fun v => (v, none)), pb 0 (((p + 1) + (j + 1)) * 3)), (some (.bool (decide ((Int.ofNat (j + 1)) < (Int.ofNat (n - (p + 1)))))), .bool true)], [], []) := by kernel_rfl
theorem J_2 (us vs : List Lev) (n p j m : Nat) (x y : Lev) (g : Nat → Value) : (execN Try.prog (aCall Try.prog E45 5) (callN Try.prog E45 5) 30 k45IL (stOf 61 g [(0, slL 0 n), (3, iN m), (4, slL ((p + 1) * 3) (n - (p + 1))), (5, iN (j + 1))] [lB us]) (acc0 [(3, .v (.bool false))])).map (fun y => (look2 1 [0] [0, 3] (y.1, y.2.1), y.2.2.q, y.2.2.r, y.2.2.x)) =
    some ((.exit 2, [lB us], [(0, slL 0 n), (3, iN m)], true), [(some (.bool (decide ((Int.ofNat (j + 1)) < (Int.ofNat (n - (p + 1)))))), .bool false)], [], []) := by kernel_rfl
end
section
theorem Z_0 (us : List Lev) (zs : List Value) (n m : Nat) (g : Nat → Value) : (execN Try.prog (aCall Try.prog E45 5) (callN Try.prog E45 5) 30 k45Ie (stOf 61 g [(0, slL 0 n), (3, iN m)] [lB us]) (acc0 [(6, .v (slL 0 m)), (3, .e (.tuple #[]) [.put 0 (.cells 42 zs false)]), (2, .v (slL (m * 3) (n - m)))])).map (fun y => (look2 1 [0] [2] (y.1, y.2.1), y.2.2.q, y.2.2.r, y.2.2.x)) =
    some ((.ret, [.cells 42 zs false], [(2, slL 0 m)], true), [(fstV ((aSlice Try.prog 34 (slL 0 n) none (some (iN m)) none).map fun v => (v, none)), slL 0 m), (fstV ((aSlice Try.prog 34 (slL 0 n) (some (iN m)) none none).map fun v => (v, none)), slL (m * 3) (n - m))], [], [(aClear Try.prog (heapOf [lB us, .dead] hp0).get [34] [slL (m * 3) (n - m)], (.tuple #[], [.put 0 (.cells 42 zs false)]))]) := by kernel_rfl
end
section
theorem E_0 (us : List Lev) (n : Nat) (g : Nat → Value) : (execN Try.prog (aCall Try.prog E45 5) (callN Try.prog E45 5) 30 k45z (stOf 61 g [(0, slL 0 n)] [lB us]) (acc0 [])).map (fun y => (look2 1 [0] [2] (y.1, y.2.1), y.2.2.q, y.2.2.r, y.2.2.x)) =
    some ((.ret, [lB us], [(2, slL 0 n)], true), [], [], []) := by kernel_rfl
end
end Go.Proofs.Ytgeoommlmddgpaa.LtL
namespace Go.Proofs.Ytgeoommlmddgpaa.LtL
open Go Go.Proofs Go.Proofs.Ytgeoommlmddgpaa.AI Go.RowKit Go.Proofs.Ytgeoommlmddgpaa.Sort Go.Proofs.Ytgeoommlmddgpaa.LtA
def dedS (a : List Lev) (y : Lev) : List Lev := if a.getLast? = some y then a else a ++ [y]
def ded (ls : List Lev) : List Lev := ls.foldl dedS []
theorem ded_snoc (l : List Lev) (y : Lev) : ded (l ++ [y]) = dedS (ded l) y := by unfold ded; rw [List.foldl_append]; rfl
theorem dedS_last (a : List Lev) (y : Lev) : (dedS a y).getLast? = some y := by
  unfold dedS
  split
  · assumption
  · simp
theorem ded_last {l : List Lev} {y : Lev} (h : l.getLast? = some y) : (ded l).getLast? = some y := by
  rcases List.eq_nil_or_concat l with rfl | ⟨l', z, rfl⟩
  · cases h
  · rw [List.concat_eq_append] at h ⊢
    have : z = y := by simpa using h
    rw [ded_snoc, dedS_last, this]
theorem take_snoc {l : List Lev} {i : Nat} {x : Lev} (h : l[i]? = some x) : l.take (i + 1) = l.take i ++ [x] := by
  rw [List.take_add_one, h]; rfl
theorem take_last {l : List Lev} {i : Nat} {x : Lev} (h : l[i]? = some x) : (l.take (i + 1)).getLast? = some x := by
  rw [take_snoc h]; simp
theorem ded_len (l : List Lev) : (ded l).length ≤ l.length := by
  have key : ∀ (l a : List Lev), (l.foldl dedS a).length ≤ a.length + l.length := by
    intro l
    induction l with
    | nil => intro a; simp
    | cons y l ih =>
      intro a
      have h1 := ih (dedS a y)
      have h2 : (dedS a y).length ≤ a.length + 1 := by unfold dedS; split <;> simp
      rw [List.foldl_cons, List.length_cons]; omega
  have := key l []
  rw [List.length_nil, Nat.zero_add] at this
  exact this
theorem ded_more {l : List Lev} {i : Nat} {x y : Lev} (h1 : l[i]? = some y) (h2 : l[i + 1]? = some x) : ded (l.take (i + 1 + 1)) = if y = x then ded (l.take (i + 1)) else ded (l.take (i + 1)) ++ [x] := by
  rw [take_snoc h2, ded_snoc]
  unfold dedS
  rw [ded_last (take_last h1)]
  simp
theorem eqLev (x y : Lev) : fstV ((aBin Try.prog .eql 42 (lA x) (lA y)).map fun v => (v, none)) = some (.bool (x == y)) := by
  obtain ⟨a, b, c⟩ := x
  obtain ⟨d, e, f⟩ := y
  have h : aBin Try.prog .eql 42 (lA (a, b, c)) (lA (d, e, f)) = (andE (a == d) (andE (b == e) (andE (c == f) (some true)))).map .bool := by kernel_rfl
  rw [h]
  simp only [andE_some, Bool.and_true]
  rfl
theorem neLev (x y : Lev) : fstV ((aBin Try.prog .neq 42 (lA x) (lA y)).map fun v => (v, none)) = some (.bool (!(x == y))) := by
  obtain ⟨a, b, c⟩ := x
  obtain ⟨d, e, f⟩ := y
  have h : aBin Try.prog .neq 42 (lA (a, b, c)) (lA (d, e, f)) = (andE (a == d) (andE (b == e) (andE (c == f) (some true)))).map fun b => .bool (!b) := by kernel_rfl
  rw [h]
  simp only [andE_some, Bool.and_true]
  rfl
theorem sizeL : tsize Try.prog 42 = some 3 := by kernel_rfl
theorem aggL : tagg Try.prog 42 = some true := by kernel_rfl
theorem lidx {off m i : Nat} (h : i < m) : fstV ((aIndexAddr Try.prog 34 (slL off m) (iN i)).map fun v => (v, none)) = some (.pointer (some ⟨0, off + i * 3, none⟩)) := by
  have h1 : (0 : Int) ≤ Int.ofNat i ∧ Int.ofNat i < (m : Int) := ⟨Int.natCast_nonneg i, by simpa using h⟩
  simp only [aIndexAddr, slL, iN, Try.underlying34, sizeL]
  rw [if_pos h1]
  simp [fstV]
theorem lidx0 {m i : Nat} (h : i < m) : fstV ((aIndexAddr Try.prog 34 (slL 0 m) (iN i)).map fun v => (v, none)) = some (pb 0 (i * 3)) := by rw [lidx h, Nat.zero_add]; rfl
theorem lidxk {p m i : Nat} (h : i < m) : fstV ((aIndexAddr Try.prog 34 (slL (p * 3) m) (iN i)).map fun v => (v, none)) = some (pb 0 ((p + i) * 3)) := by rw [lidx h, Nat.add_mul]; rfl
theorem lload {hp : Hp} {us : List Lev} {i : Nat} {x : Lev} (hg : hp.get 0 = some (lB us)) (h : us[i]? = some x) : aLoad Try.prog hp.get 42 (pb 0 (i * 3)) = some (lA x) := by
  simp only [aLoad, pb, hg, lB, aggL, sizeL]
  have := flat_getR (f := lc) (k := 3) (ps := us) (fun _ _ => rfl) h
  unfold lrow
  rw [this]
  rfl
theorem putL_midL {A B C D : List Value} {k : Nat} (hk : A.length = k) (hl : D.length = B.length) : putL (A ++ B ++ C) k D = A ++ D ++ C := by
  apply List.ext_getElem?
  intro j
  rw [putL_get]
  by_cases h1 : j < k
  · rw [if_neg (by omega), List.append_assoc, List.append_assoc, List.getElem?_append_left (by omega), List.getElem?_append_left (by omega)]
  · by_cases h2 : j < k + D.length
    · rw [if_pos ⟨by omega, h2, by simp; omega⟩, List.append_assoc A D C, List.getElem?_append_right (by omega), List.getElem?_append_left (by omega), hk]
    · rw [if_neg (by omega), List.getElem?_append_right (by simp; omega), List.getElem?_append_right (by simp; omega)]
      congr 1; simp; omega
theorem lrow_app (a b : List Lev) : lrow (a ++ b) = lrow a ++ lrow b := by unfold lrow; rw [List.flatMap_append]
theorem lrow_set {us : List Lev} {i : Nat} (h : i < us.length) (y : Lev) : putL (lrow us) (i * 3) (lc y) = lrow (us.set i y) := by
  have e1 : us = us.take i ++ us[i] :: us.drop (i + 1) := by rw [List.getElem_cons_drop, List.take_append_drop]
  have e2 : us.set i y = us.take i ++ y :: us.drop (i + 1) := List.set_eq_take_append_cons_drop.trans (if_pos h)
  have f : ∀ z : Lev, lrow (us.take i ++ z :: us.drop (i + 1)) = lrow (us.take i) ++ lc z ++ lrow (us.drop (i + 1)) := fun z => by rw [lrow_app]; show _ ++ (lc z ++ lrow _) = _; rw [List.append_assoc]
  have l1 : (lrow (us.take i)).length = i * 3 := by rw [lrow_len, List.length_take]; congr 1; omega
  rw [e2, f]
  conv => lhs; rw [e1, f]
  exact putL_midL l1 rfl
theorem lstore {hp : Hp} {us : List Lev} {i : Nat} (hg : hp.get 0 = some (lB us)) (h : i < us.length) (y : Lev) : (aStore Try.prog hp.get 42 (pb 0 (i * 3)) (lA y)).map (fun es => (undef, es)) = some (undef, [.put 0 (lB (us.set i y))]) := by
  have hl : i * 3 + 3 ≤ (lrow us).length := by rw [lrow_len]; omega
  have e : aStore Try.prog hp.get 42 (pb 0 (i * 3)) (lA y) = some [.put 0 (.cells 42 (putL (lrow us) (i * 3) (lc y)) false)] := by
    unfold aStore
    simp only [pb, hg, lB, sizeL]
    exact if_pos (by show (decide (3 = 3) && true && decide (i * 3 + 3 ≤ (lrow us).length)) = true; simp [hl])
  rw [e, lrow_set h]
  rfl
theorem lsl_lo {n k : Nat} (h : k ≤ n) : fstV ((aSlice Try.prog 34 (slL 0 n) (some (iN k)) none none).map fun v => (v, none)) = some (slL (k * 3) (n - k)) := by
  have h1 : (0 : Int) ≤ Int.ofNat k ∧ Int.ofNat k ≤ (n : Int) := ⟨Int.natCast_nonneg k, by simpa using h⟩
  have h0 : (0 : Int) ≤ (n : Int) ∧ (n : Int) ≤ ((n + 0 : Nat) : Int) := ⟨Int.natCast_nonneg n, by simp⟩
  simp only [aSlice, slL, iN, Try.underlying34, sizeL, bound]
  rw [if_pos h1]
  simp [fstV, flagOf, wide]
theorem lsl_hi {n k : Nat} (h : k ≤ n) : fstV ((aSlice Try.prog 34 (slL 0 n) none (some (iN k)) none).map fun v => (v, none)) = some (slL 0 k) := by
  have h1 : (0 : Int) ≤ Int.ofNat k ∧ Int.ofNat k ≤ ((n + spareOf 11 : Nat) : Int) := ⟨Int.natCast_nonneg k, by simp only [Int.ofNat_eq_natCast]; exact Int.ofNat_le.2 (by omega)⟩
  simp only [aSlice, slL, iN, Try.underlying34, sizeL, bound]
  rw [if_pos h1]
  simp [fstV, flagOf, wide]
noncomputable def z3 : List Value := (tzero Try.prog 42).getD []
theorem zeroLe : tzero Try.prog 42 = some z3 := by kernel_rfl
theorem z3_len : z3.length = 3 := by kernel_rfl
theorem z3_inert : z3.all inert = true := by kernel_rfl
theorem repL_len (z : List Value) : ∀ n, (repL z n).length = n * z.length
  | 0 => by simp [repL]
  | n + 1 => by rw [repL, List.length_append, repL_len z n, Nat.succ_mul]; omega
theorem repL_inert {z : List Value} (h : z.all inert = true) : ∀ n, (repL z n).all inert = true
  | 0 => rfl
  | n + 1 => by rw [repL, List.all_append, h, repL_inert h n]; rfl
theorem lclear {hp : Hp} {us : List Lev} {k : Nat} (hg : hp.get 0 = some (lB us)) (h : k < us.length) : aClear Try.prog hp.get [34] [slL (k * 3) (us.length - k)] = some (.tuple #[], [.put 0 (.cells 42 (lrow (us.take k) ++ repL z3 (us.length - k)) false)]) := by
  have e1 : lrow us = lrow (us.take k) ++ lrow (us.drop k) := by rw [← lrow_app, List.take_append_drop]
  have l1 : (lrow (us.take k)).length = k * 3 := by rw [lrow_len, List.length_take]; congr 1; omega
  have l2 : (lrow (us.drop k)).length = (us.length - k) * 3 := by rw [lrow_len, List.length_drop]
  have l3 : (repL z3 (us.length - k)).length = (us.length - k) * 3 := by rw [repL_len, z3_len]
  unfold aClear
  simp only [slL, Try.underlying34]
  rw [if_neg (by omega)]
  simp only [zeroLe, hg, lB]
  rw [if_pos (by rw [l3, lrow_len]; omega), e1]
  have := putL_midL (A := lrow (us.take k)) (B := lrow (us.drop k)) (C := []) (D := repL z3 (us.length - k)) l1 (by rw [l3, l2])
  rw [List.append_nil, List.append_nil] at this
  rw [this]
noncomputable def tailC (ls : List Lev) : List Value := lrow (ded ls) ++ repL z3 (ls.length - (ded ls).length)
def EndsC (ls : List Lev) (e : Exit) (st : St) : Prop := e = .ret ∧ ∃ g, st = stOf 61 g [(2, slL 0 (ded ls).length)] [.cells 42 (tailC ls) false]
theorem get0 (b : Blk) : (heapOf [b, .dead] hp0).get 0 = some b := by rw [heapOf0_get]; rfl
theorem ltN {a b : Nat} : decide (Int.ofNat a < Int.ofNat b) = decide (a < b) := decide_eq_decide.2 (by simp only [Int.ofNat_eq_natCast]; omega)
theorem tailC_inert (ls : List Lev) : (tailC ls).all inert = true := by unfold tailC; rw [List.all_append, lrow_inert, repL_inert z3_inert]; rfl
theorem stOf_less {N : Nat} {g : Nat → Value} {L : List (Nat × Value)} {O : List Blk} (L2 : List (Nat × Value)) : ∃ g', stOf N g (L ++ L2) O = stOf N g' L O := by
  refine ⟨frame g L2, ?_⟩
  unfold stOf
  congr 2
  funext t
  unfold frame
  rw [List.find?_append]
  cases L.find? fun p => Nat.beq p.1 t <;> rfl
theorem compI_fr (ls : List Lev) (hn : ls.length < 1000000) (p : Nat) (hp : p + 1 < ls.length) {y : Lev} (h1 : ls[p]? = some y) (h2 : ls[p + 1]? = some y) (hd : ded (ls.take (p + 1)) = ls.take (p + 1)) (g : Nat → Value) (W : Base) :
    FRwp Try.prog 61 W (.seq (sL k45Lbb) (.seq (.seq k45I0 (.block 2 (.loop k45IL))) k45Ie)) (stOf 61 g [(0, slL 0 ls.length), (3, iN (p + 1))] [lB ls]) (EndsC ls) := by
  have fx : ∀ (us : List Lev) (r : List Blk), ∀ i, i < 1 → ∀ o', (lB us :: r)[i]? = some o' → Fixed 0 o' := fun us => fix11 (lB_inert us)
  have sT : codeSafe Try.prog 61 (sL k45Lbb) = true := by kernel_rfl
  refine FRwp.seq (Q1 := fun e st => e = .normal ∧ ∃ g, st = stOf 61 g [(0, slL 0 ls.length), (3, iN (p + 1)), (4, slL ((p + 1) * 3) (ls.length - (p + 1)))] [lB ls]) (FRwp.pieceN E45_ok follows 5 1 _ _ _ _ (T_0 ls ls.length p g) (Met.cons (lsl_lo (by omega)) Met.nil) MetH.nil MetE.nil sT rfl rfl (fx ls _) fun g => ⟨rfl, g, rfl⟩) ?_ (fun x st hne hq => absurd hq.1 hne)
  rintro st ⟨-, g, rfl⟩
  refine FRwp.seq (Q1 := fun e st => e = .normal ∧ ∃ (us : List Lev) (m : Nat) (g : Nat → Value), m = (ded ls).length ∧ us = ded ls ++ ls.drop m ∧ m < ls.length ∧ st = stOf 61 g [(0, slL 0 ls.length), (3, iN m)] [lB us]) ?_ ?_ (fun x st hne hq => absurd hq.1 hne)
  · refine FRwp.seq (Q1 := fun e st => e = .normal ∧ ∃ g, st = stOf 61 g [(0, slL 0 ls.length), (3, iN (p + 1)), (4, slL ((p + 1) * 3) (ls.length - (p + 1))), (5, iN 1)] [lB ls]) (FRwp.pieceN E45_ok follows 5 1 _ _ _ _ (I_0 ls ls.length p g) Met.nil MetH.nil MetE.nil sk45I0 rfl rfl (fx ls _) fun g => ⟨rfl, g, rfl⟩) ?_ (fun x st hne hq => absurd hq.1 hne)
    rintro st ⟨-, g, rfl⟩
    refine FRwp.block ?_
    let I : Nat → St → Prop := fun k st => ∃ (j m : Nat) (us a : List Lev) (g : Nat → Value), (p + 1) + (j + 1) ≤ ls.length ∧ k = ls.length - j ∧ m ≤ (p + 1) + j ∧ a = ded (ls.take ((p + 1) + (j + 1))) ∧ a.length = m ∧ us = a ++ ls.drop m ∧
      st = stOf 61 g [(0, slL 0 ls.length), (3, iN m), (4, slL ((p + 1) * 3) (ls.length - (p + 1))), (5, iN (j + 1))] [lB us]
    have start : I ls.length (stOf 61 g [(0, slL 0 ls.length), (3, iN (p + 1)), (4, slL ((p + 1) * 3) (ls.length - (p + 1))), (5, iN 1)] [lB ls]) := by
      have hm := ded_more h1 h2
      rw [if_pos rfl, hd] at hm
      refine ⟨0, p + 1, ls, ls.take (p + 1), g, by omega, by omega, by omega, hm.symm, by rw [List.length_take]; omega, (List.take_append_drop _ _).symm, rfl⟩
    refine FRwp.loop I ?_ (k := ls.length) start
    rintro k st ⟨j, m, us, a, g, hj, hk, hm, ha, hal, hus, rfl⟩
    have hul : us.length = ls.length := by rw [hus, List.length_append, hal, List.length_drop]; omega
    have hget : ∀ i, m ≤ i → us[i]? = ls[i]? := fun i hi => by
      rw [hus, List.getElem?_append_right (by omega), List.getElem?_drop]
      congr 1; omega
    cases h : decide (Int.ofNat (j + 1) < Int.ofNat (ls.length - (p + 1))) with
    | false =>
      have h3 : (p + 1) + (j + 1) = ls.length := by rw [ltN] at h; have := of_decide_eq_false h; omega
      refine FRwp.pieceN E45_ok follows 5 1 _ _ _ _ (J_2 us us ls.length p j m y y g) (Met.cons (bool_ok h) Met.nil) MetH.nil MetE.nil sk45IL rfl rfl (fx us _) fun g => .inr ⟨by simp, ?_⟩
      show (if (2 : Nat) = 2 then _ else _)
      rw [if_pos rfl]
      rw [h3, List.take_of_length_le (Nat.le_refl _)] at ha
      subst ha
      exact ⟨rfl, us, m, g, hal.symm, hus, by omega, rfl⟩
    | true =>
      have hlt : (p + 1) + (j + 1) < ls.length := by rw [ltN] at h; have := of_decide_eq_true h; omega
      obtain ⟨x, hx⟩ : ∃ x, ls[(p + 1) + (j + 1)]? = some x := ⟨_, List.getElem?_eq_getElem hlt⟩
      obtain ⟨z, hz⟩ : ∃ z, ls[(p + 1) + j]? = some z := ⟨_, List.getElem?_eq_getElem (by omega)⟩
      have hux := (hget _ (by omega)).trans hx
      have huz := (hget _ hm).trans hz
      have hmore := ded_more (i := (p + 1) + j) hz hx
      have hR : ∀ {b : Bool}, (!(x == z)) = b → AI.Met ([(fstV ((aBin Try.prog .neq 42 (lA x) (lA z)).map fun v => (v, none)), .bool b), (aLoad Try.prog (heapOf [lB us, .dead] hp0).get 42 (pb 0 (((p + 1) + j) * 3)), lA z), (fstV ((aIndexAddr Try.prog 34 (slL ((p + 1) * 3) (ls.length - (p + 1))) (iN j)).map fun v => (v, none)), pb 0 (((p + 1) + j) * 3)), (some (.int .i64 (wrapF .i64 (Int.ofNat (j + 1) - Int.ofNat 1))), iN j), (aLoad Try.prog (heapOf [lB us, .dead] hp0).get 42 (pb 0 (((p + 1) + (j + 1)) * 3)), lA x), (fstV ((aIndexAddr Try.prog 34 (slL ((p + 1) * 3) (ls.length - (p + 1))) (iN (j + 1))).map fun v => (v, none)), pb 0 (((p + 1) + (j + 1)) * 3)), (some (.bool (decide ((Int.ofNat (j + 1)) < (Int.ofNat (ls.length - (p + 1)))))), .bool true)]) := fun {b} hb =>
        Met.cons ((neLev x z).trans (bool_ok hb)) (Met.cons (lload (get0 _) huz) (Met.cons (lidxk (by omega)) (Met.cons (wrap_down (by omega)) (Met.cons (lload (get0 _) hux) (Met.cons (lidxk (by omega)) (Met.cons (bool_ok h) Met.nil))))))
      cases hxz : (!(x == z)) with
      | true =>
        have hne : ¬ z = x := fun e => by rw [e] at hxz; simp at hxz
        have hset : us.set m x = (a ++ [x]) ++ ls.drop (m + 1) := by
          rw [hus, List.set_append_right _ _ (by omega), hal, Nat.sub_self]
          obtain ⟨w, hw⟩ : ∃ w, ls[m]? = some w := ⟨_, List.getElem?_eq_getElem (by omega)⟩
          have e : ls.drop m = w :: ls.drop (m + 1) := by
            rw [List.getElem?_eq_getElem (by omega)] at hw
            rw [List.drop_eq_getElem_cons (by omega)]
            have : ls[m] = w := by simpa using hw
            rw [this]
          rw [e]
          simp
        refine FRwp.pieceN E45_ok follows 5 1 _ _ _ _ (J_0 us (us.set m x) ls.length p j m x z g)
          (Met.cons (wrap_up (by omega)) (Met.cons (wrap_up (by omega)) (Met.cons (lidx0 (by omega)) (Met.cons (lload (get0 _) hux) (Met.cons (lidxk (by omega)) (hR hxz))))))
          MetH.nil (MetE.cons (lstore (get0 _) (by omega) x) MetE.nil) sk45IL rfl rfl (fx _ _) fun g => .inl ⟨rfl, ls.length - (j + 1), by omega, j + 1, m + 1, us.set m x, a ++ [x], g, by omega, rfl, by omega, ?_, by simp [hal], hset, rfl⟩
        rw [ha]
        exact (hmore.trans (if_neg hne)).symm
      | false =>
        have he : z = x := by
          have : (x == z) = true := by simpa using hxz
          exact (by simpa using this : x = z).symm
        refine FRwp.pieceN E45_ok follows 5 1 _ _ _ _ (J_1 us us ls.length p j m x z g)
          (Met.cons (wrap_up (by omega)) (hR hxz))
          MetH.nil MetE.nil sk45IL rfl rfl (fx _ _) fun g => .inl ⟨rfl, ls.length - (j + 1), by omega, j + 1, m, us, a, g, by omega, rfl, by omega, ?_, hal, hus, rfl⟩
        rw [ha]
        exact (hmore.trans (if_pos he)).symm
  · rintro st ⟨-, us, m, g, hm, hus, hlt, rfl⟩
    have hul : us.length = ls.length := by rw [hus, List.length_append, List.length_drop]; omega
    have htk : us.take m = ded ls := by rw [hus, hm]; simp
    have hcl := lclear (get0 (lB us)) (by omega : m < us.length)
    rw [htk, hul] at hcl
    have hsl := lsl_hi (n := ls.length) (k := m) (by omega)
    have hsl2 := lsl_lo (n := ls.length) (k := m) (by omega)
    refine FRwp.pieceN E45_ok follows 5 1 _ _ _ _ (Z_0 us (lrow (ded ls) ++ repL z3 (ls.length - m)) ls.length m g) (Met.cons hsl (Met.cons hsl2 Met.nil)) MetH.nil (MetE.cons hcl MetE.nil) sk45Ie rfl rfl (fix11 (by show List.all _ inert = true; rw [List.all_append, lrow_inert, repL_inert z3_inert]; rfl) _) fun g => ⟨rfl, g, ?_⟩
    unfold tailC
    rw [hm]
theorem comp_fr (ls : List Lev) (hn : ls.length < 1000000) (W : Base) : FRwp Try.prog 61 W code45 ⟨tmsOf [slL 0 ls.length] 0 .leaf, heapOf [lB ls, .dead] hp0, []⟩ (EndsC ls) := by
  have fx : ∀ (us : List Lev) (r : List Blk), ∀ i, i < 1 → ∀ o', (lB us :: r)[i]? = some o' → Fixed 0 o' := fun us => fix11 (lB_inert us)
  have hall : ded ls = ls → ∀ {e st}, (e = .ret ∧ ∃ g, st = stOf 61 g [(2, slL 0 ls.length)] [lB ls]) → EndsC ls e st := fun h e st q => by
    unfold EndsC tailC
    rw [h, Nat.sub_self]
    show (_ ∧ ∃ g, st = stOf 61 g _ [.cells 42 (lrow ls ++ []) false])
    rw [List.append_nil]; exact q
  refine FRwp.seq (Q1 := fun e st => e = .normal ∧ ∃ g, st = stOf 61 g [(0, slL 0 ls.length)] [lB ls]) (FRwp.pieceN E45_ok follows 5 1 _ _ _ _ (A_0 ls ls.length) Met.nil MetH.nil MetE.nil sk45a rfl rfl (fx ls _) fun g => ⟨rfl, g, rfl⟩) ?_ (fun x st hne hq => absurd hq.1 hne)
  rintro st ⟨-, g, rfl⟩
  let Q1 : Exit → St → Prop := fun e st => (e = .normal ∧ 2 ≤ ls.length ∧ ∃ g, st = stOf 61 g [(0, slL 0 ls.length)] [lB ls]) ∨ EndsC ls e st
  refine FRwp.seq (Q1 := Q1) ?_ ?_ ?_
  · have hs : codeSafe Try.prog 61 (.seq k45b k45c) = true := by simp only [codeSafe, sk45b, sk45c]; rfl
    cases h : decide (Int.ofNat ls.length < Int.ofNat 2) with
    | true =>
      have h2 : ls.length < 2 := by rw [ltN] at h; exact of_decide_eq_true h
      have hd : ded ls = ls := by
        match ls, h2 with
        | [], _ => rfl
        | [x], _ => rfl
      exact FRwp.pieceN E45_ok follows 5 1 _ _ _ _ (B_0 ls ls.length g) (Met.cons (bool_ok h) Met.nil) MetH.nil MetE.nil hs rfl rfl (fx ls _) fun g => .inr (hall hd ⟨rfl, g, rfl⟩)
    | false =>
      have h2 : 2 ≤ ls.length := by rw [ltN] at h; have := of_decide_eq_false h; omega
      exact FRwp.pieceN E45_ok follows 5 1 _ _ _ _ (B_1 ls ls.length g) (Met.cons (bool_ok h) Met.nil) MetH.nil MetE.nil hs rfl rfl (fx ls _) fun g => .inl ⟨rfl, h2, g, rfl⟩
  · rintro st (⟨-, h2, g, rfl⟩ | ⟨h, -⟩)
    · let Q2 : Exit → St → Prop := fun e st => (e = .normal ∧ ded ls = ls ∧ ∃ g, st = stOf 61 g [(0, slL 0 ls.length)] [lB ls]) ∨ EndsC ls e st
      refine FRwp.seq (Q1 := Q2) ?_ ?_ ?_
      · refine FRwp.seq (Q1 := fun e st => e = .normal ∧ ∃ g, st = stOf 61 g [(0, slL 0 ls.length), (3, iN 1)] [lB ls]) (FRwp.pieceN E45_ok follows 5 1 _ _ _ _ (D_0 ls ls.length g) Met.nil MetH.nil MetE.nil sk45d rfl rfl (fx ls _) fun g => ⟨rfl, g, rfl⟩) ?_ (fun x st hne hq => absurd hq.1 hne)
        rintro st ⟨-, g, rfl⟩
        refine FRwp.block ?_
        have start : ∃ q g', q + 1 ≤ ls.length ∧ ls.length = ls.length - q ∧ ded (ls.take (q + 1)) = ls.take (q + 1) ∧ stOf 61 g [(0, slL 0 ls.length), (3, iN 1)] [lB ls] = stOf 61 g' [(0, slL 0 ls.length), (3, iN (q + 1))] [lB ls] := by
          obtain ⟨x, hx⟩ : ∃ x, ls[0]? = some x := ⟨_, List.getElem?_eq_getElem (by omega)⟩
          exact ⟨0, g, by omega, by omega, by rw [take_snoc hx]; rfl, rfl⟩
        refine FRwp.loop (fun k st => ∃ q g, q + 1 ≤ ls.length ∧ k = ls.length - q ∧ ded (ls.take (q + 1)) = ls.take (q + 1) ∧ st = stOf 61 g [(0, slL 0 ls.length), (3, iN (q + 1))] [lB ls]) ?_ (k := ls.length) start
        rintro k st ⟨q, g, hq, hk, hd, rfl⟩
        obtain ⟨y, hy⟩ : ∃ y, ls[q]? = some y := ⟨_, List.getElem?_eq_getElem (by omega)⟩
        refine FRwp.seq (Q1 := fun e st => (e = .normal ∧ q + 1 < ls.length ∧ ∃ g, st = stOf 61 g [(0, slL 0 ls.length), (3, iN (q + 1))] [lB ls]) ∨ (e = .exit 0 ∧ q + 1 = ls.length ∧ ∃ g, st = stOf 61 g [(0, slL 0 ls.length), (3, iN (q + 1))] [lB ls])) ?_ ?_ ?_
        · cases h : decide (Int.ofNat (q + 1) < Int.ofNat ls.length) with
          | true =>
            have h3 : q + 1 < ls.length := by rw [ltN] at h; exact of_decide_eq_true h
            exact FRwp.pieceN E45_ok follows 5 1 _ _ _ _ (X_0 ls ls.length q g) (Met.cons (bool_ok h) Met.nil) MetH.nil MetE.nil sk45La rfl rfl (fx ls _) fun g => .inl ⟨rfl, h3, g, rfl⟩
          | false =>
            have h3 : q + 1 = ls.length := by rw [ltN] at h; have := of_decide_eq_false h; omega
            exact FRwp.pieceN E45_ok follows 5 1 _ _ _ _ (X_1 ls ls.length q g) (Met.cons (bool_ok h) Met.nil) MetH.nil MetE.nil sk45La rfl rfl (fx ls _) fun g => .inr ⟨rfl, h3, g, rfl⟩
        · rintro st (⟨-, hlt, g, rfl⟩ | ⟨h, -⟩)
          · obtain ⟨x, hx⟩ : ∃ x, ls[q + 1]? = some x := ⟨_, List.getElem?_eq_getElem hlt⟩
            have hm := ded_more hy hx
            have met : ∀ {b : Bool}, (x == y) = b → AI.Met [(fstV ((aBin Try.prog .eql 42 (lA x) (lA y)).map fun v => (v, none)), .bool b), (aLoad Try.prog (heapOf [lB ls, .dead] hp0).get 42 (pb 0 (q * 3)), lA y), (fstV ((aIndexAddr Try.prog 34 (slL 0 ls.length) (iN q)).map fun v => (v, none)), pb 0 (q * 3)), (some (.int .i64 (wrapF .i64 (Int.ofNat (q + 1) - Int.ofNat 1))), iN q), (aLoad Try.prog (heapOf [lB ls, .dead] hp0).get 42 (pb 0 ((q + 1) * 3)), lA x), (fstV ((aIndexAddr Try.prog 34 (slL 0 ls.length) (iN (q + 1))).map fun v => (v, none)), pb 0 ((q + 1) * 3))] := fun h =>
              Met.cons ((eqLev x y).trans (bool_ok h)) (Met.cons (lload (get0 _) hy) (Met.cons (lidx0 (by omega)) (Met.cons (wrap_down (by omega)) (Met.cons (lload (get0 _) hx) (Met.cons (lidx0 (by omega)) Met.nil)))))
            cases hxy : (x == y) with
            | false =>
              have hne : ¬ y = x := fun e => by rw [e] at hxy; simp at hxy
              refine FRwp.pieceN E45_ok follows 5 1 _ _ _ _ (V_0 ls ls.length q x y g) (Met.cons (wrap_up (by omega)) (met hxy)) MetH.nil MetE.nil sR45 rfl rfl (fx ls _) fun g => .inl ⟨rfl, ls.length - (q + 1), by omega, q + 1, g, by omega, rfl, ?_, rfl⟩
              rw [hm, if_neg hne, hd, take_snoc hx]
            | true =>
              have he : x = y := by simpa using hxy
              subst he
              refine FRwp.seq (Q1 := EndsC ls) (FRwp.block ?_) (fun st h => by cases h.1) (fun e st hne h => ?_)
              · have e1 : ∀ {e st}, EndsC ls e st → (match e with | .exit i => if i = 1 then EndsC ls .normal st else EndsC ls (.exit i) st | e => EndsC ls e st) := fun {e st} h => by
                  obtain ⟨rfl, h⟩ := h
                  exact ⟨rfl, h⟩
                refine FRwp.mono (?_ : FRwp Try.prog 61 W _ _ (EndsC ls)) fun e st h => e1 h
                refine FRwp.seq (Q1 := fun e st => e = .normal ∧ ∃ g, st = stOf 61 g [(0, slL 0 ls.length), (3, iN (q + 1)), (25, .bool true)] [lB ls]) (FRwp.pieceN E45_ok follows 5 1 _ _ _ _ (Y_0 ls ls.length q x x g) (met hxy) MetH.nil MetE.nil sk45Lba rfl rfl (fx ls _) fun g => ⟨rfl, g, rfl⟩) ?_ (fun x st hne hq => absurd hq.1 hne)
                rintro st ⟨-, g, rfl⟩
                obtain ⟨g', eg⟩ := stOf_less (N := 61) (g := g) (L := [(0, slL 0 ls.length), (3, iN (q + 1))]) (O := [lB ls]) [(25, .bool true)]
                refine FRwp.cond_true rfl rfl ?_
                show FRwp Try.prog 61 W _ (stOf 61 g ([(0, slL 0 ls.length), (3, iN (q + 1))] ++ [(25, .bool true)]) [lB ls]) _
                rw [eg]
                exact compI_fr ls hn q hlt hy hx hd g' W
              · obtain ⟨rfl, h⟩ := h
                exact .inr ⟨by simp, .inr ⟨rfl, h⟩⟩
          · cases h
        · rintro e st hne (⟨h, -⟩ | ⟨rfl, h3, g, rfl⟩)
          · exact absurd h hne
          · refine .inr ⟨by simp, ?_⟩
            show (if (0 : Nat) = 0 then Q2 .normal _ else Q2 (.exit 0) _)
            rw [if_pos rfl]
            refine .inl ⟨rfl, ?_, ?_⟩
            · rw [h3, List.take_of_length_le (Nat.le_refl _)] at hd; exact hd
            · exact stOf_less (L := [(0, slL 0 ls.length)]) [(3, iN (q + 1))]
      · rintro st (⟨-, hd, g, rfl⟩ | ⟨h, -⟩)
        · exact FRwp.pieceN E45_ok follows 5 1 _ _ _ _ (E_0 ls ls.length g) Met.nil MetH.nil MetE.nil sk45z rfl rfl (fx ls _) fun g => hall hd ⟨rfl, g, rfl⟩
        · cases h
      · rintro e st hne (⟨h, -⟩ | h)
        · exact absurd h hne
        · exact h
    · cases h
  · rintro e st hne (⟨h, -⟩ | h)
    · exact absurd h hne
    · exact h
end Go.Proofs.Ytgeoommlmddgpaa.LtL
namespace Go.Proofs.Ytgeoommlmddgpaa.LtL
open Go Go.Proofs Go.Proofs.Ytgeoommlmddgpaa.AI Go.RowKit Go.Proofs.Ytgeoommlmddgpaa.Sort Go.Proofs.Ytgeoommlmddgpaa.LtA
theorem getL_app {L1 L2 : List Value} {i : Nat} {v : Value} (h : L1[i]? = some v) : (L1 ++ L2)[i]? = some v := by
  rw [List.getElem?_append_left (List.getElem?_eq_some_iff.1 h).1]; exact h
theorem cutL_goal {P : Program} {f : FuncId} {g g2 : HeapFn} (hg : CallGoal P f g)
    (H : ∀ args hp v hp2, g2 args hp = some (v, hp2) → hp.ok → ∃ hp1, g args hp = some (v, hp1) ∧ hp2.ok ∧ hp2.sz = hp1.sz ∧
      ∀ b, hp2.get b = hp1.get b ∨ (hp.sz ≤ b ∧ b < hp1.sz ∧ ∃ ty L1 L2, hp1.get b = some (.cells ty (L1 ++ L2) false) ∧ hp2.get b = some (.cells ty L1 false))) : CallGoal P f g2 := by
  intro args hp v hp2 he hk
  obtain ⟨hp1, h1, hk2, hsz, hcut⟩ := H args hp v hp2 he hk
  obtain ⟨hk1, hle, hgo⟩ := hg args hp v hp1 h1 hk
  refine ⟨hk2, by rw [hsz]; exact hle, fun m h w args' hfr s ra => ?_⟩
  have step : ∀ v' w', (∃ m', Go1 m (ovr hp h) w m' (ovr hp1 h) w' ∧ VRel m' (ovr hp1 h) v v') → ∃ m', Go1 m (ovr hp h) w m' (ovr hp2 h) w' ∧ VRel m' (ovr hp2 h) v v' := ?_
  · rcases hgo m h w args' (fun b a c => hfr b a (by rw [hsz]; exact c)) s ra with ⟨v', w', q1, q2⟩ | ⟨q1, q2⟩
    · exact .inl ⟨v', w', q1, step v' w' q2⟩
    · exact .inr ⟨q1, q2.mono fun e w' hh => by
        obtain ⟨v', h1, h2⟩ := hh
        exact ⟨v', h1, step v' w' h2⟩⟩
  rintro v' w' ⟨m', go, rv⟩
  have hov : ∀ b, ovr hp2 h b = ovr hp1 h b ∨ (hp.sz ≤ b ∧ b < hp1.sz ∧ ∃ ty L1 L2, ovr hp1 h b = some (.cells ty (L1 ++ L2) false) ∧ ovr hp2 h b = some (.cells ty L1 false)) := by
    intro b
    unfold ovr
    rw [hsz]
    by_cases hb : b < hp1.sz
    · simp only [if_pos hb]
      rcases hcut b with e | ⟨q1, q2, q3⟩
      · exact .inl e
      · exact .inr ⟨q1, q2, q3⟩
    · exact .inl (by rw [if_neg hb, if_neg hb])
  have hrw : ∀ b, rw? (ovr hp2 h) b = rw? (ovr hp1 h) b := fun b => by
    unfold rw?
    rcases hov b with e | ⟨_, _, ty, L1, L2, e1, e2⟩
    · rw [e]
    · rw [e1, e2]
  have hlv : ∀ b, live? (ovr hp2 h) b = live? (ovr hp1 h) b := fun b => by
    unfold live?
    rcases hov b with e | ⟨_, _, ty, L1, L2, e1, e2⟩
    · rw [e]
    · rw [e1, e2]
  have le2 : Le m' (ovr hp1 h) m' (ovr hp2 h) := ⟨fun b hb => (by
    rcases hov b with e | ⟨_, _, ty, L1, L2, e1, _⟩
    · rw [e]; exact hb
    · rw [e1] at hb; cases hb), fun b x hx => .inr hx⟩
  refine ⟨m', ⟨go.le.trans le2, ⟨fun b x hx => ?_, fun b b' x x' hx hx' hr hl e => go.sim.inj b b' x x' hx hx' (by rw [← hrw]; exact hr) (by rw [← hlv]; exact hl) e⟩, go.size, go.new, go.frame, go.un, fun b o hb hm => ?_, fun b o hb => ?_, fun b x hx hr => go.rwb b x hx (by rw [← hrw]; exact hr), go.os, go.tape, go.output⟩, rv.mono le2⟩
  · obtain ⟨o, ho, hbr⟩ := go.sim.dom b x hx
    rcases hov b with e | ⟨_, _, ty, L1, L2, e1, e2⟩
    · exact ⟨o, by rw [e]; exact ho, hbr.mono le2 rfl⟩
    · rw [e1] at ho; cases ho
      obtain ⟨c, fr, k1, k2, k3, k4, k5⟩ := hbr
      refine ⟨_, e2, c, fr, k1, by rw [List.length_append] at k2; omega, k3, fun i v v' p1 p2 => (k4 i v v' (getL_app p1) p2).mono le2, ⟨k5.1, fun h => by cases h⟩⟩
  · have := go.idle b o hb hm
    rcases hov b with e | ⟨q1, q2, _⟩
    · rw [e]; exact this
    · have hn := hfr b q1 (by rw [hsz]; exact q2)
      unfold ovr at hb
      rw [if_neg (by omega)] at hb
      rw [hn] at hb; cases hb
  · obtain ⟨o', ho'⟩ := go.ex b o hb
    rcases hov b with e | ⟨_, _, ty, L1, L2, e1, e2⟩
    · exact ⟨o', by rw [e]; exact ho'⟩
    · exact ⟨_, e2⟩
theorem startL_sim {m : BM} {h : HG} {w : World} {hp : Hp} (s : Sim m (ovr hp h) w) (hk : hp.ok) {b : Nat} {t1 : TypeId} {L : List Value} (h1 : hp.get b = some (.cells t1 L false)) (i1 : L.all inert = true)
    {r δ E : Nat} (hm : m b = some (r, δ, E)) : Sim (canM m [b]) (heapOf [.cells t1 L false, .dead] hp0).get w := by
  have g1 := ovr_sub hk h b _ h1
  obtain ⟨o', ho', hbr⟩ := s.dom b _ hm
  rw [g1] at ho'; cases ho'
  obtain ⟨c, fr, q1, q2, q3, q4, q5⟩ := hbr
  have e0 : (heapOf [.cells t1 L false, .dead] hp0).get 0 = some (.cells t1 L false) := by rw [heapOf0_get]; rfl
  have cM : ∀ i x, canM m [b] i = some x → (i = 0 ∧ m b = some x) := by
    intro i x hx
    unfold canM at hx
    match i with
    | 0 => exact ⟨rfl, hx⟩
    | i + 1 => simp at hx
  refine ⟨fun i x hx => ?_, fun i i' x x' hx hx' hr hl hxx => ?_⟩
  · obtain ⟨rfl, hy⟩ := cM i x hx
    rw [hm] at hy; cases hy
    exact ⟨_, e0, c, fr, q1, q2, q3, fun i v v' p1 p2 => inert_any (List.all_eq_true.1 i1 v (List.mem_of_getElem? p1)) (q4 i v v' p1 p2), q5⟩
  · obtain ⟨rfl, _⟩ := cM i x hx
    obtain ⟨rfl, _⟩ := cM i' x' hx'
    rfl
open Classical in
noncomputable def gCoF : HeapFn := fun args hp => match args with
  | [.slice (some ⟨b, 0, none⟩) n c] => if h : ∃ ls : List Lev, hp.get b = some (lB ls) ∧ n = ls.length ∧ 0 < n ∧ n < 1000000 then some (.slice (some ⟨hp.sz, 0, none⟩) (ded h.choose).length 11, heapOf ([.cells 42 (tailC h.choose) false] ++ [.dead]) (killL [b] hp)) else none
  | _ => none
open Classical in
noncomputable def gCo : HeapFn := fun args hp => match args with
  | [.slice (some ⟨b, 0, none⟩) n c] => if h : ∃ ls : List Lev, hp.get b = some (lB ls) ∧ n = ls.length ∧ 0 < n ∧ n < 1000000 then some (.slice (some ⟨hp.sz, 0, none⟩) (ded h.choose).length 11, heapOf ([lB (ded h.choose)] ++ [.dead]) (killL [b] hp)) else none
  | _ => none
theorem slL_weak {m : BM} {h : HG} {b n c : Nat} {x : Value} (r : VRel m h (.slice (some ⟨b, 0, none⟩) n c) x) : VRel m h (.slice (some ⟨b, 0, none⟩) n 11) x := by
  obtain ⟨_, _, r1, o1, cap, q1, rfl, h0, hh⟩ := r.of_slice0
  cases q1
  refine .slice (.of h0.1 (by decide)) ?_
  rcases hh with hd | ⟨δ, E, h1, h2, _⟩
  · exact .inl hd
  · exact .inr ⟨δ, E, h1, h2, (fun h => by cases h), fun h => by cases h⟩
theorem hkCoF : CallGoal Try.prog 45 gCoF := kill_goal follows Try.func45 codeB45 (by kernel_rfl) fun args hp v hp' he hk => by
  unfold gCoF at he
  split at he
  case h_2 => cases he
  rename_i b n c
  split at he
  case isFalse => cases he
  rename_i hx
  obtain ⟨hb, hn, hn0, hn1⟩ := hx.choose_spec
  generalize hx.choose = ls at *
  cases he
  refine ⟨[b], [.cells 42 (tailC ls) false], rfl, fun b' hb' => ?_, fun m h w args' s ra => ?_⟩
  · have : b' = b := by simpa using hb'
    subst this
    exact ⟨_, hb, rfl⟩
  obtain ⟨v1, bs1, e1, r1, ra1⟩ := ra.of_cons
  have e4 := ra1.of_nil
  subst e4
  obtain ⟨_, _, rr, oo, cap, q1, rfl, hcap, hh⟩ := r1.of_slice0
  cases q1
  have gb := ovr_sub hk h b _ hb
  rcases hh with hd | ⟨δ, E, hm, hoff, hcok⟩
  · rw [gb] at hd; cases hd
  refine ⟨fun b' hb' => ?_, ?_⟩
  · have : b' = b := by simpa using hb'
    subst this
    exact ⟨_, hm⟩
  refine ⟨[0], [slL 0 n], heapOf [lB ls, .dead] hp0, canM m [b], rfl, rfl, heapOf_ok _ _ hp0_ok, startL_sim s hk hb (lrow_inert ls) hm, fun b' x hx _ => ?_, ?_, by rw [ntmps45]; simp, fun W => ?_⟩
  · unfold canM at hx
    match b' with
    | 0 => exact ⟨b, by simp, x, hx, rfl⟩
    | b' + 1 => simp at hx
  · rw [e1]
    exact .cons (.slice (.of hcap.1 (by decide)) (.inr ⟨δ, E, hm, hoff, (fun h => by cases h), fun h => by cases h⟩)) .nil
  · rw [ntmps45, hn]
    refine FRwp.mono (comp_fr ls (by omega) W) fun e st q => ?_
    obtain ⟨rfl, g, rfl⟩ := q
    have hI : inertB (.cells 42 (tailC ls) false) = true := tailC_inert ls
    have h0 : (stOf 61 g [(2, slL 0 (ded ls).length)] [.cells 42 (tailC ls) false]).hp.get 0 = some (.cells 42 (tailC ls) false) := get0 _
    refine ⟨.inr rfl, rfl, _, q45 _ _ g, rfl, fun b' hb' => ?_, fun m h x hx => ?_, ?_⟩
    · have : b' = 0 := by simpa using hb'
      subst this
      exact ⟨_, h0, ok2_inert hI, rfl⟩
    · have : sh3 [0] hp.sz (slL 0 (ded ls).length) = .slice (some ⟨hp.sz, 0, none⟩) (ded ls).length 11 := by simp [sh3, sh2, sh1, rho, idxOf, slL]
      rw [this] at hx
      exact slL_weak hx
    · simp only [outOf, List.map_cons, List.map_nil, h0, Option.getD_some, inert_shBlk hI]
theorem hkCo : CallGoal Try.prog 45 gCo := cutL_goal hkCoF fun args hp v hp2 he hk => by
  unfold gCo at he
  split at he
  case h_2 => cases he
  rename_i b n c
  split at he
  case isFalse => cases he
  rename_i hx
  cases he
  have hlt := lt_of_get hk hx.choose_spec.1
  refine ⟨heapOf ([.cells 42 (tailC hx.choose) false] ++ [.dead]) (killL [b] hp), by unfold gCoF; simp only; rw [dif_pos hx], ?_, ?_, fun b' => ?_⟩
  · refine heapOf_ok _ _ fun c hc => ?_
    rw [killL_sz] at hc
    rw [killL_get, if_neg (by simp; omega)]
    exact hk c hc
  · rw [heapOf_sz, heapOf_sz]; rfl
  · rw [heapOf_get, heapOf_get, killL_sz]
    by_cases h1 : b' < hp.sz
    · rw [if_pos h1, if_pos h1]; exact .inl rfl
    · rw [if_neg h1, if_neg h1]
      by_cases h2 : b' - hp.sz = 0
      · rw [h2]
        refine .inr ⟨by omega, by rw [heapOf_sz, killL_sz]; simp; omega, 42, lrow (ded hx.choose), repL z3 (hx.choose.length - (ded hx.choose).length), rfl, rfl⟩
      · obtain ⟨k, hk2⟩ : ∃ k, b' - hp.sz = k + 1 := ⟨b' - hp.sz - 1, by omega⟩
        rw [hk2]; exact .inl rfl
theorem gCo_of {ls : List Lev} {b n c : Nat} {hp : Hp} (hb : hp.get b = some (lB ls)) (hn : n = ls.length) (h0 : 0 < n) (h1 : n < 1000000) : gCo [.slice (some ⟨b, 0, none⟩) n c] hp = some (.slice (some ⟨hp.sz, 0, none⟩) (ded ls).length 11, heapOf [lB (ded ls), .dead] (hp.put b .dead)) := by
  unfold gCo
  have hx : ∃ ls : List Lev, hp.get b = some (lB ls) ∧ n = ls.length ∧ 0 < n ∧ n < 1000000 := ⟨ls, hb, hn, h0, h1⟩
  simp only
  rw [dif_pos hx]
  have e2 := hb.symm.trans hx.choose_spec.1
  unfold lB at e2
  injection e2 with e2
  injection e2 with _ e2 _
  have e3 := lrow_inj e2
  exact congrArg (fun l => some (Value.slice (some ⟨hp.sz, 0, none⟩) (ded l).length 11, heapOf ([lB (ded l)] ++ [.dead]) (killL [b] hp))) e3.symm
end Go.Proofs.Ytgeoommlmddgpaa.LtL
namespace Go.Proofs.Ytgeoommlmddgpaa.LtL
open Go Go.Proofs Go.Proofs.Ytgeoommlmddgpaa.AI Go.RowKit Go.Proofs.Ytgeoommlmddgpaa.Sort Go.Proofs.Ytgeoommlmddgpaa.LtA
def lvV (x : ViewV) : Lev := (lev0 x.n x.t x.o x.r x.d x.i, lev1 x.n x.t x.o x.r x.d x.i, lev2 x.n x.t x.o x.r x.d x.i)
def newL (b k : Nat) : Value := .slice (some ⟨b, 0, none⟩) k 10
def vLv (f : Bool) (b k : Nat) : Value := bif f then newL b k else nilS
noncomputable def E21 : Ext := extG (extH Try.prog [(39, g51), (26, g31)]) [(44, gSF), (45, gCo)]
theorem E21_ok : ExtOk Try.prog E21 := extG_ok (extH_ok (.cons hk51 (.cons hk31 .nil))) (.cons hkSF (.cons hkCo .nil))
noncomputable def E21n : Ext := extH Try.prog []
theorem E21n_ok : ExtOk Try.prog E21n := extH_ok .nil
noncomputable def fb21 : Code := (Try.f21.body).getD .skip
theorem ntmps21 : Try.f21.ntmps = 26 := by kernel_rfl
theorem q21 (v : Value) (O : List Blk) (g : Nat → Value) : retVal Try.prog Try.f21 (stOf 26 g [(2, v)] O) = some v := by kernel_rfl
noncomputable def k21a : Code := sL (fb21)
theorem sk21a : codeSafe Try.prog 26 k21a = true := by kernel_rfl
noncomputable def k21b : Code := sL (sR (fb21))
theorem sk21b : codeSafe Try.prog 26 k21b = true := by kernel_rfl
noncomputable def k21c : Code := sL (sL (sR (sR (fb21))))
theorem sk21c : codeSafe Try.prog 26 k21c = true := by kernel_rfl
noncomputable def k21L : Code := unL (unB (sR (sL (sR (sR (fb21))))))
theorem sk21L : codeSafe Try.prog 26 k21L = true := by kernel_rfl
noncomputable def k21z : Code := sR (sR (sR (fb21)))
theorem sk21z : codeSafe Try.prog 26 k21z = true := by kernel_rfl
noncomputable abbrev code21 : Code := .seq k21a (.seq k21b (.seq (.seq k21c (.block 0 (.loop k21L))) k21z))
theorem body21 : Try.f21.body = some code21 := by kernel_rfl
section
theorem lvA_0 (o : Blk) (n c : Nat) : (execN Try.prog (aCall Try.prog E21 60) (callN Try.prog E21 60) 60 k21a ⟨tmsOf [rowS 0 n c] 0 .leaf, heapOf [o, .dead] hp0, []⟩ (acc0 [])).map (fun y => (look2 1 [0] [0] (y.1, y.2.1), y.2.2.q, y.2.2.r, y.2.2.x)) =
    some ((.normal, [o], [(0, vS true 0 n c)], true), [], [], []) := by kernel_rfl
end
section
theorem lvAn_0  : (execN Try.prog (aCall Try.prog E21 60) (callN Try.prog E21 60) 60 k21a ⟨tmsOf [nilS] 0 .leaf, heapOf [.dead] hp0, []⟩ (acc0 [])).map (fun y => (look2 1 [0] [0] (y.1, y.2.1), y.2.2.q, y.2.2.r, y.2.2.x)) =
    some ((.normal, [.dead], [(0, nilS)], true), [], [], []) := by kernel_rfl
end
section
theorem lvB_0 (f : Bool) (o : Blk) (n c : Nat) (g : Nat → Value) : (execN Try.prog (aCall Try.prog E21 60) (callN Try.prog E21 60) 60 k21b (stOf 26 g [(0, vS f 0 n c)] [o]) (acc0 [])).map (fun y => (look2 2 [0, 1] [0, 3] (y.1, y.2.1), y.2.2.q, y.2.2.r, y.2.2.x)) =
    some ((.normal, [o, .dead], [(0, vS f 0 n c), (3, nilS)], true), [], [], []) := by cases f <;> kernel_rfl
end
section
theorem lvC_0 (f : Bool) (o : Blk) (n c : Nat) (g : Nat → Value) : (execN Try.prog (aCall Try.prog E21 60) (callN Try.prog E21 60) 60 k21c (stOf 26 g [(0, vS f 0 n c), (3, nilS)] [o, .dead]) (acc0 [])).map (fun y => (look2 2 [0, 1] [3, 6, 7, 8] (y.1, y.2.1), y.2.2.q, y.2.2.r, y.2.2.x)) =
    some ((.normal, [o, .dead], [(3, nilS), (6, vS f 0 n c), (7, iN (kk f n)), (8, iN 0)], true), [], [], []) := by cases f <;> kernel_rfl
end
theorem lvX_0 (f fu : Bool) (o U : Blk) (n c u i : Nat) (x : ViewV) (zs : List Lev) (g : Nat → Value) : (execN Try.prog (aCall Try.prog E21 60) (callN Try.prog E21 60) 60 k21L (stOf 26 g [(3, vLv fu 1 u), (6, vS f 0 n c), (7, iN (kk f n)), (8, iN i)] [o, U]) (acc0 [(0, .v (.bool false))])).map (fun y => (look2 1 [1] [3] (y.1, y.2.1), y.2.2.q, y.2.2.r, y.2.2.x)) =
    some ((.exit 0, [U], [(3, vLv fu 0 u)], true), [(some (.bool (decide ((Int.ofNat i) < (Int.ofNat (kk f n))))), .bool false)], [], []) := by cases f <;> cases fu <;> kernel_rfl
theorem lvS_0 (f fu : Bool) (o U : Blk) (n c u i : Nat) (x : ViewV) (zs : List Lev) (g : Nat → Value) : (execN Try.prog (aCall Try.prog E21 60) (callN Try.prog E21 60) 60 k21L (stOf 26 g [(3, vLv fu 1 u), (6, vS true 0 n c), (7, iN (kk true n)), (8, iN i)] [o, U]) (acc0 [(15, .v (iN (i + 1))), (13, .e (newL 5 (u + 1)) (effF fu 1 (lB zs))), (7, .v (.bool true)), (2, .v (.agg ⟨vc x⟩)), (1, .v (pb 0 (i * 7))), (0, .v (.bool true))])).map (fun y => (look2 2 [0, 5] [3, 6, 7, 8] (y.1, y.2.1), y.2.2.q, y.2.2.r, y.2.2.x)) =
    some ((.normal, [o, lB zs], [(3, .slice (some ⟨1, 0, none⟩) (u + 1) 10), (6, vS true 0 n c), (7, iN (kk true n)), (8, iN (i + 1))], true), [(some (.int .i64 (wrapF .i64 (Int.ofNat i + Int.ofNat 1))), iN (i + 1)), (some (.bool (toldV x)), .bool true), (aLoad Try.prog (heapOf [o, U, .dead] hp0).get 45 (pb 0 (i * 7)), .agg ⟨vc x⟩), (fstV ((aIndexAddr Try.prog 22 (vS true 0 n c) (iN i)).map fun v => (v, none)), pb 0 (i * 7)), (some (.bool (decide ((Int.ofNat i) < (Int.ofNat (kk true n))))), .bool true)], [], [(aAppend Try.prog (heapOf [o, U, .dead, .cells 45 [.int .i64 x.id, .bool x.n, .int .i64 x.t, .int .i64 x.o, .int .i64 x.r, .int .i64 x.d, .int .i64 x.i] false, .cells 42 [.int .i64 ((lvV x).1), .int .i64 ((lvV x).2.1), .int .i64 ((lvV x).2.2)] false] hp0).get 5 [34, 34] [vLv fu 1 u, newL 4 1], (newL 5 (u + 1), effF fu 1 (lB zs)))]) := by cases fu <;> kernel_rfl
theorem lvS_1 (f fu : Bool) (o U : Blk) (n c u i : Nat) (x : ViewV) (zs : List Lev) (g : Nat → Value) : (execN Try.prog (aCall Try.prog E21 60) (callN Try.prog E21 60) 60 k21L (stOf 26 g [(3, vLv fu 1 u), (6, vS true 0 n c), (7, iN (kk true n)), (8, iN i)] [o, U]) (acc0 [(8, .v (iN (i + 1))), (7, .v (.bool false)), (2, .v (.agg ⟨vc x⟩)), (1, .v (pb 0 (i * 7))), (0, .v (.bool true))])).map (fun y => (look2 2 [0, 1] [3, 6, 7, 8] (y.1, y.2.1), y.2.2.q, y.2.2.r, y.2.2.x)) =
    some ((.normal, [o, U], [(3, vLv fu 1 u), (6, vS true 0 n c), (7, iN (kk true n)), (8, iN (i + 1))], true), [(some (.int .i64 (wrapF .i64 (Int.ofNat i + Int.ofNat 1))), iN (i + 1)), (some (.bool (toldV x)), .bool false), (aLoad Try.prog (heapOf [o, U, .dead] hp0).get 45 (pb 0 (i * 7)), .agg ⟨vc x⟩), (fstV ((aIndexAddr Try.prog 22 (vS true 0 n c) (iN i)).map fun v => (v, none)), pb 0 (i * 7)), (some (.bool (decide ((Int.ofNat i) < (Int.ofNat (kk true n))))), .bool true)], [], []) := by cases fu <;> kernel_rfl
section
theorem lvZ_0 (us ss dd : List Lev) (k d : Nat) (g : Nat → Value) : (execN Try.prog (aCall Try.prog E21 60) (callN Try.prog E21 60) 60 k21z (stOf 26 g [(3, .slice (some ⟨0, 0, none⟩) k 10)] [lB us]) (acc0 [(3, .e (.slice (some ⟨2, 0, none⟩) d 11) [.put 0 (.dead), .push (lB dd), .push (.dead)]), (1, .e (.tuple #[]) [.put 0 (lB ss)])])).map (fun y => (look2 1 [2] [2] (y.1, y.2.1), y.2.2.q, y.2.2.r, y.2.2.x)) =
    some ((.ret, [lB dd], [(2, .slice (some ⟨0, 0, none⟩) d 11)], true), [], [(gCo [.slice (some ⟨0, 0, none⟩) k 10] (heapOf [lB ss, .dead] hp0), (.slice (some ⟨2, 0, none⟩) d 11, (heapOf [lB ss, .dead] hp0).eff [.put 0 (.dead), .push (lB dd), .push (.dead)])), (gSF [.slice (some ⟨0, 0, none⟩) k 10, .func (.func 25) #[] #[]] (heapOf [lB us, .dead] hp0), (.tuple #[], (heapOf [lB us, .dead] hp0).eff [.put 0 (lB ss)]))], []) := by kernel_rfl
end
section
theorem lvZn_0 (g : Nat → Value) : (execN Try.prog (aCall Try.prog E21n 60) (callN Try.prog E21n 60) 60 k21z (stOf 26 g [(3, nilS)] [.dead]) (acc0 [])).map (fun y => (look2 0 [] [2] (y.1, y.2.1), y.2.2.q, y.2.2.r, y.2.2.x)) =
    some ((.ret, [], [(2, nilS)], true), [], [], []) := by kernel_rfl
end
end Go.Proofs.Ytgeoommlmddgpaa.LtL
namespace Go.Proofs.Ytgeoommlmddgpaa.LtL
open Go Go.Proofs Go.Proofs.Ytgeoommlmddgpaa.AI Go.RowKit Go.Proofs.Ytgeoommlmddgpaa.Sort Go.Proofs.Ytgeoommlmddgpaa.LtA
def ownL (ls : List Lev) : Blk := match ls with
  | [] => .dead
  | l :: ls => lB (l :: ls)
theorem ownL_ne {ls : List Lev} (h : ls ≠ []) : ownL ls = lB ls := by cases ls with
  | nil => exact absurd rfl h
  | cons => rfl
theorem ownL_inert (ls : List Lev) : inertB (ownL ls) = true := by cases ls with
  | nil => rfl
  | cons => exact lB_inert _
def rowLv (ls : List Lev) (b : Nat) : Value := match ls with
  | [] => nilS
  | l :: ls => .slice (some ⟨b, 0, none⟩) (ls.length + 1) 11
def rowLO (ls : List Lev) : List Blk := match ls with
  | [] => []
  | l :: ls => [lB (l :: ls)]
theorem rowL_out (ls : List Lev) : rowLO ls = [] ∨ ∃ B, rowLO ls = [B] ∧ inertB B = true ∧ rwB B = true := by
  cases ls with
  | nil => exact .inl rfl
  | cons i ids => exact .inr ⟨lB (i :: ids), rfl, lB_inert _, rfl⟩
theorem rowL_ok (ls : List Lev) : ok3 (rowLv ls 0) = true := by cases ls <;> rfl
theorem underlyingL : Try.prog.underlying 34 = some (.slice 42) := by kernel_rfl
theorem infoL : ∃ i, Try.prog.info? 42 = some i ∧ i.size = 3 ∧ i.bytes = 24 := by
  have h : (Try.prog.info? 42).map (fun i => (i.size, i.bytes)) = some (3, 24) := by kernel_rfl
  obtain ⟨i, h1, h2⟩ := Option.map_eq_some_iff.1 h
  simp only [Prod.mk.injEq] at h2
  exact ⟨i, h1, h2.1, h2.2⟩
theorem zeroL : ∃ z, tzero Try.prog 42 = some z ∧ z.length = 3 := by
  have h : (tzero Try.prog 42).map (fun z => z.length) = some 3 := by kernel_rfl
  obtain ⟨z, h1, h2⟩ := Option.map_eq_some_iff.1 h
  exact ⟨z, h1, h2⟩
theorem app_lev {get : Nat → Option Blk} {sz b b2 k : Nat} {ls : List Lev} {x : Lev} {f : Bool} (hf : f = !ls.isEmpty) (hb : get b = some (ownL ls)) (hb2 : get b2 = some (.cells 42 (lc x) false)) (hk : k = ls.length) (hl : k < 2000000) :
    aAppend Try.prog get sz [34, 34] [vLv f b k, newL b2 1] = some (newL sz (k + 1), effF f b (lB (ls ++ [x]))) := by
  subst hf hk
  obtain ⟨i, hi, h1, h8⟩ := infoL
  obtain ⟨z, hz, hzl⟩ := zeroL
  have hsrc : aSrc Try.prog get 3 z (.slice 42) (newL b2 1) = some (lc x, 1) := by
    unfold aSrc newL
    simp only [srcLen, srcCells, hb2]
    rw [if_neg (by omega), if_neg (by omega), getR_all (n := 1 * 3) rfl]
    rfl
  cases ls with
  | nil =>
    show aAppend Try.prog get sz [34, 34] [nilS, newL b2 1] = some (newL sz 1, [.push (lB [x])])
    unfold aAppend
    simp only [underlyingL, hi, hz, h1, h8, hzl]
    rw [if_neg (by decide)]
    simp only [hsrc]
    rw [if_neg (by simp [isOne, lc])]
    simp only [nilS]
    rw [if_neg (by omega), if_neg (by omega)]
    rfl
  | cons w ws =>
    have hun : w :: ws ≠ [] := by simp
    rw [ownL_ne hun] at hb
    generalize w :: ws = ls at *
    rw [isE_false hun]
    show aAppend Try.prog get sz [34, 34] [newL b ls.length, newL b2 1] = some (newL sz (ls.length + 1), [.put b .dead, .push (lB (ls ++ [x]))])
    unfold lB at hb
    have hg : getR (lrow ls) 0 (ls.length * 3) = some (lrow ls) := getR_all (lrow_len ls)
    unfold aAppend
    simp only [underlyingL, hi, hz, h1, h8, hzl]
    rw [if_neg (by decide)]
    simp only [hsrc]
    rw [if_neg (by simp [isOne, lc])]
    simp only [newL]
    rw [if_neg (by omega), if_neg (by omega)]
    simp only [hb, hg]
    rw [if_neg (by omega), if_pos (by decide), if_neg (by rw [lrow_len]; omega)]
    have e : lrow (ls ++ [x]) = lrow ls ++ lc x := by unfold lrow; rw [List.flatMap_append]; simp
    unfold lB
    rw [e]
def levsV (vs : List ViewV) : List Lev := (vs.filter toldV).map lvV
def dlev (ls : List Lev) : List Lev := match ls with
  | [] => []
  | l :: ls => ded (sortL (l :: ls))
def levU (us : List Lev) (x : ViewV) : List Lev := bif toldV x then us ++ [lvV x] else us
theorem lev_fold : ∀ {vs : List ViewV} {us : List Lev}, vs.foldl levU us = us ++ levsV vs
  | [], us => by simp [levsV]
  | v :: vs, us => by
    rw [List.foldl_cons, lev_fold]
    unfold levU levsV
    cases h : toldV v with
    | true => rw [List.filter_cons_of_pos h]; simp
    | false => rw [List.filter_cons_of_neg (by rw [h]; simp)]; rfl
theorem levsV_len (vs : List ViewV) : (levsV vs).length ≤ vs.length := by unfold levsV; rw [List.length_map]; exact List.length_filter_le ..
theorem ded_ne {ls : List Lev} (h : ls ≠ []) : ded ls ≠ [] := fun e => by
  obtain ⟨y, hy⟩ : ∃ y, ls.getLast? = some y := ⟨_, List.getLast?_eq_some_getLast h⟩
  have := ded_last hy
  rw [e] at this; cases this
def levR (vs : List ViewV) : Ans := fun rest => match rest with
  | [] => some (rowLv (dlev (levsV vs)) 0, rowLO (dlev (levsV vs)))
  | _ => none
theorem finL {q : ∀ (v : Value) (O : List Blk) (g : Nat → Value), retVal Try.prog Try.f21 (stOf 26 g [(2, v)] O) = some v} {ls : List Lev} (h : ls ≠ []) (g : Nat → Value) : FinR Try.f21 (rowLv ls 0) (rowLO ls) .ret (stOf 26 g [(2, .slice (some ⟨0, 0, none⟩) ls.length 11)] [lB ls]) := by
  cases ls with
  | nil => exact absurd rfl h
  | cons l ls => exact ⟨.inr rfl, rfl, q _ _ g, fun B hB => by cases hB; show (heapOf _ hp0).get 0 = _; rw [heapOf0_get]; rfl⟩
theorem run21 (vs : List ViewV) (hn : vs.length < 1000000) : ∀ rest v0 O, levR vs rest = some (v0, O) → RowRun Try.f21 code21 26 vs rest v0 O := fun rest v0 O h => by
  unfold levR at h
  split at h
  case h_2 => cases h
  cases h
  refine ⟨rowL_out _, rowL_ok _, (by intro r hr; cases hr), by simp, fun f o c W ho hrow hfl => ?_⟩
  have hkk := kk_len hfl
  have fx2 : ∀ us : List Lev, ∀ r : List Blk, ∀ i, i < 2 → ∀ o', (o :: ownL us :: r)[i]? = some o' → Fixed 0 o' := fun us => fixOO ho (ownL_inert us)
  refine FRwp.seq (Q1 := fun e st => e = .normal ∧ ∃ g, st = stOf 26 g [(0, vS f 0 vs.length c)] [o]) ?_ ?_ (fun x st hne hq => absurd hq.1 hne)
  · cases f with
    | true => exact FRwp.pieceN E21_ok follows 60 1 _ _ _ _ (lvA_0 o vs.length c) Met.nil MetH.nil MetE.nil sk21a rfl rfl (fix11 ho _) fun g => ⟨rfl, g, rfl⟩
    | false =>
      obtain ⟨rfl, rfl⟩ := hfl rfl
      exact FRwp.pieceN E21_ok follows 60 1 _ _ _ _ lvAn_0 Met.nil MetH.nil MetE.nil sk21a rfl rfl (fix11 rfl _) fun g => ⟨rfl, g, rfl⟩
  rintro st ⟨-, g, rfl⟩
  refine FRwp.seq (Q1 := fun e st => e = .normal ∧ ∃ g, st = stOf 26 g [(0, vS f 0 vs.length c), (3, nilS)] [o, .dead]) (FRwp.pieceN E21_ok follows 60 2 _ _ _ _ (lvB_0 f o vs.length c g) Met.nil MetH.nil MetE.nil sk21b rfl rfl (fx2 [] _) fun g => ⟨rfl, g, rfl⟩) ?_ (fun x st hne hq => absurd hq.1 hne)
  rintro st ⟨-, g, rfl⟩
  let I : List Lev → Nat → (Nat → Value) → St := fun us i g => stOf 26 g [(3, vLv (!us.isEmpty) 1 us.length), (6, vS f 0 vs.length c), (7, iN (kk f vs.length)), (8, iN i)] [o, ownL us]
  refine FRwp.seq (Q1 := fun e st => e = .normal ∧ ∃ g, st = stOf 26 g [(3, vLv (!(levsV vs).isEmpty) 0 (levsV vs).length)] [ownL (levsV vs)]) ?_ ?_ (fun x st hne hq => absurd hq.1 hne)
  · refine FRwp.seq (Q1 := fun e st => e = .normal ∧ ∃ g, st = I [] 0 g) (FRwp.pieceN E21_ok follows 60 2 _ _ _ _ (lvC_0 f o vs.length c g) Met.nil MetH.nil MetE.nil sk21c rfl rfl (fx2 [] _) fun g => ⟨rfl, g, rfl⟩) ?_ (fun x st hne hq => absurd hq.1 hne)
    rintro st ⟨-, g, rfl⟩
    refine FRwp.mono (fold_loop' levU [] I (fun us st => ∃ g, st = stOf 26 g [(3, vLv (!us.isEmpty) 0 us.length)] [ownL us]) (fun us g hf => ?_) (fun i x us g hx hlt hf => ?_) g) fun e st q => by rw [lev_fold] at q; exact q
    · exact FRwp.pieceN E21_ok follows 60 1 _ _ _ _ (lvX_0 f (!us.isEmpty) o (ownL us) vs.length c us.length vs.length ⟨0, false, 0, 0, 0, 0, 0⟩ [] g) (Met.cons (bool_ok (by rw [hkk]; simp)) Met.nil) MetH.nil MetE.nil sk21L rfl rfl (fix11 (ownL_inert us) []) fun g' => ⟨rfl, g', rfl⟩
    · have hft : f = true := by cases f with
        | true => rfl
        | false => rw [(hfl rfl).1] at hlt; simp at hlt
      subst hft
      have hr : ∃ ty ro, o = .cells ty (vrow vs) ro := by
        rcases hrow with h | h
        · rw [h] at hlt; simp at hlt
        · exact h
      have hul : us.length ≤ i := by
        rw [← hf, lev_fold]
        have := levsV_len (vs.take i)
        rw [List.length_take] at this
        simp; omega
      have b0 : RowAt (heapOf [o, ownL us, .dead] hp0) 0 vs := rowAt0 hr
      cases ht : toldV x with
      | false =>
        refine FRwp.pieceN E21_ok follows 60 2 _ _ _ _ (lvS_1 true (!us.isEmpty) o (ownL us) vs.length c us.length i x [] g)
          (Met.cons (wrap_up (by omega)) (Met.cons (congrArg (fun b => some (Value.bool b)) ht) (Met.cons (LtA.vload_ok b0 hx) (Met.cons (LtA.vidx_ok hlt) (Met.cons (bool_ok (decide_eq_true (by show ((i : Nat) : Int) < ((vs.length : Nat) : Int); omega))) Met.nil))))) MetH.nil MetE.nil sk21L rfl rfl (fx2 us _) fun g' => ⟨rfl, g', ?_⟩
        unfold levU; rw [ht]; rfl
      | true =>
        have happ := app_lev (get := (heapOf [o, ownL us, .dead, .cells 45 [.int .i64 x.id, .bool x.n, .int .i64 x.t, .int .i64 x.o, .int .i64 x.r, .int .i64 x.d, .int .i64 x.i] false, .cells 42 [.int .i64 ((lvV x).1), .int .i64 ((lvV x).2.1), .int .i64 ((lvV x).2.2)] false] hp0).get) (sz := 5) (b := 1) (b2 := 4) (ls := us) (x := lvV x) rfl (by rw [heapOf0_get]; rfl) (by rw [heapOf0_get]; rfl) rfl (by omega)
        refine FRwp.pieceN E21_ok follows 60 2 _ _ _ _ (lvS_0 true (!us.isEmpty) o (ownL us) vs.length c us.length i x (us ++ [lvV x]) g)
          (Met.cons (wrap_up (by omega)) (Met.cons (congrArg (fun b => some (Value.bool b)) ht) (Met.cons (LtA.vload_ok b0 hx) (Met.cons (LtA.vidx_ok hlt) (Met.cons (bool_ok (decide_eq_true (by show ((i : Nat) : Int) < ((vs.length : Nat) : Int); omega))) Met.nil))))) MetH.nil (MetE.cons happ MetE.nil) sk21L rfl rfl (by rw [← ownL_ne (by simp : us ++ [lvV x] ≠ [])]; exact fx2 _ _) fun g' => ⟨rfl, g', ?_⟩
        unfold levU
        rw [ht, cond_true]
        show _ = stOf 26 g' [(3, vLv (!(us ++ [lvV x]).isEmpty) 1 (us ++ [lvV x]).length), _, _, _] [o, ownL (us ++ [lvV x])]
        rw [isE_app, ownL_ne (by simp : us ++ [lvV x] ≠ [])]
        have e1 : (us ++ [lvV x]).length = us.length + 1 := by simp
        rw [e1]; rfl
  rintro st ⟨-, g, rfl⟩
  have hl := levsV_len vs
  generalize levsV vs = us at *
  cases us with
  | nil => exact FRwp.pieceN E21n_ok follows 60 0 _ _ _ _ (lvZn_0 g) Met.nil MetH.nil MetE.nil sk21z rfl rfl (noFix _) fun g => ⟨.inr rfl, rfl, q21 _ _ g, (fun B hB => by cases hB)⟩
  | cons w ws =>
    show FRwp Try.prog 26 W k21z _ (FinR Try.f21 (rowLv (ded (sortL (w :: ws))) 0) (rowLO (ded (sortL (w :: ws)))))
    have hun : w :: ws ≠ [] := by simp
    have hpos : 0 < (w :: ws).length := by simp
    generalize w :: ws = us at *
    rw [ownL_ne hun, isE_false hun]
    have hsl := sortL_len us
    have hsn : sortL us ≠ [] := fun e => by rw [e] at hsl; simp at hsl; omega
    refine FRwp.pieceN E21_ok follows 60 1 _ _ _ _ (lvZ_0 us (sortL us) (ded (sortL us)) us.length (ded (sortL us)).length g) Met.nil
      (MetH.cons (gCo_of (ls := sortL us) rfl (by omega) (by omega) (by omega)) (MetH.cons (gSF_of (ls := us) rfl rfl (by omega) (by omega)) MetH.nil)) MetE.nil sk21z rfl rfl (fix11 (lB_inert _) []) fun g => finL (q := q21) (ded_ne hsn) g
noncomputable def GLv : HeapFn := padF (toldR levR)
theorem hkLv : CallGoal Try.prog 21 GLv := pad_goal (toldR_goal Try.func21 body21 (by kernel_rfl) ntmps21 fun vs hn => run21 vs hn)
theorem GLv_of {vs : List ViewV} {s : Value} {hp : Hp} (h : TN vs s hp) (hn : vs.length < 1000000) : GLv [s] hp = some (rowLv (dlev (levsV vs)) hp.sz, heapOf [ownL (dlev (levsV vs)), .dead] hp) := by
  unfold GLv
  have e := toldR_of (A := levR) (rest := []) (v0 := rowLv (dlev (levsV vs)) 0) (O := rowLO (dlev (levsV vs))) h hn rfl
  generalize dlev (levsV vs) = ls at *
  cases ls with
  | nil => exact pad_one e
  | cons l ls =>
    refine pad_two (e.trans ?_)
    show some (sh3 [0] hp.sz (.slice (some ⟨0, 0, none⟩) _ _), _) = _
    simp [sh3, sh2, sh1, rho, idxOf, rowLv]; rfl
end Go.Proofs.Ytgeoommlmddgpaa.LtL
namespace Go.Proofs.Ytgeoommlmddgpaa.LtA
open Go Go.Proofs Go.Proofs.Ytgeoommlmddgpaa.AI Go.RowKit Go.Proofs.Ytgeoommlmddgpaa.Sort Go.Proofs.Ytgeoommlmddgpaa.LtL
def rmS (y : ViewV) (p : Bool × List ViewV) (x : ViewV) : Bool × List ViewV := bif !p.1 && sameV x y then (true, p.2) else (p.1, p.2 ++ [x])
def rest (us : List ViewV) : List ViewV := (us.foldl (rmS (lowV us).1) (false, [])).2
end Go.Proofs.Ytgeoommlmddgpaa.LtA
namespace Go.Proofs.Ytgeoommlmddgpaa.LtA
open Go Go.Proofs Go.Proofs.Ytgeoommlmddgpaa.AI Go.RowKit Go.Proofs.Ytgeoommlmddgpaa.Sort Go.Proofs.Ytgeoommlmddgpaa.LtL
theorem ltT : ∀ {a b : Nat} {r : Bool}, decide (a < b) = r → (some (Value.bool (decide (Int.ofNat a < Int.ofNat b)))) = some (.bool r) := fun {a b r} h => bool_ok (by rw [← h]; exact decide_eq_decide.2 (by simp only [Int.ofNat_eq_natCast]; omega))
def zv : ViewV := ⟨0, false, 0, 0, 0, 0, 0⟩
set_option maxHeartbeats 1000000
end Go.Proofs.Ytgeoommlmddgpaa.LtA
namespace Go.Proofs.Ytgeoommlmddgpaa.LtL
open Go Go.Proofs Go.Proofs.Ytgeoommlmddgpaa.AI Go.RowKit Go.Proofs.Ytgeoommlmddgpaa.Sort Go.Proofs.Ytgeoommlmddgpaa.LtA
noncomputable def E4 : Ext := extG (extH Try.prog [(19, g16), (26, g31), (25, g30)]) [(21, GLv), (24, G18M)]
theorem E4_ok : ExtOk Try.prog E4 := extG_ok (extH_ok (.cons hk16 (.cons hk31 (.cons hk30 .nil)))) (.cons hkLv (.cons hkG18M .nil))
theorem q4 (v : Value) (O : List Blk) (g : Nat → Value) : retVal Try.prog Try.f4 (stOf 96 g [(2, v)] O) = some v := by kernel_rfl
end Go.Proofs.Ytgeoommlmddgpaa.LtL
namespace Go.Proofs.Ytgeoommlmddgpaa.LtL
open Go Go.Proofs Go.Proofs.Ytgeoommlmddgpaa.AI Go.RowKit Go.Proofs.Ytgeoommlmddgpaa.Sort Go.Proofs.Ytgeoommlmddgpaa.LtA
theorem ded_len2 (l : List Lev) : (dlev l).length ≤ l.length := by
  cases l with
  | nil => exact Nat.le_refl _
  | cons y l => have := ded_len (sortL (y :: l)); rw [sortL_len] at this; exact this
def hitB (us : List ViewV) (y : Lev) : Bool := us.any fun x => !x.n && (lvV x == y)
def mid (us : List ViewV) (x : ViewV) (ls : List Lev) (k : Nat) : List Bool := (ls.take k).map (hitB (us ++ [x])) ++ (ls.drop k).map (hitB us)
open Classical in
theorem G18M_of {vs : List ViewV} {s : Value} {hp : Hp} (h : TN vs s hp) (hn : Long vs) : G18M [s] hp = some (errI (rightB vs), heapOf [.dead] hp) := by
  unfold G18M toldQ
  have hx : ∃ vs, TN vs s hp ∧ Long vs := ⟨vs, h, hn⟩
  simp only
  rw [dif_pos hx, hx.choose_spec.1.uniq h]
  show (if TN vs s hp then _ else _) = _
  rw [if_pos h]
  show some (sh3 _ _ (errI (rightB vs)), _) = _
  cases rightB vs <;> rfl
theorem lloadb {hp : Hp} {b : Nat} {us : List Lev} {i : Nat} {x : Lev} (hg : hp.get b = some (ownL us)) (h : us[i]? = some x) : aLoad Try.prog hp.get 42 (pb b (i * 3)) = some (lA x) := by
  have hne : us ≠ [] := fun e => by subst e; simp at h
  rw [ownL_ne hne] at hg
  simp only [aLoad, pb, hg, lB, aggL, sizeL]
  have := flat_getR (f := lc) (k := 3) (ps := us) (fun _ _ => rfl) h
  unfold lrow
  rw [this]
  rfl
end Go.Proofs.Ytgeoommlmddgpaa.LtL
namespace Go.Proofs.Ytgeoommlmddgpaa.LtL
open Go Go.Proofs Go.Proofs.Ytgeoommlmddgpaa.AI Go.RowKit Go.Proofs.Ytgeoommlmddgpaa.Sort Go.Proofs.Ytgeoommlmddgpaa.LtA
theorem hget0 {o : Blk} {r : List Blk} : (heapOf (o :: r) hp0).get 0 = some o := by rw [heapOf0_get]; rfl
theorem hgn {O : List Blk} {b : Nat} {o : Blk} (h : O[b]? = some o) : (heapOf O hp0).get b = some o := by rw [heapOf0_get]; exact h
def zH : ViewV := ⟨0, false, 0, 0, 0, 0, 0⟩
theorem chk_ne {n : Bool} {t o r d i : Int} : ((chk n t o r d i) != Int.ofNat 0) = !okH n t o r d i := by
  unfold chk
  cases okH n t o r d i <;> rfl
noncomputable def G43R : HeapFn := atRow (fun _ => True) g43
open Classical in
theorem G43R_of {vs : List ViewV} {s : Value} {hp : Hp} (h : TN vs s hp) (hn : vs.length < 1000000) : G43R [s] hp = some (.bool (rightB vs), heapOf [.dead] hp) := by
  unfold G43R
  rw [atRow_of h hn trivial]
  show (if TQ vs s hp then _ else _) = _
  rw [if_pos h.tq]; rfl
end Go.Proofs.Ytgeoommlmddgpaa.LtL
namespace Go.Proofs.Ytgeoommlmddgpaa.LtL
open Go Go.Proofs Go.Proofs.Ytgeoommlmddgpaa.AI Go.RowKit Go.Proofs.Ytgeoommlmddgpaa.Sort Go.Proofs.Ytgeoommlmddgpaa.LtA
def lbx (y : Lev) : Blk := .cells 42 (lc y) false
end Go.Proofs.Ytgeoommlmddgpaa.LtL
namespace Go.Proofs.Ytgeoommlmddgpaa.LtL
open Go Go.Proofs Go.Proofs.Ytgeoommlmddgpaa.AI Go.RowKit Go.Proofs.Ytgeoommlmddgpaa.Sort Go.Proofs.Ytgeoommlmddgpaa.LtA
theorem lbx_inert (y : Lev) : inertB (lbx y) = true := rfl
theorem lbx_load {hp : Hp} {b : Nat} {y : Lev} (h : hp.get b = some (lbx y)) : aLoad Try.prog hp.get 42 (pb b 0) = some (lA y) := by
  simp only [aLoad, pb, h, lbx, aggL, sizeL]
  rfl
def zl : Lev := (0, 0, 0)
set_option maxHeartbeats 1000000
end Go.Proofs.Ytgeoommlmddgpaa.LtL
namespace Go.Proofs.Ytgeoommlmddgpaa.LtL
open Go Go.Proofs Go.Proofs.Ytgeoommlmddgpaa.AI Go.RowKit Go.Proofs.Ytgeoommlmddgpaa.Sort Go.Proofs.Ytgeoommlmddgpaa.LtA
noncomputable def E67m : Ext := extH Try.prog [(26, g31)]
theorem E67m_ok : ExtOk Try.prog E67m := extH_ok (.cons hk31 .nil)
noncomputable def fb67m : Code := (Try.f67.body).getD .skip
theorem ntmps67m : Try.f67.ntmps = 32 := by kernel_rfl
noncomputable def k67ma : Code := sL (fb67m)
theorem sk67ma : codeSafe Try.prog 32 k67ma = true := by kernel_rfl
noncomputable def k67mb : Code := sL (sR (fb67m))
theorem sk67mb : codeSafe Try.prog 32 k67mb = true := by kernel_rfl
noncomputable def k67mc : Code := sL (sL (sR (sR (fb67m))))
theorem sk67mc : codeSafe Try.prog 32 k67mc = true := by kernel_rfl
noncomputable def k67mL : Code := unL (unB (sR (sL (sR (sR (fb67m))))))
theorem sk67mL : codeSafe Try.prog 32 k67mL = true := by kernel_rfl
noncomputable def k67mz : Code := sR (sR (sR (fb67m)))
theorem sk67mz : codeSafe Try.prog 32 k67mz = true := by kernel_rfl
noncomputable abbrev code67m : Code := .seq k67ma (.seq k67mb (.seq (.seq k67mc (.block 0 (.loop k67mL))) k67mz))
theorem body67m : Try.f67.body = some code67m := by kernel_rfl
theorem ltA_0 (f : Bool) (o : Blk) (n c i : Nat) (k : Int) (x : ViewV) (v : Lev) (g : Nat → Value) : (execN Try.prog (aCall Try.prog E67m 60) (callN Try.prog E67m 60) 60 k67ma ⟨tmsOf [vS f 0 n c, lA v] 0 .leaf, heapOf [o, .dead] hp0, []⟩ (acc0 [])).map (fun y => (look2 1 [0, 2] [0, 3] (y.1, y.2.1), y.2.2.q, y.2.2.r, y.2.2.x)) =
    some ((.normal, [o, .cells 42 [.int .i64 v.1, .int .i64 v.2.1, .int .i64 v.2.2] false], [(0, vS f 0 n c), (3, pb 1 0)], true), [], [], []) := by cases f <;> kernel_rfl
theorem ltAn_0 (f : Bool) (o : Blk) (n c i : Nat) (k : Int) (x : ViewV) (v : Lev) (g : Nat → Value) : (execN Try.prog (aCall Try.prog E67m 60) (callN Try.prog E67m 60) 60 k67ma ⟨tmsOf [nilS, lA v] 0 .leaf, heapOf [.dead] hp0, []⟩ (acc0 [])).map (fun y => (look2 1 [0, 1] [0, 3] (y.1, y.2.1), y.2.2.q, y.2.2.r, y.2.2.x)) =
    some ((.normal, [.dead, .cells 42 [.int .i64 v.1, .int .i64 v.2.1, .int .i64 v.2.2] false], [(0, nilS), (3, pb 1 0)], true), [], [], []) := by kernel_rfl
theorem ltB_0 (f : Bool) (o : Blk) (n c i : Nat) (k : Int) (x : ViewV) (v : Lev) (g : Nat → Value) : (execN Try.prog (aCall Try.prog E67m 60) (callN Try.prog E67m 60) 60 k67mb (stOf 32 g [(0, vS f 0 n c), (3, pb 1 0)] [o, (lbx v)]) (acc0 [])).map (fun y => (look2 2 [0, 1] [0, 3, 5] (y.1, y.2.1), y.2.2.q, y.2.2.r, y.2.2.x)) =
    some ((.normal, [o, (lbx v)], [(0, vS f 0 n c), (3, pb 1 0), (5, iN 1099511627776)], true), [], [], []) := by cases f <;> kernel_rfl
theorem ltC_0 (f : Bool) (o : Blk) (n c i : Nat) (k : Int) (x : ViewV) (v : Lev) (g : Nat → Value) : (execN Try.prog (aCall Try.prog E67m 60) (callN Try.prog E67m 60) 60 k67mc (stOf 32 g [(0, vS f 0 n c), (3, pb 1 0), (5, .int .i64 k)] [o, (lbx v)]) (acc0 [])).map (fun y => (look2 2 [0, 1] [3, 5, 8, 9, 10] (y.1, y.2.1), y.2.2.q, y.2.2.r, y.2.2.x)) =
    some ((.normal, [o, (lbx v)], [(3, pb 1 0), (5, .int .i64 k), (8, vS f 0 n c), (9, iN (kk f n)), (10, iN 0)], true), [], [], []) := by cases f <;> kernel_rfl
theorem ltLx_0 (f : Bool) (o : Blk) (n c i : Nat) (k : Int) (x : ViewV) (v : Lev) (g : Nat → Value) : (execN Try.prog (aCall Try.prog E67m 60) (callN Try.prog E67m 60) 60 k67mL (stOf 32 g [(3, pb 1 0), (5, .int .i64 k), (8, vS f 0 n c), (9, iN (kk f n)), (10, iN i)] [o, (lbx v)]) (acc0 [(0, .v (.bool false))])).map (fun y => (look2 0 [] [5] (y.1, y.2.1), y.2.2.q, y.2.2.r, y.2.2.x)) =
    some ((.exit 0, [], [(5, .int .i64 k)], true), [(some (.bool (decide ((Int.ofNat i) < (Int.ofNat (kk f n))))), .bool false)], [], []) := by cases f <;> kernel_rfl
theorem ltL_0 (f : Bool) (o : Blk) (n c i : Nat) (k : Int) (x : ViewV) (v : Lev) (g : Nat → Value) : (execN Try.prog (aCall Try.prog E67m 60) (callN Try.prog E67m 60) 60 k67mL (stOf 32 g [(3, pb 1 0), (5, .int .i64 k), (8, vS true 0 n c), (9, iN (kk true n)), (10, iN i)] [o, (lbx v)]) (acc0 [(22, .v (iN (i + 1))), (14, .v (.bool true)), (13, .v (lA v)), (8, .v (.bool true)), (2, .v (.agg ⟨vc x⟩)), (1, .v (pb 0 (i * 7))), (0, .v (.bool true))])).map (fun y => (look2 2 [0, 1] [3, 5, 8, 9, 10] (y.1, y.2.1), y.2.2.q, y.2.2.r, y.2.2.x)) =
    some ((.normal, [o, (lbx v)], [(3, pb 1 0), (5, .int .i64 (if x.d < k then x.d else k)), (8, vS true 0 n c), (9, iN (kk true n)), (10, iN (i + 1))], true), [(some (.int .i64 (wrapF .i64 (Int.ofNat i + Int.ofNat 1))), iN (i + 1)), (aLoad Try.prog (heapOf [o, (lbx v), .dead, .cells 45 [.int .i64 x.id, .bool x.n, .int .i64 x.t, .int .i64 x.o, .int .i64 x.r, .int .i64 x.d, .int .i64 x.i] false] hp0).get 42 (pb 1 0), lA v), (fstV ((aBin Try.prog .eql 42 (lA (lvV x)) (lA v)).map fun v => (v, none)), .bool true), (aLoad Try.prog (heapOf [o, (lbx v), .dead, .cells 45 [.int .i64 x.id, .bool x.n, .int .i64 x.t, .int .i64 x.o, .int .i64 x.r, .int .i64 x.d, .int .i64 x.i] false] hp0).get 42 (pb 1 0), lA v), (some (.bool (!x.n)), .bool true), (aLoad Try.prog (heapOf [o, (lbx v), .dead] hp0).get 45 (pb 0 (i * 7)), .agg ⟨vc x⟩), (fstV ((aIndexAddr Try.prog 22 (vS true 0 n c) (iN i)).map fun v => (v, none)), pb 0 (i * 7)), (some (.bool (decide ((Int.ofNat i) < (Int.ofNat (kk true n))))), .bool true)], [], []) := by kernel_rfl
theorem ltL_1 (f : Bool) (o : Blk) (n c i : Nat) (k : Int) (x : ViewV) (v : Lev) (g : Nat → Value) : (execN Try.prog (aCall Try.prog E67m 60) (callN Try.prog E67m 60) 60 k67mL (stOf 32 g [(3, pb 1 0), (5, .int .i64 k), (8, vS true 0 n c), (9, iN (kk true n)), (10, iN i)] [o, (lbx v)]) (acc0 [(16, .v (iN (i + 1))), (14, .v (.bool false)), (13, .v (lA v)), (8, .v (.bool true)), (2, .v (.agg ⟨vc x⟩)), (1, .v (pb 0 (i * 7))), (0, .v (.bool true))])).map (fun y => (look2 2 [0, 1] [3, 5, 8, 9, 10] (y.1, y.2.1), y.2.2.q, y.2.2.r, y.2.2.x)) =
    some ((.normal, [o, (lbx v)], [(3, pb 1 0), (5, .int .i64 k), (8, vS true 0 n c), (9, iN (kk true n)), (10, iN (i + 1))], true), [(some (.int .i64 (wrapF .i64 (Int.ofNat i + Int.ofNat 1))), iN (i + 1)), (aLoad Try.prog (heapOf [o, (lbx v), .dead, .cells 45 [.int .i64 x.id, .bool x.n, .int .i64 x.t, .int .i64 x.o, .int .i64 x.r, .int .i64 x.d, .int .i64 x.i] false] hp0).get 42 (pb 1 0), lA v), (fstV ((aBin Try.prog .eql 42 (lA (lvV x)) (lA v)).map fun v => (v, none)), .bool false), (aLoad Try.prog (heapOf [o, (lbx v), .dead, .cells 45 [.int .i64 x.id, .bool x.n, .int .i64 x.t, .int .i64 x.o, .int .i64 x.r, .int .i64 x.d, .int .i64 x.i] false] hp0).get 42 (pb 1 0), lA v), (some (.bool (!x.n)), .bool true), (aLoad Try.prog (heapOf [o, (lbx v), .dead] hp0).get 45 (pb 0 (i * 7)), .agg ⟨vc x⟩), (fstV ((aIndexAddr Try.prog 22 (vS true 0 n c) (iN i)).map fun v => (v, none)), pb 0 (i * 7)), (some (.bool (decide ((Int.ofNat i) < (Int.ofNat (kk true n))))), .bool true)], [], []) := by kernel_rfl
theorem ltL_2 (f : Bool) (o : Blk) (n c i : Nat) (k : Int) (x : ViewV) (v : Lev) (g : Nat → Value) : (execN Try.prog (aCall Try.prog E67m 60) (callN Try.prog E67m 60) 60 k67mL (stOf 32 g [(3, pb 1 0), (5, .int .i64 k), (8, vS true 0 n c), (9, iN (kk true n)), (10, iN i)] [o, (lbx v)]) (acc0 [(11, .v (iN (i + 1))), (8, .v (.bool false)), (2, .v (.agg ⟨vc x⟩)), (1, .v (pb 0 (i * 7))), (0, .v (.bool true))])).map (fun y => (look2 2 [0, 1] [3, 5, 8, 9, 10] (y.1, y.2.1), y.2.2.q, y.2.2.r, y.2.2.x)) =
    some ((.normal, [o, (lbx v)], [(3, pb 1 0), (5, .int .i64 k), (8, vS true 0 n c), (9, iN (kk true n)), (10, iN (i + 1))], true), [(some (.int .i64 (wrapF .i64 (Int.ofNat i + Int.ofNat 1))), iN (i + 1)), (some (.bool (!x.n)), .bool false), (aLoad Try.prog (heapOf [o, (lbx v), .dead] hp0).get 45 (pb 0 (i * 7)), .agg ⟨vc x⟩), (fstV ((aIndexAddr Try.prog 22 (vS true 0 n c) (iN i)).map fun v => (v, none)), pb 0 (i * 7)), (some (.bool (decide ((Int.ofNat i) < (Int.ofNat (kk true n))))), .bool true)], [], []) := by kernel_rfl
theorem ltZ_0 (f : Bool) (o : Blk) (n c i : Nat) (k : Int) (x : ViewV) (v : Lev) (g : Nat → Value) : (execN Try.prog (aCall Try.prog E67m 60) (callN Try.prog E67m 60) 60 k67mz (stOf 32 g [(5, .int .i64 k)] []) (acc0 [])).map (fun y => (look2 0 [] [4] (y.1, y.2.1), y.2.2.q, y.2.2.r, y.2.2.x)) =
    some ((.ret, [], [(4, .int .i64 k)], true), [], [], []) := by kernel_rfl
theorem q67m (v : Value) (O : List Blk) (g : Nat → Value) : retVal Try.prog Try.f67 (stOf 32 g [(4, v)] O) = some v := by kernel_rfl
def lstS (v : Lev) (k : Int) (x : ViewV) : Int := bif !x.n && (lvV x == v) then (if x.d < k then x.d else k) else k
def lstV (v : Lev) (vs : List ViewV) : Int := vs.foldl (lstS v) 1099511627776
def unL' : Value → Option Lev
  | .agg cs => match cs.toList with
    | [.int .i64 a, .int .i64 b, .int .i64 c] => some (a, b, c)
    | _ => none
  | _ => none
theorem unL_some {v : Value} {y : Lev} (h : unL' v = some y) : v = lA y := by
  unfold unL' at h
  split at h
  · rename_i cs
    split at h
    · rename_i a b c hcs
      cases h
      obtain rfl := arr_of hcs
      rfl
    · cases h
  · cases h
def lstR (vs : List ViewV) : Ans := fun rest => match rest with
  | [v] => (unL' v).map fun y => (.int .i64 (lstV y vs), [])
  | _ => none
theorem stay_lA (y : Lev) : stay (lA y) := ⟨rfl, fun _ _ => by simp [sh3, sh2, sh1, lA, lc]⟩
theorem runLt (vs : List ViewV) (hn : vs.length < 1000000) : ∀ rest v0 O, lstR vs rest = some (v0, O) → RowRun Try.f67 code67m 32 vs rest v0 O := fun rest0 v0 O h => by
  unfold lstR at h
  split at h
  case h_2 => cases h
  rename_i v'
  obtain ⟨v, hv, h2⟩ := Option.map_eq_some_iff.1 h
  obtain rfl := unL_some hv
  cases h2
  refine ⟨.inl rfl, rfl, (by intro r hr; have e : r = lA v := (by simpa using hr); rw [e]; exact stay_lA _), by simp, fun f o c W ho hrow hfl => ?_⟩
  have hkk := kk_len hfl
  have fx2 : ∀ r : List Blk, ∀ i, i < 2 → ∀ o', (o :: lbx v :: r)[i]? = some o' → Fixed 0 o' := fixOO ho (lbx_inert v)
  refine FRwp.seq (Q1 := fun e st => e = .normal ∧ ∃ g, st = stOf 32 g [(0, vS f 0 vs.length c), (3, pb 1 0)] [o, lbx v]) ?_ ?_ (fun x st hne hq => absurd hq.1 hne)
  · cases f with
    | true => exact FRwp.pieceN E67m_ok follows 60 1 _ _ _ _ (ltA_0 true o vs.length c 0 0 zv v (fun _ => nilS)) Met.nil MetH.nil MetE.nil sk67ma rfl rfl (fix11 ho _) fun g => ⟨rfl, g, rfl⟩
    | false =>
      obtain ⟨rfl, rfl⟩ := hfl rfl
      exact FRwp.pieceN E67m_ok follows 60 1 _ _ _ _ (ltAn_0 true .dead 0 c 0 0 zv v (fun _ => nilS)) Met.nil MetH.nil MetE.nil sk67ma rfl rfl (fix11 rfl _) fun g => ⟨rfl, g, rfl⟩
  rintro st ⟨-, g, rfl⟩
  refine FRwp.seq (Q1 := fun e st => e = .normal ∧ ∃ g, st = stOf 32 g [(0, vS f 0 vs.length c), (3, pb 1 0), (5, .int .i64 1099511627776)] [o, lbx v]) (FRwp.pieceN E67m_ok follows 60 2 _ _ _ _ (ltB_0 f o vs.length c 0 0 zv v g) Met.nil MetH.nil MetE.nil sk67mb rfl rfl (fx2 _) fun g => ⟨rfl, g, rfl⟩) ?_ (fun x st hne hq => absurd hq.1 hne)
  rintro st ⟨-, g, rfl⟩
  let J : Int → Nat → (Nat → Value) → St := fun k i g => stOf 32 g [(3, pb 1 0), (5, .int .i64 k), (8, vS f 0 vs.length c), (9, iN (kk f vs.length)), (10, iN i)] [o, lbx v]
  refine FRwp.seq (Q1 := fun e st => e = .normal ∧ ∃ g, st = stOf 32 g [(5, .int .i64 (lstV v vs))] []) ?_ ?_ (fun x st hne hq => absurd hq.1 hne)
  rotate_left
  · rintro st ⟨-, g, rfl⟩
    exact FRwp.pieceN E67m_ok follows 60 0 _ _ _ _ (ltZ_0 false .dead 0 0 0 (lstV v vs) zv v g) Met.nil MetH.nil MetE.nil sk67mz rfl rfl (noFix _) fun g => ⟨.inr rfl, rfl, q67m _ _ g, (fun B hB => by cases hB)⟩
  refine FRwp.seq (Q1 := fun e st => e = .normal ∧ ∃ g, st = J 1099511627776 0 g) (FRwp.pieceN E67m_ok follows 60 2 _ _ _ _ (ltC_0 f o vs.length c 0 1099511627776 zv v g) Met.nil MetH.nil MetE.nil sk67mc rfl rfl (fx2 _) fun g => ⟨rfl, g, rfl⟩) ?_ (fun x st hne hq => absurd hq.1 hne)
  rintro st ⟨-, g, rfl⟩
  refine fold_loop' (vs := vs) (lstS v) 1099511627776 J (fun k st => ∃ g, st = stOf 32 g [(5, .int .i64 k)] []) (fun k g hf => ?_) (fun i x k g hx hlt hf => ?_) g
  · exact FRwp.pieceN E67m_ok follows 60 0 _ _ _ _ (ltLx_0 f o vs.length c vs.length k zv v g) (Met.cons (ltT (a := vs.length) (b := kk f vs.length) (r := false) (by rw [hkk]; simp)) Met.nil) MetH.nil MetE.nil sk67mL rfl rfl (noFix _) fun g => ⟨rfl, g, rfl⟩
  have hft : f = true := by cases f with
    | true => rfl
    | false => rw [(hfl rfl).1] at hlt; simp at hlt
  subst hft
  have hr : ∃ ty ro, o = .cells ty (vrow vs) ro := by
    rcases hrow with h | h
    · rw [h] at hlt; simp at hlt
    · exact h
  have b0 : ∀ r : List Blk, RowAt (heapOf (o :: r) hp0) 0 vs := fun r => rowAt0 hr
  have hw : (some (Value.int .i64 (wrapF .i64 (Int.ofNat i + Int.ofNat 1)))) = some (iN (i + 1)) := wrap_up (by omega)
  have hl := ltT (decide_eq_true hlt)
  have hv : ∀ r : List Blk, aLoad Try.prog (heapOf (o :: lbx v :: r) hp0).get 42 (pb 1 0) = some (lA v) := fun r => lbx_load (by rw [heapOf0_get]; rfl)
  cases hxn : x.n with
  | true =>
    have e : lstS v k x = k := by unfold lstS; rw [hxn]; rfl
    rw [e]
    exact FRwp.pieceN E67m_ok follows 60 2 _ _ _ _ (ltL_2 true o vs.length c i k x v g) (by repeat' (first | exact Go.Proofs.Ytgeoommlmddgpaa.AI.Met.nil | apply Go.Proofs.Ytgeoommlmddgpaa.AI.Met.cons | exact hw | exact hl | exact LtA.vload_ok (b0 _) hx | exact LtA.vidx_ok hlt | exact bool_ok (by rw [hxn]; rfl) | exact hv _)) MetH.nil MetE.nil sk67mL rfl rfl (fx2 _) fun g => ⟨rfl, g, rfl⟩
  | false =>
    cases he : (lvV x == v) with
    | true =>
      have e : lstS v k x = if x.d < k then x.d else k := by unfold lstS; rw [hxn, he]; rfl
      rw [e]
      exact FRwp.pieceN E67m_ok follows 60 2 _ _ _ _ (ltL_0 true o vs.length c i k x v g) (by repeat' (first | exact Go.Proofs.Ytgeoommlmddgpaa.AI.Met.nil | apply Go.Proofs.Ytgeoommlmddgpaa.AI.Met.cons | exact hw | exact hl | exact LtA.vload_ok (b0 _) hx | exact LtA.vidx_ok hlt | exact bool_ok (by rw [hxn]; rfl) | exact hv _ | exact (eqLev (lvV x) v).trans (bool_ok he))) MetH.nil MetE.nil sk67mL rfl rfl (fx2 _) fun g => ⟨rfl, g, rfl⟩
    | false =>
      have e : lstS v k x = k := by unfold lstS; rw [hxn, he]; rfl
      rw [e]
      exact FRwp.pieceN E67m_ok follows 60 2 _ _ _ _ (ltL_1 true o vs.length c i k x v g) (by repeat' (first | exact Go.Proofs.Ytgeoommlmddgpaa.AI.Met.nil | apply Go.Proofs.Ytgeoommlmddgpaa.AI.Met.cons | exact hw | exact hl | exact LtA.vload_ok (b0 _) hx | exact LtA.vidx_ok hlt | exact bool_ok (by rw [hxn]; rfl) | exact hv _ | exact (eqLev (lvV x) v).trans (bool_ok he))) MetH.nil MetE.nil sk67mL rfl rfl (fx2 _) fun g => ⟨rfl, g, rfl⟩
noncomputable def G67m : HeapFn := toldR lstR
theorem hkG67m : CallGoal Try.prog 67 G67m := toldR_goal Try.func67 body67m (by kernel_rfl) ntmps67m fun vs hn => runLt vs hn
theorem G67m_of {vs : List ViewV} {s : Value} {hp : Hp} (v : Lev) (h : TN vs s hp) (hn : vs.length < 1000000) : G67m [s, lA v] hp = some (.int .i64 (lstV v vs), heapOf [.dead] hp) := toldR_none (A := lstR) h hn rfl rfl
end Go.Proofs.Ytgeoommlmddgpaa.LtL
namespace Go.Proofs.Ytgeoommlmddgpaa.LtL
open Go Go.Proofs Go.Proofs.Ytgeoommlmddgpaa.AI Go.RowKit Go.Proofs.Ytgeoommlmddgpaa.Sort Go.Proofs.Ytgeoommlmddgpaa.LtA
abbrev Res := ViewV × Int × Int
def resV (r : Res) : Value := .tuple #[hcA r.1, .int .i64 r.2.1, .int .i64 r.2.2]
theorem resV_stay (r : Res) : stayV (resV r) := ⟨rfl, fun s => by simp [mv3, mv2, mv1, resV, hcA]⟩
theorem resV_own {own : ViewV} {b : Bool} (h : own.n = b) : Value.tuple #[.agg #[.bool b, .int .i64 own.t, .int .i64 own.o, .int .i64 own.r, .int .i64 own.d, .int .i64 own.i], iN 0, iN 0] = resV (own, 0, 0) := by rw [← h]; rfl
def nullV (me : Int) : ViewV := ⟨0, true, 0, 0, 0, 0, me⟩
def atC (c t o r d i : Int) : Res := bif okH false t o r d i then (⟨0, false, t, o, r, d, i⟩, c, 0) else (zH, 0, 1)
def caseT (own : ViewV) (k : Nat) (top : Lev) (lst now : Int) (lost : Bool) : Res :=
  bif lost then atC 1 now own.i (Int.ofNat 0) (Int.ofNat 0) own.i else
  bif decide (Int.ofNat k > Int.ofNat 1) then atC 2 top.1 top.2.1 top.2.2 (wrapF .i64 (lst - Int.ofNat 1)) own.i else
  bif top.2.2 == Int.ofNat 0 then atC 3 top.1 top.2.1 (Int.ofNat 1) (Int.ofNat 0) own.i else
  bif top.2.1 == own.i then (nullV own.i, 4, 0) else atC 5 now own.i (Int.ofNat 0) (Int.ofNat 0) own.i
def caseW (rb dn : Bool) (own : ViewV) (ls : List Lev) (lst : Lev → Int) (now : Int) (lost : Bool) : Res :=
  bif !rb then (zH, 0, 1) else bif decide (now < Int.ofNat 0) then (zH, 0, 1) else bif decide (now > Int.ofNat 4611686018427387903) then (zH, 0, 1) else
  bif own.n then (own, 0, 0) else bif dn then (own, 0, 0) else
  match ls.getLast? with
  | none => (nullV own.i, 6, 0)
  | some top => caseT own ls.length top (lst top) now lost
def caseV (rb dn : Bool) (own : ViewV) (ls : List Lev) (lst : Lev → Int) (now : Int) (lost : Bool) : Res :=
  bif !okH own.n own.t own.o own.r own.d own.i then (zH, 0, 1) else caseW rb dn own ls lst now lost
theorem caseV_ok {rb dn lost : Bool} {own : ViewV} {ls : List Lev} {lst : Lev → Int} {now : Int} (h : okH own.n own.t own.o own.r own.d own.i = true) : caseV rb dn own ls lst now lost = caseW rb dn own ls lst now lost := by
  unfold caseV; rw [h]; rfl
theorem caseV_no {rb dn lost : Bool} {own : ViewV} {ls : List Lev} {lst : Lev → Int} {now : Int} (h : okH own.n own.t own.o own.r own.d own.i = false) : caseV rb dn own ls lst now lost = (zH, 0, 1) := by
  unfold caseV; rw [h]; rfl
def caseR (own : ViewV) (vs : List ViewV) (now : Int) (lost : Bool) : Res := caseV (rightB vs) (!(idsD 1 own vs).isEmpty) own (dlev (levsV vs)) (fun y => lstV y vs) now lost
theorem lidxh {b c m i : Nat} (h : i < m) : fstV ((aIndexAddr Try.prog 34 (.slice (some ⟨b, 0, none⟩) m c) (iN i)).map fun v => (v, none)) = some (pb b (i * 3)) := by
  have h1 : (0 : Int) ≤ Int.ofNat i ∧ Int.ofNat i < (m : Int) := ⟨Int.natCast_nonneg i, by simpa using h⟩
  simp only [aIndexAddr, iN, Try.underlying34, sizeL]
  rw [if_pos h1]
  simp [fstV, pb]
theorem pos1 (m : Nat) : decide ((Int.ofNat (m + 1)) > (Int.ofNat 0)) = true := decide_eq_true (by simp only [Int.ofNat_eq_natCast]; omega)
theorem nz1 (m : Nat) : (!((Int.ofNat (m + 1)) == (Int.ofNat 0))) = true := by
  have : (Int.ofNat (m + 1) == Int.ofNat 0) = false := beq_false_of_ne (by simp only [Int.ofNat_eq_natCast]; omega)
  rw [this]; rfl
def caseA (vs : List ViewV) : List Value → Option Value
  | [a, .int .i64 now, .bool lost] => (unH a).map fun own => resV (caseR own vs now lost)
  | _ => none
theorem caseV_lst {rb dn lost : Bool} {own : ViewV} {ls : List Lev} {lst : Lev → Int} {now : Int} {top : Lev} (h : ls.getLast? = some top) : caseV rb dn own ls lst now lost = caseV rb dn own ls (fun _ => lst top) now lost := by
  unfold caseV caseW; rw [h]
theorem unH_hcA {own : ViewV} (h0 : own.id = 0) : unH (hcA own) = some own := by
  obtain ⟨a, b, c, d, e, f, g⟩ := own
  simp only at h0
  subst h0; rfl
noncomputable def ECp : Ext := extG (extH Try.prog [(52, g15)]) [(21, GLv), (24, G18M), (15, G19), (67, G67m)]
theorem ECp_ok : ExtOk Try.prog ECp := extG_ok (extH_ok (.cons hk15 .nil)) (.cons hkLv (.cons hkG18M (.cons hkG19 (.cons hkG67m .nil))))
noncomputable def fbCp : Code := (Try.f31.body).getD .skip
theorem bodyCp : Try.f31.body = some fbCp := by kernel_rfl
theorem ntCp : Try.f31.ntmps = 105 := by kernel_rfl
theorem sCp : codeSafe Try.prog 105 fbCp = true := by kernel_rfl
abbrev CpLDT (f : Bool) (o : Blk) (n c m q : Nat) (now lst : Int) (lost : Bool) (own : ViewV) (top : Lev) (ls : List Lev) (ds : List Int) (Q : Value → List Blk → List Nat → List Blk → Prop) : Prop := (((chk own.n own.t own.o own.r own.d own.i) != (Int.ofNat 0)) = true → Q (.tuple #[.agg #[.bool false, iN 0, iN 0, iN 0, iN 0, iN 0], iN 0, iN 1]) [o] [] []) ∧ (((chk own.n own.t own.o own.r own.d own.i) != (Int.ofNat 0)) = false → HT (G18M [vS f 0 n c]) (heapOf [o, .dead, .cells 24 [.bool own.n, .int .i64 own.t, .int .i64 own.o, .int .i64 own.r, .int .i64 own.d, .int .i64 own.i] false, .cells 22 [vS f 0 n c] false, .cells 3 [.int .i64 now] false, .cells 4 [.bool lost] false, .cells 24 [.bool false, iN 0, iN 0, iN 0, iN 0, iN 0] false] hp0) (iN 0) [.dead] ∧ (((decide (now < (Int.ofNat 0))) = true → Q (.tuple #[.agg #[.bool false, iN 0, iN 0, iN 0, iN 0, iN 0], iN 0, iN 1]) [o] [] []) ∧ ((decide (now < (Int.ofNat 0))) = false → ((decide (now > (Int.ofNat 4611686018427387903))) = true → Q (.tuple #[.agg #[.bool false, iN 0, iN 0, iN 0, iN 0, iN 0], iN 0, iN 1]) [o] [] []) ∧ ((decide (now > (Int.ofNat 4611686018427387903))) = false → HT (GLv [vS f 0 n c]) (heapOf [o, .dead, .cells 24 [.bool own.n, .int .i64 own.t, .int .i64 own.o, .int .i64 own.r, .int .i64 own.d, .int .i64 own.i] false, .cells 22 [vS f 0 n c] false, .cells 3 [.int .i64 now] false, .cells 4 [.bool lost] false, .cells 24 [.bool false, iN 0, iN 0, iN 0, iN 0, iN 0] false, .dead, .cells 3 [.int .i64 own.i] false] hp0) (.slice (some ⟨9, 0, none⟩) (m + 1) 11) [(ownL ls), .dead] ∧ ((some (.bool (decide ((Int.ofNat (m + 1)) > (Int.ofNat 0)))) : Option Value) = some (.bool true) ∧ ((some (.int .i64 (wrapF .i64 (Int.ofNat (m + 1) - Int.ofNat 1))) : Option Value) = some (iN m) ∧ ((fstV ((aIndexAddr Try.prog 34 (.slice (some ⟨9, 0, none⟩) (m + 1) 11) (iN m)).map fun v => (v, none)) : Option Value) = some (pb 9 (m * 3)) ∧ ((aLoad Try.prog (heapOf [o, .dead, .cells 24 [.bool own.n, .int .i64 own.t, .int .i64 own.o, .int .i64 own.r, .int .i64 own.d, .int .i64 own.i] false, .cells 22 [vS f 0 n c] false, .cells 3 [.int .i64 now] false, .cells 4 [.bool lost] false, .cells 24 [.bool false, iN 0, iN 0, iN 0, iN 0, iN 0] false, .dead, .cells 3 [.int .i64 own.i] false, (ownL ls), .dead, .cells 34 [.slice (some ⟨9, 0, none⟩) (m + 1) 11] false, .cells 42 [iN 0, iN 0, iN 0] false] hp0).get 42 (pb 9 (m * 3)) : Option Value) = some (lA top) ∧ ((own.n = true → (some (iN 0) : Option Value) = some (iN 0) ∧ (Q (.tuple #[.agg #[.bool own.n, .int .i64 own.t, .int .i64 own.o, .int .i64 own.r, .int .i64 own.d, .int .i64 own.i], iN 0, iN 0]) [o] [] [])) ∧ (own.n = false → HT (G19 [vS f 0 n c, .agg #[.bool own.n, .int .i64 own.t, .int .i64 own.o, .int .i64 own.r, .int .i64 own.d, .int .i64 own.i]]) (heapOf [o, .dead, .cells 24 [.bool own.n, .int .i64 own.t, .int .i64 own.o, .int .i64 own.r, .int .i64 own.d, .int .i64 own.i] false, .cells 22 [vS f 0 n c] false, .cells 3 [.int .i64 now] false, .cells 4 [.bool lost] false, .cells 24 [.bool false, iN 0, iN 0, iN 0, iN 0, iN 0] false, .dead, .cells 3 [.int .i64 own.i] false, (ownL ls), .dead, .cells 34 [.slice (some ⟨9, 0, none⟩) (m + 1) 11] false, .cells 42 [.int .i64 top.1, .int .i64 top.2.1, .int .i64 top.2.2] false, .cells 42 [.int .i64 top.1, .int .i64 top.2.1, iN 1] false, .cells 74 [iN 0, .func (.func 62) #[] #[pb 2 0, pb 3 0], .func (.func 58) #[] #[pb 2 0], iN 6, .func (.func 63) #[] #[pb 11 0], .func (.func 59) #[] #[pb 8 0], iN 1, .func (.func 64) #[] #[pb 5 0], .func (.func 60) #[] #[pb 4 0, pb 8 0], iN 2, .func (.func 65) #[] #[pb 11 0], .func (.func 66) #[] #[pb 12 0, pb 3 0, pb 8 0], iN 3, .func (.func 68) #[] #[pb 12 0], .func (.func 69) #[] #[pb 13 0, pb 8 0], iN 4, .func (.func 70) #[] #[pb 12 0, pb 8 0], .func (.func 59) #[] #[pb 8 0], iN 5, .func (.func 61) #[] #[], .func (.func 60) #[] #[pb 4 0, pb 8 0]] false, .cells 74 [iN 0, .func (.func 62) #[] #[pb 2 0, pb 3 0], .func (.func 58) #[] #[pb 2 0]] false] hp0) (.slice (some ⟨16, 0, none⟩) (q + 1) 4) [(ownI ds), .dead] ∧ ((some (.bool (decide ((Int.ofNat (q + 1)) > (Int.ofNat 0)))) : Option Value) = some (.bool true) ∧ ((some (iN 0) : Option Value) = some (iN 0) ∧ (Q (.tuple #[.agg #[.bool own.n, .int .i64 own.t, .int .i64 own.o, .int .i64 own.r, .int .i64 own.d, .int .i64 own.i], iN 0, iN 0]) [o] [] [])))))))))))))
theorem CpLD_e (f : Bool) (o : Blk) (n c m q : Nat) (now lst : Int) (lost : Bool) (own : ViewV) (top : Lev) (ls : List Lev) (ds : List Int) (Q : Value → List Blk → List Nat → List Blk → Prop) : CpLDT f o n c m q now lst lost own top ls ds Q = RF Try.prog ECp Try.f31 300 fbCp ⟨tmsOf [hcA own, vS f 0 n c, .int .i64 now, .bool lost] 0 .leaf, heapOf [o, .dead] hp0, []⟩ (.b 9 (.stop 1 [] []) (.h 12 (iN 0) [.dead] (.b 17 (.stop 1 [] []) (.b 21 (.stop 1 [] []) (.h 28 (.slice (some ⟨9, 0, none⟩) (m + 1) 11) [(ownL ls), .dead] (.v 36 (.bool true) (.v 40 (iN m) (.v 41 (pb 9 (m * 3)) (.v 42 (lA top) (.b 90 (.stop 1 [] []) (.h 94 (.slice (some ⟨16, 0, none⟩) (q + 1) 4) [(ownI ds), .dead] (.v 96 (.bool true) (.stop 1 [] []))))))))))))) Q := by cases f <;> kernel_rfl
abbrev CpLT (f : Bool) (o : Blk) (n c m q : Nat) (now lst : Int) (lost : Bool) (own : ViewV) (top : Lev) (ls : List Lev) (ds : List Int) (Q : Value → List Blk → List Nat → List Blk → Prop) : Prop := (((chk own.n own.t own.o own.r own.d own.i) != (Int.ofNat 0)) = true → Q (.tuple #[.agg #[.bool false, iN 0, iN 0, iN 0, iN 0, iN 0], iN 0, iN 1]) [o] [] []) ∧ (((chk own.n own.t own.o own.r own.d own.i) != (Int.ofNat 0)) = false → HT (G18M [vS f 0 n c]) (heapOf [o, .dead, .cells 24 [.bool own.n, .int .i64 own.t, .int .i64 own.o, .int .i64 own.r, .int .i64 own.d, .int .i64 own.i] false, .cells 22 [vS f 0 n c] false, .cells 3 [.int .i64 now] false, .cells 4 [.bool lost] false, .cells 24 [.bool false, iN 0, iN 0, iN 0, iN 0, iN 0] false] hp0) (iN 0) [.dead] ∧ (((decide (now < (Int.ofNat 0))) = true → Q (.tuple #[.agg #[.bool false, iN 0, iN 0, iN 0, iN 0, iN 0], iN 0, iN 1]) [o] [] []) ∧ ((decide (now < (Int.ofNat 0))) = false → ((decide (now > (Int.ofNat 4611686018427387903))) = true → Q (.tuple #[.agg #[.bool false, iN 0, iN 0, iN 0, iN 0, iN 0], iN 0, iN 1]) [o] [] []) ∧ ((decide (now > (Int.ofNat 4611686018427387903))) = false → HT (GLv [vS f 0 n c]) (heapOf [o, .dead, .cells 24 [.bool own.n, .int .i64 own.t, .int .i64 own.o, .int .i64 own.r, .int .i64 own.d, .int .i64 own.i] false, .cells 22 [vS f 0 n c] false, .cells 3 [.int .i64 now] false, .cells 4 [.bool lost] false, .cells 24 [.bool false, iN 0, iN 0, iN 0, iN 0, iN 0] false, .dead, .cells 3 [.int .i64 own.i] false] hp0) (.slice (some ⟨9, 0, none⟩) (m + 1) 11) [(ownL ls), .dead] ∧ ((some (.bool (decide ((Int.ofNat (m + 1)) > (Int.ofNat 0)))) : Option Value) = some (.bool true) ∧ ((some (.int .i64 (wrapF .i64 (Int.ofNat (m + 1) - Int.ofNat 1))) : Option Value) = some (iN m) ∧ ((fstV ((aIndexAddr Try.prog 34 (.slice (some ⟨9, 0, none⟩) (m + 1) 11) (iN m)).map fun v => (v, none)) : Option Value) = some (pb 9 (m * 3)) ∧ ((aLoad Try.prog (heapOf [o, .dead, .cells 24 [.bool own.n, .int .i64 own.t, .int .i64 own.o, .int .i64 own.r, .int .i64 own.d, .int .i64 own.i] false, .cells 22 [vS f 0 n c] false, .cells 3 [.int .i64 now] false, .cells 4 [.bool lost] false, .cells 24 [.bool false, iN 0, iN 0, iN 0, iN 0, iN 0] false, .dead, .cells 3 [.int .i64 own.i] false, (ownL ls), .dead, .cells 34 [.slice (some ⟨9, 0, none⟩) (m + 1) 11] false, .cells 42 [iN 0, iN 0, iN 0] false] hp0).get 42 (pb 9 (m * 3)) : Option Value) = some (lA top) ∧ ((own.n = true → (some (iN 0) : Option Value) = some (iN 0) ∧ (Q (.tuple #[.agg #[.bool own.n, .int .i64 own.t, .int .i64 own.o, .int .i64 own.r, .int .i64 own.d, .int .i64 own.i], iN 0, iN 0]) [o] [] [])) ∧ (own.n = false → HT (G19 [vS f 0 n c, .agg #[.bool own.n, .int .i64 own.t, .int .i64 own.o, .int .i64 own.r, .int .i64 own.d, .int .i64 own.i]]) (heapOf [o, .dead, .cells 24 [.bool own.n, .int .i64 own.t, .int .i64 own.o, .int .i64 own.r, .int .i64 own.d, .int .i64 own.i] false, .cells 22 [vS f 0 n c] false, .cells 3 [.int .i64 now] false, .cells 4 [.bool lost] false, .cells 24 [.bool false, iN 0, iN 0, iN 0, iN 0, iN 0] false, .dead, .cells 3 [.int .i64 own.i] false, (ownL ls), .dead, .cells 34 [.slice (some ⟨9, 0, none⟩) (m + 1) 11] false, .cells 42 [.int .i64 top.1, .int .i64 top.2.1, .int .i64 top.2.2] false, .cells 42 [.int .i64 top.1, .int .i64 top.2.1, iN 1] false, .cells 74 [iN 0, .func (.func 62) #[] #[pb 2 0, pb 3 0], .func (.func 58) #[] #[pb 2 0], iN 6, .func (.func 63) #[] #[pb 11 0], .func (.func 59) #[] #[pb 8 0], iN 1, .func (.func 64) #[] #[pb 5 0], .func (.func 60) #[] #[pb 4 0, pb 8 0], iN 2, .func (.func 65) #[] #[pb 11 0], .func (.func 66) #[] #[pb 12 0, pb 3 0, pb 8 0], iN 3, .func (.func 68) #[] #[pb 12 0], .func (.func 69) #[] #[pb 13 0, pb 8 0], iN 4, .func (.func 70) #[] #[pb 12 0, pb 8 0], .func (.func 59) #[] #[pb 8 0], iN 5, .func (.func 61) #[] #[], .func (.func 60) #[] #[pb 4 0, pb 8 0]] false, .cells 74 [iN 0, .func (.func 62) #[] #[pb 2 0, pb 3 0], .func (.func 58) #[] #[pb 2 0]] false] hp0) (nilS) [.dead, .dead] ∧ ((some (.bool (!((Int.ofNat (m + 1)) == (Int.ofNat 0)))) : Option Value) = some (.bool true) ∧ (((!lost) = true → ((!(decide ((Int.ofNat (m + 1)) > (Int.ofNat 1)))) = true → ((!(top.2.2 == (Int.ofNat 0))) = true → ((!(top.2.1 == own.i)) = true → (((chk false now own.i (Int.ofNat 0) (Int.ofNat 0) own.i) != (Int.ofNat 0)) = true → (some (.bool ((chk false now own.i (Int.ofNat 0) (Int.ofNat 0) own.i) != (Int.ofNat 0))) : Option Value) = some (.bool true) ∧ (Q (.tuple #[.agg #[.bool false, iN 0, iN 0, iN 0, iN 0, iN 0], iN 0, .int .i64 (chk false now own.i (Int.ofNat 0) (Int.ofNat 0) own.i)]) [o] [] [])) ∧ (((chk false now own.i (Int.ofNat 0) (Int.ofNat 0) own.i) != (Int.ofNat 0)) = false → (some (iN 5) : Option Value) = some (iN 5) ∧ (Q (.tuple #[.agg #[.bool false, .int .i64 now, .int .i64 own.i, iN 0, iN 0, .int .i64 own.i], iN 5, iN 0]) [o] [] []))) ∧ ((!(top.2.1 == own.i)) = false → (some (iN 4) : Option Value) = some (iN 4) ∧ (Q (.tuple #[.agg #[.bool true, iN 0, iN 0, iN 0, iN 0, .int .i64 own.i], iN 4, iN 0]) [o] [] []))) ∧ ((!(top.2.2 == (Int.ofNat 0))) = false → (((chk false top.1 top.2.1 (Int.ofNat 1) (Int.ofNat 0) own.i) != (Int.ofNat 0)) = true → (some (.bool ((chk false top.1 top.2.1 (Int.ofNat 1) (Int.ofNat 0) own.i) != (Int.ofNat 0))) : Option Value) = some (.bool true) ∧ (Q (.tuple #[.agg #[.bool false, iN 0, iN 0, iN 0, iN 0, iN 0], iN 0, .int .i64 (chk false top.1 top.2.1 (Int.ofNat 1) (Int.ofNat 0) own.i)]) [o] [] [])) ∧ (((chk false top.1 top.2.1 (Int.ofNat 1) (Int.ofNat 0) own.i) != (Int.ofNat 0)) = false → (some (iN 3) : Option Value) = some (iN 3) ∧ (Q (.tuple #[.agg #[.bool false, .int .i64 top.1, .int .i64 top.2.1, iN 1, iN 0, .int .i64 own.i], iN 3, iN 0]) [o] [] [])))) ∧ ((!(decide ((Int.ofNat (m + 1)) > (Int.ofNat 1)))) = false → HT (G67m [vS f 0 n c, .agg #[.int .i64 top.1, .int .i64 top.2.1, .int .i64 top.2.2]]) (heapOf [o, .dead, .cells 24 [.bool own.n, .int .i64 own.t, .int .i64 own.o, .int .i64 own.r, .int .i64 own.d, .int .i64 own.i] false, .cells 22 [vS f 0 n c] false, .cells 3 [.int .i64 now] false, .cells 4 [.bool lost] false, .cells 24 [.bool false, iN 0, iN 0, iN 0, iN 0, iN 0] false, .dead, .cells 3 [.int .i64 own.i] false, (ownL ls), .dead, .cells 34 [.slice (some ⟨9, 0, none⟩) (m + 1) 11] false, .cells 42 [.int .i64 top.1, .int .i64 top.2.1, .int .i64 top.2.2] false, .cells 42 [.int .i64 top.1, .int .i64 top.2.1, iN 1] false, .cells 74 [iN 0, .func (.func 62) #[] #[pb 2 0, pb 3 0], .func (.func 58) #[] #[pb 2 0], iN 6, .func (.func 63) #[] #[pb 11 0], .func (.func 59) #[] #[pb 8 0], iN 1, .func (.func 64) #[] #[pb 5 0], .func (.func 60) #[] #[pb 4 0, pb 8 0], iN 2, .func (.func 65) #[] #[pb 11 0], .func (.func 66) #[] #[pb 12 0, pb 3 0, pb 8 0], iN 3, .func (.func 68) #[] #[pb 12 0], .func (.func 69) #[] #[pb 13 0, pb 8 0], iN 4, .func (.func 70) #[] #[pb 12 0, pb 8 0], .func (.func 59) #[] #[pb 8 0], iN 5, .func (.func 61) #[] #[], .func (.func 60) #[] #[pb 4 0, pb 8 0]] false, .cells 74 [iN 0, .func (.func 62) #[] #[pb 2 0, pb 3 0], .func (.func 58) #[] #[pb 2 0]] false, .dead, .dead, .cells 74 [iN 6, .func (.func 63) #[] #[pb 11 0], .func (.func 59) #[] #[pb 8 0]] false, .cells 74 [iN 1, .func (.func 64) #[] #[pb 5 0], .func (.func 60) #[] #[pb 4 0, pb 8 0]] false, .cells 74 [iN 2, .func (.func 65) #[] #[pb 11 0], .func (.func 66) #[] #[pb 12 0, pb 3 0, pb 8 0]] false, .cells 24 [.bool false, iN 0, iN 0, iN 0, iN 0, iN 0] false] hp0) (.int .i64 lst) [.dead] ∧ ((((chk false top.1 top.2.1 top.2.2 (wrapF .i64 (lst - (Int.ofNat 1))) own.i) != (Int.ofNat 0)) = true → (some (.agg #[.int .i64 top.1, .int .i64 top.2.1, .int .i64 top.2.2]) : Option Value) = some (.agg #[.int .i64 top.1, .int .i64 top.2.1, .int .i64 top.2.2]) ∧ ((some (.int .i64 own.i) : Option Value) = some (.int .i64 own.i) ∧ ((some (.bool ((chk false top.1 top.2.1 top.2.2 (wrapF .i64 (lst - (Int.ofNat 1))) own.i) != (Int.ofNat 0))) : Option Value) = some (.bool true) ∧ (Q (.tuple #[.agg #[.bool false, iN 0, iN 0, iN 0, iN 0, iN 0], iN 0, .int .i64 (chk false top.1 top.2.1 top.2.2 (wrapF .i64 (lst - (Int.ofNat 1))) own.i)]) [o] [] [])))) ∧ (((chk false top.1 top.2.1 top.2.2 (wrapF .i64 (lst - (Int.ofNat 1))) own.i) != (Int.ofNat 0)) = false → (some (.agg #[.int .i64 top.1, .int .i64 top.2.1, .int .i64 top.2.2]) : Option Value) = some (.agg #[.int .i64 top.1, .int .i64 top.2.1, .int .i64 top.2.2]) ∧ ((some (.int .i64 own.i) : Option Value) = some (.int .i64 own.i) ∧ ((some (iN 2) : Option Value) = some (iN 2) ∧ (Q (.tuple #[.agg #[.bool false, .int .i64 top.1, .int .i64 top.2.1, .int .i64 top.2.2, .int .i64 (wrapF .i64 (lst - (Int.ofNat 1))), .int .i64 own.i], iN 2, iN 0]) [o] [] []))))))) ∧ ((!lost) = false → (((chk false now own.i (Int.ofNat 0) (Int.ofNat 0) own.i) != (Int.ofNat 0)) = true → (some (.bool ((chk false now own.i (Int.ofNat 0) (Int.ofNat 0) own.i) != (Int.ofNat 0))) : Option Value) = some (.bool true) ∧ (Q (.tuple #[.agg #[.bool false, iN 0, iN 0, iN 0, iN 0, iN 0], iN 0, .int .i64 (chk false now own.i (Int.ofNat 0) (Int.ofNat 0) own.i)]) [o] [] [])) ∧ (((chk false now own.i (Int.ofNat 0) (Int.ofNat 0) own.i) != (Int.ofNat 0)) = false → (some (iN 1) : Option Value) = some (iN 1) ∧ (Q (.tuple #[.agg #[.bool false, .int .i64 now, .int .i64 own.i, iN 0, iN 0, .int .i64 own.i], iN 1, iN 0]) [o] [] [])))))))))))))))
theorem CpL_e (f : Bool) (o : Blk) (n c m q : Nat) (now lst : Int) (lost : Bool) (own : ViewV) (top : Lev) (ls : List Lev) (ds : List Int) (Q : Value → List Blk → List Nat → List Blk → Prop) : CpLT f o n c m q now lst lost own top ls ds Q = RF Try.prog ECp Try.f31 300 fbCp ⟨tmsOf [hcA own, vS f 0 n c, .int .i64 now, .bool lost] 0 .leaf, heapOf [o, .dead] hp0, []⟩ (.b 9 (.stop 1 [] []) (.h 12 (iN 0) [.dead] (.b 17 (.stop 1 [] []) (.b 21 (.stop 1 [] []) (.h 28 (.slice (some ⟨9, 0, none⟩) (m + 1) 11) [(ownL ls), .dead] (.v 36 (.bool true) (.v 40 (iN m) (.v 41 (pb 9 (m * 3)) (.v 42 (lA top) (.b 90 (.stop 1 [] []) (.h 94 (nilS) [.dead, .dead] (.v 115 (.bool true) (.b 129 (.b 145 (.b 161 (.b 178 (.b 225 (.v 245 (.bool true) (.stop 1 [] [])) (.stop 1 [] [])) (.stop 1 [] [])) (.b 188 (.v 204 (.bool true) (.stop 1 [] [])) (.stop 1 [] []))) (.h 154 (.int .i64 lst) [.dead] (.b 176 (.v 192 (.bool true) (.stop 1 [] [])) (.stop 1 [] [])))) (.b 163 (.v 183 (.bool true) (.stop 1 [] [])) (.stop 1 [] []))))))))))))))) Q := by cases f <;> kernel_rfl
abbrev CpDT (f : Bool) (o : Blk) (n c m q : Nat) (now lst : Int) (lost : Bool) (own : ViewV) (top : Lev) (ls : List Lev) (ds : List Int) (Q : Value → List Blk → List Nat → List Blk → Prop) : Prop := (((chk own.n own.t own.o own.r own.d own.i) != (Int.ofNat 0)) = true → Q (.tuple #[.agg #[.bool false, iN 0, iN 0, iN 0, iN 0, iN 0], iN 0, iN 1]) [o] [] []) ∧ (((chk own.n own.t own.o own.r own.d own.i) != (Int.ofNat 0)) = false → HT (G18M [vS f 0 n c]) (heapOf [o, .dead, .cells 24 [.bool own.n, .int .i64 own.t, .int .i64 own.o, .int .i64 own.r, .int .i64 own.d, .int .i64 own.i] false, .cells 22 [vS f 0 n c] false, .cells 3 [.int .i64 now] false, .cells 4 [.bool lost] false, .cells 24 [.bool false, iN 0, iN 0, iN 0, iN 0, iN 0] false] hp0) (iN 0) [.dead] ∧ (((decide (now < (Int.ofNat 0))) = true → Q (.tuple #[.agg #[.bool false, iN 0, iN 0, iN 0, iN 0, iN 0], iN 0, iN 1]) [o] [] []) ∧ ((decide (now < (Int.ofNat 0))) = false → ((decide (now > (Int.ofNat 4611686018427387903))) = true → Q (.tuple #[.agg #[.bool false, iN 0, iN 0, iN 0, iN 0, iN 0], iN 0, iN 1]) [o] [] []) ∧ ((decide (now > (Int.ofNat 4611686018427387903))) = false → HT (GLv [vS f 0 n c]) (heapOf [o, .dead, .cells 24 [.bool own.n, .int .i64 own.t, .int .i64 own.o, .int .i64 own.r, .int .i64 own.d, .int .i64 own.i] false, .cells 22 [vS f 0 n c] false, .cells 3 [.int .i64 now] false, .cells 4 [.bool lost] false, .cells 24 [.bool false, iN 0, iN 0, iN 0, iN 0, iN 0] false, .dead, .cells 3 [.int .i64 own.i] false] hp0) (nilS) [.dead, .dead] ∧ ((own.n = true → (some (iN 0) : Option Value) = some (iN 0) ∧ (Q (.tuple #[.agg #[.bool own.n, .int .i64 own.t, .int .i64 own.o, .int .i64 own.r, .int .i64 own.d, .int .i64 own.i], iN 0, iN 0]) [o] [] [])) ∧ (own.n = false → HT (G19 [vS f 0 n c, .agg #[.bool own.n, .int .i64 own.t, .int .i64 own.o, .int .i64 own.r, .int .i64 own.d, .int .i64 own.i]]) (heapOf [o, .dead, .cells 24 [.bool own.n, .int .i64 own.t, .int .i64 own.o, .int .i64 own.r, .int .i64 own.d, .int .i64 own.i] false, .cells 22 [vS f 0 n c] false, .cells 3 [.int .i64 now] false, .cells 4 [.bool lost] false, .cells 24 [.bool false, iN 0, iN 0, iN 0, iN 0, iN 0] false, .dead, .cells 3 [.int .i64 own.i] false, .dead, .dead, .cells 34 [nilS] false, .cells 42 [iN 0, iN 0, iN 0] false, .cells 42 [iN 0, iN 0, iN 1] false, .cells 74 [iN 0, .func (.func 62) #[] #[pb 2 0, pb 3 0], .func (.func 58) #[] #[pb 2 0], iN 6, .func (.func 63) #[] #[pb 11 0], .func (.func 59) #[] #[pb 8 0], iN 1, .func (.func 64) #[] #[pb 5 0], .func (.func 60) #[] #[pb 4 0, pb 8 0], iN 2, .func (.func 65) #[] #[pb 11 0], .func (.func 66) #[] #[pb 12 0, pb 3 0, pb 8 0], iN 3, .func (.func 68) #[] #[pb 12 0], .func (.func 69) #[] #[pb 13 0, pb 8 0], iN 4, .func (.func 70) #[] #[pb 12 0, pb 8 0], .func (.func 59) #[] #[pb 8 0], iN 5, .func (.func 61) #[] #[], .func (.func 60) #[] #[pb 4 0, pb 8 0]] false, .cells 74 [iN 0, .func (.func 62) #[] #[pb 2 0, pb 3 0], .func (.func 58) #[] #[pb 2 0]] false] hp0) (.slice (some ⟨16, 0, none⟩) (q + 1) 4) [(ownI ds), .dead] ∧ ((some (.bool (decide ((Int.ofNat (q + 1)) > (Int.ofNat 0)))) : Option Value) = some (.bool true) ∧ ((some (iN 0) : Option Value) = some (iN 0) ∧ (Q (.tuple #[.agg #[.bool own.n, .int .i64 own.t, .int .i64 own.o, .int .i64 own.r, .int .i64 own.d, .int .i64 own.i], iN 0, iN 0]) [o] [] [])))))))))
theorem CpD_e (f : Bool) (o : Blk) (n c m q : Nat) (now lst : Int) (lost : Bool) (own : ViewV) (top : Lev) (ls : List Lev) (ds : List Int) (Q : Value → List Blk → List Nat → List Blk → Prop) : CpDT f o n c m q now lst lost own top ls ds Q = RF Try.prog ECp Try.f31 300 fbCp ⟨tmsOf [hcA own, vS f 0 n c, .int .i64 now, .bool lost] 0 .leaf, heapOf [o, .dead] hp0, []⟩ (.b 9 (.stop 1 [] []) (.h 12 (iN 0) [.dead] (.b 17 (.stop 1 [] []) (.b 21 (.stop 1 [] []) (.h 28 (nilS) [.dead, .dead] (.b 83 (.stop 1 [] []) (.h 87 (.slice (some ⟨16, 0, none⟩) (q + 1) 4) [(ownI ds), .dead] (.v 89 (.bool true) (.stop 1 [] []))))))))) Q := by cases f <;> kernel_rfl
abbrev CpNT (f : Bool) (o : Blk) (n c m q : Nat) (now lst : Int) (lost : Bool) (own : ViewV) (top : Lev) (ls : List Lev) (ds : List Int) (Q : Value → List Blk → List Nat → List Blk → Prop) : Prop := (((chk own.n own.t own.o own.r own.d own.i) != (Int.ofNat 0)) = true → Q (.tuple #[.agg #[.bool false, iN 0, iN 0, iN 0, iN 0, iN 0], iN 0, iN 1]) [o] [] []) ∧ (((chk own.n own.t own.o own.r own.d own.i) != (Int.ofNat 0)) = false → HT (G18M [vS f 0 n c]) (heapOf [o, .dead, .cells 24 [.bool own.n, .int .i64 own.t, .int .i64 own.o, .int .i64 own.r, .int .i64 own.d, .int .i64 own.i] false, .cells 22 [vS f 0 n c] false, .cells 3 [.int .i64 now] false, .cells 4 [.bool lost] false, .cells 24 [.bool false, iN 0, iN 0, iN 0, iN 0, iN 0] false] hp0) (iN 0) [.dead] ∧ (((decide (now < (Int.ofNat 0))) = true → Q (.tuple #[.agg #[.bool false, iN 0, iN 0, iN 0, iN 0, iN 0], iN 0, iN 1]) [o] [] []) ∧ ((decide (now < (Int.ofNat 0))) = false → ((decide (now > (Int.ofNat 4611686018427387903))) = true → Q (.tuple #[.agg #[.bool false, iN 0, iN 0, iN 0, iN 0, iN 0], iN 0, iN 1]) [o] [] []) ∧ ((decide (now > (Int.ofNat 4611686018427387903))) = false → HT (GLv [vS f 0 n c]) (heapOf [o, .dead, .cells 24 [.bool own.n, .int .i64 own.t, .int .i64 own.o, .int .i64 own.r, .int .i64 own.d, .int .i64 own.i] false, .cells 22 [vS f 0 n c] false, .cells 3 [.int .i64 now] false, .cells 4 [.bool lost] false, .cells 24 [.bool false, iN 0, iN 0, iN 0, iN 0, iN 0] false, .dead, .cells 3 [.int .i64 own.i] false] hp0) (nilS) [.dead, .dead] ∧ ((own.n = true → (some (iN 0) : Option Value) = some (iN 0) ∧ (Q (.tuple #[.agg #[.bool own.n, .int .i64 own.t, .int .i64 own.o, .int .i64 own.r, .int .i64 own.d, .int .i64 own.i], iN 0, iN 0]) [o] [] [])) ∧ (own.n = false → HT (G19 [vS f 0 n c, .agg #[.bool own.n, .int .i64 own.t, .int .i64 own.o, .int .i64 own.r, .int .i64 own.d, .int .i64 own.i]]) (heapOf [o, .dead, .cells 24 [.bool own.n, .int .i64 own.t, .int .i64 own.o, .int .i64 own.r, .int .i64 own.d, .int .i64 own.i] false, .cells 22 [vS f 0 n c] false, .cells 3 [.int .i64 now] false, .cells 4 [.bool lost] false, .cells 24 [.bool false, iN 0, iN 0, iN 0, iN 0, iN 0] false, .dead, .cells 3 [.int .i64 own.i] false, .dead, .dead, .cells 34 [nilS] false, .cells 42 [iN 0, iN 0, iN 0] false, .cells 42 [iN 0, iN 0, iN 1] false, .cells 74 [iN 0, .func (.func 62) #[] #[pb 2 0, pb 3 0], .func (.func 58) #[] #[pb 2 0], iN 6, .func (.func 63) #[] #[pb 11 0], .func (.func 59) #[] #[pb 8 0], iN 1, .func (.func 64) #[] #[pb 5 0], .func (.func 60) #[] #[pb 4 0, pb 8 0], iN 2, .func (.func 65) #[] #[pb 11 0], .func (.func 66) #[] #[pb 12 0, pb 3 0, pb 8 0], iN 3, .func (.func 68) #[] #[pb 12 0], .func (.func 69) #[] #[pb 13 0, pb 8 0], iN 4, .func (.func 70) #[] #[pb 12 0, pb 8 0], .func (.func 59) #[] #[pb 8 0], iN 5, .func (.func 61) #[] #[], .func (.func 60) #[] #[pb 4 0, pb 8 0]] false, .cells 74 [iN 0, .func (.func 62) #[] #[pb 2 0, pb 3 0], .func (.func 58) #[] #[pb 2 0]] false] hp0) (nilS) [.dead, .dead] ∧ ((some (iN 6) : Option Value) = some (iN 6) ∧ (Q (.tuple #[.agg #[.bool true, iN 0, iN 0, iN 0, iN 0, .int .i64 own.i], iN 6, iN 0]) [o] [] []))))))))
theorem CpN_e (f : Bool) (o : Blk) (n c m q : Nat) (now lst : Int) (lost : Bool) (own : ViewV) (top : Lev) (ls : List Lev) (ds : List Int) (Q : Value → List Blk → List Nat → List Blk → Prop) : CpNT f o n c m q now lst lost own top ls ds Q = RF Try.prog ECp Try.f31 300 fbCp ⟨tmsOf [hcA own, vS f 0 n c, .int .i64 now, .bool lost] 0 .leaf, heapOf [o, .dead] hp0, []⟩ (.b 9 (.stop 1 [] []) (.h 12 (iN 0) [.dead] (.b 17 (.stop 1 [] []) (.b 21 (.stop 1 [] []) (.h 28 (nilS) [.dead, .dead] (.b 83 (.stop 1 [] []) (.h 87 (nilS) [.dead, .dead] (.stop 1 [] [])))))))) Q := by cases f <;> kernel_rfl
abbrev CpET (f : Bool) (o : Blk) (n c m q : Nat) (now lst : Int) (lost : Bool) (own : ViewV) (top : Lev) (ls : List Lev) (ds : List Int) (Q : Value → List Blk → List Nat → List Blk → Prop) : Prop := (((chk own.n own.t own.o own.r own.d own.i) != (Int.ofNat 0)) = true → Q (.tuple #[.agg #[.bool false, iN 0, iN 0, iN 0, iN 0, iN 0], iN 0, iN 1]) [o] [] []) ∧ (((chk own.n own.t own.o own.r own.d own.i) != (Int.ofNat 0)) = false → HT (G18M [vS f 0 n c]) (heapOf [o, .dead, .cells 24 [.bool own.n, .int .i64 own.t, .int .i64 own.o, .int .i64 own.r, .int .i64 own.d, .int .i64 own.i] false, .cells 22 [vS f 0 n c] false, .cells 3 [.int .i64 now] false, .cells 4 [.bool lost] false, .cells 24 [.bool false, iN 0, iN 0, iN 0, iN 0, iN 0] false] hp0) (iN 1) [.dead] ∧ (Q (.tuple #[.agg #[.bool false, iN 0, iN 0, iN 0, iN 0, iN 0], iN 0, iN 1]) [o] [] []))
theorem CpE_e (f : Bool) (o : Blk) (n c m q : Nat) (now lst : Int) (lost : Bool) (own : ViewV) (top : Lev) (ls : List Lev) (ds : List Int) (Q : Value → List Blk → List Nat → List Blk → Prop) : CpET f o n c m q now lst lost own top ls ds Q = RF Try.prog ECp Try.f31 300 fbCp ⟨tmsOf [hcA own, vS f 0 n c, .int .i64 now, .bool lost] 0 .leaf, heapOf [o, .dead] hp0, []⟩ (.b 9 (.stop 1 [] []) (.h 12 (iN 1) [.dead] (.stop 1 [] []))) Q := by cases f <;> kernel_rfl
theorem runCp (vs : List ViewV) (hn : vs.length < 1000000) : ∀ rest v0, caseA vs rest = some v0 → RunA Try.f31 fbCp 105 1 vs rest v0 := fun rest v0 h => by
  unfold caseA at h
  split at h
  case h_2 => cases h
  rename_i a now lost
  obtain ⟨own, hown, h2⟩ := Option.map_eq_some_iff.1 h
  obtain rfl := unH_some hown
  cases h2
  refine ⟨resV_stay _, (by intro r hr; simp at hr; rcases hr with rfl | rfl | rfl; exact stayV_h _; exact stayV_int _ _; exact stayV_bool _), by simp, fun f o c W X ho hrow hfl => ?_⟩
  have T0 : ∀ {hp : Hp}, hp.get 0 = some o → TN vs (vS f 0 vs.length c) hp := fun hg => tn_vS ho hrow hfl hg
  have hck : ∀ {hp : Hp}, hp.get 0 = some o → G18M [vS f 0 vs.length c] hp = some (errI (rightB vs), heapOf [.dead] hp) := fun hg => G18M_of (T0 hg) (by unfold Long; omega)
  have hlv : ∀ {hp : Hp}, hp.get 0 = some o → GLv [vS f 0 vs.length c] hp = some (rowLv (dlev (levsV vs)) hp.sz, heapOf [ownL (dlev (levsV vs)), .dead] hp) := fun hg => GLv_of (T0 hg) hn
  have hdn : ∀ {hp : Hp}, hp.get 0 = some o → G19 [vS f 0 vs.length c, hcA own] hp = some (rowIv (idsD 1 own vs) hp.sz, heapOf [ownI (idsD 1 own vs), .dead] hp) := fun hg => toldR_ids (A := wayR19) (T0 hg) hn rfl
  have hls' : ∀ (top : Lev) {hp : Hp}, hp.get 0 = some o → G67m [vS f 0 vs.length c, lA top] hp = some (.int .i64 (lstV top vs), heapOf [.dead] hp) := fun top {hp} hg => G67m_of top (T0 hg) hn
  have hml : (dlev (levsV vs)).length ≤ vs.length := Nat.le_trans (ded_len2 _) (levsV_len _)
  unfold caseR
  generalize dlev (levsV vs) = ls at *
  generalize idsD 1 own vs = ds at *
  cases hr : rightB vs with
  | false =>
    rw [hr] at hck
    refine FRm.pieceF ECp_ok follows sCp (CpE_e f o vs.length c 0 0 now 0 lost own zl [] [] _) ?_
    refine ⟨fun h_9 => Q1.of ?_, fun h_9 => ⟨hck hget0, Q1.of ?_⟩⟩
    all_goals ((try simp only [chk_ne, Bool.not_eq_true', Bool.not_eq_false'] at *); first | (rw [caseV_no (by assumption)]; rfl) | (rw [caseV_ok (by assumption)]; simp only [caseW, caseT, atC, chk, *, cond_true, cond_false, Bool.not_true, Bool.not_false]; first | rfl | exact resV_own (by assumption)))
  | true =>
    rw [hr] at hck
    cases ls with
    | nil =>
      cases ds with
      | nil =>
        refine FRm.pieceF ECp_ok follows sCp (CpN_e f o vs.length c 0 0 now 0 lost own zl [] [] _) ?_
        refine ⟨fun h_9 => Q1.of ?_, fun h_9 => ⟨hck hget0, ⟨fun h_17 => Q1.of ?_, fun h_17 => ⟨fun h_21 => Q1.of ?_, fun h_21 => ⟨hlv hget0, ⟨fun h_83 => ⟨rfl, Q1.of ?_⟩, fun h_83 => ⟨hdn hget0, ⟨rfl, Q1.of ?_⟩⟩⟩⟩⟩⟩⟩⟩
        all_goals ((try simp only [chk_ne, Bool.not_eq_true', Bool.not_eq_false'] at *); first | (rw [caseV_no (by assumption)]; rfl) | (rw [caseV_ok (by assumption)]; simp only [caseW, List.getLast?_nil, List.isEmpty_nil, caseT, atC, chk, *, cond_true, cond_false, Bool.not_true, Bool.not_false]; first | rfl | exact resV_own (by assumption)))
      | cons d ds =>
        refine FRm.pieceF ECp_ok follows sCp (CpD_e f o vs.length c 0 ds.length now 0 lost own zl [] (d :: ds) _) ?_
        refine ⟨fun h_9 => Q1.of ?_, fun h_9 => ⟨hck hget0, ⟨fun h_17 => Q1.of ?_, fun h_17 => ⟨fun h_21 => Q1.of ?_, fun h_21 => ⟨hlv hget0, ⟨fun h_83 => ⟨rfl, Q1.of ?_⟩, fun h_83 => ⟨hdn hget0, ⟨bool_ok (pos1 _), ⟨rfl, Q1.of ?_⟩⟩⟩⟩⟩⟩⟩⟩⟩
        all_goals ((try simp only [chk_ne, Bool.not_eq_true', Bool.not_eq_false'] at *); first | (rw [caseV_no (by assumption)]; rfl) | (rw [caseV_ok (by assumption)]; simp only [caseW, List.getLast?_nil, List.isEmpty_cons, caseT, atC, chk, *, cond_true, cond_false, Bool.not_true, Bool.not_false]; first | rfl | exact resV_own (by assumption)))
    | cons l ls =>
      have hlast : (l :: ls).getLast? = some ((l :: ls)[ls.length]'(by simp)) := by rw [List.getLast?_eq_getElem?]; simp
      have hget : (l :: ls)[ls.length]? = some ((l :: ls)[ls.length]'(by simp)) := List.getElem?_eq_getElem _
      rw [caseV_lst hlast]
      generalize (l :: ls)[ls.length]'(by simp) = top at *
      generalize hL : l :: ls = L at *
      have hlen : L.length = ls.length + 1 := by rw [← hL]; rfl
      have hls := fun {hp : Hp} (hg : hp.get 0 = some o) => hls' top hg
      have hlv' : ∀ {hp : Hp}, hp.get 0 = some o → GLv [vS f 0 vs.length c] hp = some (.slice (some ⟨hp.sz, 0, none⟩) (ls.length + 1) 11, heapOf [ownL L, .dead] hp) := by rw [← hL] at hlv ⊢; exact hlv
      clear hlv; have hlv := fun {hp : Hp} (hg : hp.get 0 = some o) => hlv' hg
      have hm : ls.length < 1000000 := by omega
      cases ds with
      | nil =>
        refine FRm.pieceF ECp_ok follows sCp (CpL_e f o vs.length c ls.length 0 now (lstV top vs) lost own top L [] _) ?_
        refine ⟨fun h_9 => Q1.of ?_, fun h_9 => ⟨hck hget0, ⟨fun h_17 => Q1.of ?_, fun h_17 => ⟨fun h_21 => Q1.of ?_, fun h_21 => ⟨hlv hget0, ⟨bool_ok (pos1 _), ⟨(wrap_down (by omega)), ⟨lidxh (Nat.lt_succ_self _), ⟨lloadb (us := L) (by rw [heapOf0_get]; rfl) hget, ⟨fun h_90 => ⟨rfl, Q1.of ?_⟩, fun h_90 => ⟨hdn hget0, ⟨bool_ok (nz1 _), ⟨fun h_129 => ⟨fun h_145 => ⟨fun h_161 => ⟨fun h_178 => ⟨fun h_225 => ⟨bool_ok h_225, Q1.of ?_⟩, fun h_225 => ⟨rfl, Q1.of ?_⟩⟩, fun h_178 => ⟨rfl, Q1.of ?_⟩⟩, fun h_161 => ⟨fun h_188 => ⟨bool_ok h_188, Q1.of ?_⟩, fun h_188 => ⟨rfl, Q1.of ?_⟩⟩⟩, fun h_145 => ⟨hls hget0, ⟨fun h_176 => ⟨rfl, ⟨rfl, ⟨bool_ok h_176, Q1.of ?_⟩⟩⟩, fun h_176 => ⟨rfl, ⟨rfl, ⟨rfl, Q1.of ?_⟩⟩⟩⟩⟩⟩, fun h_129 => ⟨fun h_163 => ⟨bool_ok h_163, Q1.of ?_⟩, fun h_163 => ⟨rfl, Q1.of ?_⟩⟩⟩⟩⟩⟩⟩⟩⟩⟩⟩⟩⟩⟩⟩
        all_goals ((try simp only [chk_ne, Bool.not_eq_true', Bool.not_eq_false'] at *); first | (rw [caseV_no (by assumption)]; rfl) | (rw [caseV_ok (by assumption)]; simp only [caseW, hlen, List.isEmpty_nil, caseT, atC, chk, *, cond_true, cond_false, Bool.not_true, Bool.not_false]; first | rfl | exact resV_own (by assumption)))
      | cons d ds =>
        refine FRm.pieceF ECp_ok follows sCp (CpLD_e f o vs.length c ls.length ds.length now (lstV top vs) lost own top L (d :: ds) _) ?_
        refine ⟨fun h_9 => Q1.of ?_, fun h_9 => ⟨hck hget0, ⟨fun h_17 => Q1.of ?_, fun h_17 => ⟨fun h_21 => Q1.of ?_, fun h_21 => ⟨hlv hget0, ⟨bool_ok (pos1 _), ⟨(wrap_down (by omega)), ⟨lidxh (Nat.lt_succ_self _), ⟨lloadb (us := L) (by rw [heapOf0_get]; rfl) hget, ⟨fun h_90 => ⟨rfl, Q1.of ?_⟩, fun h_90 => ⟨hdn hget0, ⟨bool_ok (pos1 _), ⟨rfl, Q1.of ?_⟩⟩⟩⟩⟩⟩⟩⟩⟩⟩⟩⟩⟩
        all_goals ((try simp only [chk_ne, Bool.not_eq_true', Bool.not_eq_false'] at *); first | (rw [caseV_no (by assumption)]; rfl) | (rw [caseV_ok (by assumption)]; simp only [caseW, hlen, List.isEmpty_cons, caseT, atC, chk, *, cond_true, cond_false, Bool.not_true, Bool.not_false]; first | rfl | exact resV_own (by assumption)))
noncomputable def GCase : HeapFn := toldA 1 caseA
theorem hkCase : CallGoal Try.prog 31 GCase := toldA_goal Try.func31 bodyCp (by kernel_rfl) ntCp fun vs hn => runCp vs hn
theorem GCase_of {vs : List ViewV} {s : Value} {hp : Hp} {own : ViewV} (h0 : own.id = 0) (now : Int) (lost : Bool) (h : TN vs s hp) (hn : vs.length < 1000000) : GCase [hcA own, s, .int .i64 now, .bool lost] hp = some (resV (caseR own vs now lost), heapOf [.dead] hp) :=
  toldA_of rfl h hn (by show caseA vs [hcA own, .int .i64 now, .bool lost] = _; unfold caseA; simp only [unH_hcA h0]; rfl)
end Go.Proofs.Ytgeoommlmddgpaa.LtL
namespace Go.Proofs.Ytgeoommlmddgpaa.AI
open Go Go.Proofs Go.RowKit
section
variable {P : Program} {N z : Nat} {W : Base} {X : Pins}
theorem FRm.find {b : Code} {β : Type} {vs : List β} (p : β → Bool) (S : Nat → (Nat → Value) → St) {Q : Exit → St → Prop}
    (last : ∀ g, vs.any p = false → FRm P N W z X b (S vs.length g) (fun e st => e ≠ .normal ∧ Q e st))
    (hit : ∀ i x g, vs[i]? = some x → i < vs.length → p x = true → vs.any p = true → FRm P N W z X b (S i g) (fun e st => e ≠ .normal ∧ Q e st))
    (step : ∀ i x g, vs[i]? = some x → i < vs.length → p x = false → FRm P N W z X b (S i g) (fun e st => e = .normal ∧ ∃ g', st = S (i + 1) g'))
    (g : Nat → Value) : FRm P N W z X (.loop b) (S 0 g) Q := by
  refine FRm.loop (fun k st => ∃ i g, k + i = vs.length ∧ (∀ x ∈ vs.take i, p x = false) ∧ st = S i g) (fun k st => ?_) (k := vs.length) ⟨0, g, by omega, by simp, rfl⟩
  rintro ⟨i, g, hk, hno, rfl⟩
  rcases Nat.lt_or_ge i vs.length with hi | hi
  · have hx : vs[i]? = some vs[i] := List.getElem?_eq_getElem hi
    cases hp : p vs[i] with
    | true => exact FRm.mono (hit i vs[i] g hx hi hp (List.any_eq_true.2 ⟨_, List.getElem_mem hi, hp⟩)) fun e st q => .inr q
    | false =>
      refine FRm.mono (step i vs[i] g hx hi hp) fun e st q => ?_
      obtain ⟨rfl, g', rfl⟩ := q
      refine .inl ⟨rfl, k - 1, by omega, i + 1, g', by omega, fun x hxm => ?_, rfl⟩
      rw [List.take_add_one, hx] at hxm
      rcases List.mem_append.1 hxm with h | h
      · exact hno x h
      · simp at h; subst h; exact hp
  · obtain rfl : i = vs.length := by omega
    refine FRm.mono (last g (List.any_eq_false.2 fun x hx => by rw [hno x (by simpa using hx)]; decide)) fun e st q => .inr q
end
end Go.Proofs.Ytgeoommlmddgpaa.AI
namespace Go.Proofs.Ytgeoommlmddgpaa.LtL
open Go Go.Proofs Go.Proofs.Ytgeoommlmddgpaa.AI Go.RowKit Go.Proofs.Ytgeoommlmddgpaa.Sort Go.Proofs.Ytgeoommlmddgpaa.LtA
theorem atC_e {c t o r d i : Int} (h : (atC c t o r d i).2.2 = 0) : atC c t o r d i = (⟨0, false, t, o, r, d, i⟩, c, 0) ∧ okH false t o r d i = true := by
  unfold atC at h ⊢
  cases hc : okH false t o r d i with
  | true => exact ⟨rfl, rfl⟩
  | false => rw [hc] at h; exact absurd (show (1 : Int) = 0 from h) (by decide)
inductive CaseIs (own : ViewV) (vs : List ViewV) (now : Int) (lost : Bool) : Res → Prop where
  | bad : CaseIs own vs now lost (zH, 0, 1)
  | stay : own.n = true ∨ idsD 1 own vs ≠ [] → CaseIs own vs now lost (own, 0, 0)
  | alone : own.n = false → idsD 1 own vs = [] → dlev (levsV vs) = [] → CaseIs own vs now lost (nullV own.i, 6, 0)
  | lost (top : Lev) : Kn own → idsD 1 own vs = [] → (dlev (levsV vs)).getLast? = some top → lost = true → okH false now own.i 0 0 own.i = true → CaseIs own vs now lost (⟨0, false, now, own.i, 0, 0, own.i⟩, 1, 0)
  | prop (top : Lev) : Kn own → idsD 1 own vs = [] → (dlev (levsV vs)).getLast? = some top → 1 < (dlev (levsV vs)).length → okH false top.1 top.2.1 top.2.2 (wrapF .i64 (lstV top vs - 1)) own.i = true → CaseIs own vs now lost (⟨0, false, top.1, top.2.1, top.2.2, wrapF .i64 (lstV top vs - 1), own.i⟩, 2, 0)
  | refl (top : Lev) : Kn own → idsD 1 own vs = [] → (dlev (levsV vs)).getLast? = some top → (dlev (levsV vs)).length = 1 → top.2.2 = 0 → okH false top.1 top.2.1 1 0 own.i = true → CaseIs own vs now lost (⟨0, false, top.1, top.2.1, 1, 0, own.i⟩, 3, 0)
  | dete (top : Lev) : Kn own → idsD 1 own vs = [] → (dlev (levsV vs)).getLast? = some top → (dlev (levsV vs)).length = 1 → top.2.2 ≠ 0 → top.2.1 = own.i → CaseIs own vs now lost (nullV own.i, 4, 0)
  | gene (top : Lev) : Kn own → idsD 1 own vs = [] → (dlev (levsV vs)).getLast? = some top → (dlev (levsV vs)).length = 1 → okH false now own.i 0 0 own.i = true → CaseIs own vs now lost (⟨0, false, now, own.i, 0, 0, own.i⟩, 5, 0)
end Go.Proofs.Ytgeoommlmddgpaa.LtL
namespace Go.Proofs.Ytgeoommlmddgpaa.LtL
open Go Go.Proofs Go.Proofs.Ytgeoommlmddgpaa.AI Go.RowKit Go.Proofs.Ytgeoommlmddgpaa.Sort Go.Proofs.Ytgeoommlmddgpaa.LtA
def NowOk (now later : Int) (r1 r2 r3 : Res) : Prop :=
  r1.2.2 = 0 → r2.2.2 = 0 → r1.2.1 = r2.2.1 ∧ (¬ r1.2.1 = 1 → ¬ r1.2.1 = 5 → r1.1 = r2.1) ∧ ((r1.2.1 = 0 ∨ r1.2.1 = 6) → r3 = r1) ∧ (r1.2.1 = 1 → r1.1.t = now ∧ r2.1.t = later)
theorem caseT_now {own : ViewV} {k : Nat} {top : Lev} {lst now later : Int} {lost : Bool} {r3 : Res} : NowOk now later (caseT own k top lst now lost) (caseT own k top lst later lost) r3 := by
  intro h1 h2
  unfold caseT at h1 h2 ⊢
  cases lost with
  | true =>
    simp only [cond_true] at h1 h2 ⊢
    rw [(atC_e h1).1, (atC_e h2).1]
    exact ⟨by first | rfl | trivial, fun h => absurd (by first | rfl | trivial) h, fun h => by rcases h with h | h <;> simp at h, fun _ => ⟨by first | rfl | trivial, by first | rfl | trivial⟩⟩
  | false =>
    simp only [cond_false] at h1 h2 ⊢
    cases hk : decide (Int.ofNat k > Int.ofNat 1) with
    | true =>
      simp only [hk, cond_true] at h1 h2 ⊢
      rw [(atC_e h1).1]
      exact ⟨by first | rfl | trivial, fun _ _ => by first | rfl | trivial, fun h => by rcases h with h | h <;> simp at h, fun h => by simp at h⟩
    | false =>
      simp only [hk, cond_false] at h1 h2 ⊢
      cases ht : (top.2.2 == Int.ofNat 0) with
      | true =>
        simp only [ht, cond_true] at h1 h2 ⊢
        rw [(atC_e h1).1]
        exact ⟨by first | rfl | trivial, fun _ _ => by first | rfl | trivial, fun h => by rcases h with h | h <;> simp at h, fun h => by simp at h⟩
      | false =>
        simp only [ht, cond_false] at h1 h2 ⊢
        cases hm : (top.2.1 == own.i) with
        | true =>
          simp only [hm, cond_true] at h1 h2 ⊢
          exact ⟨by first | rfl | trivial, fun _ _ => by first | rfl | trivial, fun h => by rcases h with h | h <;> simp at h, fun h => by simp at h⟩
        | false =>
          simp only [hm, cond_false] at h1 h2 ⊢
          rw [(atC_e h1).1, (atC_e h2).1]
          exact ⟨by first | rfl | trivial, fun _ h => absurd (by first | rfl | trivial) h, fun h => by rcases h with h | h <;> simp at h, fun h => by simp at h⟩
theorem one0 {p : Prop} (h : (1 : Int) = 0) : p := absurd h (by decide)
theorem caseR_now {own : ViewV} {vs : List ViewV} {now later : Int} {lost : Bool} : NowOk now later (caseR own vs now lost) (caseR own vs later lost) (caseR own vs now (!lost)) := by
  intro h1 h2
  unfold caseR at h1 h2 ⊢
  cases hok : okH own.n own.t own.o own.r own.d own.i with
  | false => rw [caseV_no hok] at h1; exact one0 h1
  | true =>
  rw [caseV_ok hok] at h1 h2 ⊢
  rw [caseV_ok hok, caseV_ok hok]
  unfold caseW at h1 h2 ⊢
  cases hr : rightB vs with
  | false => rw [hr] at h1; exact one0 h1
  | true =>
  rw [hr] at h1 h2
  simp only [Bool.not_true, cond_false] at h1 h2 ⊢
  cases ha : decide (now < Int.ofNat 0) with
  | true => rw [ha] at h1; exact one0 h1
  | false =>
  cases hb : decide (now > Int.ofNat 4611686018427387903) with
  | true => rw [ha, hb] at h1; exact one0 h1
  | false =>
  cases hc : decide (later < Int.ofNat 0) with
  | true => rw [hc] at h2; exact one0 h2
  | false =>
  cases hd : decide (later > Int.ofNat 4611686018427387903) with
  | true => rw [hc, hd] at h2; exact one0 h2
  | false =>
  rw [ha, hb] at h1
  rw [hc, hd] at h2
  simp only [cond_false] at h1 h2 ⊢
  cases hn : own.n with
  | true => exact ⟨rfl, fun _ _ => rfl, fun _ => rfl, fun h => absurd (show (0 : Int) = 1 from h) (by decide)⟩
  | false =>
  cases hdn : (!(idsD 1 own vs).isEmpty) with
  | true => exact ⟨rfl, fun _ _ => rfl, fun _ => rfl, fun h => absurd (show (0 : Int) = 1 from h) (by decide)⟩
  | false =>
  rw [hn, hdn] at h1 h2
  simp only [cond_false] at h1 h2 ⊢
  cases hl : (dlev (levsV vs)).getLast? with
  | none => exact ⟨rfl, fun _ _ => rfl, fun _ => rfl, fun h => absurd (show (6 : Int) = 1 from h) (by decide)⟩
  | some top =>
    rw [hl] at h1 h2
    obtain ⟨q1, q2, q3, q4⟩ := caseT_now (r3 := caseT own (dlev (levsV vs)).length top (lstV top vs) now (!lost)) h1 h2
    exact ⟨q1, q2, q3, q4⟩
end Go.Proofs.Ytgeoommlmddgpaa.LtL
namespace Go.Proofs.Ytgeoommlmddgpaa.LtL
open Go Go.Proofs Go.Proofs.Ytgeoommlmddgpaa.AI Go.RowKit Go.Proofs.Ytgeoommlmddgpaa.Sort Go.Proofs.Ytgeoommlmddgpaa.LtA
theorem awake19_run : (aCall Try.prog (extOf Try.prog) 4000 33 [] hp0).map (fun r => r.1) = some (.bool true) := by kernel_rfl
theorem hkAw19 : HookGoal Try.prog 33 g16 := hook_of (ext := extOf Try.prog) (extOf_ok _) follows Try.func33 (by kernel_rfl) fun args v h => by
  unfold g16 at h
  split at h
  · cases h
    obtain ⟨⟨u, hp⟩, h1, h2⟩ := Option.map_eq_some_iff.1 awake19_run
    simp only at h2
    subst h2
    exact ⟨rfl, rfl, _, hp, h1⟩
  · cases h
theorem sameH_self (x : ViewV) : sameH x x = true := sameH_iff.2 ⟨rfl, rfl, rfl, rfl, rfl, rfl⟩
theorem eqHT (u v : ViewV) : fstV ((aBin Try.prog .eql 24 (hcA u) (hcA v)).map fun v => (v, none)) = some (.bool (sameH u v)) := by
  have h : aBin Try.prog .eql 24 (hcA u) (hcA v) =
      (andE (u.n == v.n) (andE (u.t == v.t) (andE (u.o == v.o) (andE (u.r == v.r) (andE (u.d == v.d) (andE (u.i == v.i) (some true))))))).map fun b => .bool b := by kernel_rfl
  rw [h]
  simp only [andE_some]
  rfl
theorem neHT (u v : ViewV) : fstV ((aBin Try.prog .neq 24 (hcA u) (hcA v)).map fun v => (v, none)) = some (.bool (!sameH u v)) := by
  have h : aBin Try.prog .neq 24 (hcA u) (hcA v) =
      (andE (u.n == v.n) (andE (u.t == v.t) (andE (u.o == v.o) (andE (u.r == v.r) (andE (u.d == v.d) (andE (u.i == v.i) (some true))))))).map fun b => .bool !b := by kernel_rfl
  rw [h]
  simp only [andE_some]
  rfl
def QT : Value → List Blk → List Nat → List Blk → Prop := fun v _ _ _ => v = .bool true
theorem gtk_t {f : Bool} {n : Nat} (hkk : kk f n = n) (h : 80 < n) : decide (Int.ofNat (kk f n) > Int.ofNat 80) = true := by rw [hkk]; exact decide_eq_true (by simp only [Int.ofNat_eq_natCast]; omega)
theorem gtk_f {f : Bool} {n : Nat} (hkk : kk f n = n) (h : n ≤ 80) : decide (Int.ofNat (kk f n) > Int.ofNat 80) = false := by rw [hkk]; exact decide_eq_false (by simp only [Int.ofNat_eq_natCast]; omega)
end Go.Proofs.Ytgeoommlmddgpaa.LtL
namespace Go.Proofs.Ytgeoommlmddgpaa.LtL
open Go Go.Proofs Go.Proofs.Ytgeoommlmddgpaa.AI Go.RowKit Go.Proofs.Ytgeoommlmddgpaa.Sort Go.Proofs.Ytgeoommlmddgpaa.LtA
noncomputable def ENw : Ext := extG (extH Try.prog [(33, g16)]) [(31, GCase)]
theorem ENw_ok : ExtOk Try.prog ENw := extG_ok (extH_ok (.cons hkAw19 .nil)) (.cons hkCase .nil)
noncomputable def fbNw : Code := (Try.f7.body).getD .skip
theorem bodyNw : Try.f7.body = some fbNw := by kernel_rfl
theorem ntNw : Try.f7.ntmps = 112 := by kernel_rfl
theorem sNw : codeSafe Try.prog 112 fbNw = true := by kernel_rfl
abbrev NwT (f : Bool) (o : Blk) (n c : Nat) (now later : Int) (lost : Bool) (own : ViewV) (r1 r2 r3 : Res) (Q : Value → List Blk → List Nat → List Blk → Prop) : Prop := ((decide ((Int.ofNat (kk f n)) > (Int.ofNat 80))) = true → Q (.bool true) [] [] []) ∧ ((decide ((Int.ofNat (kk f n)) > (Int.ofNat 80))) = false → HT (GCase [.agg #[.bool own.n, .int .i64 own.t, .int .i64 own.o, .int .i64 own.r, .int .i64 own.d, .int .i64 own.i], vS f 0 n c, .int .i64 now, .bool lost]) (heapOf [o, .dead, .cells 24 [.bool own.n, .int .i64 own.t, .int .i64 own.o, .int .i64 own.r, .int .i64 own.d, .int .i64 own.i] false] hp0) (.tuple #[hcA r1.1, .int .i64 r1.2.1, .int .i64 r1.2.2]) [.dead] ∧ (HT (GCase [.agg #[.bool own.n, .int .i64 own.t, .int .i64 own.o, .int .i64 own.r, .int .i64 own.d, .int .i64 own.i], vS f 0 n c, .int .i64 later, .bool lost]) (heapOf [o, .dead, .cells 24 [.bool own.n, .int .i64 own.t, .int .i64 own.o, .int .i64 own.r, .int .i64 own.d, .int .i64 own.i] false, .dead, .cells 24 [.bool r1.1.n, .int .i64 r1.1.t, .int .i64 r1.1.o, .int .i64 r1.1.r, .int .i64 r1.1.d, .int .i64 r1.1.i] false] hp0) (.tuple #[hcA r2.1, .int .i64 r2.2.1, .int .i64 r2.2.2]) [.dead] ∧ (HT (GCase [.agg #[.bool own.n, .int .i64 own.t, .int .i64 own.o, .int .i64 own.r, .int .i64 own.d, .int .i64 own.i], vS f 0 n c, .int .i64 now, .bool (!lost)]) (heapOf [o, .dead, .cells 24 [.bool own.n, .int .i64 own.t, .int .i64 own.o, .int .i64 own.r, .int .i64 own.d, .int .i64 own.i] false, .dead, .cells 24 [.bool r1.1.n, .int .i64 r1.1.t, .int .i64 r1.1.o, .int .i64 r1.1.r, .int .i64 r1.1.d, .int .i64 r1.1.i] false, .dead, .cells 24 [.bool r2.1.n, .int .i64 r2.1.t, .int .i64 r2.1.o, .int .i64 r2.1.r, .int .i64 r2.1.d, .int .i64 r2.1.i] false] hp0) (.tuple #[hcA r3.1, .int .i64 r3.2.1, .int .i64 r3.2.2]) [.dead] ∧ (((r1.2.2 != (Int.ofNat 0)) = true → Q (.bool true) [] [] []) ∧ ((r1.2.2 != (Int.ofNat 0)) = false → ((r2.2.2 != (Int.ofNat 0)) = true → Q (.bool true) [] [] []) ∧ ((r2.2.2 != (Int.ofNat 0)) = false → ((r1.2.1 != r2.2.1) = true → Q (.bool false) [] [] []) ∧ ((r1.2.1 != r2.2.1) = false → ((r1.2.1 != (Int.ofNat 1)) = true → ((r1.2.1 != (Int.ofNat 5)) = true → (fstV ((aBin Try.prog .neq 24 (.agg #[.bool r1.1.n, .int .i64 r1.1.t, .int .i64 r1.1.o, .int .i64 r1.1.r, .int .i64 r1.1.d, .int .i64 r1.1.i]) (.agg #[.bool r2.1.n, .int .i64 r2.1.t, .int .i64 r2.1.o, .int .i64 r2.1.r, .int .i64 r2.1.d, .int .i64 r2.1.i])).map fun v => (v, none)) : Option Value) = some (.bool (!(sameH r1.1 r2.1))) ∧ ((!(sameH r1.1 r2.1)) = true → Q (.bool false) [] [] []) ∧ ((!(sameH r1.1 r2.1)) = false → ((r1.2.1 == (Int.ofNat 0)) = true → ((r3.2.2 == (Int.ofNat 0)) = true → (fstV ((aBin Try.prog .eql 24 (.agg #[.bool r3.1.n, .int .i64 r3.1.t, .int .i64 r3.1.o, .int .i64 r3.1.r, .int .i64 r3.1.d, .int .i64 r3.1.i]) (.agg #[.bool r1.1.n, .int .i64 r1.1.t, .int .i64 r1.1.o, .int .i64 r1.1.r, .int .i64 r1.1.d, .int .i64 r1.1.i])).map fun v => (v, none)) : Option Value) = some (.bool (sameH r3.1 r1.1)) ∧ ((sameH r3.1 r1.1) = true → Q (.bool (r3.2.1 == r1.2.1)) [] [] []) ∧ ((sameH r3.1 r1.1) = false → Q (.bool false) [] [] [])) ∧ ((r3.2.2 == (Int.ofNat 0)) = false → Q (.bool false) [] [] [])) ∧ ((r1.2.1 == (Int.ofNat 0)) = false → ((r1.2.1 == (Int.ofNat 6)) = true → ((r3.2.2 == (Int.ofNat 0)) = true → (fstV ((aBin Try.prog .eql 24 (.agg #[.bool r3.1.n, .int .i64 r3.1.t, .int .i64 r3.1.o, .int .i64 r3.1.r, .int .i64 r3.1.d, .int .i64 r3.1.i]) (.agg #[.bool r1.1.n, .int .i64 r1.1.t, .int .i64 r1.1.o, .int .i64 r1.1.r, .int .i64 r1.1.d, .int .i64 r1.1.i])).map fun v => (v, none)) : Option Value) = some (.bool (sameH r3.1 r1.1)) ∧ ((sameH r3.1 r1.1) = true → Q (.bool (r3.2.1 == r1.2.1)) [] [] []) ∧ ((sameH r3.1 r1.1) = false → Q (.bool false) [] [] [])) ∧ ((r3.2.2 == (Int.ofNat 0)) = false → Q (.bool false) [] [] [])) ∧ ((r1.2.1 == (Int.ofNat 6)) = false → (some (.bool (r1.2.1 != (Int.ofNat 1))) : Option Value) = some (.bool true) ∧ (Q (.bool true) [] [] []))))) ∧ ((r1.2.1 != (Int.ofNat 5)) = false → ((r1.2.1 == (Int.ofNat 0)) = true → ((r3.2.2 == (Int.ofNat 0)) = true → (fstV ((aBin Try.prog .eql 24 (.agg #[.bool r3.1.n, .int .i64 r3.1.t, .int .i64 r3.1.o, .int .i64 r3.1.r, .int .i64 r3.1.d, .int .i64 r3.1.i]) (.agg #[.bool r1.1.n, .int .i64 r1.1.t, .int .i64 r1.1.o, .int .i64 r1.1.r, .int .i64 r1.1.d, .int .i64 r1.1.i])).map fun v => (v, none)) : Option Value) = some (.bool (sameH r3.1 r1.1)) ∧ ((sameH r3.1 r1.1) = true → Q (.bool (r3.2.1 == r1.2.1)) [] [] []) ∧ ((sameH r3.1 r1.1) = false → Q (.bool false) [] [] [])) ∧ ((r3.2.2 == (Int.ofNat 0)) = false → Q (.bool false) [] [] [])) ∧ ((r1.2.1 == (Int.ofNat 0)) = false → ((r1.2.1 == (Int.ofNat 6)) = true → ((r3.2.2 == (Int.ofNat 0)) = true → (fstV ((aBin Try.prog .eql 24 (.agg #[.bool r3.1.n, .int .i64 r3.1.t, .int .i64 r3.1.o, .int .i64 r3.1.r, .int .i64 r3.1.d, .int .i64 r3.1.i]) (.agg #[.bool r1.1.n, .int .i64 r1.1.t, .int .i64 r1.1.o, .int .i64 r1.1.r, .int .i64 r1.1.d, .int .i64 r1.1.i])).map fun v => (v, none)) : Option Value) = some (.bool (sameH r3.1 r1.1)) ∧ ((sameH r3.1 r1.1) = true → Q (.bool (r3.2.1 == r1.2.1)) [] [] []) ∧ ((sameH r3.1 r1.1) = false → Q (.bool false) [] [] [])) ∧ ((r3.2.2 == (Int.ofNat 0)) = false → Q (.bool false) [] [] [])) ∧ ((r1.2.1 == (Int.ofNat 6)) = false → (some (.bool (r1.2.1 != (Int.ofNat 1))) : Option Value) = some (.bool true) ∧ (Q (.bool true) [] [] []))))) ∧ ((r1.2.1 != (Int.ofNat 1)) = false → ((r1.2.1 == (Int.ofNat 0)) = true → ((r3.2.2 == (Int.ofNat 0)) = true → (fstV ((aBin Try.prog .eql 24 (.agg #[.bool r3.1.n, .int .i64 r3.1.t, .int .i64 r3.1.o, .int .i64 r3.1.r, .int .i64 r3.1.d, .int .i64 r3.1.i]) (.agg #[.bool r1.1.n, .int .i64 r1.1.t, .int .i64 r1.1.o, .int .i64 r1.1.r, .int .i64 r1.1.d, .int .i64 r1.1.i])).map fun v => (v, none)) : Option Value) = some (.bool (sameH r3.1 r1.1)) ∧ ((sameH r3.1 r1.1) = true → Q (.bool (r3.2.1 == r1.2.1)) [] [] []) ∧ ((sameH r3.1 r1.1) = false → Q (.bool false) [] [] [])) ∧ ((r3.2.2 == (Int.ofNat 0)) = false → Q (.bool false) [] [] [])) ∧ ((r1.2.1 == (Int.ofNat 0)) = false → ((r1.2.1 == (Int.ofNat 6)) = true → ((r3.2.2 == (Int.ofNat 0)) = true → (fstV ((aBin Try.prog .eql 24 (.agg #[.bool r3.1.n, .int .i64 r3.1.t, .int .i64 r3.1.o, .int .i64 r3.1.r, .int .i64 r3.1.d, .int .i64 r3.1.i]) (.agg #[.bool r1.1.n, .int .i64 r1.1.t, .int .i64 r1.1.o, .int .i64 r1.1.r, .int .i64 r1.1.d, .int .i64 r1.1.i])).map fun v => (v, none)) : Option Value) = some (.bool (sameH r3.1 r1.1)) ∧ ((sameH r3.1 r1.1) = true → Q (.bool (r3.2.1 == r1.2.1)) [] [] []) ∧ ((sameH r3.1 r1.1) = false → Q (.bool false) [] [] [])) ∧ ((r3.2.2 == (Int.ofNat 0)) = false → Q (.bool false) [] [] [])) ∧ ((r1.2.1 == (Int.ofNat 6)) = false → (some (.bool (r1.2.1 != (Int.ofNat 1))) : Option Value) = some (.bool false) ∧ (((r1.1.t == now) = true → Q (.bool (r2.1.t == later)) [] [] []) ∧ ((r1.1.t == now) = false → Q (.bool false) [] [] []))))))))))))
theorem Nw_e (f : Bool) (o : Blk) (n c : Nat) (now later : Int) (lost : Bool) (own : ViewV) (r1 r2 r3 : Res) (Q : Value → List Blk → List Nat → List Blk → Prop) : NwT f o n c now later lost own r1 r2 r3 Q = RF Try.prog ENw Try.f7 300 fbNw ⟨tmsOf [hcA own, vS f 0 n c, .int .i64 now, .int .i64 later, .bool lost] 0 .leaf, heapOf [o, .dead] hp0, []⟩ (.b 4 (.stop 0 [] []) (.h 9 (.tuple #[hcA r1.1, .int .i64 r1.2.1, .int .i64 r1.2.2]) [.dead] (.h 22 (.tuple #[hcA r2.1, .int .i64 r2.2.1, .int .i64 r2.2.2]) [.dead] (.h 36 (.tuple #[hcA r3.1, .int .i64 r3.2.1, .int .i64 r3.2.2]) [.dead] (.b 46 (.stop 0 [] []) (.b 49 (.stop 0 [] []) (.b 53 (.stop 0 [] []) (.b 56 (.b 59 (.w 64 (!(sameH r1.1 r2.1)) (.stop 0 [] []) (.b 68 (.b 74 (.w 79 (sameH r3.1 r1.1) (.stop 0 [] []) (.stop 0 [] [])) (.stop 0 [] [])) (.b 71 (.b 76 (.w 81 (sameH r3.1 r1.1) (.stop 0 [] []) (.stop 0 [] [])) (.stop 0 [] [])) (.v 76 (.bool true) (.stop 0 [] []))))) (.b 65 (.b 71 (.w 76 (sameH r3.1 r1.1) (.stop 0 [] []) (.stop 0 [] [])) (.stop 0 [] [])) (.b 68 (.b 73 (.w 78 (sameH r3.1 r1.1) (.stop 0 [] []) (.stop 0 [] [])) (.stop 0 [] [])) (.v 73 (.bool true) (.stop 0 [] []))))) (.b 63 (.b 69 (.w 74 (sameH r3.1 r1.1) (.stop 0 [] []) (.stop 0 [] [])) (.stop 0 [] [])) (.b 66 (.b 71 (.w 76 (sameH r3.1 r1.1) (.stop 0 [] []) (.stop 0 [] [])) (.stop 0 [] [])) (.v 71 (.bool false) (.b 76 (.stop 0 [] []) (.stop 0 [] []))))))))))))) Q := by cases f <;> kernel_rfl
set_option maxHeartbeats 4000000
theorem lawNw_fr (f : Bool) (o : Blk) (own : ViewV) (h0 : own.id = 0) (vs : List ViewV) (now later : Int) (lost : Bool) (c : Nat) (ho : inertB o = true) (hrow : vs = [] ∨ ∃ ty ro, o = .cells ty (vrow vs) ro) (hfl : f = false → vs = [] ∧ o = .dead) (W : Base) :
    FRwp Try.prog 112 W fbNw ⟨tmsOf [hcA own, vS f 0 vs.length c, .int .i64 now, .int .i64 later, .bool lost] 0 .leaf, heapOf [o, .dead] hp0, []⟩ (FinF Try.prog Try.f7 QT) := by
  have hkk := kk_len hfl
  refine FRwp.pieceF ENw_ok follows sNw (Nw_e f o vs.length c now later lost own (caseR own vs now lost) (caseR own vs later lost) (caseR own vs now (!lost)) _) ?_
  rcases Nat.lt_or_ge 80 vs.length with h80 | h80
  · exact ⟨fun h_4 => rfl, fun h_4 => Bool.noConfusion ((gtk_t hkk h80).symm.trans h_4)⟩
  · have hn : vs.length < 1000000 := by omega
    have T0 : ∀ {hp : Hp}, hp.get 0 = some o → TN vs (vS f 0 vs.length c) hp := fun hg => tn_vS ho hrow hfl hg
    have hc1 : ∀ {hp : Hp}, hp.get 0 = some o → GCase [hcA own, vS f 0 vs.length c, .int .i64 now, .bool lost] hp = _ := fun hg => GCase_of h0 now lost (T0 hg) hn
    have hc2 : ∀ {hp : Hp}, hp.get 0 = some o → GCase [hcA own, vS f 0 vs.length c, .int .i64 later, .bool lost] hp = _ := fun hg => GCase_of h0 later lost (T0 hg) hn
    have hc3 : ∀ {hp : Hp}, hp.get 0 = some o → GCase [hcA own, vS f 0 vs.length c, .int .i64 now, .bool (!lost)] hp = _ := fun hg => GCase_of h0 now (!lost) (T0 hg) hn
    have hN := caseR_now (own := own) (vs := vs) (now := now) (later := later) (lost := lost)
    generalize caseR own vs now lost = r1 at *
    generalize caseR own vs later lost = r2 at *
    generalize caseR own vs now (!lost) = r3 at *
    have hs : ∀ u v : ViewV, u = v → sameH u v = true := fun u v e => by rw [e]; exact sameH_self v
    unfold NowOk at hN
    refine ⟨fun h_4 => Bool.noConfusion (h_4.symm.trans (gtk_f hkk h80)), fun h_4 => ⟨hc1 (hgn rfl), ⟨hc2 (hgn rfl), ⟨hc3 (hgn rfl), ⟨fun h_46 => ?_, fun h_46 => ⟨fun h_49 => ?_, fun h_49 => ⟨fun h_53 => ?_, fun h_53 => ⟨fun h_56 => ⟨fun h_59 => ⟨neHT r1.1 r2.1, ⟨fun h_64 => ?_, fun h_64 => ⟨fun h_68 => ⟨fun h_74 => ⟨eqHT r3.1 r1.1, ⟨fun h_79 => ?_, fun h_79 => ?_⟩⟩, fun h_74 => ?_⟩, fun h_68 => ⟨fun h_71 => ⟨fun h_76 => ⟨eqHT r3.1 r1.1, ⟨fun h_81 => ?_, fun h_81 => ?_⟩⟩, fun h_76 => ?_⟩, fun h_71 => ⟨bool_ok h_56, ?_⟩⟩⟩⟩⟩, fun h_59 => ⟨fun h_65 => ⟨fun h_71 => ⟨eqHT r3.1 r1.1, ⟨fun h_76 => ?_, fun h_76 => ?_⟩⟩, fun h_71 => ?_⟩, fun h_65 => ⟨fun h_68 => ⟨fun h_73 => ⟨eqHT r3.1 r1.1, ⟨fun h_78 => ?_, fun h_78 => ?_⟩⟩, fun h_73 => ?_⟩, fun h_68 => ⟨bool_ok h_56, ?_⟩⟩⟩⟩, fun h_56 => ⟨fun h_63 => ⟨fun h_69 => ⟨eqHT r3.1 r1.1, ⟨fun h_74 => ?_, fun h_74 => ?_⟩⟩, fun h_69 => ?_⟩, fun h_63 => ⟨fun h_66 => ⟨fun h_71 => ⟨eqHT r3.1 r1.1, ⟨fun h_76 => ?_, fun h_76 => ?_⟩⟩, fun h_71 => ?_⟩, fun h_66 => ⟨bool_ok h_56, ⟨fun h_76 => ?_, fun h_76 => ?_⟩⟩⟩⟩⟩⟩⟩⟩⟩⟩⟩⟩
    all_goals first | rfl | (clear hc1 hc2 hc3 T0 hrow hfl; simp only [QT, Value.bool.injEq]; simp_all; done)
end Go.Proofs.Ytgeoommlmddgpaa.LtL
namespace Go.Proofs.Ytgeoommlmddgpaa.LtL
open Go Go.Proofs Go.Proofs.Ytgeoommlmddgpaa.AI Go.RowKit Go.ChangeShapes Go.Proofs.Ytgeoommlmddgpaa.LtA
theorem laidNw : laidOutB Try.prog = true := by kernel_rfl
theorem ownNw : ownKnob Try.prog.godebug = none := by kernel_rfl
theorem boolwNw {P : Program} {w : World} {r : Reach} {base : Nat} {t : TypeId} {v : Value} (ht : P.underlying t = some .bool) (h : Value.okWide P w r base t v) : ∃ b, v = .bool b := by
  unfold Value.okWide at h
  rw [ht] at h
  exact cellw_bool ht h
theorem walkNw {H : Type} {enc : TypeId × Value → H} (W : World) (base : Nat) (args : Array Value) (ds : List (DataW H)) (p : List MemPlace) (hsz : args.size = 5) (hval : ∀ (j : Nat) t v, Try.f7.params[j]? = some t → args[j]? = some v → Value.okWide Try.prog W .any base t v)
    (hA : DataW.TrodAll enc Try.prog W 0 (fun _ => true) true [24, 22, 3, 3, 4] args.toList ds p) : Calls Try.prog 7 args W fun e W' => e = .returned (.bool true) ∧ Below W.heap.size W W' := by
  obtain ⟨v0, v1, v2, v3, v4, rfl⟩ : ∃ v0 v1 v2 v3 v4, args = #[v0, v1, v2, v3, v4] := by
    obtain ⟨l⟩ := args
    match l, hsz with
    | [a, b, c, d, e], _ => exact ⟨a, b, c, d, e, rfl⟩
  obtain ⟨own, hown, rfl⟩ := open_height' 0 (hval 0 24 v0 (by kernel_rfl) rfl)
  obtain ⟨now, rfl, _⟩ := valw_int Try.underlying3 (hval 2 3 v2 (by kernel_rfl) rfl)
  obtain ⟨later, rfl, _⟩ := valw_int Try.underlying3 (hval 3 3 v3 (by kernel_rfl) rfl)
  obtain ⟨lost, rfl⟩ := boolwNw Try.underlying4 (hval 4 4 v4 (by kernel_rfl) rfl)
  obtain ⟨w0, ws0, d0, ds0, p0, q0, e0, _, _, _, hA1⟩ := trodAll_cons hA
  cases e0
  obtain ⟨w1, ws1, d1, ds1, p1, q1, e1, _, _, hT, _⟩ := trodAll_cons hA1
  cases e1
  obtain ⟨f, o, vs, m, hi, sim, ro, rv, hmax, hrow, hfl⟩ := row_argF (hval 1 22 v1 (by kernel_rfl) rfl) hT
  refine law_end Try.func7 bodyNw ntNw W (args0 := [hcA own, vS f 0 vs.length 2, .int .i64 now, .int .i64 later, .bool lost]) (by simp) (heapOf_ok _ _ hp0_ok) sim ro (.cons (VRel.plain rfl) (.cons (rv) (.cons (.flat rfl) (.cons (.flat rfl) (.cons (.flat rfl) (.nil)))))) fun W => ?_
  exact FRwp.mono (lawNw_fr f o own hown vs now later lost 2 hi hrow hfl W) fun e st h => by
    obtain ⟨q1, q2, v1, z, O, K, Nw, q3, _, _, rfl⟩ := h
    exact ⟨q1, q2, q3⟩
theorem paramsNw : ∀ t ∈ Try.f7.params.toList, Try.prog.readableRec t = true ∧ t < Try.prog.types.size := by
  have h : Try.f7.params.toList.all (fun t => Try.prog.readableRec t && decide (t < Try.prog.types.size)) = true := by kernel_rfl
  intro t ht
  have := List.all_eq_true.1 h t ht
  simpa using this
theorem liftedNw (os : Os) (started : os.Started) (H : Type) (enc : TypeId × Value → H) :
    ReturnsInHanded {} Try.checked os 7 .any (Rows.rulesNowSpec.pre6 enc Try.prog Try.f7 Rows.rulesNowRow.domain false) (Rows.rulesNowSpec.post enc Try.prog Try.f7 false true false false) :=
  law_lifted (C := Try.checked) (tb := 4) started ownNw (by kernel_rfl) Try.func7 laidNw paramsNw rfl (by kernel_rfl) Try.underlying4
    (fun ds hl => by
      match ds, hl with
      | [_, _, _, _, _], _ => rfl)
    (ChangeSpec.witness6 (enc := enc) (C := Try.checked) false ⟨#[], #[hcA (zeroV 0), nilS, .int .i64 0, .int .i64 0, .bool false], []⟩ 8 (by kernel_rfl) (by kernel_rfl) (by kernel_rfl) (by kernel_rfl))
    (fun W base args ds p hsz hval hA => walkNw W base args ds p hsz hval hA)
theorem rulesNow_proved : Rows.RulesNowSaid :=
  OpenClaim.holds_of_wide 7 Try.f7 rfl rfl rfl rfl rfl rfl rfl ⟨rfl, rfl, rfl, rfl, rfl⟩ rfl rfl rfl rfl rfl (by kernel_rfl) Try.func7 (by kernel_rfl)
    (of_decide_eq_true (by kernel_rfl)) (by unfold Func.isWrapper; first | (rw [if_pos (by decide +kernel)]; kernel_rfl) | (rw [if_neg (by decide +kernel)]; exact ⟨rfl, rfl⟩))
    (fun os started H enc _ => liftedNw os started H enc)
#print axioms rulesNow_proved
end Go.Proofs.Ytgeoommlmddgpaa.LtL
