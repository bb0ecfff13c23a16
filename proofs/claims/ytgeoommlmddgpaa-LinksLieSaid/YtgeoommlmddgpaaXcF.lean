/- LinksLie, of the given program: for every views and two heights the law returns true, and the arguments read asv they did. No condition. -/
import Derived.Test.YtgeoommlmddgpaaXcE
import Derived.Shelf.SlSortCmp.WholeK
import Derived.Test.YtgeoommlmddgpaaRows
set_option linter.unusedVariables false
set_option linter.unusedSimpArgs false
set_option maxRecDepth 100000
namespace Go.Proofs.Ytgeoommlmddgpaa.LtL
open Go Go.Proofs Go.Proofs.Ytgeoommlmddgpaa.AI Go.RowKit Go.Proofs.Ytgeoommlmddgpaa.LtA Go.Shelf
def soF : Nat → Nat
  | 6 => 44
  | 14 => 79
  | 15 => 80
  | 20 => 83
  | 21 => 84
  | 22 => 85
  | 23 => 86
  | 24 => 87
  | 25 => 88
  | 26 => 89
  | 27 => 90
  | 28 => 91
  | 29 => 92
  | 46 => 95
  | 47 => 96
  | 48 => 97
  | 49 => 98
  | 50 => 99
  | 57 => 101
  | n => n
def soT : Nat → Nat
  | 22 => 34
  | 24 => 42
  | 25 => 40
  | 39 => 87
  | 45 => 91
  | 46 => 92
  | 50 => 26
  | 53 => 98
  | 55 => 100
  | 66 => 103
  | 70 => 107
  | 76 => 109
  | 77 => 110
  | n => n
def soR : Ren := ⟨soF, soT, fun n => n⟩
theorem soL : SlLaysF0.n6 Try.prog soR where
  mixed := follows
  f6 := ⟨Try.f44.name, by kernel_rfl, by kernel_rfl⟩
  f14 := ⟨Try.f79.name, by kernel_rfl, by kernel_rfl⟩
  f15 := by kernel_rfl
  f20 := ⟨Try.f83.name, by kernel_rfl, by kernel_rfl⟩
  f21 := ⟨Try.f84.name, by kernel_rfl, by kernel_rfl⟩
  f22 := ⟨Try.f85.name, by kernel_rfl, by kernel_rfl⟩
  f23 := ⟨Try.f86.name, by kernel_rfl, by kernel_rfl⟩
  f24 := ⟨Try.f87.name, by kernel_rfl, by kernel_rfl⟩
  f25 := ⟨Try.f88.name, by kernel_rfl, by kernel_rfl⟩
  f26 := ⟨Try.f89.name, by kernel_rfl, by kernel_rfl⟩
  f27 := ⟨Try.f90.name, by kernel_rfl, by kernel_rfl⟩
  f28 := by kernel_rfl
  f29 := by kernel_rfl
  f46 := ⟨Try.f95.name, by kernel_rfl, by kernel_rfl⟩
  f47 := by kernel_rfl
  f48 := by kernel_rfl
  f49 := ⟨Try.f98.name, by kernel_rfl, by kernel_rfl⟩
  f50 := ⟨Try.f99.name, by kernel_rfl, by kernel_rfl⟩
  f57 := ⟨Try.f101.name, by kernel_rfl, by kernel_rfl⟩
  t0 := by kernel_rfl
  a0 := fun w => by kernel_rfl
  z0 := fun w => by kernel_rfl
  v0 := fun w => by kernel_rfl
  t3 := by kernel_rfl
  a3 := fun w => by kernel_rfl
  z3 := fun w => by kernel_rfl
  v3 := fun w => by kernel_rfl
  t4 := by kernel_rfl
  a4 := fun w => by kernel_rfl
  z4 := fun w => by kernel_rfl
  v4 := fun w => by kernel_rfl
  t5 := by kernel_rfl
  a5 := fun w => by kernel_rfl
  z5 := fun w => by kernel_rfl
  v5 := fun w => by kernel_rfl
  t9 := by kernel_rfl
  a9 := fun w => by kernel_rfl
  z9 := fun w => by kernel_rfl
  v9 := fun w => by kernel_rfl
  t22 := by kernel_rfl
  a22 := fun w => by kernel_rfl
  z22 := fun w => by kernel_rfl
  v22 := fun w => by kernel_rfl
  t25 := by kernel_rfl
  a25 := fun w => by kernel_rfl
  z25 := fun w => by kernel_rfl
  v25 := fun w => by kernel_rfl
  t39 := by kernel_rfl
  a39 := fun w => by kernel_rfl
  z39 := fun w => by kernel_rfl
  v39 := fun w => by kernel_rfl
  t45 := by kernel_rfl
  a45 := fun w => by kernel_rfl
  z45 := fun w => by kernel_rfl
  v45 := fun w => by kernel_rfl
  t46 := by kernel_rfl
  a46 := fun w => by kernel_rfl
  z46 := fun w => by kernel_rfl
  v46 := fun w => by kernel_rfl
  t50 := by kernel_rfl
  a50 := fun w => by kernel_rfl
  z50 := fun w => by kernel_rfl
  v50 := fun w => by kernel_rfl
  t53 := by kernel_rfl
  a53 := fun w => by kernel_rfl
  z53 := fun w => by kernel_rfl
  v53 := fun w => by kernel_rfl
  t55 := by kernel_rfl
  a55 := fun w => by kernel_rfl
  z55 := fun w => by kernel_rfl
  v55 := fun w => by kernel_rfl
  t66 := by kernel_rfl
  a66 := fun w => by kernel_rfl
  z66 := fun w => by kernel_rfl
  v66 := fun w => by kernel_rfl
  t70 := by kernel_rfl
  a70 := fun w => by kernel_rfl
  z70 := fun w => by kernel_rfl
  v70 := fun w => by kernel_rfl
  t76 := by kernel_rfl
  a76 := fun w => by kernel_rfl
  z76 := fun w => by kernel_rfl
  v76 := fun w => by kernel_rfl
  t77 := by kernel_rfl
  a77 := fun w => by kernel_rfl
  z77 := fun w => by kernel_rfl
  v77 := fun w => by kernel_rfl
end Go.Proofs.Ytgeoommlmddgpaa.LtL
namespace Go.Proofs.Ytgeoommlmddgpaa.LtL
open Go Go.Proofs Go.Proofs.Ytgeoommlmddgpaa.AI Go.RowKit Go.Proofs.Ytgeoommlmddgpaa.LtA Go.Shelf
abbrev Lev := Int × Int × Int
def lc (x : Lev) : List Value := [.int .i64 x.1, .int .i64 x.2.1, .int .i64 x.2.2]
def lrow (ls : List Lev) : List Value := ls.flatMap lc
def lB (ls : List Lev) : Blk := .cells 42 (lrow ls) false
def ordL (x y : Lev) : Int := ord3 x.1 x.2.1 x.2.2 y.1 y.2.1 y.2.2
def ltL (x y : Lev) : Bool := Go.Proofs.ltOf ordL x y
theorem ordL_lt {x y : Lev} : ordL x y < 0 ↔ (x.1 < y.1 ∨ x.1 = y.1 ∧ (x.2.1 < y.2.1 ∨ x.2.1 = y.2.1 ∧ x.2.2 < y.2.2)) := by
  obtain ⟨a, b, c⟩ := x
  obtain ⟨d, e, f⟩ := y
  show ord3 a b c d e f < 0 ↔ (a < d ∨ a = d ∧ (b < e ∨ b = e ∧ c < f))
  unfold ord3 or3 cmp3
  rcases Int.lt_trichotomy a d with h1 | h1 | h1
  · have : ¬ (a > d) := by omega
    simp [h1]
  · subst h1
    rcases Int.lt_trichotomy b e with h2 | h2 | h2
    · simp [h2]
    · subst h2
      rcases Int.lt_trichotomy c f with h3 | h3 | h3
      · simp [h3]
      · subst h3; simp
      · have q : ¬ (c < f) := by omega
        simp [h3, q]
    · have q : ¬ (b < e) := by omega
      have q2 : ¬ (b = e) := by omega
      simp [h2, q, q2]
  · have q : ¬ (a < d) := by omega
    have q2 : ¬ (a = d) := by omega
    simp [h1, q, q2]
theorem ltL_iff {x y : Lev} : ltL x y = true ↔ (x.1 < y.1 ∨ x.1 = y.1 ∧ (x.2.1 < y.2.1 ∨ x.2.1 = y.2.1 ∧ x.2.2 < y.2.2)) := by
  unfold ltL Go.Proofs.ltOf
  rw [decide_eq_true_iff, ordL_lt]
theorem ltL_not {x y : Lev} : ltL x y = false ↔ ¬ (x.1 < y.1 ∨ x.1 = y.1 ∧ (x.2.1 < y.2.1 ∨ x.2.1 = y.2.1 ∧ x.2.2 < y.2.2)) := by
  rw [← ltL_iff]; simp
theorem swoL : Go.Sort.SWO (Go.Proofs.ltOf ordL) where
  irrefl x := by
    show ltL x x = false
    rw [ltL_not]; omega
  trans x y z h1 h2 := by
    have h1 := ltL_iff.1 h1
    have h2 := ltL_iff.1 h2
    exact ltL_iff.2 (by omega)
  ntrans x y z h1 h2 := by
    have h1 := ltL_not.1 h1
    have h2 := ltL_not.1 h2
    exact ltL_not.2 (by omega)
theorem ltL_eq {x y : Lev} (h1 : ltL x y = false) (h2 : ltL y x = false) : x = y := by
  rw [ltL_not] at h1 h2
  obtain ⟨a, b, c⟩ := x
  obtain ⟨d, e, f⟩ := y
  simp only at h1 h2
  have : a = d := by omega
  have : b = e := by omega
  have : c = f := by omega
  simp [*]
def sortL (ls : List Lev) : List Lev := ls.mergeSort fun x y => !Go.Proofs.ltOf ordL y x
theorem sortL_len (ls : List Lev) : (sortL ls).length = ls.length := List.length_mergeSort ..
theorem lc_len (x : Lev) : (lc x).length = 3 := rfl
theorem lrow_len (ls : List Lev) : (lrow ls).length = ls.length * 3 := by unfold lrow; rw [flat_len lc 3 ls fun _ _ => rfl]
theorem lrow_inert (ls : List Lev) : (lrow ls).all inert = true := by
  refine List.all_eq_true.2 fun v hv => ?_
  obtain ⟨x, -, hx⟩ := List.mem_flatMap.1 hv
  simp only [lc, List.mem_cons, List.not_mem_nil, or_false] at hx
  rcases hx with rfl | rfl | rfl <;> rfl
theorem lB_inert (ls : List Lev) : inertB (lB ls) = true := lrow_inert ls
theorem grow_of_bel {w w' : World} (b : Bel w.heap.size w w') : ∃ q os, w' = Go.Sort.grow (w.drewN q) os := by
  refine ⟨w'.drawn - w.drawn, w'.heap.extract w.heap.size w'.heap.size, ?_⟩
  have hd := b.tape.dr trivial
  have hh : w'.heap = w.heap ++ w'.heap.extract w.heap.size w'.heap.size := by
    apply Array.ext_getElem?
    intro k
    by_cases hk : k < w.heap.size
    · rw [Array.getElem?_append_left hk, b.block k hk]
    · rw [Array.getElem?_append_right (by omega), Array.getElem?_extract]
      have hs := b.size
      by_cases hk2 : k < w'.heap.size
      · rw [if_pos (by omega)]; congr 1; omega
      · rw [if_neg (by omega)]; exact Array.getElem?_eq_none (by omega)
  obtain ⟨h1, t1, d1, o1, u1⟩ := w
  obtain ⟨h2, t2, d2, o2, u2⟩ := w'
  have e1 : o2 = o1 := b.os
  have e2 : t2 = t1 := b.tape.eq
  have e3 : u2 = u1 := b.output
  have e4 : d1 + (d2 - d1) = d2 := by have : d1 ≤ d2 := hd; omega
  subst e1; subst e2; subst e3
  show World.mk _ _ _ _ _ = World.mk _ _ _ _ _
  simp only [World.drewN, e4]
  exact congrArg (fun h => World.mk h _ _ _ _) hh
theorem cmpLays (blk off size : Nat) (w : World) : CmpLays Try.prog 25 #[] lc 3 ordL blk off size w := fun m os dk _ x y =>
  (hk30.run [.agg (lc x).toArray, .agg (lc y).toArray] (.int .i64 (ordL x y)) rfl _).mono fun e w' h => ⟨h.1, grow_of_bel h.2⟩
theorem flatL (ls : List Lev) : (Go.Sort.flatK lc 3 ls.toArray).toList = lrow ls := by
  apply List.ext_getElem?
  intro t
  have hs : (Go.Sort.flatK lc 3 ls.toArray).size = ls.length * 3 := by rw [Go.Sort.size_flatK]; simp
  by_cases ht : t < ls.length * 3
  · have hq : t / 3 < ls.length := by omega
    have hg : ls[t / 3]? = some ls[t / 3] := List.getElem?_eq_getElem hq
    have h1 := flat_get lc 3 ls (fun _ _ => rfl) (t / 3) (t % 3) _ hg (by omega)
    rw [show t / 3 * 3 + t % 3 = t by omega] at h1
    show _ = (ls.flatMap lc)[t]?
    rw [h1, Array.getElem?_toList, Array.getElem?_eq_getElem (by omega), ← getElem!_pos _ t (by omega), Go.Sort.get_flatK _ _ _ _ (by simpa using ht)]
    have e : ls.toArray[t / 3]! = ls[t / 3] := by rw [getElem!_pos _ _ (by simpa using hq)]; simp
    rw [e]
    have h3 : t % 3 < (lc ls[t / 3]).length := by rw [lc_len]; omega
    rw [List.getElem?_eq_getElem h3, getElem!_pos (lc ls[t / 3]) (t % 3) h3]
  · rw [Array.getElem?_toList, Array.getElem?_eq_none (by omega), List.getElem?_eq_none (by rw [lrow_len]; omega)]
open Classical in
noncomputable def gSF : HeapFn := fun args hp => match args with
  | [.slice (some ⟨b, 0, none⟩) n c, f] => if h : f = .func (.func 25) #[] #[] ∧ ∃ ls : List Lev, hp.get b = some (lB ls) ∧ n = ls.length ∧ 0 < n ∧ n < 4611686018427387904 then some (.tuple #[], hp.put b (lB (sortL h.2.choose))) else none
  | _ => none
theorem lrow_inj : ∀ {us vs : List Lev}, lrow us = lrow vs → us = vs
  | [], [], _ => rfl
  | [], v :: vs, h => by simp [lrow, lc] at h
  | u :: us, [], h => by simp [lrow, lc] at h
  | u :: us, v :: vs, h => by
    simp only [lrow, List.flatMap_cons, lc, List.cons_append, List.nil_append, List.cons.injEq, Value.int.injEq, true_and] at h
    obtain ⟨h1, h2, h3, h4⟩ := h
    rw [lrow_inj (us := us) (vs := vs) h4]
    obtain ⟨a, b, c⟩ := u
    obtain ⟨d, e, f⟩ := v
    simp only at h1 h2 h3
    rw [h1, h2, h3]
theorem gSF_of {ls : List Lev} {b n c : Nat} {hp : Hp} (hb : hp.get b = some (lB ls)) (hn : n = ls.length) (h0 : 0 < n) (h1 : n < 4611686018427387904) : gSF [.slice (some ⟨b, 0, none⟩) n c, .func (.func 25) #[] #[]] hp = some (.tuple #[], hp.put b (lB (sortL ls))) := by
  unfold gSF
  have hx : Value.func (.func 25) #[] #[] = .func (.func 25) #[] #[] ∧ ∃ ls : List Lev, hp.get b = some (lB ls) ∧ n = ls.length ∧ 0 < n ∧ n < 4611686018427387904 := ⟨rfl, ls, hb, hn, h0, h1⟩
  simp only
  rw [dif_pos hx]
  have e := hx.2.choose_spec.1
  have e2 := hb.symm.trans e
  unfold lB at e2
  injection e2 with e2
  injection e2 with _ e2 _
  have e3 := lrow_inj e2
  exact congrArg (fun l => some (Value.tuple #[], hp.put b (lB (sortL l)))) e3.symm
theorem hkSF : CallGoal Try.prog 44 gSF := by
  intro args hp v hp' he hk
  unfold gSF at he
  split at he
  case h_2 => cases he
  rename_i b n c f
  split at he
  case isFalse => cases he
  rename_i hx
  obtain ⟨hf, hex⟩ := hx
  obtain ⟨hb, hn, hn0, hn1⟩ := hex.choose_spec
  generalize hex.choose = ls at *
  cases he
  subst hf
  have hlt := lt_of_get hk hb
  have hkput : (hp.put b (lB (sortL ls))).ok := fun c hc => by
    rw [Hp.sz_put] at hc
    rw [Hp.get_put, if_neg (by omega)]
    exact hk c hc
  refine ⟨hkput, by rw [Hp.sz_put]; exact Nat.le_refl _, fun m h w args' hfr s ra => .inr ⟨run_callFunc Try.func44 (by rfl) (by kernel_rfl), ?_⟩⟩
  obtain ⟨v1, bs1, e1, r1, q1⟩ := ra.of_cons
  obtain ⟨v2, bs2, e2, r2, q2⟩ := q1.of_cons
  have e3 := q2.of_nil
  subst e3
  obtain ⟨b', off, r, off', cap, ea, rfl, hcap, hd⟩ := r1.of_slice
  cases ea
  have gb := ovr_sub hk h b _ hb
  rcases hd with hd | ⟨δ, E, hm, hoff, -⟩
  · rw [gb] at hd; cases hd
  · have ho : off' = δ := by
      rcases hoff with h1 | h1
      · omega
      · omega
    subst ho
    have ev2 : v2 = .func (.func 25) #[] #[] := by
      obtain ⟨a', c', rfl, ⟨s1, _⟩, ⟨s3, _⟩⟩ := r2.of_func
      have z1 : a' = #[] := Array.eq_empty_of_size_eq_zero (by simpa using s1.symm)
      have z2 : c' = #[] := Array.eq_empty_of_size_eq_zero (by simpa using s3.symm)
      subst z1; subst z2; rfl
    subst ev2
    have eargs : args' = #[.slice (some ⟨r, off', none⟩) n cap, .func (.func 25) #[] #[]] := by
      have : args'.toList = [.slice (some ⟨r, off', none⟩) n cap, .func (.func 25) #[] #[]] := by rw [e1, e2]
      cases args'; simp_all
    subst eargs
    obtain ⟨o, ho', hbr⟩ := s.dom b _ hm
    rw [gb] at ho'; cases ho'
    obtain ⟨cc, fr, g1, g2, g3, g4, g5⟩ := hbr
    have hlen : (lrow ls).length = ls.length * 3 := lrow_len ls
    simp only at g1 g2 g3 g4 g5
    have hr : r < w.heap.size := (Array.getElem?_eq_some_iff.1 g1).1
    have hH : Go.Sort.HoldsK lc 3 w r off' ls.toArray := by
      intro j hj
      have hj' : j < ls.length * 3 := by rw [Go.Sort.size_flatK] at hj; simpa using hj
      have hjL : j < (lrow ls).length := by omega
      have hcj : off' + j < cc.size := by omega
      have hv := g4 j _ cc[off' + j] (List.getElem?_eq_getElem hjL) (Array.getElem?_eq_getElem hcj)
      have hin := List.all_eq_true.1 (lrow_inert ls) _ (List.getElem_mem hjL)
      have ev : cc[off' + j] = (lrow ls)[j] := by
        obtain ⟨x, -, hx⟩ := List.mem_flatMap.1 (List.getElem_mem hjL)
        simp only [lc, List.mem_cons, List.not_mem_nil, or_false] at hx
        rcases hx with hx | hx | hx <;> (rw [hx] at hv ⊢; exact hv.of_int)
      constructor
      · rw [cell_of g1, Array.getElem?_eq_getElem hcj, ev]
        have := congrArg (fun l => l[j]?) (flatL ls)
        simp only [Array.getElem?_toList] at this
        rw [Array.getElem?_eq_getElem hj, List.getElem?_eq_getElem hjL] at this
        rw [getElem!_pos _ j hj]
        simpa using this.symm
      · unfold World.frozen?
        rw [g1]
        have := g5.1 trivial (off' + j) (by omega)
        obtain ⟨lo, hi⟩ := fr
        simp only at this ⊢
        simp only [Bool.and_eq_false_imp, decide_eq_true_eq, decide_eq_false_iff_not]
        intro q; omega
    have eg : ∀ args w, (callFunc 25 args).run Try.prog w = .ok (.enter 25 args) w := fun args w => run_callFunc Try.func25 (by rfl) (by kernel_rfl)
    have hcon := AnyQ.slices_SortFunc soL 3 (fun w => by kernel_rfl) (fun w => by kernel_rfl) lc (fun _ => rfl) (fun x v hv => by simp [lc] at hv; rcases hv with rfl | rfl | rfl <;> rfl) ordL swoL 25 #[] r off' cap ls.toArray w eg (cmpLays r off' _ w) hH hr (by simp; omega)
    change Calls Try.prog 44 _ _ _ at hcon
    rw [show ls.toArray.size = n by simp [hn]] at hcon
    refine hcon.mono fun e w' hh => ?_
    obtain ⟨rfl, d', q, os, hp1, hs1, rfl⟩ := hh
    have hd' : d'.toList = sortL ls := by
      have := Go.Sort.sorted_unique_holds swoL (fun x y => ltL_eq) ls.toArray d' (by rw [show ls.toArray.size = n by simp [hn]]; exact hp1) (by rw [show ls.toArray.size = n by simp [hn]]; exact hs1)
      simpa [sortL] using this
    have hds : d'.size = n := by
      have := congrArg List.length hd'
      rw [sortL_len, Array.length_toList] at this
      omega
    have ed : d' = (sortL ls).toArray := by rw [← hd']
    refine ⟨.tuple #[], rfl, m, ?_, .tuple rfl fun i v v' q1 _ => by simp at q1⟩
    -- the world behind it
    have hheap : ∀ k, (Go.Proofs.sortWorldK lc 3 w r off' q d' os).heap[k]? = if k < w.heap.size then (if k = r then (w.heap[k]?).map (Go.Sort.onCells (Go.Sort.putCells id off' (Go.Sort.flatK lc 3 d'))) else w.heap[k]?) else os[k - w.heap.size]? := by
      intro k
      unfold Go.Proofs.sortWorldK Go.Sort.grow Go.Sort.putRowK Go.Sort.putRow Go.Sort.mapBlock Go.Sort.ahead
      simp only [Array.getElem?_append, Array.size_modify, Array.getElem?_modify]
      by_cases hk1 : k < w.heap.size
      · rw [if_pos hk1, if_pos hk1]
        by_cases hk2 : r = k
        · subst hk2; simp
        · rw [if_neg hk2, if_neg (fun e => hk2 e.symm)]
      · rw [if_neg hk1, if_neg hk1]
    have kp : Keeps ⟨w, fun k => k = (r, off', E).1⟩ (Go.Proofs.sortWorldK lc 3 w r off' q d' os) := by
      refine ⟨rfl, ⟨rfl, fun _ => Nat.le_add_right _ _⟩, rfl, ?_, fun k hk1 hne => ?_⟩
      · unfold Go.Proofs.sortWorldK Go.Sort.grow Go.Sort.putRowK Go.Sort.putRow Go.Sort.mapBlock Go.Sort.ahead; simp
      · rw [hheap, if_pos hk1, if_neg hne]
    have e0 : (heapOf [lB (sortL ls), .dead] hp0).get 0 = some (lB (sortL ls)) := by rw [heapOf0_get]; rfl
    have fsz : (Go.Sort.flatK lc 3 d').size = n * 3 := by rw [Go.Sort.size_flatK, hds]
    have hsim : Sim (fun b => if b = 0 then some (r, off', E) else none) (heapOf [lB (sortL ls), .dead] hp0).get (Go.Proofs.sortWorldK lc 3 w r off' q d' os) := by
      refine ⟨fun b x hx => ?_, fun b b' x x' hx hx' _ _ _ => ?_⟩
      · by_cases hb0 : b = 0
        · subst hb0
          simp only [if_true, Option.some.injEq] at hx
          subst hx
          refine ⟨_, e0, Go.Sort.putCells id off' (Go.Sort.flatK lc 3 d') cc, fr, ?_, ?_, ?_, fun i u u' p1 p2 => ?_, ?_⟩
          · rw [hheap, if_pos hr, if_pos rfl, g1]; rfl
          · rw [lrow_len, sortL_len]; rw [hlen] at g2; exact g2
          · show E ≤ _
            simpa [Go.Sort.putCells] using g3
          · have hi : i < (lrow (sortL ls)).length := (List.getElem?_eq_some_iff.1 p1).1
            have hi' : i < n * 3 := by rw [lrow_len, sortL_len] at hi; omega
            have hci : off' + i < cc.size := by omega
            have hu : u' = (Go.Sort.flatK lc 3 d')[i]! := by
              simp only [Go.Sort.putCells, Array.getElem?_mapIdx, Array.getElem?_eq_getElem hci, Option.map_some, Option.some.injEq] at p2
              rw [if_pos ⟨by omega, by omega⟩, show off' + i - off' = i by omega] at p2
              exact p2.symm
            have hfl : (Go.Sort.flatK lc 3 d')[i]? = some u := by
              have := congrArg (fun l => l[i]?) (flatL (sortL ls))
              simp only [Array.getElem?_toList] at this
              rw [ed, this, p1]
            have : u' = u := by
              rw [hu, getElem!_pos _ i (by omega)]
              rw [Array.getElem?_eq_getElem (by omega)] at hfl
              simpa using hfl
            subst this
            have hin := List.all_eq_true.1 (lrow_inert (sortL ls)) _ (List.mem_of_getElem? p1)
            obtain ⟨x, -, hx⟩ := List.mem_flatMap.1 (List.mem_of_getElem? p1)
            simp only [lc, List.mem_cons, List.not_mem_nil, or_false] at hx
            rcases hx with rfl | rfl | rfl <;> exact .flat rfl
          · refine ⟨fun _ j hj => g5.1 trivial j (by simpa [Go.Sort.putCells] using hj), fun h => by cases h⟩
        · rw [if_neg hb0] at hx; cases hx
      · by_cases hb0 : b = 0
        · by_cases hb1 : b' = 0
          · rw [hb0, hb1]
          · rw [if_neg hb1] at hx'; cases hx'
        · rw [if_neg hb0] at hx; cases hx
    exact putIn_go (x := (r, off', E)) hk s hb hm kp hsim (by simp) e0 (lrow_inert _)
end Go.Proofs.Ytgeoommlmddgpaa.LtL
namespace Go.Proofs.Ytgeoommlmddgpaa.LtL
open Go Go.Proofs Go.Proofs.Ytgeoommlmddgpaa.AI Go.RowKit Go.Proofs.Ytgeoommlmddgpaa.Sort Go.Proofs.Ytgeoommlmddgpaa.LtA
def lA (x : Lev) : Value := .agg ⟨lc x⟩
def slL (off n : Nat) : Value := .slice (some ⟨0, off, none⟩) n 11
noncomputable def E45 : Ext := extH Try.prog []
theorem E45_ok : ExtOk Try.prog E45 := extH_ok .nil
noncomputable def fb45 : Code := (Try.f45.body).getD .skip
theorem ntmps45 : Try.f45.ntmps = 61 := by kernel_rfl
theorem q45 (v : Value) (O : List Blk) (g : Nat → Value) : retVal Try.prog Try.f45 (stOf 61 g [(2, v)] O) = some v := by kernel_rfl
def cT : Code → Code
  | .cond _ a _ => a
  | c => c
noncomputable def k45a : Code := sL (fb45)
theorem sk45a : codeSafe Try.prog 61 k45a = true := by kernel_rfl
noncomputable def k45b : Code := sL (sL (sR (fb45)))
theorem sk45b : codeSafe Try.prog 61 k45b = true := by kernel_rfl
noncomputable def k45c : Code := sR (sL (sR (fb45)))
theorem sk45c : codeSafe Try.prog 61 k45c = true := by kernel_rfl
noncomputable def k45d : Code := sL (sL (sR (sR (fb45))))
theorem sk45d : codeSafe Try.prog 61 k45d = true := by kernel_rfl
noncomputable def k45La : Code := sL (unL (unB (sR (sL (sR (sR (fb45)))))))
theorem sk45La : codeSafe Try.prog 61 k45La = true := by kernel_rfl
noncomputable def k45Lba : Code := sL (unB (sL (sR (unL (unB (sR (sL (sR (sR (fb45))))))))))
theorem sk45Lba : codeSafe Try.prog 61 k45Lba = true := by kernel_rfl
noncomputable def k45Lbb : Code := cT (sR (unB (sL (sR (unL (unB (sR (sL (sR (sR (fb45)))))))))))
noncomputable def k45Lc : Code := sR (sR (unL (unB (sR (sL (sR (sR (fb45))))))))
noncomputable def k45I0 : Code := sL (sL (sR (cT (sR (unB (sL (sR (unL (unB (sR (sL (sR (sR (fb45))))))))))))))
theorem sk45I0 : codeSafe Try.prog 61 k45I0 = true := by kernel_rfl
noncomputable def k45IL : Code := unL (unB (sR (sL (sR (cT (sR (unB (sL (sR (unL (unB (sR (sL (sR (sR (fb45))))))))))))))))
theorem sk45IL : codeSafe Try.prog 61 k45IL = true := by kernel_rfl
noncomputable def k45Ie : Code := sR (sR (cT (sR (unB (sL (sR (unL (unB (sR (sL (sR (sR (fb45)))))))))))))
theorem sk45Ie : codeSafe Try.prog 61 k45Ie = true := by kernel_rfl
noncomputable def k45z : Code := sR (sR (sR (fb45)))
theorem sk45z : codeSafe Try.prog 61 k45z = true := by kernel_rfl
noncomputable abbrev code45 : Code := .seq k45a (.seq (.seq k45b k45c) (.seq (.seq k45d (.block 0 (.loop (.seq k45La (.seq (.block 1 (.seq k45Lba (.cond (.tmp 25) (.seq (sL k45Lbb) (.seq (.seq k45I0 (.block 2 (.loop k45IL))) k45Ie)) .skip))) k45Lc))))) k45z))
theorem codeB45 : Try.f45.body = some code45 := by kernel_rfl
section
theorem A_0 (us : List Lev) (n : Nat) : (execN Try.prog (aCall Try.prog E45 5) (callN Try.prog E45 5) 30 k45a ⟨tmsOf [slL 0 n] 0 .leaf, heapOf [lB us, .dead] hp0, []⟩ (acc0 [])).map (fun y => (look2 1 [0] [0] (y.1, y.2.1), y.2.2.q, y.2.2.r, y.2.2.x)) =
    some ((.normal, [lB us], [(0, slL 0 n)], true), [], [], []) := by kernel_rfl
end
section
theorem B_0 (us : List Lev) (n : Nat) (g : Nat → Value) : (execN Try.prog (aCall Try.prog E45 5) (callN Try.prog E45 5) 30 (.seq k45b k45c) (stOf 61 g [(0, slL 0 n)] [lB us]) (acc0 [(2, .v (.bool true))])).map (fun y => (look2 1 [0] [2] (y.1, y.2.1), y.2.2.q, y.2.2.r, y.2.2.x)) =
    some ((.ret, [lB us], [(2, slL 0 n)], true), [(some (.bool (decide ((Int.ofNat n) < (Int.ofNat 2)))), .bool true)], [], []) := by kernel_rfl
theorem B_1 (us : List Lev) (n : Nat) (g : Nat → Value) : (execN Try.prog (aCall Try.prog E45 5) (callN Try.prog E45 5) 30 (.seq k45b k45c) (stOf 61 g [(0, slL 0 n)] [lB us]) (acc0 [(2, .v (.bool false))])).map (fun y => (look2 1 [0] [0] (y.1, y.2.1), y.2.2.q, y.2.2.r, y.2.2.x)) =
    some ((.normal, [lB us], [(0, slL 0 n)], true), [(some (.bool (decide ((Int.ofNat n) < (Int.ofNat 2)))), .bool false)], [], []) := by kernel_rfl
end
section
theorem D_0 (us : List Lev) (n : Nat) (g : Nat → Value) : (execN Try.prog (aCall Try.prog E45 5) (callN Try.prog E45 5) 30 k45d (stOf 61 g [(0, slL 0 n)] [lB us]) (acc0 [])).map (fun y => (look2 1 [0] [0, 3] (y.1, y.2.1), y.2.2.q, y.2.2.r, y.2.2.x)) =
    some ((.normal, [lB us], [(0, slL 0 n), (3, iN 1)], true), [], [], []) := by kernel_rfl
end
section
theorem X_0 (us : List Lev) (n q : Nat) (g : Nat → Value) : (execN Try.prog (aCall Try.prog E45 5) (callN Try.prog E45 5) 30 k45La (stOf 61 g [(0, slL 0 n), (3, iN (q + 1))] [lB us]) (acc0 [(3, .v (.bool true))])).map (fun y => (look2 1 [0] [0, 3] (y.1, y.2.1), y.2.2.q, y.2.2.r, y.2.2.x)) =
    some ((.normal, [lB us], [(0, slL 0 n), (3, iN (q + 1))], true), [(some (.bool (decide ((Int.ofNat (q + 1)) < (Int.ofNat n)))), .bool true)], [], []) := by kernel_rfl
theorem X_1 (us : List Lev) (n q : Nat) (g : Nat → Value) : (execN Try.prog (aCall Try.prog E45 5) (callN Try.prog E45 5) 30 k45La (stOf 61 g [(0, slL 0 n), (3, iN (q + 1))] [lB us]) (acc0 [(3, .v (.bool false))])).map (fun y => (look2 1 [0] [0, 3] (y.1, y.2.1), y.2.2.q, y.2.2.r, y.2.2.x)) =
    some ((.exit 0, [lB us], [(0, slL 0 n), (3, iN (q + 1))], true), [(some (.bool (decide ((Int.ofNat (q + 1)) < (Int.ofNat n)))), .bool false)], [], []) := by kernel_rfl
end
section
theorem Y_0 (us : List Lev) (n q : Nat) (x y : Lev) (g : Nat → Value) : (execN Try.prog (aCall Try.prog E45 5) (callN Try.prog E45 5) 30 k45Lba (stOf 61 g [(0, slL 0 n), (3, iN (q + 1))] [lB us]) (acc0 [(9, .v (.bool true)), (8, .v (lA y)), (7, .v (pb 0 (q * 3))), (6, .v (iN q)), (3, .v (lA x)), (2, .v (pb 0 ((q + 1) * 3)))])).map (fun y => (look2 1 [0] [0, 3, 25] (y.1, y.2.1), y.2.2.q, y.2.2.r, y.2.2.x)) =
    some ((.normal, [lB us], [(0, slL 0 n), (3, iN (q + 1)), (25, .bool true)], true), [(fstV ((aBin Try.prog .eql 42 (lA x) (lA y)).map fun v => (v, none)), .bool true), (aLoad Try.prog (heapOf [lB us, .dead] hp0).get 42 (pb 0 (q * 3)), lA y), (fstV ((aIndexAddr Try.prog 34 (slL 0 n) (iN q)).map fun v => (v, none)), pb 0 (q * 3)), (some (.int .i64 (wrapF .i64 (Int.ofNat (q + 1) - Int.ofNat 1))), iN q), (aLoad Try.prog (heapOf [lB us, .dead] hp0).get 42 (pb 0 ((q + 1) * 3)), lA x), (fstV ((aIndexAddr Try.prog 34 (slL 0 n) (iN (q + 1))).map fun v => (v, none)), pb 0 ((q + 1) * 3))], [], []) := by kernel_rfl
end
noncomputable abbrev kR45 : Code := .seq (.block 1 (.seq k45Lba (.cond (.tmp 25) (.seq (sL k45Lbb) (.seq (.seq k45I0 (.block 2 (.loop k45IL))) k45Ie)) .skip))) k45Lc
theorem sR45 : codeSafe Try.prog 61 kR45 = true := by kernel_rfl
section
theorem V_0 (us : List Lev) (n q : Nat) (x y : Lev) (g : Nat → Value) : (execN Try.prog (aCall Try.prog E45 5) (callN Try.prog E45 5) 30 kR45 (stOf 61 g [(0, slL 0 n), (3, iN (q + 1))] [lB us]) (acc0 [(11, .v (iN ((q + 1) + 1))), (9, .v (.bool false)), (8, .v (lA y)), (7, .v (pb 0 (q * 3))), (6, .v (iN q)), (3, .v (lA x)), (2, .v (pb 0 ((q + 1) * 3)))])).map (fun y => (look2 1 [0] [0, 3] (y.1, y.2.1), y.2.2.q, y.2.2.r, y.2.2.x)) =
    some ((.normal, [lB us], [(0, slL 0 n), (3, iN ((q + 1) + 1))], true), [(some (.int .i64 (wrapF .i64 (Int.ofNat (q + 1) + Int.ofNat 1))), iN ((q + 1) + 1)), (fstV ((aBin Try.prog .eql 42 (lA x) (lA y)).map fun v => (v, none)), .bool false), (aLoad Try.prog (heapOf [lB us, .dead] hp0).get 42 (pb 0 (q * 3)), lA y), (fstV ((aIndexAddr Try.prog 34 (slL 0 n) (iN q)).map fun v => (v, none)), pb 0 (q * 3)), (some (.int .i64 (wrapF .i64 (Int.ofNat (q + 1) - Int.ofNat 1))), iN q), (aLoad Try.prog (heapOf [lB us, .dead] hp0).get 42 (pb 0 ((q + 1) * 3)), lA x), (fstV ((aIndexAddr Try.prog 34 (slL 0 n) (iN (q + 1))).map fun v => (v, none)), pb 0 ((q + 1) * 3))], [], []) := by kernel_rfl
end
section
end
section
theorem T_0 (us : List Lev) (n q : Nat) (g : Nat → Value) : (execN Try.prog (aCall Try.prog E45 5) (callN Try.prog E45 5) 30 (sL k45Lbb) (stOf 61 g [(0, slL 0 n), (3, iN (q + 1))] [lB us]) (acc0 [(2, .v (slL ((q + 1) * 3) (n - (q + 1))))])).map (fun y => (look2 1 [0] [0, 3, 4] (y.1, y.2.1), y.2.2.q, y.2.2.r, y.2.2.x)) =
    some ((.normal, [lB us], [(0, slL 0 n), (3, iN (q + 1)), (4, slL ((q + 1) * 3) (n - (q + 1)))], true), [(fstV ((aSlice Try.prog 34 (slL 0 n) (some (iN (q + 1))) none none).map fun v => (v, none)), slL ((q + 1) * 3) (n - (q + 1)))], [], []) := by kernel_rfl
end
section
theorem I_0 (us : List Lev) (n p : Nat) (g : Nat → Value) : (execN Try.prog (aCall Try.prog E45 5) (callN Try.prog E45 5) 30 k45I0 (stOf 61 g [(0, slL 0 n), (3, iN (p + 1)), (4, slL ((p + 1) * 3) (n - (p + 1)))] [lB us]) (acc0 [])).map (fun y => (look2 1 [0] [0, 3, 4, 5] (y.1, y.2.1), y.2.2.q, y.2.2.r, y.2.2.x)) =
    some ((.normal, [lB us], [(0, slL 0 n), (3, iN (p + 1)), (4, slL ((p + 1) * 3) (n - (p + 1))), (5, iN 1)], true), [], [], []) := by kernel_rfl
end
section
theorem J_0 (us vs : List Lev) (n p j m : Nat) (x y : Lev) (g : Nat → Value) : (execN Try.prog (aCall Try.prog E45 5) (callN Try.prog E45 5) 30 k45IL (stOf 61 g [(0, slL 0 n), (3, iN m), (4, slL ((p + 1) * 3) (n - (p + 1))), (5, iN (j + 1))] [lB us]) (acc0 [(26, .v (iN ((j + 1) + 1))), (23, .v (iN (m + 1))), (21, .e undef [.put 0 (lB vs)]), (20, .v (pb 0 (m * 3))), (19, .v (lA x)), (18, .v (pb 0 (((p + 1) + (j + 1)) * 3))), (13, .v (.bool true)), (12, .v (lA y)), (11, .v (pb 0 (((p + 1) + j) * 3))), (10, .v (iN j)), (7, .v (lA x)), (6, .v (pb 0 (((p + 1) + (j + 1)) * 3))), (3, .v (.bool true))])).map (fun y => (look2 1 [0] [0, 3, 4, 5] (y.1, y.2.1), y.2.2.q, y.2.2.r, y.2.2.x)) =
    some ((.normal, [lB vs], [(0, slL 0 n), (3, iN (m + 1)), (4, slL ((p + 1) * 3) (n - (p + 1))), (5, iN ((j + 1) + 1))], true), [(some (.int .i64 (wrapF .i64 (Int.ofNat (j + 1) + Int.ofNat 1))), iN ((j + 1) + 1)), (some (.int .i64 (wrapF .i64 (Int.ofNat m + Int.ofNat 1))), iN (m + 1)), (fstV ((aIndexAddr Try.prog 34 (slL 0 n) (iN m)).map fun v => (v, none)), pb 0 (m * 3)), (aLoad Try.prog (heapOf [lB us, .dead] hp0).get 42 (pb 0 (((p + 1) + (j + 1)) * 3)), lA x), (fstV ((aIndexAddr Try.prog 34 (slL ((p + 1) * 3) (n - (p + 1))) (iN (j + 1))).map fun v => (v, none)), pb 0 (((p + 1) + (j + 1)) * 3)), (fstV ((aBin Try.prog .neq 42 (lA x) (lA y)).map fun v => (v, none)), .bool true), (aLoad Try.prog (heapOf [lB us, .dead] hp0).get 42 (pb 0 (((p + 1) + j) * 3)), lA y), (fstV ((aIndexAddr Try.prog 34 (slL ((p + 1) * 3) (n - (p + 1))) (iN j)).map fun v => (v, none)), pb 0 (((p + 1) + j) * 3)), (some (.int .i64 (wrapF .i64 (Int.ofNat (j + 1) - Int.ofNat 1))), iN j), (aLoad Try.prog (heapOf [lB us, .dead] hp0).get 42 (pb 0 (((p + 1) + (j + 1)) * 3)), lA x), (fstV ((aIndexAddr Try.prog 34 (slL ((p + 1) * 3) (n - (p + 1))) (iN (j + 1))).map fun v => (v, none)), pb 0 (((p + 1) + (j + 1)) * 3)), (some (.bool (decide ((Int.ofNat (j + 1)) < (Int.ofNat (n - (p + 1)))))), .bool true)], [], [((aStore Try.prog (heapOf [lB us, .dead] hp0).get 42 (pb 0 (m * 3)) (lA x)).map (fun es => (undef, es)), (undef, [.put 0 (lB vs)]))]) := by kernel_rfl
theorem J_1 (us vs : List Lev) (n p j m : Nat) (x y : Lev) (g : Nat → Value) : (execN Try.prog (aCall Try.prog E45 5) (callN Try.prog E45 5) 30 k45IL (stOf 61 g [(0, slL 0 n), (3, iN m), (4, slL ((p + 1) * 3) (n - (p + 1))), (5, iN (j + 1))] [lB us]) (acc0 [(15, .v (iN ((j + 1) + 1))), (13, .v (.bool false)), (12, .v (lA y)), (11, .v (pb 0 (((p + 1) + j) * 3))), (10, .v (iN j)), (7, .v (lA x)), (6, .v (pb 0 (((p + 1) + (j + 1)) * 3))), (3, .v (.bool true))])).map (fun y => (look2 1 [0] [0, 3, 4, 5] (y.1, y.2.1), y.2.2.q, y.2.2.r, y.2.2.x)) =
    some ((.normal, [lB us], [(0, slL 0 n), (3, iN m), (4, slL ((p + 1) * 3) (n - (p + 1))), (5, iN ((j + 1) + 1))], true), [(some (.int .i64 (wrapF .i64 (Int.ofNat (j + 1) + Int.ofNat 1))), iN ((j + 1) + 1)), (fstV ((aBin Try.prog .neq 42 (lA x) (lA y)).map fun v => (v, none)), .bool false), (aLoad Try.prog (heapOf [lB us, .dead] hp0).get 42 (pb 0 (((p + 1) + j) * 3)), lA y), (fstV ((aIndexAddr Try.prog 34 (slL ((p + 1) * 3) (n - (p + 1))) (iN j)).map fun v => (v, none)), pb 0 (((p + 1) + j) * 3)), (some (.int .i64 (wrapF .i64 (Int.ofNat (j + 1) - Int.ofNat 1))), iN j), (aLoad Try.prog (heapOf [lB us, .dead] hp0).get 42 (pb 0 (((p + 1) + (j + 1)) * 3)), lA x), (fstV ((aIndexAddr Try.prog 34 (slL ((p + 1) * 3) (n - (p + 1))) (iN (j + 1))).map fun v => (v, none)), pb 0 (((p + 1) + (j + 1)) * 3)), (some (.bool (decide ((Int.ofNat (j + 1)) < (Int.ofNat (n - (p + 1)))))), .bool true)], [], []) := by kernel_rfl
theorem J_2 (us vs : List Lev) (n p j m : Nat) (x y : Lev) (g : Nat → Value) : (execN Try.prog (aCall Try.prog E45 5) (callN Try.prog E45 5) 30 k45IL (stOf 61 g [(0, slL 0 n), (3, iN m), (4, slL ((p + 1) * 3) (n - (p + 1))), (5, iN (j + 1))] [lB us]) (acc0 [(3, .v (.bool false))])).map (fun y => (look2 1 [0] [0, 3] (y.1, y.2.1), y.2.2.q, y.2.2.r, y.2.2.x)) =
    some ((.exit 2, [lB us], [(0, slL 0 n), (3, iN m)], true), [(some (.bool (decide ((Int.ofNat (j + 1)) < (Int.ofNat (n - (p + 1)))))), .bool false)], [], []) := by kernel_rfl
end
section
theorem Z_0 (us : List Lev) (zs : List Value) (n m : Nat) (g : Nat → Value) : (execN Try.prog (aCall Try.prog E45 5) (callN Try.prog E45 5) 30 k45Ie (stOf 61 g [(0, slL 0 n), (3, iN m)] [lB us]) (acc0 [(6, .v (slL 0 m)), (3, .e (.tuple #[]) [.put 0 (.cells 42 zs false)]), (2, .v (slL (m * 3) (n - m)))])).map (fun y => (look2 1 [0] [2] (y.1, y.2.1), y.2.2.q, y.2.2.r, y.2.2.x)) =
    some ((.ret, [.cells 42 zs false], [(2, slL 0 m)], true), [(fstV ((aSlice Try.prog 34 (slL 0 n) none (some (iN m)) none).map fun v => (v, none)), slL 0 m), (fstV ((aSlice Try.prog 34 (slL 0 n) (some (iN m)) none none).map fun v => (v, none)), slL (m * 3) (n - m))], [], [(aClear Try.prog (heapOf [lB us, .dead] hp0).get [34] [slL (m * 3) (n - m)], (.tuple #[], [.put 0 (.cells 42 zs false)]))]) := by kernel_rfl
end
section
theorem E_0 (us : List Lev) (n : Nat) (g : Nat → Value) : (execN Try.prog (aCall Try.prog E45 5) (callN Try.prog E45 5) 30 k45z (stOf 61 g [(0, slL 0 n)] [lB us]) (acc0 [])).map (fun y => (look2 1 [0] [2] (y.1, y.2.1), y.2.2.q, y.2.2.r, y.2.2.x)) =
    some ((.ret, [lB us], [(2, slL 0 n)], true), [], [], []) := by kernel_rfl
end
end Go.Proofs.Ytgeoommlmddgpaa.LtL
namespace Go.Proofs.Ytgeoommlmddgpaa.LtL
open Go Go.Proofs Go.Proofs.Ytgeoommlmddgpaa.AI Go.RowKit Go.Proofs.Ytgeoommlmddgpaa.Sort Go.Proofs.Ytgeoommlmddgpaa.LtA
def dedS (a : List Lev) (y : Lev) : List Lev := if a.getLast? = some y then a else a ++ [y]
def ded (ls : List Lev) : List Lev := ls.foldl dedS []
theorem ded_snoc (l : List Lev) (y : Lev) : ded (l ++ [y]) = dedS (ded l) y := by unfold ded; rw [List.foldl_append]; rfl
theorem dedS_last (a : List Lev) (y : Lev) : (dedS a y).getLast? = some y := by
  unfold dedS
  split
  · assumption
  · simp
theorem ded_last {l : List Lev} {y : Lev} (h : l.getLast? = some y) : (ded l).getLast? = some y := by
  rcases List.eq_nil_or_concat l with rfl | ⟨l', z, rfl⟩
  · cases h
  · rw [List.concat_eq_append] at h ⊢
    have : z = y := by simpa using h
    rw [ded_snoc, dedS_last, this]
theorem take_snoc {l : List Lev} {i : Nat} {x : Lev} (h : l[i]? = some x) : l.take (i + 1) = l.take i ++ [x] := by
  rw [List.take_add_one, h]; rfl
theorem take_last {l : List Lev} {i : Nat} {x : Lev} (h : l[i]? = some x) : (l.take (i + 1)).getLast? = some x := by
  rw [take_snoc h]; simp
theorem ded_len (l : List Lev) : (ded l).length ≤ l.length := by
  have key : ∀ (l a : List Lev), (l.foldl dedS a).length ≤ a.length + l.length := by
    intro l
    induction l with
    | nil => intro a; simp
    | cons y l ih =>
      intro a
      have h1 := ih (dedS a y)
      have h2 : (dedS a y).length ≤ a.length + 1 := by unfold dedS; split <;> simp
      rw [List.foldl_cons, List.length_cons]; omega
  have := key l []
  rw [List.length_nil, Nat.zero_add] at this
  exact this
theorem ded_more {l : List Lev} {i : Nat} {x y : Lev} (h1 : l[i]? = some y) (h2 : l[i + 1]? = some x) : ded (l.take (i + 1 + 1)) = if y = x then ded (l.take (i + 1)) else ded (l.take (i + 1)) ++ [x] := by
  rw [take_snoc h2, ded_snoc]
  unfold dedS
  rw [ded_last (take_last h1)]
  simp
theorem eqLev (x y : Lev) : fstV ((aBin Try.prog .eql 42 (lA x) (lA y)).map fun v => (v, none)) = some (.bool (x == y)) := by
  obtain ⟨a, b, c⟩ := x
  obtain ⟨d, e, f⟩ := y
  have h : aBin Try.prog .eql 42 (lA (a, b, c)) (lA (d, e, f)) = (andE (a == d) (andE (b == e) (andE (c == f) (some true)))).map .bool := by kernel_rfl
  rw [h]
  simp only [andE_some, Bool.and_true]
  rfl
theorem neLev (x y : Lev) : fstV ((aBin Try.prog .neq 42 (lA x) (lA y)).map fun v => (v, none)) = some (.bool (!(x == y))) := by
  obtain ⟨a, b, c⟩ := x
  obtain ⟨d, e, f⟩ := y
  have h : aBin Try.prog .neq 42 (lA (a, b, c)) (lA (d, e, f)) = (andE (a == d) (andE (b == e) (andE (c == f) (some true)))).map fun b => .bool (!b) := by kernel_rfl
  rw [h]
  simp only [andE_some, Bool.and_true]
  rfl
theorem sizeL : tsize Try.prog 42 = some 3 := by kernel_rfl
theorem aggL : tagg Try.prog 42 = some true := by kernel_rfl
theorem lidx {off m i : Nat} (h : i < m) : fstV ((aIndexAddr Try.prog 34 (slL off m) (iN i)).map fun v => (v, none)) = some (.pointer (some ⟨0, off + i * 3, none⟩)) := by
  have h1 : (0 : Int) ≤ Int.ofNat i ∧ Int.ofNat i < (m : Int) := ⟨Int.natCast_nonneg i, by simpa using h⟩
  simp only [aIndexAddr, slL, iN, Try.underlying34, sizeL]
  rw [if_pos h1]
  simp [fstV]
theorem lidx0 {m i : Nat} (h : i < m) : fstV ((aIndexAddr Try.prog 34 (slL 0 m) (iN i)).map fun v => (v, none)) = some (pb 0 (i * 3)) := by rw [lidx h, Nat.zero_add]; rfl
theorem lidxk {p m i : Nat} (h : i < m) : fstV ((aIndexAddr Try.prog 34 (slL (p * 3) m) (iN i)).map fun v => (v, none)) = some (pb 0 ((p + i) * 3)) := by rw [lidx h, Nat.add_mul]; rfl
theorem lload {hp : Hp} {us : List Lev} {i : Nat} {x : Lev} (hg : hp.get 0 = some (lB us)) (h : us[i]? = some x) : aLoad Try.prog hp.get 42 (pb 0 (i * 3)) = some (lA x) := by
  simp only [aLoad, pb, hg, lB, aggL, sizeL]
  have := flat_getR (f := lc) (k := 3) (ps := us) (fun _ _ => rfl) h
  unfold lrow
  rw [this]
  rfl
theorem putL_midL {A B C D : List Value} {k : Nat} (hk : A.length = k) (hl : D.length = B.length) : putL (A ++ B ++ C) k D = A ++ D ++ C := by
  apply List.ext_getElem?
  intro j
  rw [putL_get]
  by_cases h1 : j < k
  · rw [if_neg (by omega), List.append_assoc, List.append_assoc, List.getElem?_append_left (by omega), List.getElem?_append_left (by omega)]
  · by_cases h2 : j < k + D.length
    · rw [if_pos ⟨by omega, h2, by simp; omega⟩, List.append_assoc A D C, List.getElem?_append_right (by omega), List.getElem?_append_left (by omega), hk]
    · rw [if_neg (by omega), List.getElem?_append_right (by simp; omega), List.getElem?_append_right (by simp; omega)]
      congr 1; simp; omega
theorem lrow_app (a b : List Lev) : lrow (a ++ b) = lrow a ++ lrow b := by unfold lrow; rw [List.flatMap_append]
theorem lrow_set {us : List Lev} {i : Nat} (h : i < us.length) (y : Lev) : putL (lrow us) (i * 3) (lc y) = lrow (us.set i y) := by
  have e1 : us = us.take i ++ us[i] :: us.drop (i + 1) := by rw [List.getElem_cons_drop, List.take_append_drop]
  have e2 : us.set i y = us.take i ++ y :: us.drop (i + 1) := List.set_eq_take_append_cons_drop.trans (if_pos h)
  have f : ∀ z : Lev, lrow (us.take i ++ z :: us.drop (i + 1)) = lrow (us.take i) ++ lc z ++ lrow (us.drop (i + 1)) := fun z => by rw [lrow_app]; show _ ++ (lc z ++ lrow _) = _; rw [List.append_assoc]
  have l1 : (lrow (us.take i)).length = i * 3 := by rw [lrow_len, List.length_take]; congr 1; omega
  rw [e2, f]
  conv => lhs; rw [e1, f]
  exact putL_midL l1 rfl
theorem lstore {hp : Hp} {us : List Lev} {i : Nat} (hg : hp.get 0 = some (lB us)) (h : i < us.length) (y : Lev) : (aStore Try.prog hp.get 42 (pb 0 (i * 3)) (lA y)).map (fun es => (undef, es)) = some (undef, [.put 0 (lB (us.set i y))]) := by
  have hl : i * 3 + 3 ≤ (lrow us).length := by rw [lrow_len]; omega
  have e : aStore Try.prog hp.get 42 (pb 0 (i * 3)) (lA y) = some [.put 0 (.cells 42 (putL (lrow us) (i * 3) (lc y)) false)] := by
    unfold aStore
    simp only [pb, hg, lB, sizeL]
    exact if_pos (by show (decide (3 = 3) && true && decide (i * 3 + 3 ≤ (lrow us).length)) = true; simp [hl])
  rw [e, lrow_set h]
  rfl
theorem lsl_lo {n k : Nat} (h : k ≤ n) : fstV ((aSlice Try.prog 34 (slL 0 n) (some (iN k)) none none).map fun v => (v, none)) = some (slL (k * 3) (n - k)) := by
  have h1 : (0 : Int) ≤ Int.ofNat k ∧ Int.ofNat k ≤ (n : Int) := ⟨Int.natCast_nonneg k, by simpa using h⟩
  have h0 : (0 : Int) ≤ (n : Int) ∧ (n : Int) ≤ ((n + 0 : Nat) : Int) := ⟨Int.natCast_nonneg n, by simp⟩
  simp only [aSlice, slL, iN, Try.underlying34, sizeL, bound]
  rw [if_pos h1]
  simp [fstV, flagOf, wide]
theorem lsl_hi {n k : Nat} (h : k ≤ n) : fstV ((aSlice Try.prog 34 (slL 0 n) none (some (iN k)) none).map fun v => (v, none)) = some (slL 0 k) := by
  have h1 : (0 : Int) ≤ Int.ofNat k ∧ Int.ofNat k ≤ ((n + spareOf 11 : Nat) : Int) := ⟨Int.natCast_nonneg k, by simp only [Int.ofNat_eq_natCast]; exact Int.ofNat_le.2 (by omega)⟩
  simp only [aSlice, slL, iN, Try.underlying34, sizeL, bound]
  rw [if_pos h1]
  simp [fstV, flagOf, wide]
noncomputable def z3 : List Value := (tzero Try.prog 42).getD []
theorem zeroLe : tzero Try.prog 42 = some z3 := by kernel_rfl
theorem z3_len : z3.length = 3 := by kernel_rfl
theorem z3_inert : z3.all inert = true := by kernel_rfl
theorem repL_len (z : List Value) : ∀ n, (repL z n).length = n * z.length
  | 0 => by simp [repL]
  | n + 1 => by rw [repL, List.length_append, repL_len z n, Nat.succ_mul]; omega
theorem repL_inert {z : List Value} (h : z.all inert = true) : ∀ n, (repL z n).all inert = true
  | 0 => rfl
  | n + 1 => by rw [repL, List.all_append, h, repL_inert h n]; rfl
theorem lclear {hp : Hp} {us : List Lev} {k : Nat} (hg : hp.get 0 = some (lB us)) (h : k < us.length) : aClear Try.prog hp.get [34] [slL (k * 3) (us.length - k)] = some (.tuple #[], [.put 0 (.cells 42 (lrow (us.take k) ++ repL z3 (us.length - k)) false)]) := by
  have e1 : lrow us = lrow (us.take k) ++ lrow (us.drop k) := by rw [← lrow_app, List.take_append_drop]
  have l1 : (lrow (us.take k)).length = k * 3 := by rw [lrow_len, List.length_take]; congr 1; omega
  have l2 : (lrow (us.drop k)).length = (us.length - k) * 3 := by rw [lrow_len, List.length_drop]
  have l3 : (repL z3 (us.length - k)).length = (us.length - k) * 3 := by rw [repL_len, z3_len]
  unfold aClear
  simp only [slL, Try.underlying34]
  rw [if_neg (by omega)]
  simp only [zeroLe, hg, lB]
  rw [if_pos (by rw [l3, lrow_len]; omega), e1]
  have := putL_midL (A := lrow (us.take k)) (B := lrow (us.drop k)) (C := []) (D := repL z3 (us.length - k)) l1 (by rw [l3, l2])
  rw [List.append_nil, List.append_nil] at this
  rw [this]
noncomputable def tailC (ls : List Lev) : List Value := lrow (ded ls) ++ repL z3 (ls.length - (ded ls).length)
def EndsC (ls : List Lev) (e : Exit) (st : St) : Prop := e = .ret ∧ ∃ g, st = stOf 61 g [(2, slL 0 (ded ls).length)] [.cells 42 (tailC ls) false]
theorem get0 (b : Blk) : (heapOf [b, .dead] hp0).get 0 = some b := by rw [heapOf0_get]; rfl
theorem ltN {a b : Nat} : decide (Int.ofNat a < Int.ofNat b) = decide (a < b) := decide_eq_decide.2 (by simp only [Int.ofNat_eq_natCast]; omega)
theorem tailC_inert (ls : List Lev) : (tailC ls).all inert = true := by unfold tailC; rw [List.all_append, lrow_inert, repL_inert z3_inert]; rfl
theorem stOf_less {N : Nat} {g : Nat → Value} {L : List (Nat × Value)} {O : List Blk} (L2 : List (Nat × Value)) : ∃ g', stOf N g (L ++ L2) O = stOf N g' L O := by
  refine ⟨frame g L2, ?_⟩
  unfold stOf
  congr 2
  funext t
  unfold frame
  rw [List.find?_append]
  cases L.find? fun p => Nat.beq p.1 t <;> rfl
theorem compI_fr (ls : List Lev) (hn : ls.length < 1000000) (p : Nat) (hp : p + 1 < ls.length) {y : Lev} (h1 : ls[p]? = some y) (h2 : ls[p + 1]? = some y) (hd : ded (ls.take (p + 1)) = ls.take (p + 1)) (g : Nat → Value) (W : Base) :
    FRwp Try.prog 61 W (.seq (sL k45Lbb) (.seq (.seq k45I0 (.block 2 (.loop k45IL))) k45Ie)) (stOf 61 g [(0, slL 0 ls.length), (3, iN (p + 1))] [lB ls]) (EndsC ls) := by
  have fx : ∀ (us : List Lev) (r : List Blk), ∀ i, i < 1 → ∀ o', (lB us :: r)[i]? = some o' → Fixed 0 o' := fun us => fix11 (lB_inert us)
  have sT : codeSafe Try.prog 61 (sL k45Lbb) = true := by kernel_rfl
  refine FRwp.seq (Q1 := fun e st => e = .normal ∧ ∃ g, st = stOf 61 g [(0, slL 0 ls.length), (3, iN (p + 1)), (4, slL ((p + 1) * 3) (ls.length - (p + 1)))] [lB ls]) (FRwp.pieceN E45_ok follows 5 1 _ _ _ _ (T_0 ls ls.length p g) (Met.cons (lsl_lo (by omega)) Met.nil) MetH.nil MetE.nil sT rfl rfl (fx ls _) fun g => ⟨rfl, g, rfl⟩) ?_ (fun x st hne hq => absurd hq.1 hne)
  rintro st ⟨-, g, rfl⟩
  refine FRwp.seq (Q1 := fun e st => e = .normal ∧ ∃ (us : List Lev) (m : Nat) (g : Nat → Value), m = (ded ls).length ∧ us = ded ls ++ ls.drop m ∧ m < ls.length ∧ st = stOf 61 g [(0, slL 0 ls.length), (3, iN m)] [lB us]) ?_ ?_ (fun x st hne hq => absurd hq.1 hne)
  · refine FRwp.seq (Q1 := fun e st => e = .normal ∧ ∃ g, st = stOf 61 g [(0, slL 0 ls.length), (3, iN (p + 1)), (4, slL ((p + 1) * 3) (ls.length - (p + 1))), (5, iN 1)] [lB ls]) (FRwp.pieceN E45_ok follows 5 1 _ _ _ _ (I_0 ls ls.length p g) Met.nil MetH.nil MetE.nil sk45I0 rfl rfl (fx ls _) fun g => ⟨rfl, g, rfl⟩) ?_ (fun x st hne hq => absurd hq.1 hne)
    rintro st ⟨-, g, rfl⟩
    refine FRwp.block ?_
    let I : Nat → St → Prop := fun k st => ∃ (j m : Nat) (us a : List Lev) (g : Nat → Value), (p + 1) + (j + 1) ≤ ls.length ∧ k = ls.length - j ∧ m ≤ (p + 1) + j ∧ a = ded (ls.take ((p + 1) + (j + 1))) ∧ a.length = m ∧ us = a ++ ls.drop m ∧
      st = stOf 61 g [(0, slL 0 ls.length), (3, iN m), (4, slL ((p + 1) * 3) (ls.length - (p + 1))), (5, iN (j + 1))] [lB us]
    have start : I ls.length (stOf 61 g [(0, slL 0 ls.length), (3, iN (p + 1)), (4, slL ((p + 1) * 3) (ls.length - (p + 1))), (5, iN 1)] [lB ls]) := by
      have hm := ded_more h1 h2
      rw [if_pos rfl, hd] at hm
      refine ⟨0, p + 1, ls, ls.take (p + 1), g, by omega, by omega, by omega, hm.symm, by rw [List.length_take]; omega, (List.take_append_drop _ _).symm, rfl⟩
    refine FRwp.loop I ?_ (k := ls.length) start
    rintro k st ⟨j, m, us, a, g, hj, hk, hm, ha, hal, hus, rfl⟩
    have hul : us.length = ls.length := by rw [hus, List.length_append, hal, List.length_drop]; omega
    have hget : ∀ i, m ≤ i → us[i]? = ls[i]? := fun i hi => by
      rw [hus, List.getElem?_append_right (by omega), List.getElem?_drop]
      congr 1; omega
    cases h : decide (Int.ofNat (j + 1) < Int.ofNat (ls.length - (p + 1))) with
    | false =>
      have h3 : (p + 1) + (j + 1) = ls.length := by rw [ltN] at h; have := of_decide_eq_false h; omega
      refine FRwp.pieceN E45_ok follows 5 1 _ _ _ _ (J_2 us us ls.length p j m y y g) (Met.cons (bool_ok h) Met.nil) MetH.nil MetE.nil sk45IL rfl rfl (fx us _) fun g => .inr ⟨by simp, ?_⟩
      show (if (2 : Nat) = 2 then _ else _)
      rw [if_pos rfl]
      rw [h3, List.take_of_length_le (Nat.le_refl _)] at ha
      subst ha
      exact ⟨rfl, us, m, g, hal.symm, hus, by omega, rfl⟩
    | true =>
      have hlt : (p + 1) + (j + 1) < ls.length := by rw [ltN] at h; have := of_decide_eq_true h; omega
      obtain ⟨x, hx⟩ : ∃ x, ls[(p + 1) + (j + 1)]? = some x := ⟨_, List.getElem?_eq_getElem hlt⟩
      obtain ⟨z, hz⟩ : ∃ z, ls[(p + 1) + j]? = some z := ⟨_, List.getElem?_eq_getElem (by omega)⟩
      have hux := (hget _ (by omega)).trans hx
      have huz := (hget _ hm).trans hz
      have hmore := ded_more (i := (p + 1) + j) hz hx
      have hR : ∀ {b : Bool}, (!(x == z)) = b → AI.Met ([(fstV ((aBin Try.prog .neq 42 (lA x) (lA z)).map fun v => (v, none)), .bool b), (aLoad Try.prog (heapOf [lB us, .dead] hp0).get 42 (pb 0 (((p + 1) + j) * 3)), lA z), (fstV ((aIndexAddr Try.prog 34 (slL ((p + 1) * 3) (ls.length - (p + 1))) (iN j)).map fun v => (v, none)), pb 0 (((p + 1) + j) * 3)), (some (.int .i64 (wrapF .i64 (Int.ofNat (j + 1) - Int.ofNat 1))), iN j), (aLoad Try.prog (heapOf [lB us, .dead] hp0).get 42 (pb 0 (((p + 1) + (j + 1)) * 3)), lA x), (fstV ((aIndexAddr Try.prog 34 (slL ((p + 1) * 3) (ls.length - (p + 1))) (iN (j + 1))).map fun v => (v, none)), pb 0 (((p + 1) + (j + 1)) * 3)), (some (.bool (decide ((Int.ofNat (j + 1)) < (Int.ofNat (ls.length - (p + 1)))))), .bool true)]) := fun {b} hb =>
        Met.cons ((neLev x z).trans (bool_ok hb)) (Met.cons (lload (get0 _) huz) (Met.cons (lidxk (by omega)) (Met.cons (wrap_down (by omega)) (Met.cons (lload (get0 _) hux) (Met.cons (lidxk (by omega)) (Met.cons (bool_ok h) Met.nil))))))
      cases hxz : (!(x == z)) with
      | true =>
        have hne : ¬ z = x := fun e => by rw [e] at hxz; simp at hxz
        have hset : us.set m x = (a ++ [x]) ++ ls.drop (m + 1) := by
          rw [hus, List.set_append_right _ _ (by omega), hal, Nat.sub_self]
          obtain ⟨w, hw⟩ : ∃ w, ls[m]? = some w := ⟨_, List.getElem?_eq_getElem (by omega)⟩
          have e : ls.drop m = w :: ls.drop (m + 1) := by
            rw [List.getElem?_eq_getElem (by omega)] at hw
            rw [List.drop_eq_getElem_cons (by omega)]
            have : ls[m] = w := by simpa using hw
            rw [this]
          rw [e]
          simp
        refine FRwp.pieceN E45_ok follows 5 1 _ _ _ _ (J_0 us (us.set m x) ls.length p j m x z g)
          (Met.cons (wrap_up (by omega)) (Met.cons (wrap_up (by omega)) (Met.cons (lidx0 (by omega)) (Met.cons (lload (get0 _) hux) (Met.cons (lidxk (by omega)) (hR hxz))))))
          MetH.nil (MetE.cons (lstore (get0 _) (by omega) x) MetE.nil) sk45IL rfl rfl (fx _ _) fun g => .inl ⟨rfl, ls.length - (j + 1), by omega, j + 1, m + 1, us.set m x, a ++ [x], g, by omega, rfl, by omega, ?_, by simp [hal], hset, rfl⟩
        rw [ha]
        exact (hmore.trans (if_neg hne)).symm
      | false =>
        have he : z = x := by
          have : (x == z) = true := by simpa using hxz
          exact (by simpa using this : x = z).symm
        refine FRwp.pieceN E45_ok follows 5 1 _ _ _ _ (J_1 us us ls.length p j m x z g)
          (Met.cons (wrap_up (by omega)) (hR hxz))
          MetH.nil MetE.nil sk45IL rfl rfl (fx _ _) fun g => .inl ⟨rfl, ls.length - (j + 1), by omega, j + 1, m, us, a, g, by omega, rfl, by omega, ?_, hal, hus, rfl⟩
        rw [ha]
        exact (hmore.trans (if_pos he)).symm
  · rintro st ⟨-, us, m, g, hm, hus, hlt, rfl⟩
    have hul : us.length = ls.length := by rw [hus, List.length_append, List.length_drop]; omega
    have htk : us.take m = ded ls := by rw [hus, hm]; simp
    have hcl := lclear (get0 (lB us)) (by omega : m < us.length)
    rw [htk, hul] at hcl
    have hsl := lsl_hi (n := ls.length) (k := m) (by omega)
    have hsl2 := lsl_lo (n := ls.length) (k := m) (by omega)
    refine FRwp.pieceN E45_ok follows 5 1 _ _ _ _ (Z_0 us (lrow (ded ls) ++ repL z3 (ls.length - m)) ls.length m g) (Met.cons hsl (Met.cons hsl2 Met.nil)) MetH.nil (MetE.cons hcl MetE.nil) sk45Ie rfl rfl (fix11 (by show List.all _ inert = true; rw [List.all_append, lrow_inert, repL_inert z3_inert]; rfl) _) fun g => ⟨rfl, g, ?_⟩
    unfold tailC
    rw [hm]
theorem comp_fr (ls : List Lev) (hn : ls.length < 1000000) (W : Base) : FRwp Try.prog 61 W code45 ⟨tmsOf [slL 0 ls.length] 0 .leaf, heapOf [lB ls, .dead] hp0, []⟩ (EndsC ls) := by
  have fx : ∀ (us : List Lev) (r : List Blk), ∀ i, i < 1 → ∀ o', (lB us :: r)[i]? = some o' → Fixed 0 o' := fun us => fix11 (lB_inert us)
  have hall : ded ls = ls → ∀ {e st}, (e = .ret ∧ ∃ g, st = stOf 61 g [(2, slL 0 ls.length)] [lB ls]) → EndsC ls e st := fun h e st q => by
    unfold EndsC tailC
    rw [h, Nat.sub_self]
    show (_ ∧ ∃ g, st = stOf 61 g _ [.cells 42 (lrow ls ++ []) false])
    rw [List.append_nil]; exact q
  refine FRwp.seq (Q1 := fun e st => e = .normal ∧ ∃ g, st = stOf 61 g [(0, slL 0 ls.length)] [lB ls]) (FRwp.pieceN E45_ok follows 5 1 _ _ _ _ (A_0 ls ls.length) Met.nil MetH.nil MetE.nil sk45a rfl rfl (fx ls _) fun g => ⟨rfl, g, rfl⟩) ?_ (fun x st hne hq => absurd hq.1 hne)
  rintro st ⟨-, g, rfl⟩
  let Q1 : Exit → St → Prop := fun e st => (e = .normal ∧ 2 ≤ ls.length ∧ ∃ g, st = stOf 61 g [(0, slL 0 ls.length)] [lB ls]) ∨ EndsC ls e st
  refine FRwp.seq (Q1 := Q1) ?_ ?_ ?_
  · have hs : codeSafe Try.prog 61 (.seq k45b k45c) = true := by simp only [codeSafe, sk45b, sk45c]; rfl
    cases h : decide (Int.ofNat ls.length < Int.ofNat 2) with
    | true =>
      have h2 : ls.length < 2 := by rw [ltN] at h; exact of_decide_eq_true h
      have hd : ded ls = ls := by
        match ls, h2 with
        | [], _ => rfl
        | [x], _ => rfl
      exact FRwp.pieceN E45_ok follows 5 1 _ _ _ _ (B_0 ls ls.length g) (Met.cons (bool_ok h) Met.nil) MetH.nil MetE.nil hs rfl rfl (fx ls _) fun g => .inr (hall hd ⟨rfl, g, rfl⟩)
    | false =>
      have h2 : 2 ≤ ls.length := by rw [ltN] at h; have := of_decide_eq_false h; omega
      exact FRwp.pieceN E45_ok follows 5 1 _ _ _ _ (B_1 ls ls.length g) (Met.cons (bool_ok h) Met.nil) MetH.nil MetE.nil hs rfl rfl (fx ls _) fun g => .inl ⟨rfl, h2, g, rfl⟩
  · rintro st (⟨-, h2, g, rfl⟩ | ⟨h, -⟩)
    · let Q2 : Exit → St → Prop := fun e st => (e = .normal ∧ ded ls = ls ∧ ∃ g, st = stOf 61 g [(0, slL 0 ls.length)] [lB ls]) ∨ EndsC ls e st
      refine FRwp.seq (Q1 := Q2) ?_ ?_ ?_
      · refine FRwp.seq (Q1 := fun e st => e = .normal ∧ ∃ g, st = stOf 61 g [(0, slL 0 ls.length), (3, iN 1)] [lB ls]) (FRwp.pieceN E45_ok follows 5 1 _ _ _ _ (D_0 ls ls.length g) Met.nil MetH.nil MetE.nil sk45d rfl rfl (fx ls _) fun g => ⟨rfl, g, rfl⟩) ?_ (fun x st hne hq => absurd hq.1 hne)
        rintro st ⟨-, g, rfl⟩
        refine FRwp.block ?_
        have start : ∃ q g', q + 1 ≤ ls.length ∧ ls.length = ls.length - q ∧ ded (ls.take (q + 1)) = ls.take (q + 1) ∧ stOf 61 g [(0, slL 0 ls.length), (3, iN 1)] [lB ls] = stOf 61 g' [(0, slL 0 ls.length), (3, iN (q + 1))] [lB ls] := by
          obtain ⟨x, hx⟩ : ∃ x, ls[0]? = some x := ⟨_, List.getElem?_eq_getElem (by omega)⟩
          exact ⟨0, g, by omega, by omega, by rw [take_snoc hx]; rfl, rfl⟩
        refine FRwp.loop (fun k st => ∃ q g, q + 1 ≤ ls.length ∧ k = ls.length - q ∧ ded (ls.take (q + 1)) = ls.take (q + 1) ∧ st = stOf 61 g [(0, slL 0 ls.length), (3, iN (q + 1))] [lB ls]) ?_ (k := ls.length) start
        rintro k st ⟨q, g, hq, hk, hd, rfl⟩
        obtain ⟨y, hy⟩ : ∃ y, ls[q]? = some y := ⟨_, List.getElem?_eq_getElem (by omega)⟩
        refine FRwp.seq (Q1 := fun e st => (e = .normal ∧ q + 1 < ls.length ∧ ∃ g, st = stOf 61 g [(0, slL 0 ls.length), (3, iN (q + 1))] [lB ls]) ∨ (e = .exit 0 ∧ q + 1 = ls.length ∧ ∃ g, st = stOf 61 g [(0, slL 0 ls.length), (3, iN (q + 1))] [lB ls])) ?_ ?_ ?_
        · cases h : decide (Int.ofNat (q + 1) < Int.ofNat ls.length) with
          | true =>
            have h3 : q + 1 < ls.length := by rw [ltN] at h; exact of_decide_eq_true h
            exact FRwp.pieceN E45_ok follows 5 1 _ _ _ _ (X_0 ls ls.length q g) (Met.cons (bool_ok h) Met.nil) MetH.nil MetE.nil sk45La rfl rfl (fx ls _) fun g => .inl ⟨rfl, h3, g, rfl⟩
          | false =>
            have h3 : q + 1 = ls.length := by rw [ltN] at h; have := of_decide_eq_false h; omega
            exact FRwp.pieceN E45_ok follows 5 1 _ _ _ _ (X_1 ls ls.length q g) (Met.cons (bool_ok h) Met.nil) MetH.nil MetE.nil sk45La rfl rfl (fx ls _) fun g => .inr ⟨rfl, h3, g, rfl⟩
        · rintro st (⟨-, hlt, g, rfl⟩ | ⟨h, -⟩)
          · obtain ⟨x, hx⟩ : ∃ x, ls[q + 1]? = some x := ⟨_, List.getElem?_eq_getElem hlt⟩
            have hm := ded_more hy hx
            have met : ∀ {b : Bool}, (x == y) = b → AI.Met [(fstV ((aBin Try.prog .eql 42 (lA x) (lA y)).map fun v => (v, none)), .bool b), (aLoad Try.prog (heapOf [lB ls, .dead] hp0).get 42 (pb 0 (q * 3)), lA y), (fstV ((aIndexAddr Try.prog 34 (slL 0 ls.length) (iN q)).map fun v => (v, none)), pb 0 (q * 3)), (some (.int .i64 (wrapF .i64 (Int.ofNat (q + 1) - Int.ofNat 1))), iN q), (aLoad Try.prog (heapOf [lB ls, .dead] hp0).get 42 (pb 0 ((q + 1) * 3)), lA x), (fstV ((aIndexAddr Try.prog 34 (slL 0 ls.length) (iN (q + 1))).map fun v => (v, none)), pb 0 ((q + 1) * 3))] := fun h =>
              Met.cons ((eqLev x y).trans (bool_ok h)) (Met.cons (lload (get0 _) hy) (Met.cons (lidx0 (by omega)) (Met.cons (wrap_down (by omega)) (Met.cons (lload (get0 _) hx) (Met.cons (lidx0 (by omega)) Met.nil)))))
            cases hxy : (x == y) with
            | false =>
              have hne : ¬ y = x := fun e => by rw [e] at hxy; simp at hxy
              refine FRwp.pieceN E45_ok follows 5 1 _ _ _ _ (V_0 ls ls.length q x y g) (Met.cons (wrap_up (by omega)) (met hxy)) MetH.nil MetE.nil sR45 rfl rfl (fx ls _) fun g => .inl ⟨rfl, ls.length - (q + 1), by omega, q + 1, g, by omega, rfl, ?_, rfl⟩
              rw [hm, if_neg hne, hd, take_snoc hx]
            | true =>
              have he : x = y := by simpa using hxy
              subst he
              refine FRwp.seq (Q1 := EndsC ls) (FRwp.block ?_) (fun st h => by cases h.1) (fun e st hne h => ?_)
              · have e1 : ∀ {e st}, EndsC ls e st → (match e with | .exit i => if i = 1 then EndsC ls .normal st else EndsC ls (.exit i) st | e => EndsC ls e st) := fun {e st} h => by
                  obtain ⟨rfl, h⟩ := h
                  exact ⟨rfl, h⟩
                refine FRwp.mono (?_ : FRwp Try.prog 61 W _ _ (EndsC ls)) fun e st h => e1 h
                refine FRwp.seq (Q1 := fun e st => e = .normal ∧ ∃ g, st = stOf 61 g [(0, slL 0 ls.length), (3, iN (q + 1)), (25, .bool true)] [lB ls]) (FRwp.pieceN E45_ok follows 5 1 _ _ _ _ (Y_0 ls ls.length q x x g) (met hxy) MetH.nil MetE.nil sk45Lba rfl rfl (fx ls _) fun g => ⟨rfl, g, rfl⟩) ?_ (fun x st hne hq => absurd hq.1 hne)
                rintro st ⟨-, g, rfl⟩
                obtain ⟨g', eg⟩ := stOf_less (N := 61) (g := g) (L := [(0, slL 0 ls.length), (3, iN (q + 1))]) (O := [lB ls]) [(25, .bool true)]
                refine FRwp.cond_true rfl rfl ?_
                show FRwp Try.prog 61 W _ (stOf 61 g ([(0, slL 0 ls.length), (3, iN (q + 1))] ++ [(25, .bool true)]) [lB ls]) _
                rw [eg]
                exact compI_fr ls hn q hlt hy hx hd g' W
              · obtain ⟨rfl, h⟩ := h
                exact .inr ⟨by simp, .inr ⟨rfl, h⟩⟩
          · cases h
        · rintro e st hne (⟨h, -⟩ | ⟨rfl, h3, g, rfl⟩)
          · exact absurd h hne
          · refine .inr ⟨by simp, ?_⟩
            show (if (0 : Nat) = 0 then Q2 .normal _ else Q2 (.exit 0) _)
            rw [if_pos rfl]
            refine .inl ⟨rfl, ?_, ?_⟩
            · rw [h3, List.take_of_length_le (Nat.le_refl _)] at hd; exact hd
            · exact stOf_less (L := [(0, slL 0 ls.length)]) [(3, iN (q + 1))]
      · rintro st (⟨-, hd, g, rfl⟩ | ⟨h, -⟩)
        · exact FRwp.pieceN E45_ok follows 5 1 _ _ _ _ (E_0 ls ls.length g) Met.nil MetH.nil MetE.nil sk45z rfl rfl (fx ls _) fun g => hall hd ⟨rfl, g, rfl⟩
        · cases h
      · rintro e st hne (⟨h, -⟩ | h)
        · exact absurd h hne
        · exact h
    · cases h
  · rintro e st hne (⟨h, -⟩ | h)
    · exact absurd h hne
    · exact h
end Go.Proofs.Ytgeoommlmddgpaa.LtL
namespace Go.Proofs.Ytgeoommlmddgpaa.LtL
open Go Go.Proofs Go.Proofs.Ytgeoommlmddgpaa.AI Go.RowKit Go.Proofs.Ytgeoommlmddgpaa.Sort Go.Proofs.Ytgeoommlmddgpaa.LtA
theorem getL_app {L1 L2 : List Value} {i : Nat} {v : Value} (h : L1[i]? = some v) : (L1 ++ L2)[i]? = some v := by
  rw [List.getElem?_append_left (List.getElem?_eq_some_iff.1 h).1]; exact h
theorem cutL_goal {P : Program} {f : FuncId} {g g2 : HeapFn} (hg : CallGoal P f g)
    (H : ∀ args hp v hp2, g2 args hp = some (v, hp2) → hp.ok → ∃ hp1, g args hp = some (v, hp1) ∧ hp2.ok ∧ hp2.sz = hp1.sz ∧
      ∀ b, hp2.get b = hp1.get b ∨ (hp.sz ≤ b ∧ b < hp1.sz ∧ ∃ ty L1 L2, hp1.get b = some (.cells ty (L1 ++ L2) false) ∧ hp2.get b = some (.cells ty L1 false))) : CallGoal P f g2 := by
  intro args hp v hp2 he hk
  obtain ⟨hp1, h1, hk2, hsz, hcut⟩ := H args hp v hp2 he hk
  obtain ⟨hk1, hle, hgo⟩ := hg args hp v hp1 h1 hk
  refine ⟨hk2, by rw [hsz]; exact hle, fun m h w args' hfr s ra => ?_⟩
  have step : ∀ v' w', (∃ m', Go1 m (ovr hp h) w m' (ovr hp1 h) w' ∧ VRel m' (ovr hp1 h) v v') → ∃ m', Go1 m (ovr hp h) w m' (ovr hp2 h) w' ∧ VRel m' (ovr hp2 h) v v' := ?_
  · rcases hgo m h w args' (fun b a c => hfr b a (by rw [hsz]; exact c)) s ra with ⟨v', w', q1, q2⟩ | ⟨q1, q2⟩
    · exact .inl ⟨v', w', q1, step v' w' q2⟩
    · exact .inr ⟨q1, q2.mono fun e w' hh => by
        obtain ⟨v', h1, h2⟩ := hh
        exact ⟨v', h1, step v' w' h2⟩⟩
  rintro v' w' ⟨m', go, rv⟩
  have hov : ∀ b, ovr hp2 h b = ovr hp1 h b ∨ (hp.sz ≤ b ∧ b < hp1.sz ∧ ∃ ty L1 L2, ovr hp1 h b = some (.cells ty (L1 ++ L2) false) ∧ ovr hp2 h b = some (.cells ty L1 false)) := by
    intro b
    unfold ovr
    rw [hsz]
    by_cases hb : b < hp1.sz
    · simp only [if_pos hb]
      rcases hcut b with e | ⟨q1, q2, q3⟩
      · exact .inl e
      · exact .inr ⟨q1, q2, q3⟩
    · exact .inl (by rw [if_neg hb, if_neg hb])
  have hrw : ∀ b, rw? (ovr hp2 h) b = rw? (ovr hp1 h) b := fun b => by
    unfold rw?
    rcases hov b with e | ⟨_, _, ty, L1, L2, e1, e2⟩
    · rw [e]
    · rw [e1, e2]
  have hlv : ∀ b, live? (ovr hp2 h) b = live? (ovr hp1 h) b := fun b => by
    unfold live?
    rcases hov b with e | ⟨_, _, ty, L1, L2, e1, e2⟩
    · rw [e]
    · rw [e1, e2]
  have le2 : Le m' (ovr hp1 h) m' (ovr hp2 h) := ⟨fun b hb => (by
    rcases hov b with e | ⟨_, _, ty, L1, L2, e1, _⟩
    · rw [e]; exact hb
    · rw [e1] at hb; cases hb), fun b x hx => .inr hx⟩
  refine ⟨m', ⟨go.le.trans le2, ⟨fun b x hx => ?_, fun b b' x x' hx hx' hr hl e => go.sim.inj b b' x x' hx hx' (by rw [← hrw]; exact hr) (by rw [← hlv]; exact hl) e⟩, go.size, go.new, go.frame, go.un, fun b o hb hm => ?_, fun b o hb => ?_, fun b x hx hr => go.rwb b x hx (by rw [← hrw]; exact hr), go.os, go.tape, go.output⟩, rv.mono le2⟩
  · obtain ⟨o, ho, hbr⟩ := go.sim.dom b x hx
    rcases hov b with e | ⟨_, _, ty, L1, L2, e1, e2⟩
    · exact ⟨o, by rw [e]; exact ho, hbr.mono le2 rfl⟩
    · rw [e1] at ho; cases ho
      obtain ⟨c, fr, k1, k2, k3, k4, k5⟩ := hbr
      refine ⟨_, e2, c, fr, k1, by rw [List.length_append] at k2; omega, k3, fun i v v' p1 p2 => (k4 i v v' (getL_app p1) p2).mono le2, ⟨k5.1, fun h => by cases h⟩⟩
  · have := go.idle b o hb hm
    rcases hov b with e | ⟨q1, q2, _⟩
    · rw [e]; exact this
    · have hn := hfr b q1 (by rw [hsz]; exact q2)
      unfold ovr at hb
      rw [if_neg (by omega)] at hb
      rw [hn] at hb; cases hb
  · obtain ⟨o', ho'⟩ := go.ex b o hb
    rcases hov b with e | ⟨_, _, ty, L1, L2, e1, e2⟩
    · exact ⟨o', by rw [e]; exact ho'⟩
    · exact ⟨_, e2⟩
theorem startL_sim {m : BM} {h : HG} {w : World} {hp : Hp} (s : Sim m (ovr hp h) w) (hk : hp.ok) {b : Nat} {t1 : TypeId} {L : List Value} (h1 : hp.get b = some (.cells t1 L false)) (i1 : L.all inert = true)
    {r δ E : Nat} (hm : m b = some (r, δ, E)) : Sim (canM m [b]) (heapOf [.cells t1 L false, .dead] hp0).get w := by
  have g1 := ovr_sub hk h b _ h1
  obtain ⟨o', ho', hbr⟩ := s.dom b _ hm
  rw [g1] at ho'; cases ho'
  obtain ⟨c, fr, q1, q2, q3, q4, q5⟩ := hbr
  have e0 : (heapOf [.cells t1 L false, .dead] hp0).get 0 = some (.cells t1 L false) := by rw [heapOf0_get]; rfl
  have cM : ∀ i x, canM m [b] i = some x → (i = 0 ∧ m b = some x) := by
    intro i x hx
    unfold canM at hx
    match i with
    | 0 => exact ⟨rfl, hx⟩
    | i + 1 => simp at hx
  refine ⟨fun i x hx => ?_, fun i i' x x' hx hx' hr hl hxx => ?_⟩
  · obtain ⟨rfl, hy⟩ := cM i x hx
    rw [hm] at hy; cases hy
    exact ⟨_, e0, c, fr, q1, q2, q3, fun i v v' p1 p2 => inert_any (List.all_eq_true.1 i1 v (List.mem_of_getElem? p1)) (q4 i v v' p1 p2), q5⟩
  · obtain ⟨rfl, _⟩ := cM i x hx
    obtain ⟨rfl, _⟩ := cM i' x' hx'
    rfl
open Classical in
noncomputable def gCoF : HeapFn := fun args hp => match args with
  | [.slice (some ⟨b, 0, none⟩) n c] => if h : ∃ ls : List Lev, hp.get b = some (lB ls) ∧ n = ls.length ∧ 0 < n ∧ n < 1000000 then some (.slice (some ⟨hp.sz, 0, none⟩) (ded h.choose).length 11, heapOf ([.cells 42 (tailC h.choose) false] ++ [.dead]) (killL [b] hp)) else none
  | _ => none
open Classical in
noncomputable def gCo : HeapFn := fun args hp => match args with
  | [.slice (some ⟨b, 0, none⟩) n c] => if h : ∃ ls : List Lev, hp.get b = some (lB ls) ∧ n = ls.length ∧ 0 < n ∧ n < 1000000 then some (.slice (some ⟨hp.sz, 0, none⟩) (ded h.choose).length 11, heapOf ([lB (ded h.choose)] ++ [.dead]) (killL [b] hp)) else none
  | _ => none
theorem slL_weak {m : BM} {h : HG} {b n c : Nat} {x : Value} (r : VRel m h (.slice (some ⟨b, 0, none⟩) n c) x) : VRel m h (.slice (some ⟨b, 0, none⟩) n 11) x := by
  obtain ⟨_, _, r1, o1, cap, q1, rfl, h0, hh⟩ := r.of_slice0
  cases q1
  refine .slice (.of h0.1 (by decide)) ?_
  rcases hh with hd | ⟨δ, E, h1, h2, _⟩
  · exact .inl hd
  · exact .inr ⟨δ, E, h1, h2, (fun h => by cases h), fun h => by cases h⟩
theorem hkCoF : CallGoal Try.prog 45 gCoF := kill_goal follows Try.func45 codeB45 (by kernel_rfl) fun args hp v hp' he hk => by
  unfold gCoF at he
  split at he
  case h_2 => cases he
  rename_i b n c
  split at he
  case isFalse => cases he
  rename_i hx
  obtain ⟨hb, hn, hn0, hn1⟩ := hx.choose_spec
  generalize hx.choose = ls at *
  cases he
  refine ⟨[b], [.cells 42 (tailC ls) false], rfl, fun b' hb' => ?_, fun m h w args' s ra => ?_⟩
  · have : b' = b := by simpa using hb'
    subst this
    exact ⟨_, hb, rfl⟩
  obtain ⟨v1, bs1, e1, r1, ra1⟩ := ra.of_cons
  have e4 := ra1.of_nil
  subst e4
  obtain ⟨_, _, rr, oo, cap, q1, rfl, hcap, hh⟩ := r1.of_slice0
  cases q1
  have gb := ovr_sub hk h b _ hb
  rcases hh with hd | ⟨δ, E, hm, hoff, hcok⟩
  · rw [gb] at hd; cases hd
  refine ⟨fun b' hb' => ?_, ?_⟩
  · have : b' = b := by simpa using hb'
    subst this
    exact ⟨_, hm⟩
  refine ⟨[0], [slL 0 n], heapOf [lB ls, .dead] hp0, canM m [b], rfl, rfl, heapOf_ok _ _ hp0_ok, startL_sim s hk hb (lrow_inert ls) hm, fun b' x hx _ => ?_, ?_, by rw [ntmps45]; simp, fun W => ?_⟩
  · unfold canM at hx
    match b' with
    | 0 => exact ⟨b, by simp, x, hx, rfl⟩
    | b' + 1 => simp at hx
  · rw [e1]
    exact .cons (.slice (.of hcap.1 (by decide)) (.inr ⟨δ, E, hm, hoff, (fun h => by cases h), fun h => by cases h⟩)) .nil
  · rw [ntmps45, hn]
    refine FRwp.mono (comp_fr ls (by omega) W) fun e st q => ?_
    obtain ⟨rfl, g, rfl⟩ := q
    have hI : inertB (.cells 42 (tailC ls) false) = true := tailC_inert ls
    have h0 : (stOf 61 g [(2, slL 0 (ded ls).length)] [.cells 42 (tailC ls) false]).hp.get 0 = some (.cells 42 (tailC ls) false) := get0 _
    refine ⟨.inr rfl, rfl, _, q45 _ _ g, rfl, fun b' hb' => ?_, fun m h x hx => ?_, ?_⟩
    · have : b' = 0 := by simpa using hb'
      subst this
      exact ⟨_, h0, ok2_inert hI, rfl⟩
    · have : sh3 [0] hp.sz (slL 0 (ded ls).length) = .slice (some ⟨hp.sz, 0, none⟩) (ded ls).length 11 := by simp [sh3, sh2, sh1, rho, idxOf, slL]
      rw [this] at hx
      exact slL_weak hx
    · simp only [outOf, List.map_cons, List.map_nil, h0, Option.getD_some, inert_shBlk hI]
theorem hkCo : CallGoal Try.prog 45 gCo := cutL_goal hkCoF fun args hp v hp2 he hk => by
  unfold gCo at he
  split at he
  case h_2 => cases he
  rename_i b n c
  split at he
  case isFalse => cases he
  rename_i hx
  cases he
  have hlt := lt_of_get hk hx.choose_spec.1
  refine ⟨heapOf ([.cells 42 (tailC hx.choose) false] ++ [.dead]) (killL [b] hp), by unfold gCoF; simp only; rw [dif_pos hx], ?_, ?_, fun b' => ?_⟩
  · refine heapOf_ok _ _ fun c hc => ?_
    rw [killL_sz] at hc
    rw [killL_get, if_neg (by simp; omega)]
    exact hk c hc
  · rw [heapOf_sz, heapOf_sz]; rfl
  · rw [heapOf_get, heapOf_get, killL_sz]
    by_cases h1 : b' < hp.sz
    · rw [if_pos h1, if_pos h1]; exact .inl rfl
    · rw [if_neg h1, if_neg h1]
      by_cases h2 : b' - hp.sz = 0
      · rw [h2]
        refine .inr ⟨by omega, by rw [heapOf_sz, killL_sz]; simp; omega, 42, lrow (ded hx.choose), repL z3 (hx.choose.length - (ded hx.choose).length), rfl, rfl⟩
      · obtain ⟨k, hk2⟩ : ∃ k, b' - hp.sz = k + 1 := ⟨b' - hp.sz - 1, by omega⟩
        rw [hk2]; exact .inl rfl
theorem gCo_of {ls : List Lev} {b n c : Nat} {hp : Hp} (hb : hp.get b = some (lB ls)) (hn : n = ls.length) (h0 : 0 < n) (h1 : n < 1000000) : gCo [.slice (some ⟨b, 0, none⟩) n c] hp = some (.slice (some ⟨hp.sz, 0, none⟩) (ded ls).length 11, heapOf [lB (ded ls), .dead] (hp.put b .dead)) := by
  unfold gCo
  have hx : ∃ ls : List Lev, hp.get b = some (lB ls) ∧ n = ls.length ∧ 0 < n ∧ n < 1000000 := ⟨ls, hb, hn, h0, h1⟩
  simp only
  rw [dif_pos hx]
  have e2 := hb.symm.trans hx.choose_spec.1
  unfold lB at e2
  injection e2 with e2
  injection e2 with _ e2 _
  have e3 := lrow_inj e2
  exact congrArg (fun l => some (Value.slice (some ⟨hp.sz, 0, none⟩) (ded l).length 11, heapOf ([lB (ded l)] ++ [.dead]) (killL [b] hp))) e3.symm
end Go.Proofs.Ytgeoommlmddgpaa.LtL
namespace Go.Proofs.Ytgeoommlmddgpaa.LtL
open Go Go.Proofs Go.Proofs.Ytgeoommlmddgpaa.AI Go.RowKit Go.Proofs.Ytgeoommlmddgpaa.Sort Go.Proofs.Ytgeoommlmddgpaa.LtA
def lvV (x : ViewV) : Lev := (lev0 x.n x.t x.o x.r x.d x.i, lev1 x.n x.t x.o x.r x.d x.i, lev2 x.n x.t x.o x.r x.d x.i)
def newL (b k : Nat) : Value := .slice (some ⟨b, 0, none⟩) k 10
def vLv (f : Bool) (b k : Nat) : Value := bif f then newL b k else nilS
noncomputable def E21 : Ext := extG (extH Try.prog [(39, g51), (26, g31)]) [(44, gSF), (45, gCo)]
theorem E21_ok : ExtOk Try.prog E21 := extG_ok (extH_ok (.cons hk51 (.cons hk31 .nil))) (.cons hkSF (.cons hkCo .nil))
noncomputable def E21n : Ext := extH Try.prog []
theorem E21n_ok : ExtOk Try.prog E21n := extH_ok .nil
noncomputable def fb21 : Code := (Try.f21.body).getD .skip
theorem ntmps21 : Try.f21.ntmps = 26 := by kernel_rfl
theorem q21 (v : Value) (O : List Blk) (g : Nat → Value) : retVal Try.prog Try.f21 (stOf 26 g [(2, v)] O) = some v := by kernel_rfl
noncomputable def k21a : Code := sL (fb21)
theorem sk21a : codeSafe Try.prog 26 k21a = true := by kernel_rfl
noncomputable def k21b : Code := sL (sR (fb21))
theorem sk21b : codeSafe Try.prog 26 k21b = true := by kernel_rfl
noncomputable def k21c : Code := sL (sL (sR (sR (fb21))))
theorem sk21c : codeSafe Try.prog 26 k21c = true := by kernel_rfl
noncomputable def k21L : Code := unL (unB (sR (sL (sR (sR (fb21))))))
theorem sk21L : codeSafe Try.prog 26 k21L = true := by kernel_rfl
noncomputable def k21z : Code := sR (sR (sR (fb21)))
theorem sk21z : codeSafe Try.prog 26 k21z = true := by kernel_rfl
noncomputable abbrev code21 : Code := .seq k21a (.seq k21b (.seq (.seq k21c (.block 0 (.loop k21L))) k21z))
theorem body21 : Try.f21.body = some code21 := by kernel_rfl
section
theorem lvA_0 (o : Blk) (n c : Nat) : (execN Try.prog (aCall Try.prog E21 60) (callN Try.prog E21 60) 60 k21a ⟨tmsOf [rowS 0 n c] 0 .leaf, heapOf [o, .dead] hp0, []⟩ (acc0 [])).map (fun y => (look2 1 [0] [0] (y.1, y.2.1), y.2.2.q, y.2.2.r, y.2.2.x)) =
    some ((.normal, [o], [(0, vS true 0 n c)], true), [], [], []) := by kernel_rfl
end
section
theorem lvAn_0  : (execN Try.prog (aCall Try.prog E21 60) (callN Try.prog E21 60) 60 k21a ⟨tmsOf [nilS] 0 .leaf, heapOf [.dead] hp0, []⟩ (acc0 [])).map (fun y => (look2 1 [0] [0] (y.1, y.2.1), y.2.2.q, y.2.2.r, y.2.2.x)) =
    some ((.normal, [.dead], [(0, nilS)], true), [], [], []) := by kernel_rfl
end
section
theorem lvB_0 (f : Bool) (o : Blk) (n c : Nat) (g : Nat → Value) : (execN Try.prog (aCall Try.prog E21 60) (callN Try.prog E21 60) 60 k21b (stOf 26 g [(0, vS f 0 n c)] [o]) (acc0 [])).map (fun y => (look2 2 [0, 1] [0, 3] (y.1, y.2.1), y.2.2.q, y.2.2.r, y.2.2.x)) =
    some ((.normal, [o, .dead], [(0, vS f 0 n c), (3, nilS)], true), [], [], []) := by cases f <;> kernel_rfl
end
section
theorem lvC_0 (f : Bool) (o : Blk) (n c : Nat) (g : Nat → Value) : (execN Try.prog (aCall Try.prog E21 60) (callN Try.prog E21 60) 60 k21c (stOf 26 g [(0, vS f 0 n c), (3, nilS)] [o, .dead]) (acc0 [])).map (fun y => (look2 2 [0, 1] [3, 6, 7, 8] (y.1, y.2.1), y.2.2.q, y.2.2.r, y.2.2.x)) =
    some ((.normal, [o, .dead], [(3, nilS), (6, vS f 0 n c), (7, iN (kk f n)), (8, iN 0)], true), [], [], []) := by cases f <;> kernel_rfl
end
theorem lvX_0 (f fu : Bool) (o U : Blk) (n c u i : Nat) (x : ViewV) (zs : List Lev) (g : Nat → Value) : (execN Try.prog (aCall Try.prog E21 60) (callN Try.prog E21 60) 60 k21L (stOf 26 g [(3, vLv fu 1 u), (6, vS f 0 n c), (7, iN (kk f n)), (8, iN i)] [o, U]) (acc0 [(0, .v (.bool false))])).map (fun y => (look2 1 [1] [3] (y.1, y.2.1), y.2.2.q, y.2.2.r, y.2.2.x)) =
    some ((.exit 0, [U], [(3, vLv fu 0 u)], true), [(some (.bool (decide ((Int.ofNat i) < (Int.ofNat (kk f n))))), .bool false)], [], []) := by cases f <;> cases fu <;> kernel_rfl
theorem lvS_0 (f fu : Bool) (o U : Blk) (n c u i : Nat) (x : ViewV) (zs : List Lev) (g : Nat → Value) : (execN Try.prog (aCall Try.prog E21 60) (callN Try.prog E21 60) 60 k21L (stOf 26 g [(3, vLv fu 1 u), (6, vS true 0 n c), (7, iN (kk true n)), (8, iN i)] [o, U]) (acc0 [(15, .v (iN (i + 1))), (13, .e (newL 5 (u + 1)) (effF fu 1 (lB zs))), (7, .v (.bool true)), (2, .v (.agg ⟨vc x⟩)), (1, .v (pb 0 (i * 7))), (0, .v (.bool true))])).map (fun y => (look2 2 [0, 5] [3, 6, 7, 8] (y.1, y.2.1), y.2.2.q, y.2.2.r, y.2.2.x)) =
    some ((.normal, [o, lB zs], [(3, .slice (some ⟨1, 0, none⟩) (u + 1) 10), (6, vS true 0 n c), (7, iN (kk true n)), (8, iN (i + 1))], true), [(some (.int .i64 (wrapF .i64 (Int.ofNat i + Int.ofNat 1))), iN (i + 1)), (some (.bool (toldV x)), .bool true), (aLoad Try.prog (heapOf [o, U, .dead] hp0).get 45 (pb 0 (i * 7)), .agg ⟨vc x⟩), (fstV ((aIndexAddr Try.prog 22 (vS true 0 n c) (iN i)).map fun v => (v, none)), pb 0 (i * 7)), (some (.bool (decide ((Int.ofNat i) < (Int.ofNat (kk true n))))), .bool true)], [], [(aAppend Try.prog (heapOf [o, U, .dead, .cells 45 [.int .i64 x.id, .bool x.n, .int .i64 x.t, .int .i64 x.o, .int .i64 x.r, .int .i64 x.d, .int .i64 x.i] false, .cells 42 [.int .i64 ((lvV x).1), .int .i64 ((lvV x).2.1), .int .i64 ((lvV x).2.2)] false] hp0).get 5 [34, 34] [vLv fu 1 u, newL 4 1], (newL 5 (u + 1), effF fu 1 (lB zs)))]) := by cases fu <;> kernel_rfl
theorem lvS_1 (f fu : Bool) (o U : Blk) (n c u i : Nat) (x : ViewV) (zs : List Lev) (g : Nat → Value) : (execN Try.prog (aCall Try.prog E21 60) (callN Try.prog E21 60) 60 k21L (stOf 26 g [(3, vLv fu 1 u), (6, vS true 0 n c), (7, iN (kk true n)), (8, iN i)] [o, U]) (acc0 [(8, .v (iN (i + 1))), (7, .v (.bool false)), (2, .v (.agg ⟨vc x⟩)), (1, .v (pb 0 (i * 7))), (0, .v (.bool true))])).map (fun y => (look2 2 [0, 1] [3, 6, 7, 8] (y.1, y.2.1), y.2.2.q, y.2.2.r, y.2.2.x)) =
    some ((.normal, [o, U], [(3, vLv fu 1 u), (6, vS true 0 n c), (7, iN (kk true n)), (8, iN (i + 1))], true), [(some (.int .i64 (wrapF .i64 (Int.ofNat i + Int.ofNat 1))), iN (i + 1)), (some (.bool (toldV x)), .bool false), (aLoad Try.prog (heapOf [o, U, .dead] hp0).get 45 (pb 0 (i * 7)), .agg ⟨vc x⟩), (fstV ((aIndexAddr Try.prog 22 (vS true 0 n c) (iN i)).map fun v => (v, none)), pb 0 (i * 7)), (some (.bool (decide ((Int.ofNat i) < (Int.ofNat (kk true n))))), .bool true)], [], []) := by cases fu <;> kernel_rfl
section
theorem lvZ_0 (us ss dd : List Lev) (k d : Nat) (g : Nat → Value) : (execN Try.prog (aCall Try.prog E21 60) (callN Try.prog E21 60) 60 k21z (stOf 26 g [(3, .slice (some ⟨0, 0, none⟩) k 10)] [lB us]) (acc0 [(3, .e (.slice (some ⟨2, 0, none⟩) d 11) [.put 0 (.dead), .push (lB dd), .push (.dead)]), (1, .e (.tuple #[]) [.put 0 (lB ss)])])).map (fun y => (look2 1 [2] [2] (y.1, y.2.1), y.2.2.q, y.2.2.r, y.2.2.x)) =
    some ((.ret, [lB dd], [(2, .slice (some ⟨0, 0, none⟩) d 11)], true), [], [(gCo [.slice (some ⟨0, 0, none⟩) k 10] (heapOf [lB ss, .dead] hp0), (.slice (some ⟨2, 0, none⟩) d 11, (heapOf [lB ss, .dead] hp0).eff [.put 0 (.dead), .push (lB dd), .push (.dead)])), (gSF [.slice (some ⟨0, 0, none⟩) k 10, .func (.func 25) #[] #[]] (heapOf [lB us, .dead] hp0), (.tuple #[], (heapOf [lB us, .dead] hp0).eff [.put 0 (lB ss)]))], []) := by kernel_rfl
end
section
theorem lvZn_0 (g : Nat → Value) : (execN Try.prog (aCall Try.prog E21n 60) (callN Try.prog E21n 60) 60 k21z (stOf 26 g [(3, nilS)] [.dead]) (acc0 [])).map (fun y => (look2 0 [] [2] (y.1, y.2.1), y.2.2.q, y.2.2.r, y.2.2.x)) =
    some ((.ret, [], [(2, nilS)], true), [], [], []) := by kernel_rfl
end
end Go.Proofs.Ytgeoommlmddgpaa.LtL
namespace Go.Proofs.Ytgeoommlmddgpaa.LtL
open Go Go.Proofs Go.Proofs.Ytgeoommlmddgpaa.AI Go.RowKit Go.Proofs.Ytgeoommlmddgpaa.Sort Go.Proofs.Ytgeoommlmddgpaa.LtA
def ownL (ls : List Lev) : Blk := match ls with
  | [] => .dead
  | l :: ls => lB (l :: ls)
def nb (l : List Lev) : Bool := !l.isEmpty
theorem ownL_ne {ls : List Lev} (h : ls ≠ []) : ownL ls = lB ls := by cases ls with
  | nil => exact absurd rfl h
  | cons => rfl
theorem ownL_inert (ls : List Lev) : inertB (ownL ls) = true := by cases ls with
  | nil => rfl
  | cons => exact lB_inert _
def rowLv (ls : List Lev) (b : Nat) : Value := match ls with
  | [] => nilS
  | l :: ls => .slice (some ⟨b, 0, none⟩) (ls.length + 1) 11
def rowLO (ls : List Lev) : List Blk := match ls with
  | [] => []
  | l :: ls => [lB (l :: ls)]
theorem rowL_out (ls : List Lev) : rowLO ls = [] ∨ ∃ B, rowLO ls = [B] ∧ inertB B = true ∧ rwB B = true := by
  cases ls with
  | nil => exact .inl rfl
  | cons i ids => exact .inr ⟨lB (i :: ids), rfl, lB_inert _, rfl⟩
theorem rowL_ok (ls : List Lev) : ok3 (rowLv ls 0) = true := by cases ls <;> rfl
theorem underlyingL : Try.prog.underlying 34 = some (.slice 42) := by kernel_rfl
theorem infoL : ∃ i, Try.prog.info? 42 = some i ∧ i.size = 3 ∧ i.bytes = 24 := by
  have h : (Try.prog.info? 42).map (fun i => (i.size, i.bytes)) = some (3, 24) := by kernel_rfl
  obtain ⟨i, h1, h2⟩ := Option.map_eq_some_iff.1 h
  simp only [Prod.mk.injEq] at h2
  exact ⟨i, h1, h2.1, h2.2⟩
theorem zeroL : ∃ z, tzero Try.prog 42 = some z ∧ z.length = 3 := by
  have h : (tzero Try.prog 42).map (fun z => z.length) = some 3 := by kernel_rfl
  obtain ⟨z, h1, h2⟩ := Option.map_eq_some_iff.1 h
  exact ⟨z, h1, h2⟩
theorem app_lev {get : Nat → Option Blk} {sz b b2 k : Nat} {ls : List Lev} {x : Lev} {f : Bool} (hf : f = !ls.isEmpty) (hb : get b = some (ownL ls)) (hb2 : get b2 = some (.cells 42 (lc x) false)) (hk : k = ls.length) (hl : k < 2000000) :
    aAppend Try.prog get sz [34, 34] [vLv f b k, newL b2 1] = some (newL sz (k + 1), effF f b (lB (ls ++ [x]))) := by
  subst hf hk
  obtain ⟨i, hi, h1, h8⟩ := infoL
  obtain ⟨z, hz, hzl⟩ := zeroL
  have hsrc : aSrc Try.prog get 3 z (.slice 42) (newL b2 1) = some (lc x, 1) := by
    unfold aSrc newL
    simp only [srcLen, srcCells, hb2]
    rw [if_neg (by omega), if_neg (by omega), getR_all (n := 1 * 3) rfl]
    rfl
  cases ls with
  | nil =>
    show aAppend Try.prog get sz [34, 34] [nilS, newL b2 1] = some (newL sz 1, [.push (lB [x])])
    unfold aAppend
    simp only [underlyingL, hi, hz, h1, h8, hzl]
    rw [if_neg (by decide)]
    simp only [hsrc]
    rw [if_neg (by simp [isOne, lc])]
    simp only [nilS]
    rw [if_neg (by omega), if_neg (by omega)]
    rfl
  | cons w ws =>
    have hun : w :: ws ≠ [] := by simp
    rw [ownL_ne hun] at hb
    generalize w :: ws = ls at *
    rw [isE_false hun]
    show aAppend Try.prog get sz [34, 34] [newL b ls.length, newL b2 1] = some (newL sz (ls.length + 1), [.put b .dead, .push (lB (ls ++ [x]))])
    unfold lB at hb
    have hg : getR (lrow ls) 0 (ls.length * 3) = some (lrow ls) := getR_all (lrow_len ls)
    unfold aAppend
    simp only [underlyingL, hi, hz, h1, h8, hzl]
    rw [if_neg (by decide)]
    simp only [hsrc]
    rw [if_neg (by simp [isOne, lc])]
    simp only [newL]
    rw [if_neg (by omega), if_neg (by omega)]
    simp only [hb, hg]
    rw [if_neg (by omega), if_pos (by decide), if_neg (by rw [lrow_len]; omega)]
    have e : lrow (ls ++ [x]) = lrow ls ++ lc x := by unfold lrow; rw [List.flatMap_append]; simp
    unfold lB
    rw [e]
def levsV (vs : List ViewV) : List Lev := (vs.filter toldV).map lvV
def dlev (ls : List Lev) : List Lev := match ls with
  | [] => []
  | l :: ls => ded (sortL (l :: ls))
def levU (us : List Lev) (x : ViewV) : List Lev := bif toldV x then us ++ [lvV x] else us
theorem lev_fold : ∀ {vs : List ViewV} {us : List Lev}, vs.foldl levU us = us ++ levsV vs
  | [], us => by simp [levsV]
  | v :: vs, us => by
    rw [List.foldl_cons, lev_fold]
    unfold levU levsV
    cases h : toldV v with
    | true => rw [List.filter_cons_of_pos h]; simp
    | false => rw [List.filter_cons_of_neg (by rw [h]; simp)]; rfl
theorem levsV_len (vs : List ViewV) : (levsV vs).length ≤ vs.length := by unfold levsV; rw [List.length_map]; exact List.length_filter_le ..
theorem ded_ne {ls : List Lev} (h : ls ≠ []) : ded ls ≠ [] := fun e => by
  obtain ⟨y, hy⟩ : ∃ y, ls.getLast? = some y := ⟨_, List.getLast?_eq_some_getLast h⟩
  have := ded_last hy
  rw [e] at this; cases this
def levR (vs : List ViewV) : Ans := fun rest => match rest with
  | [] => some (rowLv (dlev (levsV vs)) 0, rowLO (dlev (levsV vs)))
  | _ => none
theorem finL {q : ∀ (v : Value) (O : List Blk) (g : Nat → Value), retVal Try.prog Try.f21 (stOf 26 g [(2, v)] O) = some v} {ls : List Lev} (h : ls ≠ []) (g : Nat → Value) : FinR Try.f21 (rowLv ls 0) (rowLO ls) .ret (stOf 26 g [(2, .slice (some ⟨0, 0, none⟩) ls.length 11)] [lB ls]) := by
  cases ls with
  | nil => exact absurd rfl h
  | cons l ls => exact ⟨.inr rfl, rfl, q _ _ g, fun B hB => by cases hB; show (heapOf _ hp0).get 0 = _; rw [heapOf0_get]; rfl⟩
theorem run21 (vs : List ViewV) (hn : vs.length < 1000000) : ∀ rest v0 O, levR vs rest = some (v0, O) → RowRun Try.f21 code21 26 vs rest v0 O := fun rest v0 O h => by
  unfold levR at h
  split at h
  case h_2 => cases h
  cases h
  refine ⟨rowL_out _, rowL_ok _, (by intro r hr; cases hr), by simp, fun f o c W ho hrow hfl => ?_⟩
  have hkk := kk_len hfl
  have fx2 : ∀ us : List Lev, ∀ r : List Blk, ∀ i, i < 2 → ∀ o', (o :: ownL us :: r)[i]? = some o' → Fixed 0 o' := fun us => fixOO ho (ownL_inert us)
  refine FRwp.seq (Q1 := fun e st => e = .normal ∧ ∃ g, st = stOf 26 g [(0, vS f 0 vs.length c)] [o]) ?_ ?_ (fun x st hne hq => absurd hq.1 hne)
  · cases f with
    | true => exact FRwp.pieceN E21_ok follows 60 1 _ _ _ _ (lvA_0 o vs.length c) Met.nil MetH.nil MetE.nil sk21a rfl rfl (fix11 ho _) fun g => ⟨rfl, g, rfl⟩
    | false =>
      obtain ⟨rfl, rfl⟩ := hfl rfl
      exact FRwp.pieceN E21_ok follows 60 1 _ _ _ _ lvAn_0 Met.nil MetH.nil MetE.nil sk21a rfl rfl (fix11 rfl _) fun g => ⟨rfl, g, rfl⟩
  rintro st ⟨-, g, rfl⟩
  refine FRwp.seq (Q1 := fun e st => e = .normal ∧ ∃ g, st = stOf 26 g [(0, vS f 0 vs.length c), (3, nilS)] [o, .dead]) (FRwp.pieceN E21_ok follows 60 2 _ _ _ _ (lvB_0 f o vs.length c g) Met.nil MetH.nil MetE.nil sk21b rfl rfl (fx2 [] _) fun g => ⟨rfl, g, rfl⟩) ?_ (fun x st hne hq => absurd hq.1 hne)
  rintro st ⟨-, g, rfl⟩
  let I : List Lev → Nat → (Nat → Value) → St := fun us i g => stOf 26 g [(3, vLv (!us.isEmpty) 1 us.length), (6, vS f 0 vs.length c), (7, iN (kk f vs.length)), (8, iN i)] [o, ownL us]
  refine FRwp.seq (Q1 := fun e st => e = .normal ∧ ∃ g, st = stOf 26 g [(3, vLv (!(levsV vs).isEmpty) 0 (levsV vs).length)] [ownL (levsV vs)]) ?_ ?_ (fun x st hne hq => absurd hq.1 hne)
  · refine FRwp.seq (Q1 := fun e st => e = .normal ∧ ∃ g, st = I [] 0 g) (FRwp.pieceN E21_ok follows 60 2 _ _ _ _ (lvC_0 f o vs.length c g) Met.nil MetH.nil MetE.nil sk21c rfl rfl (fx2 [] _) fun g => ⟨rfl, g, rfl⟩) ?_ (fun x st hne hq => absurd hq.1 hne)
    rintro st ⟨-, g, rfl⟩
    refine FRwp.mono (fold_loop' levU [] I (fun us st => ∃ g, st = stOf 26 g [(3, vLv (!us.isEmpty) 0 us.length)] [ownL us]) (fun us g hf => ?_) (fun i x us g hx hlt hf => ?_) g) fun e st q => by rw [lev_fold] at q; exact q
    · exact FRwp.pieceN E21_ok follows 60 1 _ _ _ _ (lvX_0 f (!us.isEmpty) o (ownL us) vs.length c us.length vs.length ⟨0, false, 0, 0, 0, 0, 0⟩ [] g) (Met.cons (bool_ok (by rw [hkk]; simp)) Met.nil) MetH.nil MetE.nil sk21L rfl rfl (fix11 (ownL_inert us) []) fun g' => ⟨rfl, g', rfl⟩
    · have hft : f = true := by cases f with
        | true => rfl
        | false => rw [(hfl rfl).1] at hlt; simp at hlt
      subst hft
      have hr : ∃ ty ro, o = .cells ty (vrow vs) ro := by
        rcases hrow with h | h
        · rw [h] at hlt; simp at hlt
        · exact h
      have hul : us.length ≤ i := by
        rw [← hf, lev_fold]
        have := levsV_len (vs.take i)
        rw [List.length_take] at this
        simp; omega
      have b0 : RowAt (heapOf [o, ownL us, .dead] hp0) 0 vs := rowAt0 hr
      cases ht : toldV x with
      | false =>
        refine FRwp.pieceN E21_ok follows 60 2 _ _ _ _ (lvS_1 true (!us.isEmpty) o (ownL us) vs.length c us.length i x [] g)
          (Met.cons (wrap_up (by omega)) (Met.cons (congrArg (fun b => some (Value.bool b)) ht) (Met.cons (LtA.vload_ok b0 hx) (Met.cons (LtA.vidx_ok hlt) (Met.cons (bool_ok (decide_eq_true (by show ((i : Nat) : Int) < ((vs.length : Nat) : Int); omega))) Met.nil))))) MetH.nil MetE.nil sk21L rfl rfl (fx2 us _) fun g' => ⟨rfl, g', ?_⟩
        unfold levU; rw [ht]; rfl
      | true =>
        have happ := app_lev (get := (heapOf [o, ownL us, .dead, .cells 45 [.int .i64 x.id, .bool x.n, .int .i64 x.t, .int .i64 x.o, .int .i64 x.r, .int .i64 x.d, .int .i64 x.i] false, .cells 42 [.int .i64 ((lvV x).1), .int .i64 ((lvV x).2.1), .int .i64 ((lvV x).2.2)] false] hp0).get) (sz := 5) (b := 1) (b2 := 4) (ls := us) (x := lvV x) rfl (by rw [heapOf0_get]; rfl) (by rw [heapOf0_get]; rfl) rfl (by omega)
        refine FRwp.pieceN E21_ok follows 60 2 _ _ _ _ (lvS_0 true (!us.isEmpty) o (ownL us) vs.length c us.length i x (us ++ [lvV x]) g)
          (Met.cons (wrap_up (by omega)) (Met.cons (congrArg (fun b => some (Value.bool b)) ht) (Met.cons (LtA.vload_ok b0 hx) (Met.cons (LtA.vidx_ok hlt) (Met.cons (bool_ok (decide_eq_true (by show ((i : Nat) : Int) < ((vs.length : Nat) : Int); omega))) Met.nil))))) MetH.nil (MetE.cons happ MetE.nil) sk21L rfl rfl (by rw [← ownL_ne (by simp : us ++ [lvV x] ≠ [])]; exact fx2 _ _) fun g' => ⟨rfl, g', ?_⟩
        unfold levU
        rw [ht, cond_true]
        show _ = stOf 26 g' [(3, vLv (!(us ++ [lvV x]).isEmpty) 1 (us ++ [lvV x]).length), _, _, _] [o, ownL (us ++ [lvV x])]
        rw [isE_app, ownL_ne (by simp : us ++ [lvV x] ≠ [])]
        have e1 : (us ++ [lvV x]).length = us.length + 1 := by simp
        rw [e1]; rfl
  rintro st ⟨-, g, rfl⟩
  have hl := levsV_len vs
  generalize levsV vs = us at *
  cases us with
  | nil => exact FRwp.pieceN E21n_ok follows 60 0 _ _ _ _ (lvZn_0 g) Met.nil MetH.nil MetE.nil sk21z rfl rfl (noFix _) fun g => ⟨.inr rfl, rfl, q21 _ _ g, (fun B hB => by cases hB)⟩
  | cons w ws =>
    show FRwp Try.prog 26 W k21z _ (FinR Try.f21 (rowLv (ded (sortL (w :: ws))) 0) (rowLO (ded (sortL (w :: ws)))))
    have hun : w :: ws ≠ [] := by simp
    have hpos : 0 < (w :: ws).length := by simp
    generalize w :: ws = us at *
    rw [ownL_ne hun, isE_false hun]
    have hsl := sortL_len us
    have hsn : sortL us ≠ [] := fun e => by rw [e] at hsl; simp at hsl; omega
    refine FRwp.pieceN E21_ok follows 60 1 _ _ _ _ (lvZ_0 us (sortL us) (ded (sortL us)) us.length (ded (sortL us)).length g) Met.nil
      (MetH.cons (gCo_of (ls := sortL us) rfl (by omega) (by omega) (by omega)) (MetH.cons (gSF_of (ls := us) rfl rfl (by omega) (by omega)) MetH.nil)) MetE.nil sk21z rfl rfl (fix11 (lB_inert _) []) fun g => finL (q := q21) (ded_ne hsn) g
noncomputable def GLv : HeapFn := padF (toldR levR)
theorem hkLv : CallGoal Try.prog 21 GLv := pad_goal (toldR_goal Try.func21 body21 (by kernel_rfl) ntmps21 fun vs hn => run21 vs hn)
theorem GLv_of {vs : List ViewV} {s : Value} {hp : Hp} (h : TN vs s hp) (hn : vs.length < 1000000) : GLv [s] hp = some (rowLv (dlev (levsV vs)) hp.sz, heapOf [ownL (dlev (levsV vs)), .dead] hp) := by
  unfold GLv
  have e := toldR_of (A := levR) (rest := []) (v0 := rowLv (dlev (levsV vs)) 0) (O := rowLO (dlev (levsV vs))) h hn rfl
  generalize dlev (levsV vs) = ls at *
  cases ls with
  | nil => exact pad_one e
  | cons l ls =>
    refine pad_two (e.trans ?_)
    show some (sh3 [0] hp.sz (.slice (some ⟨0, 0, none⟩) _ _), _) = _
    simp [sh3, sh2, sh1, rho, idxOf, rowLv]; rfl
end Go.Proofs.Ytgeoommlmddgpaa.LtL
namespace Go.Proofs.Ytgeoommlmddgpaa.LtA
open Go Go.Proofs Go.Proofs.Ytgeoommlmddgpaa.AI Go.RowKit Go.Proofs.Ytgeoommlmddgpaa.Sort Go.Proofs.Ytgeoommlmddgpaa.LtL
noncomputable def E43d : Ext := extG (extH Try.prog [(13, g14)]) [(56, G35)]
noncomputable def fb43d : Code := (Try.f43.body).getD .skip
theorem ntmps43d : Try.f43.ntmps = 75 := by kernel_rfl
noncomputable def k43da : Code := sL (fb43d)
theorem sk43da : codeSafe Try.prog 75 k43da = true := by kernel_rfl
noncomputable def k43db : Code := sL (sR (fb43d))
theorem sk43db : codeSafe Try.prog 75 k43db = true := by kernel_rfl
noncomputable def k43dc : Code := sL (sL (sR (sR (fb43d))))
theorem sk43dc : codeSafe Try.prog 75 k43dc = true := by kernel_rfl
noncomputable def k43dL : Code := unL (unB (sR (sL (sR (sR (fb43d))))))
theorem sk43dL : codeSafe Try.prog 75 k43dL = true := by kernel_rfl
noncomputable def k43dd : Code := sL (sR (sR (sR (fb43d))))
theorem sk43dd : codeSafe Try.prog 75 k43dd = true := by kernel_rfl
noncomputable def k43dM : Code := sL (unL (unB (sL (sR (sR (sR (sR (fb43d))))))))
theorem sk43dM : codeSafe Try.prog 75 k43dM = true := by kernel_rfl
noncomputable def k43de : Code := sL (unB (sR (unL (unB (sL (sR (sR (sR (sR (fb43d))))))))))
theorem sk43de : codeSafe Try.prog 75 k43de = true := by kernel_rfl
noncomputable def k43df : Code := sL (sR (unB (sR (unL (unB (sL (sR (sR (sR (sR (fb43d)))))))))))
theorem sk43df : codeSafe Try.prog 75 k43df = true := by kernel_rfl
noncomputable def k43dg : Code := sL (sR (sR (unB (sR (unL (unB (sL (sR (sR (sR (sR (fb43d))))))))))))
theorem sk43dg : codeSafe Try.prog 75 k43dg = true := by kernel_rfl
noncomputable def k43dh : Code := sL (sL (sR (sR (sR (unB (sR (unL (unB (sL (sR (sR (sR (sR (fb43d))))))))))))))
theorem sk43dh : codeSafe Try.prog 75 k43dh = true := by kernel_rfl
noncomputable def k43dJ : Code := unL (unB (sR (sL (sR (sR (sR (unB (sR (unL (unB (sL (sR (sR (sR (sR (fb43d))))))))))))))))
theorem sk43dJ : codeSafe Try.prog 75 k43dJ = true := by kernel_rfl
noncomputable def k43dk : Code := sR (sR (sR (sR (unB (sR (unL (unB (sL (sR (sR (sR (sR (fb43d)))))))))))))
theorem sk43dk : codeSafe Try.prog 75 k43dk = true := by kernel_rfl
noncomputable def k43dz : Code := sR (sR (sR (sR (sR (fb43d)))))
theorem sk43dz : codeSafe Try.prog 75 k43dz = true := by kernel_rfl
noncomputable abbrev code43d : Code := .seq k43da (.seq k43db (.seq (.seq k43dc (.block 0 (.loop k43dL))) (.seq k43dd (.seq (.block 2 (.loop (.seq k43dM (.block 3 (.seq k43de (.seq k43df (.seq k43dg (.seq (.seq k43dh (.block 4 (.loop k43dJ))) k43dk)))))))) k43dz))))
theorem body43d : Try.f43.body = some code43d := by kernel_rfl
theorem ofA_0 (f fu fo fr b lb : Bool) (o : Blk) (us rs zs : List ViewV) (is ids : List Int) (n c u q r i : Nat) (d : Int) (own x y : ViewV) (g : Nat → Value) : (execN Try.prog (aCall Try.prog E43d 60) (callN Try.prog E43d 60) 60 k43da ⟨tmsOf [vS f 0 n c, hcA own, .int .i64 d] 0 .leaf, heapOf [o, .dead] hp0, []⟩ (acc0 [])).map (fun y => (look2 1 [0, 2] [0, 2, 4] (y.1, y.2.1), y.2.2.q, y.2.2.r, y.2.2.x)) =
    some ((.normal, [o, .cells 24 [.bool own.n, .int .i64 own.t, .int .i64 own.o, .int .i64 own.r, .int .i64 own.d, .int .i64 own.i] false], [(0, vS f 0 n c), (2, .int .i64 d), (4, pb 1 0)], true), [], [], []) := by cases f <;> kernel_rfl
theorem ofAn_0 (f fu fo fr b lb : Bool) (o : Blk) (us rs zs : List ViewV) (is ids : List Int) (n c u q r i : Nat) (d : Int) (own x y : ViewV) (g : Nat → Value) : (execN Try.prog (aCall Try.prog E43d 60) (callN Try.prog E43d 60) 60 k43da ⟨tmsOf [nilS, hcA own, .int .i64 d] 0 .leaf, heapOf [.dead] hp0, []⟩ (acc0 [])).map (fun y => (look2 1 [0, 1] [0, 2, 4] (y.1, y.2.1), y.2.2.q, y.2.2.r, y.2.2.x)) =
    some ((.normal, [.dead, .cells 24 [.bool own.n, .int .i64 own.t, .int .i64 own.o, .int .i64 own.r, .int .i64 own.d, .int .i64 own.i] false], [(0, nilS), (2, .int .i64 d), (4, pb 1 0)], true), [], [], []) := by kernel_rfl
theorem ofB_0 (f fu fo fr b lb : Bool) (o : Blk) (us rs zs : List ViewV) (is ids : List Int) (n c u q r i : Nat) (d : Int) (own x y : ViewV) (g : Nat → Value) : (execN Try.prog (aCall Try.prog E43d 60) (callN Try.prog E43d 60) 60 k43db (stOf 75 g [(0, vS f 0 n c), (2, .int .i64 d), (4, pb 1 0)] [o, (hB own)]) (acc0 [])).map (fun y => (look2 2 [0, 1, 2] [0, 2, 4, 7] (y.1, y.2.1), y.2.2.q, y.2.2.r, y.2.2.x)) =
    some ((.normal, [o, (hB own), .dead], [(0, vS f 0 n c), (2, .int .i64 d), (4, pb 1 0), (7, nilS)], true), [], [], []) := by cases f <;> kernel_rfl
theorem ofC_0 (f fu fo fr b lb : Bool) (o : Blk) (us rs zs : List ViewV) (is ids : List Int) (n c u q r i : Nat) (d : Int) (own x y : ViewV) (g : Nat → Value) : (execN Try.prog (aCall Try.prog E43d 60) (callN Try.prog E43d 60) 60 k43dc (stOf 75 g [(0, vS f 0 n c), (2, .int .i64 d), (4, pb 1 0), (7, nilS)] [o, (hB own), (LtA.ownB us)]) (acc0 [])).map (fun y => (look2 3 [0, 1, 2] [0, 2, 4, 7, 8] (y.1, y.2.1), y.2.2.q, y.2.2.r, y.2.2.x)) =
    some ((.normal, [o, (hB own), (LtA.ownB us)], [(0, vS f 0 n c), (2, .int .i64 d), (4, pb 1 0), (7, nilS), (8, iN 0)], true), [], [], []) := by cases f <;> kernel_rfl
theorem ofLx_0 (f fu fo fr b lb : Bool) (o : Blk) (us rs zs : List ViewV) (is ids : List Int) (n c u q r i : Nat) (d : Int) (own x y : ViewV) (g : Nat → Value) : (execN Try.prog (aCall Try.prog E43d 60) (callN Try.prog E43d 60) 60 k43dL (stOf 75 g [(0, vS f 0 n c), (2, .int .i64 d), (4, pb 1 0), (7, vS fu 2 u 22), (8, iN i)] [o, (hB own), (LtA.ownB us)]) (acc0 [(3, .v (.bool false))])).map (fun y => (look2 1 [2] [7] (y.1, y.2.1), y.2.2.q, y.2.2.r, y.2.2.x)) =
    some ((.exit 0, [(LtA.ownB us)], [(7, vS fu 0 u 22)], true), [(some (.bool (decide ((Int.ofNat i) < (Int.ofNat (kk f n))))), .bool false)], [], []) := by cases f <;> cases fu <;> kernel_rfl
theorem ofL_0 (f fu fo fr b lb : Bool) (o : Blk) (us rs zs : List ViewV) (is ids : List Int) (n c u q r i : Nat) (d : Int) (own x y : ViewV) (g : Nat → Value) : (execN Try.prog (aCall Try.prog E43d 60) (callN Try.prog E43d 60) 60 k43dL (stOf 75 g [(0, vS true 0 n c), (2, .int .i64 d), (4, pb 1 0), (7, vS fu 2 u 22), (8, iN i)] [o, (hB own), (LtA.ownB us)]) (acc0 [(22, .v (iN (i + 1))), (19, .e (.slice (some ⟨5, 0, none⟩) (u + 1) 22) (effF fu 2 (LtA.rowB zs))), (17, .v (.agg ⟨vc x⟩)), (16, .v (pb 0 (i * 7))), (12, .v (.bool true)), (9, .v (hcA x)), (7, .v (pb 0 (i * 7))), (3, .v (.bool true))])).map (fun y => (look2 3 [0, 1, 5] [0, 2, 4, 7, 8] (y.1, y.2.1), y.2.2.q, y.2.2.r, y.2.2.x)) =
    some ((.normal, [o, (hB own), (LtA.rowB zs)], [(0, vS true 0 n c), (2, .int .i64 d), (4, pb 1 0), (7, .slice (some ⟨2, 0, none⟩) (u + 1) 22), (8, iN (i + 1))], true), [(some (.int .i64 (wrapF .i64 (Int.ofNat i + Int.ofNat 1))), iN (i + 1)), (aLoad Try.prog (heapOf [o, (hB own), (LtA.ownB us), .dead] hp0).get 45 (pb 0 (i * 7)), .agg ⟨vc x⟩), (fstV ((aIndexAddr Try.prog 22 (vS true 0 n c) (iN i)).map fun v => (v, none)), pb 0 (i * 7)), (some (.bool ((dirV own x) == d)), .bool true), (aLoad Try.prog (heapOf [o, (hB own), (LtA.ownB us), .dead] hp0).get 24 (pb 0 ((i * 7) + 1)), hcA x), (fstV ((aIndexAddr Try.prog 22 (vS true 0 n c) (iN i)).map fun v => (v, none)), pb 0 (i * 7)), (some (.bool (decide ((Int.ofNat i) < (Int.ofNat (kk true n))))), .bool true)], [], [(aAppend Try.prog (heapOf [o, (hB own), (LtA.ownB us), .dead, .cells 45 [.int .i64 x.id, .bool x.n, .int .i64 x.t, .int .i64 x.o, .int .i64 x.r, .int .i64 x.d, .int .i64 x.i] false] hp0).get 5 [22, 22] [vS fu 2 u 22, .slice (some ⟨4, 0, none⟩) 1 22], (.slice (some ⟨5, 0, none⟩) (u + 1) 22, (effF fu 2 (LtA.rowB zs))))]) := by cases fu <;> kernel_rfl
theorem ofL_1 (f fu fo fr b lb : Bool) (o : Blk) (us rs zs : List ViewV) (is ids : List Int) (n c u q r i : Nat) (d : Int) (own x y : ViewV) (g : Nat → Value) : (execN Try.prog (aCall Try.prog E43d 60) (callN Try.prog E43d 60) 60 k43dL (stOf 75 g [(0, vS true 0 n c), (2, .int .i64 d), (4, pb 1 0), (7, vS fu 2 u 22), (8, iN i)] [o, (hB own), (LtA.ownB us)]) (acc0 [(14, .v (iN (i + 1))), (12, .v (.bool false)), (9, .v (hcA x)), (7, .v (pb 0 (i * 7))), (3, .v (.bool true))])).map (fun y => (look2 3 [0, 1, 2] [0, 2, 4, 7, 8] (y.1, y.2.1), y.2.2.q, y.2.2.r, y.2.2.x)) =
    some ((.normal, [o, (hB own), (LtA.ownB us)], [(0, vS true 0 n c), (2, .int .i64 d), (4, pb 1 0), (7, vS fu 2 u 22), (8, iN (i + 1))], true), [(some (.int .i64 (wrapF .i64 (Int.ofNat i + Int.ofNat 1))), iN (i + 1)), (some (.bool ((dirV own x) == d)), .bool false), (aLoad Try.prog (heapOf [o, (hB own), (LtA.ownB us), .dead] hp0).get 24 (pb 0 ((i * 7) + 1)), hcA x), (fstV ((aIndexAddr Try.prog 22 (vS true 0 n c) (iN i)).map fun v => (v, none)), pb 0 (i * 7)), (some (.bool (decide ((Int.ofNat i) < (Int.ofNat (kk true n))))), .bool true)], [], []) := by cases fu <;> kernel_rfl
theorem ofD_0 (f fu fo fr b lb : Bool) (o : Blk) (us rs zs : List ViewV) (is ids : List Int) (n c u q r i : Nat) (d : Int) (own x y : ViewV) (g : Nat → Value) : (execN Try.prog (aCall Try.prog E43d 60) (callN Try.prog E43d 60) 60 k43dd (stOf 75 g [(7, vS fu 0 u 22)] [(LtA.ownB us)]) (acc0 [])).map (fun y => (look2 1 [0, 1] [7, 9] (y.1, y.2.1), y.2.2.q, y.2.2.r, y.2.2.x)) =
    some ((.normal, [(LtA.ownB us), .dead], [(7, vS fu 0 u 22), (9, nilS)], true), [], [], []) := by cases fu <;> kernel_rfl
theorem ofMx_0 (f fu fo fr b lb : Bool) (o : Blk) (us rs zs : List ViewV) (is ids : List Int) (n c u q r i : Nat) (d : Int) (own x y : ViewV) (g : Nat → Value) : (execN Try.prog (aCall Try.prog E43d 60) (callN Try.prog E43d 60) 60 k43dM (stOf 75 g [(7, vS fu 0 u 22), (9, vI fo 1 q)] [(LtA.ownB us), (ownI is)]) (acc0 [(2, .v (.bool false))])).map (fun y => (look2 1 [1] [9] (y.1, y.2.1), y.2.2.q, y.2.2.r, y.2.2.x)) =
    some ((.exit 2, [(ownI is)], [(9, vI fo 0 q)], true), [(some (.bool (decide ((Int.ofNat (kk fu u)) > (Int.ofNat 0)))), .bool false)], [], []) := by cases fu <;> cases fo <;> kernel_rfl
theorem ofM_0 (f fu fo fr b lb : Bool) (o : Blk) (us rs zs : List ViewV) (is ids : List Int) (n c u q r i : Nat) (d : Int) (own x y : ViewV) (g : Nat → Value) : (execN Try.prog (aCall Try.prog E43d 60) (callN Try.prog E43d 60) 60 k43dM (stOf 75 g [(7, vS true 0 u 22), (9, vI fo 1 q)] [(LtA.ownB us), (ownI is)]) (acc0 [(2, .v (.bool true))])).map (fun y => (look2 2 [0, 1] [7, 9] (y.1, y.2.1), y.2.2.q, y.2.2.r, y.2.2.x)) =
    some ((.normal, [(LtA.ownB us), (ownI is)], [(7, vS true 0 u 22), (9, vI fo 1 q)], true), [(some (.bool (decide ((Int.ofNat (kk true u)) > (Int.ofNat 0)))), .bool true)], [], []) := by cases fo <;> kernel_rfl
theorem ofE_0 (f fu fo fr b lb : Bool) (o : Blk) (us rs zs : List ViewV) (is ids : List Int) (n c u q r i : Nat) (d : Int) (own x y : ViewV) (g : Nat → Value) : (execN Try.prog (aCall Try.prog E43d 60) (callN Try.prog E43d 60) 60 k43de (stOf 75 g [(7, vS true 0 u 22), (9, vI fo 1 q)] [(LtA.ownB us), (ownI is)]) (acc0 [(1, .h (.tuple #[.agg ⟨vc y⟩, .bool lb]) [.dead])])).map (fun y => (look2 3 [0, 1, 4] [7, 9, 10] (y.1, y.2.1), y.2.2.q, y.2.2.r, y.2.2.x)) =
    some ((.normal, [(LtA.ownB us), (ownI is), .cells 45 [.int .i64 y.id, .bool y.n, .int .i64 y.t, .int .i64 y.o, .int .i64 y.r, .int .i64 y.d, .int .i64 y.i] false], [(7, vS true 0 u 22), (9, vI fo 1 q), (10, pb 2 0)], true), [], [(G35 [vS true 0 u 22] (heapOf [(LtA.ownB us), (ownI is), .dead] hp0), (.tuple #[.agg ⟨vc y⟩, .bool lb], heapOf [.dead] (heapOf [(LtA.ownB us), (ownI is), .dead] hp0)))], []) := by cases fo <;> kernel_rfl
theorem ofF_0 (f fu fo fr b lb : Bool) (o : Blk) (us rs zs : List ViewV) (is ids : List Int) (n c u q r i : Nat) (d : Int) (own x y : ViewV) (g : Nat → Value) : (execN Try.prog (aCall Try.prog E43d 60) (callN Try.prog E43d 60) 60 k43df (stOf 75 g [(7, vS true 0 u 22), (9, vI fo 1 q), (10, pb 2 0)] [(LtA.ownB us), (ownI is), (LtA.vB y)]) (acc0 [])).map (fun y => (look2 3 [0, 1, 2, 3] [7, 9, 10, 12] (y.1, y.2.1), y.2.2.q, y.2.2.r, y.2.2.x)) =
    some ((.normal, [(LtA.ownB us), (ownI is), (LtA.vB y), .dead], [(7, vS true 0 u 22), (9, vI fo 1 q), (10, pb 2 0), (12, nilS)], true), [], [], []) := by cases fo <;> kernel_rfl
theorem ofG_0 (f fu fo fr b lb : Bool) (o : Blk) (us rs zs : List ViewV) (is ids : List Int) (n c u q r i : Nat) (d : Int) (own x y : ViewV) (g : Nat → Value) : (execN Try.prog (aCall Try.prog E43d 60) (callN Try.prog E43d 60) 60 k43dg (stOf 75 g [(7, vS true 0 u 22), (9, vI fo 1 q), (10, pb 2 0), (12, nilS)] [(LtA.ownB us), (ownI is), (LtA.vB y), (LtA.ownB rs)]) (acc0 [])).map (fun y => (look2 4 [0, 1, 2, 3] [7, 9, 10, 12, 13] (y.1, y.2.1), y.2.2.q, y.2.2.r, y.2.2.x)) =
    some ((.normal, [(LtA.ownB us), (ownI is), (LtA.vB y), (LtA.ownB rs)], [(7, vS true 0 u 22), (9, vI fo 1 q), (10, pb 2 0), (12, nilS), (13, .bool false)], true), [], [], []) := by cases fo <;> kernel_rfl
theorem ofH_0 (f fu fo fr b lb : Bool) (o : Blk) (us rs zs : List ViewV) (is ids : List Int) (n c u q r i : Nat) (d : Int) (own x y : ViewV) (g : Nat → Value) : (execN Try.prog (aCall Try.prog E43d 60) (callN Try.prog E43d 60) 60 k43dh (stOf 75 g [(7, vS true 0 u 22), (9, vI fo 1 q), (10, pb 2 0), (12, nilS), (13, .bool false)] [(LtA.ownB us), (ownI is), (LtA.vB y), (LtA.ownB rs)]) (acc0 [])).map (fun y => (look2 4 [0, 1, 2, 3] [7, 9, 10, 12, 13, 14] (y.1, y.2.1), y.2.2.q, y.2.2.r, y.2.2.x)) =
    some ((.normal, [(LtA.ownB us), (ownI is), (LtA.vB y), (LtA.ownB rs)], [(7, vS true 0 u 22), (9, vI fo 1 q), (10, pb 2 0), (12, nilS), (13, .bool false), (14, iN 0)], true), [], [], []) := by cases fo <;> kernel_rfl
theorem ofJx_0 (f fu fo fr b lb : Bool) (o : Blk) (us rs zs : List ViewV) (is ids : List Int) (n c u q r i : Nat) (d : Int) (own x y : ViewV) (g : Nat → Value) : (execN Try.prog (aCall Try.prog E43d 60) (callN Try.prog E43d 60) 60 k43dJ (stOf 75 g [(7, vS true 0 u 22), (9, vI fo 1 q), (10, pb 2 0), (12, vS fr 3 r 22), (13, .bool b), (14, iN i)] [(LtA.ownB us), (ownI is), (LtA.vB y), (LtA.ownB rs)]) (acc0 [(3, .v (.bool false))])).map (fun y => (look2 4 [0, 1, 2, 3] [7, 9, 10, 12] (y.1, y.2.1), y.2.2.q, y.2.2.r, y.2.2.x)) =
    some ((.exit 4, [(LtA.ownB us), (ownI is), (LtA.vB y), (LtA.ownB rs)], [(7, vS true 0 u 22), (9, vI fo 1 q), (10, pb 2 0), (12, vS fr 3 r 22)], true), [(some (.bool (decide ((Int.ofNat i) < (Int.ofNat (kk true u))))), .bool false)], [], []) := by cases fo <;> cases fr <;> kernel_rfl
theorem ofJf_0 (f fu fo fr b lb : Bool) (o : Blk) (us rs zs : List ViewV) (is ids : List Int) (n c u q r i : Nat) (d : Int) (own x y : ViewV) (g : Nat → Value) : (execN Try.prog (aCall Try.prog E43d 60) (callN Try.prog E43d 60) 60 k43dJ (stOf 75 g [(7, vS true 0 u 22), (9, vI fo 1 q), (10, pb 2 0), (12, vS fr 3 r 22), (13, .bool false), (14, iN i)] [(LtA.ownB us), (ownI is), (LtA.vB y), (LtA.ownB rs)]) (acc0 [(16, .v (iN (i + 1))), (12, .v (.bool true)), (10, .v (.agg ⟨vc x⟩)), (9, .v (pb 0 (i * 7))), (3, .v (.bool true))])).map (fun y => (look2 4 [0, 1, 2, 3] [7, 9, 10, 12, 13, 14] (y.1, y.2.1), y.2.2.q, y.2.2.r, y.2.2.x)) =
    some ((.normal, [(LtA.ownB us), (ownI is), (LtA.vB y), (LtA.ownB rs)], [(7, vS true 0 u 22), (9, vI fo 1 q), (10, pb 2 0), (12, vS fr 3 r 22), (13, .bool true), (14, iN (i + 1))], true), [(some (.int .i64 (wrapF .i64 (Int.ofNat i + Int.ofNat 1))), iN (i + 1)), (fstV ((aBin Try.prog .eql 45 (.agg ⟨vc x⟩) (.agg ⟨vc y⟩)).map fun v => (v, none)), .bool true), (aLoad Try.prog (heapOf [(LtA.ownB us), (ownI is), (LtA.vB y), (LtA.ownB rs), .dead] hp0).get 45 (pb 0 (i * 7)), .agg ⟨vc x⟩), (fstV ((aIndexAddr Try.prog 22 (vS true 0 u 22) (iN i)).map fun v => (v, none)), pb 0 (i * 7)), (some (.bool (decide ((Int.ofNat i) < (Int.ofNat (kk true u))))), .bool true)], [], []) := by cases fo <;> cases fr <;> kernel_rfl
theorem ofJf_1 (f fu fo fr b lb : Bool) (o : Blk) (us rs zs : List ViewV) (is ids : List Int) (n c u q r i : Nat) (d : Int) (own x y : ViewV) (g : Nat → Value) : (execN Try.prog (aCall Try.prog E43d 60) (callN Try.prog E43d 60) 60 k43dJ (stOf 75 g [(7, vS true 0 u 22), (9, vI fo 1 q), (10, pb 2 0), (12, vS fr 3 r 22), (13, .bool false), (14, iN i)] [(LtA.ownB us), (ownI is), (LtA.vB y), (LtA.ownB rs)]) (acc0 [(23, .v (iN (i + 1))), (20, .e (.slice (some ⟨6, 0, none⟩) (r + 1) 22) (effF fr 3 (LtA.rowB zs))), (18, .v (.agg ⟨vc x⟩)), (17, .v (pb 0 (i * 7))), (12, .v (.bool false)), (10, .v (.agg ⟨vc x⟩)), (9, .v (pb 0 (i * 7))), (3, .v (.bool true))])).map (fun y => (look2 4 [0, 1, 2, 6] [7, 9, 10, 12, 13, 14] (y.1, y.2.1), y.2.2.q, y.2.2.r, y.2.2.x)) =
    some ((.normal, [(LtA.ownB us), (ownI is), (LtA.vB y), (LtA.rowB zs)], [(7, vS true 0 u 22), (9, vI fo 1 q), (10, pb 2 0), (12, .slice (some ⟨3, 0, none⟩) (r + 1) 22), (13, .bool false), (14, iN (i + 1))], true), [(some (.int .i64 (wrapF .i64 (Int.ofNat i + Int.ofNat 1))), iN (i + 1)), (aLoad Try.prog (heapOf [(LtA.ownB us), (ownI is), (LtA.vB y), (LtA.ownB rs), .dead] hp0).get 45 (pb 0 (i * 7)), .agg ⟨vc x⟩), (fstV ((aIndexAddr Try.prog 22 (vS true 0 u 22) (iN i)).map fun v => (v, none)), pb 0 (i * 7)), (fstV ((aBin Try.prog .eql 45 (.agg ⟨vc x⟩) (.agg ⟨vc y⟩)).map fun v => (v, none)), .bool false), (aLoad Try.prog (heapOf [(LtA.ownB us), (ownI is), (LtA.vB y), (LtA.ownB rs), .dead] hp0).get 45 (pb 0 (i * 7)), .agg ⟨vc x⟩), (fstV ((aIndexAddr Try.prog 22 (vS true 0 u 22) (iN i)).map fun v => (v, none)), pb 0 (i * 7)), (some (.bool (decide ((Int.ofNat i) < (Int.ofNat (kk true u))))), .bool true)], [], [(aAppend Try.prog (heapOf [(LtA.ownB us), (ownI is), (LtA.vB y), (LtA.ownB rs), .dead, .cells 45 [.int .i64 x.id, .bool x.n, .int .i64 x.t, .int .i64 x.o, .int .i64 x.r, .int .i64 x.d, .int .i64 x.i] false] hp0).get 6 [22, 22] [vS fr 3 r 22, .slice (some ⟨5, 0, none⟩) 1 22], (.slice (some ⟨6, 0, none⟩) (r + 1) 22, (effF fr 3 (LtA.rowB zs))))]) := by cases fo <;> cases fr <;> kernel_rfl
theorem ofJt_0 (f fu fo fr b lb : Bool) (o : Blk) (us rs zs : List ViewV) (is ids : List Int) (n c u q r i : Nat) (d : Int) (own x y : ViewV) (g : Nat → Value) : (execN Try.prog (aCall Try.prog E43d 60) (callN Try.prog E43d 60) 60 k43dJ (stOf 75 g [(7, vS true 0 u 22), (9, vI fo 1 q), (10, pb 2 0), (12, vS fr 3 r 22), (13, .bool true), (14, iN i)] [(LtA.ownB us), (ownI is), (LtA.vB y), (LtA.ownB rs)]) (acc0 [(17, .v (iN (i + 1))), (14, .e (.slice (some ⟨6, 0, none⟩) (r + 1) 22) (effF fr 3 (LtA.rowB zs))), (12, .v (.agg ⟨vc x⟩)), (11, .v (pb 0 (i * 7))), (3, .v (.bool true))])).map (fun y => (look2 4 [0, 1, 2, 6] [7, 9, 10, 12, 13, 14] (y.1, y.2.1), y.2.2.q, y.2.2.r, y.2.2.x)) =
    some ((.normal, [(LtA.ownB us), (ownI is), (LtA.vB y), (LtA.rowB zs)], [(7, vS true 0 u 22), (9, vI fo 1 q), (10, pb 2 0), (12, .slice (some ⟨3, 0, none⟩) (r + 1) 22), (13, .bool true), (14, iN (i + 1))], true), [(some (.int .i64 (wrapF .i64 (Int.ofNat i + Int.ofNat 1))), iN (i + 1)), (aLoad Try.prog (heapOf [(LtA.ownB us), (ownI is), (LtA.vB y), (LtA.ownB rs), .dead] hp0).get 45 (pb 0 (i * 7)), .agg ⟨vc x⟩), (fstV ((aIndexAddr Try.prog 22 (vS true 0 u 22) (iN i)).map fun v => (v, none)), pb 0 (i * 7)), (some (.bool (decide ((Int.ofNat i) < (Int.ofNat (kk true u))))), .bool true)], [], [(aAppend Try.prog (heapOf [(LtA.ownB us), (ownI is), (LtA.vB y), (LtA.ownB rs), .dead, .cells 45 [.int .i64 x.id, .bool x.n, .int .i64 x.t, .int .i64 x.o, .int .i64 x.r, .int .i64 x.d, .int .i64 x.i] false] hp0).get 6 [22, 22] [vS fr 3 r 22, .slice (some ⟨5, 0, none⟩) 1 22], (.slice (some ⟨6, 0, none⟩) (r + 1) 22, (effF fr 3 (LtA.rowB zs))))]) := by cases fo <;> cases fr <;> kernel_rfl
theorem ofK_0 (f fu fo fr b lb : Bool) (o : Blk) (us rs zs : List ViewV) (is ids : List Int) (n c u q r i : Nat) (d : Int) (own x y : ViewV) (g : Nat → Value) : (execN Try.prog (aCall Try.prog E43d 60) (callN Try.prog E43d 60) 60 k43dk (stOf 75 g [(7, vS true 0 u 22), (9, vI fo 1 q), (10, pb 2 0), (12, vS fr 3 r 22)] [(LtA.ownB us), (ownI is), (LtA.vB y), (LtA.ownB rs)]) (acc0 [(4, .e (.slice (some ⟨6, 0, none⟩) (q + 1) 4) (effF fo 1 (iB ids)))])).map (fun y => (look2 2 [3, 6] [7, 9] (y.1, y.2.1), y.2.2.q, y.2.2.r, y.2.2.x)) =
    some ((.normal, [(LtA.ownB rs), (iB ids)], [(7, vS fr 0 r 22), (9, .slice (some ⟨1, 0, none⟩) (q + 1) 4)], true), [], [], [(aAppend Try.prog (heapOf [(LtA.ownB us), (ownI is), (LtA.vB y), (LtA.ownB rs), .dead, .cells 3 [.int .i64 y.id] false] hp0).get 6 [30, 30] [vI fo 1 q, .slice (some ⟨5, 0, none⟩) 1 4], (.slice (some ⟨6, 0, none⟩) (q + 1) 4, (effF fo 1 (iB ids))))]) := by cases fo <;> cases fr <;> kernel_rfl
theorem ofZ_0 (f fu fo fr b lb : Bool) (o : Blk) (us rs zs : List ViewV) (is ids : List Int) (n c u q r i : Nat) (d : Int) (own x y : ViewV) (g : Nat → Value) : (execN Try.prog (aCall Try.prog E43d 60) (callN Try.prog E43d 60) 60 k43dz (stOf 75 g [(9, vI fo 0 q)] [(ownI is)]) (acc0 [])).map (fun y => (look2 1 [0] [6] (y.1, y.2.1), y.2.2.q, y.2.2.r, y.2.2.x)) =
    some ((.ret, [(ownI is)], [(6, vI fo 0 q)], true), [], [], []) := by cases fo <;> kernel_rfl
theorem q43d (v : Value) (O : List Blk) (g : Nat → Value) : retVal Try.prog Try.f43 (stOf 75 g [(6, v)] O) = some v := by kernel_rfl
end Go.Proofs.Ytgeoommlmddgpaa.LtA
namespace Go.Proofs.Ytgeoommlmddgpaa.LtA
open Go Go.Proofs Go.Proofs.Ytgeoommlmddgpaa.AI Go.RowKit Go.Proofs.Ytgeoommlmddgpaa.Sort Go.Proofs.Ytgeoommlmddgpaa.LtL
theorem insB_front {α : Type} {lt : α → α → Bool} {S : List α} {x : α} (h : ∀ z ∈ S, lt x z = true) : insB lt S x = x :: S :=
  insB_of (P := []) (Q := S) rfl h fun p hp => by cases hp
theorem insB_cons {α : Type} {lt : α → α → Bool} {S : List α} {x z : α} (h : lt z x = false) : insB lt (x :: S) z = x :: insB lt S z := by
  -- the tail that z goes ahead of
  obtain ⟨P, Q, rfl, hQ, hP⟩ : ∃ P Q, S = P ++ Q ∧ (∀ q ∈ Q, lt z q = true) ∧ ∀ p, P.getLast? = some p → lt z p = false := by
    refine ⟨(S.reverse.dropWhile (lt z)).reverse, (S.reverse.takeWhile (lt z)).reverse, ?_, fun q hq => ?_, fun p hp => ?_⟩
    · rw [← List.reverse_append, List.takeWhile_append_dropWhile, List.reverse_reverse]
    · exact List.all_eq_true.1 (List.all_takeWhile (p := lt z) (l := S.reverse)) q (List.mem_reverse.1 hq)
    · rw [List.getLast?_reverse] at hp
      cases e : S.reverse.dropWhile (lt z) with
      | nil => rw [e] at hp; cases hp
      | cons a tl =>
        rw [e] at hp
        have : a = p := by simpa using hp
        subst this
        have hh := List.head_dropWhile_not (lt z) (l := S.reverse) (by rw [e]; simp)
        simpa [e] using hh
  rw [insB_of rfl hQ hP]
  refine insB_of (P := x :: P) rfl hQ fun p hp => ?_
  cases P with
  | nil => have : x = p := by simpa using hp
           subst this; exact h
  | cons a tl => exact hP p (by rw [List.getLast?_cons_cons] at hp; exact hp)
theorem mrg_cons {α : Type} {lt : α → α → Bool} {x : α} : ∀ {B S : List α}, (∀ z ∈ B, lt z x = false) → mrg lt (x :: S) B = x :: mrg lt S B
  | [], S, _ => rfl
  | b :: B, S, h => by
    show mrg lt (insB lt (x :: S) b) B = x :: mrg lt (insB lt S b) B
    rw [insB_cons (h b (.head _)), mrg_cons fun z hz => h z (.tail _ hz)]
theorem ssort_low {A B : List ViewV} {x : ViewV} (hA : ∀ z ∈ A, ltV x z = true) (hB : ∀ z ∈ B, ltV z x = false) : ssort ltV (A ++ x :: B) = x :: ssort ltV (A ++ B) := by
  have e : A ++ x :: B = (A ++ [x]) ++ B := by simp
  rw [e]
  unfold ssort
  rw [mrg_append (R1 := A ++ [x])]
  have e2 : mrg ltV [] (A ++ [x]) = x :: mrg ltV [] A := by
    have := ssort_snoc (lt := ltV) (S := A) (x := x)
    unfold ssort at this
    rw [this]
    exact insB_front fun z hz => hA z (mem_ssort.1 hz)
  rw [e2, mrg_cons hB, mrg_append]
theorem low_lead {us : List ViewV} (hne : us ≠ []) (hK : ∀ z ∈ us, Kn z) : ∃ A x B, us = A ++ x :: B ∧ lowV us = (x, true) ∧ (∀ z ∈ A, ltV x z = true) ∧ ∀ z ∈ B, ltV z x = false := by
  have key : ∀ n (us : List ViewV), us.length = n + 1 → (∀ z ∈ us, Kn z) → ∃ A x B, us = A ++ x :: B ∧ lowV us = (x, true) ∧ (∀ z ∈ A, ltV x z = true) ∧ ∀ z ∈ B, ltV z x = false := by
    intro n
    induction n with
    | zero =>
      intro us hl hK
      match us, hl with
      | [w], _ =>
        have hw : toldV w = true := toldV_kn.2 (hK w (by simp))
        refine ⟨[], w, [], rfl, ?_, (fun z hz => by cases hz), fun z hz => by cases hz⟩
        show lowS (zeroV 0, false) w = _
        unfold lowS; rw [hw]; rfl
    | succ n ih =>
      intro us hl hK
      obtain ⟨vs, w, rfl⟩ : ∃ vs w, us = vs ++ [w] := by
        rcases List.eq_nil_or_concat us with rfl | ⟨vs, w, h⟩
        · simp at hl
        · exact ⟨vs, w, by rw [h, List.concat_eq_append]⟩
      obtain ⟨A, x, B, h1, h2, h3, h4⟩ := ih vs (by simpa using hl) fun z hz => hK z (by simp [hz])
      have hw : toldV w = true := toldV_kn.2 (hK w (by simp))
      have kw : Kn w := hK w (by simp)
      have e : lowV (vs ++ [w]) = lowS (x, true) w := by unfold lowV at h2 ⊢; rw [List.foldl_append, h2]; rfl
      have kx : Kn x := hK x (by rw [h1]; simp)
      have kz : ∀ z ∈ vs, Kn z := fun z hz => hK z (by simp [hz])
      cases hl2 : ltV w x with
      | true =>
        refine ⟨vs, w, [], rfl, ?_, fun z hz => ?_, fun z hz => by cases hz⟩
        · rw [e]; unfold lowS; simp only [hw, hl2]; rfl
        · have hz0 := hz
          rw [h1] at hz
          rcases List.mem_append.1 hz with hz | hz
          · exact sw.trans kw kx (kz z hz0) hl2 (h3 z hz)
          · rcases List.mem_cons.1 hz with rfl | hz
            · exact hl2
            · cases e2 : ltV w z with
              | true => rfl
              | false => rw [sw.ntr w z x kw (kz z hz0) kx e2 (h4 z hz)] at hl2; cases hl2
      | false =>
        refine ⟨A, x, B ++ [w], by rw [h1]; simp, ?_, h3, fun z hz => ?_⟩
        · rw [e]; unfold lowS; simp only [hw, hl2]; rfl
        · rcases List.mem_append.1 hz with hz | hz
          · exact h4 z hz
          · have : z = w := by simpa using hz
            subst this; exact hl2
  obtain ⟨n, hn⟩ : ∃ n, us.length = n + 1 := ⟨us.length - 1, by have := List.length_pos_iff.2 hne; omega⟩
  exact key n us hn hK
theorem sameV_iff {u v : ViewV} : sameV u v = true ↔ u = v := by
  obtain ⟨a, b, c, d, e, f, g⟩ := u
  obtain ⟨a', b', c', d', e', f', g'⟩ := v
  unfold sameV same23
  simp [and_assoc]
def rmS (y : ViewV) (p : Bool × List ViewV) (x : ViewV) : Bool × List ViewV := bif !p.1 && sameV x y then (true, p.2) else (p.1, p.2 ++ [x])
theorem rm_done {y : ViewV} : ∀ {B r : List ViewV}, B.foldl (rmS y) (true, r) = (true, r ++ B)
  | [], r => by simp
  | b :: B, r => by
    rw [List.foldl_cons]
    show B.foldl (rmS y) (true, r ++ [b]) = _
    rw [rm_done]; simp
theorem rm_keep {y : ViewV} : ∀ {A r : List ViewV}, (∀ z ∈ A, sameV z y = false) → A.foldl (rmS y) (false, r) = (false, r ++ A)
  | [], r, _ => by simp
  | a :: A, r, h => by
    rw [List.foldl_cons]
    have e : rmS y (false, r) a = (false, r ++ [a]) := by unfold rmS; simp only [h a (.head _)]; rfl
    rw [e, rm_keep fun z hz => h z (.tail _ hz)]; simp
theorem rm_low {A B : List ViewV} {x : ViewV} (hk : Kn x) (hA : ∀ z ∈ A, ltV x z = true) : (A ++ x :: B).foldl (rmS x) (false, []) = (true, A ++ B) := by
  rw [List.foldl_append, rm_keep fun z hz => by
    cases e : sameV z x with
    | false => rfl
    | true =>
      have := sameV_iff.1 e
      subst this
      have h1 := hA z hz
      rw [sw.irr hk] at h1; cases h1]
  rw [List.foldl_cons]
  have e : rmS x (false, [] ++ A) x = (true, [] ++ A) := by
    unfold rmS
    have : sameV x x = true := sameV_iff.2 rfl
    simp only [this]; rfl
  rw [e, rm_done]; simp
def rest (us : List ViewV) : List ViewV := (us.foldl (rmS (lowV us).1) (false, [])).2
theorem rest_of {us : List ViewV} (hne : us ≠ []) (hK : ∀ z ∈ us, Kn z) : (lowV us).1.id :: (ssort ltV (rest us)).map (fun x => x.id) = (ssort ltV us).map (fun x => x.id) ∧ (rest us).length < us.length ∧ ∀ z ∈ rest us, Kn z := by
  obtain ⟨A, x, B, h1, h2, h3, h4⟩ := low_lead hne hK
  have hk : Kn x := hK x (by rw [h1]; simp)
  have e : rest us = A ++ B := by unfold rest; rw [h2, h1]; show (List.foldl (rmS x) _ _).2 = _; rw [rm_low hk h3]
  rw [e, h2]
  refine ⟨?_, by rw [h1]; simp, fun z hz => hK z (by rw [h1]; rcases List.mem_append.1 hz with h | h <;> simp [h])⟩
  rw [h1, ssort_low h3 h4]; rfl
end Go.Proofs.Ytgeoommlmddgpaa.LtA
namespace Go.Proofs.Ytgeoommlmddgpaa.LtA
open Go Go.Proofs Go.Proofs.Ytgeoommlmddgpaa.AI Go.RowKit Go.Proofs.Ytgeoommlmddgpaa.Sort Go.Proofs.Ytgeoommlmddgpaa.LtL
noncomputable def EDir : Ext := extH Try.prog [(40, g64), (41, g17)]
theorem EDir_ok : ExtOk Try.prog EDir := extH_ok (.cons hk64 (.cons hk65 .nil))
noncomputable def fbDir : Code := (Try.f13.body).getD .skip
theorem bodyDir : Try.f13.body = some fbDir := by kernel_rfl
theorem ntDir : Try.f13.ntmps = 19 := by kernel_rfl
theorem sDir : codeSafe Try.prog 19 fbDir = true := by kernel_rfl
theorem qDir (v : Value) (O : List Blk) (g : Nat → Value) : retVal Try.prog Try.f13 (stOf 19 g [(4, v)] O) = some v := by kernel_rfl
theorem dirV_eq (own x : ViewV) : dirV own x = bif toldV x then (bif toldV own then (bif ltV x own then 1 else bif ltV own x then 2 else 0) else 1) else 0 := rfl
theorem rDir_0 (own x : ViewV) : (execN Try.prog (aCall Try.prog EDir 6) (callN Try.prog EDir 6) 60 fbDir ⟨tmsOf [hcA own, hcA x] 0 .leaf, hp0, []⟩ (acc0 [(5, .v (.bool true))])).map (fun y => (look2 0 [] [4] (y.1, y.2.1), y.2.2.q, y.2.2.r, y.2.2.x)) =
    some ((.ret, [], [(4, iN 0)], true), [(some (.bool (!(toldV x))), .bool true)], [], []) := by kernel_rfl
theorem rDir_1 (own x : ViewV) : (execN Try.prog (aCall Try.prog EDir 6) (callN Try.prog EDir 6) 60 fbDir ⟨tmsOf [hcA own, hcA x] 0 .leaf, hp0, []⟩ (acc0 [(8, .v (.bool true)), (5, .v (.bool false))])).map (fun y => (look2 0 [] [4] (y.1, y.2.1), y.2.2.q, y.2.2.r, y.2.2.x)) =
    some ((.ret, [], [(4, iN 1)], true), [(some (.bool (!(toldV own))), .bool true), (some (.bool (!(toldV x))), .bool false)], [], []) := by kernel_rfl
theorem rDir_2 (own x : ViewV) : (execN Try.prog (aCall Try.prog EDir 6) (callN Try.prog EDir 6) 60 fbDir ⟨tmsOf [hcA own, hcA x] 0 .leaf, hp0, []⟩ (acc0 [(12, .v (.bool true)), (8, .v (.bool false)), (5, .v (.bool false))])).map (fun y => (look2 0 [] [4] (y.1, y.2.1), y.2.2.q, y.2.2.r, y.2.2.x)) =
    some ((.ret, [], [(4, iN 1)], true), [(some (.bool (ltV x own)), .bool true), (some (.bool (!(toldV own))), .bool false), (some (.bool (!(toldV x))), .bool false)], [], []) := by kernel_rfl
theorem rDir_3 (own x : ViewV) : (execN Try.prog (aCall Try.prog EDir 6) (callN Try.prog EDir 6) 60 fbDir ⟨tmsOf [hcA own, hcA x] 0 .leaf, hp0, []⟩ (acc0 [(16, .v (.bool true)), (12, .v (.bool false)), (8, .v (.bool false)), (5, .v (.bool false))])).map (fun y => (look2 0 [] [4] (y.1, y.2.1), y.2.2.q, y.2.2.r, y.2.2.x)) =
    some ((.ret, [], [(4, iN 2)], true), [(some (.bool (ltV own x)), .bool true), (some (.bool (ltV x own)), .bool false), (some (.bool (!(toldV own))), .bool false), (some (.bool (!(toldV x))), .bool false)], [], []) := by kernel_rfl
theorem rDir_4 (own x : ViewV) : (execN Try.prog (aCall Try.prog EDir 6) (callN Try.prog EDir 6) 60 fbDir ⟨tmsOf [hcA own, hcA x] 0 .leaf, hp0, []⟩ (acc0 [(16, .v (.bool false)), (12, .v (.bool false)), (8, .v (.bool false)), (5, .v (.bool false))])).map (fun y => (look2 0 [] [4] (y.1, y.2.1), y.2.2.q, y.2.2.r, y.2.2.x)) =
    some ((.ret, [], [(4, iN 0)], true), [(some (.bool (ltV own x)), .bool false), (some (.bool (ltV x own)), .bool false), (some (.bool (!(toldV own))), .bool false), (some (.bool (!(toldV x))), .bool false)], [], []) := by kernel_rfl
theorem frDir (own x : ViewV) (W : Base) : FRwp Try.prog 19 W fbDir ⟨tmsOf [hcA own, hcA x] 0 .leaf, hp0, []⟩ (fun e st => (e = .normal ∨ e = .ret) ∧ st.df = [] ∧ retVal Try.prog Try.f13 st = some (.int .i64 (dirV own x))) := by
  cases h_5 : (!(toldV x)) with
  | true =>
    exact FRwp.pieceN EDir_ok follows 6 0 _ _ _ _ (rDir_0 own x) (Met.cons (bool_ok h_5) Met.nil) (MetH.nil) (MetE.nil) sDir rfl rfl (noFix _) fun g => ⟨.inr rfl, rfl, (qDir _ _ g).trans (by simp only [Bool.not_eq_true', Bool.not_eq_false'] at *; simp [dirV_eq, iN, *])⟩
  | false =>
    cases h_8 : (!(toldV own)) with
    | true =>
      exact FRwp.pieceN EDir_ok follows 6 0 _ _ _ _ (rDir_1 own x) (Met.cons (bool_ok h_8) (Met.cons (bool_ok h_5) Met.nil)) (MetH.nil) (MetE.nil) sDir rfl rfl (noFix _) fun g => ⟨.inr rfl, rfl, (qDir _ _ g).trans (by simp only [Bool.not_eq_true', Bool.not_eq_false'] at *; simp [dirV_eq, iN, *])⟩
    | false =>
      cases h_12 : (ltV x own) with
      | true =>
        exact FRwp.pieceN EDir_ok follows 6 0 _ _ _ _ (rDir_2 own x) (Met.cons (bool_ok h_12) (Met.cons (bool_ok h_8) (Met.cons (bool_ok h_5) Met.nil))) (MetH.nil) (MetE.nil) sDir rfl rfl (noFix _) fun g => ⟨.inr rfl, rfl, (qDir _ _ g).trans (by simp only [Bool.not_eq_true', Bool.not_eq_false'] at *; simp [dirV_eq, iN, *])⟩
      | false =>
        cases h_16 : (ltV own x) with
        | true =>
          exact FRwp.pieceN EDir_ok follows 6 0 _ _ _ _ (rDir_3 own x) (Met.cons (bool_ok h_16) (Met.cons (bool_ok h_12) (Met.cons (bool_ok h_8) (Met.cons (bool_ok h_5) Met.nil)))) (MetH.nil) (MetE.nil) sDir rfl rfl (noFix _) fun g => ⟨.inr rfl, rfl, (qDir _ _ g).trans (by simp only [Bool.not_eq_true', Bool.not_eq_false'] at *; simp [dirV_eq, iN, *])⟩
        | false =>
          exact FRwp.pieceN EDir_ok follows 6 0 _ _ _ _ (rDir_4 own x) (Met.cons (bool_ok h_16) (Met.cons (bool_ok h_12) (Met.cons (bool_ok h_8) (Met.cons (bool_ok h_5) Met.nil)))) (MetH.nil) (MetE.nil) sDir rfl rfl (noFix _) fun g => ⟨.inr rfl, rfl, (qDir _ _ g).trans (by simp only [Bool.not_eq_true', Bool.not_eq_false'] at *; simp [dirV_eq, iN, *])⟩
theorem hkDir : HookGoal Try.prog 13 g14 := hook_fr Try.func13 (by kernel_rfl) bodyDir ntDir fun args v h => by
  unfold g14 at h
  split at h
  · rename_i c0 c1
    split at h
    · rename_i hn ht ho hr hd hi kn kt ko kr kd ki ec0 ec1
      cases h
      obtain rfl := arr_of ec0
      obtain rfl := arr_of ec1
      exact ⟨rfl, rfl, by simp, fun W => frDir ⟨0, hn, ht, ho, hr, hd, hi⟩ ⟨0, kn, kt, ko, kr, kd, ki⟩ W⟩
    · cases h
  · cases h
theorem E43d_ok : ExtOk Try.prog E43d := extG_ok (extH_ok (.cons hkDir .nil)) (.cons hkG35 .nil)
theorem ltT : ∀ {a b : Nat} {r : Bool}, decide (a < b) = r → (some (Value.bool (decide (Int.ofNat a < Int.ofNat b)))) = some (.bool r) := fun {a b r} h => bool_ok (by rw [← h]; exact decide_eq_decide.2 (by simp only [Int.ofNat_eq_natCast]; omega))
theorem gtT : ∀ {a b : Nat} {r : Bool}, decide (a > b) = r → (some (Value.bool (decide (Int.ofNat a > Int.ofNat b)))) = some (.bool r) := fun {a b r} h => bool_ok (by rw [← h]; exact decide_eq_decide.2 (by simp only [Int.ofNat_eq_natCast]; omega))
theorem fixQ4 {o ob oc od : Blk} (ho : inertB o = true) (hob : inertB ob = true) (hoc : inertB oc = true) (hod : inertB od = true) : ∀ r : List Blk, ∀ i, i < 4 → ∀ o', (o :: ob :: oc :: od :: r)[i]? = some o' → Fixed 0 o' := by
  intro r i hi o' h
  match i, hi with
  | 0, _ => simp at h; subst h; exact inert_fixed ho 0
  | 1, _ => simp at h; subst h; exact inert_fixed hob 0
  | 2, _ => simp at h; subst h; exact inert_fixed hoc 0
  | 3, _ => simp at h; subst h; exact inert_fixed hod 0
theorem fixQ3 {o ob oc : Blk} (ho : inertB o = true) (hob : inertB ob = true) (hoc : inertB oc = true) : ∀ r : List Blk, ∀ i, i < 3 → ∀ o', (o :: ob :: oc :: r)[i]? = some o' → Fixed 0 o' := by
  intro r i hi o' h
  match i, hi with
  | 0, _ => simp at h; subst h; exact inert_fixed ho 0
  | 1, _ => simp at h; subst h; exact inert_fixed hob 0
  | 2, _ => simp at h; subst h; exact inert_fixed hoc 0
theorem eql34 (u v : ViewV) : fstV ((aBin Try.prog .eql 45 (.agg ⟨vc u⟩) (.agg ⟨vc v⟩)).map fun v => (v, none)) = some (.bool (sameV u v)) := by
  have h : aBin Try.prog .eql 45 (.agg ⟨vc u⟩) (.agg ⟨vc v⟩) =
      (andE (u.id == v.id) (bindE (andE (u.n == v.n) (andE (u.t == v.t) (andE (u.o == v.o) (andE (u.r == v.r) (andE (u.d == v.d) (andE (u.i == v.i) (some true))))))) (some true))).map fun b => .bool b := by kernel_rfl
  rw [h]
  simp only [andE_some]
  unfold sameV same23
  generalize (u.n == v.n && (u.t == v.t && (u.o == v.o && (u.r == v.r && (u.d == v.d && (u.i == v.i && true)))))) = x
  generalize (u.id == v.id) = y
  cases x <;> cases y <;> rfl
theorem vB_inert (y : ViewV) : inertB (LtA.vB y) = true := rfl
theorem hB_inert (y : ViewV) : inertB (hB y) = true := rfl
theorem isEA {α : Type} (l : List α) (x : α) : (!(l ++ [x]).isEmpty) = true := isE_false (by simp)
theorem neA {α : Type} (l : List α) (x : α) : l ++ [x] ≠ [] := by simp
theorem lenA {α : Type} (l : List α) (x : α) : (l ++ [x]).length = l.length + 1 := by simp
def zv : ViewV := ⟨0, false, 0, 0, 0, 0, 0⟩
set_option maxHeartbeats 1000000
theorem runG (vs : List ViewV) (hn : vs.length < 1000000) : ∀ rest v0 O, ofR vs rest = some (v0, O) → RowRun Try.f43 code43d 75 vs rest v0 O := fun rest0 v0 O h => by
  unfold ofR at h
  split at h
  case h_2 => cases h
  rename_i v d
  split at h
  case isFalse => cases h
  rename_i hd
  obtain ⟨own, hown, h2⟩ := Option.map_eq_some_iff.1 h
  obtain rfl := unH_some hown
  cases h2
  refine ⟨rowI_out _, rowI_ok _, (by intro r hr; have e : r = hcA own ∨ r = .int .i64 d := (by simpa using hr); rcases e with e | e <;> rw [e]; exact stay_h _; exact stay_int _ _), by simp, fun f o c W ho hrow hfl => ?_⟩
  have hkk := kk_len hfl
  have fx2 : ∀ r : List Blk, ∀ i, i < 2 → ∀ o', (o :: hB own :: r)[i]? = some o' → Fixed 0 o' := fixOO ho (hB_inert own)
  have fx3 : ∀ us : List ViewV, ∀ r : List Blk, ∀ i, i < 3 → ∀ o', (o :: hB own :: LtA.ownB us :: r)[i]? = some o' → Fixed 0 o' := fun us => fixQ3 ho (hB_inert own) (LtA.ownB_inert us)
  refine FRwp.seq (Q1 := fun e st => e = .normal ∧ ∃ g, st = stOf 75 g [(0, vS f 0 vs.length c), (2, .int .i64 d), (4, pb 1 0)] [o, hB own]) ?_ ?_ (fun x st hne hq => absurd hq.1 hne)
  · cases f with
    | true => exact FRwp.pieceN E43d_ok follows 60 1 _ _ _ _ (ofA_0 true false false false false false o [] [] [] [] [] vs.length c 0 0 0 0 d own zv zv (fun _ => nilS)) Met.nil MetH.nil MetE.nil sk43da rfl rfl (fix11 ho _) fun g => ⟨rfl, g, rfl⟩
    | false =>
      obtain ⟨rfl, rfl⟩ := hfl rfl
      exact FRwp.pieceN E43d_ok follows 60 1 _ _ _ _ (ofAn_0 true false false false false false .dead [] [] [] [] [] 0 c 0 0 0 0 d own zv zv (fun _ => nilS)) Met.nil MetH.nil MetE.nil sk43da rfl rfl (fix11 rfl _) fun g => ⟨rfl, g, rfl⟩
  rintro st ⟨-, g, rfl⟩
  refine FRwp.seq (Q1 := fun e st => e = .normal ∧ ∃ g, st = stOf 75 g [(0, vS f 0 vs.length c), (2, .int .i64 d), (4, pb 1 0), (7, nilS)] [o, hB own, .dead]) (FRwp.pieceN E43d_ok follows 60 2 _ _ _ _ (ofB_0 f false false false false false o [] [] [] [] [] vs.length c 0 0 0 0 d own zv zv g) Met.nil MetH.nil MetE.nil sk43db rfl rfl (fx2 _) fun g => ⟨rfl, g, rfl⟩) ?_ (fun x st hne hq => absurd hq.1 hne)
  rintro st ⟨-, g, rfl⟩
  let J : List ViewV → Nat → (Nat → Value) → St := fun us i g => stOf 75 g [(0, vS f 0 vs.length c), (2, .int .i64 d), (4, pb 1 0), (7, vS (!us.isEmpty) 2 us.length 22), (8, iN i)] [o, hB own, LtA.ownB us]
  refine FRwp.seq (Q1 := fun e st => e = .normal ∧ ∃ g, st = stOf 75 g [(7, vS (!(vs.filter (pD d own)).isEmpty) 0 (vs.filter (pD d own)).length 22)] [LtA.ownB (vs.filter (pD d own))]) ?_ ?_ (fun x st hne hq => absurd hq.1 hne)
  · refine FRwp.seq (Q1 := fun e st => e = .normal ∧ ∃ g, st = J [] 0 g) (FRwp.pieceN E43d_ok follows 60 3 _ _ _ _ (ofC_0 f false false false false false o [] [] [] [] [] vs.length c 0 0 0 0 d own zv zv g) Met.nil MetH.nil MetE.nil sk43dc rfl rfl (fx3 [] _) fun g => ⟨rfl, g, rfl⟩) ?_ (fun x st hne hq => absurd hq.1 hne)
    rintro st ⟨-, g, rfl⟩
    refine FRwp.mono (fold_loop' (vs := vs) (filS (pD d own)) [] J (fun us st => ∃ g, st = stOf 75 g [(7, vS (!us.isEmpty) 0 us.length 22)] [LtA.ownB us]) (fun us g hf => ?_) (fun i x us g hx hlt hf => ?_) g) fun e st q => by rw [fil_fold] at q; exact q
    · exact FRwp.pieceN E43d_ok follows 60 1 _ _ _ _ (ofLx_0 f (!us.isEmpty) false false false false o us [] [] [] [] vs.length c us.length 0 0 vs.length d own zv zv g) (Met.cons (ltT (a := vs.length) (b := kk f vs.length) (r := false) (by rw [hkk]; simp)) Met.nil) MetH.nil MetE.nil sk43dL rfl rfl (fix11 (LtA.ownB_inert us) _) fun g' => ⟨rfl, g', rfl⟩
    have hft : f = true := by cases f with
      | true => rfl
      | false => rw [(hfl rfl).1] at hlt; simp at hlt
    subst hft
    have hr : ∃ ty ro, o = .cells ty (vrow vs) ro := by
      rcases hrow with h | h
      · rw [h] at hlt; simp at hlt
      · exact h
    have hul : us.length ≤ i := by
      rw [← hf, fil_fold]
      have := List.length_filter_le (pD d own) (vs.take i)
      rw [List.length_take] at this
      simp; omega
    have b0 : RowAt (heapOf [o, hB own, LtA.ownB us, .dead] hp0) 0 vs := rowAt0 hr
    cases hp : pD d own x with
    | false =>
      refine FRwp.pieceN E43d_ok follows 60 3 _ _ _ _ (ofL_1 true (!us.isEmpty) false false false false o us [] [] [] [] vs.length c us.length 0 0 i d own x zv g)
        (Met.cons (wrap_up (by omega)) (Met.cons (bool_ok hp) (Met.cons (hload_ok b0 hx) (Met.cons (vidx_ok hlt) (Met.cons (ltT (decide_eq_true hlt)) Met.nil))))) MetH.nil MetE.nil sk43dL rfl rfl (fx3 us _) fun g' => ⟨rfl, g', ?_⟩
      unfold filS; rw [hp]; rfl
    | true =>
      have happ := app_any (get := (heapOf [o, hB own, LtA.ownB us, .dead, LtA.vB x] hp0).get) (sz := 5) (b := 2) (b2 := 4) (k := us.length) (ws := us) (x := x) rfl (by rw [heapOf0_get]; rfl) (by rw [heapOf0_get]; rfl) rfl (by omega)
      refine FRwp.pieceN E43d_ok follows 60 3 _ _ _ _ (ofL_0 true (!us.isEmpty) false false false false o us [] (us ++ [x]) [] [] vs.length c us.length 0 0 i d own x zv g)
        (Met.cons (wrap_up (by omega)) (Met.cons (vload_ok b0 hx) (Met.cons (vidx_ok hlt) (Met.cons (bool_ok hp) (Met.cons (hload_ok b0 hx) (Met.cons (vidx_ok hlt) (Met.cons (ltT (decide_eq_true hlt)) Met.nil))))))) MetH.nil (MetE.cons happ MetE.nil) sk43dL rfl rfl (by rw [← LtA.ownB_ne (neA us x)]; exact fx3 _ _) fun g' => ⟨rfl, g', ?_⟩
      unfold filS
      dsimp only [J]
      rw [hp, cond_true, isEA, LtA.ownB_ne (neA us x), lenA]; rfl
  rintro st ⟨-, g, rfl⟩
  have hfk : ∀ z ∈ vs.filter (pD d own), Kn z := fun z hz => pD_kn hd (List.mem_filter.1 hz).2
  have hlen : (vs.filter (pD d own)).length < 1000000 := Nat.lt_of_le_of_lt (List.length_filter_le _ _) hn
  unfold idsD
  generalize vs.filter (pD d own) = ss at *
  refine FRwp.seq (Q1 := fun e st => e = .normal ∧ ∃ g, st = stOf 75 g [(7, vS (!ss.isEmpty) 0 ss.length 22), (9, vI false 1 0)] [LtA.ownB ss, ownI []]) (FRwp.pieceN E43d_ok follows 60 1 _ _ _ _ (ofD_0 false (!ss.isEmpty) false false false false o ss [] [] [] [] 0 0 ss.length 0 0 0 d own zv zv g) Met.nil MetH.nil MetE.nil sk43dd rfl rfl (fix11 (LtA.ownB_inert ss) _) fun g => ⟨rfl, g, rfl⟩) ?_ (fun x st hne hq => absurd hq.1 hne)
  rintro st ⟨-, g, rfl⟩
  generalize hT : (ssort ltV ss).map (fun x => x.id) = T
  refine FRwp.seq (Q1 := fun e st => e = .normal ∧ ∃ g, st = stOf 75 g [(9, vI (!T.isEmpty) 0 T.length)] [ownI T]) ?_ ?_ (fun x st hne hq => absurd hq.1 hne)
  rotate_left
  · rintro st ⟨-, g, rfl⟩
    have hz := ofZ_0 false false (!T.isEmpty) false false false o [] [] [] T [] 0 0 0 T.length 0 0 d own zv zv g
    rw [vI_row] at hz
    rw [vI_row]
    exact FRwp.pieceN E43d_ok follows 60 1 _ _ _ _ hz Met.nil MetH.nil MetE.nil sk43dz rfl rfl (fix11 (ownI_inert T) _) fun g => fin_row q43d T g
  refine FRwp.block (FRwp.mono (Q := fun e st => e = .exit 2 ∧ ∃ g, st = stOf 75 g [(9, vI (!T.isEmpty) 0 T.length)] [ownI T]) ?_ fun e st q => by
    obtain ⟨rfl, q⟩ := q
    show (if 2 = 2 then _ else _)
    rw [if_pos rfl]
    exact ⟨rfl, q⟩)
  refine FRwp.loop (fun k st => ∃ (us : List ViewV) (is : List Int) (g : Nat → Value), k = us.length ∧ (∀ z ∈ us, Kn z) ∧ us.length + is.length < 1000000 ∧ is ++ (ssort ltV us).map (fun x => x.id) = T ∧ st = stOf 75 g [(7, vS (!us.isEmpty) 0 us.length 22), (9, vI (!is.isEmpty) 1 is.length)] [LtA.ownB us, ownI is]) ?_ (k := ss.length) ⟨ss, [], g, rfl, hfk, by simpa using hlen, by simpa using hT, rfl⟩
  rintro k st ⟨us, is, g, rfl, hK, hn2, hTT, rfl⟩
  by_cases hne : us = []
  · subst hne
    have hT2 : is = T := by rw [← hTT]; simp [ssort, mrg]
    subst hT2
    refine FRwp.mono (Q := fun e st => e = .exit 2 ∧ ∃ g, st = stOf 75 g [(9, vI (!is.isEmpty) 0 is.length)] [ownI is]) ?_ fun e st q => .inr ⟨by rw [q.1]; simp, q⟩
    exact FRwp.seq (Q1 := fun e st => e = .exit 2 ∧ ∃ g, st = stOf 75 g [(9, vI (!is.isEmpty) 0 is.length)] [ownI is]) (FRwp.pieceN E43d_ok follows 60 1 _ _ _ _ (ofMx_0 false false (!is.isEmpty) false false false o [] [] [] is [] 0 0 0 is.length 0 0 d own zv zv g) (Met.cons (gtT (a := 0) (b := 0) (r := false) rfl) Met.nil) MetH.nil MetE.nil sk43dM rfl rfl (fix11 (ownI_inert is) _) fun g => ⟨rfl, g, rfl⟩) (fun st h => by cases h.1) (fun e st _ h => h)
  obtain ⟨r1, r2, r3⟩ := rest_of hne hK
  have hpos : 0 < us.length := List.length_pos_iff.2 hne
  rw [isE_false hne]
  refine FRwp.mono (Q := fun e st => e = .normal ∧ ∃ g, st = stOf 75 g [(7, vS (!(rest us).isEmpty) 0 (rest us).length 22), (9, vI (!(is ++ [(lowV us).1.id]).isEmpty) 1 (is ++ [(lowV us).1.id]).length)] [LtA.ownB (rest us), ownI (is ++ [(lowV us).1.id])]) ?_ fun e st q => .inl ⟨q.1, (rest us).length, r2, rest us, is ++ [(lowV us).1.id], q.2.choose, rfl, r3, by rw [lenA]; omega, by rw [← hTT, ← r1]; simp, q.2.choose_spec⟩
  have fu2 : ∀ r : List Blk, ∀ i, i < 2 → ∀ o', (LtA.ownB us :: ownI is :: r)[i]? = some o' → Fixed 0 o' := fixOO (LtA.ownB_inert us) (ownI_inert is)
  refine FRwp.seq (Q1 := fun e st => e = .normal ∧ ∃ g, st = stOf 75 g [(7, vS true 0 us.length 22), (9, vI (!is.isEmpty) 1 is.length)] [LtA.ownB us, ownI is]) (FRwp.pieceN E43d_ok follows 60 2 _ _ _ _ (ofM_0 false false (!is.isEmpty) false false false o us [] [] is [] 0 0 us.length is.length 0 0 d own zv zv g) (Met.cons (gtT (decide_eq_true hpos)) Met.nil) MetH.nil MetE.nil sk43dM rfl rfl (fu2 _) fun g => ⟨rfl, g, rfl⟩) ?_ (fun x st hne hq => absurd hq.1 hne)
  rintro st ⟨-, g, rfl⟩
  refine FRwp.block (FRwp.mono (Q := fun e st => e = .normal ∧ ∃ g, st = stOf 75 g [(7, vS (!(rest us).isEmpty) 0 (rest us).length 22), (9, vI (!(is ++ [(lowV us).1.id]).isEmpty) 1 (is ++ [(lowV us).1.id]).length)] [LtA.ownB (rest us), ownI (is ++ [(lowV us).1.id])]) ?_ fun e st q => by obtain ⟨rfl, q⟩ := q; exact ⟨rfl, q⟩)
  have hlow : G35 [vS true 0 us.length 22] (heapOf [LtA.ownB us, ownI is, .dead] hp0) = some (.tuple #[.agg ⟨vc (lowV us).1⟩, .bool (lowV us).2], heapOf [.dead] (heapOf [LtA.ownB us, ownI is, .dead] hp0)) :=
    toldR_none (A := lowR) (vs := us) (rest := []) (.inr ⟨0, 22, LtA.ownB us, rfl, by rw [heapOf0_get]; rfl, LtA.ownB_inert us, .inr ⟨45, false, LtA.ownB_ne hne⟩⟩) (by omega) rfl (by simp [lowA, sh3, sh2, sh1, vc])
  unfold rest
  generalize (lowV us).1 = y at *
  generalize (lowV us).2 = lb at *
  refine FRwp.seq (Q1 := fun e st => e = .normal ∧ ∃ g, st = stOf 75 g [(7, vS true 0 us.length 22), (9, vI (!is.isEmpty) 1 is.length), (10, pb 2 0)] [LtA.ownB us, ownI is, LtA.vB y]) (FRwp.pieceN E43d_ok follows 60 3 _ _ _ _ (ofE_0 false false (!is.isEmpty) false false lb o us [] [] is [] 0 0 us.length is.length 0 0 d own zv y g) Met.nil (MetH.cons hlow MetH.nil) MetE.nil sk43de rfl rfl (fixQ3 (LtA.ownB_inert us) (ownI_inert is) (vB_inert y) _) fun g => ⟨rfl, g, rfl⟩) ?_ (fun x st hne hq => absurd hq.1 hne)
  rintro st ⟨-, g, rfl⟩
  have fu4 : ∀ rs : List ViewV, ∀ r : List Blk, ∀ i, i < 4 → ∀ o', (LtA.ownB us :: ownI is :: LtA.vB y :: LtA.ownB rs :: r)[i]? = some o' → Fixed 0 o' := fun rs => fixQ4 (LtA.ownB_inert us) (ownI_inert is) (vB_inert y) (LtA.ownB_inert rs)
  refine FRwp.seq (Q1 := fun e st => e = .normal ∧ ∃ g, st = stOf 75 g [(7, vS true 0 us.length 22), (9, vI (!is.isEmpty) 1 is.length), (10, pb 2 0), (12, nilS)] [LtA.ownB us, ownI is, LtA.vB y, .dead]) (FRwp.pieceN E43d_ok follows 60 3 _ _ _ _ (ofF_0 false false (!is.isEmpty) false false lb o us [] [] is [] 0 0 us.length is.length 0 0 d own zv y g) Met.nil MetH.nil MetE.nil sk43df rfl rfl (fixQ3 (LtA.ownB_inert us) (ownI_inert is) (vB_inert y) _) fun g => ⟨rfl, g, rfl⟩) ?_ (fun x st hne hq => absurd hq.1 hne)
  rintro st ⟨-, g, rfl⟩
  refine FRwp.seq (Q1 := fun e st => e = .normal ∧ ∃ g, st = stOf 75 g [(7, vS true 0 us.length 22), (9, vI (!is.isEmpty) 1 is.length), (10, pb 2 0), (12, nilS), (13, .bool false)] [LtA.ownB us, ownI is, LtA.vB y, .dead]) (FRwp.pieceN E43d_ok follows 60 4 _ _ _ _ (ofG_0 false false (!is.isEmpty) false false lb o us [] [] is [] 0 0 us.length is.length 0 0 d own zv y g) Met.nil MetH.nil MetE.nil sk43dg rfl rfl (fu4 [] _) fun g => ⟨rfl, g, rfl⟩) ?_ (fun x st hne hq => absurd hq.1 hne)
  rintro st ⟨-, g, rfl⟩
  let JJ : Bool × List ViewV → Nat → (Nat → Value) → St := fun p i g => stOf 75 g [(7, vS true 0 us.length 22), (9, vI (!is.isEmpty) 1 is.length), (10, pb 2 0), (12, vS (!p.2.isEmpty) 3 p.2.length 22), (13, .bool p.1), (14, iN i)] [LtA.ownB us, ownI is, LtA.vB y, LtA.ownB p.2]
  have hrm : ∀ (us : List ViewV) (p : Bool × List ViewV), (us.foldl (rmS y) p).2.length ≤ us.length + p.2.length := by
    intro us
    induction us with
    | nil => intro p; simp
    | cons u us ih =>
      intro p
      rw [List.foldl_cons]
      have := ih (rmS y p u)
      have h2 : (rmS y p u).2.length ≤ p.2.length + 1 := by unfold rmS; cases (!p.1 && sameV u y) <;> simp
      simp only [List.length_cons]; omega
  refine FRwp.seq (Q1 := fun e st => e = .normal ∧ ∃ g, st = stOf 75 g [(7, vS true 0 us.length 22), (9, vI (!is.isEmpty) 1 is.length), (10, pb 2 0), (12, vS (!(us.foldl (rmS y) (false, [])).2.isEmpty) 3 (us.foldl (rmS y) (false, [])).2.length 22)] [LtA.ownB us, ownI is, LtA.vB y, LtA.ownB (us.foldl (rmS y) (false, [])).2]) ?_ ?_ (fun x st hne hq => absurd hq.1 hne)
  · refine FRwp.seq (Q1 := fun e st => e = .normal ∧ ∃ g, st = JJ (false, []) 0 g) (FRwp.pieceN E43d_ok follows 60 4 _ _ _ _ (ofH_0 false false (!is.isEmpty) false false lb o us [] [] is [] 0 0 us.length is.length 0 0 d own zv y g) Met.nil MetH.nil MetE.nil sk43dh rfl rfl (fu4 [] _) fun g => ⟨rfl, g, rfl⟩) ?_ (fun x st hne hq => absurd hq.1 hne)
    rintro st ⟨-, g, rfl⟩
    refine fold_loop' (vs := us) (rmS y) (false, []) JJ (fun p st => ∃ g, st = stOf 75 g [(7, vS true 0 us.length 22), (9, vI (!is.isEmpty) 1 is.length), (10, pb 2 0), (12, vS (!p.2.isEmpty) 3 p.2.length 22)] [LtA.ownB us, ownI is, LtA.vB y, LtA.ownB p.2]) (fun p g hf => ?_) (fun i x p g hx hlt hf => ?_) g
    · exact FRwp.pieceN E43d_ok follows 60 4 _ _ _ _ (ofJx_0 false false (!is.isEmpty) (!p.2.isEmpty) p.1 lb o us p.2 [] is [] 0 0 us.length is.length p.2.length us.length d own zv y g) (Met.cons (ltT (a := us.length) (b := us.length) (r := false) (by simp)) Met.nil) MetH.nil MetE.nil sk43dJ rfl rfl (fu4 _ _) fun g => ⟨rfl, g, rfl⟩
    obtain ⟨b, rs⟩ := p
    have hrs : rs.length ≤ i := by
      have := hrm (us.take i) (false, [])
      rw [hf, List.length_take] at this
      simp at this; omega
    have b0 : ∀ r : List Blk, RowAt (heapOf (LtA.ownB us :: r) hp0) 0 us := fun r => .of (ty := 45) (ro := false) (by rw [heapOf0_get, LtA.ownB_ne hne]; rfl)
    have happ := app_any (get := (heapOf [LtA.ownB us, ownI is, LtA.vB y, LtA.ownB rs, .dead, LtA.vB x] hp0).get) (sz := 6) (b := 3) (b2 := 5) (k := rs.length) (ws := rs) (x := x) rfl (by rw [heapOf0_get]; rfl) (by rw [heapOf0_get]; rfl) rfl (by omega)
    have fapp : ∀ r : List Blk, ∀ i, i < 4 → ∀ o', (LtA.ownB us :: ownI is :: LtA.vB y :: LtA.rowB (rs ++ [x]) :: r)[i]? = some o' → Fixed 0 o' := by rw [← LtA.ownB_ne (neA rs x)]; exact fu4 _
    cases b with
    | true =>
      refine FRwp.pieceN E43d_ok follows 60 4 _ _ _ _ (ofJt_0 false false (!is.isEmpty) (!rs.isEmpty) true lb o us rs (rs ++ [x]) is [] 0 0 us.length is.length rs.length i d own x y g)
        (Met.cons (wrap_up (by omega)) (Met.cons (vload_ok (b0 _) hx) (Met.cons (vidx_ok hlt) (Met.cons (ltT (decide_eq_true hlt)) Met.nil)))) MetH.nil (MetE.cons happ MetE.nil) sk43dJ rfl rfl (fapp _) fun g' => ⟨rfl, g', ?_⟩
      show _ = JJ (true, rs ++ [x]) (i + 1) g'
      dsimp only [JJ]
      rw [isEA, LtA.ownB_ne (neA rs x), lenA]; rfl
    | false =>
      cases hs : sameV x y with
      | true =>
        refine FRwp.pieceN E43d_ok follows 60 4 _ _ _ _ (ofJf_0 false false (!is.isEmpty) (!rs.isEmpty) true lb o us rs [] is [] 0 0 us.length is.length rs.length i d own x y g)
          (Met.cons (wrap_up (by omega)) (Met.cons ((eql34 x y).trans (bool_ok hs)) (Met.cons (vload_ok (b0 _) hx) (Met.cons (vidx_ok hlt) (Met.cons (ltT (decide_eq_true hlt)) Met.nil))))) MetH.nil MetE.nil sk43dJ rfl rfl (fu4 _ _) fun g' => ⟨rfl, g', ?_⟩
        unfold rmS; simp only [hs]; rfl
      | false =>
        refine FRwp.pieceN E43d_ok follows 60 4 _ _ _ _ (ofJf_1 false false (!is.isEmpty) (!rs.isEmpty) true lb o us rs (rs ++ [x]) is [] 0 0 us.length is.length rs.length i d own x y g)
          (Met.cons (wrap_up (by omega)) (Met.cons (vload_ok (b0 _) hx) (Met.cons (vidx_ok hlt) (Met.cons ((eql34 x y).trans (bool_ok hs)) (Met.cons (vload_ok (b0 _) hx) (Met.cons (vidx_ok hlt) (Met.cons (ltT (decide_eq_true hlt)) Met.nil))))))) MetH.nil (MetE.cons happ MetE.nil) sk43dJ rfl rfl (fapp _) fun g' => ⟨rfl, g', ?_⟩
        have e : rmS y (false, rs) x = (false, rs ++ [x]) := by unfold rmS; simp only [hs]; rfl
        rw [e]
        dsimp only [JJ]
        rw [isEA, LtA.ownB_ne (neA rs x), lenA]; rfl
  rintro st ⟨-, g, rfl⟩
  generalize (us.foldl (rmS y) (false, [])).2 = rs at *
  have happ := app_anyI (get := (heapOf [LtA.ownB us, ownI is, LtA.vB y, LtA.ownB rs, .dead, .cells 3 [icell y.id] false] hp0).get) (sz := 6) (b := 1) (b2 := 5) (k := is.length) (ids := is) (x := y.id) rfl (by rw [heapOf0_get]; rfl) (by rw [heapOf0_get]; rfl) rfl (by omega)
  refine FRwp.pieceN E43d_ok follows 60 2 _ _ _ _ (ofK_0 false false (!is.isEmpty) (!rs.isEmpty) true lb o us rs [] is (is ++ [y.id]) 0 0 us.length is.length rs.length 0 d own zv y g) Met.nil MetH.nil (MetE.cons happ MetE.nil) sk43dk rfl rfl (fixOO (LtA.ownB_inert rs) (iB_inert _) _) fun g => ⟨rfl, g, ?_⟩
  rw [isEA, ownI_ne (neA is y.id), lenA]; rfl
noncomputable def G43d : HeapFn := padF (toldR ofR)
theorem hkG43d : CallGoal Try.prog 43 G43d := pad_goal (toldR_goal Try.func43 body43d (by kernel_rfl) ntmps43d fun vs hn => runG vs hn)
theorem G43d_of {vs : List ViewV} {s : Value} {hp : Hp} {d : Int} (own : ViewV) (hd : d = 1 ∨ d = 2) (h : TN vs s hp) (hn : vs.length < 1000000) : G43d [s, hcA own, .int .i64 d] hp = some (rowIv (idsD d own vs) hp.sz, heapOf [ownI (idsD d own vs), .dead] hp) := toldR_ids h hn (by show (if d = 1 ∨ d = 2 then _ else _) = _; rw [if_pos hd]; rfl)
end Go.Proofs.Ytgeoommlmddgpaa.LtA
namespace Go.Proofs.Ytgeoommlmddgpaa.LtL
open Go Go.Proofs Go.Proofs.Ytgeoommlmddgpaa.AI Go.RowKit Go.Proofs.Ytgeoommlmddgpaa.Sort Go.Proofs.Ytgeoommlmddgpaa.LtA
noncomputable def E16r : Ext := extG (extH Try.prog []) [(43, G43d)]
theorem E16r_ok : ExtOk Try.prog E16r := extG_ok (extH_ok (.nil)) (.cons hkG43d (.nil))
noncomputable def c16r : CallF := aCall Try.prog E16r 5
theorem c16r_ok : CallOk Try.prog c16r := aCall_sound E16r_ok follows 5
theorem c16r_43 (args : List Value) (hp : Hp) : c16r 43 args hp = G43d args hp := by
  show aCall Try.prog E16r 5 43 _ _ = _
  rw [aCall]; rfl
noncomputable def fb16r : Code := (Try.f16.body).getD .skip
theorem body16r : Try.f16.body = some fb16r := by kernel_rfl
theorem ntmps16r : Try.f16.ntmps = 8 := by kernel_rfl
theorem s16r : codeSafe Try.prog 8 fb16r = true := by kernel_rfl
theorem q16r (v : Value) (O : List Blk) (g : Nat → Value) : retVal Try.prog Try.f16 (stOf 8 g [(4, v)] O) = some v := by kernel_rfl
section
variable (fi : Bool) (o I : Blk) (own : ViewV) (n c k : Nat)
theorem r16rt : (execE Try.prog c16r [] [(7, vI fi 3 k, [I, .dead])] [] 20 fb16r ⟨tmsOf [rowS 0 n c, hcA own] 0 .leaf, heapOf [o, .dead] hp0, []⟩).map (fun z => (look2 1 [3] [4] (z.1, z.2.1), z.2.2)) =
    some ((.ret, [I], [(4, vI fi 0 k)], true), [], [(c16r 43 [rowS 0 n c, hcA own, .int .i64 1] (heapOf [o, .dead, hB own] hp0), (vI fi 3 k, heapOf [I, .dead] (heapOf [o, .dead, hB own] hp0)))], []) := by cases fi <;> kernel_rfl
theorem r16rn : (execE Try.prog c16r [] [(7, vI fi 2 k, [I, .dead])] [] 20 fb16r ⟨tmsOf [nilS, hcA own] 0 .leaf, heapOf [.dead] hp0, []⟩).map (fun z => (look2 1 [2] [4] (z.1, z.2.1), z.2.2)) =
    some ((.ret, [I], [(4, vI fi 0 k)], true), [], [(c16r 43 [nilS, hcA own, .int .i64 1] (heapOf [.dead, hB own] hp0), (vI fi 2 k, heapOf [I, .dead] (heapOf [.dead, hB own] hp0)))], []) := by cases fi <;> kernel_rfl
end
theorem run16r (vs : List ViewV) (hn : vs.length < 1000000) : ∀ rest v0 O, wayR19 vs rest = some (v0, O) → RowRun Try.f16 fb16r 8 vs rest v0 O := fun rest v0 O h => by
  unfold wayR19 at h
  split at h
  case h_2 => cases h
  rename_i v
  obtain ⟨own, hown, h2⟩ := Option.map_eq_some_iff.1 h
  obtain rfl := unH_some hown
  cases h2
  refine ⟨rowI_out _, rowI_ok _, (by intro r hr; have e : r = hcA own := (by simpa using hr); rw [e]; exact stay_h _), by simp, fun f o c W ho hrow hfl => ?_⟩
  cases f with
  | true =>
    have h := (c16r_43 [rowS 0 vs.length c, hcA own, .int .i64 1] (heapOf [o, .dead, hB own] hp0)).trans (G43d_of (d := 1) own (by simp) (.inr ⟨0, c, o, rfl, by rw [heapOf0_get]; rfl, ho, hrow⟩) hn)
    generalize idsD 1 own vs = ids at *
    have hr := r16rt (!ids.isEmpty) o (ownI ids) own vs.length c ids.length
    rw [vI_row, vI_row] at hr
    exact FRwp.pieceY c16r_ok follows 1 _ _ _ _ hr Met.nil (MetH.cons h MetH.nil) MetE.nil s16r rfl rfl (fix11 (ownI_inert ids) []) fun g => fin_row q16r ids g
  | false =>
    obtain ⟨rfl, rfl⟩ := hfl rfl
    have h := (c16r_43 [nilS, hcA own, .int .i64 1] (heapOf [.dead, hB own] hp0)).trans (G43d_of (vs := []) (d := 1) own (by simp) (.inl ⟨rfl, rfl⟩) (by simp))
    generalize idsD 1 own [] = ids at *
    have hr := r16rn (!ids.isEmpty) (ownI ids) own ids.length
    rw [vI_row, vI_row] at hr
    exact FRwp.pieceY c16r_ok follows 1 _ _ _ _ hr Met.nil (MetH.cons h MetH.nil) MetE.nil s16r rfl rfl (fix11 (ownI_inert ids) []) fun g => fin_row q16r ids g
noncomputable def G16r : HeapFn := padF (toldR wayR19)
theorem hkG16r : CallGoal Try.prog 16 G16r := pad_goal (toldR_goal Try.func16 body16r (by kernel_rfl) ntmps16r fun vs hn => run16r vs hn)
theorem G16r_of {vs : List ViewV} {s : Value} {hp : Hp} (own : ViewV) (h : TN vs s hp) (hn : vs.length < 1000000) : G16r [s, hcA own] hp = some (rowIv (idsD 1 own vs) hp.sz, heapOf [ownI (idsD 1 own vs), .dead] hp) := toldR_ids h hn rfl
noncomputable def E18r : Ext := extG (extH Try.prog []) [(43, G43d)]
theorem E18r_ok : ExtOk Try.prog E18r := extG_ok (extH_ok (.nil)) (.cons hkG43d (.nil))
noncomputable def c18r : CallF := aCall Try.prog E18r 5
theorem c18r_ok : CallOk Try.prog c18r := aCall_sound E18r_ok follows 5
theorem c18r_43 (args : List Value) (hp : Hp) : c18r 43 args hp = G43d args hp := by
  show aCall Try.prog E18r 5 43 _ _ = _
  rw [aCall]; rfl
noncomputable def fb18r : Code := (Try.f18.body).getD .skip
theorem body18r : Try.f18.body = some fb18r := by kernel_rfl
theorem ntmps18r : Try.f18.ntmps = 8 := by kernel_rfl
theorem s18r : codeSafe Try.prog 8 fb18r = true := by kernel_rfl
theorem q18r (v : Value) (O : List Blk) (g : Nat → Value) : retVal Try.prog Try.f18 (stOf 8 g [(4, v)] O) = some v := by kernel_rfl
section
variable (fi : Bool) (o I : Blk) (own : ViewV) (n c k : Nat)
theorem r18rt : (execE Try.prog c18r [] [(7, vI fi 3 k, [I, .dead])] [] 20 fb18r ⟨tmsOf [rowS 0 n c, hcA own] 0 .leaf, heapOf [o, .dead] hp0, []⟩).map (fun z => (look2 1 [3] [4] (z.1, z.2.1), z.2.2)) =
    some ((.ret, [I], [(4, vI fi 0 k)], true), [], [(c18r 43 [rowS 0 n c, hcA own, .int .i64 2] (heapOf [o, .dead, hB own] hp0), (vI fi 3 k, heapOf [I, .dead] (heapOf [o, .dead, hB own] hp0)))], []) := by cases fi <;> kernel_rfl
theorem r18rn : (execE Try.prog c18r [] [(7, vI fi 2 k, [I, .dead])] [] 20 fb18r ⟨tmsOf [nilS, hcA own] 0 .leaf, heapOf [.dead] hp0, []⟩).map (fun z => (look2 1 [2] [4] (z.1, z.2.1), z.2.2)) =
    some ((.ret, [I], [(4, vI fi 0 k)], true), [], [(c18r 43 [nilS, hcA own, .int .i64 2] (heapOf [.dead, hB own] hp0), (vI fi 2 k, heapOf [I, .dead] (heapOf [.dead, hB own] hp0)))], []) := by cases fi <;> kernel_rfl
end
theorem run18r (vs : List ViewV) (hn : vs.length < 1000000) : ∀ rest v0 O, wayR20 vs rest = some (v0, O) → RowRun Try.f18 fb18r 8 vs rest v0 O := fun rest v0 O h => by
  unfold wayR20 at h
  split at h
  case h_2 => cases h
  rename_i v
  obtain ⟨own, hown, h2⟩ := Option.map_eq_some_iff.1 h
  obtain rfl := unH_some hown
  cases h2
  refine ⟨rowI_out _, rowI_ok _, (by intro r hr; have e : r = hcA own := (by simpa using hr); rw [e]; exact stay_h _), by simp, fun f o c W ho hrow hfl => ?_⟩
  cases f with
  | true =>
    have h := (c18r_43 [rowS 0 vs.length c, hcA own, .int .i64 2] (heapOf [o, .dead, hB own] hp0)).trans (G43d_of (d := 2) own (by simp) (.inr ⟨0, c, o, rfl, by rw [heapOf0_get]; rfl, ho, hrow⟩) hn)
    generalize idsD 2 own vs = ids at *
    have hr := r18rt (!ids.isEmpty) o (ownI ids) own vs.length c ids.length
    rw [vI_row, vI_row] at hr
    exact FRwp.pieceY c18r_ok follows 1 _ _ _ _ hr Met.nil (MetH.cons h MetH.nil) MetE.nil s18r rfl rfl (fix11 (ownI_inert ids) []) fun g => fin_row q18r ids g
  | false =>
    obtain ⟨rfl, rfl⟩ := hfl rfl
    have h := (c18r_43 [nilS, hcA own, .int .i64 2] (heapOf [.dead, hB own] hp0)).trans (G43d_of (vs := []) (d := 2) own (by simp) (.inl ⟨rfl, rfl⟩) (by simp))
    generalize idsD 2 own [] = ids at *
    have hr := r18rn (!ids.isEmpty) (ownI ids) own ids.length
    rw [vI_row, vI_row] at hr
    exact FRwp.pieceY c18r_ok follows 1 _ _ _ _ hr Met.nil (MetH.cons h MetH.nil) MetE.nil s18r rfl rfl (fix11 (ownI_inert ids) []) fun g => fin_row q18r ids g
noncomputable def G18r : HeapFn := padF (toldR wayR20)
theorem hkG18r : CallGoal Try.prog 18 G18r := pad_goal (toldR_goal Try.func18 body18r (by kernel_rfl) ntmps18r fun vs hn => run18r vs hn)
noncomputable def E11r : Ext := extG (extH Try.prog []) [(16, G16r)]
theorem E11r_ok : ExtOk Try.prog E11r := extG_ok (extH_ok (.nil)) (.cons hkG16r (.nil))
noncomputable def c11r : CallF := aCall Try.prog E11r 5
theorem c11r_ok : CallOk Try.prog c11r := aCall_sound E11r_ok follows 5
theorem c11r_16 (args : List Value) (hp : Hp) : c11r 16 args hp = G16r args hp := by
  show aCall Try.prog E11r 5 16 _ _ = _
  rw [aCall]; rfl
noncomputable def fb11r : Code := (Try.f11.body).getD .skip
theorem body11r : Try.f11.body = some fb11r := by kernel_rfl
theorem ntmps11r : Try.f11.ntmps = 16 := by kernel_rfl
theorem s11r : codeSafe Try.prog 16 fb11r = true := by kernel_rfl
theorem q11r (v u : Value) (O : List Blk) (g : Nat → Value) : retVal Try.prog Try.f11 (stOf 16 g [(4, v), (5, u)] O) = some (.tuple #[v, u]) := by kernel_rfl
section
variable (o I : Blk) (own : ViewV) (n c k : Nat) (z : Int)
theorem r11rt : (execE Try.prog c11r [(14, pb 3 0), (15, .int .i64 z)] [(9, newI 3 (k + 1), [I, .dead])] [] 20 fb11r ⟨tmsOf [rowS 0 n c, hcA own] 0 .leaf, heapOf [o, .dead] hp0, []⟩).map (fun z => (look2 0 [] [4, 5] (z.1, z.2.1), z.2.2)) =
    some ((.ret, [], [(4, .int .i64 z), (5, .bool true)], true), [ixI 3 (k + 1) 0, ldO (heapOf [I, .dead] (heapOf [o, .dead, hB own] hp0)).get 3 3 0 (.int .i64 z)], [(c11r 16 [rowS 0 n c, hcA own] (heapOf [o, .dead, hB own] hp0), (newI 3 (k + 1), heapOf [I, .dead] (heapOf [o, .dead, hB own] hp0)))], []) := by kernel_rfl
theorem r11rte : (execE Try.prog c11r [] [(9, nilS, [I, .dead])] [] 20 fb11r ⟨tmsOf [rowS 0 n c, hcA own] 0 .leaf, heapOf [o, .dead] hp0, []⟩).map (fun z => (look2 0 [] [4, 5] (z.1, z.2.1), z.2.2)) =
    some ((.ret, [], [(4, .int .i64 0), (5, .bool false)], true), [], [(c11r 16 [rowS 0 n c, hcA own] (heapOf [o, .dead, hB own] hp0), (nilS, heapOf [I, .dead] (heapOf [o, .dead, hB own] hp0)))], []) := by kernel_rfl
theorem r11rn : (execE Try.prog c11r [(14, pb 2 0), (15, .int .i64 z)] [(9, newI 2 (k + 1), [I, .dead])] [] 20 fb11r ⟨tmsOf [nilS, hcA own] 0 .leaf, heapOf [.dead] hp0, []⟩).map (fun z => (look2 0 [] [4, 5] (z.1, z.2.1), z.2.2)) =
    some ((.ret, [], [(4, .int .i64 z), (5, .bool true)], true), [ixI 2 (k + 1) 0, ldO (heapOf [I, .dead] (heapOf [.dead, hB own] hp0)).get 3 2 0 (.int .i64 z)], [(c11r 16 [nilS, hcA own] (heapOf [.dead, hB own] hp0), (newI 2 (k + 1), heapOf [I, .dead] (heapOf [.dead, hB own] hp0)))], []) := by kernel_rfl
theorem r11rne : (execE Try.prog c11r [] [(9, nilS, [I, .dead])] [] 20 fb11r ⟨tmsOf [nilS, hcA own] 0 .leaf, heapOf [.dead] hp0, []⟩).map (fun z => (look2 0 [] [4, 5] (z.1, z.2.1), z.2.2)) =
    some ((.ret, [], [(4, .int .i64 0), (5, .bool false)], true), [], [(c11r 16 [nilS, hcA own] (heapOf [.dead, hB own] hp0), (nilS, heapOf [I, .dead] (heapOf [.dead, hB own] hp0)))], []) := by kernel_rfl
end
theorem run11r (vs : List ViewV) (hn : vs.length < 1000000) : ∀ rest v0 O, nxtR vs rest = some (v0, O) → RowRun Try.f11 fb11r 16 vs rest v0 O := fun rest v0 O h => by
  unfold nxtR at h
  split at h
  case h_2 => cases h
  rename_i v
  obtain ⟨own, hown, h2⟩ := Option.map_eq_some_iff.1 h
  obtain rfl := unH_some hown
  cases h2
  refine ⟨.inl rfl, nxtA_ok _ _, (by intro r hr; have e : r = hcA own := (by simpa using hr); rw [e]; exact stay_h _), by simp, fun f o c W ho hrow hfl => ?_⟩
  cases f with
  | true =>
    have h := (c11r_16 [rowS 0 vs.length c, hcA own] (heapOf [o, .dead, hB own] hp0)).trans (G16r_of own (.inr ⟨0, c, o, rfl, by rw [heapOf0_get]; rfl, ho, hrow⟩) hn)
    unfold nxtA
    generalize idsD 1 own vs = ids at *
    cases ids with
    | nil => exact FRwp.pieceY c11r_ok follows 0 _ _ _ _ (r11rte o .dead own vs.length c) Met.nil (MetH.cons h MetH.nil) MetE.nil s11r rfl rfl (noFix _) fun g => ⟨.inr rfl, rfl, q11r _ _ _ g, (fun B hB => by cases hB)⟩
    | cons z ids => exact FRwp.pieceY c11r_ok follows 0 _ _ _ _ (r11rt o (iB (z :: ids)) own vs.length c ids.length z) (Met.cons (ixI_ok (by omega)) (Met.cons (ldA_ok (isI (z :: ids)) (by rw [heapOf_get]; rfl) rfl) Met.nil)) (MetH.cons h MetH.nil) MetE.nil s11r rfl rfl (noFix _) fun g => ⟨.inr rfl, rfl, q11r _ _ _ g, (fun B hB => by cases hB)⟩
  | false =>
    obtain ⟨rfl, rfl⟩ := hfl rfl
    have h := (c11r_16 [nilS, hcA own] (heapOf [.dead, hB own] hp0)).trans (G16r_of (vs := []) own (.inl ⟨rfl, rfl⟩) (by simp))
    unfold nxtA
    generalize idsD 1 own [] = ids at *
    cases ids with
    | nil => exact FRwp.pieceY c11r_ok follows 0 _ _ _ _ (r11rne .dead own) Met.nil (MetH.cons h MetH.nil) MetE.nil s11r rfl rfl (noFix _) fun g => ⟨.inr rfl, rfl, q11r _ _ _ g, (fun B hB => by cases hB)⟩
    | cons z ids => exact FRwp.pieceY c11r_ok follows 0 _ _ _ _ (r11rn (iB (z :: ids)) own ids.length z) (Met.cons (ixI_ok (by omega)) (Met.cons (ldA_ok (isI (z :: ids)) (by rw [heapOf_get]; rfl) rfl) Met.nil)) (MetH.cons h MetH.nil) MetE.nil s11r rfl rfl (noFix _) fun g => ⟨.inr rfl, rfl, q11r _ _ _ g, (fun B hB => by cases hB)⟩
noncomputable def G11r : HeapFn := toldR nxtR
theorem hkG11r : CallGoal Try.prog 11 G11r := toldR_goal Try.func11 body11r (by kernel_rfl) ntmps11r fun vs hn => run11r vs hn
end Go.Proofs.Ytgeoommlmddgpaa.LtL
namespace Go.Proofs.Ytgeoommlmddgpaa.LtL
open Go Go.Proofs Go.Proofs.Ytgeoommlmddgpaa.AI Go.RowKit Go.Proofs.Ytgeoommlmddgpaa.Sort Go.Proofs.Ytgeoommlmddgpaa.LtA
noncomputable def EOrd : Ext := extH Try.prog []
theorem EOrd_ok : ExtOk Try.prog EOrd := extH_ok .nil
noncomputable def fbOrd : Code := (Try.f47.body).getD .skip
theorem bodyOrd : Try.f47.body = some fbOrd := by kernel_rfl
theorem ntOrd : Try.f47.ntmps = 20 := by kernel_rfl
theorem sOrd : codeSafe Try.prog 20 fbOrd = true := by kernel_rfl
theorem qOrd (v : Value) (O : List Blk) (g : Nat → Value) : retVal Try.prog Try.f47 (stOf 20 g [(4, v)] O) = some v := by kernel_rfl
theorem rOrd_0 (a b : Lev) : (execN Try.prog (aCall Try.prog EOrd 60) (callN Try.prog EOrd 60) 200 fbOrd ⟨tmsOf [lA a, lA b] 0 .leaf, hp0, []⟩ (acc0 [(32, .v (.bool true))])).map (fun y => (look2 0 [] [4] (y.1, y.2.1), y.2.2.q, y.2.2.r, y.2.2.x)) =
    some ((.ret, [], [(4, .int .i64 (Int.negSucc 0))], true), [(some (.bool (decide (a.1 < b.1))), .bool true)], [], []) := by kernel_rfl
theorem rOrd_1 (a b : Lev) : (execN Try.prog (aCall Try.prog EOrd 60) (callN Try.prog EOrd 60) 200 fbOrd ⟨tmsOf [lA a, lA b] 0 .leaf, hp0, []⟩ (acc0 [(41, .v (.bool true)), (32, .v (.bool false))])).map (fun y => (look2 0 [] [4] (y.1, y.2.1), y.2.2.q, y.2.2.r, y.2.2.x)) =
    some ((.ret, [], [(4, iN 1)], true), [(some (.bool (decide (a.1 > b.1))), .bool true), (some (.bool (decide (a.1 < b.1))), .bool false)], [], []) := by kernel_rfl
theorem rOrd_2 (a b : Lev) : (execN Try.prog (aCall Try.prog EOrd 60) (callN Try.prog EOrd 60) 200 fbOrd ⟨tmsOf [lA a, lA b] 0 .leaf, hp0, []⟩ (acc0 [(57, .v (.bool true)), (41, .v (.bool false)), (32, .v (.bool false))])).map (fun y => (look2 0 [] [4] (y.1, y.2.1), y.2.2.q, y.2.2.r, y.2.2.x)) =
    some ((.ret, [], [(4, .int .i64 (Int.negSucc 0))], true), [(some (.bool (decide (a.2.1 < b.2.1))), .bool true), (some (.bool (decide (a.1 > b.1))), .bool false), (some (.bool (decide (a.1 < b.1))), .bool false)], [], []) := by kernel_rfl
theorem rOrd_3 (a b : Lev) : (execN Try.prog (aCall Try.prog EOrd 60) (callN Try.prog EOrd 60) 200 fbOrd ⟨tmsOf [lA a, lA b] 0 .leaf, hp0, []⟩ (acc0 [(66, .v (.bool true)), (57, .v (.bool false)), (41, .v (.bool false)), (32, .v (.bool false))])).map (fun y => (look2 0 [] [4] (y.1, y.2.1), y.2.2.q, y.2.2.r, y.2.2.x)) =
    some ((.ret, [], [(4, iN 1)], true), [(some (.bool (decide (a.2.1 > b.2.1))), .bool true), (some (.bool (decide (a.2.1 < b.2.1))), .bool false), (some (.bool (decide (a.1 > b.1))), .bool false), (some (.bool (decide (a.1 < b.1))), .bool false)], [], []) := by kernel_rfl
theorem rOrd_4 (a b : Lev) : (execN Try.prog (aCall Try.prog EOrd 60) (callN Try.prog EOrd 60) 200 fbOrd ⟨tmsOf [lA a, lA b] 0 .leaf, hp0, []⟩ (acc0 [(82, .v (.bool true)), (66, .v (.bool false)), (57, .v (.bool false)), (41, .v (.bool false)), (32, .v (.bool false))])).map (fun y => (look2 0 [] [4] (y.1, y.2.1), y.2.2.q, y.2.2.r, y.2.2.x)) =
    some ((.ret, [], [(4, .int .i64 (Int.negSucc 0))], true), [(some (.bool (decide (a.2.2 < b.2.2))), .bool true), (some (.bool (decide (a.2.1 > b.2.1))), .bool false), (some (.bool (decide (a.2.1 < b.2.1))), .bool false), (some (.bool (decide (a.1 > b.1))), .bool false), (some (.bool (decide (a.1 < b.1))), .bool false)], [], []) := by kernel_rfl
theorem rOrd_5 (a b : Lev) : (execN Try.prog (aCall Try.prog EOrd 60) (callN Try.prog EOrd 60) 200 fbOrd ⟨tmsOf [lA a, lA b] 0 .leaf, hp0, []⟩ (acc0 [(91, .v (.bool true)), (82, .v (.bool false)), (66, .v (.bool false)), (57, .v (.bool false)), (41, .v (.bool false)), (32, .v (.bool false))])).map (fun y => (look2 0 [] [4] (y.1, y.2.1), y.2.2.q, y.2.2.r, y.2.2.x)) =
    some ((.ret, [], [(4, iN 1)], true), [(some (.bool (decide (a.2.2 > b.2.2))), .bool true), (some (.bool (decide (a.2.2 < b.2.2))), .bool false), (some (.bool (decide (a.2.1 > b.2.1))), .bool false), (some (.bool (decide (a.2.1 < b.2.1))), .bool false), (some (.bool (decide (a.1 > b.1))), .bool false), (some (.bool (decide (a.1 < b.1))), .bool false)], [], []) := by kernel_rfl
theorem rOrd_6 (a b : Lev) : (execN Try.prog (aCall Try.prog EOrd 60) (callN Try.prog EOrd 60) 200 fbOrd ⟨tmsOf [lA a, lA b] 0 .leaf, hp0, []⟩ (acc0 [(91, .v (.bool false)), (82, .v (.bool false)), (66, .v (.bool false)), (57, .v (.bool false)), (41, .v (.bool false)), (32, .v (.bool false))])).map (fun y => (look2 0 [] [4] (y.1, y.2.1), y.2.2.q, y.2.2.r, y.2.2.x)) =
    some ((.ret, [], [(4, iN 0)], true), [(some (.bool (decide (a.2.2 > b.2.2))), .bool false), (some (.bool (decide (a.2.2 < b.2.2))), .bool false), (some (.bool (decide (a.2.1 > b.2.1))), .bool false), (some (.bool (decide (a.2.1 < b.2.1))), .bool false), (some (.bool (decide (a.1 > b.1))), .bool false), (some (.bool (decide (a.1 < b.1))), .bool false)], [], []) := by kernel_rfl
theorem frOrd (a b : Lev) (W : Base) : FRwp Try.prog 20 W fbOrd ⟨tmsOf [lA a, lA b] 0 .leaf, hp0, []⟩ (fun e st => (e = .normal ∨ e = .ret) ∧ st.df = [] ∧ retVal Try.prog Try.f47 st = some (.int .i64 (ordL a b))) := by
  cases h_32 : (decide (a.1 < b.1)) with
  | true =>
    exact FRwp.pieceN EOrd_ok follows 60 0 _ _ _ _ (rOrd_0 a b) (Met.cons (bool_ok h_32) Met.nil) (MetH.nil) (MetE.nil) sOrd rfl rfl (noFix _) fun g => ⟨.inr rfl, rfl, (qOrd _ _ g).trans (by simp only [decide_eq_true_eq, decide_eq_false_iff_not] at *; simp [ordL, ord3, or3, cmp3, iN, *])⟩
  | false =>
    cases h_41 : (decide (a.1 > b.1)) with
    | true =>
      exact FRwp.pieceN EOrd_ok follows 60 0 _ _ _ _ (rOrd_1 a b) (Met.cons (bool_ok h_41) (Met.cons (bool_ok h_32) Met.nil)) (MetH.nil) (MetE.nil) sOrd rfl rfl (noFix _) fun g => ⟨.inr rfl, rfl, (qOrd _ _ g).trans (by simp only [decide_eq_true_eq, decide_eq_false_iff_not] at *; simp [ordL, ord3, or3, cmp3, iN, *])⟩
    | false =>
      cases h_57 : (decide (a.2.1 < b.2.1)) with
      | true =>
        exact FRwp.pieceN EOrd_ok follows 60 0 _ _ _ _ (rOrd_2 a b) (Met.cons (bool_ok h_57) (Met.cons (bool_ok h_41) (Met.cons (bool_ok h_32) Met.nil))) (MetH.nil) (MetE.nil) sOrd rfl rfl (noFix _) fun g => ⟨.inr rfl, rfl, (qOrd _ _ g).trans (by simp only [decide_eq_true_eq, decide_eq_false_iff_not] at *; simp [ordL, ord3, or3, cmp3, iN, *])⟩
      | false =>
        cases h_66 : (decide (a.2.1 > b.2.1)) with
        | true =>
          exact FRwp.pieceN EOrd_ok follows 60 0 _ _ _ _ (rOrd_3 a b) (Met.cons (bool_ok h_66) (Met.cons (bool_ok h_57) (Met.cons (bool_ok h_41) (Met.cons (bool_ok h_32) Met.nil)))) (MetH.nil) (MetE.nil) sOrd rfl rfl (noFix _) fun g => ⟨.inr rfl, rfl, (qOrd _ _ g).trans (by simp only [decide_eq_true_eq, decide_eq_false_iff_not] at *; simp [ordL, ord3, or3, cmp3, iN, *])⟩
        | false =>
          cases h_82 : (decide (a.2.2 < b.2.2)) with
          | true =>
            exact FRwp.pieceN EOrd_ok follows 60 0 _ _ _ _ (rOrd_4 a b) (Met.cons (bool_ok h_82) (Met.cons (bool_ok h_66) (Met.cons (bool_ok h_57) (Met.cons (bool_ok h_41) (Met.cons (bool_ok h_32) Met.nil))))) (MetH.nil) (MetE.nil) sOrd rfl rfl (noFix _) fun g => ⟨.inr rfl, rfl, (qOrd _ _ g).trans (by simp only [decide_eq_true_eq, decide_eq_false_iff_not] at *; simp [ordL, ord3, or3, cmp3, iN, *])⟩
          | false =>
            cases h_91 : (decide (a.2.2 > b.2.2)) with
            | true =>
              exact FRwp.pieceN EOrd_ok follows 60 0 _ _ _ _ (rOrd_5 a b) (Met.cons (bool_ok h_91) (Met.cons (bool_ok h_82) (Met.cons (bool_ok h_66) (Met.cons (bool_ok h_57) (Met.cons (bool_ok h_41) (Met.cons (bool_ok h_32) Met.nil)))))) (MetH.nil) (MetE.nil) sOrd rfl rfl (noFix _) fun g => ⟨.inr rfl, rfl, (qOrd _ _ g).trans (by simp only [decide_eq_true_eq, decide_eq_false_iff_not] at *; simp [ordL, ord3, or3, cmp3, iN, *])⟩
            | false =>
              exact FRwp.pieceN EOrd_ok follows 60 0 _ _ _ _ (rOrd_6 a b) (Met.cons (bool_ok h_91) (Met.cons (bool_ok h_82) (Met.cons (bool_ok h_66) (Met.cons (bool_ok h_57) (Met.cons (bool_ok h_41) (Met.cons (bool_ok h_32) Met.nil)))))) (MetH.nil) (MetE.nil) sOrd rfl rfl (noFix _) fun g => ⟨.inr rfl, rfl, (qOrd _ _ g).trans (by simp only [decide_eq_true_eq, decide_eq_false_iff_not] at *; simp [ordL, ord3, or3, cmp3, iN, *])⟩
theorem hkOrd : HookGoal Try.prog 47 g30 := hook_fr Try.func47 (by kernel_rfl) bodyOrd ntOrd fun args v h => by
  unfold g30 at h
  split at h
  · rename_i c0 c1
    split at h
    · rename_i a b c d e f ec0 ec1
      cases h
      obtain rfl := arr_of ec0
      obtain rfl := arr_of ec1
      exact ⟨rfl, rfl, by simp, fun W => frOrd (a, b, c) (d, e, f) W⟩
    · cases h
  · cases h
def lbx (y : Lev) : Blk := .cells 42 (lc y) false
noncomputable def E22r : Ext := extH Try.prog [(40, g64), (46, g31), (47, g30)]
theorem E22r_ok : ExtOk Try.prog E22r := extH_ok (.cons hk64 (.cons hk67 (.cons hkOrd .nil)))
theorem q22r (v : Value) (O : List Blk) (g : Nat → Value) : retVal Try.prog Try.f22 (stOf 70 g [(2, v)] O) = some v := by kernel_rfl
noncomputable def fb22r : Code := (Try.f22.body).getD .skip
theorem ntmps22r : Try.f22.ntmps = 70 := by kernel_rfl
noncomputable def k22ra : Code := sL (fb22r)
theorem sk22ra : codeSafe Try.prog 70 k22ra = true := by kernel_rfl
noncomputable def k22rb : Code := sL (sR (fb22r))
theorem sk22rb : codeSafe Try.prog 70 k22rb = true := by kernel_rfl
noncomputable def k22rc : Code := sL (sL (sR (sR (fb22r))))
theorem sk22rc : codeSafe Try.prog 70 k22rc = true := by kernel_rfl
noncomputable def k22rM : Code := sL (unL (unB (sR (sL (sR (sR (fb22r)))))))
theorem sk22rM : codeSafe Try.prog 70 k22rM = true := by kernel_rfl
noncomputable def k22rX : Code := sL (unB (sL (sR (unL (unB (sR (sL (sR (sR (fb22r))))))))))
theorem sk22rX : codeSafe Try.prog 70 k22rX = true := by kernel_rfl
noncomputable def k22rD : Code := sL (sR (unB (sL (sR (unL (unB (sR (sL (sR (sR (fb22r)))))))))))
theorem sk22rD : codeSafe Try.prog 70 k22rD = true := by kernel_rfl
noncomputable def k22rE : Code := sL (sR (sR (unB (sL (sR (unL (unB (sR (sL (sR (sR (fb22r))))))))))))
theorem sk22rE : codeSafe Try.prog 70 k22rE = true := by kernel_rfl
noncomputable def k22rF : Code := sL (sR (sR (sR (unB (sL (sR (unL (unB (sR (sL (sR (sR (fb22r)))))))))))))
theorem sk22rF : codeSafe Try.prog 70 k22rF = true := by kernel_rfl
noncomputable def k22rH : Code := sL (sL (sR (sR (sR (sR (unB (sL (sR (unL (unB (sR (sL (sR (sR (fb22r)))))))))))))))
theorem sk22rH : codeSafe Try.prog 70 k22rH = true := by kernel_rfl
noncomputable def k22rJ : Code := unL (unB (sR (sL (sR (sR (sR (sR (unB (sL (sR (unL (unB (sR (sL (sR (sR (fb22r)))))))))))))))))
theorem sk22rJ : codeSafe Try.prog 70 k22rJ = true := by kernel_rfl
noncomputable def k22rK : Code := sR (sR (sR (sR (sR (unB (sL (sR (unL (unB (sR (sL (sR (sR (fb22r))))))))))))))
theorem sk22rK : codeSafe Try.prog 70 k22rK = true := by kernel_rfl
noncomputable def k22rI : Code := sR (sR (unL (unB (sR (sL (sR (sR (fb22r))))))))
theorem sk22rI : codeSafe Try.prog 70 k22rI = true := by kernel_rfl
noncomputable def k22rz : Code := sR (sR (sR (fb22r)))
theorem sk22rz : codeSafe Try.prog 70 k22rz = true := by kernel_rfl
noncomputable abbrev code22r : Code := .seq k22ra (.seq k22rb (.seq (.seq k22rc (.block 0 (.loop (.seq k22rM (.seq (.block 1 (.seq k22rX (.seq k22rD (.seq k22rE (.seq k22rF (.seq (.seq k22rH (.block 2 (.loop k22rJ))) k22rK)))))) k22rI))))) k22rz))
theorem body22r : Try.f22.body = some code22r := by kernel_rfl
theorem lrA_0 (f fu fm b : Bool) (o : Blk) (us ms zs zt : List Lev) (n c u m i k : Nat) (x : ViewV) (y z : Lev) (g : Nat → Value) : (execN Try.prog (aCall Try.prog E22r 60) (callN Try.prog E22r 60) 60 k22ra ⟨tmsOf [vS f 0 n c] 0 .leaf, heapOf [o, .dead] hp0, []⟩ (acc0 [])).map (fun y => (look2 1 [0] [0] (y.1, y.2.1), y.2.2.q, y.2.2.r, y.2.2.x)) =
    some ((.normal, [o], [(0, vS f 0 n c)], true), [], [], []) := by cases f <;> kernel_rfl
theorem lrAn_0 (f fu fm b : Bool) (o : Blk) (us ms zs zt : List Lev) (n c u m i k : Nat) (x : ViewV) (y z : Lev) (g : Nat → Value) : (execN Try.prog (aCall Try.prog E22r 60) (callN Try.prog E22r 60) 60 k22ra ⟨tmsOf [nilS] 0 .leaf, heapOf [.dead] hp0, []⟩ (acc0 [])).map (fun y => (look2 1 [0] [0] (y.1, y.2.1), y.2.2.q, y.2.2.r, y.2.2.x)) =
    some ((.normal, [.dead], [(0, nilS)], true), [], [], []) := by kernel_rfl
theorem lrB_0 (f fu fm b : Bool) (o : Blk) (us ms zs zt : List Lev) (n c u m i k : Nat) (x : ViewV) (y z : Lev) (g : Nat → Value) : (execN Try.prog (aCall Try.prog E22r 60) (callN Try.prog E22r 60) 60 k22rb (stOf 70 g [(0, vS f 0 n c)] [o]) (acc0 [])).map (fun y => (look2 1 [0, 1] [0, 3] (y.1, y.2.1), y.2.2.q, y.2.2.r, y.2.2.x)) =
    some ((.normal, [o, .dead], [(0, vS f 0 n c), (3, nilS)], true), [], [], []) := by cases f <;> kernel_rfl
theorem lrC_0 (f fu fm b : Bool) (o : Blk) (us ms zs zt : List Lev) (n c u m i k : Nat) (x : ViewV) (y z : Lev) (g : Nat → Value) : (execN Try.prog (aCall Try.prog E22r 60) (callN Try.prog E22r 60) 60 k22rc (stOf 70 g [(0, vS f 0 n c), (3, nilS)] [o, (ownL us)]) (acc0 [])).map (fun y => (look2 2 [0, 1] [0, 3, 4] (y.1, y.2.1), y.2.2.q, y.2.2.r, y.2.2.x)) =
    some ((.normal, [o, (ownL us)], [(0, vS f 0 n c), (3, nilS), (4, iN 0)], true), [], [], []) := by cases f <;> kernel_rfl
theorem lrMx_0 (f fu fm b : Bool) (o : Blk) (us ms zs zt : List Lev) (n c u m i k : Nat) (x : ViewV) (y z : Lev) (g : Nat → Value) : (execN Try.prog (aCall Try.prog E22r 60) (callN Try.prog E22r 60) 60 k22rM (stOf 70 g [(0, vS f 0 n c), (3, vLv fu 1 u), (4, iN i)] [o, (ownL us)]) (acc0 [(3, .v (.bool false))])).map (fun y => (look2 1 [1] [3] (y.1, y.2.1), y.2.2.q, y.2.2.r, y.2.2.x)) =
    some ((.exit 0, [(ownL us)], [(3, vLv fu 0 u)], true), [(some (.bool (decide ((Int.ofNat i) < (Int.ofNat (kk f n))))), .bool false)], [], []) := by cases f <;> cases fu <;> kernel_rfl
theorem lrM_0 (f fu fm b : Bool) (o : Blk) (us ms zs zt : List Lev) (n c u m i k : Nat) (x : ViewV) (y z : Lev) (g : Nat → Value) : (execN Try.prog (aCall Try.prog E22r 60) (callN Try.prog E22r 60) 60 k22rM (stOf 70 g [(0, vS true 0 n c), (3, vLv fu 1 u), (4, iN i)] [o, (ownL us)]) (acc0 [(3, .v (.bool true))])).map (fun y => (look2 2 [0, 1] [0, 3, 4] (y.1, y.2.1), y.2.2.q, y.2.2.r, y.2.2.x)) =
    some ((.normal, [o, (ownL us)], [(0, vS true 0 n c), (3, vLv fu 1 u), (4, iN i)], true), [(some (.bool (decide ((Int.ofNat i) < (Int.ofNat (kk true n))))), .bool true)], [], []) := by cases fu <;> kernel_rfl
theorem lrX_0 (f fu fm b : Bool) (o : Blk) (us ms zs zt : List Lev) (n c u m i k : Nat) (x : ViewV) (y z : Lev) (g : Nat → Value) : (execN Try.prog (aCall Try.prog E22r 60) (callN Try.prog E22r 60) 60 k22rX (stOf 70 g [(0, vS true 0 n c), (3, vLv fu 1 u), (4, iN i)] [o, (ownL us)]) (acc0 [(6, .v (.bool true)), (4, .v (hcA x)), (2, .v (pb 0 (i * 7)))])).map (fun y => (look2 2 [0, 1] [0, 3, 4] (y.1, y.2.1), y.2.2.q, y.2.2.r, y.2.2.x)) =
    some ((.exit 1, [o, (ownL us)], [(0, vS true 0 n c), (3, vLv fu 1 u), (4, iN i)], true), [(some (.bool (!(toldV x))), .bool true), (aLoad Try.prog (heapOf [o, (ownL us), .dead] hp0).get 24 (pb 0 ((i * 7) + 1)), hcA x), (fstV ((aIndexAddr Try.prog 22 (vS true 0 n c) (iN i)).map fun v => (v, none)), pb 0 (i * 7))], [], []) := by cases fu <;> kernel_rfl
theorem lrX_1 (f fu fm b : Bool) (o : Blk) (us ms zs zt : List Lev) (n c u m i k : Nat) (x : ViewV) (y z : Lev) (g : Nat → Value) : (execN Try.prog (aCall Try.prog E22r 60) (callN Try.prog E22r 60) 60 k22rX (stOf 70 g [(0, vS true 0 n c), (3, vLv fu 1 u), (4, iN i)] [o, (ownL us)]) (acc0 [(6, .v (.bool false)), (4, .v (hcA x)), (2, .v (pb 0 (i * 7)))])).map (fun y => (look2 2 [0, 1] [0, 3, 4] (y.1, y.2.1), y.2.2.q, y.2.2.r, y.2.2.x)) =
    some ((.normal, [o, (ownL us)], [(0, vS true 0 n c), (3, vLv fu 1 u), (4, iN i)], true), [(some (.bool (!(toldV x))), .bool false), (aLoad Try.prog (heapOf [o, (ownL us), .dead] hp0).get 24 (pb 0 ((i * 7) + 1)), hcA x), (fstV ((aIndexAddr Try.prog 22 (vS true 0 n c) (iN i)).map fun v => (v, none)), pb 0 (i * 7))], [], []) := by cases fu <;> kernel_rfl
theorem lrD_0 (f fu fm b : Bool) (o : Blk) (us ms zs zt : List Lev) (n c u m i k : Nat) (x : ViewV) (y z : Lev) (g : Nat → Value) : (execN Try.prog (aCall Try.prog E22r 60) (callN Try.prog E22r 60) 60 k22rD (stOf 70 g [(0, vS true 0 n c), (3, vLv fu 1 u), (4, iN i)] [o, (ownL us)]) (acc0 [(4, .v (hcA x)), (2, .v (pb 0 (i * 7)))])).map (fun y => (look2 2 [0, 1, 3] [0, 3, 4, 5] (y.1, y.2.1), y.2.2.q, y.2.2.r, y.2.2.x)) =
    some ((.normal, [o, (ownL us), .cells 42 [.int .i64 ((lvV x).1), .int .i64 ((lvV x).2.1), .int .i64 ((lvV x).2.2)] false], [(0, vS true 0 n c), (3, vLv fu 1 u), (4, iN i), (5, pb 2 0)], true), [(aLoad Try.prog (heapOf [o, (ownL us), .dead] hp0).get 24 (pb 0 ((i * 7) + 1)), hcA x), (fstV ((aIndexAddr Try.prog 22 (vS true 0 n c) (iN i)).map fun v => (v, none)), pb 0 (i * 7))], [], []) := by cases fu <;> kernel_rfl
theorem lrE_0 (f fu fm b : Bool) (o : Blk) (us ms zs zt : List Lev) (n c u m i k : Nat) (x : ViewV) (y z : Lev) (g : Nat → Value) : (execN Try.prog (aCall Try.prog E22r 60) (callN Try.prog E22r 60) 60 k22rE (stOf 70 g [(0, vS true 0 n c), (3, vLv fu 1 u), (4, iN i), (5, pb 2 0)] [o, (ownL us), (lbx y)]) (acc0 [])).map (fun y => (look2 3 [0, 1, 2, 3] [0, 3, 4, 5, 6] (y.1, y.2.1), y.2.2.q, y.2.2.r, y.2.2.x)) =
    some ((.normal, [o, (ownL us), (lbx y), .dead], [(0, vS true 0 n c), (3, vLv fu 1 u), (4, iN i), (5, pb 2 0), (6, nilS)], true), [], [], []) := by cases fu <;> kernel_rfl
theorem lrF_0 (f fu fm b : Bool) (o : Blk) (us ms zs zt : List Lev) (n c u m i k : Nat) (x : ViewV) (y z : Lev) (g : Nat → Value) : (execN Try.prog (aCall Try.prog E22r 60) (callN Try.prog E22r 60) 60 k22rF (stOf 70 g [(0, vS true 0 n c), (3, vLv fu 1 u), (4, iN i), (5, pb 2 0), (6, nilS)] [o, (ownL us), (lbx y), (ownL ms)]) (acc0 [])).map (fun y => (look2 4 [0, 1, 2, 3] [0, 3, 4, 5, 6, 7] (y.1, y.2.1), y.2.2.q, y.2.2.r, y.2.2.x)) =
    some ((.normal, [o, (ownL us), (lbx y), (ownL ms)], [(0, vS true 0 n c), (3, vLv fu 1 u), (4, iN i), (5, pb 2 0), (6, nilS), (7, .bool false)], true), [], [], []) := by cases fu <;> kernel_rfl
theorem lrH_0 (f fu fm b : Bool) (o : Blk) (us ms zs zt : List Lev) (n c u m i k : Nat) (x : ViewV) (y z : Lev) (g : Nat → Value) : (execN Try.prog (aCall Try.prog E22r 60) (callN Try.prog E22r 60) 60 k22rH (stOf 70 g [(0, vS true 0 n c), (3, vLv fu 1 u), (4, iN i), (5, pb 2 0), (6, nilS), (7, .bool false)] [o, (ownL us), (lbx y), (ownL ms)]) (acc0 [])).map (fun y => (look2 4 [0, 1, 2, 3] [0, 3, 4, 5, 6, 7, 8] (y.1, y.2.1), y.2.2.q, y.2.2.r, y.2.2.x)) =
    some ((.normal, [o, (ownL us), (lbx y), (ownL ms)], [(0, vS true 0 n c), (3, vLv fu 1 u), (4, iN i), (5, pb 2 0), (6, nilS), (7, .bool false), (8, iN 0)], true), [], [], []) := by cases fu <;> kernel_rfl
theorem lrJx_0 (f fu fm b : Bool) (o : Blk) (us ms zs zt : List Lev) (n c u m i k : Nat) (x : ViewV) (y z : Lev) (g : Nat → Value) : (execN Try.prog (aCall Try.prog E22r 60) (callN Try.prog E22r 60) 60 k22rJ (stOf 70 g [(0, vS true 0 n c), (3, vLv fu 1 u), (4, iN i), (5, pb 2 0), (6, vLv fm 3 m), (7, .bool b), (8, iN k)] [o, (ownL us), (lbx y), (ownL ms)]) (acc0 [(3, .v (.bool false))])).map (fun y => (look2 4 [0, 1, 2, 3] [0, 3, 4, 5, 6, 7] (y.1, y.2.1), y.2.2.q, y.2.2.r, y.2.2.x)) =
    some ((.exit 2, [o, (ownL us), (lbx y), (ownL ms)], [(0, vS true 0 n c), (3, vLv fu 1 u), (4, iN i), (5, pb 2 0), (6, vLv fm 3 m), (7, .bool b)], true), [(some (.bool (decide ((Int.ofNat k) < (Int.ofNat (kk fu u))))), .bool false)], [], []) := by cases fu <;> cases fm <;> kernel_rfl
theorem lrJf_0 (f fu fm b : Bool) (o : Blk) (us ms zs zt : List Lev) (n c u m i k : Nat) (x : ViewV) (y z : Lev) (g : Nat → Value) : (execN Try.prog (aCall Try.prog E22r 60) (callN Try.prog E22r 60) 60 k22rJ (stOf 70 g [(0, vS true 0 n c), (3, vLv true 1 u), (4, iN i), (5, pb 2 0), (6, vLv fm 3 m), (7, .bool false), (8, iN k)] [o, (ownL us), (lbx y), (ownL ms)]) (acc0 [(36, .v (iN (k + 1))), (33, .e (.slice (some ⟨8, 0, none⟩) ((m + 1) + 1) 10) (effF true 6 (lB zt))), (31, .v (lA z)), (30, .v (pb 1 (k * 3))), (26, .v (.bool true)), (25, .v (lA y)), (24, .v (lA z)), (23, .v (pb 1 (k * 3))), (18, .e (.slice (some ⟨6, 0, none⟩) (m + 1) 10) (effF fm 3 (lB zs))), (16, .v (lA y)), (13, .v (.bool true)), (11, .v (lA z)), (10, .v (pb 1 (k * 3))), (7, .v (lA y)), (3, .v (.bool true))])).map (fun y => (look2 4 [0, 1, 2, 8] [0, 3, 4, 5, 6, 7, 8] (y.1, y.2.1), y.2.2.q, y.2.2.r, y.2.2.x)) =
    some ((.normal, [o, (ownL us), (lbx y), (lB zt)], [(0, vS true 0 n c), (3, vLv true 1 u), (4, iN i), (5, pb 2 0), (6, .slice (some ⟨3, 0, none⟩) ((m + 1) + 1) 10), (7, .bool true), (8, iN (k + 1))], true), [(some (.int .i64 (wrapF .i64 (Int.ofNat k + Int.ofNat 1))), iN (k + 1)), (aLoad Try.prog (heapOf [o, (ownL us), (lbx y), .dead, .dead, .cells 42 [.int .i64 y.1, .int .i64 y.2.1, .int .i64 y.2.2] false, (lB zs)] hp0).get 42 (pb 1 (k * 3)), lA z), (fstV ((aIndexAddr Try.prog 34 (vLv true 1 u) (iN k)).map fun v => (v, none)), pb 1 (k * 3)), (fstV ((aBin Try.prog .neq 42 (lA z) (lA y)).map fun v => (v, none)), .bool true), (aLoad Try.prog (heapOf [o, (ownL us), (lbx y), .dead, .dead, .cells 42 [.int .i64 y.1, .int .i64 y.2.1, .int .i64 y.2.2] false, (lB zs)] hp0).get 42 (pb 2 0), lA y), (aLoad Try.prog (heapOf [o, (ownL us), (lbx y), .dead, .dead, .cells 42 [.int .i64 y.1, .int .i64 y.2.1, .int .i64 y.2.2] false, (lB zs)] hp0).get 42 (pb 1 (k * 3)), lA z), (fstV ((aIndexAddr Try.prog 34 (vLv true 1 u) (iN k)).map fun v => (v, none)), pb 1 (k * 3)), (aLoad Try.prog (heapOf [o, (ownL us), (lbx y), (ownL ms), .dead] hp0).get 42 (pb 2 0), lA y), (some (.bool (decide ((ordL y z) ≤ (Int.ofNat 0)))), .bool true), (aLoad Try.prog (heapOf [o, (ownL us), (lbx y), (ownL ms), .dead] hp0).get 42 (pb 1 (k * 3)), lA z), (fstV ((aIndexAddr Try.prog 34 (vLv true 1 u) (iN k)).map fun v => (v, none)), pb 1 (k * 3)), (aLoad Try.prog (heapOf [o, (ownL us), (lbx y), (ownL ms), .dead] hp0).get 42 (pb 2 0), lA y), (some (.bool (decide ((Int.ofNat k) < (Int.ofNat (kk true u))))), .bool true)], [], [(aAppend Try.prog (heapOf [o, (ownL us), (lbx y), .dead, .dead, .cells 42 [.int .i64 y.1, .int .i64 y.2.1, .int .i64 y.2.2] false, (lB zs), .cells 42 [.int .i64 z.1, .int .i64 z.2.1, .int .i64 z.2.2] false] hp0).get 8 [34, 34] [.slice (some ⟨6, 0, none⟩) (m + 1) 10, .slice (some ⟨7, 0, none⟩) 1 10], (.slice (some ⟨8, 0, none⟩) ((m + 1) + 1) 10, (effF true 6 (lB zt)))), (aAppend Try.prog (heapOf [o, (ownL us), (lbx y), (ownL ms), .dead, .cells 42 [.int .i64 y.1, .int .i64 y.2.1, .int .i64 y.2.2] false] hp0).get 6 [34, 34] [vLv fm 3 m, .slice (some ⟨5, 0, none⟩) 1 10], (.slice (some ⟨6, 0, none⟩) (m + 1) 10, (effF fm 3 (lB zs))))]) := by cases fm <;> kernel_rfl
theorem lrJf_1 (f fu fm b : Bool) (o : Blk) (us ms zs zt : List Lev) (n c u m i k : Nat) (x : ViewV) (y z : Lev) (g : Nat → Value) : (execN Try.prog (aCall Try.prog E22r 60) (callN Try.prog E22r 60) 60 k22rJ (stOf 70 g [(0, vS true 0 n c), (3, vLv true 1 u), (4, iN i), (5, pb 2 0), (6, vLv fm 3 m), (7, .bool false), (8, iN k)] [o, (ownL us), (lbx y), (ownL ms)]) (acc0 [(28, .v (iN (k + 1))), (26, .v (.bool false)), (25, .v (lA y)), (24, .v (lA z)), (23, .v (pb 1 (k * 3))), (18, .e (.slice (some ⟨6, 0, none⟩) (m + 1) 10) (effF fm 3 (lB zs))), (16, .v (lA y)), (13, .v (.bool true)), (11, .v (lA z)), (10, .v (pb 1 (k * 3))), (7, .v (lA y)), (3, .v (.bool true))])).map (fun y => (look2 4 [0, 1, 2, 6] [0, 3, 4, 5, 6, 7, 8] (y.1, y.2.1), y.2.2.q, y.2.2.r, y.2.2.x)) =
    some ((.normal, [o, (ownL us), (lbx y), (lB zs)], [(0, vS true 0 n c), (3, vLv true 1 u), (4, iN i), (5, pb 2 0), (6, .slice (some ⟨3, 0, none⟩) (m + 1) 10), (7, .bool true), (8, iN (k + 1))], true), [(some (.int .i64 (wrapF .i64 (Int.ofNat k + Int.ofNat 1))), iN (k + 1)), (fstV ((aBin Try.prog .neq 42 (lA z) (lA y)).map fun v => (v, none)), .bool false), (aLoad Try.prog (heapOf [o, (ownL us), (lbx y), .dead, .dead, .cells 42 [.int .i64 y.1, .int .i64 y.2.1, .int .i64 y.2.2] false, (lB zs)] hp0).get 42 (pb 2 0), lA y), (aLoad Try.prog (heapOf [o, (ownL us), (lbx y), .dead, .dead, .cells 42 [.int .i64 y.1, .int .i64 y.2.1, .int .i64 y.2.2] false, (lB zs)] hp0).get 42 (pb 1 (k * 3)), lA z), (fstV ((aIndexAddr Try.prog 34 (vLv true 1 u) (iN k)).map fun v => (v, none)), pb 1 (k * 3)), (aLoad Try.prog (heapOf [o, (ownL us), (lbx y), (ownL ms), .dead] hp0).get 42 (pb 2 0), lA y), (some (.bool (decide ((ordL y z) ≤ (Int.ofNat 0)))), .bool true), (aLoad Try.prog (heapOf [o, (ownL us), (lbx y), (ownL ms), .dead] hp0).get 42 (pb 1 (k * 3)), lA z), (fstV ((aIndexAddr Try.prog 34 (vLv true 1 u) (iN k)).map fun v => (v, none)), pb 1 (k * 3)), (aLoad Try.prog (heapOf [o, (ownL us), (lbx y), (ownL ms), .dead] hp0).get 42 (pb 2 0), lA y), (some (.bool (decide ((Int.ofNat k) < (Int.ofNat (kk true u))))), .bool true)], [], [(aAppend Try.prog (heapOf [o, (ownL us), (lbx y), (ownL ms), .dead, .cells 42 [.int .i64 y.1, .int .i64 y.2.1, .int .i64 y.2.2] false] hp0).get 6 [34, 34] [vLv fm 3 m, .slice (some ⟨5, 0, none⟩) 1 10], (.slice (some ⟨6, 0, none⟩) (m + 1) 10, (effF fm 3 (lB zs))))]) := by cases fm <;> kernel_rfl
theorem lrJf_2 (f fu fm b : Bool) (o : Blk) (us ms zs zt : List Lev) (n c u m i k : Nat) (x : ViewV) (y z : Lev) (g : Nat → Value) : (execN Try.prog (aCall Try.prog E22r 60) (callN Try.prog E22r 60) 60 k22rJ (stOf 70 g [(0, vS true 0 n c), (3, vLv true 1 u), (4, iN i), (5, pb 2 0), (6, vLv fm 3 m), (7, .bool false), (8, iN k)] [o, (ownL us), (lbx y), (ownL ms)]) (acc0 [(30, .v (iN (k + 1))), (27, .e (.slice (some ⟨6, 0, none⟩) (m + 1) 10) (effF fm 3 (lB zs))), (25, .v (lA z)), (24, .v (pb 1 (k * 3))), (20, .v (.bool true)), (19, .v (lA y)), (18, .v (lA z)), (17, .v (pb 1 (k * 3))), (13, .v (.bool false)), (11, .v (lA z)), (10, .v (pb 1 (k * 3))), (7, .v (lA y)), (3, .v (.bool true))])).map (fun y => (look2 4 [0, 1, 2, 6] [0, 3, 4, 5, 6, 7, 8] (y.1, y.2.1), y.2.2.q, y.2.2.r, y.2.2.x)) =
    some ((.normal, [o, (ownL us), (lbx y), (lB zs)], [(0, vS true 0 n c), (3, vLv true 1 u), (4, iN i), (5, pb 2 0), (6, .slice (some ⟨3, 0, none⟩) (m + 1) 10), (7, .bool false), (8, iN (k + 1))], true), [(some (.int .i64 (wrapF .i64 (Int.ofNat k + Int.ofNat 1))), iN (k + 1)), (aLoad Try.prog (heapOf [o, (ownL us), (lbx y), (ownL ms), .dead] hp0).get 42 (pb 1 (k * 3)), lA z), (fstV ((aIndexAddr Try.prog 34 (vLv true 1 u) (iN k)).map fun v => (v, none)), pb 1 (k * 3)), (fstV ((aBin Try.prog .neq 42 (lA z) (lA y)).map fun v => (v, none)), .bool true), (aLoad Try.prog (heapOf [o, (ownL us), (lbx y), (ownL ms), .dead] hp0).get 42 (pb 2 0), lA y), (aLoad Try.prog (heapOf [o, (ownL us), (lbx y), (ownL ms), .dead] hp0).get 42 (pb 1 (k * 3)), lA z), (fstV ((aIndexAddr Try.prog 34 (vLv true 1 u) (iN k)).map fun v => (v, none)), pb 1 (k * 3)), (some (.bool (decide ((ordL y z) ≤ (Int.ofNat 0)))), .bool false), (aLoad Try.prog (heapOf [o, (ownL us), (lbx y), (ownL ms), .dead] hp0).get 42 (pb 1 (k * 3)), lA z), (fstV ((aIndexAddr Try.prog 34 (vLv true 1 u) (iN k)).map fun v => (v, none)), pb 1 (k * 3)), (aLoad Try.prog (heapOf [o, (ownL us), (lbx y), (ownL ms), .dead] hp0).get 42 (pb 2 0), lA y), (some (.bool (decide ((Int.ofNat k) < (Int.ofNat (kk true u))))), .bool true)], [], [(aAppend Try.prog (heapOf [o, (ownL us), (lbx y), (ownL ms), .dead, .cells 42 [.int .i64 z.1, .int .i64 z.2.1, .int .i64 z.2.2] false] hp0).get 6 [34, 34] [vLv fm 3 m, .slice (some ⟨5, 0, none⟩) 1 10], (.slice (some ⟨6, 0, none⟩) (m + 1) 10, (effF fm 3 (lB zs))))]) := by cases fm <;> kernel_rfl
theorem lrJf_3 (f fu fm b : Bool) (o : Blk) (us ms zs zt : List Lev) (n c u m i k : Nat) (x : ViewV) (y z : Lev) (g : Nat → Value) : (execN Try.prog (aCall Try.prog E22r 60) (callN Try.prog E22r 60) 60 k22rJ (stOf 70 g [(0, vS true 0 n c), (3, vLv true 1 u), (4, iN i), (5, pb 2 0), (6, vLv fm 3 m), (7, .bool false), (8, iN k)] [o, (ownL us), (lbx y), (ownL ms)]) (acc0 [(22, .v (iN (k + 1))), (20, .v (.bool false)), (19, .v (lA y)), (18, .v (lA z)), (17, .v (pb 1 (k * 3))), (13, .v (.bool false)), (11, .v (lA z)), (10, .v (pb 1 (k * 3))), (7, .v (lA y)), (3, .v (.bool true))])).map (fun y => (look2 4 [0, 1, 2, 3] [0, 3, 4, 5, 6, 7, 8] (y.1, y.2.1), y.2.2.q, y.2.2.r, y.2.2.x)) =
    some ((.normal, [o, (ownL us), (lbx y), (ownL ms)], [(0, vS true 0 n c), (3, vLv true 1 u), (4, iN i), (5, pb 2 0), (6, vLv fm 3 m), (7, .bool false), (8, iN (k + 1))], true), [(some (.int .i64 (wrapF .i64 (Int.ofNat k + Int.ofNat 1))), iN (k + 1)), (fstV ((aBin Try.prog .neq 42 (lA z) (lA y)).map fun v => (v, none)), .bool false), (aLoad Try.prog (heapOf [o, (ownL us), (lbx y), (ownL ms), .dead] hp0).get 42 (pb 2 0), lA y), (aLoad Try.prog (heapOf [o, (ownL us), (lbx y), (ownL ms), .dead] hp0).get 42 (pb 1 (k * 3)), lA z), (fstV ((aIndexAddr Try.prog 34 (vLv true 1 u) (iN k)).map fun v => (v, none)), pb 1 (k * 3)), (some (.bool (decide ((ordL y z) ≤ (Int.ofNat 0)))), .bool false), (aLoad Try.prog (heapOf [o, (ownL us), (lbx y), (ownL ms), .dead] hp0).get 42 (pb 1 (k * 3)), lA z), (fstV ((aIndexAddr Try.prog 34 (vLv true 1 u) (iN k)).map fun v => (v, none)), pb 1 (k * 3)), (aLoad Try.prog (heapOf [o, (ownL us), (lbx y), (ownL ms), .dead] hp0).get 42 (pb 2 0), lA y), (some (.bool (decide ((Int.ofNat k) < (Int.ofNat (kk true u))))), .bool true)], [], []) := by cases fm <;> kernel_rfl
theorem lrJt_0 (f fu fm b : Bool) (o : Blk) (us ms zs zt : List Lev) (n c u m i k : Nat) (x : ViewV) (y z : Lev) (g : Nat → Value) : (execN Try.prog (aCall Try.prog E22r 60) (callN Try.prog E22r 60) 60 k22rJ (stOf 70 g [(0, vS true 0 n c), (3, vLv true 1 u), (4, iN i), (5, pb 2 0), (6, vLv fm 3 m), (7, .bool true), (8, iN k)] [o, (ownL us), (lbx y), (ownL ms)]) (acc0 [(23, .v (iN (k + 1))), (20, .e (.slice (some ⟨6, 0, none⟩) (m + 1) 10) (effF fm 3 (lB zs))), (18, .v (lA z)), (17, .v (pb 1 (k * 3))), (13, .v (.bool true)), (12, .v (lA y)), (11, .v (lA z)), (10, .v (pb 1 (k * 3))), (3, .v (.bool true))])).map (fun y => (look2 4 [0, 1, 2, 6] [0, 3, 4, 5, 6, 7, 8] (y.1, y.2.1), y.2.2.q, y.2.2.r, y.2.2.x)) =
    some ((.normal, [o, (ownL us), (lbx y), (lB zs)], [(0, vS true 0 n c), (3, vLv true 1 u), (4, iN i), (5, pb 2 0), (6, .slice (some ⟨3, 0, none⟩) (m + 1) 10), (7, .bool true), (8, iN (k + 1))], true), [(some (.int .i64 (wrapF .i64 (Int.ofNat k + Int.ofNat 1))), iN (k + 1)), (aLoad Try.prog (heapOf [o, (ownL us), (lbx y), (ownL ms), .dead] hp0).get 42 (pb 1 (k * 3)), lA z), (fstV ((aIndexAddr Try.prog 34 (vLv true 1 u) (iN k)).map fun v => (v, none)), pb 1 (k * 3)), (fstV ((aBin Try.prog .neq 42 (lA z) (lA y)).map fun v => (v, none)), .bool true), (aLoad Try.prog (heapOf [o, (ownL us), (lbx y), (ownL ms), .dead] hp0).get 42 (pb 2 0), lA y), (aLoad Try.prog (heapOf [o, (ownL us), (lbx y), (ownL ms), .dead] hp0).get 42 (pb 1 (k * 3)), lA z), (fstV ((aIndexAddr Try.prog 34 (vLv true 1 u) (iN k)).map fun v => (v, none)), pb 1 (k * 3)), (some (.bool (decide ((Int.ofNat k) < (Int.ofNat (kk true u))))), .bool true)], [], [(aAppend Try.prog (heapOf [o, (ownL us), (lbx y), (ownL ms), .dead, .cells 42 [.int .i64 z.1, .int .i64 z.2.1, .int .i64 z.2.2] false] hp0).get 6 [34, 34] [vLv fm 3 m, .slice (some ⟨5, 0, none⟩) 1 10], (.slice (some ⟨6, 0, none⟩) (m + 1) 10, (effF fm 3 (lB zs))))]) := by cases fm <;> kernel_rfl
theorem lrJt_1 (f fu fm b : Bool) (o : Blk) (us ms zs zt : List Lev) (n c u m i k : Nat) (x : ViewV) (y z : Lev) (g : Nat → Value) : (execN Try.prog (aCall Try.prog E22r 60) (callN Try.prog E22r 60) 60 k22rJ (stOf 70 g [(0, vS true 0 n c), (3, vLv true 1 u), (4, iN i), (5, pb 2 0), (6, vLv fm 3 m), (7, .bool true), (8, iN k)] [o, (ownL us), (lbx y), (ownL ms)]) (acc0 [(15, .v (iN (k + 1))), (13, .v (.bool false)), (12, .v (lA y)), (11, .v (lA z)), (10, .v (pb 1 (k * 3))), (3, .v (.bool true))])).map (fun y => (look2 4 [0, 1, 2, 3] [0, 3, 4, 5, 6, 7, 8] (y.1, y.2.1), y.2.2.q, y.2.2.r, y.2.2.x)) =
    some ((.normal, [o, (ownL us), (lbx y), (ownL ms)], [(0, vS true 0 n c), (3, vLv true 1 u), (4, iN i), (5, pb 2 0), (6, vLv fm 3 m), (7, .bool true), (8, iN (k + 1))], true), [(some (.int .i64 (wrapF .i64 (Int.ofNat k + Int.ofNat 1))), iN (k + 1)), (fstV ((aBin Try.prog .neq 42 (lA z) (lA y)).map fun v => (v, none)), .bool false), (aLoad Try.prog (heapOf [o, (ownL us), (lbx y), (ownL ms), .dead] hp0).get 42 (pb 2 0), lA y), (aLoad Try.prog (heapOf [o, (ownL us), (lbx y), (ownL ms), .dead] hp0).get 42 (pb 1 (k * 3)), lA z), (fstV ((aIndexAddr Try.prog 34 (vLv true 1 u) (iN k)).map fun v => (v, none)), pb 1 (k * 3)), (some (.bool (decide ((Int.ofNat k) < (Int.ofNat (kk true u))))), .bool true)], [], []) := by cases fm <;> kernel_rfl
theorem lrKf_0 (f fu fm b : Bool) (o : Blk) (us ms zs zt : List Lev) (n c u m i k : Nat) (x : ViewV) (y z : Lev) (g : Nat → Value) : (execN Try.prog (aCall Try.prog E22r 60) (callN Try.prog E22r 60) 60 k22rK (stOf 70 g [(0, vS true 0 n c), (3, vLv fu 1 u), (4, iN i), (5, pb 2 0), (6, vLv fm 3 m), (7, .bool false)] [o, (ownL us), (lbx y), (ownL ms)]) (acc0 [(5, .e (.slice (some ⟨6, 0, none⟩) (m + 1) 10) (effF fm 3 (lB zs))), (3, .v (lA y))])).map (fun y => (look2 2 [0, 6] [0, 3, 4] (y.1, y.2.1), y.2.2.q, y.2.2.r, y.2.2.x)) =
    some ((.normal, [o, (lB zs)], [(0, vS true 0 n c), (3, .slice (some ⟨1, 0, none⟩) (m + 1) 10), (4, iN i)], true), [(aLoad Try.prog (heapOf [o, (ownL us), (lbx y), (ownL ms), .dead] hp0).get 42 (pb 2 0), lA y)], [], [(aAppend Try.prog (heapOf [o, (ownL us), (lbx y), (ownL ms), .dead, .cells 42 [.int .i64 y.1, .int .i64 y.2.1, .int .i64 y.2.2] false] hp0).get 6 [34, 34] [vLv fm 3 m, .slice (some ⟨5, 0, none⟩) 1 10], (.slice (some ⟨6, 0, none⟩) (m + 1) 10, (effF fm 3 (lB zs))))]) := by cases fu <;> cases fm <;> kernel_rfl
theorem lrKt_0 (f fu fm b : Bool) (o : Blk) (us ms zs zt : List Lev) (n c u m i k : Nat) (x : ViewV) (y z : Lev) (g : Nat → Value) : (execN Try.prog (aCall Try.prog E22r 60) (callN Try.prog E22r 60) 60 k22rK (stOf 70 g [(0, vS true 0 n c), (3, vLv fu 1 u), (4, iN i), (5, pb 2 0), (6, vLv fm 3 m), (7, .bool true)] [o, (ownL us), (lbx y), (ownL ms)]) (acc0 [])).map (fun y => (look2 2 [0, 3] [0, 3, 4] (y.1, y.2.1), y.2.2.q, y.2.2.r, y.2.2.x)) =
    some ((.normal, [o, (ownL ms)], [(0, vS true 0 n c), (3, vLv fm 1 m), (4, iN i)], true), [], [], []) := by cases fu <;> cases fm <;> kernel_rfl
theorem lrI_0 (f fu fm b : Bool) (o : Blk) (us ms zs zt : List Lev) (n c u m i k : Nat) (x : ViewV) (y z : Lev) (g : Nat → Value) : (execN Try.prog (aCall Try.prog E22r 60) (callN Try.prog E22r 60) 60 k22rI (stOf 70 g [(0, vS true 0 n c), (3, vLv fu 1 u), (4, iN i)] [o, (ownL us)]) (acc0 [(1, .v (iN (i + 1)))])).map (fun y => (look2 2 [0, 1] [0, 3, 4] (y.1, y.2.1), y.2.2.q, y.2.2.r, y.2.2.x)) =
    some ((.normal, [o, (ownL us)], [(0, vS true 0 n c), (3, vLv fu 1 u), (4, iN (i + 1))], true), [(some (.int .i64 (wrapF .i64 (Int.ofNat i + Int.ofNat 1))), iN (i + 1))], [], []) := by cases fu <;> kernel_rfl
theorem lrZ_0 (f fu fm b : Bool) (o : Blk) (us ms zs zt : List Lev) (n c u m i k : Nat) (x : ViewV) (y z : Lev) (g : Nat → Value) : (execN Try.prog (aCall Try.prog E22r 60) (callN Try.prog E22r 60) 60 k22rz (stOf 70 g [(3, vLv fu 0 u)] [(ownL us)]) (acc0 [])).map (fun y => (look2 1 [0] [2] (y.1, y.2.1), y.2.2.q, y.2.2.r, y.2.2.x)) =
    some ((.ret, [(ownL us)], [(2, vLv fu 0 u)], true), [], [], []) := by cases fu <;> kernel_rfl
end Go.Proofs.Ytgeoommlmddgpaa.LtL
namespace Go.Proofs.Ytgeoommlmddgpaa.LtL
open Go Go.Proofs Go.Proofs.Ytgeoommlmddgpaa.AI Go.RowKit Go.Proofs.Ytgeoommlmddgpaa.Sort Go.Proofs.Ytgeoommlmddgpaa.LtA
def vD (f : Bool) (b k : Nat) : Value := bif f then .slice (some ⟨b, 0, none⟩) k 11 else nilS
noncomputable def E4 : Ext := extG (extH Try.prog [(19, g16), (26, g31), (25, g30)]) [(21, GLv), (24, G18M)]
theorem E4_ok : ExtOk Try.prog E4 := extG_ok (extH_ok (.cons hk16 (.cons hk31 (.cons hk30 .nil)))) (.cons hkLv (.cons hkG18M .nil))
theorem q4 (v : Value) (O : List Blk) (g : Nat → Value) : retVal Try.prog Try.f4 (stOf 96 g [(2, v)] O) = some v := by kernel_rfl
end Go.Proofs.Ytgeoommlmddgpaa.LtL
namespace Go.Proofs.Ytgeoommlmddgpaa.LtL
open Go Go.Proofs Go.Proofs.Ytgeoommlmddgpaa.AI Go.RowKit Go.Proofs.Ytgeoommlmddgpaa.Sort Go.Proofs.Ytgeoommlmddgpaa.LtA
theorem dedS_mem {a : List Lev} {x y : Lev} : x ∈ dedS a y ↔ x ∈ a ∨ x = y := by
  unfold dedS
  split
  · rename_i h
    exact ⟨.inl, fun q => q.elim id fun e => by subst e; exact List.mem_of_getLast? h⟩
  · simp
theorem ded_mem {l : List Lev} {x : Lev} : x ∈ ded l ↔ x ∈ l := by
  have key : ∀ (l a : List Lev), x ∈ l.foldl dedS a ↔ x ∈ a ∨ x ∈ l := by
    intro l
    induction l with
    | nil => intro a; simp
    | cons y l ih => intro a; rw [List.foldl_cons, ih, dedS_mem, List.mem_cons, or_assoc]
  have := key l []
  simpa [ded] using this
theorem sortL_mem {l : List Lev} {x : Lev} : x ∈ sortL l ↔ x ∈ l := (List.mergeSort_perm l _).mem_iff
theorem dlev_mem {l : List Lev} {x : Lev} : x ∈ dlev l ↔ x ∈ l := by
  cases l with
  | nil => exact Iff.rfl
  | cons y l => show x ∈ ded (sortL (y :: l)) ↔ _; rw [ded_mem, sortL_mem]
theorem sortL_sorted (l : List Lev) : (sortL l).Pairwise fun x y => ltL y x = false := by
  have h := List.pairwise_mergeSort (le := fun x y => !Go.Proofs.ltOf ordL y x) (fun a b c h1 h2 => by
      have h1 : ltL b a = false := by unfold ltL; simpa using h1
      have h2 : ltL c b = false := by unfold ltL; simpa using h2
      show (!ltL c a) = true
      rw [ltL_not] at h1 h2
      have : ltL c a = false := ltL_not.2 (by omega)
      rw [this]; rfl) (fun a b => by
      show (!ltL b a || !ltL a b) = true
      cases h1 : ltL b a with
      | false => rfl
      | true =>
        have h1 := ltL_iff.1 h1
        have : ltL a b = false := ltL_not.2 (by omega)
        rw [this]; rfl) l
  exact h.imp fun h => by unfold ltL; simpa using h
theorem ded_rise {l : List Lev} (h : l.Pairwise fun x y => ltL y x = false) : (ded l).Pairwise fun x y => ltL x y = true := by
  have key : ∀ (l a : List Lev), l.Pairwise (fun x y => ltL y x = false) → a.Pairwise (fun x y => ltL x y = true) → (∀ x ∈ a, ∀ y ∈ l, ltL y x = false) → (l.foldl dedS a).Pairwise fun x y => ltL x y = true := by
    intro l
    induction l with
    | nil => intro a _ h _; exact h
    | cons y l ih =>
      intro a hl ha hx
      rw [List.foldl_cons]
      obtain ⟨h1, h2⟩ := List.pairwise_cons.1 hl
      refine ih _ h2 ?_ fun x hxm z hz => ?_
      · unfold dedS
        split
        · exact ha
        · rename_i hne
          refine List.pairwise_append.2 ⟨ha, List.pairwise_singleton _ _, fun x hxa z hz => ?_⟩
          obtain rfl : z = y := by simpa using hz
          cases e : ltL x z with
          | true => rfl
          | false =>
            exfalso
            have ez : x = z := ltL_eq e (hx x hxa z (.head _))
            subst ez
            obtain ⟨b, w, rfl⟩ : ∃ b w, a = b ++ [w] := by
              rcases List.eq_nil_or_concat a with rfl | ⟨b, w, h⟩
              · cases hxa
              · exact ⟨b, w, by rw [h, List.concat_eq_append]⟩
            simp only [List.getLast?_append, List.getLast?_singleton, Option.some_or, Option.some.injEq] at hne
            have hxb : x ∈ b := by
              rcases List.mem_append.1 hxa with h | h
              · exact h
              · exact absurd (by simpa using h : x = w).symm hne
            have h3 := (List.pairwise_append.1 ha).2.2 x hxb w (by simp)
            have h4 := hx w (by simp) x (.head _)
            rw [h3] at h4; cases h4
      · rcases dedS_mem.1 hxm with h | rfl
        · exact hx x h z (.tail _ hz)
        · exact h1 z hz
  exact key l [] h List.Pairwise.nil fun x hx => by cases hx
theorem dlev_rise (l : List Lev) : (dlev l).Pairwise fun x y => ltL x y = true := by
  cases l with
  | nil => exact List.Pairwise.nil
  | cons y l => exact ded_rise (sortL_sorted _)
theorem ded_len2 (l : List Lev) : (dlev l).length ≤ l.length := by
  cases l with
  | nil => exact Nat.le_refl _
  | cons y l => have := ded_len (sortL (y :: l)); rw [sortL_len] at this; exact this
def hitB (us : List ViewV) (y : Lev) : Bool := us.any fun x => !x.n && (lvV x == y)
def mid (us : List ViewV) (x : ViewV) (ls : List Lev) (k : Nat) : List Bool := (ls.take k).map (hitB (us ++ [x])) ++ (ls.drop k).map (hitB us)
open Classical in
theorem G18M_of {vs : List ViewV} {s : Value} {hp : Hp} (h : TN vs s hp) (hn : Long vs) : G18M [s] hp = some (errI (rightB vs), heapOf [.dead] hp) := by
  unfold G18M toldQ
  have hx : ∃ vs, TN vs s hp ∧ Long vs := ⟨vs, h, hn⟩
  simp only
  rw [dif_pos hx, hx.choose_spec.1.uniq h]
  show (if TN vs s hp then _ else _) = _
  rw [if_pos h]
  show some (sh3 _ _ (errI (rightB vs)), _) = _
  cases rightB vs <;> rfl
theorem fixN {p : Nat} : ∀ i, i < p → ∀ o, ([] : List Blk)[i]? = some o → Fixed 0 o := fun i _ o h => by simp at h
theorem lloadb {hp : Hp} {b : Nat} {us : List Lev} {i : Nat} {x : Lev} (hg : hp.get b = some (ownL us)) (h : us[i]? = some x) : aLoad Try.prog hp.get 42 (pb b (i * 3)) = some (lA x) := by
  have hne : us ≠ [] := fun e => by subst e; simp at h
  rw [ownL_ne hne] at hg
  simp only [aLoad, pb, hg, lB, aggL, sizeL]
  have := flat_getR (f := lc) (k := 3) (ps := us) (fun _ _ => rfl) h
  unfold lrow
  rw [this]
  rfl
theorem rowLv_vD (ls : List Lev) (b : Nat) : rowLv ls b = vD (!ls.isEmpty) b ls.length := by cases ls <;> rfl
theorem kkL (ls : List Lev) : kk (!ls.isEmpty) ls.length = ls.length := by cases ls <;> rfl
end Go.Proofs.Ytgeoommlmddgpaa.LtL
namespace Go.Proofs.Ytgeoommlmddgpaa.LtL
open Go Go.Proofs Go.Proofs.Ytgeoommlmddgpaa.AI Go.RowKit Go.Proofs.Ytgeoommlmddgpaa.Sort Go.Proofs.Ytgeoommlmddgpaa.LtA
theorem ordL_le (v z : Lev) : decide (ordL v z ≤ Int.ofNat 0) = !ltL z v := by
  have h0 : (ordL v z ≤ 0) ↔ ¬ (z.1 < v.1 ∨ z.1 = v.1 ∧ (z.2.1 < v.2.1 ∨ z.2.1 = v.2.1 ∧ z.2.2 < v.2.2)) := by
    obtain ⟨a, b, c⟩ := v
    obtain ⟨d, e, f⟩ := z
    show ord3 a b c d e f ≤ 0 ↔ ¬ (d < a ∨ d = a ∧ (e < b ∨ e = b ∧ f < c))
    unfold ord3 or3 cmp3
    rcases Int.lt_trichotomy a d with h1 | h1 | h1
    · have q : ¬ (d < a) := by omega
      have q2 : ¬ (d = a) := by omega
      simp [h1, q, q2]
    · subst h1
      rcases Int.lt_trichotomy b e with h2 | h2 | h2
      · have q : ¬ (e < b) := by omega
        have q2 : ¬ (e = b) := by omega
        simp [h2, q, q2]
      · subst h2
        rcases Int.lt_trichotomy c f with h3 | h3 | h3
        · have q : ¬ (f < c) := by omega
          simp [h3, q]
        · subst h3; simp
        · have q : ¬ (c < f) := by omega
          simp [h3, q]
      · have q : ¬ (b < e) := by omega
        simp [h2, q]
    · have q : ¬ (a < d) := by omega
      simp [h1, q]
  cases h : ltL z v with
  | true => exact decide_eq_false (by have := ltL_iff.1 h; rw [show Int.ofNat 0 = 0 from rfl, h0]; exact fun q => q this)
  | false => exact decide_eq_true (by have := ltL_not.1 h; rw [show Int.ofNat 0 = 0 from rfl, h0]; exact this)
def insS (v : Lev) (p : Bool × List Lev) (z : Lev) : Bool × List Lev :=
  bif !p.1 && decide (ordL v z ≤ Int.ofNat 0) then (bif !(z == v) then (true, p.2 ++ [v] ++ [z]) else (true, p.2 ++ [v])) else (bif !(z == v) then (p.1, p.2 ++ [z]) else p)
def insE (v : Lev) (p : Bool × List Lev) : List Lev := bif p.1 then p.2 else p.2 ++ [v]
def insL (v : Lev) (us : List Lev) : List Lev := insE v (us.foldl (insS v) (false, []))
def levI (us : List Lev) (x : ViewV) : List Lev := bif toldV x then insL (lvV x) us else us
def insR (v : Lev) : List Lev → List Lev
  | [] => [v]
  | z :: zs => bif ltL z v then z :: insR v zs else v :: (z :: zs).filter fun y => !(y == v)
theorem ins_done {v : Lev} : ∀ {zs m : List Lev}, zs.foldl (insS v) (true, m) = (true, m ++ zs.filter fun y => !(y == v))
  | [], m => by simp
  | z :: zs, m => by
    rw [List.foldl_cons]
    have e : insS v (true, m) z = (true, m ++ [z].filter fun y => !(y == v)) := by
      unfold insS
      cases h : (z == v) <;> simp [h]
    rw [e, ins_done, List.append_assoc, ← List.filter_append]
    rfl
theorem ltL_irr (v : Lev) : ltL v v = false := swoL.irrefl v
theorem ins_go {v : Lev} : ∀ {zs m : List Lev}, insE v (zs.foldl (insS v) (false, m)) = m ++ insR v zs
  | [], m => rfl
  | z :: zs, m => by
    rw [List.foldl_cons]
    cases h : ltL z v with
    | true =>
      have hne : (z == v) = false := by
        cases e : (z == v) with
        | false => rfl
        | true => rw [eq_of_beq e, ltL_irr] at h; cases h
      have e : insS v (false, m) z = (false, m ++ [z]) := by
        unfold insS
        rw [ordL_le, h, hne]; rfl
      rw [e, ins_go]
      show _ = m ++ (bif ltL z v then _ else _)
      rw [h]; simp
    | false =>
      have e : insS v (false, m) z = (true, m ++ [v] ++ [z].filter fun y => !(y == v)) := by
        unfold insS
        rw [ordL_le, h]
        cases h2 : (z == v) <;> simp [h2]
      rw [e, ins_done]
      show m ++ [v] ++ _ ++ _ = m ++ (bif ltL z v then _ else _)
      rw [h, List.append_assoc, ← List.filter_append]
      simp
theorem insR_mem {v x : Lev} : ∀ {us : List Lev}, x ∈ insR v us ↔ x = v ∨ x ∈ us
  | [] => by simp [insR]
  | z :: zs => by
    unfold insR
    cases ltL z v with
    | true => show x ∈ z :: insR v zs ↔ _; rw [List.mem_cons, insR_mem, List.mem_cons]; constructor <;> (rintro (h | h | h) <;> simp [h])
    | false =>
      show x ∈ v :: _ ↔ _
      rw [List.mem_cons, List.mem_filter]
      constructor
      · rintro (h | h)
        · exact .inl h
        · exact .inr h.1
      · rintro (h | h)
        · exact .inl h
        · by_cases e : x = v
          · exact .inl e
          · exact .inr ⟨h, by simp [e]⟩
theorem ltL_trans {a b c : Lev} (h1 : ltL a b = true) (h2 : ltL b c = true) : ltL a c = true := swoL.trans a b c h1 h2
theorem insR_rise {v : Lev} : ∀ {us : List Lev}, us.Pairwise (fun x y => ltL x y = true) → (insR v us).Pairwise fun x y => ltL x y = true
  | [], _ => List.pairwise_singleton _ _
  | z :: zs, h => by
    obtain ⟨h1, h2⟩ := List.pairwise_cons.1 h
    unfold insR
    cases hz : ltL z v with
    | true =>
      refine List.pairwise_cons.2 ⟨fun y hy => ?_, insR_rise h2⟩
      rcases insR_mem.1 hy with rfl | hy
      · exact hz
      · exact h1 y hy
    | false =>
      refine List.pairwise_cons.2 ⟨fun y hy => ?_, h.filter _⟩
      obtain ⟨hy, hne⟩ := List.mem_filter.1 hy
      have hne : y ≠ v := by simpa using hne
      have hvz : ∀ w, ltL w v = false → w ≠ v → ltL v w = true := fun w h1 h2 => by
        cases e : ltL v w with
        | true => rfl
        | false => exact absurd (ltL_eq h1 e) h2
      rcases List.mem_cons.1 hy with rfl | hy
      · exact hvz _ hz hne
      · have hzy := h1 y hy
        refine hvz y ?_ hne
        cases e : ltL y v with
        | false => rfl
        | true => rw [ltL_trans hzy e] at hz; cases hz
theorem rise_eq : ∀ {a b : List Lev}, a.Pairwise (fun x y => ltL x y = true) → b.Pairwise (fun x y => ltL x y = true) → (∀ x, x ∈ a ↔ x ∈ b) → a = b
  | [], [], _, _, _ => rfl
  | [], y :: b, _, _, h => by have := (h y).2 (.head _); cases this
  | x :: a, [], _, _, h => by have := (h x).1 (.head _); cases this
  | x :: a, y :: b, ha, hb, h => by
    obtain ⟨a1, a2⟩ := List.pairwise_cons.1 ha
    obtain ⟨b1, b2⟩ := List.pairwise_cons.1 hb
    have e : x = y := by
      rcases List.mem_cons.1 ((h x).1 (.head _)) with e | e
      · exact e
      · rcases List.mem_cons.1 ((h y).2 (.head _)) with q | q
        · exact q.symm
        · have := ltL_trans (b1 x e) (a1 y q)
          rw [ltL_irr] at this; cases this
    subst e
    rw [rise_eq a2 b2 fun z => ?_]
    constructor
    · intro hz
      rcases List.mem_cons.1 ((h z).1 (.tail _ hz)) with e | e
      · subst e; have := a1 z hz; rw [ltL_irr] at this; cases this
      · exact e
    · intro hz
      rcases List.mem_cons.1 ((h z).2 (.tail _ hz)) with e | e
      · subst e; have := b1 z hz; rw [ltL_irr] at this; cases this
      · exact e
theorem lev_all (vs : List ViewV) : vs.foldl levI [] = dlev (levsV vs) := by
  have key : ∀ (vs : List ViewV) (us : List Lev), us.Pairwise (fun x y => ltL x y = true) → (vs.foldl levI us).Pairwise (fun x y => ltL x y = true) ∧ ∀ x, x ∈ vs.foldl levI us ↔ x ∈ us ∨ x ∈ levsV vs := by
    intro vs
    induction vs with
    | nil => intro us h; exact ⟨h, fun x => by simp [levsV]⟩
    | cons w vs ih =>
      intro us h
      rw [List.foldl_cons]
      unfold levI
      cases hw : toldV w with
      | true =>
        have e : insL (lvV w) us = insR (lvV w) us := ins_go (m := [])
        rw [cond_true, e]
        obtain ⟨i1, i2⟩ := ih _ (insR_rise (v := lvV w) h)
        refine ⟨i1, fun x => (i2 x).trans ?_⟩
        rw [insR_mem]
        have el : levsV (w :: vs) = lvV w :: levsV vs := by unfold levsV; rw [List.filter_cons_of_pos hw]; rfl
        rw [el, List.mem_cons]
        exact ⟨fun h => by rcases h with (h | h) | h <;> simp [h], fun h => by rcases h with h | h | h <;> simp [h]⟩
      | false =>
        have el : levsV (w :: vs) = levsV vs := by unfold levsV; rw [List.filter_cons_of_neg (by rw [hw]; simp)]
        rw [cond_false, el]
        exact ih us h
  obtain ⟨h1, h2⟩ := key vs [] List.Pairwise.nil
  exact rise_eq h1 (dlev_rise _) fun x => by rw [h2, dlev_mem]; simp
def rowLr (ls : List Lev) (b : Nat) : Value := match ls with
  | [] => nilS
  | l :: ls => newL b (ls.length + 1)
theorem rowLr_v (ls : List Lev) (b : Nat) : rowLr ls b = vLv (!ls.isEmpty) b ls.length := by cases ls <;> rfl
theorem rowLr_ok (ls : List Lev) : ok3 (rowLr ls 0) = true := by cases ls <;> rfl
def levRr (vs : List ViewV) : Ans := fun rest => match rest with
  | [] => some (rowLr (dlev (levsV vs)) 0, rowLO (dlev (levsV vs)))
  | _ => none
theorem fin_lr {fn : Func} {N t : Nat} (q : ∀ (v : Value) (O : List Blk) (g : Nat → Value), retVal Try.prog fn (stOf N g [(t, v)] O) = some v) (ls : List Lev) (g : Nat → Value) : FinR fn (rowLr ls 0) (rowLO ls) .ret (stOf N g [(t, rowLr ls 0)] [ownL ls]) := by
  refine ⟨.inr rfl, rfl, q _ _ g, fun B hB => ?_⟩
  cases ls with
  | nil => cases hB
  | cons i ids => cases hB; show (heapOf _ hp0).get 0 = _; rw [heapOf0_get]; rfl
theorem lbx_inert (y : Lev) : inertB (lbx y) = true := rfl
theorem lbx_load {hp : Hp} {b : Nat} {y : Lev} (h : hp.get b = some (lbx y)) : aLoad Try.prog hp.get 42 (pb b 0) = some (lA y) := by
  simp only [aLoad, pb, h, lbx, aggL, sizeL]
  rfl
theorem lidxv {b m i : Nat} (h : i < m) : fstV ((aIndexAddr Try.prog 34 (vLv true b m) (iN i)).map fun v => (v, none)) = some (pb b (i * 3)) := by
  have h1 : (0 : Int) ≤ Int.ofNat i ∧ Int.ofNat i < (m : Int) := ⟨Int.natCast_nonneg i, by simpa using h⟩
  simp only [aIndexAddr, vLv, newL, cond_true, iN, Try.underlying34, sizeL]
  rw [if_pos h1]
  simp [fstV, pb]
theorem insS_len {v : Lev} : ∀ (zs : List Lev) (p : Bool × List Lev), (zs.foldl (insS v) p).2.length ≤ p.2.length + 2 * zs.length
  | [], p => by simp
  | z :: zs, p => by
    rw [List.foldl_cons]
    have h1 := insS_len (v := v) zs (insS v p z)
    have h2 : (insS v p z).2.length ≤ p.2.length + 2 := by
      unfold insS
      cases (!p.1 && decide (ordL v z ≤ Int.ofNat 0)) <;> cases (!(z == v)) <;> simp
    simp only [List.length_cons]; omega
def zl : Lev := (0, 0, 0)
theorem fx2h {o : Blk} (ho : inertB o = true) (us : List Lev) : ∀ r : List Blk, ∀ i, i < 2 → ∀ o', (o :: ownL us :: r)[i]? = some o' → Fixed 0 o' := fixOO ho (ownL_inert us)
set_option maxHeartbeats 1000000
theorem run22r (vs : List ViewV) (hn : vs.length < 1000000) : ∀ rest v0 O, levRr vs rest = some (v0, O) → RowRun Try.f22 code22r 70 vs rest v0 O := fun rest0 v0 O h => by
  unfold levRr at h
  split at h
  case h_2 => cases h
  cases h
  refine ⟨rowL_out _, rowLr_ok _, (by intro r hr; cases hr), by simp, fun f o c W ho hrow hfl => ?_⟩
  have hkk := kk_len hfl
  have fx2 : ∀ us : List Lev, ∀ r : List Blk, ∀ i, i < 2 → ∀ o', (o :: ownL us :: r)[i]? = some o' → Fixed 0 o' := fun us => fixOO ho (ownL_inert us)
  refine FRwp.seq (Q1 := fun e st => e = .normal ∧ ∃ g, st = stOf 70 g [(0, vS f 0 vs.length c)] [o]) ?_ ?_ (fun x st hne hq => absurd hq.1 hne)
  · cases f with
    | true => exact FRwp.pieceN E22r_ok follows 60 1 _ _ _ _ (lrA_0 true false false false o [] [] [] [] vs.length c 0 0 0 0 zv zl zl (fun _ => nilS)) Met.nil MetH.nil MetE.nil sk22ra rfl rfl (fix11 ho _) fun g => ⟨rfl, g, rfl⟩
    | false =>
      obtain ⟨rfl, rfl⟩ := hfl rfl
      exact FRwp.pieceN E22r_ok follows 60 1 _ _ _ _ (lrAn_0 true false false false .dead [] [] [] [] 0 c 0 0 0 0 zv zl zl (fun _ => nilS)) Met.nil MetH.nil MetE.nil sk22ra rfl rfl (fix11 rfl _) fun g => ⟨rfl, g, rfl⟩
  rintro st ⟨-, g, rfl⟩
  refine FRwp.seq (Q1 := fun e st => e = .normal ∧ ∃ g, st = stOf 70 g [(0, vS f 0 vs.length c), (3, nilS)] [o, .dead]) (FRwp.pieceN E22r_ok follows 60 1 _ _ _ _ (lrB_0 f false false false o [] [] [] [] vs.length c 0 0 0 0 zv zl zl g) Met.nil MetH.nil MetE.nil sk22rb rfl rfl (fix11 ho _) fun g => ⟨rfl, g, rfl⟩) ?_ (fun x st hne hq => absurd hq.1 hne)
  rintro st ⟨-, g, rfl⟩
  let J : List Lev → Nat → (Nat → Value) → St := fun us i g => stOf 70 g [(0, vS f 0 vs.length c), (3, vLv (!us.isEmpty) 1 us.length), (4, iN i)] [o, ownL us]
  refine FRwp.seq (Q1 := fun e st => e = .normal ∧ ∃ g, st = stOf 70 g [(3, vLv (!(dlev (levsV vs)).isEmpty) 0 (dlev (levsV vs)).length)] [ownL (dlev (levsV vs))]) ?_ ?_ (fun x st hne hq => absurd hq.1 hne)
  rotate_left
  · rintro st ⟨-, g, rfl⟩
    generalize dlev (levsV vs) = ls
    have hz := lrZ_0 false (!ls.isEmpty) false false o ls [] [] [] 0 0 ls.length 0 0 0 zv zl zl g
    rw [← rowLr_v] at hz ⊢
    exact FRwp.pieceN E22r_ok follows 60 1 _ _ _ _ hz Met.nil MetH.nil MetE.nil sk22rz rfl rfl (fix11 (ownL_inert ls) _) fun g => fin_lr q22r ls g
  refine FRwp.seq (Q1 := fun e st => e = .normal ∧ ∃ g, st = J [] 0 g) (FRwp.pieceN E22r_ok follows 60 2 _ _ _ _ (lrC_0 f false false false o [] [] [] [] vs.length c 0 0 0 0 zv zl zl g) Met.nil MetH.nil MetE.nil sk22rc rfl rfl (fx2 [] _) fun g => ⟨rfl, g, rfl⟩) ?_ (fun x st hne hq => absurd hq.1 hne)
  rintro st ⟨-, g, rfl⟩
  refine FRwp.mono (fold_loop' (vs := vs) levI [] J (fun us st => ∃ g, st = stOf 70 g [(3, vLv (!us.isEmpty) 0 us.length)] [ownL us]) (fun us g hf => ?_) (fun i x us g hx hlt hf => ?_) g) fun e st q => by rw [lev_all] at q; exact q
  · exact FRwp.seq (Q1 := fun e st => e = .exit 0 ∧ ∃ g, st = stOf 70 g [(3, vLv (!us.isEmpty) 0 us.length)] [ownL us]) (FRwp.pieceN E22r_ok follows 60 1 _ _ _ _ (lrMx_0 f (!us.isEmpty) false false o us [] [] [] vs.length c us.length 0 vs.length 0 zv zl zl g) (Met.cons (ltT (a := vs.length) (b := kk f vs.length) (r := false) (by rw [hkk]; simp)) Met.nil) MetH.nil MetE.nil sk22rM rfl rfl (fix11 (ownL_inert us) _) fun g => ⟨rfl, g, rfl⟩) (fun st h => by cases h.1) (fun e st _ h => h)
  have hft : f = true := by cases f with
    | true => rfl
    | false => rw [(hfl rfl).1] at hlt; simp at hlt
  subst hft
  have hr : ∃ ty ro, o = .cells ty (vrow vs) ro := by
    rcases hrow with h | h
    · rw [h] at hlt; simp at hlt
    · exact h
  have b0 : ∀ r : List Blk, RowAt (heapOf (o :: r) hp0) 0 vs := fun r => rowAt0 hr
  have hul : us.length ≤ i := by
    rw [← hf, lev_all]
    have h1 := ded_len2 (levsV (vs.take i))
    have h2 := levsV_len (vs.take i)
    rw [List.length_take] at h2
    omega
  refine FRwp.seq (Q1 := fun e st => e = .normal ∧ ∃ g, st = J us i g) (FRwp.pieceN E22r_ok follows 60 2 _ _ _ _ (lrM_0 true (!us.isEmpty) false false o us [] [] [] vs.length c us.length 0 i 0 x zl zl g) (Met.cons (ltT (decide_eq_true hlt)) Met.nil) MetH.nil MetE.nil sk22rM rfl rfl (fx2 us _) fun g => ⟨rfl, g, rfl⟩) ?_ (fun x st hne hq => absurd hq.1 hne)
  rintro st ⟨-, g, rfl⟩
  refine FRwp.seq (Q1 := fun e st => e = .normal ∧ ∃ g, st = J (levI us x) i g) ?_ ?_ (fun x st hne hq => absurd hq.1 hne)
  rotate_left
  · rintro st ⟨-, g, rfl⟩
    exact FRwp.pieceN E22r_ok follows 60 2 _ _ _ _ (lrI_0 true (!(levI us x).isEmpty) false false o (levI us x) [] [] [] vs.length c (levI us x).length 0 i 0 x zl zl g) (Met.cons (wrap_up (by omega)) Met.nil) MetH.nil MetE.nil sk22rI rfl rfl (fx2 _ _) fun g => ⟨rfl, g, rfl⟩
  -- not told: out of the block
  cases ht : toldV x with
  | false =>
    have e0 : levI us x = us := by unfold levI; rw [ht]; rfl
    rw [e0]
    refine FRwp.block (FRwp.mono (Q := fun e st => e = .exit 1 ∧ ∃ g, st = J us i g) ?_ fun e st q => by obtain ⟨rfl, q⟩ := q; show (if 1 = 1 then _ else _); rw [if_pos rfl]; exact ⟨rfl, q⟩)
    exact FRwp.seq (Q1 := fun e st => e = .exit 1 ∧ ∃ g, st = J us i g) (FRwp.pieceN E22r_ok follows 60 2 _ _ _ _ (lrX_0 true (!us.isEmpty) false false o us [] [] [] vs.length c us.length 0 i 0 x zl zl g) (Met.cons (bool_ok (by rw [ht]; rfl)) (Met.cons (hload_ok (b0 _) hx) (Met.cons (LtA.vidx_ok hlt) Met.nil))) MetH.nil MetE.nil sk22rX rfl rfl (fx2 us _) fun g => ⟨rfl, g, rfl⟩) (fun st h => by cases h.1) (fun e st _ h => h)
  | true =>
  have e0 : levI us x = insL (lvV x) us := by unfold levI; rw [ht]; rfl
  rw [e0]
  refine FRwp.block (FRwp.mono (Q := fun e st => e = .normal ∧ ∃ g, st = J (insL (lvV x) us) i g) ?_ fun e st q => by obtain ⟨rfl, q⟩ := q; exact ⟨rfl, q⟩)
  refine FRwp.seq (Q1 := fun e st => e = .normal ∧ ∃ g, st = J us i g) (FRwp.pieceN E22r_ok follows 60 2 _ _ _ _ (lrX_1 true (!us.isEmpty) false false o us [] [] [] vs.length c us.length 0 i 0 x zl zl g) (Met.cons (bool_ok (by rw [ht]; rfl)) (Met.cons (hload_ok (b0 _) hx) (Met.cons (LtA.vidx_ok hlt) Met.nil))) MetH.nil MetE.nil sk22rX rfl rfl (fx2 us _) fun g => ⟨rfl, g, rfl⟩) ?_ (fun x st hne hq => absurd hq.1 hne)
  rintro st ⟨-, g, rfl⟩
  refine FRwp.seq (Q1 := fun e st => e = .normal ∧ ∃ g, st = stOf 70 g [(0, vS true 0 vs.length c), (3, vLv (!us.isEmpty) 1 us.length), (4, iN i), (5, pb 2 0)] [o, ownL us, lbx (lvV x)]) (FRwp.pieceN E22r_ok follows 60 2 _ _ _ _ (lrD_0 true (!us.isEmpty) false false o us [] [] [] vs.length c us.length 0 i 0 x zl zl g) (Met.cons (hload_ok (b0 _) hx) (Met.cons (LtA.vidx_ok hlt) Met.nil)) MetH.nil MetE.nil sk22rD rfl rfl (fx2 us _) fun g => ⟨rfl, g, rfl⟩) ?_ (fun x st hne hq => absurd hq.1 hne)
  rintro st ⟨-, g, rfl⟩
  generalize lvV x = y at *
  have fx3 : ∀ r : List Blk, ∀ i, i < 3 → ∀ o', (o :: ownL us :: lbx y :: r)[i]? = some o' → Fixed 0 o' := fixQ3 ho (ownL_inert us) (lbx_inert y)
  have fx4 : ∀ ms : List Lev, ∀ r : List Blk, ∀ i, i < 4 → ∀ o', (o :: ownL us :: lbx y :: ownL ms :: r)[i]? = some o' → Fixed 0 o' := fun ms => fixQ4 ho (ownL_inert us) (lbx_inert y) (ownL_inert ms)
  refine FRwp.seq (Q1 := fun e st => e = .normal ∧ ∃ g, st = stOf 70 g [(0, vS true 0 vs.length c), (3, vLv (!us.isEmpty) 1 us.length), (4, iN i), (5, pb 2 0), (6, nilS)] [o, ownL us, lbx y, .dead]) (FRwp.pieceN E22r_ok follows 60 3 _ _ _ _ (lrE_0 true (!us.isEmpty) false false o us [] [] [] vs.length c us.length 0 i 0 x y zl g) Met.nil MetH.nil MetE.nil sk22rE rfl rfl (fx3 _) fun g => ⟨rfl, g, rfl⟩) ?_ (fun x st hne hq => absurd hq.1 hne)
  rintro st ⟨-, g, rfl⟩
  refine FRwp.seq (Q1 := fun e st => e = .normal ∧ ∃ g, st = stOf 70 g [(0, vS true 0 vs.length c), (3, vLv (!us.isEmpty) 1 us.length), (4, iN i), (5, pb 2 0), (6, nilS), (7, .bool false)] [o, ownL us, lbx y, .dead]) (FRwp.pieceN E22r_ok follows 60 4 _ _ _ _ (lrF_0 true (!us.isEmpty) false false o us [] [] [] vs.length c us.length 0 i 0 x y zl g) Met.nil MetH.nil MetE.nil sk22rF rfl rfl (fx4 [] _) fun g => ⟨rfl, g, rfl⟩) ?_ (fun x st hne hq => absurd hq.1 hne)
  rintro st ⟨-, g, rfl⟩
  let JJ : Bool × List Lev → Nat → (Nat → Value) → St := fun p k g => stOf 70 g [(0, vS true 0 vs.length c), (3, vLv (!us.isEmpty) 1 us.length), (4, iN i), (5, pb 2 0), (6, vLv (!p.2.isEmpty) 3 p.2.length), (7, .bool p.1), (8, iN k)] [o, ownL us, lbx y, ownL p.2]
  have hpl := insS_len (v := y) us (false, [])
  refine FRwp.seq (Q1 := fun e st => e = .normal ∧ ∃ g, st = stOf 70 g [(0, vS true 0 vs.length c), (3, vLv (!us.isEmpty) 1 us.length), (4, iN i), (5, pb 2 0), (6, vLv (!(us.foldl (insS y) (false, [])).2.isEmpty) 3 (us.foldl (insS y) (false, [])).2.length), (7, .bool (us.foldl (insS y) (false, [])).1)] [o, ownL us, lbx y, ownL (us.foldl (insS y) (false, [])).2]) ?_ ?_ (fun x st hne hq => absurd hq.1 hne)
  · refine FRwp.seq (Q1 := fun e st => e = .normal ∧ ∃ g, st = JJ (false, []) 0 g) (FRwp.pieceN E22r_ok follows 60 4 _ _ _ _ (lrH_0 true (!us.isEmpty) false false o us [] [] [] vs.length c us.length 0 i 0 x y zl g) Met.nil MetH.nil MetE.nil sk22rH rfl rfl (fx4 [] _) fun g => ⟨rfl, g, rfl⟩) ?_ (fun x st hne hq => absurd hq.1 hne)
    rintro st ⟨-, g, rfl⟩
    refine fold_loop' (vs := us) (insS y) (false, []) JJ (fun p st => ∃ g, st = stOf 70 g [(0, vS true 0 vs.length c), (3, vLv (!us.isEmpty) 1 us.length), (4, iN i), (5, pb 2 0), (6, vLv (!p.2.isEmpty) 3 p.2.length), (7, .bool p.1)] [o, ownL us, lbx y, ownL p.2]) (fun p g hf => ?_) (fun k z p g hz hk hf => ?_) g
    · exact FRwp.pieceN E22r_ok follows 60 4 _ _ _ _ (lrJx_0 true (!us.isEmpty) (!p.2.isEmpty) p.1 o us p.2 [] [] vs.length c us.length p.2.length i us.length x y zl g) (Met.cons (ltT (a := us.length) (b := kk (!us.isEmpty) us.length) (r := false) (by rw [kkL]; simp)) Met.nil) MetH.nil MetE.nil sk22rJ rfl rfl (fx4 _ _) fun g => ⟨rfl, g, rfl⟩
    have hne : us ≠ [] := fun e => by rw [e] at hz; cases hz
    obtain ⟨b, ms⟩ := p
    have hml : ms.length ≤ 2 * k := by
      have := insS_len (v := y) (us.take k) (false, [])
      rw [hf, List.length_take] at this
      simp at this; omega
    have iz : ∀ r : List Blk, aLoad Try.prog (heapOf (o :: ownL us :: r) hp0).get 42 (pb 1 (k * 3)) = some (lA z) := fun r => lloadb (by rw [heapOf0_get]; rfl) hz
    have iy : ∀ a b : Blk, ∀ r : List Blk, aLoad Try.prog (heapOf (a :: b :: lbx y :: r) hp0).get 42 (pb 2 0) = some (lA y) := fun a b r => lbx_load (by rw [heapOf0_get]; rfl)
    have hx1 := lidxv (b := 1) hk
    have hl := ltT (decide_eq_true hk)
    have hw : (some (Value.int .i64 (wrapF .i64 (Int.ofNat k + Int.ofNat 1)))) = some (iN (k + 1)) := wrap_up (by omega)
    show FRwp Try.prog 70 W k22rJ (stOf 70 g [(0, vS true 0 vs.length c), (3, vLv (!us.isEmpty) 1 us.length), (4, iN i), (5, pb 2 0), (6, vLv (!ms.isEmpty) 3 ms.length), (7, .bool b), (8, iN k)] [o, ownL us, lbx y, ownL ms]) _
    dsimp only [JJ]
    rw [isE_false hne]
    have fa : ∀ m w, ∀ r : List Blk, ∀ i, i < 4 → ∀ o', (o :: ownL us :: lbx y :: lB (m ++ [w]) :: r)[i]? = some o' → Fixed 0 o' := fun m w => by rw [← ownL_ne (neA m w)]; exact fx4 _
    have ap1 : ∀ w, aAppend Try.prog (heapOf [o, ownL us, lbx y, ownL ms, .dead, lbx w] hp0).get 6 [34, 34] [vLv (!ms.isEmpty) 3 ms.length, newL 5 1] = some (newL 6 (ms.length + 1), effF (!ms.isEmpty) 3 (lB (ms ++ [w]))) := fun w =>
      app_lev (b := 3) (b2 := 5) rfl (by rw [heapOf0_get]; rfl) (by rw [heapOf0_get]; rfl) rfl (by omega)
    have le := ordL_le y z
    cases b with
    | true =>
      cases hzy : (!(z == y)) with
      | true =>
        have es : insS y (true, ms) z = (true, ms ++ [z]) := by unfold insS; rw [hzy]; rfl
        rw [es]
        refine FRwp.pieceN E22r_ok follows 60 4 _ _ _ _ (lrJt_0 true true (!ms.isEmpty) true o us ms (ms ++ [z]) [] vs.length c us.length ms.length i k x y z g)
          (Met.cons hw (Met.cons (iz _) (Met.cons hx1 (Met.cons ((neLev z y).trans (bool_ok hzy)) (Met.cons (iy _ _ _) (Met.cons (iz _) (Met.cons hx1 (Met.cons hl Met.nil)))))))) MetH.nil (MetE.cons (ap1 z) MetE.nil) sk22rJ rfl rfl (fa _ _ _) fun g => ⟨rfl, g, ?_⟩
        dsimp only
        rw [isEA, ownL_ne (neA ms z), lenA]; rfl
      | false =>
        have es : insS y (true, ms) z = (true, ms) := by unfold insS; rw [hzy]; rfl
        rw [es]
        exact FRwp.pieceN E22r_ok follows 60 4 _ _ _ _ (lrJt_1 true true (!ms.isEmpty) true o us ms [] [] vs.length c us.length ms.length i k x y z g)
          (Met.cons hw (Met.cons ((neLev z y).trans (bool_ok hzy)) (Met.cons (iy _ _ _) (Met.cons (iz _) (Met.cons hx1 (Met.cons hl Met.nil)))))) MetH.nil MetE.nil sk22rJ rfl rfl (fx4 _ _) fun g => ⟨rfl, g, rfl⟩
    | false =>
      cases hle : decide (ordL y z ≤ Int.ofNat 0) with
      | true =>
        cases hzy : (!(z == y)) with
        | true =>
          have es : insS y (false, ms) z = (true, ms ++ [y] ++ [z]) := by unfold insS; rw [hzy, hle]; rfl
          rw [es]
          refine FRwp.pieceN E22r_ok follows 60 4 _ _ _ _ (lrJf_0 true true (!ms.isEmpty) false o us ms (ms ++ [y]) (ms ++ [y] ++ [z]) vs.length c us.length ms.length i k x y z g)
            (by repeat' (first | exact Go.Proofs.Ytgeoommlmddgpaa.AI.Met.nil | apply Go.Proofs.Ytgeoommlmddgpaa.AI.Met.cons | exact hw | exact hl | exact hx1 | exact iz _ | exact iy _ _ _ | exact bool_ok hle | exact (neLev z y).trans (bool_ok hzy))) MetH.nil (MetE.cons (app_lev (b := 6) (b2 := 7) (f := true) (k := ms.length + 1) (ls := ms ++ [y]) (by rw [isEA]) (by rw [heapOf0_get, ownL_ne (neA ms y)]; rfl) (by rw [heapOf0_get]; rfl) (lenA ms y).symm (by omega)) (MetE.cons (ap1 y) MetE.nil)) sk22rJ rfl rfl (fa _ _ _) fun g => ⟨rfl, g, ?_⟩
          dsimp only
          rw [isEA, ownL_ne (neA (ms ++ [y]) z), lenA, lenA]; rfl
        | false =>
          have es : insS y (false, ms) z = (true, ms ++ [y]) := by unfold insS; rw [hzy, hle]; rfl
          rw [es]
          refine FRwp.pieceN E22r_ok follows 60 4 _ _ _ _ (lrJf_1 true true (!ms.isEmpty) false o us ms (ms ++ [y]) ([]) vs.length c us.length ms.length i k x y z g)
            (by repeat' (first | exact Go.Proofs.Ytgeoommlmddgpaa.AI.Met.nil | apply Go.Proofs.Ytgeoommlmddgpaa.AI.Met.cons | exact hw | exact hl | exact hx1 | exact iz _ | exact iy _ _ _ | exact bool_ok hle | exact (neLev z y).trans (bool_ok hzy))) MetH.nil (MetE.cons (ap1 y) MetE.nil) sk22rJ rfl rfl (fa _ _ _) fun g => ⟨rfl, g, ?_⟩
          dsimp only
          rw [isEA, ownL_ne (neA ms y), lenA]; rfl
      | false =>
        cases hzy : (!(z == y)) with
        | true =>
          have es : insS y (false, ms) z = (false, ms ++ [z]) := by unfold insS; rw [hzy, hle]; rfl
          rw [es]
          refine FRwp.pieceN E22r_ok follows 60 4 _ _ _ _ (lrJf_2 true true (!ms.isEmpty) false o us ms (ms ++ [z]) ([]) vs.length c us.length ms.length i k x y z g)
            (by repeat' (first | exact Go.Proofs.Ytgeoommlmddgpaa.AI.Met.nil | apply Go.Proofs.Ytgeoommlmddgpaa.AI.Met.cons | exact hw | exact hl | exact hx1 | exact iz _ | exact iy _ _ _ | exact bool_ok hle | exact (neLev z y).trans (bool_ok hzy))) MetH.nil (MetE.cons (ap1 z) MetE.nil) sk22rJ rfl rfl (fa _ _ _) fun g => ⟨rfl, g, ?_⟩
          dsimp only
          rw [isEA, ownL_ne (neA ms z), lenA]; rfl
        | false =>
          have es : insS y (false, ms) z = (false, ms) := by unfold insS; rw [hzy, hle]; rfl
          rw [es]
          refine FRwp.pieceN E22r_ok follows 60 4 _ _ _ _ (lrJf_3 true true (!ms.isEmpty) false o us ms ([]) ([]) vs.length c us.length ms.length i k x y z g)
            (by repeat' (first | exact Go.Proofs.Ytgeoommlmddgpaa.AI.Met.nil | apply Go.Proofs.Ytgeoommlmddgpaa.AI.Met.cons | exact hw | exact hl | exact hx1 | exact iz _ | exact iy _ _ _ | exact bool_ok hle | exact (neLev z y).trans (bool_ok hzy))) MetH.nil (MetE.nil) sk22rJ rfl rfl (fx4 _ _) fun g => ⟨rfl, g, ?_⟩
          rfl
  rintro st ⟨-, g, rfl⟩
  unfold insL
  generalize us.foldl (insS y) (false, []) = p at *
  obtain ⟨b, ms⟩ := p
  have hml : ms.length ≤ 2 * us.length := by simpa using hpl
  cases b with
  | true =>
    have hk := lrKt_0 true (!us.isEmpty) (!ms.isEmpty) true o us ms [] [] vs.length c us.length ms.length i 0 x y zl g
    exact FRwp.pieceN E22r_ok follows 60 2 _ _ _ _ hk Met.nil MetH.nil MetE.nil sk22rK rfl rfl (fx2h ho ms _) fun g => ⟨rfl, g, rfl⟩
  | false =>
    have ap : aAppend Try.prog (heapOf [o, ownL us, lbx y, ownL ms, .dead, lbx y] hp0).get 6 [34, 34] [vLv (!ms.isEmpty) 3 ms.length, newL 5 1] = some (newL 6 (ms.length + 1), effF (!ms.isEmpty) 3 (lB (ms ++ [y]))) :=
      app_lev (b := 3) (b2 := 5) rfl (by rw [heapOf0_get]; rfl) (by rw [heapOf0_get]; rfl) rfl (by omega)
    refine FRwp.pieceN E22r_ok follows 60 2 _ _ _ _ (lrKf_0 true (!us.isEmpty) (!ms.isEmpty) false o us ms (ms ++ [y]) [] vs.length c us.length ms.length i 0 x y zl g) (Met.cons (lbx_load (by rw [heapOf0_get]; rfl)) Met.nil) MetH.nil (MetE.cons ap MetE.nil) sk22rK rfl rfl (by rw [← ownL_ne (neA ms y)]; exact fx2h ho _ _) fun g => ⟨rfl, g, ?_⟩
    dsimp only [J]
    show _ = stOf 70 g [(0, vS true 0 vs.length c), (3, vLv (!(ms ++ [y]).isEmpty) 1 (ms ++ [y]).length), (4, iN i)] [o, ownL (ms ++ [y])]
    rw [isEA, ownL_ne (neA ms y), lenA]; rfl
noncomputable def G22r : HeapFn := padF (toldR levRr)
theorem hkG22r : CallGoal Try.prog 22 G22r := pad_goal (toldR_goal Try.func22 body22r (by kernel_rfl) ntmps22r fun vs hn => run22r vs hn)
theorem G22r_of {vs : List ViewV} {s : Value} {hp : Hp} (h : TN vs s hp) (hn : vs.length < 1000000) : G22r [s] hp = some (rowLr (dlev (levsV vs)) hp.sz, heapOf [ownL (dlev (levsV vs)), .dead] hp) := by
  unfold G22r
  have e := toldR_of (A := levRr) (rest := []) (v0 := rowLr (dlev (levsV vs)) 0) (O := rowLO (dlev (levsV vs))) h hn rfl
  generalize dlev (levsV vs) = ls at *
  cases ls with
  | nil => exact pad_one e
  | cons l ls =>
    refine pad_two (e.trans ?_)
    show some (sh3 [0] hp.sz (newL 0 _), _) = _
    simp [sh3, sh2, sh1, rho, idxOf, rowLr, newL]; rfl
end Go.Proofs.Ytgeoommlmddgpaa.LtL
namespace Go.Proofs.Ytgeoommlmddgpaa.LtL
open Go Go.Proofs Go.Proofs.Ytgeoommlmddgpaa.AI Go.RowKit Go.Proofs.Ytgeoommlmddgpaa.Sort Go.Proofs.Ytgeoommlmddgpaa.LtA
noncomputable def E20s : Ext := extH Try.prog []
theorem E20s_ok : ExtOk Try.prog E20s := extH_ok .nil
noncomputable def fb20s : Code := (Try.f20.body).getD .skip
theorem ntmps20s : Try.f20.ntmps = 26 := by kernel_rfl
noncomputable def k20sa : Code := sL (fb20s)
theorem sk20sa : codeSafe Try.prog 26 k20sa = true := by kernel_rfl
noncomputable def k20sb : Code := sL (sR (fb20s))
theorem sk20sb : codeSafe Try.prog 26 k20sb = true := by kernel_rfl
noncomputable def k20sc : Code := sL (sL (sR (sR (fb20s))))
theorem sk20sc : codeSafe Try.prog 26 k20sc = true := by kernel_rfl
noncomputable def k20sL : Code := unL (unB (sR (sL (sR (sR (fb20s))))))
theorem sk20sL : codeSafe Try.prog 26 k20sL = true := by kernel_rfl
noncomputable def k20sz : Code := sR (sR (sR (fb20s)))
theorem sk20sz : codeSafe Try.prog 26 k20sz = true := by kernel_rfl
noncomputable def k20sw : Code := fb20s
theorem sk20sw : codeSafe Try.prog 26 k20sw = true := by kernel_rfl
noncomputable abbrev code20s : Code := .seq k20sa (.seq k20sb (.seq (.seq k20sc (.block 0 (.loop k20sL))) k20sz))
theorem body20s : Try.f20.body = some code20s := by kernel_rfl
theorem saA_0 (A B : Blk) (n i : Nat) (z : Lev) (g : Nat → Value) : (execN Try.prog (aCall Try.prog E20s 60) (callN Try.prog E20s 60) 60 k20sa ⟨tmsOf [.slice (some ⟨0, 0, none⟩) n 11, .slice (some ⟨1, 0, none⟩) n 10] 0 .leaf, heapOf [A, B, .dead] hp0, []⟩ (acc0 [])).map (fun y => (look2 2 [0, 1] [0, 1] (y.1, y.2.1), y.2.2.q, y.2.2.r, y.2.2.x)) =
    some ((.normal, [A, B], [(0, .slice (some ⟨0, 0, none⟩) n 11), (1, .slice (some ⟨1, 0, none⟩) n 10)], true), [], [], []) := by kernel_rfl
theorem saB_0 (A B : Blk) (n i : Nat) (z : Lev) (g : Nat → Value) : (execN Try.prog (aCall Try.prog E20s 60) (callN Try.prog E20s 60) 60 k20sb (stOf 26 g [(0, .slice (some ⟨0, 0, none⟩) n 11), (1, .slice (some ⟨1, 0, none⟩) n 10)] [A, B]) (acc0 [(4, .v (.bool false))])).map (fun y => (look2 2 [0, 1] [0, 1] (y.1, y.2.1), y.2.2.q, y.2.2.r, y.2.2.x)) =
    some ((.normal, [A, B], [(0, .slice (some ⟨0, 0, none⟩) n 11), (1, .slice (some ⟨1, 0, none⟩) n 10)], true), [(some (.bool ((Int.ofNat n) != (Int.ofNat n))), .bool false)], [], []) := by kernel_rfl
theorem saC_0 (A B : Blk) (n i : Nat) (z : Lev) (g : Nat → Value) : (execN Try.prog (aCall Try.prog E20s 60) (callN Try.prog E20s 60) 60 k20sc (stOf 26 g [(0, .slice (some ⟨0, 0, none⟩) n 11), (1, .slice (some ⟨1, 0, none⟩) n 10)] [A, B]) (acc0 [])).map (fun y => (look2 2 [0, 1] [0, 1, 5] (y.1, y.2.1), y.2.2.q, y.2.2.r, y.2.2.x)) =
    some ((.normal, [A, B], [(0, .slice (some ⟨0, 0, none⟩) n 11), (1, .slice (some ⟨1, 0, none⟩) n 10), (5, iN 0)], true), [], [], []) := by kernel_rfl
theorem saL_1 (A B : Blk) (n i : Nat) (z : Lev) (g : Nat → Value) : (execN Try.prog (aCall Try.prog E20s 60) (callN Try.prog E20s 60) 60 k20sL (stOf 26 g [(0, .slice (some ⟨0, 0, none⟩) n 11), (1, .slice (some ⟨1, 0, none⟩) n 10), (5, iN i)] [A, B]) (acc0 [(14, .v (iN (i + 1))), (12, .v (.bool false)), (11, .v (lA z)), (10, .v (pb 1 (i * 3))), (7, .v (lA z)), (6, .v (pb 0 (i * 3))), (3, .v (.bool true))])).map (fun y => (look2 2 [0, 1] [0, 1, 5] (y.1, y.2.1), y.2.2.q, y.2.2.r, y.2.2.x)) =
    some ((.normal, [A, B], [(0, .slice (some ⟨0, 0, none⟩) n 11), (1, .slice (some ⟨1, 0, none⟩) n 10), (5, iN (i + 1))], true), [(some (.int .i64 (wrapF .i64 (Int.ofNat i + Int.ofNat 1))), iN (i + 1)), (fstV ((aBin Try.prog .neq 42 (lA z) (lA z)).map fun v => (v, none)), .bool false), (aLoad Try.prog (heapOf [A, B, .dead] hp0).get 42 (pb 1 (i * 3)), lA z), (fstV ((aIndexAddr Try.prog 34 (.slice (some ⟨1, 0, none⟩) n 10) (iN i)).map fun v => (v, none)), pb 1 (i * 3)), (aLoad Try.prog (heapOf [A, B, .dead] hp0).get 42 (pb 0 (i * 3)), lA z), (fstV ((aIndexAddr Try.prog 34 (.slice (some ⟨0, 0, none⟩) n 11) (iN i)).map fun v => (v, none)), pb 0 (i * 3)), (some (.bool (decide ((Int.ofNat i) < (Int.ofNat n)))), .bool true)], [], []) := by kernel_rfl
theorem saL_2 (A B : Blk) (n i : Nat) (z : Lev) (g : Nat → Value) : (execN Try.prog (aCall Try.prog E20s 60) (callN Try.prog E20s 60) 60 k20sL (stOf 26 g [(0, .slice (some ⟨0, 0, none⟩) n 11), (1, .slice (some ⟨1, 0, none⟩) n 10), (5, iN i)] [A, B]) (acc0 [(3, .v (.bool false))])).map (fun y => (look2 2 [] [] (y.1, y.2.1), y.2.2.q, y.2.2.r, y.2.2.x)) =
    some ((.exit 0, [], [], true), [(some (.bool (decide ((Int.ofNat i) < (Int.ofNat n)))), .bool false)], [], []) := by kernel_rfl
theorem saZ_0 (A B : Blk) (n i : Nat) (z : Lev) (g : Nat → Value) : (execN Try.prog (aCall Try.prog E20s 60) (callN Try.prog E20s 60) 60 k20sz (stOf 26 g [] []) (acc0 [])).map (fun y => (look2 0 [] [4] (y.1, y.2.1), y.2.2.q, y.2.2.r, y.2.2.x)) =
    some ((.ret, [], [(4, .bool true)], true), [], [], []) := by kernel_rfl
theorem saW_0 (A B : Blk) (n i : Nat) (z : Lev) (g : Nat → Value) : (execN Try.prog (aCall Try.prog E20s 60) (callN Try.prog E20s 60) 60 k20sw ⟨tmsOf [nilS, nilS] 0 .leaf, heapOf [.dead] hp0, []⟩ (acc0 [])).map (fun y => (look2 0 [] [4] (y.1, y.2.1), y.2.2.q, y.2.2.r, y.2.2.x)) =
    some ((.ret, [], [(4, .bool true)], true), [], [], []) := by kernel_rfl
theorem q20s (v : Value) (O : List Blk) (g : Nat → Value) : retVal Try.prog Try.f20 (stOf 26 g [(4, v)] O) = some v := by kernel_rfl
def SL (us : List Lev) (s t : Value) (hp : Hp) : Prop :=
  (s = nilS ∧ t = nilS) ∨ ∃ b1 b2, s = .slice (some ⟨b1, 0, none⟩) us.length 11 ∧ t = .slice (some ⟨b2, 0, none⟩) us.length 10 ∧ b1 ≠ b2 ∧ hp.get b1 = some (lB us) ∧ hp.get b2 = some (lB us)
open Classical in
noncomputable def gSL : HeapFn := fun args hp => match args with
  | [s, t] => if ∃ us, us.length < 1000000 ∧ SL us s t hp then some (.bool true, heapOf ([] ++ [.dead]) hp) else none
  | _ => none
noncomputable def E3l : Ext := extG (extH Try.prog [(19, g16), (12, g14), (13, g14)]) [(9, padF G34), (10, G22), (11, G11r), (15, G19), (16, G16r), (17, G20), (18, G18r), (14, gSI), (21, GLv), (22, G22r), (20, gSL), (23, gSM)]
noncomputable def fb3l : Code := (Try.f3.body).getD .skip
theorem ntmps3l : Try.f3.ntmps = 81 := by kernel_rfl
noncomputable def k3la : Code := sL (fb3l)
theorem sk3la : codeSafe Try.prog 81 k3la = true := by kernel_rfl
noncomputable def k3lb : Code := sL (sR (fb3l))
theorem sk3lb : codeSafe Try.prog 81 k3lb = true := by kernel_rfl
noncomputable def k3lc : Code := sL (sR (sR (fb3l)))
theorem sk3lc : codeSafe Try.prog 81 k3lc = true := by kernel_rfl
noncomputable def k3ld : Code := sL (sR (sR (sR (fb3l))))
theorem sk3ld : codeSafe Try.prog 81 k3ld = true := by kernel_rfl
noncomputable def k3le : Code := sL (sR (sR (sR (sR (fb3l)))))
theorem sk3le : codeSafe Try.prog 81 k3le = true := by kernel_rfl
noncomputable def k3lf : Code := sL (sR (sR (sR (sR (sR (fb3l))))))
theorem sk3lf : codeSafe Try.prog 81 k3lf = true := by kernel_rfl
noncomputable def k3lz : Code := sR (sR (sR (sR (sR (sR (fb3l))))))
theorem sk3lz : codeSafe Try.prog 81 k3lz = true := by kernel_rfl
noncomputable abbrev code3l : Code := .seq k3la (.seq k3lb (.seq k3lc (.seq k3ld (.seq k3le (.seq k3lf k3lz)))))
theorem body3l : Try.f3.body = some code3l := by kernel_rfl
theorem liA_0 (f fm fd fp fl nb : Bool) (o OV DB PB LB : Blk) (n c dn pn m : Nat) (nz : Int) (own h : ViewV) (g : Nat → Value) : (execN Try.prog (aCall Try.prog E3l 60) (callN Try.prog E3l 60) 60 k3la ⟨tmsOf [vS f 0 n c, hcA own, hcA h] 0 .leaf, heapOf [o, .dead] hp0, []⟩ (acc0 [])).map (fun y => (look2 1 [0, 2, 3] [0, 4, 5] (y.1, y.2.1), y.2.2.q, y.2.2.r, y.2.2.x)) =
    some ((.normal, [o, .cells 24 [.bool own.n, .int .i64 own.t, .int .i64 own.o, .int .i64 own.r, .int .i64 own.d, .int .i64 own.i] false, .cells 24 [.bool h.n, .int .i64 h.t, .int .i64 h.o, .int .i64 h.r, .int .i64 h.d, .int .i64 h.i] false], [(0, vS f 0 n c), (4, pb 1 0), (5, pb 2 0)], true), [], [], []) := by cases f <;> kernel_rfl
theorem liB_0 (f fm fd fp fl nb : Bool) (o OV DB PB LB : Blk) (n c dn pn m : Nat) (nz : Int) (own h : ViewV) (g : Nat → Value) : (execN Try.prog (aCall Try.prog E3l 60) (callN Try.prog E3l 60) 60 k3lb (stOf 81 g [(0, vS f 0 n c), (4, pb 1 0), (5, pb 2 0)] [o, (hB own), (hB h)]) (acc0 [(2, .v (.bool true))])).map (fun y => (look2 3 [] [6] (y.1, y.2.1), y.2.2.q, y.2.2.r, y.2.2.x)) =
    some ((.ret, [], [(6, .bool true)], true), [(some (.bool (decide ((Int.ofNat (kk f n)) > (Int.ofNat 80)))), .bool true)], [], []) := by cases f <;> kernel_rfl
theorem liB_1 (f fm fd fp fl nb : Bool) (o OV DB PB LB : Blk) (n c dn pn m : Nat) (nz : Int) (own h : ViewV) (g : Nat → Value) : (execN Try.prog (aCall Try.prog E3l 60) (callN Try.prog E3l 60) 60 k3lb (stOf 81 g [(0, vS f 0 n c), (4, pb 1 0), (5, pb 2 0)] [o, (hB own), (hB h)]) (acc0 [(2, .v (.bool false))])).map (fun y => (look2 3 [0, 1, 2] [0, 4, 5] (y.1, y.2.1), y.2.2.q, y.2.2.r, y.2.2.x)) =
    some ((.normal, [o, (hB own), (hB h)], [(0, vS f 0 n c), (4, pb 1 0), (5, pb 2 0)], true), [(some (.bool (decide ((Int.ofNat (kk f n)) > (Int.ofNat 80)))), .bool false)], [], []) := by cases f <;> kernel_rfl
theorem liC_0 (f fm fd fp fl nb : Bool) (o OV DB PB LB : Blk) (n c dn pn m : Nat) (nz : Int) (own h : ViewV) (g : Nat → Value) : (execN Try.prog (aCall Try.prog E3l 60) (callN Try.prog E3l 60) 60 k3lc (stOf 81 g [(0, vS f 0 n c), (4, pb 1 0), (5, pb 2 0)] [o, (hB own), (hB h)]) (acc0 [(1, .h (vS fm 4 n 22) [OV, .dead])])).map (fun y => (look2 4 [0, 1, 2, 4] [0, 4, 5, 7] (y.1, y.2.1), y.2.2.q, y.2.2.r, y.2.2.x)) =
    some ((.normal, [o, (hB own), (hB h), OV], [(0, vS f 0 n c), (4, pb 1 0), (5, pb 2 0), (7, vS fm 3 n 22)], true), [], [((padF G34) [vS f 0 n c] (heapOf [o, (hB own), (hB h), .dead] hp0), (vS fm 4 n 22, heapOf [OV, .dead] (heapOf [o, (hB own), (hB h), .dead] hp0)))], []) := by cases f <;> cases fm <;> kernel_rfl
theorem liD_0 (f fm fd fp fl nb : Bool) (o OV DB PB LB : Blk) (n c dn pn m : Nat) (nz : Int) (own h : ViewV) (g : Nat → Value) : (execN Try.prog (aCall Try.prog E3l 60) (callN Try.prog E3l 60) 60 k3ld (stOf 81 g [(0, vS f 0 n c), (4, pb 1 0), (5, pb 2 0), (7, vS fm 3 n 22)] [o, (hB own), (hB h), OV]) (acc0 [(2, .h (.tuple #[.int .i64 nz, .bool nb]) [.dead]), (1, .v (hcA own))])).map (fun y => (look2 4 [0, 1, 2, 3] [0, 4, 5, 7, 8, 9] (y.1, y.2.1), y.2.2.q, y.2.2.r, y.2.2.x)) =
    some ((.normal, [o, (hB own), (hB h), OV], [(0, vS f 0 n c), (4, pb 1 0), (5, pb 2 0), (7, vS fm 3 n 22), (8, .int .i64 nz), (9, .bool nb)], true), [(aLoad Try.prog (heapOf [o, (hB own), (hB h), OV, .dead] hp0).get 24 (pb 1 0), hcA own)], [(G22 [vS fm 3 n 22, hcA own] (heapOf [o, (hB own), (hB h), OV, .dead] hp0), (.tuple #[.int .i64 nz, .bool nb], heapOf [.dead] (heapOf [o, (hB own), (hB h), OV, .dead] hp0)))], []) := by cases f <;> cases fm <;> kernel_rfl
theorem liE_0 (f fm fd fp fl nb : Bool) (o OV DB PB LB : Blk) (n c dn pn m : Nat) (nz : Int) (own h : ViewV) (g : Nat → Value) : (execN Try.prog (aCall Try.prog E3l 60) (callN Try.prog E3l 60) 60 k3le (stOf 81 g [(0, vS f 0 n c), (4, pb 1 0), (5, pb 2 0), (7, vS fm 3 n 22), (8, .int .i64 nz), (9, .bool nb)] [o, (hB own), (hB h), OV]) (acc0 [(2, .h (.tuple #[.int .i64 nz, .bool nb]) [.dead]), (1, .v (hcA own))])).map (fun y => (look2 4 [0, 1, 2, 3] [0, 4, 5, 7, 8, 9, 10, 11] (y.1, y.2.1), y.2.2.q, y.2.2.r, y.2.2.x)) =
    some ((.normal, [o, (hB own), (hB h), OV], [(0, vS f 0 n c), (4, pb 1 0), (5, pb 2 0), (7, vS fm 3 n 22), (8, .int .i64 nz), (9, .bool nb), (10, .int .i64 nz), (11, .bool nb)], true), [(aLoad Try.prog (heapOf [o, (hB own), (hB h), OV, .dead] hp0).get 24 (pb 1 0), hcA own)], [(G11r [vS f 0 n c, hcA own] (heapOf [o, (hB own), (hB h), OV, .dead] hp0), (.tuple #[.int .i64 nz, .bool nb], heapOf [.dead] (heapOf [o, (hB own), (hB h), OV, .dead] hp0)))], []) := by cases f <;> cases fm <;> kernel_rfl
theorem liF_0 (f fm fd fp fl nb : Bool) (o OV DB PB LB : Blk) (n c dn pn m : Nat) (nz : Int) (own h : ViewV) (g : Nat → Value) : (execN Try.prog (aCall Try.prog E3l 60) (callN Try.prog E3l 60) 60 k3lf (stOf 81 g [(0, vS f 0 n c), (4, pb 1 0), (5, pb 2 0), (7, vS fm 3 n 22), (8, .int .i64 nz), (9, .bool nb), (10, .int .i64 nz), (11, .bool nb)] [o, (hB own), (hB h), OV]) (acc0 [(23, .h (.bool true) [.dead]), (22, .h (vI fp 12 pn) [PB, .dead]), (21, .v (hcA own)), (19, .h (vI fp 10 pn) [PB, .dead]), (18, .v (hcA own)), (14, .h (.bool true) [.dead]), (13, .h (vI fd 7 dn) [DB, .dead]), (12, .v (hcA own)), (10, .h (vI fd 5 dn) [DB, .dead]), (9, .v (hcA own)), (6, .v (.bool true)), (4, .v (hcA h)), (3, .v (hcA own)), (1, .v (hcA h)), (0, .v (hcA own))])).map (fun y => (look2 2 [0, 3] [0, 7, 8, 9, 10, 11, 12] (y.1, y.2.1), y.2.2.q, y.2.2.r, y.2.2.x)) =
    some ((.normal, [o, OV], [(0, vS f 0 n c), (7, vS fm 1 n 22), (8, .int .i64 nz), (9, .bool nb), (10, .int .i64 nz), (11, .bool nb), (12, .bool true)], true), [(aLoad Try.prog (heapOf [o, (hB own), (hB h), OV, .dead] hp0).get 24 (pb 1 0), hcA own), (aLoad Try.prog (heapOf [o, (hB own), (hB h), OV, .dead] hp0).get 24 (pb 2 0), hcA h), (aLoad Try.prog (heapOf [o, (hB own), (hB h), OV, .dead, DB, .dead] hp0).get 24 (pb 1 0), hcA own), (aLoad Try.prog (heapOf [o, (hB own), (hB h), OV, .dead, DB, .dead, DB, .dead, .dead, PB, .dead] hp0).get 24 (pb 1 0), hcA own), (aLoad Try.prog (heapOf [o, (hB own), (hB h), OV, .dead, DB, .dead, DB, .dead, .dead, PB, .dead] hp0).get 24 (pb 1 0), hcA own), (aLoad Try.prog (heapOf [o, (hB own), (hB h), OV, .dead, DB, .dead, DB, .dead, .dead] hp0).get 24 (pb 1 0), hcA own), (aLoad Try.prog (heapOf [o, (hB own), (hB h), OV, .dead, DB, .dead] hp0).get 24 (pb 1 0), hcA own), (aLoad Try.prog (heapOf [o, (hB own), (hB h), OV, .dead] hp0).get 24 (pb 1 0), hcA own), (some (.bool ((dirV own h) == (dirV own h))), .bool true), (aLoad Try.prog (heapOf [o, (hB own), (hB h), OV, .dead] hp0).get 24 (pb 2 0), hcA h), (aLoad Try.prog (heapOf [o, (hB own), (hB h), OV, .dead] hp0).get 24 (pb 1 0), hcA own), (aLoad Try.prog (heapOf [o, (hB own), (hB h), OV, .dead] hp0).get 24 (pb 2 0), hcA h), (aLoad Try.prog (heapOf [o, (hB own), (hB h), OV, .dead] hp0).get 24 (pb 1 0), hcA own)], [(gSI [vI fp 10 pn, vI fp 12 pn] (heapOf [o, (hB own), (hB h), OV, .dead, DB, .dead, DB, .dead, .dead, PB, .dead, PB, .dead] hp0), (.bool true, heapOf [.dead] (heapOf [o, (hB own), (hB h), OV, .dead, DB, .dead, DB, .dead, .dead, PB, .dead, PB, .dead] hp0))), (G18r [vS f 0 n c, hcA own] (heapOf [o, (hB own), (hB h), OV, .dead, DB, .dead, DB, .dead, .dead, PB, .dead] hp0), (vI fp 12 pn, heapOf [PB, .dead] (heapOf [o, (hB own), (hB h), OV, .dead, DB, .dead, DB, .dead, .dead, PB, .dead] hp0))), (G20 [vS fm 3 n 22, hcA own] (heapOf [o, (hB own), (hB h), OV, .dead, DB, .dead, DB, .dead, .dead] hp0), (vI fp 10 pn, heapOf [PB, .dead] (heapOf [o, (hB own), (hB h), OV, .dead, DB, .dead, DB, .dead, .dead] hp0))), (gSI [vI fd 5 dn, vI fd 7 dn] (heapOf [o, (hB own), (hB h), OV, .dead, DB, .dead, DB, .dead] hp0), (.bool true, heapOf [.dead] (heapOf [o, (hB own), (hB h), OV, .dead, DB, .dead, DB, .dead] hp0))), (G16r [vS f 0 n c, hcA own] (heapOf [o, (hB own), (hB h), OV, .dead, DB, .dead] hp0), (vI fd 7 dn, heapOf [DB, .dead] (heapOf [o, (hB own), (hB h), OV, .dead, DB, .dead] hp0))), (G19 [vS fm 3 n 22, hcA own] (heapOf [o, (hB own), (hB h), OV, .dead] hp0), (vI fd 5 dn, heapOf [DB, .dead] (heapOf [o, (hB own), (hB h), OV, .dead] hp0)))], []) := by cases f <;> cases fm <;> cases fd <;> cases fp <;> kernel_rfl
theorem liZ_0 (f fm fd fp fl nb : Bool) (o OV DB PB LB : Blk) (n c dn pn m : Nat) (nz : Int) (own h : ViewV) (g : Nat → Value) : (execN Try.prog (aCall Try.prog E3l 60) (callN Try.prog E3l 60) 60 k3lz (stOf 81 g [(0, vS f 0 n c), (7, vS fm 1 n 22), (8, .int .i64 nz), (9, .bool nb), (10, .int .i64 nz), (11, .bool nb), (12, .bool true)] [o, OV]) (acc0 [(24, .h (.bool true) [.dead]), (19, .h (.bool true) [.dead]), (18, .h (vLv fl 5 m) [LB, .dead]), (16, .h (vD fl 3 m) [LB, .dead]), (12, .v (.bool true)), (7, .v (.bool true))])).map (fun y => (look2 0 [] [6] (y.1, y.2.1), y.2.2.q, y.2.2.r, y.2.2.x)) =
    some ((.ret, [], [(6, .bool true)], true), [(some (.bool (nb == nb)), .bool true), (some (.bool (nz == nz)), .bool true)], [(gSM [vS fm 1 n 22, vS f 0 n c] (heapOf [o, OV, .dead, LB, .dead, LB, .dead, .dead] hp0), (.bool true, heapOf [.dead] (heapOf [o, OV, .dead, LB, .dead, LB, .dead, .dead] hp0))), (gSL [vD fl 3 m, vLv fl 5 m] (heapOf [o, OV, .dead, LB, .dead, LB, .dead] hp0), (.bool true, heapOf [.dead] (heapOf [o, OV, .dead, LB, .dead, LB, .dead] hp0))), (G22r [vS f 0 n c] (heapOf [o, OV, .dead, LB, .dead] hp0), (vLv fl 5 m, heapOf [LB, .dead] (heapOf [o, OV, .dead, LB, .dead] hp0))), (GLv [vS fm 1 n 22] (heapOf [o, OV, .dead] hp0), (vD fl 3 m, heapOf [LB, .dead] (heapOf [o, OV, .dead] hp0)))], []) := by cases f <;> cases fm <;> cases fl <;> kernel_rfl
theorem q3l (v : Value) (O : List Blk) (g : Nat → Value) : retVal Try.prog Try.f3 (stOf 81 g [(6, v)] O) = some v := by kernel_rfl
end Go.Proofs.Ytgeoommlmddgpaa.LtL
namespace Go.Proofs.Ytgeoommlmddgpaa.LtL
open Go Go.Proofs Go.Proofs.Ytgeoommlmddgpaa.AI Go.RowKit Go.Proofs.Ytgeoommlmddgpaa.Sort Go.Proofs.Ytgeoommlmddgpaa.LtA
theorem lidxg {b c m i : Nat} (h : i < m) : fstV ((aIndexAddr Try.prog 34 (.slice (some ⟨b, 0, none⟩) m c) (iN i)).map fun v => (v, none)) = some (pb b (i * 3)) := by
  have h1 : (0 : Int) ≤ Int.ofNat i ∧ Int.ofNat i < (m : Int) := ⟨Int.natCast_nonneg i, by simpa using h⟩
  simp only [aIndexAddr, iN, Try.underlying34, sizeL]
  rw [if_pos h1]
  simp [fstV, pb]
theorem lloadg {hp : Hp} {b : Nat} {ro : Bool} {us : List Lev} {i : Nat} {x : Lev} (hg : hp.get b = some (.cells 42 (lrow us) ro)) (h : us[i]? = some x) : aLoad Try.prog hp.get 42 (pb b (i * 3)) = some (lA x) := by
  simp only [aLoad, pb, hg, aggL, sizeL]
  have := flat_getR (f := lc) (k := 3) (ps := us) (fun _ _ => rfl) h
  unfold lrow
  rw [this]
  rfl
def EndsA (e : Exit) (st : St) : Prop := e = .ret ∧ ∃ g, st = stOf 26 g [(4, .bool true)] []
theorem frSL (us : List Lev) (hn : us.length < 1000000) (W : Base) :
    FRwp Try.prog 26 W code20s ⟨tmsOf [.slice (some ⟨0, 0, none⟩) us.length 11, .slice (some ⟨1, 0, none⟩) us.length 10] 0 .leaf, heapOf [.cells 42 (lrow us) true, .cells 42 (lrow us) true, .dead] hp0, []⟩ EndsA := by
  have hi : inertB (.cells 42 (lrow us) true) = true := lrow_inert us
  generalize hA : Blk.cells 42 (lrow us) true = A at *
  have fx : ∀ r : List Blk, ∀ i, i < 2 → ∀ o', (A :: A :: r)[i]? = some o' → Fixed 0 o' := fixOO hi hi
  refine FRwp.seq (Q1 := fun e st => e = .normal ∧ ∃ g, st = stOf 26 g [(0, .slice (some ⟨0, 0, none⟩) us.length 11), (1, .slice (some ⟨1, 0, none⟩) us.length 10)] [A, A]) (FRwp.pieceN E20s_ok follows 60 2 _ _ _ _ (saA_0 A A us.length 0 zl (fun _ => nilS)) Met.nil MetH.nil MetE.nil sk20sa rfl rfl (fx _) fun g => ⟨rfl, g, rfl⟩) ?_ (fun x st hne hq => absurd hq.1 hne)
  rintro st ⟨-, g, rfl⟩
  refine FRwp.seq (Q1 := fun e st => e = .normal ∧ ∃ g, st = stOf 26 g [(0, .slice (some ⟨0, 0, none⟩) us.length 11), (1, .slice (some ⟨1, 0, none⟩) us.length 10)] [A, A]) (FRwp.pieceN E20s_ok follows 60 2 _ _ _ _ (saB_0 A A us.length 0 zl g) (Met.cons (bool_ok (by simp)) Met.nil) MetH.nil MetE.nil sk20sb rfl rfl (fx _) fun g => ⟨rfl, g, rfl⟩) ?_ (fun x st hne hq => absurd hq.1 hne)
  rintro st ⟨-, g, rfl⟩
  refine FRwp.seq (Q1 := fun e st => e = .normal ∧ ∃ g, st = stOf 26 g [] []) ?_ ?_ (fun x st hne hq => absurd hq.1 hne)
  rotate_left
  · rintro st ⟨-, g, rfl⟩
    exact FRwp.pieceN E20s_ok follows 60 0 _ _ _ _ (saZ_0 A A 0 0 zl g) Met.nil MetH.nil MetE.nil sk20sz rfl rfl (noFix _) fun g => ⟨rfl, g, rfl⟩
  refine FRwp.seq (Q1 := fun e st => e = .normal ∧ ∃ g, st = stOf 26 g [(0, .slice (some ⟨0, 0, none⟩) us.length 11), (1, .slice (some ⟨1, 0, none⟩) us.length 10), (5, iN 0)] [A, A]) (FRwp.pieceN E20s_ok follows 60 2 _ _ _ _ (saC_0 A A us.length 0 zl g) Met.nil MetH.nil MetE.nil sk20sc rfl rfl (fx _) fun g => ⟨rfl, g, rfl⟩) ?_ (fun x st hne hq => absurd hq.1 hne)
  rintro st ⟨-, g, rfl⟩
  refine fold_loop' (vs := us) (fun _ _ => ()) () (fun _ i g => stOf 26 g [(0, .slice (some ⟨0, 0, none⟩) us.length 11), (1, .slice (some ⟨1, 0, none⟩) us.length 10), (5, iN i)] [A, A]) (fun _ st => ∃ g, st = stOf 26 g [] []) (fun _ g _ => ?_) (fun i z _ g hz hk _ => ?_) g
  · exact FRwp.pieceN E20s_ok follows 60 2 _ _ _ _ (saL_2 A A us.length us.length zl g) (Met.cons (ltT (a := us.length) (b := us.length) (r := false) (by simp)) Met.nil) MetH.nil MetE.nil sk20sL rfl rfl fixN fun g => ⟨rfl, g, rfl⟩
  · have l0 : aLoad Try.prog (heapOf [A, A, .dead] hp0).get 42 (pb 0 (i * 3)) = some (lA z) := lloadg (ro := true) (us := us) (by rw [heapOf0_get, ← hA]; rfl) hz
    have l1 : aLoad Try.prog (heapOf [A, A, .dead] hp0).get 42 (pb 1 (i * 3)) = some (lA z) := lloadg (ro := true) (us := us) (by rw [heapOf0_get, ← hA]; rfl) hz
    have hw : (some (Value.int .i64 (wrapF .i64 (Int.ofNat i + Int.ofNat 1)))) = some (iN (i + 1)) := wrap_up (by omega)
    exact FRwp.pieceN E20s_ok follows 60 2 _ _ _ _ (saL_1 A A us.length i z g) (by repeat' (first | exact Go.Proofs.Ytgeoommlmddgpaa.AI.Met.nil | apply Go.Proofs.Ytgeoommlmddgpaa.AI.Met.cons | exact hw | exact l0 | exact l1 | exact lidxg hk | exact ltT (decide_eq_true hk) | exact (neLev z z).trans (bool_ok (by simp)))) MetH.nil MetE.nil sk20sL rfl rfl (fx _) fun g => ⟨rfl, g, rfl⟩
theorem hkSL : CallGoal Try.prog 20 gSL := scan_goal follows Try.func20 body20s (by kernel_rfl) fun args hp v hp' h hk => by
  unfold gSL at h
  rw [ntmps20s]
  split at h
  case h_2 => cases h
  rename_i s t
  split at h
  case isFalse => cases h
  rename_i hT
  obtain ⟨us, hn, hT⟩ := hT
  cases h
  have fin : ∀ {e : Exit} {st : St}, EndsA e st → (e = .normal ∨ e = .ret) ∧ st.df = [] ∧ ∃ v0, retVal Try.prog Try.f20 st = some v0 ∧ ok3 v0 = true ∧
      (∀ b ∈ ([] : List Nat), ∃ o, st.hp.get b = some o ∧ okBlk o = true ∧ rwB o = true) ∧ .bool true = sh3 [] hp.sz v0 ∧ [] = outOf [] hp.sz st.hp := by
    rintro e st ⟨rfl, g, rfl⟩
    exact ⟨.inr rfl, rfl, _, q20s _ _ g, rfl, (fun b hb => by cases hb), rfl, rfl⟩
  rcases hT with ⟨rfl, rfl⟩ | ⟨b1, b2, rfl, rfl, hne, h1, h2⟩
  · refine ⟨[], [], [], rfl, rfl, rfl, rfl, (fun b hb => by cases hb), rfl, (by simp), fun W => ?_⟩
    have e1 : [nilS, nilS].map (sh3 [] 0) = [nilS, nilS] := by simp [sh3, sh2, sh1, nilS]
    rw [e1]
    exact FRwp.pieceN E20s_ok follows 60 0 _ _ _ _ (saW_0 .dead .dead 0 0 zl (fun _ => nilS)) Met.nil MetH.nil MetE.nil sk20sw rfl rfl (noFix _) fun g => fin ⟨rfl, g, rfl⟩
  · have hbe : Nat.beq b1 b2 = false := by
      cases e : Nat.beq b1 b2 with
      | false => rfl
      | true => exact absurd (Nat.eq_of_beq_eq_true e) hne
    refine ⟨[b1, b2], [], [], rfl, rfl, by simp [nodupB, hbe], rfl, fun b' hb' => ?_, rfl, (by simp), fun W => ?_⟩
    · have : b' = b1 ∨ b' = b2 := by simpa using hb'
      rcases this with rfl | rfl
      · exact ⟨_, h1, inert_start (lB_inert _)⟩
      · exact ⟨_, h2, inert_start (lB_inert _)⟩
    · have e1 : [Value.slice (some ⟨b1, 0, none⟩) us.length 11, .slice (some ⟨b2, 0, none⟩) us.length 10].map (sh3 [b1, b2] 0) = [.slice (some ⟨0, 0, none⟩) us.length 11, .slice (some ⟨1, 0, none⟩) us.length 10] := by simp [sh3, sh2, sh1, rho, idxOf, hbe]
      have e2 : startHp [b1, b2] hp = heapOf [.cells 42 (lrow us) true, .cells 42 (lrow us) true, .dead] hp0 := start2 h1 h2 (lB_inert _) (lB_inert _)
      rw [e1, e2]
      exact FRwp.mono (frSL us hn W) fun e st q => fin q
open Classical in
theorem gSL_of {us : List Lev} {hp : Hp} {b1 b2 : Nat} (hne : b1 ≠ b2) (h1 : hp.get b1 = some (ownL us)) (h2 : hp.get b2 = some (ownL us)) (hn : us.length < 1000000) : gSL [vD (!us.isEmpty) b1 us.length, vLv (!us.isEmpty) b2 us.length] hp = some (.bool true, heapOf [.dead] hp) := by
  have h : SL us (vD (!us.isEmpty) b1 us.length) (vLv (!us.isEmpty) b2 us.length) hp := by
    cases us with
    | nil => exact .inl ⟨rfl, rfl⟩
    | cons i us => exact .inr ⟨b1, b2, rfl, rfl, hne, h1, h2⟩
  unfold gSL
  simp only
  rw [if_pos ⟨us, hn, h⟩]; rfl
theorem E3l_ok : ExtOk Try.prog E3l := extG_ok (extH_ok (.cons hk16 (.cons hk14 (.cons hkDir .nil)))) (.cons (pad_goal hkG34) (.cons hkG22 (.cons hkG11r (.cons hkG19 (.cons hkG16r (.cons hkG20 (.cons hkG18r (.cons hkSI (.cons hkLv (.cons hkG22r (.cons hkSL (.cons hkSM .nil))))))))))))
def EndsI (e : Exit) (st : St) : Prop := e = .ret ∧ ∃ g, st = stOf 81 g [(6, .bool true)] []
theorem hbl {hp : Hp} {b : Nat} {y : ViewV} (h : hp.get b = some (hB y)) : aLoad Try.prog hp.get 24 (pb b 0) = some (hcA y) := by
  simp only [aLoad, pb, h, hB, agg23, size23]
  rfl
theorem lawI_fr (f : Bool) (o : Blk) (own h : ViewV) (vs : List ViewV) (c : Nat) (ho : inertB o = true) (hrow : vs = [] ∨ ∃ ty ro, o = .cells ty (vrow vs) ro) (hfl : f = false → vs = [] ∧ o = .dead) (W : Base) :
    FRwp Try.prog 81 W code3l ⟨tmsOf [vS f 0 vs.length c, hcA own, hcA h] 0 .leaf, heapOf [o, .dead] hp0, []⟩ EndsI := by
  have hkk := kk_len hfl
  refine FRwp.seq (Q1 := fun e st => e = .normal ∧ ∃ g, st = stOf 81 g [(0, vS f 0 vs.length c), (4, pb 1 0), (5, pb 2 0)] [o, hB own, hB h]) (FRwp.pieceN E3l_ok follows 60 1 _ _ _ _ (liA_0 f false false false false false o .dead .dead .dead .dead vs.length c 0 0 0 0 own h (fun _ => nilS)) Met.nil MetH.nil MetE.nil sk3la rfl rfl (fix11 ho _) fun g => ⟨rfl, g, rfl⟩) ?_ (fun x st hne hq => absurd hq.1 hne)
  rintro st ⟨-, g, rfl⟩
  have fx3 : ∀ r : List Blk, ∀ i, i < 3 → ∀ o', (o :: hB own :: hB h :: r)[i]? = some o' → Fixed 0 o' := fixQ3 ho (hB_inert own) (hB_inert h)
  have fx4 : ∀ r : List Blk, ∀ i, i < 4 → ∀ o', (o :: hB own :: hB h :: LtA.ownB vs :: r)[i]? = some o' → Fixed 0 o' := fixQ4 ho (hB_inert own) (hB_inert h) (LtA.ownB_inert vs)
  let Q3 : Exit → St → Prop := fun e st => (e = .normal ∧ vs.length ≤ 80 ∧ ∃ g, st = stOf 81 g [(0, vS f 0 vs.length c), (4, pb 1 0), (5, pb 2 0)] [o, hB own, hB h]) ∨ EndsI e st
  refine FRwp.seq (Q1 := Q3) ?_ ?_ ?_
  · cases h15 : decide (80 < vs.length) with
    | true => exact FRwp.pieceN E3l_ok follows 60 3 _ _ _ _ (liB_0 f false false false false false o .dead .dead .dead .dead vs.length c 0 0 0 0 own h g) (Met.cons (gtT (a := kk f vs.length) (b := 80) (by rw [hkk]; exact h15)) Met.nil) MetH.nil MetE.nil sk3lb rfl rfl fixN fun g => .inr ⟨rfl, g, rfl⟩
    | false => exact FRwp.pieceN E3l_ok follows 60 3 _ _ _ _ (liB_1 f false false false false false o .dead .dead .dead .dead vs.length c 0 0 0 0 own h g) (Met.cons (gtT (a := kk f vs.length) (b := 80) (by rw [hkk]; exact h15)) Met.nil) MetH.nil MetE.nil sk3lb rfl rfl (fx3 _) fun g => .inl ⟨rfl, by simpa using h15, g, rfl⟩
  rotate_left
  · rintro e st hne (⟨h, -⟩ | h)
    · exact absurd h hne
    · exact h
  rintro st (⟨-, hle, g, rfl⟩ | ⟨h, -⟩)
  rotate_left
  · cases h
  have hn : vs.length < 1000000 := by omega
  have T0 : ∀ r : List Blk, TN vs (vS f 0 vs.length c) (heapOf (o :: r) hp0) := fun r => tn_vS ho hrow hfl (by rw [heapOf0_get]; rfl)
  have ld1 : ∀ r : List Blk, aLoad Try.prog (heapOf (o :: hB own :: r) hp0).get 24 (pb 1 0) = some (hcA own) := fun r => hbl (by rw [heapOf0_get]; rfl)
  have ld2 : ∀ (a : Blk) (r : List Blk), aLoad Try.prog (heapOf (o :: a :: hB h :: r) hp0).get 24 (pb 2 0) = some (hcA h) := fun a r => hbl (by rw [heapOf0_get]; rfl)
  have TM : ∀ r : List Blk, TN vs (vS (!vs.isEmpty) 3 vs.length 22) (heapOf (o :: hB own :: hB h :: LtA.ownB vs :: r) hp0) := fun r => by rw [← rowV_vS]; exact rowV_tn (by rw [heapOf0_get]; rfl)
  refine FRwp.seq (Q1 := fun e st => e = .normal ∧ ∃ g, st = stOf 81 g [(0, vS f 0 vs.length c), (4, pb 1 0), (5, pb 2 0), (7, vS (!vs.isEmpty) 3 vs.length 22)] [o, hB own, hB h, LtA.ownB vs]) (FRwp.pieceN E3l_ok follows 60 4 _ _ _ _ (liC_0 f (!vs.isEmpty) false false false false o (LtA.ownB vs) .dead .dead .dead vs.length c 0 0 0 0 own h g) Met.nil (MetH.cons ((pad_row (G34_of (T0 _) hn)).trans (by rw [rowV_vS]; rfl)) MetH.nil) MetE.nil sk3lc rfl rfl (fx4 _) fun g => ⟨rfl, g, rfl⟩) ?_ (fun x st hne hq => absurd hq.1 hne)
  rintro st ⟨-, g, rfl⟩
  obtain ⟨nz, nb, hnx⟩ : ∃ nz nb, nxtA own vs = .tuple #[.int .i64 nz, .bool nb] := by
    unfold nxtA
    split
    · exact ⟨_, _, rfl⟩
    · exact ⟨_, _, rfl⟩
  have hnv : ∀ sz, sh3 [] sz (nxtA own vs) = nxtA own vs := fun sz => by rw [hnx]; simp [sh3, sh2, sh1]
  have nx1 : ∀ {s : Value} {hp : Hp}, TN vs s hp → G22 [s, hcA own] hp = some (.tuple #[.int .i64 nz, .bool nb], heapOf [.dead] hp) := fun {s hp} ht => by rw [← hnx]; exact toldR_none (A := nxtR) ht hn rfl (hnv _)
  have nx2 : ∀ {s : Value} {hp : Hp}, TN vs s hp → G11r [s, hcA own] hp = some (.tuple #[.int .i64 nz, .bool nb], heapOf [.dead] hp) := fun {s hp} ht => by rw [← hnx]; exact toldR_none (A := nxtR) ht hn rfl (hnv _)
  refine FRwp.seq (Q1 := fun e st => e = .normal ∧ ∃ g, st = stOf 81 g [(0, vS f 0 vs.length c), (4, pb 1 0), (5, pb 2 0), (7, vS (!vs.isEmpty) 3 vs.length 22), (8, .int .i64 nz), (9, .bool nb)] [o, hB own, hB h, LtA.ownB vs]) (FRwp.pieceN E3l_ok follows 60 4 _ _ _ _ (liD_0 f (!vs.isEmpty) false false false nb o (LtA.ownB vs) .dead .dead .dead vs.length c 0 0 0 nz own h g) (Met.cons (ld1 _) Met.nil) (MetH.cons (nx1 (TM _)) MetH.nil) MetE.nil sk3ld rfl rfl (fx4 _) fun g => ⟨rfl, g, rfl⟩) ?_ (fun x st hne hq => absurd hq.1 hne)
  rintro st ⟨-, g, rfl⟩
  refine FRwp.seq (Q1 := fun e st => e = .normal ∧ ∃ g, st = stOf 81 g [(0, vS f 0 vs.length c), (4, pb 1 0), (5, pb 2 0), (7, vS (!vs.isEmpty) 3 vs.length 22), (8, .int .i64 nz), (9, .bool nb), (10, .int .i64 nz), (11, .bool nb)] [o, hB own, hB h, LtA.ownB vs]) (FRwp.pieceN E3l_ok follows 60 4 _ _ _ _ (liE_0 f (!vs.isEmpty) false false false nb o (LtA.ownB vs) .dead .dead .dead vs.length c 0 0 0 nz own h g) (Met.cons (ld1 _) Met.nil) (MetH.cons (nx2 (T0 _)) MetH.nil) MetE.nil sk3le rfl rfl (fx4 _) fun g => ⟨rfl, g, rfl⟩) ?_ (fun x st hne hq => absurd hq.1 hne)
  rintro st ⟨-, g, rfl⟩
  have d1 : ∀ {s : Value} {hp : Hp}, TN vs s hp → G19 [s, hcA own] hp = some (rowIv (idsD 1 own vs) hp.sz, heapOf [ownI (idsD 1 own vs), .dead] hp) := fun ht => toldR_ids (A := wayR19) ht hn rfl
  have d2 : ∀ {s : Value} {hp : Hp}, TN vs s hp → G16r [s, hcA own] hp = some (rowIv (idsD 1 own vs) hp.sz, heapOf [ownI (idsD 1 own vs), .dead] hp) := fun ht => toldR_ids (A := wayR19) ht hn rfl
  have u1 : ∀ {s : Value} {hp : Hp}, TN vs s hp → G20 [s, hcA own] hp = some (rowIv (idsD 2 own vs) hp.sz, heapOf [ownI (idsD 2 own vs), .dead] hp) := fun ht => toldR_ids (A := wayR20) ht hn rfl
  have u2 : ∀ {s : Value} {hp : Hp}, TN vs s hp → G18r [s, hcA own] hp = some (rowIv (idsD 2 own vs) hp.sz, heapOf [ownI (idsD 2 own vs), .dead] hp) := fun ht => toldR_ids (A := wayR20) ht hn rfl
  have hld : (idsD 1 own vs).length < 1000000 := by rw [idsD_len]; exact Nat.lt_of_le_of_lt (List.length_filter_le _ _) hn
  have hlu : (idsD 2 own vs).length < 1000000 := by rw [idsD_len]; exact Nat.lt_of_le_of_lt (List.length_filter_le _ _) hn
  generalize idsD 1 own vs = ds at *
  generalize idsD 2 own vs = us at *
  simp only [← vI_row] at d1 d2 u1 u2
  refine FRwp.seq (Q1 := fun e st => e = .normal ∧ ∃ g, st = stOf 81 g [(0, vS f 0 vs.length c), (7, vS (!vs.isEmpty) 1 vs.length 22), (8, .int .i64 nz), (9, .bool nb), (10, .int .i64 nz), (11, .bool nb), (12, .bool true)] [o, LtA.ownB vs]) (FRwp.pieceN E3l_ok follows 60 2 _ _ _ _ (liF_0 f (!vs.isEmpty) (!ds.isEmpty) (!us.isEmpty) false nb o (LtA.ownB vs) (ownI ds) (ownI us) .dead vs.length c ds.length us.length 0 nz own h g)
    (by repeat' (first | exact Go.Proofs.Ytgeoommlmddgpaa.AI.Met.nil | apply Go.Proofs.Ytgeoommlmddgpaa.AI.Met.cons | exact ld1 _ | exact ld2 _ _ | exact bool_ok (by simp)))
    (MetH.cons (by rw [vI_row, vI_row]; exact gSI_of (by omega) (by rw [heapOf0_get]; rfl) (by rw [heapOf0_get]; rfl) hlu) (MetH.cons (u2 (T0 _)) (MetH.cons (u1 (TM _)) (MetH.cons (by rw [vI_row, vI_row]; exact gSI_of (by omega) (by rw [heapOf0_get]; rfl) (by rw [heapOf0_get]; rfl) hld) (MetH.cons (d2 (T0 _)) (MetH.cons (d1 (TM _)) MetH.nil)))))) MetE.nil sk3lf rfl rfl (fixOO ho (LtA.ownB_inert vs) _) fun g => ⟨rfl, g, rfl⟩) ?_ (fun x st hne hq => absurd hq.1 hne)
  rintro st ⟨-, g, rfl⟩
  have TM1 : ∀ r : List Blk, TN vs (vS (!vs.isEmpty) 1 vs.length 22) (heapOf (o :: LtA.ownB vs :: r) hp0) := fun r => by rw [← rowV_vS]; exact rowV_tn (by rw [heapOf0_get]; rfl)
  have hm : (dlev (levsV vs)).length < 1000000 := Nat.lt_of_le_of_lt (Nat.le_trans (ded_len2 _) (levsV_len _)) hn
  have l1 : ∀ {s : Value} {hp : Hp}, TN vs s hp → GLv [s] hp = some (vD (!(dlev (levsV vs)).isEmpty) hp.sz (dlev (levsV vs)).length, heapOf [ownL (dlev (levsV vs)), .dead] hp) := fun ht => by rw [← rowLv_vD]; exact GLv_of ht hn
  have l2 : ∀ {s : Value} {hp : Hp}, TN vs s hp → G22r [s] hp = some (vLv (!(dlev (levsV vs)).isEmpty) hp.sz (dlev (levsV vs)).length, heapOf [ownL (dlev (levsV vs)), .dead] hp) := fun ht => by rw [← rowLr_v]; exact G22r_of ht hn
  generalize dlev (levsV vs) = ls at *
  have hS : ∀ r : List Blk, gSM [vS (!vs.isEmpty) 1 vs.length 22, vS f 0 vs.length c] (heapOf (o :: LtA.ownB vs :: r) hp0) = some (.bool true, heapOf [.dead] (heapOf (o :: LtA.ownB vs :: r) hp0)) := fun r => by
    rw [← rowV_vS]
    refine gSM_of (SM_new (by rw [heapOf0_get]; rfl) (T0 _) fun b' n' c' e => ?_) hn
    cases f with
    | true => have e2 : rowS 0 vs.length c = rowS b' n' c' := e; unfold rowS at e2; cases e2; omega
    | false => have e2 : nilS = rowS b' n' c' := e; unfold rowS nilS at e2; cases e2
  exact FRwp.pieceN E3l_ok follows 60 0 _ _ _ _ (liZ_0 f (!vs.isEmpty) false false (!ls.isEmpty) nb o (LtA.ownB vs) .dead .dead (ownL ls) vs.length c 0 0 ls.length nz own h g)
    (by repeat' (first | exact Go.Proofs.Ytgeoommlmddgpaa.AI.Met.nil | apply Go.Proofs.Ytgeoommlmddgpaa.AI.Met.cons | exact bool_ok (by simp)))
    (MetH.cons (hS _) (MetH.cons (gSL_of (by omega) (by rw [heapOf0_get]; rfl) (by rw [heapOf0_get]; rfl) hm) (MetH.cons (l2 (T0 _)) (MetH.cons (l1 (TM1 _)) MetH.nil)))) MetE.nil sk3lz rfl rfl (noFix _) fun g => ⟨rfl, g, rfl⟩
end Go.Proofs.Ytgeoommlmddgpaa.LtL
namespace Go.Proofs.Ytgeoommlmddgpaa.LtL
open Go Go.Proofs Go.Proofs.Ytgeoommlmddgpaa.AI Go.RowKit Go.ChangeShapes Go.Proofs.Ytgeoommlmddgpaa.LtA
theorem laidI : laidOutB Try.prog = true := by kernel_rfl
theorem ownI' : ownKnob Try.prog.godebug = none := by kernel_rfl
theorem endsI {e : Exit} {st : St} (h : EndsI e st) : (e = .normal ∨ e = .ret) ∧ st.df = [] ∧ retVal Try.prog Try.f3 st = some (.bool true) := by
  obtain ⟨rfl, g, rfl⟩ := h
  exact ⟨.inr rfl, rfl, q3l _ _ _⟩
theorem walkI {H : Type} {enc : TypeId × Value → H} (W : World) (base : Nat) (args : Array Value) (ds : List (DataW H)) (p : List MemPlace) (hsz : args.size = 3) (hval : ∀ (j : Nat) t v, Try.f3.params[j]? = some t → args[j]? = some v → Value.okWide Try.prog W .any base t v)
    (hA : DataW.TrodAll enc Try.prog W 0 (fun _ => true) true [22, 24, 24] args.toList ds p) : Calls Try.prog 3 args W fun e W' => e = .returned (.bool true) ∧ Below W.heap.size W W' := by
  obtain ⟨vl, vo, vh, rfl⟩ : ∃ vl vo vh, args = #[vl, vo, vh] := by
    obtain ⟨l⟩ := args
    match l, hsz with
    | [a, b, c], _ => exact ⟨a, b, c, rfl⟩
  obtain ⟨own, ho, rfl⟩ := open_height' 0 (hval 1 24 vo (by kernel_rfl) rfl)
  obtain ⟨y, hy, rfl⟩ := open_height' 0 (hval 2 24 vh (by kernel_rfl) rfl)
  obtain ⟨v1, vs1, d1, ds1, p1, q1, e1, _, _, hT, _⟩ := trodAll_cons hA
  cases e1
  obtain ⟨f, o, vs, m, hi, sim, ro, rv, hmax, hrow, hfl⟩ := row_argF (hval 0 22 vl (by kernel_rfl) rfl) hT
  refine law_end Try.func3 body3l ntmps3l W (args0 := [vS f 0 vs.length 2, hcA own, hcA y]) (by simp) (heapOf_ok _ _ hp0_ok) sim ro (.cons rv (.cons (VRel.plain rfl) (.cons (VRel.plain rfl) .nil))) fun W => ?_
  exact FRwp.mono (lawI_fr f o own y vs 2 hi hrow hfl W) fun e st h => endsI h
theorem params3 : ∀ t ∈ Try.f3.params.toList, Try.prog.readableRec t = true ∧ t < Try.prog.types.size := by
  have h : Try.f3.params.toList.all (fun t => Try.prog.readableRec t && decide (t < Try.prog.types.size)) = true := by kernel_rfl
  intro t ht
  have := List.all_eq_true.1 h t ht
  simpa using this
theorem lifted3 (os : Os) (started : os.Started) (H : Type) (enc : TypeId × Value → H) :
    ReturnsInHanded {} Try.checked os 3 .any (Rows.linksLieSpec.pre6 enc Try.prog Try.f3 Rows.linksLieRow.domain false) (Rows.linksLieSpec.post enc Try.prog Try.f3 false true false false) :=
  law_lifted (C := Try.checked) (tb := 4) started ownI' (by kernel_rfl) Try.func3 laidI params3 rfl (by kernel_rfl) Try.underlying4
    (fun ds hl => by
      match ds, hl with
      | [_, _, _], _ => rfl)
    (ChangeSpec.witness6 (enc := enc) (C := Try.checked) false ⟨#[], #[nilS, hcA (zeroV 0), hcA (zeroV 0)], []⟩ 8 (by kernel_rfl) (by kernel_rfl) (by kernel_rfl) (by kernel_rfl))
    (fun W base args ds p hsz hval hA => walkI W base args ds p hsz hval hA)
theorem linksLie_proved : Rows.LinksLieSaid :=
  OpenClaim.holds_of_wide 3 Try.f3 rfl rfl rfl rfl rfl rfl rfl ⟨rfl, rfl, rfl, rfl, rfl⟩ rfl rfl rfl rfl rfl (by kernel_rfl) Try.func3 (by kernel_rfl)
    (of_decide_eq_true (by kernel_rfl)) (by unfold Func.isWrapper; first | (rw [if_pos (by decide +kernel)]; kernel_rfl) | (rw [if_neg (by decide +kernel)]; exact ⟨rfl, rfl⟩))
    (fun os started H enc _ => lifted3 os started H enc)
#print axioms linksLie_proved
end Go.Proofs.Ytgeoommlmddgpaa.LtL
