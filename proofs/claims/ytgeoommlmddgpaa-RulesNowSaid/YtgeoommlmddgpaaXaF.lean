/- slices.SortFunc at rows of api.Level: the library's contract laid at this program; told. -/
import Derived.Test.YtgeoommlmddgpaaXaE
import Derived.Test.YtgeoommlmddgpaaAi42
import Derived.Shelf.SlSortCmp.WholeK
set_option linter.unusedVariables false
set_option linter.unusedSimpArgs false
set_option maxRecDepth 100000
namespace Go.Proofs.Ytgeoommlmddgpaa.LtL
open Go Go.Proofs Go.Proofs.Ytgeoommlmddgpaa.AI Go.RowKit Go.Proofs.Ytgeoommlmddgpaa.LtA Go.Shelf

def soF : Nat → Nat
  | 6 => 44
  | 14 => 79
  | 15 => 80
  | 20 => 83
  | 21 => 84
  | 22 => 85
  | 23 => 86
  | 24 => 87
  | 25 => 88
  | 26 => 89
  | 27 => 90
  | 28 => 91
  | 29 => 92
  | 46 => 95
  | 47 => 96
  | 48 => 97
  | 49 => 98
  | 50 => 99
  | 57 => 101
  | n => n
def soT : Nat → Nat
  | 22 => 34
  | 24 => 42
  | 25 => 40
  | 39 => 87
  | 45 => 91
  | 46 => 92
  | 50 => 26
  | 53 => 98
  | 55 => 100
  | 66 => 103
  | 70 => 107
  | 76 => 109
  | 77 => 110
  | n => n
def soR : Ren := ⟨soF, soT, fun n => n⟩
theorem soL : SlLaysF0.n6 Try.prog soR where
  mixed := follows
  f6 := ⟨Try.f44.name, by kernel_rfl, by kernel_rfl⟩
  f14 := ⟨Try.f79.name, by kernel_rfl, by kernel_rfl⟩
  f15 := by kernel_rfl
  f20 := ⟨Try.f83.name, by kernel_rfl, by kernel_rfl⟩
  f21 := ⟨Try.f84.name, by kernel_rfl, by kernel_rfl⟩
  f22 := ⟨Try.f85.name, by kernel_rfl, by kernel_rfl⟩
  f23 := ⟨Try.f86.name, by kernel_rfl, by kernel_rfl⟩
  f24 := ⟨Try.f87.name, by kernel_rfl, by kernel_rfl⟩
  f25 := ⟨Try.f88.name, by kernel_rfl, by kernel_rfl⟩
  f26 := ⟨Try.f89.name, by kernel_rfl, by kernel_rfl⟩
  f27 := ⟨Try.f90.name, by kernel_rfl, by kernel_rfl⟩
  f28 := by kernel_rfl
  f29 := by kernel_rfl
  f46 := ⟨Try.f95.name, by kernel_rfl, by kernel_rfl⟩
  f47 := by kernel_rfl
  f48 := by kernel_rfl
  f49 := ⟨Try.f98.name, by kernel_rfl, by kernel_rfl⟩
  f50 := ⟨Try.f99.name, by kernel_rfl, by kernel_rfl⟩
  f57 := ⟨Try.f101.name, by kernel_rfl, by kernel_rfl⟩
  t0 := by kernel_rfl
  a0 := fun w => by kernel_rfl
  z0 := fun w => by kernel_rfl
  v0 := fun w => by kernel_rfl
  t3 := by kernel_rfl
  a3 := fun w => by kernel_rfl
  z3 := fun w => by kernel_rfl
  v3 := fun w => by kernel_rfl
  t4 := by kernel_rfl
  a4 := fun w => by kernel_rfl
  z4 := fun w => by kernel_rfl
  v4 := fun w => by kernel_rfl
  t5 := by kernel_rfl
  a5 := fun w => by kernel_rfl
  z5 := fun w => by kernel_rfl
  v5 := fun w => by kernel_rfl
  t9 := by kernel_rfl
  a9 := fun w => by kernel_rfl
  z9 := fun w => by kernel_rfl
  v9 := fun w => by kernel_rfl
  t22 := by kernel_rfl
  a22 := fun w => by kernel_rfl
  z22 := fun w => by kernel_rfl
  v22 := fun w => by kernel_rfl
  t25 := by kernel_rfl
  a25 := fun w => by kernel_rfl
  z25 := fun w => by kernel_rfl
  v25 := fun w => by kernel_rfl
  t39 := by kernel_rfl
  a39 := fun w => by kernel_rfl
  z39 := fun w => by kernel_rfl
  v39 := fun w => by kernel_rfl
  t45 := by kernel_rfl
  a45 := fun w => by kernel_rfl
  z45 := fun w => by kernel_rfl
  v45 := fun w => by kernel_rfl
  t46 := by kernel_rfl
  a46 := fun w => by kernel_rfl
  z46 := fun w => by kernel_rfl
  v46 := fun w => by kernel_rfl
  t50 := by kernel_rfl
  a50 := fun w => by kernel_rfl
  z50 := fun w => by kernel_rfl
  v50 := fun w => by kernel_rfl
  t53 := by kernel_rfl
  a53 := fun w => by kernel_rfl
  z53 := fun w => by kernel_rfl
  v53 := fun w => by kernel_rfl
  t55 := by kernel_rfl
  a55 := fun w => by kernel_rfl
  z55 := fun w => by kernel_rfl
  v55 := fun w => by kernel_rfl
  t66 := by kernel_rfl
  a66 := fun w => by kernel_rfl
  z66 := fun w => by kernel_rfl
  v66 := fun w => by kernel_rfl
  t70 := by kernel_rfl
  a70 := fun w => by kernel_rfl
  z70 := fun w => by kernel_rfl
  v70 := fun w => by kernel_rfl
  t76 := by kernel_rfl
  a76 := fun w => by kernel_rfl
  z76 := fun w => by kernel_rfl
  v76 := fun w => by kernel_rfl
  t77 := by kernel_rfl
  a77 := fun w => by kernel_rfl
  z77 := fun w => by kernel_rfl
  v77 := fun w => by kernel_rfl
end Go.Proofs.Ytgeoommlmddgpaa.LtL
namespace Go.Proofs.Ytgeoommlmddgpaa.LtL
open Go Go.Proofs Go.Proofs.Ytgeoommlmddgpaa.AI Go.RowKit Go.Proofs.Ytgeoommlmddgpaa.LtA Go.Shelf

/-! ### Levels -/
abbrev Lev := Int × Int × Int
def lc (x : Lev) : List Value := [.int .i64 x.1, .int .i64 x.2.1, .int .i64 x.2.2]
def lrow (ls : List Lev) : List Value := ls.flatMap lc
def lB (ls : List Lev) : Blk := .cells 42 (lrow ls) false
def ordL (x y : Lev) : Int := ord3 x.1 x.2.1 x.2.2 y.1 y.2.1 y.2.2
def ltL (x y : Lev) : Bool := Go.Proofs.ltOf ordL x y
theorem ordL_lt {x y : Lev} : ordL x y < 0 ↔ (x.1 < y.1 ∨ x.1 = y.1 ∧ (x.2.1 < y.2.1 ∨ x.2.1 = y.2.1 ∧ x.2.2 < y.2.2)) := by
  obtain ⟨a, b, c⟩ := x
  obtain ⟨d, e, f⟩ := y
  show ord3 a b c d e f < 0 ↔ (a < d ∨ a = d ∧ (b < e ∨ b = e ∧ c < f))
  unfold ord3 or3 cmp3
  rcases Int.lt_trichotomy a d with h1 | h1 | h1
  · have : ¬ (a > d) := by omega
    simp [h1]
  · subst h1
    rcases Int.lt_trichotomy b e with h2 | h2 | h2
    · simp [h2]
    · subst h2
      rcases Int.lt_trichotomy c f with h3 | h3 | h3
      · simp [h3]
      · subst h3; simp
      · have q : ¬ (c < f) := by omega
        simp [h3, q]
    · have q : ¬ (b < e) := by omega
      have q2 : ¬ (b = e) := by omega
      simp [h2, q, q2]
  · have q : ¬ (a < d) := by omega
    have q2 : ¬ (a = d) := by omega
    simp [h1, q, q2]
theorem ltL_iff {x y : Lev} : ltL x y = true ↔ (x.1 < y.1 ∨ x.1 = y.1 ∧ (x.2.1 < y.2.1 ∨ x.2.1 = y.2.1 ∧ x.2.2 < y.2.2)) := by
  unfold ltL Go.Proofs.ltOf
  rw [decide_eq_true_iff, ordL_lt]
theorem ltL_not {x y : Lev} : ltL x y = false ↔ ¬ (x.1 < y.1 ∨ x.1 = y.1 ∧ (x.2.1 < y.2.1 ∨ x.2.1 = y.2.1 ∧ x.2.2 < y.2.2)) := by
  rw [← ltL_iff]; simp
theorem swoL : Go.Sort.SWO (Go.Proofs.ltOf ordL) where
  irrefl x := by
    show ltL x x = false
    rw [ltL_not]; omega
  trans x y z h1 h2 := by
    have h1 := ltL_iff.1 h1
    have h2 := ltL_iff.1 h2
    exact ltL_iff.2 (by omega)
  ntrans x y z h1 h2 := by
    have h1 := ltL_not.1 h1
    have h2 := ltL_not.1 h2
    exact ltL_not.2 (by omega)
theorem ltL_eq {x y : Lev} (h1 : ltL x y = false) (h2 : ltL y x = false) : x = y := by
  rw [ltL_not] at h1 h2
  obtain ⟨a, b, c⟩ := x
  obtain ⟨d, e, f⟩ := y
  simp only at h1 h2
  have : a = d := by omega
  have : b = e := by omega
  have : c = f := by omega
  simp [*]
/-- The levels, sorted. -/
def sortL (ls : List Lev) : List Lev := ls.mergeSort fun x y => !Go.Proofs.ltOf ordL y x
theorem sortL_len (ls : List Lev) : (sortL ls).length = ls.length := List.length_mergeSort ..
theorem lc_len (x : Lev) : (lc x).length = 3 := rfl
theorem lrow_len (ls : List Lev) : (lrow ls).length = ls.length * 3 := by unfold lrow; rw [flat_len lc 3 ls fun _ _ => rfl]
theorem lrow_inert (ls : List Lev) : (lrow ls).all inert = true := by
  refine List.all_eq_true.2 fun v hv => ?_
  obtain ⟨x, -, hx⟩ := List.mem_flatMap.1 hv
  simp only [lc, List.mem_cons, List.not_mem_nil, or_false] at hx
  rcases hx with rfl | rfl | rfl <;> rfl
theorem lB_inert (ls : List Lev) : inertB (lB ls) = true := lrow_inert ls
/-! ### Worlds -/
theorem grow_of_bel {w w' : World} (b : Bel w.heap.size w w') : ∃ q os, w' = Go.Sort.grow (w.drewN q) os := by
  refine ⟨w'.drawn - w.drawn, w'.heap.extract w.heap.size w'.heap.size, ?_⟩
  have hd := b.tape.dr trivial
  have hh : w'.heap = w.heap ++ w'.heap.extract w.heap.size w'.heap.size := by
    apply Array.ext_getElem?
    intro k
    by_cases hk : k < w.heap.size
    · rw [Array.getElem?_append_left hk, b.block k hk]
    · rw [Array.getElem?_append_right (by omega), Array.getElem?_extract]
      have hs := b.size
      by_cases hk2 : k < w'.heap.size
      · rw [if_pos (by omega)]; congr 1; omega
      · rw [if_neg (by omega)]; exact Array.getElem?_eq_none (by omega)
  obtain ⟨h1, t1, d1, o1, u1⟩ := w
  obtain ⟨h2, t2, d2, o2, u2⟩ := w'
  have e1 : o2 = o1 := b.os
  have e2 : t2 = t1 := b.tape.eq
  have e3 : u2 = u1 := b.output
  have e4 : d1 + (d2 - d1) = d2 := by have : d1 ≤ d2 := hd; omega
  subst e1; subst e2; subst e3
  show World.mk _ _ _ _ _ = World.mk _ _ _ _ _
  simp only [World.drewN, e4]
  exact congrArg (fun h => World.mk h _ _ _ _) hh
theorem cmpLays (blk off size : Nat) (w : World) : CmpLays Try.prog 25 #[] lc 3 ordL blk off size w := fun m os dk _ x y =>
  (hk30.run [.agg (lc x).toArray, .agg (lc y).toArray] (.int .i64 (ordL x y)) rfl _).mono fun e w' h => ⟨h.1, grow_of_bel h.2⟩
theorem flatL (ls : List Lev) : (Go.Sort.flatK lc 3 ls.toArray).toList = lrow ls := by
  apply List.ext_getElem?
  intro t
  have hs : (Go.Sort.flatK lc 3 ls.toArray).size = ls.length * 3 := by rw [Go.Sort.size_flatK]; simp
  by_cases ht : t < ls.length * 3
  · have hq : t / 3 < ls.length := by omega
    have hg : ls[t / 3]? = some ls[t / 3] := List.getElem?_eq_getElem hq
    have h1 := flat_get lc 3 ls (fun _ _ => rfl) (t / 3) (t % 3) _ hg (by omega)
    rw [show t / 3 * 3 + t % 3 = t by omega] at h1
    show _ = (ls.flatMap lc)[t]?
    rw [h1, Array.getElem?_toList, Array.getElem?_eq_getElem (by omega), ← getElem!_pos _ t (by omega), Go.Sort.get_flatK _ _ _ _ (by simpa using ht)]
    have e : ls.toArray[t / 3]! = ls[t / 3] := by rw [getElem!_pos _ _ (by simpa using hq)]; simp
    rw [e]
    have h3 : t % 3 < (lc ls[t / 3]).length := by rw [lc_len]; omega
    rw [List.getElem?_eq_getElem h3, getElem!_pos (lc ls[t / 3]) (t % 3) h3]
  · rw [Array.getElem?_toList, Array.getElem?_eq_none (by omega), List.getElem?_eq_none (by rw [lrow_len]; omega)]
open Classical in
/-- slices.SortFunc, of a row of one level at least. -/
noncomputable def gSF : HeapFn := fun args hp => match args with
  | [.slice (some ⟨b, 0, none⟩) n c, f] => if h : f = .func (.func 25) #[] #[] ∧ ∃ ls : List Lev, hp.get b = some (lB ls) ∧ n = ls.length ∧ 0 < n ∧ n < 4611686018427387904 then some (.tuple #[], hp.put b (lB (sortL h.2.choose))) else none
  | _ => none
theorem lrow_inj : ∀ {us vs : List Lev}, lrow us = lrow vs → us = vs
  | [], [], _ => rfl
  | [], v :: vs, h => by simp [lrow, lc] at h
  | u :: us, [], h => by simp [lrow, lc] at h
  | u :: us, v :: vs, h => by
    simp only [lrow, List.flatMap_cons, lc, List.cons_append, List.nil_append, List.cons.injEq, Value.int.injEq, true_and] at h
    obtain ⟨h1, h2, h3, h4⟩ := h
    rw [lrow_inj (us := us) (vs := vs) h4]
    obtain ⟨a, b, c⟩ := u
    obtain ⟨d, e, f⟩ := v
    simp only at h1 h2 h3
    rw [h1, h2, h3]
theorem gSF_of {ls : List Lev} {b n c : Nat} {hp : Hp} (hb : hp.get b = some (lB ls)) (hn : n = ls.length) (h0 : 0 < n) (h1 : n < 4611686018427387904) : gSF [.slice (some ⟨b, 0, none⟩) n c, .func (.func 25) #[] #[]] hp = some (.tuple #[], hp.put b (lB (sortL ls))) := by
  unfold gSF
  have hx : Value.func (.func 25) #[] #[] = .func (.func 25) #[] #[] ∧ ∃ ls : List Lev, hp.get b = some (lB ls) ∧ n = ls.length ∧ 0 < n ∧ n < 4611686018427387904 := ⟨rfl, ls, hb, hn, h0, h1⟩
  simp only
  rw [dif_pos hx]
  have e := hx.2.choose_spec.1
  have e2 := hb.symm.trans e
  unfold lB at e2
  injection e2 with e2
  injection e2 with _ e2 _
  have e3 := lrow_inj e2
  exact congrArg (fun l => some (Value.tuple #[], hp.put b (lB (sortL l)))) e3.symm
theorem hkSF : CallGoal Try.prog 44 gSF := by
  intro args hp v hp' he hk
  unfold gSF at he
  split at he
  case h_2 => cases he
  rename_i b n c f
  split at he
  case isFalse => cases he
  rename_i hx
  obtain ⟨hf, hex⟩ := hx
  obtain ⟨hb, hn, hn0, hn1⟩ := hex.choose_spec
  generalize hex.choose = ls at *
  cases he
  subst hf
  have hlt := lt_of_get hk hb
  have hkput : (hp.put b (lB (sortL ls))).ok := fun c hc => by
    rw [Hp.sz_put] at hc
    rw [Hp.get_put, if_neg (by omega)]
    exact hk c hc
  refine ⟨hkput, by rw [Hp.sz_put]; exact Nat.le_refl _, fun m h w args' hfr s ra => .inr ⟨run_callFunc Try.func44 (by rfl) (by kernel_rfl), ?_⟩⟩
  obtain ⟨v1, bs1, e1, r1, q1⟩ := ra.of_cons
  obtain ⟨v2, bs2, e2, r2, q2⟩ := q1.of_cons
  have e3 := q2.of_nil
  subst e3
  obtain ⟨b', off, r, off', cap, ea, rfl, hcap, hd⟩ := r1.of_slice
  cases ea
  have gb := ovr_sub hk h b _ hb
  rcases hd with hd | ⟨δ, E, hm, hoff, -⟩
  · rw [gb] at hd; cases hd
  · have ho : off' = δ := by
      rcases hoff with h1 | h1
      · omega
      · omega
    subst ho
    have ev2 : v2 = .func (.func 25) #[] #[] := by
      obtain ⟨a', c', rfl, ⟨s1, _⟩, ⟨s3, _⟩⟩ := r2.of_func
      have z1 : a' = #[] := Array.eq_empty_of_size_eq_zero (by simpa using s1.symm)
      have z2 : c' = #[] := Array.eq_empty_of_size_eq_zero (by simpa using s3.symm)
      subst z1; subst z2; rfl
    subst ev2
    have eargs : args' = #[.slice (some ⟨r, off', none⟩) n cap, .func (.func 25) #[] #[]] := by
      have : args'.toList = [.slice (some ⟨r, off', none⟩) n cap, .func (.func 25) #[] #[]] := by rw [e1, e2]
      cases args'; simp_all
    subst eargs
    obtain ⟨o, ho', hbr⟩ := s.dom b _ hm
    rw [gb] at ho'; cases ho'
    obtain ⟨cc, fr, g1, g2, g3, g4, g5⟩ := hbr
    have hlen : (lrow ls).length = ls.length * 3 := lrow_len ls
    simp only at g1 g2 g3 g4 g5
    have hr : r < w.heap.size := (Array.getElem?_eq_some_iff.1 g1).1
    have hH : Go.Sort.HoldsK lc 3 w r off' ls.toArray := by
      intro j hj
      have hj' : j < ls.length * 3 := by rw [Go.Sort.size_flatK] at hj; simpa using hj
      have hjL : j < (lrow ls).length := by omega
      have hcj : off' + j < cc.size := by omega
      have hv := g4 j _ cc[off' + j] (List.getElem?_eq_getElem hjL) (Array.getElem?_eq_getElem hcj)
      have hin := List.all_eq_true.1 (lrow_inert ls) _ (List.getElem_mem hjL)
      have ev : cc[off' + j] = (lrow ls)[j] := by
        obtain ⟨x, -, hx⟩ := List.mem_flatMap.1 (List.getElem_mem hjL)
        simp only [lc, List.mem_cons, List.not_mem_nil, or_false] at hx
        rcases hx with hx | hx | hx <;> (rw [hx] at hv ⊢; exact hv.of_int)
      constructor
      · rw [cell_of g1, Array.getElem?_eq_getElem hcj, ev]
        have := congrArg (fun l => l[j]?) (flatL ls)
        simp only [Array.getElem?_toList] at this
        rw [Array.getElem?_eq_getElem hj, List.getElem?_eq_getElem hjL] at this
        rw [getElem!_pos _ j hj]
        simpa using this.symm
      · unfold World.frozen?
        rw [g1]
        have := g5.1 trivial (off' + j) (by omega)
        obtain ⟨lo, hi⟩ := fr
        simp only at this ⊢
        simp only [Bool.and_eq_false_imp, decide_eq_true_eq, decide_eq_false_iff_not]
        intro q; omega
    have eg : ∀ args w, (callFunc 25 args).run Try.prog w = .ok (.enter 25 args) w := fun args w => run_callFunc Try.func25 (by rfl) (by kernel_rfl)
    have hcon := AnyQ.slices_SortFunc soL 3 (fun w => by kernel_rfl) (fun w => by kernel_rfl) lc (fun _ => rfl) (fun x v hv => by simp [lc] at hv; rcases hv with rfl | rfl | rfl <;> rfl) ordL swoL 25 #[] r off' cap ls.toArray w eg (cmpLays r off' _ w) hH hr (by simp; omega)
    change Calls Try.prog 44 _ _ _ at hcon
    rw [show ls.toArray.size = n by simp [hn]] at hcon
    refine hcon.mono fun e w' hh => ?_
    obtain ⟨rfl, d', q, os, hp1, hs1, rfl⟩ := hh
    have hd' : d'.toList = sortL ls := by
      have := Go.Sort.sorted_unique_holds swoL (fun x y => ltL_eq) ls.toArray d' (by rw [show ls.toArray.size = n by simp [hn]]; exact hp1) (by rw [show ls.toArray.size = n by simp [hn]]; exact hs1)
      simpa [sortL] using this
    have hds : d'.size = n := by
      have := congrArg List.length hd'
      rw [sortL_len, Array.length_toList] at this
      omega
    have ed : d' = (sortL ls).toArray := by rw [← hd']
    refine ⟨.tuple #[], rfl, m, ?_, .tuple rfl fun i v v' q1 _ => by simp at q1⟩
    -- the world behind it
    have hheap : ∀ k, (Go.Proofs.sortWorldK lc 3 w r off' q d' os).heap[k]? = if k < w.heap.size then (if k = r then (w.heap[k]?).map (Go.Sort.onCells (Go.Sort.putCells id off' (Go.Sort.flatK lc 3 d'))) else w.heap[k]?) else os[k - w.heap.size]? := by
      intro k
      unfold Go.Proofs.sortWorldK Go.Sort.grow Go.Sort.putRowK Go.Sort.putRow Go.Sort.mapBlock Go.Sort.ahead
      simp only [Array.getElem?_append, Array.size_modify, Array.getElem?_modify]
      by_cases hk1 : k < w.heap.size
      · rw [if_pos hk1, if_pos hk1]
        by_cases hk2 : r = k
        · subst hk2; simp
        · rw [if_neg hk2, if_neg (fun e => hk2 e.symm)]
      · rw [if_neg hk1, if_neg hk1]
    have kp : Keeps ⟨w, fun k => k = (r, off', E).1⟩ (Go.Proofs.sortWorldK lc 3 w r off' q d' os) := by
      refine ⟨rfl, ⟨rfl, fun _ => Nat.le_add_right _ _⟩, rfl, ?_, fun k hk1 hne => ?_⟩
      · unfold Go.Proofs.sortWorldK Go.Sort.grow Go.Sort.putRowK Go.Sort.putRow Go.Sort.mapBlock Go.Sort.ahead; simp
      · rw [hheap, if_pos hk1, if_neg hne]
    have e0 : (heapOf [lB (sortL ls), .dead] hp0).get 0 = some (lB (sortL ls)) := by rw [heapOf0_get]; rfl
    have fsz : (Go.Sort.flatK lc 3 d').size = n * 3 := by rw [Go.Sort.size_flatK, hds]
    have hsim : Sim (fun b => if b = 0 then some (r, off', E) else none) (heapOf [lB (sortL ls), .dead] hp0).get (Go.Proofs.sortWorldK lc 3 w r off' q d' os) := by
      refine ⟨fun b x hx => ?_, fun b b' x x' hx hx' _ _ _ => ?_⟩
      · by_cases hb0 : b = 0
        · subst hb0
          simp only [if_true, Option.some.injEq] at hx
          subst hx
          refine ⟨_, e0, Go.Sort.putCells id off' (Go.Sort.flatK lc 3 d') cc, fr, ?_, ?_, ?_, fun i u u' p1 p2 => ?_, ?_⟩
          · rw [hheap, if_pos hr, if_pos rfl, g1]; rfl
          · rw [lrow_len, sortL_len]; rw [hlen] at g2; exact g2
          · show E ≤ _
            simpa [Go.Sort.putCells] using g3
          · have hi : i < (lrow (sortL ls)).length := (List.getElem?_eq_some_iff.1 p1).1
            have hi' : i < n * 3 := by rw [lrow_len, sortL_len] at hi; omega
            have hci : off' + i < cc.size := by omega
            have hu : u' = (Go.Sort.flatK lc 3 d')[i]! := by
              simp only [Go.Sort.putCells, Array.getElem?_mapIdx, Array.getElem?_eq_getElem hci, Option.map_some, Option.some.injEq] at p2
              rw [if_pos ⟨by omega, by omega⟩, show off' + i - off' = i by omega] at p2
              exact p2.symm
            have hfl : (Go.Sort.flatK lc 3 d')[i]? = some u := by
              have := congrArg (fun l => l[i]?) (flatL (sortL ls))
              simp only [Array.getElem?_toList] at this
              rw [ed, this, p1]
            have : u' = u := by
              rw [hu, getElem!_pos _ i (by omega)]
              rw [Array.getElem?_eq_getElem (by omega)] at hfl
              simpa using hfl
            subst this
            have hin := List.all_eq_true.1 (lrow_inert (sortL ls)) _ (List.mem_of_getElem? p1)
            obtain ⟨x, -, hx⟩ := List.mem_flatMap.1 (List.mem_of_getElem? p1)
            simp only [lc, List.mem_cons, List.not_mem_nil, or_false] at hx
            rcases hx with rfl | rfl | rfl <;> exact .flat rfl
          · refine ⟨fun _ j hj => g5.1 trivial j (by simpa [Go.Sort.putCells] using hj), fun h => by cases h⟩
        · rw [if_neg hb0] at hx; cases hx
      · by_cases hb0 : b = 0
        · by_cases hb1 : b' = 0
          · rw [hb0, hb1]
          · rw [if_neg hb1] at hx'; cases hx'
        · rw [if_neg hb0] at hx; cases hx
    exact putIn_go (x := (r, off', E)) hk s hb hm kp hsim (by simp) e0 (lrow_inert _)
end Go.Proofs.Ytgeoommlmddgpaa.LtL
