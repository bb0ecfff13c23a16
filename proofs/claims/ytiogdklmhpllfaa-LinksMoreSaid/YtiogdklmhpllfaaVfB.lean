/- views.Forget: whatever the row, a new one, in which those at the level are not known any more. -/
import Derived.Test.YtiogdklmhpllfaaVfA
import Derived.Lib.Overlaps
import Derived.Laws.Externs
set_option linter.unusedVariables false
set_option linter.unusedSimpArgs false
set_option maxRecDepth 100000
namespace Go.Proofs.Ytiogdklmhpllfaa.LtA
open Go Go.Proofs Go.Proofs.Ytiogdklmhpllfaa.AI Go.RowKit

def levA (lt lo lr : Int) : Value := .agg #[.int .i64 lt, .int .i64 lo, .int .i64 lr]
def lvB (lt lo lr : Int) : Blk := .cells 46 [.int .i64 lt, .int .i64 lo, .int .i64 lr] false
def p1 : Value := .pointer (some ⟨1, 0, none⟩)
def rowB (us : List ViewV) : Blk := .cells 34 (vrow us) false
section
variable (o : Blk) (vs us : List ViewV) (n c : Nat) (lt lo lr keep : Int)
def nxt29 (i : Nat) : Obl := (some (.int .i64 (wrapF .i64 (Int.ofNat i + 1))), iN (i + 1))
end
/-! ### What it does -/
def levEq (lt lo lr : Int) (x : ViewV) : Bool := lev0 x.n x.t x.o x.r x.d x.i == lt && (lev1 x.n x.t x.o x.r x.d x.i == lo && (lev2 x.n x.t x.o x.r x.d x.i == lr && true))
def nullV (x : ViewV) : ViewV := ⟨x.id, true, 0, 0, 0, 0, x.i⟩
def isAt (lt lo lr keep : Int) (x : ViewV) : Bool := (x.id != keep) && (told x.n x.t x.o x.r x.d x.i && levEq lt lo lr x)
def fgt (lt lo lr keep : Int) (x : ViewV) : ViewV := bif isAt lt lo lr keep x then nullV x else x
section
variable {lt lo lr keep : Int} {vs : List ViewV}
end
theorem put_row {us : List ViewV} {i k : Nat} {x y : ViewV} {ns : List Value} (hx : us[i]? = some x) (hk : k + ns.length ≤ 7) (hy : ∀ j, j < 7 → (vc y)[j]? = if k ≤ j ∧ j < k + ns.length then ns[j - k]? else (vc x)[j]?) :
    putL (vrow us) (i * 7 + k) ns = vrow (us.set i y) := by
  have hi : i < us.length := (List.getElem?_eq_some_iff.1 hx).1
  have hl := vrow_len us
  apply List.ext_getElem?
  intro j
  rw [putL_get]
  by_cases hj : j < us.length * 7
  · have hq : j / 7 < us.length := Nat.div_lt_of_lt_mul (by rw [Nat.mul_comm]; exact hj)
    have hr : j % 7 < 7 := Nat.mod_lt _ (by omega)
    have hs : j / 7 * 7 + j % 7 = j := by omega
    obtain ⟨u, hu⟩ : ∃ u, us[j / 7]? = some u := ⟨_, List.getElem?_eq_getElem hq⟩
    have g1 : (vrow us)[j]? = (vc u)[j % 7]? := by
      have := flat_get vc 7 us (fun _ _ => rfl) (j / 7) (j % 7) u hu hr
      rw [hs] at this; exact this
    by_cases hqi : j / 7 = i
    · have hux : u = x := by rw [hqi, hx] at hu; exact (Option.some.inj hu).symm
      subst hux
      have hset : (us.set i y)[j / 7]? = some y := by rw [hqi]; simp [hi]
      have g2 : (vrow (us.set i y))[j]? = (vc y)[j % 7]? := by
        have := flat_get vc 7 (us.set i y) (fun _ _ => rfl) (j / 7) (j % 7) y hset hr
        rw [hs] at this; exact this
      rw [g2, hy _ hr, g1]
      by_cases hc : k ≤ j % 7 ∧ j % 7 < k + ns.length
      · rw [if_pos hc, if_pos (by rw [hl]; omega)]
        congr 1; omega
      · rw [if_neg hc, if_neg (by rw [hl]; omega)]
    · have hset : (us.set i y)[j / 7]? = some u := by rw [List.getElem?_set_ne (by omega)]; exact hu
      have g2 : (vrow (us.set i y))[j]? = (vc u)[j % 7]? := by
        have := flat_get vc 7 (us.set i y) (fun _ _ => rfl) (j / 7) (j % 7) u hset hr
        rw [hs] at this; exact this
      rw [g2, g1, if_neg]
      intro hc
      have : i * 7 ≤ j ∧ j < i * 7 + 7 := by omega
      omega
  · rw [if_neg (by rw [hl]; omega), List.getElem?_eq_none (by rw [hl]; omega), List.getElem?_eq_none (by rw [vrow_len]; simp; omega)]
theorem size23 : tsize Try.prog 23 = some 6 := by kernel_rfl
theorem fix1 (us : List ViewV) : ∀ r : List Blk, ∀ i, i < 1 → ∀ o', (rowB us :: r)[i]? = some o' → Fixed 0 o' := by
  intro r i hi o' h
  have : i = 0 := by omega
  subst this
  simp at h
  subst h
  exact inert_fixed (row_block us) 0
end Go.Proofs.Ytiogdklmhpllfaa.LtA
namespace Go.Proofs.Ytiogdklmhpllfaa.LtA
open Go Go.Proofs Go.Proofs.Ytiogdklmhpllfaa.AI Go.RowKit

section
variable (lt lo lr keep : Int)
def p0 : Value := .pointer (some ⟨0, 0, none⟩)
def nilS : Value := .slice none 0 0
end

/-- A row of views in a caller's heap, not nil. -/
def TR (vs : List ViewV) (s : Value) (hp : Hp) : Prop := ∃ b c o, s = rowS b vs.length c ∧ hp.get b = some o ∧ inertB o = true ∧ (vs = [] ∨ ∃ ty ro, o = .cells ty (vrow vs) ro)
theorem TR.not_nil {vs : List ViewV} {hp : Hp} (h : TR vs nilS hp) : False := by
  obtain ⟨b, c, o, h, _⟩ := h
  simp [rowS, nilS] at h
open Classical in
noncomputable def g29 (vs : List ViewV) : HeapFn := fun args hp => match args with
  | [s, .agg cs, .int .i64 keep] => match cs.toList with
    | [.int .i64 lt, .int .i64 lo, .int .i64 lr] =>
      if s = nilS ∧ vs = [] then some (nilS, heapOf ([] ++ [.dead]) hp)
      else if TR vs s hp then some (newS hp.sz vs.length, heapOf ([rowB (vs.map (fgt lt lo lr keep))] ++ [.dead]) hp)
      else none
    | _ => none
  | _ => none
open Classical in
theorem g29_nil {hp : Hp} {lt lo lr keep : Int} : g29 [] [nilS, levA lt lo lr, .int .i64 keep] hp = some (nilS, heapOf [.dead] hp) := by
  show (if nilS = nilS ∧ ([] : List ViewV) = [] then _ else _) = _
  rw [if_pos ⟨rfl, rfl⟩]
  rfl
open Classical in
theorem g29_row {vs : List ViewV} {hp : Hp} {s : Value} {lt lo lr keep : Int} (hT : TR vs s hp) : g29 vs [s, levA lt lo lr, .int .i64 keep] hp = some (newS hp.sz vs.length, heapOf [rowB (vs.map (fgt lt lo lr keep)), .dead] hp) := by
  show (if s = nilS ∧ vs = [] then _ else if TR vs s hp then _ else _) = _
  rw [if_neg (by rintro ⟨rfl, _⟩; exact hT.not_nil), if_pos hT]
  rfl
end Go.Proofs.Ytiogdklmhpllfaa.LtA
namespace Go.Proofs.Ytiogdklmhpllfaa.LtA
open Go Go.Proofs Go.Proofs.Ytiogdklmhpllfaa.AI Go.RowKit

/-! ### Check -/
noncomputable abbrev code18 : Code := .seq c18a (.seq (.seq c18b (.block 0 (.loop c18c))) c18d)
theorem n18a : (execQ Try.prog cE [] 10 c18a ⟨tmsOf [nilS] 0 .leaf, heapOf [.dead] hp0, []⟩).map (fun r => (look2 0 [] [0, 2] (r.1, r.2.1), r.2.2)) = some ((.normal, [], [(0, nilS), (2, iN 0)], true), []) := by kernel_rfl
theorem n18b (g : Nat → Value) : (execQ Try.prog cE [] 10 c18b (stOf 34 g [(0, nilS), (2, iN 0)] [])).map (fun r => (look2 0 [] [0, 2, 5, 6, 7] (r.1, r.2.1), r.2.2)) = some ((.normal, [], [(0, nilS), (2, iN 0), (5, nilS), (6, iN 0), (7, iN 0)], true), []) := by kernel_rfl
theorem n18c (g : Nat → Value) : (execQ Try.prog cE [] 20 c18c (stOf 34 g [(0, nilS), (2, iN 0), (5, nilS), (6, iN 0), (7, iN 0)] [])).map (fun r => (look2 0 [] [0, 2] (r.1, r.2.1), r.2.2)) = some ((.exit 0, [], [(0, nilS), (2, iN 0)], true), []) := by kernel_rfl
theorem n18d (g : Nat → Value) : (execQ Try.prog cE [] 10 c18d (stOf 34 g [(0, nilS), (2, iN 0)] [])).map (fun r => (look2 0 [] [2] (r.1, r.2.1), r.2.2)) = some ((.ret, [], [(2, iN 0)], true), []) := by kernel_rfl
theorem q18' (v : Value) (O : List Blk) (g : Nat → Value) : retVal Try.prog Try.f18 (stOf 34 g [(2, v)] O) = some v := by kernel_rfl
theorem noFix (O : List Blk) : ∀ i, i < 0 → ∀ o, O[i]? = some o → Fixed 0 o := fun i hi => absurd hi (Nat.not_lt_zero _)
theorem check_nil (W : Base) : FRwp Try.prog 34 W code18 ⟨tmsOf [nilS] 0 .leaf, heapOf [.dead] hp0, []⟩ (fun e st => (e = .normal ∨ e = .ret) ∧ st.df = [] ∧ retVal Try.prog Try.f18 st = some (iN 0)) := by
  refine FRwp.seq (Q1 := fun x st => x = .normal ∧ ∃ g, st = stOf 34 g [(0, nilS), (2, iN 0)] []) (FRwp.piece cE_ok follows 0 _ _ _ _ n18a Met.nil s18a rfl rfl rfl (noFix _) fun g => ⟨rfl, g, rfl⟩) ?_ (fun x st hne hq => absurd hq.1 hne)
  rintro st ⟨-, g, rfl⟩
  refine FRwp.seq (Q1 := fun x st => x = .normal ∧ ∃ g, st = stOf 34 g [(0, nilS), (2, iN 0)] []) ?_ ?_ (fun x st hne hq => absurd hq.1 hne)
  · refine FRwp.seq (Q1 := fun x st => x = .normal ∧ ∃ g, st = stOf 34 g [(0, nilS), (2, iN 0), (5, nilS), (6, iN 0), (7, iN 0)] []) (FRwp.piece cE_ok follows 0 _ _ _ _ (n18b g) Met.nil s18b rfl rfl rfl (noFix _) fun g => ⟨rfl, g, rfl⟩) ?_ (fun x st hne hq => absurd hq.1 hne)
    rintro st ⟨-, g, rfl⟩
    refine FRwp.block ?_
    refine FRwp.loop (fun k st => ∃ g, st = stOf 34 g [(0, nilS), (2, iN 0), (5, nilS), (6, iN 0), (7, iN 0)] []) ?_ (k := 0) ⟨g, rfl⟩
    rintro k st ⟨g, rfl⟩
    refine FRwp.piece cE_ok follows 0 _ _ _ _ (n18c g) Met.nil s18c rfl rfl rfl (noFix _) fun g' => .inr ⟨by simp, ?_⟩
    show (if (0 : Nat) = 0 then _ else _)
    rw [if_pos rfl]
    exact ⟨rfl, g', rfl⟩
  · rintro st ⟨-, g, rfl⟩
    exact FRwp.piece cE_ok follows 0 _ _ _ _ (n18d g) Met.nil s18d rfl rfl rfl (noFix _) fun g' => ⟨.inr rfl, rfl, q18' _ _ g'⟩
open Classical in
noncomputable def g18 (vs : List ViewV) : HeapFn := fun args hp => match args with
  | [s] => if s = nilS ∧ vs = [] ∨ TR vs s hp then some (errI (rightB vs), heapOf ([] ++ [.dead]) hp) else none
  | _ => none
open Classical in
theorem g18_of {vs : List ViewV} {hp : Hp} {s : Value} (h : s = nilS ∧ vs = [] ∨ TR vs s hp) : g18 vs [s] hp = some (errI (rightB vs), heapOf [.dead] hp) := by
  show (if s = nilS ∧ vs = [] ∨ TR vs s hp then _ else _) = _
  rw [if_pos h]
  rfl
theorem ntmps18 : Try.f18.ntmps = 34 := by kernel_rfl
theorem errI_ok (b : Bool) : ok3 (errI b) = true ∧ ∀ K B, sh3 K B (errI b) = errI b := by cases b <;> exact ⟨rfl, fun _ _ => rfl⟩
theorem hk18 (vs : List ViewV) (hn : vs.length < 1000000) : CallGoal Try.prog 18 (g18 vs) := scan_goal follows Try.func18 body18 (by kernel_rfl) fun args hp v hp' h hk => by
  unfold g18 at h
  rw [ntmps18]
  split at h
  case h_2 => cases h
  rename_i s
  split at h
  case isFalse => cases h
  rename_i hT
  cases h
  rcases hT with ⟨rfl, rfl⟩ | ⟨b, c, o, rfl, hb, hi, hr⟩
  · refine ⟨[], [], [], rfl, rfl, rfl, rfl, (fun b hb => by cases hb), rfl, (by simp), fun W => ?_⟩
    rw [show [nilS].map (sh3 [] 0) = [nilS] from by simp [sh3, sh2, sh1, nilS]]
    exact FRwp.mono (check_nil W) fun e st q => ⟨q.1, q.2.1, _, q.2.2, rfl, (fun b hb => by cases hb), rfl, rfl⟩
  · refine ⟨[b], [], [], rfl, rfl, rfl, rfl, fun b' hb' => ?_, rfl, (by simp), fun W => ?_⟩
    · have : b' = b := by simpa using hb'
      subst this
      exact ⟨o, hb, inert_start hi⟩
    · rw [start1 hb hi, show [rowS b vs.length c].map (sh3 [b] 0) = [rowS 0 vs.length c] from by simp [sh_row]]
      exact FRwp.mono (check_fr (roBlk o) (ro_inert hi) vs hn (ro_row hr) c W) fun e st q => ⟨q.1, q.2.1, _, q.2.2, (errI_ok _).1, (fun b hb => by cases hb), ((errI_ok _).2 _ _).symm, rfl⟩
end Go.Proofs.Ytiogdklmhpllfaa.LtA
namespace Go.Proofs.Ytiogdklmhpllfaa.LtA
open Go Go.Proofs Go.Proofs.Ytiogdklmhpllfaa.AI Go.RowKit

def gOver : HeapFn
  | [.slice (some ⟨a, off, none⟩) (_ + 1) _, .slice (some ⟨b, _, none⟩) _ _], hp => match Nat.beq a b, hp.get a, hp.get b with
    | false, some (.cells _ cs1 false), some (.cells _ (_ :: _) false) => match Nat.ble off cs1.length with
      | true => some (.bool false, hp)
      | false => none
    | _, _, _ => none
  | _, _ => none
theorem hkOver : CallGoal Try.prog 82 gOver := by
  intro args hp v hp' he hk
  unfold gOver at he
  split at he
  case h_2 => cases he
  rename_i a off la ca b offb lb cb
  split at he
  case h_2 => cases he
  rename_i t1 cs1 t2 y ys hab ha hb
  split at he
  case h_2 => cases he
  rename_i hoff
  cases he
  refine ⟨hk, Nat.le_refl _, fun m h w args' hfr s ra => .inl ?_⟩
  obtain ⟨v1, bs, e1, r1, r2⟩ := ra.of_cons
  obtain ⟨v2, bs2, e2, r3, r4⟩ := r2.of_cons
  have e3 := r4.of_nil
  subst e3
  have ha' := ovr_sub hk h a _ ha
  have hb' := ovr_sub hk h b _ hb
  obtain ⟨_, _, ra1, oa, capa, q1, rfl, hla, hha⟩ := r1.of_slice
  obtain ⟨_, _, rb1, ob, capb, q2, rfl, hlb, hhb⟩ := r3.of_slice
  cases q1
  cases q2
  have ea : args' = #[.slice (some ⟨ra1, oa, none⟩) (la + 1) capa, .slice (some ⟨rb1, ob, none⟩) lb capb] := by cases args'; simp_all
  subst ea
  rcases hha with hd | ⟨δ1, E1, hma, hoa, _⟩
  · rw [ha'] at hd; cases hd
  rcases hhb with hd | ⟨δ2, E2, hmb, _, _⟩
  · rw [hb'] at hd; cases hd
  obtain ⟨c1, f1, g1, g2, g3, g4, g5⟩ := Sim.row (s := s) ha' hma
  obtain ⟨c2, f2, k1, k2, k3, k4, k5⟩ := Sim.row (s := s) hb' hmb
  dsimp only at g1 g2 g3 k1 k2 k3
  have hne : ra1 ≠ rb1 := by
    intro e
    have := s.inj a b _ _ hma hmb (by unfold rw?; rw [ha']; rfl) (by unfold live?; rw [hb']) e
    subst this
    have hh : Nat.beq a a = true := Nat.beq_refl a
    rw [hh] at hab
    cases hab
  have hoa' : oa = δ1 + off := by
    rcases hoa with h1 | h1
    · exact h1
    · omega
  have hle : off ≤ cs1.length := Nat.le_of_ble_eq_true hoff
  have hfz : ∀ j, j ≤ c1.size → w.frozen? ⟨ra1, j, none⟩ = false := fun j hj => frozen_of g1 (g5.1 rfl j hj)
  have hrun := Lib.run_overlaps_apart w 29 4 34 Try.underlying29 7 (fun w => by kernel_rfl) ⟨ra1, oa, none⟩ ⟨rb1, ob, none⟩ (la + 1) capa lb capb hne t1 t2 c1.size c2.size
    (by unfold World.shape?; rw [g1]) (by unfold World.shape?; rw [k1]) (by simp at k2; omega) (hfz oa (by omega)) (hfz c1.size (Nat.le_refl _))
  refine ⟨.bool false, w, ?_, m, Go1.refl s, .flat rfl⟩
  rw [run_callFunc_extern Try.func82 (by kernel_rfl) (by kernel_rfl) (by kernel_rfl) (e := Extern.SlicesOverlaps.overlaps #[29, 29] #[4]) (by kernel_rfl), hrun]
  rfl
end Go.Proofs.Ytiogdklmhpllfaa.LtA
namespace Go.Proofs.Ytiogdklmhpllfaa.LtA
open Go Go.Proofs Go.Proofs.Ytiogdklmhpllfaa.AI Go.RowKit

theorem start2 {hp : Hp} {b1 b2 : Nat} {o1 o2 : Blk} (h1 : hp.get b1 = some o1) (h2 : hp.get b2 = some o2) (i1 : inertB o1 = true) (i2 : inertB o2 = true) : startHp [b1, b2] hp = heapOf [roBlk o1, roBlk o2, .dead] hp0 := by
  unfold startHp
  simp [h1, h2, inert_shBlk i1, inert_shBlk i2]
open Classical in
/-- Two rows, in two blocks, neither of them nil. -/
noncomputable def g28 (us vs : List ViewV) : HeapFn := fun args hp => match args with
  | [s, t] => if ∃ b1 c1 o1 b2 c2 o2, s = rowS b1 us.length c1 ∧ t = rowS b2 vs.length c2 ∧ b1 ≠ b2 ∧ hp.get b1 = some o1 ∧ hp.get b2 = some o2 ∧ inertB o1 = true ∧ inertB o2 = true ∧ (us = [] ∨ ∃ ty ro, o1 = .cells ty (vrow us) ro) ∧ (vs = [] ∨ ∃ ty ro, o2 = .cells ty (vrow vs) ro)
    then some (.bool (sameRow us vs), heapOf ([] ++ [.dead]) hp) else none
  | _ => none
end Go.Proofs.Ytiogdklmhpllfaa.LtA
