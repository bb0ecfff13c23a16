/- Part 4. -/
import Derived.Test.YtgeoommlmddgpaaXcC
import Derived.Laws.Externs
import Derived.Test.YtgeoommlmddgpaaRows
set_option linter.unusedVariables false
set_option linter.unusedSimpArgs false
set_option maxRecDepth 100000
namespace Go.Proofs.Ytgeoommlmddgpaa.LtA
open Go Go.Proofs Go.Proofs.Ytgeoommlmddgpaa.AI Go.RowKit
noncomputable abbrev code28 : Code := .seq c28a (.seq c28b (.seq (.seq c28c (.block 0 (.loop c28d))) c28e))
theorem start2 {hp : Hp} {b1 b2 : Nat} {o1 o2 : Blk} (h1 : hp.get b1 = some o1) (h2 : hp.get b2 = some o2) (i1 : inertB o1 = true) (i2 : inertB o2 = true) : startHp [b1, b2] hp = heapOf [roBlk o1, roBlk o2, .dead] hp0 := by
  unfold startHp
  simp [h1, h2, inert_shBlk i1, inert_shBlk i2]
open Classical in
noncomputable def g28 (us vs : List ViewV) : HeapFn := fun args hp => match args with
  | [s, t] => if ∃ b1 c1 o1 b2 c2 o2, s = rowS b1 us.length c1 ∧ t = rowS b2 vs.length c2 ∧ b1 ≠ b2 ∧ hp.get b1 = some o1 ∧ hp.get b2 = some o2 ∧ inertB o1 = true ∧ inertB o2 = true ∧ (us = [] ∨ ∃ ty ro, o1 = .cells ty (vrow us) ro) ∧ (vs = [] ∨ ∃ ty ro, o2 = .cells ty (vrow vs) ro)
    then some (.bool (sameRow us vs), heapOf ([] ++ [.dead]) hp) else none
  | _ => none
theorem ntmps28 : Try.f23.ntmps = 26 := by kernel_rfl
end Go.Proofs.Ytgeoommlmddgpaa.LtA
namespace Go.Proofs.Ytgeoommlmddgpaa.LtA
open Go Go.Proofs Go.Proofs.Ytgeoommlmddgpaa.AI Go.RowKit
def p2 : Value := .pointer (some ⟨2, 0, none⟩)
section
variable (o : Blk) (vs ms : List ViewV) (n c : Nat) (lt lo lr keep : Int)
abbrev B6 : St := ⟨tmsOf [rowS 0 n c, levA lt lo lr, .int .i64 keep] 0 .leaf, heapOf [o, .dead] hp0, []⟩
end
end Go.Proofs.Ytgeoommlmddgpaa.LtA
namespace Go.Proofs.Ytgeoommlmddgpaa.LtA
open Go Go.Proofs Go.Proofs.Ytgeoommlmddgpaa.AI Go.RowKit
def hcA (x : ViewV) : Value := .agg #[.bool x.n, .int .i64 x.t, .int .i64 x.o, .int .i64 x.r, .int .i64 x.d, .int .i64 x.i]
def pb (b off : Nat) : Value := .pointer (some ⟨b, off, none⟩)
section
variable (o : Blk) (vs ms : List ViewV) (n c : Nat) (lt lo lr keep : Int) (i : Nat) (x y : ViewV) (g : Nat → Value)
noncomputable def ixO (b n c : Nat) (i : Nat) : Obl := (fstV ((aIndexAddr Try.prog 22 (rowS b n c) (iN i)).map fun v => (v, none)), pb b (i * 7))
noncomputable def ldO (G : Nat → Option Blk) (t : TypeId) (b off : Nat) (v : Value) : Obl := (aLoad Try.prog G t (pb b off), v)
end
end Go.Proofs.Ytgeoommlmddgpaa.LtA
namespace Go.Proofs.Ytgeoommlmddgpaa.LtA
open Go Go.Proofs Go.Proofs.Ytgeoommlmddgpaa.AI Go.RowKit
theorem cmp3_zero (a b : Int) : (cmp3 a b == 0) = (a == b) := by
  unfold cmp3
  cases h1 : decide (a < b) with
  | true => simp at h1; rw [show (a == b) = false from beq_false_of_ne (by omega)]; rfl
  | false =>
    simp at h1
    cases h2 : decide (a > b) with
    | true => simp at h2; rw [show (a == b) = false from beq_false_of_ne (by omega)]; rfl
    | false => simp at h2; rw [show a = b by omega]; simp
theorem same23_refl (n : Bool) (t o r d i : Int) : same23 n t o r d i n t o r d i = true := by unfold same23; simp
theorem sameV_refl (x : ViewV) : sameV x x = true := by unfold sameV; rw [same23_refl]; simp
theorem alikeAt_refl (us : List ViewV) (i : Nat) : alikeAt us us i = true := by
  unfold alikeAt
  cases us[i]? with
  | none => rfl
  | some u => exact sameV_refl u
theorem sameRow_refl (us : List ViewV) : sameRow us us = true := by
  unfold sameRow
  rw [Bool.and_eq_true]
  exact ⟨decide_eq_true rfl, List.all_eq_true.2 fun i _ => alikeAt_refl us i⟩
section
variable {lt lo lr keep : Int} {vs : List ViewV}
end
theorem agg23 : tagg Try.prog 24 = some true := by kernel_rfl
section
variable {hp : Hp} {b : Nat} {us : List ViewV} {i : Nat} {p : ViewV}
theorem hload_ok (ho : RowAt hp b us) (h : us[i]? = some p) : aLoad Try.prog hp.get 24 (pb b (i * 7 + 1)) = some (hcA p) := by
  obtain ⟨ty, ro, rest, hg⟩ := ho
  unfold pb
  simp only [aLoad, hg, agg23, size23]
  have hi : i < us.length := (List.getElem?_eq_some_iff.1 h).1
  have hl := vrow_len us
  have e : ((vrow us).drop (i * 7 + 1)).take 6 = [.bool p.n, .int .i64 p.t, .int .i64 p.o, .int .i64 p.r, .int .i64 p.d, .int .i64 p.i] := by
    apply List.ext_getElem?
    intro j
    rw [List.getElem?_take]
    by_cases hj : j < 6
    · rw [if_pos hj, List.getElem?_drop, Nat.add_assoc]
      unfold vrow
      rw [flat_get vc 7 us (fun _ _ => rfl) i (1 + j) p h (by omega), Nat.add_comm 1 j]
      rfl
    · rw [if_neg hj, List.getElem?_eq_none (by simp; omega)]
  rw [getR_app (r := [.bool p.n, .int .i64 p.t, .int .i64 p.o, .int .i64 p.r, .int .i64 p.d, .int .i64 p.i]) (by unfold getR; rw [e]; rfl)]
  rfl
end
theorem fix11 {o : Blk} (ho : inertB o = true) : ∀ r : List Blk, ∀ i, i < 1 → ∀ o', (o :: r)[i]? = some o' → Fixed 0 o' := by
  intro r i hi o' h
  have : i = 0 := by omega
  subst this
  simp at h; subst h; exact inert_fixed ho 0
section
variable {vs ms : List ViewV} {hp : Hp} {s : Value}
end
end Go.Proofs.Ytgeoommlmddgpaa.LtA
namespace Go.Proofs.Ytgeoommlmddgpaa.LtA
open Go Go.Proofs Go.Proofs.Ytgeoommlmddgpaa.AI Go.RowKit Go.ChangeShapes
theorem cells3 : Try.prog.cellsOf 3 = 1 := by kernel_rfl
theorem cells4 : Try.prog.cellsOf 4 = 1 := by kernel_rfl
theorem cells23' : Try.prog.cellsOf 24 = 6 := by kernel_rfl
theorem cells34 : Try.prog.cellsOf 45 = 7 := by kernel_rfl
section
variable {H : Type} {enc : TypeId × Value → H} {W : World} {sp : Nat → Bool} {hd : Bool} {n : Nat} {cs : List Value} {x : DataW H × List MemPlace}
theorem view_of (h : DataW.trod enc Try.prog W 0 sp hd n 45 cs = some x) : ∃ p : ViewV, cs = vc p := by
  obtain ⟨hl, hf⟩ := trod_field Try.underlying45 h
  rw [cells34] at hl
  match cs, hl with
  | [v0, v1, v2, v3, v4, v5, v6], _ =>
    obtain ⟨_, _, k0⟩ := hf 0 _ rfl
    obtain ⟨_, _, k1⟩ := hf 1 _ rfl
    obtain ⟨i0, e0⟩ := trod_int Try.underlying3 k0
    obtain ⟨-, f1⟩ := trod_field Try.underlying24 k1
    obtain ⟨_, _, k10⟩ := f1 0 _ rfl
    obtain ⟨_, _, k11⟩ := f1 1 _ rfl
    obtain ⟨_, _, k12⟩ := f1 2 _ rfl
    obtain ⟨_, _, k13⟩ := f1 3 _ rfl
    obtain ⟨_, _, k14⟩ := f1 4 _ rfl
    obtain ⟨_, _, k15⟩ := f1 5 _ rfl
    obtain ⟨b, e1⟩ := trod_bool Try.underlying4 k10
    obtain ⟨i2, e2⟩ := trod_int Try.underlying3 k11
    obtain ⟨i3, e3⟩ := trod_int Try.underlying3 k12
    obtain ⟨i4, e4⟩ := trod_int Try.underlying3 k13
    obtain ⟨i5, e5⟩ := trod_int Try.underlying3 k14
    obtain ⟨i6, e6⟩ := trod_int Try.underlying3 k15
    simp [cells3, cells4, cells23'] at e0 e1 e2 e3 e4 e5 e6
    subst e0 e1 e2 e3 e4 e5 e6
    exact ⟨⟨i0, b, i2, i3, i4, i5, i6⟩, rfl⟩
end
theorem list_of {α : Type} {R : Nat → α → Prop} : ∀ n, (∀ i, i < n → ∃ p, R i p) → ∃ ps : List α, ps.length = n ∧ ∀ i p, ps[i]? = some p → R i p
  | 0, _ => ⟨[], rfl, fun i p h => by simp at h⟩
  | n + 1, h => by
    obtain ⟨ps, h1, h2⟩ := list_of n (fun i hi => h i (by omega))
    obtain ⟨q, hq⟩ := h n (by omega)
    refine ⟨ps ++ [q], by simp [h1], fun i p hp => ?_⟩
    by_cases hi : i < ps.length
    · rw [List.getElem?_append_left hi] at hp; exact h2 i p hp
    · rw [List.getElem?_append_right (by omega)] at hp
      have : i - ps.length = 0 := by
        have := (List.getElem?_eq_some_iff.1 hp).1
        simp at this; omega
      rw [this] at hp
      simp at hp
      subst hp
      have : i = n := by omega
      rw [this]; exact hq
theorem vrow_of {H : Type} {enc : TypeId × Value → H} {W : World} {sp : Nat → Bool} {hd : Bool} {fuel : Nat} {r off n c : Nat} {x : DataW H × List MemPlace} (h : DataW.trod enc Try.prog W 0 sp hd fuel 22 [.slice (some ⟨r, off, none⟩) n c] = some x) (hn : 0 < n) :
    ∃ (ps : List ViewV) (arr : Array Value) (ty : TypeId) (fr : Nat × Nat), ps.length = n ∧ W.heap[r]? = some (.cells arr ty fr) ∧ off + (vrow ps).length ≤ arr.size ∧
      ∀ (i : Nat) (v v' : Value), (vrow ps)[i]? = some v → arr[off + i]? = some v' → VRel bm0 (fun _ => none) v v' := by
  rcases Go.Deep.open_slice Try.underlying22 h with ⟨h0, _⟩ | ⟨a, len, cap, m, k, D, Pl, e0, _, hlc, _, hm, _, hel⟩
  · simp at h0
  simp only [List.cons.injEq, Value.slice.injEq, Option.some.injEq, and_true] at e0
  obtain ⟨rfl, rfl, rfl⟩ := e0
  have hmn : n ≤ m := by rw [hm]; split <;> omega
  rw [cells34] at hel
  have hw : ∀ i, i < n → ∃ p : ViewV, ∀ j, j < 7 → W.cell? ⟨r, off + (i * 7 + j), none⟩ = (vc p)[j]? := by
    intro i hi
    obtain ⟨cs, h1, h2⟩ := hel i (by omega)
    obtain ⟨p, rfl⟩ := view_of h2
    obtain ⟨_, h5, h6⟩ := World.cells?_some h1
    refine ⟨p, fun j hj => ?_⟩
    have := h6 j hj
    rw [Addr.add_lit, Addr.add_lit, Nat.add_assoc] at this
    exact this
  obtain ⟨ps, hl, hps⟩ := list_of (R := fun i (p : ViewV) => ∀ j, j < 7 → W.cell? ⟨r, off + (i * 7 + j), none⟩ = (vc p)[j]?) n hw
  have hcell : ∀ i j, i < n → j < 7 → ∃ v, W.cell? ⟨r, off + (i * 7 + j), none⟩ = some v := by
    intro i j hi hj
    obtain ⟨p, h1⟩ := hw i hi
    rw [h1 j hj]
    have : (vc p).length = 7 := rfl
    rw [List.getElem?_eq_getElem (by omega)]
    exact ⟨_, rfl⟩
  obtain ⟨arr, ty, fr, hc⟩ : ∃ arr ty fr, W.heap[r]? = some (.cells arr ty fr) := by
    obtain ⟨v, hv⟩ := hcell 0 0 hn (by omega)
    unfold World.cell? at hv
    split at hv
    · rename_i arr ty fr hc; exact ⟨arr, ty, fr, hc⟩
    · cases hv
  have hlen : (vrow ps).length = n * 7 := by rw [vrow_len, hl]
  refine ⟨ps, arr, ty, fr, hl, hc, ?_, fun i v v' q1 q2 => ?_⟩
  · obtain ⟨v, hv⟩ := hcell (n - 1) 6 (by omega) (by omega)
    rw [cell_of hc] at hv
    have := (Array.getElem?_eq_some_iff.1 hv).1
    rw [hlen]
    omega
  · have hi : i < n * 7 := by rw [← hlen]; exact (List.getElem?_eq_some_iff.1 q1).1
    have hq : i / 7 < ps.length := by rw [hl]; exact Nat.div_lt_of_lt_mul (by rw [Nat.mul_comm]; exact hi)
    have hp : ps[i / 7]? = some ps[i / 7] := List.getElem?_eq_getElem hq
    have hsplit : i = i / 7 * 7 + i % 7 := by omega
    have hj : i % 7 < 7 := Nat.mod_lt _ (by omega)
    have h1 := hps _ _ hp
    have g1 := flat_get vc 7 ps (fun _ _ => rfl) (i / 7) (i % 7) _ hp hj
    rw [← hsplit] at g1
    have g2 := h1 (i % 7) hj
    rw [← hsplit, cell_of hc, q2] at g2
    have hvrow : (vrow ps)[i]? = (ps.flatMap vc)[i]? := rfl
    rw [hvrow, g1, ← g2] at q1
    cases q1
    have hfl : AI.flat v = true := by
      have hm := List.mem_of_getElem? g2.symm
      unfold vc at hm
      simp only [List.mem_cons, List.not_mem_nil, or_false] at hm
      rcases hm with rfl | rfl | rfl | rfl | rfl | rfl | rfl <;> rfl
    exact .flat hfl
theorem sim_dead {m : BM} {o : Blk} {W : World} (s : Sim m (heapOf [o] hp0).get W) : Sim m (heapOf [o, .dead] hp0).get W := by
  have hsub : ∀ b o', (heapOf [o] hp0).get b = some o' → (heapOf [o, .dead] hp0).get b = some o' := by
    intro b o' h
    rw [heapOf0_get] at h ⊢
    match b with
    | 0 => exact h
    | b + 1 => simp at h
  have hle : Le m (heapOf [o] hp0).get m (heapOf [o, .dead] hp0).get := ⟨fun b h => hsub b _ h, fun b x h => .inr h⟩
  refine ⟨fun b x hx => ?_, fun b b' x x' hx hx' hr hl e => ?_⟩
  · obtain ⟨o', h1, h2⟩ := s.dom b x hx
    exact ⟨o', hsub _ _ h1, h2.mono hle rfl⟩
  · obtain ⟨o1, h1, _⟩ := s.dom b x hx
    obtain ⟨o2, h2, _⟩ := s.dom b' x' hx'
    refine s.inj b b' x x' hx hx' ?_ ?_ e
    · unfold rw? at hr ⊢; rw [hsub _ _ h1] at hr; rw [h1]; exact hr
    · unfold live? at hl ⊢; rw [hsub _ _ h2] at hl; rw [h2]; exact hl
theorem ro2_cells {ty : TypeId} {L : List Value} (b : Nat) : rw? (heapOf [Blk.cells ty L true, .dead] hp0).get b = false := by
  unfold rw?
  rw [heapOf0_get]
  match b with
  | 0 => rfl
  | 1 => rfl
  | b + 2 => rfl
theorem ro2_dead (b : Nat) : rw? (heapOf [Blk.dead, .dead] hp0).get b = false := by
  unfold rw?
  rw [heapOf0_get]
  match b with
  | 0 => rfl
  | 1 => rfl
  | b + 2 => rfl
theorem valw_slice {w : World} {r : Reach} {base : Nat} {t e : TypeId} {v : Value} (ht : Try.prog.underlying t = some (.slice e)) (h : Value.okWide Try.prog w r base t v) : v = .slice none 0 0 ∨ ∃ b off n c, v = .slice (some ⟨b, off, none⟩) n c ∧ n ≤ c := by
  unfold Value.okWide at h
  rw [ht] at h
  exact cellw_slice ht h
theorem sim_bm0 {h : HG} {W : World} : Sim bm0 h W := ⟨fun b x h => (by cases h), fun b b' x x' h => (by cases h)⟩
theorem own : ownKnob Try.prog.godebug = none := by kernel_rfl
end Go.Proofs.Ytgeoommlmddgpaa.LtA
namespace Go.Proofs.Ytgeoommlmddgpaa.LtA
open Go Go.Proofs Go.Proofs.Ytgeoommlmddgpaa.AI Go.RowKit
section
variable (o : Blk) (n c : Nat) (id : Int)
def uN (n : Nat) : Value := .int .u64 (Int.ofNat n)
end
end Go.Proofs.Ytgeoommlmddgpaa.LtA
namespace Go.Proofs.Ytgeoommlmddgpaa.LtA
open Go Go.Proofs Go.Proofs.Ytgeoommlmddgpaa.AI Go.RowKit
def pos (vs : List ViewV) (id : Int) : Nat := (vs.takeWhile fun x => decide (x.id < id)).length
theorem cmp3_lt (a b : Int) : decide (cmp3 a b < 0) = decide (a < b) := by
  unfold cmp3
  cases h1 : decide (a < b) with
  | true => rfl
  | false => cases h2 : decide (a > b) <;> rfl
theorem half_ok {i j : Nat} : (some (Value.int .u64 (Int.fdiv (Int.ofNat (i + j)) (2 ^ (min (Int.toNat 1) 64))))) = some (uN ((i + j) / 2)) := by
  have e : Int.fdiv (Int.ofNat (i + j)) (2 ^ (min (Int.toNat 1) 64)) = Int.ofNat ((i + j) / 2) := by
    show Int.fdiv (Int.ofNat (i + j)) 2 = _
    rw [Int.fdiv_eq_ediv_of_nonneg _ (by decide)]
    simp only [Int.ofNat_eq_natCast]
    omega
  rw [e]; rfl
theorem u64_ok {n : Nat} (h : n < 3000000) : (some (Value.int .u64 (wrapF .u64 (Int.ofNat n)))) = some (uN n) := by
  have : wrapF .u64 (Int.ofNat n) = Int.ofNat n := by
    show IntKind.wrap .u64 (Int.ofNat n) = _
    simp only [IntKind.wrap, IntKind.bits, IntKind.signed, Int.ofNat_eq_natCast]
    simp
    omega
  rw [this]; rfl
theorem i64_ok {n : Nat} (h : n < 3000000) : (some (Value.int .i64 (wrapF .i64 (Int.ofNat n)))) = some (iN n) := by
  rw [wrap64 (by have := Int.natCast_nonneg n; simp only [Int.ofNat_eq_natCast]; omega) (by simp only [Int.ofNat_eq_natCast]; omega)]
  rfl
theorem add_ok {i j : Nat} (h : i + j < 3000000) : (some (Value.int .i64 (wrapF .i64 (Int.ofNat i + Int.ofNat j)))) = some (iN (i + j)) := by
  have e : Int.ofNat i + Int.ofNat j = Int.ofNat (i + j) := rfl
  rw [e, i64_ok h]
theorem TR.uniq {us vs : List ViewV} {s : Value} {hp : Hp} (h1 : TR us s hp) (h2 : TR vs s hp) : us = vs := by
  obtain ⟨b, c, o, rfl, hb, _, hr⟩ := h1
  obtain ⟨b', c', o', e, hb', _, hr'⟩ := h2
  unfold rowS at e
  simp only [Value.slice.injEq, Option.some.injEq, Addr.mk.injEq, and_true] at e
  obtain ⟨rfl, hl, -⟩ := e
  rw [hb] at hb'; cases hb'
  have inj : ∀ {us vs : List ViewV}, vrow us = vrow vs → us = vs := by
    intro us
    induction us with
    | nil => intro vs h; cases vs with
      | nil => rfl
      | cons v vs => simp [vrow, vc] at h
    | cons u us ih => intro vs h; cases vs with
      | nil => simp [vrow, vc] at h
      | cons v vs =>
        simp only [vrow, vc, List.flatMap_cons, List.cons_append, List.nil_append, List.cons.injEq, Value.int.injEq, Value.bool.injEq, true_and] at h
        obtain ⟨a1, a2, a3, a4, a5, a6, a7, h⟩ := h
        have := ih h
        subst this
        cases u; cases v
        simp_all
  rcases hr with h | ⟨ty, ro, h⟩
  · subst h
    exact (List.eq_nil_of_length_eq_zero hl.symm).symm
  · rcases hr' with h' | ⟨ty', ro', h'⟩
    · subst h'
      exact List.eq_nil_of_length_eq_zero hl
    · rw [h] at h'
      injection h' with _ h2 _
      exact inj h2
def TN (vs : List ViewV) (s : Value) (hp : Hp) : Prop := s = nilS ∧ vs = [] ∨ TR vs s hp
theorem TN.uniq {us vs : List ViewV} {s : Value} {hp : Hp} (h1 : TN us s hp) (h2 : TN vs s hp) : us = vs := by
  rcases h1 with ⟨rfl, rfl⟩ | h1
  · rcases h2 with ⟨-, rfl⟩ | h2
    · rfl
    · exact h2.not_nil.elim
  · rcases h2 with ⟨rfl, rfl⟩ | h2
    · exact h1.not_nil.elim
    · exact h1.uniq h2
open Classical in
noncomputable def atRow (P : List ViewV → Prop) (k : List ViewV → HeapFn) : HeapFn := fun args hp => match args with
  | s :: _ => if h : ∃ vs, TN vs s hp ∧ vs.length < 1000000 ∧ P vs then k h.choose args hp else none
  | _ => none
theorem atRow_goal {f : FuncId} {P : List ViewV → Prop} {k : List ViewV → HeapFn} (h : ∀ vs, vs.length < 1000000 → P vs → CallGoal Try.prog f (k vs)) : CallGoal Try.prog f (atRow P k) := by
  intro args hp v hp' he hk
  unfold atRow at he
  split at he
  case h_2 => cases he
  split at he
  · rename_i hx
    exact h _ hx.choose_spec.2.1 hx.choose_spec.2.2 _ _ _ _ he hk
  · cases he
theorem atRow_of {P : List ViewV → Prop} {k : List ViewV → HeapFn} {vs : List ViewV} {s : Value} {r : List Value} {hp : Hp} (h : TN vs s hp) (hn : vs.length < 1000000) (hp' : P vs) : atRow P k (s :: r) hp = k vs (s :: r) hp := by
  unfold atRow
  have hx : ∃ vs, TN vs s hp ∧ vs.length < 1000000 ∧ P vs := ⟨vs, h, hn, hp'⟩
  simp only
  rw [dif_pos hx]
  rw [hx.choose_spec.1.uniq h]
end Go.Proofs.Ytgeoommlmddgpaa.LtA
namespace Go.Proofs.Ytgeoommlmddgpaa.LtA
open Go Go.Proofs Go.Proofs.Ytgeoommlmddgpaa.AI Go.RowKit
def hcL (x : ViewV) : List Value := [.bool x.n, .int .i64 x.t, .int .i64 x.o, .int .i64 x.r, .int .i64 x.d, .int .i64 x.i]
def zeroV (id : Int) : ViewV := ⟨id, false, 0, 0, 0, 0, 0⟩
section
variable (vs ws us : List ViewV) (o : Blk) (n c p : Nat) (y : ViewV)
end
end Go.Proofs.Ytgeoommlmddgpaa.LtA
namespace Go.Proofs.Ytgeoommlmddgpaa.LtA
open Go Go.Proofs Go.Proofs.Ytgeoommlmddgpaa.AI Go.RowKit
theorem vrow_append (us vs : List ViewV) : vrow (us ++ vs) = vrow us ++ vrow vs := by unfold vrow; rw [List.flatMap_append]
section
variable {vs : List ViewV} {s : Value} {hp : Hp}
end
end Go.Proofs.Ytgeoommlmddgpaa.LtA
namespace Go.Proofs.Ytgeoommlmddgpaa.LtA
open Go Go.Proofs Go.Proofs.Ytgeoommlmddgpaa.AI Go.RowKit
theorem row_fin {N : Nat} {us : List ViewV} {v : Value} {t : Nat} {L : List (Nat × Value)} {g : Nat → Value} : (stOf N g L [rowB us]).hp.get 0 = some (rowB us) := by
  show (heapOf _ hp0).get 0 = _
  rw [heapOf0_get]; rfl
theorem out_row {B : Nat} {us : List ViewV} {hp : Hp} (h : hp.get 0 = some (rowB us)) : [rowB us] = outOf [0] B hp := by
  simp only [outOf, List.map_cons, List.map_nil, h, Option.getD_some]
  exact congrArg (fun z => [z]) (inert_shBlk (o := rowB us) (row_block _) [0] B).symm
end Go.Proofs.Ytgeoommlmddgpaa.LtA
namespace Go.Proofs.Ytgeoommlmddgpaa.LtA
open Go Go.Proofs Go.Proofs.Ytgeoommlmddgpaa.AI Go.RowKit
section
variable (zs xs ys : List ViewV) (o : Blk) (s : Value) (n : Nat) (y z : ViewV) (O1 O2 : List Blk) (e f : Nat) (u1 u2 : Value)
abbrev B5 : St := ⟨tmsOf [s, .int .i64 y.id, .int .i64 z.id, hcA y, hcA z] 0 .leaf, heapOf [o, .dead] hp0, []⟩
def rw2 (us : List ViewV) : List Blk := [rowB us, .dead]
end
theorem TR.ext {vs : List ViewV} {s : Value} {hp : Hp} (h : TR vs s hp) (hk : hp.ok) (O : List Blk) : TR vs s (heapOf O hp) := by
  obtain ⟨b, c, o, rfl, hb, hi, hr⟩ := h
  exact ⟨b, c, o, rfl, by rw [heapOf_get, if_pos (lt_of_get hk hb), hb], hi, hr⟩
theorem TN.ext {vs : List ViewV} {s : Value} {hp : Hp} (h : TN vs s hp) (hk : hp.ok) (O : List Blk) : TN vs s (heapOf O hp) := by
  rcases h with h | h
  · exact .inl h
  · exact .inr (h.ext hk O)
theorem TN.new {vs : List ViewV} {hp : Hp} {b n c : Nat} (hn : n = vs.length) (hb : hp.get b = some (rowB vs)) : TN vs (rowS b n c) hp := by
  subst hn
  exact .inr ⟨b, c, rowB vs, rfl, hb, row_block vs, .inr ⟨45, false, rfl⟩⟩
end Go.Proofs.Ytgeoommlmddgpaa.LtA
namespace Go.Proofs.Ytgeoommlmddgpaa.LtA
open Go Go.Proofs Go.Proofs.Ytgeoommlmddgpaa.AI Go.RowKit Go.ChangeShapes
theorem types23' : Try.prog.cellTypes Try.prog.depth 24 = some [4, 3, 3, 3, 3, 3] := by kernel_rfl
theorem open_height' {w : World} {r : Reach} {base : Nat} {v : Value} (id : Int) (h : Value.okWide Try.prog w r base 24 v) : ∃ y : ViewV, y.id = id ∧ v = hcA y := by
  obtain ⟨cs, rfl, hs, hc⟩ := openw_cells Try.underlying24 types23' cells23' h
  obtain ⟨l⟩ := cs
  match l, hs with
  | [x0, x1, x2, x3, x4, x5], _ =>
    obtain ⟨b, rfl⟩ := cellw_bool Try.underlying4 (hc 0 4 x0 rfl rfl)
    obtain ⟨i1, rfl, _⟩ := cellw_int Try.underlying3 (hc 1 3 x1 rfl rfl)
    obtain ⟨i2, rfl, _⟩ := cellw_int Try.underlying3 (hc 2 3 x2 rfl rfl)
    obtain ⟨i3, rfl, _⟩ := cellw_int Try.underlying3 (hc 3 3 x3 rfl rfl)
    obtain ⟨i4, rfl, _⟩ := cellw_int Try.underlying3 (hc 4 3 x4 rfl rfl)
    obtain ⟨i5, rfl, _⟩ := cellw_int Try.underlying3 (hc 5 3 x5 rfl rfl)
    exact ⟨⟨id, b, i1, i2, i3, i4, i5⟩, rfl, rfl⟩
theorem law_end {f : FuncId} {fn : Func} {c : Code} {N : Nat} (hf : Try.prog.funcs[f]? = some fn) (hb : fn.body = some c) (hN : fn.ntmps = N) (W : World) {args : Array Value} {args0 : List Value} {hp : Hp} {m : BM} (hl : args0.length ≤ N) (hk : hp.ok) (sim : Sim m hp.get W) (ro : ∀ b, rw? hp.get b = false)
    (ra : VRelL m hp.get args0 args.toList) (h : ∀ W, FRwp Try.prog N W c ⟨tmsOf args0 0 .leaf, hp, []⟩ (fun e st => (e = .normal ∨ e = .ret) ∧ st.df = [] ∧ retVal Try.prog fn st = some (.bool true))) :
    Calls Try.prog f args W fun e W' => e = .returned (.bool true) ∧ Below W.heap.size W W' := by
  have h' := h (Base.shut W)
  rw [← hN] at h'
  refine (fn_of (R := fun v _ => v = .bool true) hf hb (by rw [hN]; exact hl) hk sim ro ra (FRwp.mono h' fun e st q => ⟨q.1, q.2.1, _, q.2.2, rfl⟩)).mono fun e w' hh => ?_
  obtain ⟨v', v, st', m', rfl, rfl, rv, _, _, hb, _⟩ := hh
  exact ⟨by rw [rv.of_bool], hb.below⟩
end Go.Proofs.Ytgeoommlmddgpaa.LtA
namespace Go.Proofs.Ytgeoommlmddgpaa.LtA
open Go Go.Proofs Go.Proofs.Ytgeoommlmddgpaa.AI Go.RowKit
def TP (vs : List ViewV) (s : Value) (hp : Hp) : Prop := ∃ b c o, s = rowS b vs.length c ∧ hp.get b = some o ∧ inertB o = true ∧ Holds vs o
theorem vrow_inj {us : List ViewV} : ∀ {vs : List ViewV}, vrow us = vrow vs → us = vs := by
  induction us with
  | nil => intro vs h; cases vs with
    | nil => rfl
    | cons v vs => simp [vrow, vc] at h
  | cons u us ih => intro vs h; cases vs with
    | nil => simp [vrow, vc] at h
    | cons v vs =>
      simp only [vrow, vc, List.flatMap_cons, List.cons_append, List.nil_append, List.cons.injEq, Value.int.injEq, Value.bool.injEq, true_and] at h
      obtain ⟨a1, a2, a3, a4, a5, a6, a7, h⟩ := h
      have := ih h
      subst this
      cases u; cases v
      simp_all
theorem TP.not_nil {vs : List ViewV} {hp : Hp} (h : TP vs nilS hp) : False := by
  obtain ⟨b, c, o, h, _⟩ := h
  simp [rowS, nilS] at h
theorem TP.uniq {us vs : List ViewV} {s : Value} {hp : Hp} (h1 : TP us s hp) (h2 : TP vs s hp) : us = vs := by
  obtain ⟨b, c, o, rfl, hb, _, hr⟩ := h1
  obtain ⟨b', c', o', e, hb', _, hr'⟩ := h2
  unfold rowS at e
  simp only [Value.slice.injEq, Option.some.injEq, Addr.mk.injEq, and_true] at e
  obtain ⟨rfl, hl, -⟩ := e
  rw [hb] at hb'; cases hb'
  rcases hr with h | ⟨ty, ro, rest, h⟩
  · subst h
    exact (List.eq_nil_of_length_eq_zero hl.symm).symm
  · rcases hr' with h' | ⟨ty', ro', rest', h'⟩
    · subst h'
      exact List.eq_nil_of_length_eq_zero hl
    · rw [h] at h'
      injection h' with _ h2 _
      exact vrow_inj (List.append_inj h2 (by rw [vrow_len, vrow_len, hl])).1
def TQ (vs : List ViewV) (s : Value) (hp : Hp) : Prop := s = nilS ∧ vs = [] ∨ TP vs s hp
theorem TQ.uniq {us vs : List ViewV} {s : Value} {hp : Hp} (h1 : TQ us s hp) (h2 : TQ vs s hp) : us = vs := by
  rcases h1 with ⟨rfl, rfl⟩ | h1
  · rcases h2 with ⟨-, rfl⟩ | h2
    · rfl
    · exact h2.not_nil.elim
  · rcases h2 with ⟨rfl, rfl⟩ | h2
    · exact h1.not_nil.elim
    · exact h1.uniq h2
theorem TP.ext {vs : List ViewV} {s : Value} {hp : Hp} (h : TP vs s hp) (hk : hp.ok) (O : List Blk) : TP vs s (heapOf O hp) := by
  obtain ⟨b, c, o, rfl, hb, hi, hr⟩ := h
  exact ⟨b, c, o, rfl, by rw [heapOf_get, if_pos (lt_of_get hk hb), hb], hi, hr⟩
theorem TQ.ext {vs : List ViewV} {s : Value} {hp : Hp} (h : TQ vs s hp) (hk : hp.ok) (O : List Blk) : TQ vs s (heapOf O hp) := by
  rcases h with h | h
  · exact .inl h
  · exact .inr (h.ext hk O)
open Classical in
noncomputable def atP (k : List ViewV → HeapFn) : HeapFn := fun args hp => match args with
  | s :: _ => if h : ∃ vs, TQ vs s hp ∧ vs.length < 1000000 then k h.choose args hp else none
  | _ => none
theorem atP_of {k : List ViewV → HeapFn} {vs : List ViewV} {s : Value} {r : List Value} {hp : Hp} (h : TQ vs s hp) (hn : vs.length < 1000000) : atP k (s :: r) hp = k vs (s :: r) hp := by
  unfold atP
  have hx : ∃ vs, TQ vs s hp ∧ vs.length < 1000000 := ⟨vs, h, hn⟩
  simp only
  rw [dif_pos hx]
  rw [hx.choose_spec.1.uniq h]
noncomputable def c0 : CallF := aCall Try.prog (extH Try.prog []) 5
theorem c0_ok : CallOk Try.prog c0 := aCall_sound (extH_ok .nil) follows 5
def hB (x : ViewV) : Blk := .cells 24 (hcL x) false
section
variable (o : Blk) (n c : Nat) (id : Int)
end
def isId (id : Int) (x : ViewV) : Bool := x.id == id
def findV (vs : List ViewV) (id : Int) : Option ViewV := vs.find? (isId id)
def getV (vs : List ViewV) (id : Int) : Value := .tuple #[hcA ((findV vs id).getD (zeroV 0)), .bool (findV vs id).isSome]
theorem wrap_max {i : Nat} (h : i + 1 ≤ 9223372036854775807) : (some (Value.int .i64 (wrapF .i64 (Int.ofNat i + 1)))) = some (iN (i + 1)) := by
  have e : Int.ofNat i + 1 = Int.ofNat (i + 1) := rfl
  rw [e, wrap64 (by have := Int.natCast_nonneg (i + 1); simp only [Int.ofNat_eq_natCast]; omega) (by simp only [Int.ofNat_eq_natCast]; omega)]
  rfl
open Classical in
noncomputable def g33 (vs : List ViewV) : HeapFn := fun args hp => match args with
  | [s, .int .i64 id] => if TQ vs s hp then some (getV vs id, heapOf ([] ++ [.dead]) hp) else none
  | _ => none
noncomputable def G33 : HeapFn := atP g33
open Classical in
theorem G33_of {vs : List ViewV} {s : Value} {hp : Hp} {id : Int} (h : TQ vs s hp) (hn : vs.length < 1000000) : G33 [s, .int .i64 id] hp = some (getV vs id, heapOf [.dead] hp) := by
  unfold G33
  rw [atP_of h hn]
  show (if TQ vs s hp then _ else _) = _
  rw [if_pos h]; rfl
end Go.Proofs.Ytgeoommlmddgpaa.LtA
namespace Go.Proofs.Ytgeoommlmddgpaa.LtA
open Go Go.Proofs Go.Proofs.Ytgeoommlmddgpaa.AI Go.RowKit
def hk0 (o : Blk) (y : ViewV) : Hp := heapOf [o, .dead, .cells 24 (hcL y) false] hp0
section
variable (xs ds : List ViewV) (o : Blk) (s : Value) (n : Nat) (y : ViewV) (oth : Int)
noncomputable def hk1 (xs : List ViewV) (o : Blk) (y : ViewV) : Hp := heapOf (rw2 xs) (hk0 o y)
noncomputable def hk2 (ds xs : List ViewV) (o : Blk) (y : ViewV) : Hp := heapOf (rw2 ds) (hk1 xs o y)
noncomputable def hkG (x : ViewV) (hp : Hp) : Hp := heapOf [.dead, hB x] hp
end
section
variable {vs : List ViewV} {s : Value} {hp : Hp}
end
end Go.Proofs.Ytgeoommlmddgpaa.LtA
namespace Go.Proofs.Ytgeoommlmddgpaa.Sort
section
variable {α : Type} (lt : α → α → Bool)
def insB (S : List α) (x : α) : List α := (S.reverse.dropWhile (lt x)).reverse ++ x :: (S.reverse.takeWhile (lt x)).reverse
def mrg (L R : List α) : List α := R.foldl (insB lt) L
def ssort (S : List α) : List α := mrg lt [] S
def Srt (S : List α) : Prop := S.Pairwise fun u v => lt v u = false
structure Swo (K : α → Prop) : Prop where
  asym : ∀ x y, K x → K y → lt x y = true → lt y x = false
  ntr : ∀ x y z, K x → K y → K z → lt x y = false → lt y z = false → lt x z = false
end
section
variable {α : Type} {lt : α → α → Bool} {K : α → Prop}
theorem Swo.trans (h : Swo lt K) {x y z : α} (hx : K x) (hy : K y) (hz : K z) (h1 : lt x y = true) (h2 : lt y z = true) : lt x z = true := by
  cases e : lt x z with
  | true => rfl
  | false => rw [h.ntr x z y hx hz hy e (h.asym y z hy hz h2)] at h1; cases h1
theorem Swo.irr (h : Swo lt K) {x : α} (hx : K x) : lt x x = false := by
  cases e : lt x x with
  | false => rfl
  | true => rw [h.asym x x hx hx e] at e; cases e
theorem insB_of {S P Q : List α} {x : α} (hS : S = P ++ Q) (hQ : ∀ q ∈ Q, lt x q = true) (hP : ∀ p, P.getLast? = some p → lt x p = false) : insB lt S x = P ++ x :: Q := by
  subst hS
  have h1 : ∀ a ∈ Q.reverse, lt x a = true := fun a ha => hQ a (List.mem_reverse.1 ha)
  have h2 : P.reverse.takeWhile (lt x) = [] ∧ P.reverse.dropWhile (lt x) = P.reverse := by
    cases e : P.reverse with
    | nil => exact ⟨rfl, rfl⟩
    | cons p R =>
      have : P.getLast? = some p := by rw [← List.reverse_reverse P, List.getLast?_reverse, e]; rfl
      have := hP p this
      exact ⟨by rw [List.takeWhile_cons, if_neg (by rw [this]; simp)], by rw [List.dropWhile_cons, if_neg (by rw [this]; simp)]⟩
  unfold insB
  rw [List.reverse_append, List.takeWhile_append_of_pos h1, List.dropWhile_append_of_pos h1, h2.1, h2.2]
  simp
theorem ins_cut (lt : α → α → Bool) (S : List α) (x : α) : ∃ P Q, S = P ++ Q ∧ (∀ q ∈ Q, lt x q = true) ∧ (∀ p, P.getLast? = some p → lt x p = false) := by
  refine ⟨(S.reverse.dropWhile (lt x)).reverse, (S.reverse.takeWhile (lt x)).reverse, ?_, fun q hq => ?_, fun p hp => ?_⟩
  · rw [← List.reverse_append, List.takeWhile_append_dropWhile, List.reverse_reverse]
  · exact List.all_eq_true.1 (List.all_takeWhile (p := lt x) (l := S.reverse)) q (List.mem_reverse.1 hq)
  · rw [List.getLast?_reverse] at hp
    have := List.head?_dropWhile_not (lt x) S.reverse
    rw [hp] at this
    simpa using this
theorem ins_eq (lt : α → α → Bool) (S : List α) (x : α) : ∃ P Q, S = P ++ Q ∧ insB lt S x = P ++ x :: Q ∧ (∀ q ∈ Q, lt x q = true) ∧ (∀ p, P.getLast? = some p → lt x p = false) := by
  obtain ⟨P, Q, h1, h2, h3⟩ := ins_cut lt S x
  exact ⟨P, Q, h1, insB_of h1 h2 h3, h2, h3⟩
theorem mem_insB {S : List α} {x z : α} : z ∈ insB lt S x ↔ z = x ∨ z ∈ S := by
  obtain ⟨P, Q, h1, h2, _⟩ := ins_eq lt S x
  rw [h2, h1]
  simp only [List.mem_append, List.mem_cons]
  constructor
  · rintro (h | h | h)
    · exact .inr (.inl h)
    · exact .inl h
    · exact .inr (.inr h)
  · rintro (h | h | h)
    · exact .inr (.inl h)
    · exact .inl h
    · exact .inr (.inr h)
theorem len_insB {S : List α} {x : α} : (insB lt S x).length = S.length + 1 := by
  obtain ⟨P, Q, h1, h2, _⟩ := ins_eq lt S x
  rw [h2, h1]; simp; omega
theorem mem_mrg {R : List α} : ∀ {L : List α} {z : α}, z ∈ mrg lt L R ↔ z ∈ L ∨ z ∈ R := by
  induction R with
  | nil => intro L z; simp [mrg]
  | cons r R ih =>
    intro L z
    have e : mrg lt L (r :: R) = mrg lt (insB lt L r) R := rfl
    rw [e, ih, mem_insB, List.mem_cons]
    constructor
    · rintro ((h | h) | h)
      · exact .inr (.inl h)
      · exact .inl h
      · exact .inr (.inr h)
    · rintro (h | h | h)
      · exact .inl (.inr h)
      · exact .inl (.inl h)
      · exact .inr h
theorem len_mrg {R : List α} : ∀ {L : List α}, (mrg lt L R).length = L.length + R.length := by
  induction R with
  | nil => intro L; rfl
  | cons r R ih =>
    intro L
    have e : mrg lt L (r :: R) = mrg lt (insB lt L r) R := rfl
    rw [e, ih, len_insB]; simp; omega
theorem mem_ssort {S : List α} {z : α} : z ∈ ssort lt S ↔ z ∈ S := by unfold ssort; rw [mem_mrg]; simp
theorem len_ssort {S : List α} : (ssort lt S).length = S.length := by unfold ssort; rw [len_mrg]; simp
theorem mrg_append {L R1 R2 : List α} : mrg lt L (R1 ++ R2) = mrg lt (mrg lt L R1) R2 := by unfold mrg; rw [List.foldl_append]
theorem insB_left {M N : List α} {y : α} (h : ∀ x ∈ N, lt y x = true) : insB lt (M ++ N) y = insB lt M y ++ N := by
  obtain ⟨P, Q, h1, h2, h3, h4⟩ := ins_eq lt M y
  rw [h2]
  rw [insB_of (P := P) (Q := Q ++ N) (by rw [h1, List.append_assoc]) (fun q hq => by
    rcases List.mem_append.1 hq with hq | hq
    · exact h3 q hq
    · exact h q hq) h4]
  simp
theorem insB_right {M N : List α} {y : α} (h : ∀ x ∈ M, lt y x = false) : insB lt (M ++ N) y = M ++ insB lt N y := by
  obtain ⟨P, Q, h1, h2, h3, h4⟩ := ins_eq lt N y
  rw [h2]
  rw [insB_of (P := M ++ P) (Q := Q) (by rw [h1, List.append_assoc]) h3 (fun p hp => by
    cases P with
    | nil => rw [List.append_nil] at hp; exact h p (List.mem_of_getLast? hp)
    | cons a P =>
      rw [List.getLast?_append] at hp
      cases e : (a :: P).getLast? with
      | none => simp at e
      | some b =>
        rw [e] at hp
        simp at hp
        subst hp
        exact h4 b e)]
  simp
theorem mrg_left {N : List α} : ∀ {R M : List α}, (∀ y ∈ R, ∀ x ∈ N, lt y x = true) → mrg lt (M ++ N) R = mrg lt M R ++ N
  | [], M, _ => rfl
  | r :: R, M, h => by
    have e : mrg lt (M ++ N) (r :: R) = mrg lt (insB lt (M ++ N) r) R := rfl
    rw [e, insB_left (h r (.head _)), mrg_left fun y hy => h y (.tail _ hy)]
    rfl
theorem mrg_right {M : List α} : ∀ {R N : List α}, (∀ y ∈ R, ∀ x ∈ M, lt y x = false) → mrg lt (M ++ N) R = M ++ mrg lt N R
  | [], N, _ => rfl
  | r :: R, N, h => by
    have e : mrg lt (M ++ N) (r :: R) = mrg lt (insB lt (M ++ N) r) R := rfl
    rw [e, insB_right (h r (.head _)), mrg_right fun y hy => h y (.tail _ hy)]
    rfl
theorem mrg_split {L1 L2 R1 R2 : List α} (h1 : ∀ y ∈ R1, ∀ x ∈ L2, lt y x = true) (h2 : ∀ y ∈ R2, ∀ x ∈ L1, lt y x = false) (h3 : ∀ y ∈ R2, ∀ x ∈ R1, lt y x = false) : mrg lt (L1 ++ L2) (R1 ++ R2) = mrg lt L1 R1 ++ mrg lt L2 R2 := by
  rw [mrg_append, mrg_left h1, mrg_right fun y hy x hx => by
    rcases mem_mrg.1 hx with hx | hx
    · exact h2 y hy x hx
    · exact h3 y hy x hx]
theorem mrg_nil_left {R : List α} (h : Srt lt R) : mrg lt [] R = R := by
  have key : ∀ (R M : List α), Srt lt (M ++ R) → mrg lt M R = M ++ R := by
    intro R
    induction R with
    | nil => intro M _; simp [mrg]
    | cons r R ih =>
      intro M h
      have e : mrg lt M (r :: R) = mrg lt (insB lt M r) R := rfl
      have hp := List.pairwise_append.1 h
      rw [e, insB_of (P := M) (Q := []) (by simp) (fun q hq => by cases hq) (fun p hp' => hp.2.2 p (List.mem_of_getLast? hp') r (.head _))]
      have h' : Srt lt (M ++ [r] ++ R) := by rw [List.append_assoc]; exact h
      rw [ih (M ++ [r]) h']; simp
  have := key R [] (by simpa using h)
  simpa using this
theorem srt_insB (sw : Swo lt K) {S : List α} {x : α} (hS : Srt lt S) (hK : ∀ z ∈ S, K z) (hx : K x) : Srt lt (insB lt S x) := by
  obtain ⟨P, Q, h1, h2, h3, h4⟩ := ins_eq lt S x
  subst h1
  rw [h2]
  obtain ⟨a, b, c⟩ := List.pairwise_append.1 hS
  have hPx : ∀ p ∈ P, lt x p = false := by
    intro p hp
    cases hl : P.getLast? with
    | none => rw [List.getLast?_eq_none_iff] at hl; subst hl; cases hp
    | some p0 =>
      have h0 := h4 p0 hl
      obtain ⟨P', rfl⟩ : ∃ P', P = P' ++ [p0] := by
        have := List.getLast?_eq_some_iff.1 hl
        exact this
      rcases List.mem_append.1 hp with hp | hp
      · have hs := (List.pairwise_append.1 a).2.2 p hp p0 (by simp)
        exact sw.ntr x p0 p hx (hK _ (by simp)) (hK _ (by simp [hp])) h0 hs
      · have : p = p0 := by simpa using hp
        subst this; exact h0
  refine List.pairwise_append.2 ⟨a, List.pairwise_cons.2 ⟨fun q hq => sw.asym x q hx (hK _ (by simp [hq])) (h3 q hq), b⟩, fun p hp q hq => ?_⟩
  rcases List.mem_cons.1 hq with rfl | hq
  · exact hPx p hp
  · exact c p hp q hq
theorem srt_mrg (sw : Swo lt K) : ∀ {R L : List α}, Srt lt L → (∀ z ∈ L, K z) → (∀ z ∈ R, K z) → Srt lt (mrg lt L R)
  | [], L, h, _, _ => h
  | r :: R, L, h, h1, h2 => srt_mrg sw (R := R) (L := insB lt L r) (srt_insB sw h h1 (h2 r (.head _))) (fun z hz => by
      rcases mem_insB.1 hz with rfl | hz
      · exact h2 _ (.head _)
      · exact h1 z hz) (fun z hz => h2 z (.tail _ hz))
theorem srt_ssort (sw : Swo lt K) {S : List α} (h : ∀ z ∈ S, K z) : Srt lt (ssort lt S) := srt_mrg sw (by unfold Srt; simp) (by simp) h
theorem ins_comm (sw : Swo lt K) {N : List α} {x q : α} (hN : Srt lt N) (hK : ∀ z ∈ N, K z) (hx : K x) (hq : K q) (h : lt x q = true) : insB lt (insB lt N x) q = insB lt (insB lt N q) x := by
  obtain ⟨P, Q, h1, h2, h3, h4⟩ := ins_eq lt N x
  obtain ⟨Q1, Q2, k1, k3, k4⟩ := ins_cut lt Q q
  subst h1 k1
  obtain ⟨a, b, c⟩ := List.pairwise_append.1 hN
  have hPx : ∀ p ∈ P, lt x p = false := by
    have := srt_insB sw hN hK hx
    rw [h2] at this
    intro p hp
    exact (List.pairwise_append.1 this).2.2 p hp x (.head _)
  have hPq : ∀ p ∈ P, lt q p = false := by
    intro p hp
    cases e : lt q p with
    | false => rfl
    | true => rw [← hPx p hp]; exact (sw.trans hx hq (hK p (by simp [hp])) h e).symm
  have e1 : insB lt (P ++ (Q1 ++ Q2)) q = P ++ Q1 ++ q :: Q2 := insB_of (by simp) k3 (fun p hp => by
    cases Q1 with
    | nil => rw [List.append_nil] at hp; exact hPq p (List.mem_of_getLast? hp)
    | cons z Q1 =>
      rw [List.getLast?_append] at hp
      cases e : (z :: Q1).getLast? with
      | none => simp at e
      | some z' =>
        rw [e] at hp
        simp at hp
        subst hp
        exact k4 z' e)
  have e2 : insB lt (P ++ x :: (Q1 ++ Q2)) q = P ++ x :: Q1 ++ q :: Q2 := insB_of (by simp) k3 (fun p hp => by
    rw [List.getLast?_append] at hp
    cases Q1 with
    | nil =>
      simp at hp
      subst hp
      exact sw.asym _ q hx hq h
    | cons z Q1 =>
      have e3 : (x :: z :: Q1).getLast? = (z :: Q1).getLast? := by simp [List.getLast?_cons]
      rw [e3] at hp
      cases e : (z :: Q1).getLast? with
      | none => simp at e
      | some z' =>
        rw [e] at hp
        simp at hp
        subst hp
        exact k4 z' e)
  have e3 : insB lt (P ++ Q1 ++ q :: Q2) x = P ++ x :: (Q1 ++ q :: Q2) := insB_of (by simp) (fun z hz => by
    rcases List.mem_append.1 hz with hz | hz
    · exact h3 z (by simp [hz])
    · rcases List.mem_cons.1 hz with rfl | hz
      · exact h
      · exact h3 z (by simp [hz])) h4
  rw [h2, e2, e1, e3]
  simp
theorem mrg_comm (sw : Swo lt K) {x : α} (hx : K x) : ∀ {Q N : List α}, Srt lt N → (∀ z ∈ N, K z) → (∀ q ∈ Q, K q) → (∀ q ∈ Q, lt x q = true) → mrg lt (insB lt N x) Q = insB lt (mrg lt N Q) x
  | [], N, _, _, _, _ => rfl
  | q :: Q, N, h, h1, h2, h3 => by
    have e : mrg lt (insB lt N x) (q :: Q) = mrg lt (insB lt (insB lt N x) q) Q := rfl
    have e2 : mrg lt N (q :: Q) = mrg lt (insB lt N q) Q := rfl
    rw [e, e2, ins_comm sw h h1 hx (h2 q (.head _)) (h3 q (.head _))]
    exact mrg_comm sw hx (srt_insB sw h h1 (h2 q (.head _))) (fun z hz => by
      rcases mem_insB.1 hz with rfl | hz
      · exact h2 _ (.head _)
      · exact h1 z hz) (fun z hz => h2 z (.tail _ hz)) (fun z hz => h3 z (.tail _ hz))
theorem mrg_ssort (sw : Swo lt K) {M : List α} (hM : Srt lt M) (hKM : ∀ z ∈ M, K z) {B : List α} (hB : ∀ z ∈ B, K z) : mrg lt M (ssort lt B) = mrg lt M B := by
  have key : ∀ C : List α, (∀ z ∈ C, K z) → mrg lt M (ssort lt C.reverse) = mrg lt M C.reverse := by
    intro C
    induction C with
    | nil => intro _; rfl
    | cons x C ih =>
      intro h
      have ih' := ih fun z hz => h z (.tail _ hz)
      have e : ssort lt (x :: C).reverse = insB lt (ssort lt C.reverse) x := by
        rw [List.reverse_cons]
        unfold ssort
        rw [mrg_append]; rfl
      obtain ⟨P, Q, h1, h2, h3, _⟩ := ins_eq lt (ssort lt C.reverse) x
      have hKs : ∀ z ∈ ssort lt C.reverse, K z := fun z hz => h z (.tail _ (List.mem_reverse.1 (mem_ssort.1 hz)))
      rw [e, h2, List.reverse_cons, mrg_append, mrg_append, ← ih']
      have e4 : mrg lt (mrg lt M P) (x :: Q) = mrg lt (insB lt (mrg lt M P) x) Q := rfl
      have e5 : mrg lt (mrg lt M (ssort lt C.reverse)) [x] = insB lt (mrg lt M (ssort lt C.reverse)) x := rfl
      have hKP : ∀ z ∈ P, K z := fun z hz => hKs z (by rw [h1]; simp [hz])
      have hKQ : ∀ z ∈ Q, K z := fun z hz => hKs z (by rw [h1]; simp [hz])
      rw [e4, e5, mrg_comm sw (h x (.head _)) (srt_mrg sw hM hKM hKP) (fun z hz => by
        rcases mem_mrg.1 hz with hz | hz
        · exact hKM z hz
        · exact hKP z hz) hKQ h3, h1, mrg_append]
  have := key B.reverse fun z hz => hB z (List.mem_reverse.1 hz)
  rwa [List.reverse_reverse] at this
theorem mrg_ssorts (sw : Swo lt K) {A B : List α} (hA : ∀ z ∈ A, K z) (hB : ∀ z ∈ B, K z) : mrg lt (ssort lt A) (ssort lt B) = ssort lt (A ++ B) := by
  rw [mrg_ssort sw (srt_ssort sw hA) (fun z hz => hA z (mem_ssort.1 hz)) hB]
  unfold ssort
  rw [mrg_append]
theorem ssort_snoc {S : List α} {x : α} : ssort lt (S ++ [x]) = insB lt (ssort lt S) x := by unfold ssort; rw [mrg_append]; rfl
end
end Go.Proofs.Ytgeoommlmddgpaa.Sort
namespace Go.Proofs.Ytgeoommlmddgpaa.LtA
open Go Go.Proofs Go.Proofs.Ytgeoommlmddgpaa.AI Go.RowKit
def IsRow (us : List ViewV) (s : Value) (hp : Hp) : Prop := ∃ b c, s = rowS b us.length c ∧ hp.get b = some (rowB us)
theorem IsRow.uniq {us vs : List ViewV} {s : Value} {hp : Hp} (h1 : IsRow us s hp) (h2 : IsRow vs s hp) : us = vs := by
  obtain ⟨b, c, rfl, hb⟩ := h1
  obtain ⟨b', c', e, hb'⟩ := h2
  simp only [rowS, Value.slice.injEq, Option.some.injEq, Addr.mk.injEq, and_true] at e
  obtain ⟨rfl, -, -⟩ := e
  rw [hb] at hb'
  simp only [rowB, Option.some.injEq, Blk.cells.injEq, true_and, and_true] at hb'
  exact vrow_inj hb'
open Classical in
noncomputable def atW (k : List ViewV → HeapFn) : HeapFn := fun args hp => match args with
  | s :: _ => if h : ∃ us, IsRow us s hp ∧ us.length < 1000000 then k h.choose args hp else none
  | _ => none
theorem atW_goal {f : FuncId} {k : List ViewV → HeapFn} (h : ∀ us, us.length < 1000000 → CallGoal Try.prog f (k us)) : CallGoal Try.prog f (atW k) := by
  intro args hp v hp' he hk
  unfold atW at he
  split at he
  case h_2 => cases he
  split at he
  · rename_i hx
    exact h _ hx.choose_spec.2 _ _ _ _ he hk
  · cases he
theorem atW_of {k : List ViewV → HeapFn} {us : List ViewV} {s : Value} {r : List Value} {hp : Hp} (h : IsRow us s hp) (hn : us.length < 1000000) : atW k (s :: r) hp = k us (s :: r) hp := by
  unfold atW
  have hx : ∃ us, IsRow us s hp ∧ us.length < 1000000 := ⟨us, h, hn⟩
  simp only
  rw [dif_pos hx]
  rw [hx.choose_spec.1.uniq h]
def hW (us : List ViewV) : Hp := heapOf ([rowB us] ++ [.dead]) hp0
theorem hW_get (us : List ViewV) : (hW us).get 0 = some (rowB us) := by unfold hW; rw [heapOf0_get]; rfl
theorem hW_at (us : List ViewV) : RowAt (hW us) 0 us := .of (hW_get us)
def vU : Value := .tuple #[]
noncomputable def stO (h : Hp) (i : Nat) (v : ViewV) (us' : List ViewV) : OblE := ((aStore Try.prog h.get 45 (pb 0 (i * 7)) (.agg ⟨vc v⟩)).map fun es => (undef, es), (undef, [.put 0 (rowB us')]))
theorem stO_ok {h : Hp} {us : List ViewV} {i : Nat} {v : ViewV} (hg : h.get 0 = some (rowB us)) (hi : i < us.length) : (stO h i v (us.set i v)).1 = some (stO h i v (us.set i v)).2 := by
  obtain ⟨x, hx⟩ : ∃ x, us[i]? = some x := ⟨_, List.getElem?_eq_getElem hi⟩
  have hcell : cellsL (.agg ⟨vc v⟩) = vc v := rfl
  have hput := put_row (k := 0) (y := v) (ns := vc v) hx (by simp [vc]) (fun j hj => by
    rw [if_pos ⟨Nat.zero_le _, by show j < 0 + 7; omega⟩, Nat.sub_zero])
  rw [Nat.add_zero] at hput
  unfold rowB at hg
  unfold stO pb
  simp only [aStore, hg, size34, hcell]
  rw [if_pos]
  · rw [hput]; rfl
  · rw [Bool.and_eq_true, Bool.and_eq_true]
    refine ⟨⟨rfl, rfl⟩, decide_eq_true ?_⟩
    rw [vrow_len]; omega
theorem put_get {h : Hp} {us : List ViewV} : (h.put 0 (rowB us)).get 0 = some (rowB us) := by rw [Hp.get_put, if_pos rfl]
noncomputable def adO (a b : Nat) : Obl := (some (.int .i64 (wrapF .i64 (Int.ofNat a + Int.ofNat b))), iN (a + b))
theorem adO_ok {a b : Nat} (h : a + b < 3000000) : (adO a b).1 = some (adO a b).2 := add_ok h
noncomputable def suO (a b : Nat) : Obl := (some (.int .i64 (wrapF .i64 (Int.ofNat a - Int.ofNat b))), iN (a - b))
theorem suO_ok {a b : Nat} (h : a < 3000000) (hb : b ≤ a) : (suO a b).1 = some (suO a b).2 := by
  have e : Int.ofNat a - Int.ofNat b = Int.ofNat (a - b) := by simp only [Int.ofNat_eq_natCast]; omega
  show some (Value.int .i64 (wrapF .i64 (Int.ofNat a - Int.ofNat b))) = _
  rw [e, i64_ok (by omega)]; rfl
noncomputable def ltO (a b : Nat) (r : Bool) : Obl := (some (.bool (decide (Int.ofNat a < Int.ofNat b))), .bool r)
theorem ltO_ok {a b : Nat} {r : Bool} (h : decide (a < b) = r) : (ltO a b r).1 = some (ltO a b r).2 := by
  show some (Value.bool (decide (Int.ofNat a < Int.ofNat b))) = some (.bool r)
  rw [← h, show decide (Int.ofNat a < Int.ofNat b) = decide (a < b) from decide_eq_decide.2 (by simp only [Int.ofNat_eq_natCast]; omega)]
theorem at_ok {h : Hp} {us : List ViewV} {i : Nat} {x : ViewV} (hat : RowAt h 0 us) (hx : us[i]? = some x) : (ldO h.get 45 0 (i * 7) (.agg ⟨vc x⟩)).1 = some (ldO h.get 45 0 (i * 7) (.agg ⟨vc x⟩)).2 := vload_ok hat hx
theorem ix_ok {i n c : Nat} (h : i < n) : (ixO 0 n c i).1 = some (ixO 0 n c i).2 := vidx_ok h
theorem set_mid {α : Type} {P Q : List α} {x y : α} {i : Nat} (h : P.length = i) : (P ++ x :: Q).set i y = P ++ y :: Q := by
  subst h
  rw [List.set_append_right _ _ (Nat.le_refl _), Nat.sub_self]; rfl
theorem get_mid {α : Type} {P Q : List α} {x : α} {i : Nat} (h : P.length = i) : (P ++ x :: Q)[i]? = some x := by
  subst h
  rw [List.getElem?_append_right (Nat.le_refl _), Nat.sub_self]; rfl
section
variable (us us1 us2 : List ViewV) (n c a m k i : Nat) (x y : ViewV) (f : Value) (g : Nat → Value)
end
def EndsW (N : Nat) (us : List ViewV) (e : Exit) (st : St) : Prop := e = .normal ∧ ∃ g, st = stOf N g [] [rowB us]
def swapR (us : List ViewV) (a m k : Nat) : List ViewV := us.take a ++ (us.drop m).take k ++ (us.drop (a + k)).take (m - (a + k)) ++ (us.drop a).take k ++ us.drop (m + k)
theorem cut5 {us : List ViewV} {a m k : Nat} (h1 : a + k ≤ m) (h2 : m + k ≤ us.length) : us = us.take a ++ (us.drop a).take k ++ (us.drop (a + k)).take (m - (a + k)) ++ (us.drop m).take k ++ us.drop (m + k) := by
  have e1 : us.drop m = (us.drop m).take k ++ us.drop (m + k) := by
    have := (List.take_append_drop k (us.drop m)).symm
    rwa [List.drop_drop] at this
  have e2 : us.drop (a + k) = (us.drop (a + k)).take (m - (a + k)) ++ us.drop m := by
    have := (List.take_append_drop (m - (a + k)) (us.drop (a + k))).symm
    rwa [List.drop_drop, show a + k + (m - (a + k)) = m by omega] at this
  have e3 : us.drop a = (us.drop a).take k ++ us.drop (a + k) := by
    have := (List.take_append_drop k (us.drop a)).symm
    rwa [List.drop_drop] at this
  have e4 := (List.take_append_drop a us).symm
  rw [List.append_assoc, ← e1, List.append_assoc, ← e2, List.append_assoc, ← e3, ← e4]
theorem swapR_of {A X B Y C : List ViewV} {a m k : Nat} (hX : X.length = k) (hY : Y.length = k) (hA : A.length = a) (hm : m = a + k + B.length) : swapR (A ++ X ++ B ++ Y ++ C) a m k = A ++ Y ++ B ++ X ++ C := by
  subst hA hX
  subst hm
  unfold swapR
  have t1 : (A ++ X ++ B ++ Y ++ C).take A.length = A := by rw [List.append_assoc, List.append_assoc, List.append_assoc, List.take_left]
  have d1 : (A ++ X ++ B ++ Y ++ C).drop A.length = X ++ (B ++ Y ++ C) := by rw [List.append_assoc, List.append_assoc, List.append_assoc, List.drop_left]; simp
  have d2 : (A ++ X ++ B ++ Y ++ C).drop (A.length + X.length) = B ++ (Y ++ C) := by rw [← List.drop_drop, d1, List.drop_left]; simp
  have d3 : (A ++ X ++ B ++ Y ++ C).drop (A.length + X.length + B.length) = Y ++ C := by rw [← List.drop_drop, d2, List.drop_left]
  have d4 : (A ++ X ++ B ++ Y ++ C).drop (A.length + X.length + B.length + X.length) = C := by rw [← List.drop_drop, d3, ← hY, List.drop_left]
  rw [t1, d1, d2, d3, d4, ← hY, List.take_left, show A.length + Y.length + B.length - (A.length + Y.length) = B.length by omega, List.take_left, hY, List.take_left]
theorem rowargs {us : List ViewV} {b n c : Nat} {hp : Hp} (hk : hp.ok) (hb : hp.get b = some (rowB us)) {m : BM} {h : HG} {v : Value} (r : VRel m (ovr hp h) (rowS b n c) v) : ∃ x, m b = some x ∧ VRel (canM m [b]) (heapOf [rowB us, .dead] hp0).get (rowS 0 n c) v := by
  obtain ⟨_, _, rr, oo, cap, q1, rfl, hcap, hh⟩ := r.of_slice0
  cases q1
  have gb := ovr_sub hk h b _ hb
  rcases hh with hd | ⟨δ, E, hm, hoff, hcok⟩
  · rw [gb] at hd; cases hd
  · exact ⟨_, hm, .slice hcap (.inr ⟨δ, E, hm, hoff, hcok⟩)⟩
theorem int_rel {m m' : BM} {h h' : HG} {k : IntKind} {z : Int} {v : Value} (r : VRel m h (.int k z) v) : VRel m' h' (.int k z) v := by
  rw [r.of_int]; exact .flat rfl
theorem vU_rel {m m' : BM} {h h' : HG} {v : Value} (r : VRel m h vU v) : VRel m' h' vU v := by
  obtain ⟨a', rfl, h1, h2⟩ := r.of_tuple
  exact .tuple h1 fun i v v' q _ => by simp at q
end Go.Proofs.Ytgeoommlmddgpaa.LtA
namespace Go.Proofs.Ytgeoommlmddgpaa.LtA
open Go Go.Proofs Go.Proofs.Ytgeoommlmddgpaa.AI Go.RowKit
noncomputable def neO (a b : Nat) (r : Bool) : Obl := (some (.bool (Int.ofNat a != Int.ofNat b)), .bool r)
theorem neO_ok {a b : Nat} {r : Bool} (h : (a != b) = r) : (neO a b r).1 = some (neO a b r).2 := by
  show some (Value.bool (Int.ofNat a != Int.ofNat b)) = some (.bool r)
  rw [← h]
  congr 2
  cases e : (a != b) with
  | true =>
    have : a ≠ b := by simpa using e
    exact bne_iff_ne.2 (fun e => this (Int.ofNat.inj e))
  | false => have : a = b := by simpa using e
             subst this; simp
noncomputable def gtO (a b : Nat) (r : Bool) : Obl := (some (.bool (decide (Int.ofNat a > Int.ofNat b))), .bool r)
theorem gtO_ok {a b : Nat} {r : Bool} (h : decide (b < a) = r) : (gtO a b r).1 = some (gtO a b r).2 := by
  show some (Value.bool (decide (Int.ofNat a > Int.ofNat b))) = some (.bool r)
  rw [← h, show decide (Int.ofNat a > Int.ofNat b) = decide (b < a) from decide_eq_decide.2 (by simp only [Int.ofNat_eq_natCast]; omega)]
section
variable (us us' : List ViewV) (n c a m b i j : Nat) (g : Nat → Value)
end
def rotR (us : List ViewV) (a m b : Nat) : List ViewV := us.take a ++ (us.drop m).take (b - m) ++ (us.drop a).take (m - a) ++ us.drop b
theorem cut4 {us : List ViewV} {a m b : Nat} (h1 : a ≤ m) (h2 : m ≤ b) : us = us.take a ++ (us.drop a).take (m - a) ++ (us.drop m).take (b - m) ++ us.drop b := by
  have e1 : us.drop m = (us.drop m).take (b - m) ++ us.drop b := by
    have := (List.take_append_drop (b - m) (us.drop m)).symm
    rwa [List.drop_drop, show m + (b - m) = b by omega] at this
  have e2 : us.drop a = (us.drop a).take (m - a) ++ us.drop m := by
    have := (List.take_append_drop (m - a) (us.drop a)).symm
    rwa [List.drop_drop, show a + (m - a) = m by omega] at this
  have e4 := (List.take_append_drop a us).symm
  rw [List.append_assoc, ← e1, List.append_assoc, ← e2, ← e4]
theorem cut4_of {A X Y C : List ViewV} {a m b : Nat} (hA : A.length = a) (hm : m = a + X.length) (hb : b = m + Y.length) : (A ++ X ++ Y ++ C).take a = A ∧ ((A ++ X ++ Y ++ C).drop a).take (m - a) = X ∧ ((A ++ X ++ Y ++ C).drop m).take (b - m) = Y ∧ (A ++ X ++ Y ++ C).drop b = C := by
  subst hA
  subst hm
  subst hb
  have d1 : (A ++ X ++ Y ++ C).drop A.length = X ++ (Y ++ C) := by rw [List.append_assoc, List.append_assoc, List.drop_left]
  have d2 : (A ++ X ++ Y ++ C).drop (A.length + X.length) = Y ++ C := by rw [← List.drop_drop, d1, List.drop_left]
  refine ⟨by rw [List.append_assoc, List.append_assoc, List.take_left], ?_, ?_, ?_⟩
  · rw [d1, show A.length + X.length - A.length = X.length by omega, List.take_left]
  · rw [d2, show A.length + X.length + Y.length - (A.length + X.length) = Y.length by omega, List.take_left]
  · rw [← List.drop_drop, d2, List.drop_left]
end Go.Proofs.Ytgeoommlmddgpaa.LtA
namespace Go.Proofs.Ytgeoommlmddgpaa.LtA
open Go Go.Proofs Go.Proofs.Ytgeoommlmddgpaa.AI Go.RowKit Go.Proofs.Ytgeoommlmddgpaa.Sort
def tCmpV (aId : Int) (aHeightNull : Bool) (aHeightTau : Int) (aHeightOid : Int) (aHeightR : Int) (aHeightDelta : Int) (aHeightId : Int) (bId : Int) (bHeightNull : Bool) (bHeightTau : Int) (bHeightOid : Int) (bHeightR : Int) (bHeightDelta : Int) (bHeightId : Int) : Value := (bif (less (aHeightNull) (aHeightTau) (aHeightOid) (aHeightR) (aHeightDelta) (aHeightId) (bHeightNull) (bHeightTau) (bHeightOid) (bHeightR) (bHeightDelta) (bHeightId)) then (.int .i64 (-1)) else (bif (less (bHeightNull) (bHeightTau) (bHeightOid) (bHeightR) (bHeightDelta) (bHeightId) (aHeightNull) (aHeightTau) (aHeightOid) (aHeightR) (aHeightDelta) (aHeightId)) then (.int .i64 1) else (.int .i64 0)))
def ltV (u v : ViewV) : Bool := less u.n u.t u.o u.r u.d u.i v.n v.t v.o v.r v.d v.i
def cmpV (u v : ViewV) : Int := bif ltV u v then -1 else bif ltV v u then 1 else 0
theorem cmpV_lt (u v : ViewV) : decide (cmpV u v < 0) = ltV u v := by
  unfold cmpV
  cases ltV u v with
  | true => rfl
  | false => cases ltV v u <;> rfl
theorem tCmpV_eq (u v : ViewV) : tCmpV u.id u.n u.t u.o u.r u.d u.i v.id v.n v.t v.o v.r v.d v.i = .int .i64 (cmpV u v) := by
  unfold tCmpV cmpV ltV
  cases less u.n u.t u.o u.r u.d u.i v.n v.t v.o v.r v.d v.i with
  | true => rfl
  | false => cases less v.n v.t v.o v.r v.d v.i u.n u.t u.o u.r u.d u.i <;> rfl
noncomputable def dnO (j : Nat) : Obl := (some (.int .i64 (wrapF .i64 (Int.ofNat (j + 1) - 1))), iN j)
theorem dnO_ok {j : Nat} (h : j < 1000000) : (dnO j).1 = some (dnO j).2 := wrap_down h
noncomputable def cpO (u v : ViewV) (r : Bool) : Obl := (some (.bool (decide (cmpV u v < 0))), .bool r)
theorem cpO_ok {u v : ViewV} {r : Bool} (h : ltV u v = r) : (cpO u v r).1 = some (cpO u v r).2 := by
  show some (Value.bool (decide (cmpV u v < 0))) = some (.bool r)
  rw [cmpV_lt, h]
section
variable (us us1 us2 : List ViewV) (n c a b i j : Nat) (x y : ViewV) (g : Nat → Value)
end
theorem cut3 {us : List ViewV} {a b : Nat} (h1 : a ≤ b) : us = us.take a ++ (us.drop a).take (b - a) ++ us.drop b := by
  have e2 : us.drop a = (us.drop a).take (b - a) ++ us.drop b := by
    have := (List.take_append_drop (b - a) (us.drop a)).symm
    rwa [List.drop_drop, show a + (b - a) = b by omega] at this
  rw [List.append_assoc, ← e2, List.take_append_drop]
theorem cut3_of {A X C : List ViewV} {a b : Nat} (hA : A.length = a) (hb : b = a + X.length) : (A ++ X ++ C).take a = A ∧ ((A ++ X ++ C).drop a).take (b - a) = X ∧ (A ++ X ++ C).drop b = C := by
  subst hA
  subst hb
  have d1 : (A ++ X ++ C).drop A.length = X ++ C := by rw [List.append_assoc, List.drop_left]
  refine ⟨by rw [List.append_assoc, List.take_left], ?_, ?_⟩
  · rw [d1, show A.length + X.length - A.length = X.length by omega, List.take_left]
  · rw [← List.drop_drop, d1, List.drop_left]
end Go.Proofs.Ytgeoommlmddgpaa.LtA
namespace Go.Proofs.Ytgeoommlmddgpaa.LtA
open Go Go.Proofs Go.Proofs.Ytgeoommlmddgpaa.AI Go.RowKit Go.Proofs.Ytgeoommlmddgpaa.Sort
def cT : Code → Code
  | .cond _ a _ => a
  | c => c
noncomputable def hvO (i j h : Nat) (l : List Obl) : List Obl := adO i j :: (some (.int .u64 (wrapF .u64 (Int.ofNat (i + j)))), uN (i + j)) :: (some (.int .u64 (Int.fdiv (Int.ofNat (i + j)) (2 ^ (min (Int.toNat 1) 64)))), uN h) :: (some (.int .i64 (wrapF .i64 (Int.ofNat h))), iN h) :: l
theorem hvO_ok {i j : Nat} {l : List Obl} (h : i + j < 3000000) (hl : Met l) : Met (hvO i j ((i + j) / 2) l) := Met.cons (add_ok h) (Met.cons (u64_ok h) (Met.cons half_ok (Met.cons (i64_ok (by omega)) hl)))
noncomputable def eqO (a b : Nat) (r : Bool) : Obl := (some (.bool (Int.ofNat a == Int.ofNat b)), .bool r)
theorem eqO_ok {a b : Nat} {r : Bool} (h : (a == b) = r) : (eqO a b r).1 = some (eqO a b r).2 := by
  show some (Value.bool (Int.ofNat a == Int.ofNat b)) = some (.bool r)
  rw [← h]
  congr 2
  cases e : (a == b) with
  | true => have : a = b := by simpa using e
            subst this; simp
  | false =>
    have : a ≠ b := by simpa using e
    exact beq_false_of_ne (fun e => this (Int.ofNat.inj e))
section
variable (call : CallF) (us us1 us2 us' : List ViewV) (n c a m b i j h k s r p e mid q : Nat) (x y u w : ViewV) (d : Bool) (g : Nat → Value)
noncomputable def d1o (b : Bool) (l : List Obl) : List Obl := ltO i j true :: hvO i j h (ixO 0 n c h :: ldO (hW us).get 45 0 (h * 7) (.agg ⟨vc u⟩) :: ixO 0 n c a :: ldO (hW us).get 45 0 (a * 7) (.agg ⟨vc x⟩) :: cpO u x b :: l)
def d1c (b : Bool) : List (Tmp × Value) := [(33, .bool true), (36, iN (i + j)), (37, uN (i + j)), (38, uN h), (39, iN h), (43, pb 0 (h * 7)), (44, .agg ⟨vc u⟩), (47, pb 0 (a * 7)), (48, .agg ⟨vc x⟩), (50, .bool b)]
end
section
variable (us us1 us2 us' : List ViewV) (n c a m b i j h k s r p e mid q : Nat) (x y u w : ViewV) (d : Bool) (g : Nat → Value)
noncomputable def j1o (b : Bool) (l : List Obl) : List Obl := ltO i j true :: hvO i j h (ixO 0 n c m :: ldO (hW us).get 45 0 (m * 7) (.agg ⟨vc y⟩) :: ixO 0 n c h :: ldO (hW us).get 45 0 (h * 7) (.agg ⟨vc u⟩) :: cpO y u b :: l)
def j1c (b : Bool) : List (Tmp × Value) := [(85, .bool true), (88, iN (i + j)), (89, uN (i + j)), (90, uN h), (91, iN h), (95, pb 0 (m * 7)), (96, .agg ⟨vc y⟩), (99, pb 0 (h * 7)), (100, .agg ⟨vc u⟩), (102, .bool b)]
noncomputable def r1o (b : Bool) (l : List Obl) : List Obl := ltO s r true :: hvO s r h (suO p h :: ixO 0 n c (p - h) :: ldO (hW us).get 45 0 ((p - h) * 7) (.agg ⟨vc u⟩) :: ixO 0 n c h :: ldO (hW us).get 45 0 (h * 7) (.agg ⟨vc w⟩) :: cpO u w b :: l)
def r1c (b : Bool) : List (Tmp × Value) := [(151, .bool true), (154, iN (s + r)), (155, uN (s + r)), (156, uN h), (157, iN h), (162, iN (p - h)), (163, pb 0 ((p - h) * 7)), (164, .agg ⟨vc u⟩), (167, pb 0 (h * 7)), (168, .agg ⟨vc w⟩), (170, .bool b)]
end
section
variable (call : CallF) (us us' : List ViewV) (n c a m b s e mid : Nat) (g : Nat → Value)
end
end Go.Proofs.Ytgeoommlmddgpaa.LtA
namespace Go.Proofs.Ytgeoommlmddgpaa.LtA
open Go Go.Proofs Go.Proofs.Ytgeoommlmddgpaa.AI Go.RowKit Go.Proofs.Ytgeoommlmddgpaa.Sort
def Kn (x : ViewV) : Prop := known x.n x.t x.o x.r x.d x.i = true
theorem cmp3_neg {a b : Int} : cmp3 a b < 0 ↔ a < b := by
  have := cmp3_lt a b
  constructor
  · intro h; rw [decide_eq_true h] at this; exact of_decide_eq_true this.symm
  · intro h; rw [decide_eq_true h] at this; exact of_decide_eq_true this
theorem cmp3_eq0 {a b : Int} : cmp3 a b = 0 ↔ a = b := by
  have := cmp3_zero a b
  constructor
  · intro h
    rw [h] at this
    have h2 : (a == b) = true := by rw [← this]; rfl
    exact eq_of_beq h2
  · rintro rfl
    have h2 : (cmp3 a a == 0) = true := by rw [this]; simp
    exact eq_of_beq h2
def Lex (u v : ViewV) : Prop := u.t < v.t ∨ (u.t = v.t ∧ (u.o < v.o ∨ (u.o = v.o ∧ (u.r < v.r ∨ (u.r = v.r ∧ (u.d < v.d ∨ (u.d = v.d ∧ u.i < v.i)))))))
theorem or3_neg (a b c : Int) : or3 a b c < 0 ↔ a < 0 ∨ (a = 0 ∧ (b < 0 ∨ (b = 0 ∧ c < 0))) := by
  unfold or3
  rcases Decidable.em (a = 0) with h | h
  · subst h
    rcases Decidable.em (b = 0) with h2 | h2
    · subst h2; simp
    · have : (b == 0) = false := by simpa using h2
      simp [this, h2]
  · have : (a == 0) = false := by simpa using h
    simp [this, h]
theorem or3_eq0 (a b c : Int) : or3 a b c = 0 ↔ a = 0 ∧ b = 0 ∧ c = 0 := by
  unfold or3
  rcases Decidable.em (a = 0) with h | h
  · subst h
    rcases Decidable.em (b = 0) with h2 | h2
    · subst h2; simp
    · have : (b == 0) = false := by simpa using h2
      simp [this, h2]
  · have : (a == 0) = false := by simpa using h
    simp [this, h]
theorem ltV_lex {u v : ViewV} (hu : Kn u) (hv : Kn v) : ltV u v = true ↔ Lex u v := by
  unfold ltV less Kn at *
  rw [hu, hv, Bool.true_and, Bool.true_and, decide_eq_true_iff, or3_neg]
  unfold ord3 lev0 lev1 lev2
  rw [hu, hv]
  simp only [cond_true]
  rw [or3_neg, or3_eq0]
  simp only [cmp3_neg, cmp3_eq0]
  unfold Lex
  constructor
  · rintro ((h | ⟨h1, h | ⟨h2, h⟩⟩) | ⟨⟨h1, h2, h3⟩, h | ⟨h4, h5⟩⟩)
    · exact .inl h
    · exact .inr ⟨h1, .inl h⟩
    · exact .inr ⟨h1, .inr ⟨h2, .inl h⟩⟩
    · exact .inr ⟨h1, .inr ⟨h2, .inr ⟨h3, .inl h⟩⟩⟩
    · exact .inr ⟨h1, .inr ⟨h2, .inr ⟨h3, .inr ⟨h4, h5⟩⟩⟩⟩
  · rintro (h | ⟨h1, h | ⟨h2, h | ⟨h3, h | ⟨h4, h5⟩⟩⟩⟩)
    · exact .inl (.inl h)
    · exact .inl (.inr ⟨h1, .inl h⟩)
    · exact .inl (.inr ⟨h1, .inr ⟨h2, h⟩⟩)
    · exact .inr ⟨⟨h1, h2, h3⟩, .inl h⟩
    · exact .inr ⟨⟨h1, h2, h3⟩, .inr ⟨h4, h5⟩⟩
theorem sw : Swo ltV Kn where
  asym u v hu hv h := by
    cases e : ltV v u with
    | false => rfl
    | true =>
      have h1 := (ltV_lex hu hv).1 h
      have h2 := (ltV_lex hv hu).1 e
      unfold Lex at h1 h2
      omega
  ntr u v z hu hv hz h1 h2 := by
    cases e : ltV u z with
    | false => rfl
    | true =>
      have h3 := (ltV_lex hu hz).1 e
      have n1 : ¬ Lex u v := fun h => by rw [(ltV_lex hu hv).2 h] at h1; cases h1
      have n2 : ¬ Lex v z := fun h => by rw [(ltV_lex hv hz).2 h] at h2; cases h2
      unfold Lex at h3 n1 n2
      omega
theorem srt_get {S : List ViewV} (hS : Srt ltV S) (hK : ∀ z ∈ S, Kn z) {i j : Nat} {u v : ViewV} (hij : i ≤ j) (hu : S[i]? = some u) (hv : S[j]? = some v) : ltV v u = false := by
  rcases Nat.lt_or_eq_of_le hij with h | h
  · obtain ⟨hi, rfl⟩ := List.getElem?_eq_some_iff.1 hu
    obtain ⟨hj, rfl⟩ := List.getElem?_eq_some_iff.1 hv
    exact List.pairwise_iff_getElem.1 hS i j hi hj h
  · subst h
    rw [hu] at hv; cases hv
    exact sw.irr (hK u (List.mem_of_getElem? hu))
section
variable {A X Y C us : List ViewV} {a m b : Nat}
theorem at_X (hus : us = A ++ X ++ Y ++ C) (hA : A.length = a) {i : Nat} (hi : i < X.length) : us[a + i]? = X[i]? := by
  subst hus hA
  rw [List.append_assoc, List.append_assoc, List.getElem?_append_right (by omega), show A.length + i - A.length = i by omega, List.getElem?_append_left hi]
theorem at_Y (hus : us = A ++ X ++ Y ++ C) (hA : A.length = a) (hm : m = a + X.length) {i : Nat} (hi : i < Y.length) : us[m + i]? = Y[i]? := by
  subst hus hA hm
  rw [List.append_assoc, List.getElem?_append_right (by simp), show A.length + X.length + i - (A ++ X).length = i by simp, List.getElem?_append_left hi]
theorem some_at {S : List ViewV} {i : Nat} (h : i < S.length) : ∃ x, S[i]? = some x := ⟨_, List.getElem?_eq_getElem h⟩
end
def Ends4 (us : List ViewV) (e : Exit) (st : St) : Prop := (e = .normal ∨ e = .ret) ∧ ∃ g, st = stOf 220 g [] [rowB us]
def EndsR4 (us : List ViewV) (e : Exit) (st : St) : Prop := e = .ret ∧ ∃ g, st = stOf 220 g [] [rowB us]
theorem mrg_one_left {x : ViewV} {Y1 Y2 : List ViewV} (h1 : ∀ u ∈ Y1, ltV u x = true) (h2 : ∀ u ∈ Y2, ltV u x = false) (hY : Srt ltV (Y1 ++ Y2)) : mrg ltV [x] (Y1 ++ Y2) = Y1 ++ x :: Y2 := by
  obtain ⟨a, b, c⟩ := List.pairwise_append.1 hY
  have := mrg_split (lt := ltV) (L1 := []) (L2 := [x]) (R1 := Y1) (R2 := Y2) (fun y hy z hz => by rw [List.mem_singleton.1 hz]; exact h1 y hy) (fun y hy z hz => by cases hz) (fun y hy z hz => c z hz y hy)
  rw [List.nil_append] at this
  rw [this, mrg_nil_left a]
  have e := mrg_right (lt := ltV) (M := [x]) (R := Y2) (N := []) (fun y hy z hz => by rw [List.mem_singleton.1 hz]; exact h2 y hy)
  rw [List.append_nil] at e
  rw [e, mrg_nil_left b]
  rfl
end Go.Proofs.Ytgeoommlmddgpaa.LtA
namespace Go.Proofs.Ytgeoommlmddgpaa.LtA
open Go Go.Proofs Go.Proofs.Ytgeoommlmddgpaa.AI Go.RowKit Go.Proofs.Ytgeoommlmddgpaa.Sort
def bs : Nat → Nat → List ViewV → List ViewV
  | _, 0, us => us
  | s, k + 1, us => match us with
    | [] => []
    | _ :: _ => ssort ltV (us.take s) ++ bs s k (us.drop s)
theorem bs_nil (s k : Nat) : bs s k [] = [] := by cases k <;> rfl
theorem bs_step {s k : Nat} {us : List ViewV} : bs s (k + 1) us = ssort ltV (us.take s) ++ bs s k (us.drop s) := by
  cases us with
  | nil => simp [bs, bs_nil]; rfl
  | cons u us => rfl
theorem bs_fuel {s : Nat} (hs : 0 < s) : ∀ {k k' : Nat} {us : List ViewV}, us.length ≤ k → us.length ≤ k' → bs s k us = bs s k' us
  | k, k', [], _, _ => by rw [bs_nil, bs_nil]
  | 0, _, u :: us, h, _ => by simp at h
  | _, 0, u :: us, _, h => by simp at h
  | k + 1, k' + 1, u :: us, h1, h2 => by
    rw [bs_step, bs_step]
    rw [bs_fuel hs (k := k) (k' := k') (by simp at h1 ⊢; omega) (by simp at h2 ⊢; omega)]
def bsS (s : Nat) (us : List ViewV) : List ViewV := bs s us.length us
theorem bsS_cut {s : Nat} {R1 R2 : List ViewV} (hs : 0 < s) (h : R1.length = s) : bsS s (R1 ++ R2) = ssort ltV R1 ++ bsS s R2 := by
  unfold bsS
  obtain ⟨k, hk⟩ : ∃ k, (R1 ++ R2).length = k + 1 := ⟨(R1 ++ R2).length - 1, by simp; omega⟩
  have e1 : (R1 ++ R2).take s = R1 := by rw [← h, List.take_left]
  have e2 : (R1 ++ R2).drop s = R2 := by rw [← h, List.drop_left]
  rw [hk, bs_step, e1, e2]
  rw [bs_fuel hs (k := k) (k' := R2.length) (by simp at hk; omega) (Nat.le_refl _)]
theorem bsS_short {s : Nat} {R : List ViewV} (hs : 0 < s) (h : R.length ≤ s) : bsS s R = ssort ltV R := by
  unfold bsS
  cases R with
  | nil => rfl
  | cons r R =>
    have : (r :: R).length = R.length + 1 := rfl
    rw [this, bs_step, List.take_of_length_le h, List.drop_of_length_le h, bs_nil, List.append_nil]
theorem bs_len {s : Nat} : ∀ {k : Nat} {us : List ViewV}, (bs s k us).length = us.length
  | 0, us => rfl
  | k + 1, us => by rw [bs_step, List.length_append, len_ssort, bs_len, ← List.length_append, List.take_append_drop]
theorem bsS_len {s : Nat} {us : List ViewV} : (bsS s us).length = us.length := bs_len
theorem ssort_two {R1 R2 : List ViewV} (h1 : ∀ z ∈ R1, Kn z) (h2 : ∀ z ∈ R2, Kn z) : mrg ltV (ssort ltV R1) (ssort ltV R2) = ssort ltV (R1 ++ R2) := mrg_ssorts sw h1 h2
noncomputable def leO (a b : Nat) (r : Bool) : Obl := (some (.bool (decide (Int.ofNat a ≤ Int.ofNat b))), .bool r)
theorem leO_ok {a b : Nat} {r : Bool} (h : decide (a ≤ b) = r) : (leO a b r).1 = some (leO a b r).2 := by
  show some (Value.bool (decide (Int.ofNat a ≤ Int.ofNat b))) = some (.bool r)
  rw [← h, show decide (Int.ofNat a ≤ Int.ofNat b) = decide (a ≤ b) from decide_eq_decide.2 (by simp only [Int.ofNat_eq_natCast]; omega)]
noncomputable def twO (s : Nat) : Obl := (some (.int .i64 (wrapF .i64 (2 * Int.ofNat s))), iN (2 * s))
theorem twO_ok {s : Nat} (h : s < 1000000) : (twO s).1 = some (twO s).2 := by
  have e : 2 * Int.ofNat s = Int.ofNat (2 * s) := by simp only [Int.ofNat_eq_natCast]; omega
  show some (Value.int .i64 (wrapF .i64 (2 * Int.ofNat s))) = _
  rw [e, i64_ok (by omega)]; rfl
noncomputable def dbO (s : Nat) : Obl := (some (.int .i64 (wrapF .i64 (Int.ofNat s * 2))), iN (2 * s))
theorem dbO_ok {s : Nat} (h : s < 1000000) : (dbO s).1 = some (dbO s).2 := by
  have e : Int.ofNat s * 2 = Int.ofNat (2 * s) := by simp only [Int.ofNat_eq_natCast]; omega
  show some (Value.int .i64 (wrapF .i64 (Int.ofNat s * 2))) = _
  rw [e, i64_ok (by omega)]; rfl
section
variable (us us' : List ViewV) (n c a b s : Nat) (g : Nat → Value)
end
theorem srtS {R : List ViewV} (h : ∀ z ∈ R, Kn z) : Srt ltV (ssort ltV R) := srt_ssort sw h
theorem kS {R : List ViewV} (h : ∀ z ∈ R, Kn z) : ∀ z ∈ ssort ltV R, Kn z := fun z hz => h z (mem_ssort.1 hz)
theorem cutAt {R : List ViewV} {s : Nat} (h : s ≤ R.length) : ∃ R1 R2, R = R1 ++ R2 ∧ R1.length = s := ⟨R.take s, R.drop s, (List.take_append_drop _ _).symm, by simp; omega⟩
end Go.Proofs.Ytgeoommlmddgpaa.LtA
namespace Go.Proofs.Ytgeoommlmddgpaa.LtA
open Go Go.Proofs Go.Proofs.Ytgeoommlmddgpaa.AI Go.RowKit
theorem half01 (r : Int) : (r == 0 || r == 1) = (Int.fdiv r (2 ^ (min (Int.toNat 1) 64)) == 0) := by
  have e : Int.fdiv r (2 ^ (min (Int.toNat 1) 64)) = r / 2 := by
    show Int.fdiv r 2 = _
    rw [Int.fdiv_eq_ediv_of_nonneg _ (by decide)]
  rw [e]
  rcases Decidable.em (r = 0) with h | h
  · subst h; rfl
  · rcases Decidable.em (r = 1) with h1 | h1
    · subst h1; rfl
    · rw [beq_false_of_ne h, beq_false_of_ne h1, beq_false_of_ne (by omega)]; rfl
theorem tROne_e (n : Bool) (t o r d i : Int) (Q : Value → Prop) : (((decide (i < (Int.ofNat 0))) = true → Q (.bool false)) ∧ ((decide (i < (Int.ofNat 0))) = false → ((decide (i ≥ (Int.ofNat 64))) = true → Q (.bool false)) ∧ ((decide (i ≥ (Int.ofNat 64))) = false → (n = true → (fstV ((aBin Try.prog .eql 24 (.agg #[.bool n, .int .i64 t, .int .i64 o, .int .i64 r, .int .i64 d, .int .i64 i]) (.agg #[.bool true, iN 0, iN 0, iN 0, iN 0, .int .i64 i])).map fun v => (v, none)) : Option Value) = some (.bool (same23 n t o r d i true (Int.ofNat 0) (Int.ofNat 0) (Int.ofNat 0) (Int.ofNat 0) i)) ∧ (Q (.bool (same23 n t o r d i true (Int.ofNat 0) (Int.ofNat 0) (Int.ofNat 0) (Int.ofNat 0) i)))) ∧ (n = false → ((decide (t ≥ (Int.ofNat 0))) = true → ((decide (t ≤ (Int.ofNat 4611686018427387903))) = true → ((decide (o ≥ (Int.ofNat 0))) = true → ((decide (o < (Int.ofNat 64))) = true → ((r == (Int.ofNat 0)) = true → ((decide (d ≥ (Int.negSucc 1099511627775))) = true → Q (.bool (decide (d ≤ (Int.ofNat 1099511627776))))) ∧ ((decide (d ≥ (Int.negSucc 1099511627775))) = false → Q (.bool false))) ∧ ((r == (Int.ofNat 0)) = false → ((r == (Int.ofNat 1)) = true → ((decide (d ≥ (Int.negSucc 1099511627775))) = true → Q (.bool (decide (d ≤ (Int.ofNat 1099511627776))))) ∧ ((decide (d ≥ (Int.negSucc 1099511627775))) = false → Q (.bool false))) ∧ ((r == (Int.ofNat 1)) = false → Q (.bool false)))) ∧ ((decide (o < (Int.ofNat 64))) = false → Q (.bool false))) ∧ ((decide (o ≥ (Int.ofNat 0))) = false → Q (.bool false))) ∧ ((decide (t ≤ (Int.ofNat 4611686018427387903))) = false → Q (.bool false))) ∧ ((decide (t ≥ (Int.ofNat 0))) = false → Q (.bool false)))))) = CT Try.prog E1 61 71 [.agg #[.bool n, .int .i64 t, .int .i64 o, .int .i64 r, .int .i64 d, .int .i64 i]] (.b 4 (.stop 0 [] []) (.b 8 (.stop 0 [] []) (.b 11 (.v 16 (.bool (same23 n t o r d i true (Int.ofNat 0) (Int.ofNat 0) (Int.ofNat 0) (Int.ofNat 0) i)) (.stop 0 [] [])) (.b 14 (.b 18 (.b 23 (.b 28 (.b 33 (.b 40 (.stop 0 [] []) (.stop 0 [] [])) (.b 37 (.b 43 (.stop 0 [] []) (.stop 0 [] [])) (.stop 0 [] []))) (.stop 0 [] [])) (.stop 0 [] [])) (.stop 0 [] [])) (.stop 0 [] []))))) Q := by kernel_rfl
theorem tROne_run (n : Bool) (t o r d i : Int) : ∃ hp, aCall Try.prog E1 61 71 [.agg #[.bool n, .int .i64 t, .int .i64 o, .int .i64 r, .int .i64 d, .int .i64 i]] hp0 = some (.bool (okH n t o r d i), hp) := by
  refine CT_run (tROne_e n t o r d i _) ?_
  refine ⟨fun h_4 => ?_, fun h_4 => ⟨fun h_8 => ?_, fun h_8 => ⟨fun h_11 => ⟨eql23c .., ?_⟩, fun h_11 => ⟨fun h_14 => ⟨fun h_18 => ⟨fun h_23 => ⟨fun h_28 => ⟨fun h_33 => ⟨fun h_40 => ?_, fun h_40 => ?_⟩, fun h_33 => ⟨fun h_37 => ⟨fun h_43 => ?_, fun h_43 => ?_⟩, fun h_37 => ?_⟩⟩, fun h_28 => ?_⟩, fun h_23 => ?_⟩, fun h_18 => ?_⟩, fun h_14 => ?_⟩⟩⟩⟩
  all_goals (unfold okH; rw [← half01]; cases n <;> simp_all [IntKind.bits] <;> (try (intros; omega)))
def g70 : List Value → Option Value
  | [.agg c0] => match c0.toList with
    | [.bool hn, .int .i64 ht, .int .i64 ho, .int .i64 hr, .int .i64 hd, .int .i64 hi] => some (.bool (okH hn ht ho hr hd hi))
    | _ => none
  | _ => none
theorem hk70 : HookGoal Try.prog 71 g70 := hook_of (ext := E1) E1_ok follows Try.func71 (by kernel_rfl) fun args v h => by
  unfold g70 at h
  split at h
  · rename_i c0
    split at h
    · rename_i ec0
      cases h
      obtain rfl := arr_of ec0
      refine ⟨rfl, rfl, ?_⟩
      obtain ⟨hp, q⟩ := tROne_run _ _ _ _ _ _
      exact ⟨_, hp, q⟩
    · cases h
  · cases h
noncomputable def E43 : Ext := extH Try.prog [(71, g70)]
section
variable (o : Blk) (n c : Nat)
end
open Classical in
noncomputable def g43 (vs : List ViewV) : HeapFn := fun args hp => match args with
  | [s] => if TQ vs s hp then some (.bool (rightB vs), heapOf ([] ++ [.dead]) hp) else none
  | _ => none
end Go.Proofs.Ytgeoommlmddgpaa.LtA
namespace Go.Proofs.Ytgeoommlmddgpaa.LtA
open Go Go.Proofs Go.Proofs.Ytgeoommlmddgpaa.AI Go.RowKit
noncomputable def fb34 : Code := (Try.f9.body).getD .skip
theorem body34 : Try.f9.body = some fb34 := by kernel_rfl
theorem ntmps34 : Try.f9.ntmps = 8 := by kernel_rfl
theorem s34 : codeSafe Try.prog 8 fb34 = true := by kernel_rfl
theorem q34 (v : Value) (O : List Blk) (g : Nat → Value) : retVal Try.prog Try.f9 (stOf 8 g [(2, v)] O) = some v := by kernel_rfl
section
variable (o : Blk) (s : Value) (vs : List ViewV) (n c : Nat)
theorem r34n : (execE Try.prog c0 [] [] [] 20 fb34 ⟨tmsOf [nilS] 0 .leaf, heapOf [.dead] hp0, []⟩).map (fun y => (look2 0 [] [2] (y.1, y.2.1), y.2.2)) = some ((.ret, [], [(2, nilS)], true), [], [], []) := by kernel_rfl
theorem r34a : (execE Try.prog c0 [] [] [(6, nilS, [])] 20 fb34 ⟨tmsOf [rowS 0 n c] 0 .leaf, heapOf [o, .dead] hp0, []⟩).map (fun y => (look2 0 [] [2] (y.1, y.2.1), y.2.2)) =
    some ((.ret, [], [(2, nilS)], true), [], [], [(aAppend Try.prog (heapOf [o, .dead] hp0).get 2 [22, 22] [nilS, rowS 0 n c], (nilS, []))]) := by kernel_rfl
theorem r34b : (execE Try.prog c0 [] [] [(6, newS 2 n, [.push (rowB vs)])] 20 fb34 ⟨tmsOf [rowS 0 n c] 0 .leaf, heapOf [o, .dead] hp0, []⟩).map (fun y => (look2 1 [2] [2] (y.1, y.2.1), y.2.2)) =
    some ((.ret, [rowB vs], [(2, newS 0 n)], true), [], [], [(aAppend Try.prog (heapOf [o, .dead] hp0).get 2 [22, 22] [nilS, rowS 0 n c], (newS 2 n, [.push (rowB vs)]))]) := by kernel_rfl
end
theorem app_zero {get : Nat → Option Blk} {sz b c : Nat} : aAppend Try.prog get sz [22, 22] [nilS, rowS b 0 c] = some (nilS, []) := by
  obtain ⟨i, hi, h7, h56⟩ := info34
  obtain ⟨z, hz, hzl⟩ := zero34
  have hsrc : aSrc Try.prog get 7 z (.slice 45) (rowS b 0 c) = some ([], 0) := rfl
  unfold aAppend
  simp only [Try.underlying22, hi, hz, h7, h56, hzl]
  rw [if_neg (by decide)]
  simp only [hsrc]
  rw [if_neg (by simp)]
  rfl
theorem app_nil {get : Nat → Option Blk} {sz b n c : Nat} {vs : List ViewV} {ty : TypeId} {ro : Bool} (hb : get b = some (.cells ty (vrow vs) ro)) (hn : n = vs.length) (h0 : 0 < n) (hl : n < 1000000) :
    aAppend Try.prog get sz [22, 22] [nilS, rowS b n c] = some (newS sz n, [.push (rowB vs)]) := by
  obtain ⟨i, hi, h7, h56⟩ := info34
  obtain ⟨z, hz, hzl⟩ := zero34
  have hsrc : aSrc Try.prog get 7 z (.slice 45) (rowS b n c) = some (vrow vs, n) := by
    unfold aSrc
    simp only [rowS, srcLen, srcCells, hb]
    rw [if_neg (by omega), if_neg (by omega), getR_all (n := n * 7) (by rw [vrow_len, hn])]
    rfl
  unfold aAppend
  simp only [Try.underlying22, hi, hz, h7, h56, hzl]
  rw [if_neg (by decide)]
  simp only [hsrc, vrow_one, vrow_len]
  rw [if_neg (by rw [hn]; simp)]
  simp only [nilS]
  rw [if_neg (by omega), if_neg (by omega)]
  rfl
def rowV (us : List ViewV) (b : Nat) : Value := match us with
  | [] => nilS
  | _ :: _ => newS b us.length
def rowO (us : List ViewV) : List Blk := match us with
  | [] => []
  | _ :: _ => [rowB us]
def EndsO (vs : List ViewV) (e : Exit) (st : St) : Prop := e = .ret ∧ ∃ g, st = stOf 8 g [(2, rowV vs 0)] (rowO vs)
theorem own_fr (o : Blk) (ho : inertB o = true) (vs : List ViewV) (hn : vs.length < 1000000) (hrow : vs = [] ∨ ∃ ty ro, o = .cells ty (vrow vs) ro) (c : Nat) (W : Base) :
    FRwp Try.prog 8 W fb34 ⟨tmsOf [rowS 0 vs.length c] 0 .leaf, heapOf [o, .dead] hp0, []⟩ (EndsO vs) := by
  cases vs with
  | nil => exact FRwp.pieceY c0_ok follows 0 _ _ _ _ (r34a o 0 c) Met.nil MetH.nil (MetE.cons app_zero MetE.nil) s34 rfl rfl (noFix _) fun g => ⟨rfl, g, rfl⟩
  | cons v vs =>
    rcases hrow with h | ⟨ty, ro, h⟩
    · cases h
    · exact FRwp.pieceY c0_ok follows 1 _ _ _ _ (r34b o (v :: vs) (v :: vs).length c) Met.nil MetH.nil (MetE.cons (app_nil (ty := ty) (ro := ro) (by rw [heapOf0_get, h]; rfl) rfl (by simp) hn) MetE.nil) s34 rfl rfl (fix1 _ []) fun g => ⟨rfl, g, rfl⟩
theorem own_nil (W : Base) : FRwp Try.prog 8 W fb34 ⟨tmsOf [nilS] 0 .leaf, heapOf [.dead] hp0, []⟩ (EndsO []) :=
  FRwp.pieceY c0_ok follows 0 _ _ _ _ r34n Met.nil MetH.nil MetE.nil s34 rfl rfl (noFix _) fun g => ⟨rfl, g, rfl⟩
open Classical in
noncomputable def g34 (vs : List ViewV) : HeapFn := fun args hp => match args with
  | [s] => if TN vs s hp then some (rowV vs hp.sz, heapOf (rowO vs ++ [.dead]) hp) else none
  | _ => none
theorem hk34 (vs : List ViewV) (hn : vs.length < 1000000) : CallGoal Try.prog 9 (g34 vs) := scan_goal follows Try.func9 body34 (by kernel_rfl) fun args hp v hp' h hk => by
  unfold g34 at h
  rw [ntmps34]
  split at h
  case h_2 => cases h
  rename_i s
  split at h
  case isFalse => cases h
  rename_i hT
  cases h
  have run : ∃ (K0 : List Nat), nodupB K0 = true ∧ (∀ b ∈ K0, ∃ o, hp.get b = some o ∧ startOk o = true) ∧ ([s]).all ok3 = true ∧ ∀ W, FRwp Try.prog 8 W fb34 ⟨tmsOf ([s].map (sh3 K0 0)) 0 .leaf, startHp K0 hp, []⟩ (EndsO vs) := by
    rcases hT with ⟨rfl, rfl⟩ | ⟨b, c, ob, rfl, hb, hi, hr⟩
    · refine ⟨[], rfl, (fun b hb => by cases hb), rfl, fun W => ?_⟩
      have e1 : [nilS].map (sh3 [] 0) = [nilS] := by simp [sh3, sh2, sh1, nilS]
      rw [e1]
      exact own_nil W
    · refine ⟨[b], rfl, fun b' hb' => ?_, rfl, fun W => ?_⟩
      · have : b' = b := by simpa using hb'
        subst this
        exact ⟨ob, hb, inert_start hi⟩
      · have e1 : [rowS b vs.length c].map (sh3 [b] 0) = [rowS 0 vs.length c] := by simp [sh3, sh2, sh1, rho, idxOf, rowS]
        rw [e1, start1 hb hi]
        exact own_fr (roBlk ob) (ro_inert hi) vs hn (ro_row hr) c W
  obtain ⟨K0, n0, hst, hall, hrun⟩ := run
  cases vs with
  | nil =>
    refine ⟨K0, [], [], rfl, rfl, n0, rfl, hst, hall, (by simp), fun W => FRwp.mono (hrun W) fun e st q => ?_⟩
    obtain ⟨rfl, g, rfl⟩ := q
    exact ⟨.inr rfl, rfl, _, q34 _ _ g, rfl, (fun b hb => by cases hb), by simp [sh3, sh2, sh1, rowV, nilS], rfl⟩
  | cons v vs =>
    refine ⟨K0, [0], [rowB (v :: vs)], rfl, rfl, n0, rfl, hst, hall, (by simp), fun W => FRwp.mono (hrun W) fun e st q => ?_⟩
    obtain ⟨rfl, g, rfl⟩ := q
    have hg := row_fin (N := 8) (us := v :: vs) (v := nilS) (t := 0) (L := [(2, rowV (v :: vs) 0)]) (g := g)
    refine ⟨.inr rfl, rfl, _, q34 _ _ g, rfl, fun b' hb' => ?_, by simp [sh3, sh2, sh1, rho, idxOf, rowV, newS, rowS], out_row hg⟩
    have : b' = 0 := by simpa using hb'
    subst this
    exact ⟨_, hg, ok2_inert (row_block _), rfl⟩
noncomputable def G34 : HeapFn := atRow (fun _ => True) g34
theorem hkG34 : CallGoal Try.prog 9 G34 := atRow_goal fun vs hn _ => hk34 vs hn
open Classical in
theorem G34_of {vs : List ViewV} {s : Value} {hp : Hp} (h : TN vs s hp) (hn : vs.length < 1000000) : G34 [s] hp = some (rowV vs hp.sz, heapOf (rowO vs ++ [.dead]) hp) := by
  unfold G34
  rw [atRow_of h hn trivial]
  show (if TN vs s hp then _ else _) = _
  rw [if_pos h]
section
variable (o : Blk) (n c : Nat) (id : Int)
end
theorem s28 : codeSafe Try.prog 26 code28 = true := by kernel_rfl
theorem q28' (v : Value) (O : List Blk) (g : Nat → Value) : retVal Try.prog Try.f23 (stOf 26 g [(4, v)] O) = some v := by kernel_rfl
theorem n28a : (execQ Try.prog cE [] 40 code28 ⟨tmsOf [nilS, nilS] 0 .leaf, heapOf [.dead] hp0, []⟩).map (fun y => (look2 0 [] [4] (y.1, y.2.1), y.2.2)) = some ((.ret, [], [(4, .bool true)], true), []) := by kernel_rfl
theorem n28b (o : Blk) (c : Nat) : (execQ Try.prog cE [] 40 code28 ⟨tmsOf [rowS 0 0 c, nilS] 0 .leaf, heapOf [o, .dead] hp0, []⟩).map (fun y => (look2 0 [] [4] (y.1, y.2.1), y.2.2)) = some ((.ret, [], [(4, .bool true)], true), []) := by kernel_rfl
theorem n28c (o : Blk) (c : Nat) : (execQ Try.prog cE [] 40 code28 ⟨tmsOf [nilS, rowS 0 0 c] 0 .leaf, heapOf [o, .dead] hp0, []⟩).map (fun y => (look2 0 [] [4] (y.1, y.2.1), y.2.2)) = some ((.ret, [], [(4, .bool true)], true), []) := by kernel_rfl
def SM (us : List ViewV) (s t : Value) (hp : Hp) : Prop :=
  (s = nilS ∧ t = nilS ∧ us = []) ∨ (TR us s hp ∧ t = nilS ∧ us = []) ∨ (s = nilS ∧ TR us t hp ∧ us = []) ∨
    ∃ b1 c1 o1 b2 c2 o2, s = rowS b1 us.length c1 ∧ t = rowS b2 us.length c2 ∧ b1 ≠ b2 ∧ hp.get b1 = some o1 ∧ hp.get b2 = some o2 ∧ inertB o1 = true ∧ inertB o2 = true ∧ (us = [] ∨ ∃ ty ro, o1 = .cells ty (vrow us) ro) ∧ (us = [] ∨ ∃ ty ro, o2 = .cells ty (vrow us) ro)
open Classical in
noncomputable def gSM : HeapFn := fun args hp => match args with
  | [s, t] => if ∃ us, us.length < 1000000 ∧ SM us s t hp then some (.bool true, heapOf ([] ++ [.dead]) hp) else none
  | _ => none
theorem hkSM : CallGoal Try.prog 23 gSM := scan_goal follows Try.func23 body28 (by kernel_rfl) fun args hp v hp' h hk => by
  unfold gSM at h
  rw [ntmps28]
  split at h
  case h_2 => cases h
  rename_i s t
  split at h
  case isFalse => cases h
  rename_i hT
  obtain ⟨us, hn, hT⟩ := hT
  cases h
  have fin : ∀ {e : Exit} {st : St}, (e = .ret ∧ ∃ g, st = stOf 26 g [(4, .bool true)] []) → (e = .normal ∨ e = .ret) ∧ st.df = [] ∧ ∃ v0, retVal Try.prog Try.f23 st = some v0 ∧ ok3 v0 = true ∧
      (∀ b ∈ ([] : List Nat), ∃ o, st.hp.get b = some o ∧ okBlk o = true ∧ rwB o = true) ∧ .bool true = sh3 [] hp.sz v0 ∧ [] = outOf [] hp.sz st.hp := by
    rintro e st ⟨rfl, g, rfl⟩
    exact ⟨.inr rfl, rfl, _, q28' _ _ g, rfl, (fun b hb => by cases hb), rfl, rfl⟩
  rcases hT with ⟨rfl, rfl, rfl⟩ | ⟨⟨b, c, o, rfl, hb, hi, hr⟩, rfl, rfl⟩ | ⟨rfl, ⟨b, c, o, rfl, hb, hi, hr⟩, rfl⟩ | ⟨b1, c1, o1, b2, c2, o2, rfl, rfl, hne, h1, h2, i1, i2, r1, r2⟩
  · refine ⟨[], [], [], rfl, rfl, rfl, rfl, (fun b hb => by cases hb), rfl, (by simp), fun W => ?_⟩
    have e1 : [nilS, nilS].map (sh3 [] 0) = [nilS, nilS] := by simp [sh3, sh2, sh1, nilS]
    rw [e1]
    exact FRwp.piece cE_ok follows 0 _ _ _ _ n28a Met.nil s28 rfl rfl rfl (noFix _) fun g => fin ⟨rfl, g, rfl⟩
  · refine ⟨[b], [], [], rfl, rfl, rfl, rfl, fun b' hb' => ?_, rfl, (by simp), fun W => ?_⟩
    · have : b' = b := by simpa using hb'
      subst this
      exact ⟨o, hb, inert_start hi⟩
    · have e1 : [rowS b ([] : List ViewV).length c, nilS].map (sh3 [b] 0) = [rowS 0 0 c, nilS] := by simp [sh3, sh2, sh1, rho, idxOf, rowS, nilS]
      rw [e1, start1 hb hi]
      exact FRwp.piece cE_ok follows 0 _ _ _ _ (n28b (roBlk o) c) Met.nil s28 rfl rfl rfl (noFix _) fun g => fin ⟨rfl, g, rfl⟩
  · refine ⟨[b], [], [], rfl, rfl, rfl, rfl, fun b' hb' => ?_, rfl, (by simp), fun W => ?_⟩
    · have : b' = b := by simpa using hb'
      subst this
      exact ⟨o, hb, inert_start hi⟩
    · have e1 : [nilS, rowS b ([] : List ViewV).length c].map (sh3 [b] 0) = [nilS, rowS 0 0 c] := by simp [sh3, sh2, sh1, rho, idxOf, rowS, nilS]
      rw [e1, start1 hb hi]
      exact FRwp.piece cE_ok follows 0 _ _ _ _ (n28c (roBlk o) c) Met.nil s28 rfl rfl rfl (noFix _) fun g => fin ⟨rfl, g, rfl⟩
  · have hbe : Nat.beq b1 b2 = false := by
      cases e : Nat.beq b1 b2 with
      | false => rfl
      | true => exact absurd (Nat.eq_of_beq_eq_true e) hne
    refine ⟨[b1, b2], [], [], rfl, rfl, ?_, rfl, fun b' hb' => ?_, rfl, (by simp), fun W => ?_⟩
    · simp [nodupB, hbe]
    · have : b' = b1 ∨ b' = b2 := by simpa using hb'
      rcases this with rfl | rfl
      · exact ⟨o1, h1, inert_start i1⟩
      · exact ⟨o2, h2, inert_start i2⟩
    · have e1 : [rowS b1 us.length c1, rowS b2 us.length c2].map (sh3 [b1, b2] 0) = [rowS 0 us.length c1, rowS 1 us.length c2] := by
        simp [sh3, sh2, sh1, rho, idxOf, rowS, hbe]
      rw [e1, start2 h1 h2 i1 i2]
      refine FRwp.mono (same_fr (roBlk o1) (roBlk o2) (ro_inert i1) (ro_inert i2) us us hn (.of (ro_row r1)) (.of (ro_row r2)) c1 c2 W) fun e st q => ⟨q.1, q.2.1, _, q.2.2, rfl, (fun b hb => by cases hb), ?_, rfl⟩
      rw [sameRow_refl]; rfl
open Classical in
theorem gSM_of {us : List ViewV} {s t : Value} {hp : Hp} (h : SM us s t hp) (hn : us.length < 1000000) : gSM [s, t] hp = some (.bool true, heapOf [.dead] hp) := by
  unfold gSM
  simp only
  rw [if_pos ⟨us, hn, h⟩]
  rfl
end Go.Proofs.Ytgeoommlmddgpaa.LtA
namespace Go.Proofs.Ytgeoommlmddgpaa.LtA
open Go Go.Proofs Go.Proofs.Ytgeoommlmddgpaa.AI Go.RowKit
theorem app_one {get : Nat → Option Blk} {sz b b2 k : Nat} {ws : List ViewV} {x : ViewV} (hb : get b = some (rowB ws)) (hb2 : get b2 = some (.cells 45 (vc x) false)) (hk : k = ws.length) (hl : k < 2000000) :
    aAppend Try.prog get sz [22, 22] [newS b k, rowS b2 1 22] = some (newS sz (k + 1), [.put b .dead, .push (rowB (ws ++ [x]))]) := by
  subst hk
  obtain ⟨i, hi, h7, h56⟩ := info34
  obtain ⟨z, hz, hzl⟩ := zero34
  unfold rowB at hb
  have hsrc : aSrc Try.prog get 7 z (.slice 45) (rowS b2 1 22) = some (vc x, 1) := by
    unfold aSrc
    simp only [rowS, srcLen, srcCells, hb2]
    rw [if_neg (by omega), if_neg (by omega), getR_all (n := 1 * 7) rfl]
    rfl
  have hg : getR (vrow ws) 0 (ws.length * 7) = some (vrow ws) := getR_all (vrow_len ws)
  unfold aAppend
  simp only [Try.underlying22, hi, hz, h7, h56, hzl]
  rw [if_neg (by decide)]
  simp only [hsrc]
  rw [if_neg (by simp [vc, isOne])]
  simp only [newS, rowS]
  rw [if_neg (by omega), if_neg (by omega)]
  simp only [hb, hg]
  rw [if_neg (by omega), if_pos (by decide), if_neg (by rw [vrow_len]; omega)]
  unfold rowB
  rw [vrow_append]
  have e : vrow [x] = vc x := by unfold vrow; simp
  rw [e]
section
variable (o : Blk) (s : Value) (n c : Nat) (y : ViewV) (ws us zs : List ViewV) (k : Nat) (i : Nat) (x : ViewV) (g : Nat → Value)
end
section
variable (o : Blk) (n c : Nat) (y : ViewV) (ws us zs : List ViewV) (k : Nat) (i : Nat) (x : ViewV) (g : Nat → Value)
def hN (o : Blk) (y : ViewV) : Hp := heapOf ([o, hB y] ++ [.dead]) hp0
def vB (x : ViewV) : Blk := .cells 45 (vc x) false
def hR (o : Blk) (ws : List ViewV) (y : ViewV) : Hp := heapOf ([o, rowB ws, hB y] ++ [.dead]) hp0
noncomputable def hR1 (o : Blk) (ws us : List ViewV) (y : ViewV) : Hp := (((hR o ws y).push (vB y)).put 1 .dead).push (rowB us)
end
section
variable (o : Blk) (s : Value) (n c : Nat) (y : ViewV) (ws us : List ViewV) (k : Nat) (g : Nat → Value)
end
end Go.Proofs.Ytgeoommlmddgpaa.LtA
namespace Go.Proofs.Ytgeoommlmddgpaa.LtA
open Go Go.Proofs Go.Proofs.Ytgeoommlmddgpaa.AI Go.RowKit
theorem fold_step {α β : Type} {f : α → β → α} {a : α} {vs : List β} {i : Nat} {x : β} (h : vs[i]? = some x) : (vs.take (i + 1)).foldl f a = f ((vs.take i).foldl f a) x := by
  rw [List.take_add_one, h]
  simp [List.foldl_append]
theorem RowAt.push {hp : Hp} {b : Nat} {vs : List ViewV} (h : RowAt hp b vs) (hb : b ≠ hp.sz) (o : Blk) : RowAt (hp.push o) b vs := by
  obtain ⟨ty, ro, rest, hg⟩ := h
  exact ⟨ty, ro, rest, by rw [Hp.get_push, if_neg hb, hg]⟩
theorem RowAt.put {hp : Hp} {b b' : Nat} {vs : List ViewV} (h : RowAt hp b vs) (hb : b ≠ b') (o : Blk) : RowAt (hp.put b' o) b vs := by
  obtain ⟨ty, ro, rest, hg⟩ := h
  exact ⟨ty, ro, rest, by rw [Hp.get_put, if_neg hb, hg]⟩
section
variable (o : Blk) (s : Value) (y : ViewV)
end
section
variable {o : Blk} {s : Value} {y : ViewV}
section
variable {vs : List ViewV} {n c i : Nat} {x : ViewV} {h : Hp}
end
end
end Go.Proofs.Ytgeoommlmddgpaa.LtA
namespace Go.Proofs.Ytgeoommlmddgpaa.LtA
open Go Go.Proofs Go.Proofs.Ytgeoommlmddgpaa.AI Go.RowKit Go.Proofs.Ytgeoommlmddgpaa.Sort
def icell (x : Int) : Value := .int .i64 x
def iB (ids : List Int) : Blk := .cells 3 (ids.map icell) false
def newI (b k : Nat) : Value := .slice (some ⟨b, 0, none⟩) k 4
theorem iB_inert (ids : List Int) : inertB (iB ids) = true := by
  show List.all _ inert = true
  rw [List.all_map]
  exact List.all_eq_true.2 fun x _ => rfl
theorem underlying31 : Try.prog.underlying 30 = some (.slice 3) := by kernel_rfl
theorem info3 : ∃ i, Try.prog.info? 3 = some i ∧ i.size = 1 ∧ i.bytes = 8 := by
  have h : (Try.prog.info? 3).map (fun i => (i.size, i.bytes)) = some (1, 8) := by kernel_rfl
  obtain ⟨i, h1, h2⟩ := Option.map_eq_some_iff.1 h
  simp only [Prod.mk.injEq] at h2
  exact ⟨i, h1, h2.1, h2.2⟩
theorem zero3 : ∃ z, tzero Try.prog 3 = some z ∧ z.length = 1 := by
  have h : (tzero Try.prog 3).map (fun z => z.length) = some 1 := by kernel_rfl
  obtain ⟨z, h1, h2⟩ := Option.map_eq_some_iff.1 h
  exact ⟨z, h1, h2⟩
theorem app_int {get : Nat → Option Blk} {sz b b2 k : Nat} {ids : List Int} {x : Int} (hb : get b = some (iB ids)) (hb2 : get b2 = some (.cells 3 [icell x] false)) (hk : k = ids.length) (hl : k < 2000000) :
    aAppend Try.prog get sz [30, 30] [newI b k, newI b2 1] = some (newI sz (k + 1), [.put b .dead, .push (iB (ids ++ [x]))]) := by
  subst hk
  obtain ⟨i, hi, h1, h8⟩ := info3
  obtain ⟨z, hz, hzl⟩ := zero3
  unfold iB at hb
  have hsrc : aSrc Try.prog get 1 z (.slice 3) (newI b2 1) = some ([icell x], 1) := by
    unfold aSrc newI
    simp only [srcLen, srcCells, hb2]
    rw [if_neg (by omega), if_neg (by omega), getR_all (n := 1 * 1) rfl]
    rfl
  have hg : getR (ids.map icell) 0 (ids.length * 1) = some (ids.map icell) := getR_all (by simp)
  unfold aAppend
  simp only [underlying31, hi, hz, h1, h8, hzl]
  rw [if_neg (by decide)]
  simp only [hsrc]
  rw [if_neg (by simp [isOne, icell])]
  simp only [newI]
  rw [if_neg (by omega), if_neg (by omega)]
  simp only [hb, hg]
  rw [if_neg (by omega), if_pos (by decide), if_neg (by simp)]
  unfold iB
  rw [List.map_append]
  rfl
def rowIv (ids : List Int) (b : Nat) : Value := match ids with
  | [] => nilS
  | _ :: _ => newI b ids.length
def rowIO (ids : List Int) : List Blk := match ids with
  | [] => []
  | _ :: _ => [iB ids]
section
variable (o ob : Blk) (f : FuncId) (n c i k : Nat) (ws us : List ViewV) (ids : List Int) (x : ViewV) (b : Bool) (g : Nat → Value)
end
end Go.Proofs.Ytgeoommlmddgpaa.LtA
namespace Go.Proofs.Ytgeoommlmddgpaa.LtA
open Go Go.Proofs Go.Proofs.Ytgeoommlmddgpaa.AI Go.RowKit Go.Proofs.Ytgeoommlmddgpaa.Sort
theorem fixOO {o ob : Blk} (ho : inertB o = true) (hob : inertB ob = true) : ∀ r : List Blk, ∀ i, i < 2 → ∀ o', (o :: ob :: r)[i]? = some o' → Fixed 0 o' := by
  intro r i hi o' h
  match i, hi with
  | 0, _ => simp at h; subst h; exact inert_fixed ho 0
  | 1, _ => simp at h; subst h; exact inert_fixed hob 0
section
variable (o ob : Blk) (f : FuncId) (n c : Nat)
end
end Go.Proofs.Ytgeoommlmddgpaa.LtA
namespace Go.Proofs.Ytgeoommlmddgpaa.LtA
open Go Go.Proofs Go.Proofs.Ytgeoommlmddgpaa.AI Go.RowKit
def padF (k : HeapFn) : HeapFn := fun args hp => match k args hp with
  | some (v, hp1) => if hp1.sz = hp.sz + 1 then some (v, heapOf [.dead] hp1) else some (v, hp1)
  | none => none
theorem pad_goal {P : Program} {f : FuncId} {k : HeapFn} (hg : CallGoal P f k) : CallGoal P f (padF k) := by
  intro args hp v hp2 he hk
  unfold padF at he
  split at he
  case h_2 => cases he
  rename_i v1 hp1 h1
  split at he
  case isFalse => cases he; exact hg args hp v hp2 h1 hk
  cases he
  obtain ⟨hk1, hle, hgo⟩ := hg args hp v hp1 h1 hk
  have hsz : (heapOf [.dead] hp1).sz = hp1.sz + 1 := rfl
  refine ⟨heapOf_ok _ _ hk1, by rw [hsz]; omega, fun m h w args' hfr s ra => ?_⟩
  have step : ∀ v' w', (∃ m', Go1 m (ovr hp h) w m' (ovr hp1 h) w' ∧ VRel m' (ovr hp1 h) v v') → ∃ m', Go1 m (ovr hp h) w m' (ovr (heapOf [.dead] hp1) h) w' ∧ VRel m' (ovr (heapOf [.dead] hp1) h) v v' := ?_
  · rcases hgo m h w args' (fun b a c => hfr b a (by rw [hsz]; omega)) s ra with ⟨v', w', q1, q2⟩ | ⟨q1, q2⟩
    · exact .inl ⟨v', w', q1, step v' w' q2⟩
    · exact .inr ⟨q1, q2.mono fun e w' hh => by
        obtain ⟨v', h1, h2⟩ := hh
        exact ⟨v', h1, step v' w' h2⟩⟩
  rintro v' w' ⟨m', go, rv⟩
  have hnew : h hp1.sz = none := hfr hp1.sz hle (by rw [hsz]; omega)
  have hov : ∀ b, ovr (heapOf [.dead] hp1) h b = if b = hp1.sz then some .dead else ovr hp1 h b := by
    intro b
    unfold ovr
    rw [hsz]
    by_cases h1 : b < hp1.sz
    · rw [if_pos (by omega), if_neg (by omega), if_pos h1, heapOf_get, if_pos h1]
    · by_cases h2 : b = hp1.sz
      · subst h2
        rw [if_pos (by omega), if_pos rfl, heapOf_get, if_neg h1, Nat.sub_self]; rfl
      · rw [if_neg (by omega), if_neg h2, if_neg h1]
  have hnone : ovr hp1 h hp1.sz = none := by
    unfold ovr
    rw [if_neg (by omega)]; exact hnew
  have hmn : m' hp1.sz = none := by
    cases e : m' hp1.sz with
    | none => rfl
    | some x => obtain ⟨o, ho, _⟩ := go.sim.dom _ x e; rw [hnone] at ho; cases ho
  have hne : ∀ b x, m' b = some x → b ≠ hp1.sz := fun b x hx e => by subst e; rw [hmn] at hx; cases hx
  have hke : ∀ b o, ovr hp1 h b = some o → b ≠ hp1.sz := fun b o hb e => by subst e; rw [hnone] at hb; cases hb
  have le2 : Le m' (ovr hp1 h) m' (ovr (heapOf [.dead] hp1) h) := ⟨fun b hb => by rw [hov, if_neg (hke b _ hb)]; exact hb, fun b x hx => .inr hx⟩
  have rwS : ∀ b, b ≠ hp1.sz → rw? (ovr (heapOf [.dead] hp1) h) b = rw? (ovr hp1 h) b := fun b hb => by unfold rw?; rw [hov, if_neg hb]
  have lvS : ∀ b, b ≠ hp1.sz → live? (ovr (heapOf [.dead] hp1) h) b = live? (ovr hp1 h) b := fun b hb => by unfold live?; rw [hov, if_neg hb]
  refine ⟨m', ⟨go.le.trans le2, ⟨fun b x hx => ?_, fun b b' x x' hx hx' hr hl e => go.sim.inj b b' x x' hx hx' (by rw [← rwS b (hne b x hx)]; exact hr) (by rw [← lvS b' (hne b' x' hx')]; exact hl) e⟩, go.size, go.new, go.frame, go.un, fun b o hb hm => ?_, fun b o hb => ?_, fun b x hx hr => ?_, go.os, go.tape, go.output⟩, rv.mono le2⟩
  · obtain ⟨o, ho, hbr⟩ := go.sim.dom b x hx
    exact ⟨o, by rw [hov, if_neg (hne b x hx)]; exact ho, hbr.mono le2 rfl⟩
  · have := go.idle b o hb hm
    rw [hov, if_neg (hke b _ this)]; exact this
  · obtain ⟨o', ho'⟩ := go.ex b o hb
    exact ⟨o', by rw [hov, if_neg (hke b _ ho')]; exact ho'⟩
  · have hb1 : b ≠ hp1.sz := by
      intro e
      subst e
      unfold rw? at hr
      rw [hov, if_pos rfl] at hr
      cases hr
    exact go.rwb b x hx (by rw [← rwS b hb1]; exact hr)
theorem pad_two {k : HeapFn} {args : List Value} {hp : Hp} {v : Value} {B : Blk} (h : k args hp = some (v, heapOf [B, .dead] hp)) : padF k args hp = some (v, heapOf [B, .dead] hp) := by
  unfold padF
  rw [h]
  have : (heapOf [B, .dead] hp).sz = hp.sz + 2 := rfl
  simp only [this]
  rw [if_neg (by omega)]
theorem pad_one {k : HeapFn} {args : List Value} {hp : Hp} {v : Value} (h : k args hp = some (v, heapOf [.dead] hp)) : padF k args hp = some (v, heapOf [.dead, .dead] hp) := by
  unfold padF
  rw [h]
  have : (heapOf [Blk.dead] hp).sz = hp.sz + 1 := rfl
  simp only [this]
  rfl
def ownB (vs : List ViewV) : Blk := match vs with
  | [] => .dead
  | _ :: _ => rowB vs
theorem pad_row {k : HeapFn} {args : List Value} {hp : Hp} {v : Value} {us : List ViewV} (h : k args hp = some (v, heapOf (rowO us ++ [.dead]) hp)) : padF k args hp = some (v, heapOf [ownB us, .dead] hp) := by
  cases us with
  | nil => exact pad_one h
  | cons => exact pad_two h
section
variable (o : Blk) (s : Value) (n : Nat) (y a : ViewV) (b rb : Bool) (z : Int) (v1 v2 v3 v4 v5 : Value) (B1 B2 B3 B4 B5 : Blk) (e f : Nat)
def hl1 (o : Blk) (y : ViewV) (B1 : Blk) : Hp := heapOf [B1, .dead] (hk0 o y)
noncomputable def hl3 (o : Blk) (y a : ViewV) (B1 : Blk) : Hp := hkG a (hkG a (hl1 o y B1))
end
end Go.Proofs.Ytgeoommlmddgpaa.LtA
namespace Go.Proofs.Ytgeoommlmddgpaa.LtA
open Go Go.Proofs Go.Proofs.Ytgeoommlmddgpaa.AI Go.RowKit Go.Proofs.Ytgeoommlmddgpaa.Sort
def ownI (ids : List Int) : Blk := match ids with
  | [] => .dead
  | _ :: _ => iB ids
theorem pad_rowI {k : HeapFn} {args : List Value} {hp : Hp} {v : Value} {ids : List Int} (h : k args hp = some (v, heapOf (rowIO ids ++ [.dead]) hp)) : padF k args hp = some (v, heapOf [ownI ids, .dead] hp) := by
  cases ids with
  | nil => exact pad_one h
  | cons => exact pad_two h
section
variable (o : Blk) (own : ViewV) (vs : List ViewV) (n c k : Nat) (ids : List Int)
end
section
variable (o : Blk) (own : ViewV) (vs : List ViewV) (n c k : Nat) (ids : List Int)
end
end Go.Proofs.Ytgeoommlmddgpaa.LtA
namespace Go.Proofs.Ytgeoommlmddgpaa.LtA
open Go Go.Proofs Go.Proofs.Ytgeoommlmddgpaa.AI Go.RowKit Go.Proofs.Ytgeoommlmddgpaa.Sort
noncomputable def E21 : Ext := extH Try.prog [(74, g57), (35, g17)]
noncomputable def fb21 : Code := (Try.f36.body).getD .skip
noncomputable def c21a : Code := sL fb21
noncomputable def c21b : Code := sL (sR fb21)
noncomputable def c21c : Code := sL (sR (sR fb21))
noncomputable def c21d : Code := sL (sL (sR (sR (sR fb21))))
noncomputable def c21e : Code := unL (unB (sR (sL (sR (sR (sR fb21))))))
noncomputable def c21f : Code := sR (sR (sR (sR fb21)))
noncomputable abbrev code21 : Code := .seq c21a (.seq c21b (.seq c21c (.seq (.seq c21d (.block 0 (.loop c21e))) c21f)))
theorem body21 : Try.f36.body = some code21 := by kernel_rfl
theorem ntmps21 : Try.f36.ntmps = 33 := by kernel_rfl
theorem q21 (x : ViewV) (b : Bool) (g : Nat → Value) : retVal Try.prog Try.f36 (stOf 33 g [(2, pb 0 0), (3, .bool b)] [vB x]) = some (.tuple #[.agg ⟨vc x⟩, .bool b]) := by kernel_rfl
def toldV (x : ViewV) : Bool := told x.n x.t x.o x.r x.d x.i
section
variable (o : Blk) (n c i : Nat) (x y : ViewV) (b : Bool) (g : Nat → Value)
noncomputable def leV (x y : ViewV) (b : Bool) : Obl := (some (.bool (ltV x y)), .bool b)
end
def lowS (p : ViewV × Bool) (x : ViewV) : ViewV × Bool := bif toldV x && (!p.2 || ltV x p.1) then (x, true) else p
def lowV (vs : List ViewV) : ViewV × Bool := vs.foldl lowS (zeroV 0, false)
def lowA (vs : List ViewV) : Value := .tuple #[.agg ⟨vc (lowV vs).1⟩, .bool (lowV vs).2]
open Classical in
noncomputable def g21 (vs : List ViewV) : HeapFn := fun args hp => match args with
  | [s] => if TN vs s hp then some (lowA vs, heapOf ([] ++ [.dead]) hp) else none
  | _ => none
noncomputable def G21 : HeapFn := atRow (fun _ => True) g21
open Classical in
theorem G21_of {vs : List ViewV} {s : Value} {hp : Hp} (h : TN vs s hp) (hn : vs.length < 1000000) : G21 [s] hp = some (lowA vs, heapOf [.dead] hp) := by
  unfold G21
  rw [atRow_of h hn trivial]
  show (if TN vs s hp then _ else _) = _
  rw [if_pos h]; rfl
end Go.Proofs.Ytgeoommlmddgpaa.LtA
namespace Go.Proofs.Ytgeoommlmddgpaa.LtA
open Go Go.Proofs Go.Proofs.Ytgeoommlmddgpaa.AI Go.RowKit Go.Proofs.Ytgeoommlmddgpaa.Sort
def vI (f : Bool) (b k : Nat) : Value := bif f then newI b k else nilS
def kk (f : Bool) (k : Nat) : Nat := bif f then k else 0
noncomputable def ixI (b k i : Nat) : Obl := (fstV ((aIndexAddr Try.prog 30 (newI b k) (iN i)).map fun v => (v, none)), pb b i)
section
variable (o A B : Blk) (own x y u w : ViewV) (n c q i ka kb : Nat) (z x1 x2 : Int) (b lb fa fb : Bool) (g : Nat → Value)
def h7 (o : Blk) (own : ViewV) : Hp := heapOf ([o, hB own] ++ [.dead]) hp0
noncomputable def hu (r : Bool) : Obl := (some (.bool (decide (Int.ofNat n > 100))), .bool r)
end
section
variable (own : ViewV)
end
end Go.Proofs.Ytgeoommlmddgpaa.LtA
namespace Go.Proofs.Ytgeoommlmddgpaa.LtA
open Go Go.Proofs Go.Proofs.Ytgeoommlmddgpaa.AI Go.RowKit Go.Proofs.Ytgeoommlmddgpaa.Sort
theorem lt_kn {u w : ViewV} (h : ltV u w = true) : Kn u ∧ Kn w := by
  unfold ltV less at h
  obtain ⟨h1, h2⟩ := Bool.and_eq_true_iff.1 h
  exact ⟨h1, (Bool.and_eq_true_iff.1 h2).1⟩
theorem toldV_kn {x : ViewV} : toldV x = true ↔ Kn x := Iff.rfl
end Go.Proofs.Ytgeoommlmddgpaa.LtA
namespace Go.Proofs.Ytgeoommlmddgpaa.LtA
open Go Go.Proofs Go.Proofs.Ytgeoommlmddgpaa.AI Go.RowKit Go.Proofs.Ytgeoommlmddgpaa.Sort
section
variable {hp : Hp}
end
theorem ixI_ok {b k i : Nat} (h : i < k) : (ixI b k i).1 = some (ixI b k i).2 := by
  have h1 : (0 : Int) ≤ Int.ofNat i ∧ Int.ofNat i < (k : Int) := ⟨Int.natCast_nonneg i, by simpa using h⟩
  show fstV ((aIndexAddr Try.prog 30 (newI b k) (iN i)).map fun v => (v, none)) = some (pb b i)
  simp only [aIndexAddr, newI, iN, underlying31, size3]
  rw [if_pos h1]
  simp [fstV, pb]
theorem ownI_inert (ids : List Int) : inertB (ownI ids) = true := by
  cases ids with
  | nil => rfl
  | cons => exact iB_inert _
theorem bool_ok {a b : Bool} (h : a = b) : (some (Value.bool a)) = some (.bool b) := by rw [h]
section
variable {o A B : Blk} {own y : ViewV} {c q : Nat} {lb fa fb : Bool} {vs : List ViewV} {ia ib : List Int}
end
end Go.Proofs.Ytgeoommlmddgpaa.LtA
namespace Go.Proofs.Ytgeoommlmddgpaa.LtA
open Go Go.Proofs Go.Proofs.Ytgeoommlmddgpaa.AI Go.RowKit Go.Proofs.Ytgeoommlmddgpaa.Sort
theorem hook_fr {f : FuncId} {fn : Func} {c : Code} {N : Nat} {g : List Value → Option Value} (hf : Try.prog.funcs[f]? = some fn) (hs : fnSafe Try.prog fn = true) (hb : fn.body = some c) (hN : fn.ntmps = N)
    (H : ∀ args v, g args = some v → args.all flatD = true ∧ flatD v = true ∧ args.length ≤ N ∧ ∀ W, FRwp Try.prog N W c ⟨tmsOf args 0 .leaf, hp0, []⟩ (fun e st => (e = .normal ∨ e = .ret) ∧ st.df = [] ∧ retVal Try.prog fn st = some v)) : HookGoal Try.prog f g where
  fn := ⟨fn, hf, hs⟩
  flats args v h := ⟨(H args v h).1, (H args v h).2.1⟩
  run args v h w := by
    obtain ⟨h1, h2, h3, h4⟩ := H args v h
    have h' := h4 (Base.shut w)
    rw [← hN] at h'
    refine (fn_of (R := fun v0 _ => v0 = v) hf hb (by rw [hN]; exact h3) hp0_ok sim0 hp0_ro (by simpa using VRelL.flatDs h1) (FRwp.mono h' fun e st q => ⟨q.1, q.2.1, v, q.2.2, rfl⟩)).mono fun e w' hh => ?_
    obtain ⟨v', v0, st', m', rfl, rfl, rv, _, _, hb, _⟩ := hh
    exact ⟨by rw [rv.of_flatD h2], hb⟩
def vS (f : Bool) (b n c : Nat) : Value := bif f then rowS b n c else nilS
def hS (f : Bool) (o : Blk) : Hp := bif f then heapOf [o, .dead] hp0 else heapOf [.dead] hp0
def FinR (fn : Func) (v0 : Value) (O : List Blk) (e : Exit) (st : St) : Prop := (e = .normal ∨ e = .ret) ∧ st.df = [] ∧ retVal Try.prog fn st = some v0 ∧ ∀ B, O[0]? = some B → st.hp.get 0 = some B
def stay (v : Value) : Prop := ok3 v = true ∧ ∀ K B, sh3 K B v = v
theorem stay_int (k : IntKind) (z : Int) : stay (.int k z) := ⟨rfl, fun _ _ => rfl⟩
theorem stay_h (y : ViewV) : stay (hcA y) := ⟨rfl, fun _ _ => by simp [sh3, sh2, sh1, hcA]⟩
abbrev Ans := List Value → Option (Value × List Blk)
open Classical in
noncomputable def rowG (vs : List ViewV) (A : Ans) : HeapFn := fun args hp => match args with
  | s :: rest => if TN vs s hp then (A rest).map fun r => (sh3 (List.range r.2.length) hp.sz r.1, heapOf (r.2 ++ [.dead]) hp) else none
  | _ => none
structure RowRun (fn : Func) (code : Code) (N : Nat) (vs : List ViewV) (rest : List Value) (v0 : Value) (O : List Blk) : Prop where
  out : O = [] ∨ ∃ B, O = [B] ∧ inertB B = true ∧ rwB B = true
  okv : ok3 v0 = true
  flat : ∀ r ∈ rest, stay r
  len : rest.length + 1 ≤ N
  run : ∀ f o c W, inertB o = true → (vs = [] ∨ ∃ ty ro, o = .cells ty (vrow vs) ro) → (f = false → vs = [] ∧ o = .dead) → FRwp Try.prog N W code ⟨tmsOf (vS f 0 vs.length c :: rest) 0 .leaf, hS f o, []⟩ (FinR fn v0 O)
theorem stay_map {rest : List Value} (h : ∀ r ∈ rest, stay r) (K : List Nat) : rest.map (sh3 K 0) = rest := by
  induction rest with
  | nil => rfl
  | cons r rest ih => rw [List.map_cons, (h r (.head _)).2, ih fun x hx => h x (.tail _ hx)]
theorem stay_all {rest : List Value} (h : ∀ r ∈ rest, stay r) : rest.all ok3 = true := List.all_eq_true.2 fun r hr => (h r hr).1
open Classical in
theorem row_told {f : FuncId} {fn : Func} {code : Code} {N : Nat} {vs : List ViewV} {A : Ans} (hf : Try.prog.funcs[f]? = some fn) (hb : fn.body = some code) (hnm : (fn.name == "runtime.NumGoroutine") = false) (hN : fn.ntmps = N)
    (H : ∀ rest v0 O, A rest = some (v0, O) → RowRun fn code N vs rest v0 O) : CallGoal Try.prog f (rowG vs A) := scan_goal follows hf hb hnm fun args hp v hp' h hk => by
  rw [hN]
  unfold rowG at h
  split at h
  case h_2 => cases h
  rename_i s rest
  split at h
  case isFalse => cases h
  rename_i hT
  obtain ⟨⟨v0, O⟩, hA, h2⟩ := Option.map_eq_some_iff.1 h
  cases h2
  have R := H rest v0 O hA
  have run : ∃ (K0 : List Nat), nodupB K0 = true ∧ (∀ b ∈ K0, ∃ o, hp.get b = some o ∧ startOk o = true) ∧ (s :: rest).all ok3 = true ∧ ∀ W, FRwp Try.prog N W code ⟨tmsOf ((s :: rest).map (sh3 K0 0)) 0 .leaf, startHp K0 hp, []⟩ (FinR fn v0 O) := by
    rcases hT with ⟨rfl, rfl⟩ | ⟨b, c, ob, rfl, hb, hi, hr⟩
    · refine ⟨[], rfl, (fun b hb => by cases hb), (by rw [List.all_cons, stay_all R.flat]; rfl), fun W => ?_⟩
      have e1 : (nilS :: rest).map (sh3 [] 0) = nilS :: rest := by rw [List.map_cons, stay_map R.flat]; simp [sh3, sh2, sh1, nilS]
      rw [e1]
      exact R.run false .dead 0 W rfl (.inl rfl) fun _ => ⟨rfl, rfl⟩
    · refine ⟨[b], rfl, fun b' hb' => ?_, (by rw [List.all_cons, stay_all R.flat]; rfl), fun W => ?_⟩
      · have : b' = b := by simpa using hb'
        subst this
        exact ⟨ob, hb, inert_start hi⟩
      · have e1 : (rowS b vs.length c :: rest).map (sh3 [b] 0) = rowS 0 vs.length c :: rest := by rw [List.map_cons, stay_map R.flat]; simp [sh3, sh2, sh1, rho, idxOf, rowS]
        rw [e1, start1 hb hi]
        exact R.run true (roBlk ob) c W (ro_inert hi) (ro_row hr) fun h => by cases h
  obtain ⟨K0, n0, hst, hall, hrun⟩ := run
  have hle : (s :: rest).length ≤ N := by have := R.len; simpa using this
  have hnn : nodupB (List.range O.length) = true := by
    rcases R.out with h | ⟨B, h, -⟩ <;> rw [h] <;> rfl
  refine ⟨K0, List.range O.length, O, rfl, by simp, n0, hnn, hst, hall, hle, fun W => FRwp.mono (hrun W) fun e st q => ?_⟩
  obtain ⟨q1, q2, q3, q4⟩ := q
  refine ⟨q1, q2, v0, q3, R.okv, ?_, rfl, ?_⟩
  · intro b' hb'
    rcases R.out with h | ⟨B, h, hi, hw⟩
    · subst h; cases hb'
    · subst h
      have : b' = 0 := by simpa using hb'
      subst this
      exact ⟨B, q4 B rfl, ok2_inert hi, hw⟩
  · rcases R.out with h | ⟨B, h, hi, hw⟩
    · subst h; rfl
    · subst h
      show [B] = [shBlk [0] hp.sz ((st.hp.get 0).getD .dead)]
      rw [q4 B rfl]
      exact congrArg (fun z => [z]) (inert_shBlk hi [0] hp.sz).symm
noncomputable def toldR (A : List ViewV → Ans) : HeapFn := atRow (fun _ => True) fun vs => rowG vs (A vs)
theorem toldR_goal {f : FuncId} {fn : Func} {code : Code} {N : Nat} {A : List ViewV → Ans} (hf : Try.prog.funcs[f]? = some fn) (hb : fn.body = some code) (hnm : (fn.name == "runtime.NumGoroutine") = false) (hN : fn.ntmps = N)
    (H : ∀ vs, vs.length < 1000000 → ∀ rest v0 O, A vs rest = some (v0, O) → RowRun fn code N vs rest v0 O) : CallGoal Try.prog f (toldR A) := atRow_goal fun vs hn _ => row_told hf hb hnm hN (H vs hn)
open Classical in
theorem toldR_of {A : List ViewV → Ans} {vs : List ViewV} {s : Value} {rest : List Value} {hp : Hp} {v0 : Value} {O : List Blk} (h : TN vs s hp) (hn : vs.length < 1000000) (hA : A vs rest = some (v0, O)) :
    toldR A (s :: rest) hp = some (sh3 (List.range O.length) hp.sz v0, heapOf (O ++ [.dead]) hp) := by
  unfold toldR
  rw [atRow_of h hn trivial]
  show (if TN vs s hp then _ else _) = _
  rw [if_pos h, hA]; rfl
theorem toldR_none {A : List ViewV → Ans} {vs : List ViewV} {s : Value} {rest : List Value} {hp : Hp} {v0 : Value} (h : TN vs s hp) (hn : vs.length < 1000000) (hA : A vs rest = some (v0, [])) (hv : sh3 [] hp.sz v0 = v0) : toldR A (s :: rest) hp = some (v0, heapOf [.dead] hp) := by
  rw [toldR_of h hn hA]
  show some (sh3 [] hp.sz v0, _) = _
  rw [hv]; rfl
theorem toldR_ids {A : List ViewV → Ans} {vs : List ViewV} {s : Value} {rest : List Value} {hp : Hp} {ids : List Int} (h : TN vs s hp) (hn : vs.length < 1000000) (hA : A vs rest = some (rowIv ids 0, rowIO ids)) :
    padF (toldR A) (s :: rest) hp = some (rowIv ids hp.sz, heapOf [ownI ids, .dead] hp) := by
  refine pad_rowI ?_
  rw [toldR_of h hn hA]
  cases ids with
  | nil => rfl
  | cons i ids => show some (sh3 [0] hp.sz (newI 0 _), _) = _; simp [sh3, sh2, sh1, rho, idxOf, newI, rowIv]
theorem rowV_vS (us : List ViewV) (b : Nat) : rowV us b = vS (!us.isEmpty) b us.length 22 := by cases us <;> rfl
theorem rowI_out (ids : List Int) : rowIO ids = [] ∨ ∃ B, rowIO ids = [B] ∧ inertB B = true ∧ rwB B = true := by
  cases ids with
  | nil => exact .inl rfl
  | cons i ids => exact .inr ⟨iB (i :: ids), rfl, iB_inert _, rfl⟩
theorem rowI_ok (ids : List Int) : ok3 (rowIv ids 0) = true := by cases ids <;> rfl
theorem ownB_inert (us : List ViewV) : inertB (ownB us) = true := by
  cases us with
  | nil => rfl
  | cons => exact row_block _
def effF (f : Bool) (b : Nat) (B : Blk) : List Eff := bif f then [.put b .dead, .push B] else [.push B]
end Go.Proofs.Ytgeoommlmddgpaa.LtA
namespace Go.Proofs.Ytgeoommlmddgpaa.LtA
open Go Go.Proofs Go.Proofs.Ytgeoommlmddgpaa.AI Go.RowKit Go.Proofs.Ytgeoommlmddgpaa.Sort
def tRTold (hNull : Bool) (hTau : Int) (hOid : Int) (hR : Int) (hDelta : Int) (hId : Int) : Value := (bif hNull then (bif (okH (true) (hTau) (hOid) (hR) (hDelta) (hId)) then (.bool false) else (.bool false)) else (bif (okH (false) (hTau) (hOid) (hR) (hDelta) (hId)) then (.bool true) else (.bool false)))
theorem tRTold_run (hNull : Bool) (hTau : Int) (hOid : Int) (hR : Int) (hDelta : Int) (hId : Int) : ∃ hp, aCall Try.prog E43 61 40 [.agg #[.bool hNull, .int .i64 hTau, .int .i64 hOid, .int .i64 hR, .int .i64 hDelta, .int .i64 hId]] hp0 = some (tRTold hNull hTau hOid hR hDelta hId, hp) := by
  cases hNull with
  | true =>
    cases h0 : (okH (true) (hTau) (hOid) (hR) (hDelta) (hId)) with
    | true =>
      have e : tRTold true hTau hOid hR hDelta hId = (.bool false) := by simp only [tRTold, h0, cond_true, cond_false]
      rw [e]
      exact callQ_run [(4, .bool true)] (q := [(some (.bool (okH (true) (hTau) (hOid) (hR) (hDelta) (hId))), .bool true)]) (by kernel_rfl) (Met.cons (met_bool h0) (Met.nil))
    | false =>
      have e : tRTold true hTau hOid hR hDelta hId = (.bool false) := by simp only [tRTold, h0, cond_true, cond_false]
      rw [e]
      exact callQ_run [(4, .bool false)] (q := [(some (.bool (okH (true) (hTau) (hOid) (hR) (hDelta) (hId))), .bool false)]) (by kernel_rfl) (Met.cons (met_bool h0) (Met.nil))
  | false =>
    cases h0 : (okH (false) (hTau) (hOid) (hR) (hDelta) (hId)) with
    | true =>
      have e : tRTold false hTau hOid hR hDelta hId = (.bool true) := by simp only [tRTold, h0, cond_true, cond_false]
      rw [e]
      exact callQ_run [(4, .bool true)] (q := [(some (.bool (okH (false) (hTau) (hOid) (hR) (hDelta) (hId))), .bool true)]) (by kernel_rfl) (Met.cons (met_bool h0) (Met.nil))
    | false =>
      have e : tRTold false hTau hOid hR hDelta hId = (.bool false) := by simp only [tRTold, h0, cond_true, cond_false]
      rw [e]
      exact callQ_run [(4, .bool false)] (q := [(some (.bool (okH (false) (hTau) (hOid) (hR) (hDelta) (hId))), .bool false)]) (by kernel_rfl) (Met.cons (met_bool h0) (Met.nil))
theorem tRTold_eq (n : Bool) (t o r d i : Int) : tRTold n t o r d i = .bool (told n t o r d i) := by
  unfold tRTold told known
  cases n
  · cases h : okH false t o r d i <;> simp
  · cases h : okH true t o r d i <;> simp
def g64 : List Value → Option Value := g57
theorem hk64 : HookGoal Try.prog 40 g64 := hook_of (ext := E43) (by unfold E43; exact extH_ok (.cons hk70 .nil)) follows Try.func40 (by kernel_rfl) fun args v h => by
  unfold g64 g57 at h
  split at h
  · rename_i c0
    split at h
    · rename_i ec0
      cases h
      obtain rfl := arr_of ec0
      refine ⟨rfl, rfl, ?_⟩
      obtain ⟨hp, q⟩ := tRTold_run _ _ _ _ _ _
      rw [tRTold_eq] at q
      exact ⟨_, hp, q⟩
    · cases h
  · cases h
noncomputable def ER2 : Ext := extH Try.prog [(40, g64)]
theorem ER2_ok : ExtOk Try.prog ER2 := extH_ok (.cons hk64 .nil)
def tRLevel (hNull : Bool) (hTau : Int) (hOid : Int) (hR : Int) (hDelta : Int) (hId : Int) : Value := (bif (told (hNull) (hTau) (hOid) (hR) (hDelta) (hId)) then (.agg #[.int .i64 hTau, .int .i64 hOid, .int .i64 hR]) else (.agg #[.int .i64 0, .int .i64 0, .int .i64 0]))
theorem tRLevel_run (hNull : Bool) (hTau : Int) (hOid : Int) (hR : Int) (hDelta : Int) (hId : Int) : ∃ hp, aCall Try.prog ER2 61 46 [.agg #[.bool hNull, .int .i64 hTau, .int .i64 hOid, .int .i64 hR, .int .i64 hDelta, .int .i64 hId]] hp0 = some (tRLevel hNull hTau hOid hR hDelta hId, hp) := by
  cases h0 : (told (hNull) (hTau) (hOid) (hR) (hDelta) (hId)) with
  | true =>
    have e : tRLevel hNull hTau hOid hR hDelta hId = (.agg #[.int .i64 hTau, .int .i64 hOid, .int .i64 hR]) := by simp only [tRLevel, h0, cond_true, cond_false]
    rw [e]
    exact callQ_run [(4, .bool true)] (q := [(some (.bool (told (hNull) (hTau) (hOid) (hR) (hDelta) (hId))), .bool true)]) (by kernel_rfl) (Met.cons (met_bool h0) (Met.nil))
  | false =>
    have e : tRLevel hNull hTau hOid hR hDelta hId = (.agg #[.int .i64 0, .int .i64 0, .int .i64 0]) := by simp only [tRLevel, h0, cond_true, cond_false]
    rw [e]
    exact callQ_run [(4, .bool false)] (q := [(some (.bool (told (hNull) (hTau) (hOid) (hR) (hDelta) (hId))), .bool false)]) (by kernel_rfl) (Met.cons (met_bool h0) (Met.nil))
theorem tRLevel_eq (n : Bool) (t o r d i : Int) : tRLevel n t o r d i = .agg #[.int .i64 (lev0 n t o r d i), .int .i64 (lev1 n t o r d i), .int .i64 (lev2 n t o r d i)] := by
  unfold tRLevel lev0 lev1 lev2 told
  cases known n t o r d i <;> rfl
theorem hk67 : HookGoal Try.prog 46 g31 := hook_of (ext := ER2) ER2_ok follows Try.func46 (by kernel_rfl) fun args v h => by
  unfold g31 at h
  split at h
  · rename_i c0
    split at h
    · rename_i ec0
      cases h
      obtain rfl := arr_of ec0
      refine ⟨rfl, rfl, ?_⟩
      obtain ⟨hp, q⟩ := tRLevel_run _ _ _ _ _ _
      rw [tRLevel_eq] at q
      exact ⟨_, hp, q⟩
    · cases h
  · cases h
def lexI : List Int → List Int → Int
  | a :: us, b :: ws => bif decide (a < b) then -1 else bif decide (a > b) then 1 else lexI us ws
  | _, _ => 0
def IsI (A : Blk) (us : List Int) : Prop := ∃ ty ro, A = .cells ty (us.map icell) ro
theorem isI (us : List Int) : IsI (iB us) us := ⟨3, false, rfl⟩
theorem IsI.ro {A : Blk} {us : List Int} (h : IsI A us) : IsI (roBlk A) us := by
  obtain ⟨ty, ro, rfl⟩ := h
  exact ⟨ty, true, rfl⟩
theorem IsI.inert {A : Blk} {us : List Int} (h : IsI A us) : inertB A = true := by
  obtain ⟨ty, ro, rfl⟩ := h
  exact iB_inert us
theorem ldA_ok {h : Hp} {b i : Nat} {A : Blk} {us : List Int} {z : Int} (hA : IsI A us) (hb : h.get b = some A) (hz : us[i]? = some z) : (ldO h.get 3 b i (.int .i64 z)).1 = some (ldO h.get 3 b i (.int .i64 z)).2 := by
  obtain ⟨ty, ro, rfl⟩ := hA
  show aLoad Try.prog h.get 3 (pb b i) = some (.int .i64 z)
  unfold pb
  simp only [aLoad, hb, agg3, size3]
  rw [List.getElem?_map, hz]; rfl
noncomputable def E84 : Ext := extH Try.prog []
theorem E84_ok : ExtOk Try.prog E84 := extH_ok (.nil)
noncomputable def c84 : CallF := aCall Try.prog E84 5
theorem c84_ok : CallOk Try.prog c84 := aCall_sound E84_ok follows 5
noncomputable def fb84 : Code := (Try.f75.body).getD .skip
noncomputable def p84 : Nat → Code
  | 0 => fb84
  | n + 1 => sR (p84 n)
noncomputable def c84a : Code := sL (p84 0)
noncomputable def c84b : Code := sL (sL (p84 1))
noncomputable def c84c : Code := unL (unB (sR (sL (p84 1))))
noncomputable def c84d : Code := p84 2
noncomputable abbrev code84 : Code := .seq c84a (.seq (.seq c84b (.block 0 (.loop c84c))) c84d)
theorem body84 : Try.f75.body = some code84 := by kernel_rfl
theorem ntmps84 : Try.f75.ntmps = 30 := by kernel_rfl
theorem s84a : codeSafe Try.prog 30 c84a = true := by kernel_rfl
theorem s84b : codeSafe Try.prog 30 c84b = true := by kernel_rfl
theorem s84c : codeSafe Try.prog 30 c84c = true := by kernel_rfl
theorem s84d : codeSafe Try.prog 30 c84d = true := by kernel_rfl
theorem q84 (v : Value) (O : List Blk) (g : Nat → Value) : retVal Try.prog Try.f75 (stOf 30 g [(4, v)] O) = some v := by kernel_rfl
section
variable (A B : Blk) (n i : Nat) (x y : Int) (g : Nat → Value)
def h84 (A B : Blk) : Hp := heapOf ([A, B] ++ [.dead]) hp0
abbrev L84 (i : Nat) (g : Nat → Value) : St := stOf 30 g [(0, newI 0 n), (1, newI 1 n), (5, iN i)] [A, B]
theorem r84a : (execE Try.prog c84 [] [] [] 20 c84a ⟨tmsOf [newI 0 n, newI 1 n] 0 .leaf, heapOf [A, B, .dead] hp0, []⟩).map (fun z => (look2 2 [0, 1] [0, 1] (z.1, z.2.1), z.2.2)) =
    some ((.normal, [A, B], [(0, newI 0 n), (1, newI 1 n)], true), [], [], []) := by kernel_rfl
theorem r84b : (execE Try.prog c84 [] [] [] 20 c84b (stOf 30 g [(0, newI 0 n), (1, newI 1 n)] [A, B])).map (fun z => (look2 2 [0, 1] [0, 1, 5] (z.1, z.2.1), z.2.2)) =
    some ((.normal, [A, B], [(0, newI 0 n), (1, newI 1 n), (5, iN 0)], true), [], [], []) := by kernel_rfl
theorem r84x : (execE Try.prog c84 [(9, .bool false)] [] [] 20 c84c (L84 A B n i g)).map (fun z => (look2 0 [] [] (z.1, z.2.1), z.2.2)) =
    some ((.exit 0, [], [], true), [ltO i n false], [], []) := by kernel_rfl
theorem r84l : (execE Try.prog c84 [(9, .bool true), (14, pb 0 i), (15, .int .i64 x), (18, pb 1 i), (19, .int .i64 y), (20, .bool true)] [] [] 20 c84c (L84 A B n i g)).map (fun z => (look2 0 [] [4] (z.1, z.2.1), z.2.2)) =
    some ((.ret, [], [(4, .int .i64 (-1))], true), [ltO i n true, ixI 0 n i, ldO (h84 A B).get 3 0 i (.int .i64 x), ixI 1 n i, ldO (h84 A B).get 3 1 i (.int .i64 y), (some (.bool (decide (x < y))), .bool true)], [], []) := by kernel_rfl
theorem r84g : (execE Try.prog c84 [(9, .bool true), (14, pb 0 i), (15, .int .i64 x), (18, pb 1 i), (19, .int .i64 y), (20, .bool false), (23, pb 0 i), (24, .int .i64 x), (27, pb 1 i), (28, .int .i64 y), (29, .bool true)] [] [] 20 c84c (L84 A B n i g)).map (fun z => (look2 0 [] [4] (z.1, z.2.1), z.2.2)) =
    some ((.ret, [], [(4, .int .i64 1)], true), [ltO i n true, ixI 0 n i, ldO (h84 A B).get 3 0 i (.int .i64 x), ixI 1 n i, ldO (h84 A B).get 3 1 i (.int .i64 y), (some (.bool (decide (x < y))), .bool false), ixI 0 n i, ldO (h84 A B).get 3 0 i (.int .i64 x), ixI 1 n i, ldO (h84 A B).get 3 1 i (.int .i64 y), (some (.bool (decide (x > y))), .bool true)], [], []) := by kernel_rfl
theorem r84e : (execE Try.prog c84 [(9, .bool true), (14, pb 0 i), (15, .int .i64 x), (18, pb 1 i), (19, .int .i64 y), (20, .bool false), (23, pb 0 i), (24, .int .i64 x), (27, pb 1 i), (28, .int .i64 y), (29, .bool false), (11, iN (i + 1))] [] [] 20 c84c (L84 A B n i g)).map (fun z => (look2 2 [0, 1] [0, 1, 5] (z.1, z.2.1), z.2.2)) =
    some ((.normal, [A, B], [(0, newI 0 n), (1, newI 1 n), (5, iN (i + 1))], true), [ltO i n true, ixI 0 n i, ldO (h84 A B).get 3 0 i (.int .i64 x), ixI 1 n i, ldO (h84 A B).get 3 1 i (.int .i64 y), (some (.bool (decide (x < y))), .bool false), ixI 0 n i, ldO (h84 A B).get 3 0 i (.int .i64 x), ixI 1 n i, ldO (h84 A B).get 3 1 i (.int .i64 y), (some (.bool (decide (x > y))), .bool false), nxt29 i], [], []) := by kernel_rfl
theorem r84d : (execE Try.prog c84 [] [] [] 20 c84d (stOf 30 g [] [])).map (fun z => (look2 0 [] [4] (z.1, z.2.1), z.2.2)) =
    some ((.ret, [], [(4, .int .i64 0)], true), [], [], []) := by kernel_rfl
end
theorem lex_skip : ∀ {us ws : List Int} {i : Nat}, us.take i = ws.take i → i ≤ us.length → i ≤ ws.length → lexI us ws = lexI (us.drop i) (ws.drop i)
  | us, ws, 0, _, _, _ => rfl
  | [], ws, i + 1, _, h, _ => by simp at h
  | a :: us, [], i + 1, _, _, h => by simp at h
  | a :: us, b :: ws, i + 1, h, h1, h2 => by
    simp only [List.take_succ_cons, List.cons.injEq] at h
    obtain ⟨rfl, h⟩ := h
    rw [List.drop_succ_cons, List.drop_succ_cons, ← lex_skip h (by simpa using h1) (by simpa using h2)]
    have e : decide (a < a) = false := decide_eq_false (by omega)
    show (bif decide (a < a) then -1 else bif decide (a > a) then 1 else lexI us ws) = _
    rw [e]; rfl
theorem drop_get {us : List Int} {i : Nat} {x : Int} (h : us[i]? = some x) : us.drop i = x :: us.drop (i + 1) := by
  obtain ⟨h1, rfl⟩ := List.getElem?_eq_some_iff.1 h
  exact List.drop_eq_getElem_cons h1
def Ends84 (us ws : List Int) (e : Exit) (st : St) : Prop := e = .ret ∧ ∃ g, st = stOf 30 g [(4, .int .i64 (lexI us ws))] []
theorem fr84 (A B : Blk) (us ws : List Int) (hA : IsI A us) (hB : IsI B ws) (hl : us.length = ws.length) (hn : us.length < 1000000) (W : Base) :
    FRwp Try.prog 30 W code84 ⟨tmsOf [newI 0 us.length, newI 1 us.length] 0 .leaf, heapOf [A, B, .dead] hp0, []⟩ (Ends84 us ws) := by
  have fx : ∀ r : List Blk, ∀ i, i < 2 → ∀ o', (A :: B :: r)[i]? = some o' → Fixed 0 o' := fixOO hA.inert hB.inert
  have gA : (h84 A B).get 0 = some A := by unfold h84; rw [heapOf0_get]; rfl
  have gB : (h84 A B).get 1 = some B := by unfold h84; rw [heapOf0_get]; rfl
  refine FRwp.seq (Q1 := fun e st => e = .normal ∧ ∃ g, st = stOf 30 g [(0, newI 0 us.length), (1, newI 1 us.length)] [A, B]) (FRwp.pieceY c84_ok follows 2 _ _ _ _ (r84a A B us.length) Met.nil MetH.nil MetE.nil s84a rfl rfl (fx []) fun g => ⟨rfl, g, rfl⟩) ?_ (fun x st hne hq => absurd hq.1 hne)
  rintro st ⟨-, g, rfl⟩
  refine FRwp.seq (Q1 := fun e st => (e = .normal ∧ us = ws ∧ ∃ g, st = stOf 30 g [] []) ∨ Ends84 us ws e st) ?_ ?_ ?_
  · refine FRwp.seq (Q1 := fun e st => e = .normal ∧ ∃ g, st = L84 A B us.length 0 g) (FRwp.pieceY c84_ok follows 2 _ _ _ _ (r84b A B us.length g) Met.nil MetH.nil MetE.nil s84b rfl rfl (fx []) fun g => ⟨rfl, g, rfl⟩) ?_ (fun x st hne hq => absurd hq.1 hne)
    rintro st ⟨-, g, rfl⟩
    refine FRwp.block ?_
    refine FRwp.loop (fun k st => ∃ i g, i ≤ us.length ∧ k = us.length - i ∧ us.take i = ws.take i ∧ st = L84 A B us.length i g) ?_ (k := us.length) ⟨0, g, Nat.zero_le _, rfl, rfl, rfl⟩
    rintro k st ⟨i, g, hi, rfl, ht, rfl⟩
    cases h9 : decide (i < us.length) with
    | false =>
      have hii : i = us.length := by have := of_decide_eq_false h9; omega
      refine FRwp.pieceY c84_ok follows 0 _ _ _ _ (r84x A B us.length i g) (Met.cons (ltO_ok h9) Met.nil) MetH.nil MetE.nil s84c rfl rfl (noFix _) fun g' => .inr ⟨by simp, ?_⟩
      show (if (0 : Nat) = 0 then _ else _)
      rw [if_pos rfl]
      refine .inl ⟨rfl, ?_, g', rfl⟩
      rw [hii, List.take_length, hl, List.take_length] at ht
      exact ht
    | true =>
      have hlt := of_decide_eq_true h9
      obtain ⟨x, hx⟩ : ∃ x, us[i]? = some x := ⟨_, List.getElem?_eq_getElem hlt⟩
      obtain ⟨y, hy⟩ : ∃ y, ws[i]? = some y := ⟨_, List.getElem?_eq_getElem (by omega)⟩
      have hlx : lexI us ws = bif decide (x < y) then -1 else bif decide (x > y) then 1 else lexI (us.drop (i + 1)) (ws.drop (i + 1)) := by
        rw [lex_skip ht (by omega) (by omega), drop_get hx, drop_get hy]; rfl
      have m1 : ∀ {l}, Met l → Met (ltO i us.length true :: ixI 0 us.length i :: ldO (h84 A B).get 3 0 i (.int .i64 x) :: ixI 1 us.length i :: ldO (h84 A B).get 3 1 i (.int .i64 y) :: l) := fun h => Met.cons (ltO_ok h9) (Met.cons (ixI_ok hlt) (Met.cons (ldA_ok hA gA hx) (Met.cons (ixI_ok hlt) (Met.cons (ldA_ok hB gB hy) h))))
      have m2 : ∀ {l}, Met l → Met (ixI 0 us.length i :: ldO (h84 A B).get 3 0 i (.int .i64 x) :: ixI 1 us.length i :: ldO (h84 A B).get 3 1 i (.int .i64 y) :: l) := fun h => Met.cons (ixI_ok hlt) (Met.cons (ldA_ok hA gA hx) (Met.cons (ixI_ok hlt) (Met.cons (ldA_ok hB gB hy) h)))
      cases hxy : decide (x < y) with
      | true =>
        rw [hxy] at hlx
        refine FRwp.pieceY c84_ok follows 0 _ _ _ _ (r84l A B us.length i x y g) (m1 (Met.cons (bool_ok hxy) Met.nil)) MetH.nil MetE.nil s84c rfl rfl (noFix _) fun g' => .inr ⟨by simp, ?_⟩
        exact .inr ⟨rfl, g', by rw [hlx]; rfl⟩
      | false =>
        rw [hxy] at hlx
        cases hyx : decide (x > y) with
        | true =>
          rw [hyx] at hlx
          refine FRwp.pieceY c84_ok follows 0 _ _ _ _ (r84g A B us.length i x y g) (m1 (Met.cons (bool_ok hxy) (m2 (Met.cons (bool_ok hyx) Met.nil)))) MetH.nil MetE.nil s84c rfl rfl (noFix _) fun g' => .inr ⟨by simp, ?_⟩
          exact .inr ⟨rfl, g', by rw [hlx]; rfl⟩
        | false =>
          have hxe : x = y := by have := of_decide_eq_false hxy; have := of_decide_eq_false hyx; omega
          refine FRwp.pieceY c84_ok follows 2 _ _ _ _ (r84e A B us.length i x y g) (m1 (Met.cons (bool_ok hxy) (m2 (Met.cons (bool_ok hyx) (Met.cons (wrap_up (by omega)) Met.nil))))) MetH.nil MetE.nil s84c rfl rfl (fx []) fun g' => .inl ⟨rfl, us.length - (i + 1), by omega, i + 1, g', by omega, rfl, ?_, rfl⟩
          rw [List.take_add_one, List.take_add_one, hx, hy, ht, hxe]
  · rintro st (⟨-, rfl, g, rfl⟩ | ⟨h, -⟩)
    · refine FRwp.pieceY c84_ok follows 0 _ _ _ _ (r84d g) Met.nil MetH.nil MetE.nil s84d rfl rfl (noFix _) fun g => ⟨rfl, g, ?_⟩
      have e : ∀ l : List Int, lexI l l = 0 := fun l => by
        have := lex_skip (us := l) (ws := l) (i := l.length) rfl (Nat.le_refl _) (Nat.le_refl _)
        rw [this, List.drop_length]; rfl
      rw [e]
    · cases h
  · rintro e st hne (⟨h, -⟩ | h)
    · exact absurd h hne
    · exact h
open Classical in
noncomputable def G84 : HeapFn := fun args hp => match args with
  | [s, t] => if h : ∃ p : List Int × List Int, ∃ b1 b2, s = newI b1 p.1.length ∧ t = newI b2 p.1.length ∧ p.1.length = p.2.length ∧ p.1.length < 1000000 ∧ b1 ≠ b2 ∧ hp.get b1 = some (iB p.1) ∧ hp.get b2 = some (iB p.2)
      then some (.int .i64 (lexI h.choose.1 h.choose.2), heapOf ([] ++ [.dead]) hp) else none
  | _ => none
theorem hkG84 : CallGoal Try.prog 75 G84 := scan_goal follows Try.func75 body84 (by kernel_rfl) fun args hp v hp' h hk => by
  rw [ntmps84]
  unfold G84 at h
  split at h
  case h_2 => cases h
  rename_i s t
  split at h
  case isFalse => cases h
  rename_i hx
  cases h
  have hs := hx.choose_spec
  generalize hx.choose = p at *
  obtain ⟨us, ws⟩ := p
  obtain ⟨b1, b2, rfl, rfl, hl, hn, hne, h1, h2⟩ := hs
  have hbe : Nat.beq b1 b2 = false := by
    cases e : Nat.beq b1 b2 with
    | false => rfl
    | true => exact absurd (Nat.eq_of_beq_eq_true e) hne
  refine ⟨[b1, b2], [], [], rfl, rfl, by simp [nodupB, hbe], rfl, fun b' hb' => ?_, rfl, (by simp), fun W => ?_⟩
  · have : b' = b1 ∨ b' = b2 := by simpa using hb'
    rcases this with rfl | rfl
    · exact ⟨_, h1, inert_start (iB_inert _)⟩
    · exact ⟨_, h2, inert_start (iB_inert _)⟩
  · have e1 : [newI b1 us.length, newI b2 us.length].map (sh3 [b1, b2] 0) = [newI 0 us.length, newI 1 us.length] := by simp [sh3, sh2, sh1, rho, idxOf, newI, hbe]
    have e2 : startHp [b1, b2] hp = heapOf [.cells 3 (us.map icell) true, .cells 3 (ws.map icell) true, .dead] hp0 := start2 h1 h2 (iB_inert _) (iB_inert _)
    rw [e1, e2]
    have hr := fr84 (.cells 3 (us.map icell) true) (.cells 3 (ws.map icell) true) us ws ⟨3, true, rfl⟩ ⟨3, true, rfl⟩ hl hn W
    refine FRwp.mono hr fun e st q => ?_
    obtain ⟨rfl, g, rfl⟩ := q
    exact ⟨.inr rfl, rfl, _, q84 _ _ g, rfl, (fun b hb => by cases hb), rfl, rfl⟩
theorem G84_of {us ws : List Int} {b1 b2 : Nat} {hp : Hp} (hl : us.length = ws.length) (hn : us.length < 1000000) (hne : b1 ≠ b2) (h1 : hp.get b1 = some (iB us)) (h2 : hp.get b2 = some (iB ws)) :
    G84 [newI b1 us.length, newI b2 us.length] hp = some (.int .i64 (lexI us ws), heapOf [.dead] hp) := by
  have hx : ∃ p : List Int × List Int, ∃ c1 c2, newI b1 us.length = newI c1 p.1.length ∧ newI b2 us.length = newI c2 p.1.length ∧ p.1.length = p.2.length ∧ p.1.length < 1000000 ∧ c1 ≠ c2 ∧ hp.get c1 = some (iB p.1) ∧ hp.get c2 = some (iB p.2) := ⟨(us, ws), b1, b2, rfl, rfl, hl, hn, hne, h1, h2⟩
  have inj : ∀ {a b : List Int}, iB a = iB b → a = b := fun {a b} h => by
    have h' : a.map icell = b.map icell := by unfold iB at h; injection h
    exact (List.map_inj_right (fun x y e => by unfold icell at e; injection e)).1 h'
  have hs : hx.choose = (us, ws) := by
    obtain ⟨c1, c2, e1, e2, -, -, -, q1, q2⟩ := hx.choose_spec
    have d1 : b1 = c1 := by unfold newI at e1; injection e1 with e; injection e with e; injection e
    have d2 : b2 = c2 := by unfold newI at e2; injection e2 with e; injection e with e; injection e
    subst d1; subst d2
    rw [h1] at q1; rw [h2] at q2
    have p1 := inj (Option.some.inj q1)
    have p2 := inj (Option.some.inj q2)
    exact Prod.ext p1.symm p2.symm
  unfold G84
  simp only
  rw [dif_pos hx, hs]; rfl
def unI : List Value → Option (List Int)
  | [] => some []
  | .int .i64 z :: l => match unI l with
    | some us => some (z :: us)
    | none => none
  | _ => none
theorem unI_some : ∀ {l : List Value} {us : List Int}, unI l = some us → l = us.map icell
  | [], us, h => by cases h; rfl
  | v :: l, us, h => by
    unfold unI at h
    split at h
    · rename_i heq; cases heq
    · rename_i z l' heq
      cases heq
      split at h
      · rename_i us' h'
        cases h
        rw [unI_some h']; rfl
      · cases h
    · cases h
def C84 : HeapFn := fun args hp => match args with
  | [.slice (some a) n 4, .slice (some b) m 4] => match hp.get a.block, hp.get b.block with
    | some (.cells 3 L false), some (.cells 3 R false) => match unI L, unI R with
      | some us, some ws => match a.spot, b.spot, Nat.beq a.off 0 && Nat.beq b.off 0 && Nat.beq n us.length && Nat.beq m n && Nat.beq ws.length n && Nat.blt n 1000000 && !Nat.beq a.block b.block with
        | none, none, true => some (.int .i64 (lexI us ws), heapOf [.dead] hp)
        | _, _, _ => none
      | _, _ => none
    | _, _ => none
  | _ => none
theorem hkC84 : CallGoal Try.prog 75 C84 := by
  intro args hp v hp' he hk
  refine hkG84 args hp v hp' ?_ hk
  unfold C84 at he
  split at he
  case h_2 => cases he
  rename_i a n b m
  split at he
  case h_2 => cases he
  rename_i L R hL hR
  split at he
  case h_2 => cases he
  rename_i us ws hu hw
  split at he
  case h_2 => cases he
  rename_i ha hb hc
  cases he
  simp only [Bool.and_eq_true, Nat.blt_eq, Bool.not_eq_true'] at hc
  obtain ⟨⟨⟨⟨⟨⟨c1, c2⟩, c3⟩, c4⟩, c5⟩, c6⟩, c7⟩ := hc
  replace c1 := Nat.eq_of_beq_eq_true c1
  replace c2 := Nat.eq_of_beq_eq_true c2
  replace c3 := Nat.eq_of_beq_eq_true c3
  replace c4 := Nat.eq_of_beq_eq_true c4
  replace c5 := Nat.eq_of_beq_eq_true c5
  obtain ⟨ab, ao, as'⟩ := a
  obtain ⟨bb, bo, bs'⟩ := b
  simp only at ha hb c1 c2 c7 hL hR
  subst ha; subst hb; subst c1; subst c2; subst c4; subst c3
  rw [unI_some hu] at hL
  rw [unI_some hw] at hR
  exact G84_of c5.symm c6 (fun e => by subst e; simp at c7) hL hR
noncomputable def row5 (x : ViewV) : List Int := [x.t, x.o, x.r, x.d, x.i]
noncomputable def E65 : Ext := extG (extH Try.prog [(40, g64)]) [(75, C84)]
theorem E65_ok : ExtOk Try.prog E65 := extG_ok (extH_ok (.cons hk64 (.nil))) (.cons hkC84 (.nil))
noncomputable def c65 : CallF := aCall Try.prog E65 60
theorem c65_ok : CallOk Try.prog c65 := aCall_sound E65_ok follows 60
noncomputable def fb65 : Code := (Try.f41.body).getD .skip
theorem body65 : Try.f41.body = some fb65 := by kernel_rfl
theorem ntmps65 : Try.f41.ntmps = 19 := by kernel_rfl
theorem s65 : codeSafe Try.prog 19 fb65 = true := by kernel_rfl
theorem q65 (v : Value) (O : List Blk) (g : Nat → Value) : retVal Try.prog Try.f41 (stOf 19 g [(4, v)] O) = some v := by kernel_rfl
section
variable (x y : ViewV) (z : Int) (b : Bool)
noncomputable def toV (x : ViewV) (b : Bool) : Obl := (some (.bool (toldV x)), .bool b)
theorem toV_ok {x : ViewV} {b : Bool} (h : toldV x = b) : (toV x b).1 = some (toV x b).2 := by show some (Value.bool (toldV x)) = _; rw [h]; rfl
theorem r65f : (execE Try.prog c65 [(6, .bool false)] [] [] 20 fb65 ⟨tmsOf [hcA x, hcA y] 0 .leaf, hp0, []⟩).map (fun z => (look2 0 [] [4] (z.1, z.2.1), z.2.2)) =
    some ((.ret, [], [(4, .bool false)], true), [toV x false], [], []) := by kernel_rfl
theorem r65g : (execE Try.prog c65 [(6, .bool true), (9, .bool false)] [] [] 20 fb65 ⟨tmsOf [hcA x, hcA y] 0 .leaf, hp0, []⟩).map (fun z => (look2 0 [] [4] (z.1, z.2.1), z.2.2)) =
    some ((.ret, [], [(4, .bool false)], true), [toV x true, toV y false], [], []) := by kernel_rfl
theorem r65t : (execE Try.prog c65 [(6, .bool true), (9, .bool true), (17, .bool b)] [] [] 20 fb65 ⟨tmsOf [hcA x, hcA y] 0 .leaf, hp0, []⟩).map (fun z => (look2 0 [] [4] (z.1, z.2.1), z.2.2)) =
    some ((.ret, [], [(4, .bool b)], true), [(some (hcA y), hcA y), toV x true, toV y true, (some (.bool (decide (lexI (row5 x) (row5 y) < 0))), .bool b)], [], []) := by kernel_rfl
end
theorem lex5 (x y : ViewV) : lexI (row5 x) (row5 y) < 0 ↔ Lex x y := by
  unfold Lex row5
  have st : ∀ (a b : Int) (u w : List Int), lexI (a :: u) (b :: w) < 0 ↔ a < b ∨ (a = b ∧ lexI u w < 0) := fun a b u w => by
    show (bif decide (a < b) then -1 else bif decide (a > b) then 1 else lexI u w) < 0 ↔ _
    cases h1 : decide (a < b) with
    | true => have := of_decide_eq_true h1; simp; omega
    | false =>
      have h1' := of_decide_eq_false h1
      cases h2 : decide (a > b) with
      | true => have := of_decide_eq_true h2; simp; omega
      | false =>
        have h2' := of_decide_eq_false h2
        have : a = b := by omega
        subst this
        simp
  rw [st, st, st, st, st]
  have e0 : ¬ lexI [] [] < 0 := by show ¬ ((0 : Int) < 0); omega
  simp [e0]
theorem less5 (x y : ViewV) : (toldV x && (toldV y && decide (lexI (row5 x) (row5 y) < 0))) = ltV x y := by
  cases hx : toldV x with
  | false =>
    cases e : ltV x y with
    | false => rfl
    | true => have := (lt_kn e).1; rw [toldV_kn.2 this] at hx; cases hx
  | true =>
    cases hy : toldV y with
    | false =>
      cases e : ltV x y with
      | false => rfl
      | true => have := (lt_kn e).2; rw [toldV_kn.2 this] at hy; cases hy
    | true =>
      have := ltV_lex (toldV_kn.1 hx) (toldV_kn.1 hy)
      cases e : ltV x y with
      | true => rw [decide_eq_true ((lex5 x y).2 (this.1 e))]; rfl
      | false =>
        have n : ¬ Lex x y := fun h => by rw [this.2 h] at e; cases e
        rw [decide_eq_false fun h => n ((lex5 x y).1 h)]; rfl
theorem fr65 (x y : ViewV) (W : Base) : FRwp Try.prog 19 W fb65 ⟨tmsOf [hcA x, hcA y] 0 .leaf, hp0, []⟩ (fun e st => (e = .normal ∨ e = .ret) ∧ st.df = [] ∧ retVal Try.prog Try.f41 st = some (.bool (ltV x y))) := by
  have h := less5 x y
  cases hx : toldV x with
  | false =>
    rw [hx] at h
    have h' : ltV x y = false := h.symm
    rw [h']
    exact FRwp.pieceY c65_ok follows 0 _ _ _ _ (r65f x y) (Met.cons (toV_ok hx) Met.nil) MetH.nil MetE.nil s65 rfl rfl (noFix _) fun g => ⟨.inr rfl, rfl, q65 _ _ g⟩
  | true =>
    rw [hx] at h
    cases hy : toldV y with
    | false =>
      rw [hy] at h
      have h' : ltV x y = false := h.symm
      rw [h']
      exact FRwp.pieceY c65_ok follows 0 _ _ _ _ (r65g x y) (Met.cons (toV_ok hx) (Met.cons (toV_ok hy) Met.nil)) MetH.nil MetE.nil s65 rfl rfl (noFix _) fun g => ⟨.inr rfl, rfl, q65 _ _ g⟩
    | true =>
      rw [hy] at h
      have h' : decide (lexI (row5 x) (row5 y) < 0) = ltV x y := h
      exact FRwp.pieceY c65_ok follows 0 _ _ _ _ (r65t x y (ltV x y)) (Met.cons rfl (Met.cons (toV_ok hx) (Met.cons (toV_ok hy) (Met.cons (bool_ok h') Met.nil)))) MetH.nil MetE.nil s65 rfl rfl (noFix _) fun g => ⟨.inr rfl, rfl, q65 _ _ g⟩
theorem hk65 : HookGoal Try.prog 41 g17 := hook_fr Try.func41 (by kernel_rfl) body65 ntmps65 fun args v h => by
  unfold g17 at h
  split at h
  · rename_i c0 c1
    split at h
    · rename_i ec0 ec1
      cases h
      obtain rfl := arr_of ec0
      obtain rfl := arr_of ec1
      refine ⟨rfl, rfl, by simp, fun W => ?_⟩
      exact fr65 ⟨0, _, _, _, _, _, _⟩ ⟨0, _, _, _, _, _, _⟩ W
    · cases h
  · cases h
end Go.Proofs.Ytgeoommlmddgpaa.LtA
namespace Go.Proofs.Ytgeoommlmddgpaa.LtA
open Go Go.Proofs Go.Proofs.Ytgeoommlmddgpaa.AI Go.RowKit Go.Proofs.Ytgeoommlmddgpaa.Sort
noncomputable def E35 : Ext := extH Try.prog [(40, g64), (41, g17)]
theorem E35_ok : ExtOk Try.prog E35 := extH_ok (.cons hk64 (.cons hk65 (.nil)))
noncomputable def c35 : CallF := aCall Try.prog E35 5
theorem c35_ok : CallOk Try.prog c35 := aCall_sound E35_ok follows 5
noncomputable def fb35 : Code := (Try.f56.body).getD .skip
noncomputable def p35 : Nat → Code
  | 0 => fb35
  | n + 1 => sR (p35 n)
noncomputable def c35a : Code := sL (p35 0)
noncomputable def c35b : Code := sL (p35 1)
noncomputable def c35c : Code := sL (p35 2)
noncomputable def c35d : Code := sL (sL (p35 3))
noncomputable def c35e : Code := unL (unB (sR (sL (p35 3))))
noncomputable def c35f : Code := p35 4
noncomputable abbrev code35 : Code := .seq c35a (.seq c35b (.seq c35c (.seq (.seq c35d (.block 0 (.loop c35e))) c35f)))
theorem body35 : Try.f56.body = some code35 := by kernel_rfl
theorem ntmps35 : Try.f56.ntmps = 40 := by kernel_rfl
theorem s35a : codeSafe Try.prog 40 c35a = true := by kernel_rfl
theorem s35b : codeSafe Try.prog 40 c35b = true := by kernel_rfl
theorem s35c : codeSafe Try.prog 40 c35c = true := by kernel_rfl
theorem s35d : codeSafe Try.prog 40 c35d = true := by kernel_rfl
theorem s35e : codeSafe Try.prog 40 c35e = true := by kernel_rfl
theorem s35f : codeSafe Try.prog 40 c35f = true := by kernel_rfl
theorem q35 (x : ViewV) (b : Bool) (g : Nat → Value) : retVal Try.prog Try.f56 (stOf 40 g [(2, pb 0 0), (3, .bool b)] [vB x]) = some (.tuple #[.agg ⟨vc x⟩, .bool b]) := by kernel_rfl
theorem kk_len {f : Bool} {vs : List ViewV} {o : Blk} (h : f = false → vs = [] ∧ o = .dead) : kk f vs.length = vs.length := by
  cases f with
  | true => rfl
  | false => rw [(h rfl).1]; rfl
section
variable (f : Bool) (o : Blk) (n c i : Nat) (x y : ViewV) (b : Bool) (g : Nat → Value)
theorem r35a : (execE Try.prog c35 [] [] [] 20 c35a ⟨tmsOf [rowS 0 n c] 0 .leaf, heapOf [o, .dead] hp0, []⟩).map (fun z => (look2 1 [0, 2] [0, 2] (z.1, z.2.1), z.2.2)) =
    some ((.normal, [o, vB (zeroV 0)], [(0, rowS 0 n c), (2, pb 1 0)], true), [], [], []) := by kernel_rfl
theorem n35a : (execE Try.prog c35 [] [] [] 20 c35a ⟨tmsOf [nilS] 0 .leaf, heapOf [.dead] hp0, []⟩).map (fun z => (look2 1 [0, 1] [0, 2] (z.1, z.2.1), z.2.2)) =
    some ((.normal, [.dead, vB (zeroV 0)], [(0, nilS), (2, pb 1 0)], true), [], [], []) := by kernel_rfl
theorem r35b : (execE Try.prog c35 [] [] [] 20 c35b (stOf 40 g [(0, vS f 0 n c), (2, pb 1 0)] [o, vB (zeroV 0)])).map (fun z => (look2 1 [0, 1, 3] [0, 2, 4] (z.1, z.2.1), z.2.2)) =
    some ((.normal, [o, vB (zeroV 0), vB (zeroV 0)], [(0, vS f 0 n c), (2, pb 1 0), (4, pb 2 0)], true), [], [], []) := by cases f <;> kernel_rfl
theorem r35c : (execE Try.prog c35 [] [] [] 20 c35c (stOf 40 g [(0, vS f 0 n c), (2, pb 1 0), (4, pb 2 0)] [o, vB (zeroV 0), vB (zeroV 0)])).map (fun z => (look2 1 [0, 1, 2] [0, 2, 4, 5] (z.1, z.2.1), z.2.2)) =
    some ((.normal, [o, vB (zeroV 0), vB (zeroV 0)], [(0, vS f 0 n c), (2, pb 1 0), (4, pb 2 0), (5, .bool false)], true), [], [], []) := by cases f <;> kernel_rfl
abbrev L35 (y : ViewV) (b : Bool) (i : Nat) (g : Nat → Value) : St := (stOf 40 g [(0, vS f 0 n c), (2, pb 1 0), (4, pb 2 0), (5, .bool b), (6, iN i)] [o, vB (zeroV 0), vB y])
theorem r35d : (execE Try.prog c35 [] [] [] 20 c35d (stOf 40 g [(0, vS f 0 n c), (2, pb 1 0), (4, pb 2 0), (5, .bool false)] [o, vB (zeroV 0), vB (zeroV 0)])).map (fun z => (look2 1 [0, 1, 2] [0, 2, 4, 5, 6] (z.1, z.2.1), z.2.2)) =
    some ((.normal, [o, vB (zeroV 0), vB (zeroV 0)], [(0, vS f 0 n c), (2, pb 1 0), (4, pb 2 0), (5, .bool false), (6, iN 0)], true), [], [], []) := by cases f <;> kernel_rfl
theorem r35x : (execE Try.prog c35 [(11, .bool false)] [] [] 20 c35e (L35 f o n c y b i g)).map (fun z => (look2 0 [1, 2] [2, 4, 5] (z.1, z.2.1), z.2.2)) =
    some ((.exit 0, [vB (zeroV 0), vB y], [(2, pb 0 0), (4, pb 1 0), (5, .bool b)], true), [ltO i (kk f n) false], [], []) := by cases f <;> kernel_rfl
theorem r35f : (execE Try.prog c35 [(11, .bool true), (16, pb 0 (i * 7)), (18, hcA x), (19, .bool false), (13, iN (i + 1))] [] [] 20 c35e (L35 true o n c y b i g)).map (fun z => (look2 1 [0, 1, 2] [0, 2, 4, 5, 6] (z.1, z.2.1), z.2.2)) =
    some ((.normal, [o, vB (zeroV 0), vB y], [(0, rowS 0 n c), (2, pb 1 0), (4, pb 2 0), (5, .bool b), (6, iN (i + 1))], true), [ltO i n true, ixO 0 n c i, ldO (heapOf ([o, vB (zeroV 0), vB y] ++ [.dead]) hp0).get 24 0 (i * 7 + 1) (hcA x), toV x false, nxt29 i], [], []) := by kernel_rfl
theorem r35g : (execE Try.prog c35 [(11, .bool true), (16, pb 0 (i * 7)), (18, hcA x), (19, .bool true), (36, pb 0 (i * 7)), (37, .agg ⟨vc x⟩), (13, iN (i + 1))] [] [] 20 c35e (L35 true o n c y false i g)).map (fun z => (look2 1 [0, 1, 2] [0, 2, 4, 5, 6] (z.1, z.2.1), z.2.2)) =
    some ((.normal, [o, vB (zeroV 0), vB x], [(0, rowS 0 n c), (2, pb 1 0), (4, pb 2 0), (5, .bool true), (6, iN (i + 1))], true), [ltO i n true, ixO 0 n c i, ldO (heapOf ([o, vB (zeroV 0), vB y] ++ [.dead]) hp0).get 24 0 (i * 7 + 1) (hcA x), toV x true, ixO 0 n c i, ldO (heapOf ([o, vB (zeroV 0), vB y] ++ [.dead]) hp0).get 45 0 (i * 7) (.agg ⟨vc x⟩), nxt29 i], [], []) := by kernel_rfl
theorem r35h : (execE Try.prog c35 [(11, .bool true), (16, pb 0 (i * 7)), (18, hcA x), (19, .bool true), (26, pb 0 (i * 7)), (28, hcA x), (31, .bool true), (36, pb 0 (i * 7)), (37, .agg ⟨vc x⟩), (13, iN (i + 1))] [] [] 20 c35e (L35 true o n c y true i g)).map (fun z => (look2 1 [0, 1, 2] [0, 2, 4, 5, 6] (z.1, z.2.1), z.2.2)) =
    some ((.normal, [o, vB (zeroV 0), vB x], [(0, rowS 0 n c), (2, pb 1 0), (4, pb 2 0), (5, .bool true), (6, iN (i + 1))], true), [ltO i n true, ixO 0 n c i, ldO (heapOf ([o, vB (zeroV 0), vB y] ++ [.dead]) hp0).get 24 0 (i * 7 + 1) (hcA x), toV x true, ixO 0 n c i, ldO (heapOf ([o, vB (zeroV 0), vB y] ++ [.dead]) hp0).get 24 0 (i * 7 + 1) (hcA x), leV x y true, ixO 0 n c i, ldO (heapOf ([o, vB (zeroV 0), vB y] ++ [.dead]) hp0).get 45 0 (i * 7) (.agg ⟨vc x⟩), nxt29 i], [], []) := by kernel_rfl
theorem r35i : (execE Try.prog c35 [(11, .bool true), (16, pb 0 (i * 7)), (18, hcA x), (19, .bool true), (26, pb 0 (i * 7)), (28, hcA x), (31, .bool false), (13, iN (i + 1))] [] [] 20 c35e (L35 true o n c y true i g)).map (fun z => (look2 1 [0, 1, 2] [0, 2, 4, 5, 6] (z.1, z.2.1), z.2.2)) =
    some ((.normal, [o, vB (zeroV 0), vB y], [(0, rowS 0 n c), (2, pb 1 0), (4, pb 2 0), (5, .bool true), (6, iN (i + 1))], true), [ltO i n true, ixO 0 n c i, ldO (heapOf ([o, vB (zeroV 0), vB y] ++ [.dead]) hp0).get 24 0 (i * 7 + 1) (hcA x), toV x true, ixO 0 n c i, ldO (heapOf ([o, vB (zeroV 0), vB y] ++ [.dead]) hp0).get 24 0 (i * 7 + 1) (hcA x), leV x y false, nxt29 i], [], []) := by kernel_rfl
theorem r35j : (execE Try.prog c35 [] [] [] 20 c35f (stOf 40 g [(2, pb 0 0), (4, pb 1 0), (5, .bool b)] [vB (zeroV 0), vB y])).map (fun z => (look2 0 [0] [2, 3] (z.1, z.2.1), z.2.2)) =
    some ((.ret, [vB y], [(2, pb 0 0), (3, .bool b)], true), [], [], []) := by kernel_rfl
end
def lowR (vs : List ViewV) : Ans := fun rest => match rest with
  | [] => some (lowA vs, [])
  | _ => none
theorem run35 (vs : List ViewV) (hn : vs.length < 1000000) : ∀ rest v0 O, lowR vs rest = some (v0, O) → RowRun Try.f56 code35 40 vs rest v0 O := fun rest v0 O h => by
  unfold lowR at h
  split at h
  case h_2 => cases h
  cases h
  refine ⟨.inl rfl, rfl, (fun r hr => by cases hr), by simp, fun f o c W ho hrow hfl => ?_⟩
  have hkk := kk_len hfl
  refine FRwp.seq (Q1 := fun e st => e = .normal ∧ ∃ g, st = stOf 40 g [(0, vS f 0 vs.length c), (2, pb 1 0)] [o, vB (zeroV 0)]) ?_ ?_ (fun x st hne hq => absurd hq.1 hne)
  · cases f with
    | true => exact FRwp.pieceY c35_ok follows 1 _ _ _ _ (r35a o vs.length c) Met.nil MetH.nil MetE.nil s35a rfl rfl (fix11 ho _) fun g => ⟨rfl, g, rfl⟩
    | false =>
      obtain ⟨rfl, rfl⟩ := hfl rfl
      exact FRwp.pieceY c35_ok follows 1 _ _ _ _ (n35a) Met.nil MetH.nil MetE.nil s35a rfl rfl (fix11 rfl _) fun g => ⟨rfl, g, rfl⟩
  rintro st ⟨-, g, rfl⟩
  refine FRwp.seq (Q1 := fun e st => e = .normal ∧ ∃ g, st = stOf 40 g [(0, vS f 0 vs.length c), (2, pb 1 0), (4, pb 2 0)] [o, vB (zeroV 0), vB (zeroV 0)]) (FRwp.pieceY c35_ok follows 1 _ _ _ _ (r35b f o vs.length c g) Met.nil MetH.nil MetE.nil s35b rfl rfl (fix11 ho _) fun g => ⟨rfl, g, rfl⟩) ?_ (fun x st hne hq => absurd hq.1 hne)
  rintro st ⟨-, g, rfl⟩
  refine FRwp.seq (Q1 := fun e st => e = .normal ∧ ∃ g, st = stOf 40 g [(0, vS f 0 vs.length c), (2, pb 1 0), (4, pb 2 0), (5, .bool false)] [o, vB (zeroV 0), vB (zeroV 0)]) (FRwp.pieceY c35_ok follows 1 _ _ _ _ (r35c f o vs.length c g) Met.nil MetH.nil MetE.nil s35c rfl rfl (fix11 ho _) fun g => ⟨rfl, g, rfl⟩) ?_ (fun x st hne hq => absurd hq.1 hne)
  rintro st ⟨-, g, rfl⟩
  refine FRwp.seq (Q1 := fun x st => x = .normal ∧ ∃ g, st = stOf 40 g [(2, pb 0 0), (4, pb 1 0), (5, .bool (lowV vs).2)] [vB (zeroV 0), vB (lowV vs).1]) ?_ ?_ (fun x st hne hq => absurd hq.1 hne)
  · refine FRwp.seq (Q1 := fun x st => x = .normal ∧ ∃ g, st = L35 f o vs.length c (zeroV 0) false 0 g) (FRwp.pieceY c35_ok follows 1 _ _ _ _ (r35d f o vs.length c g) Met.nil MetH.nil MetE.nil s35d rfl rfl (fix11 ho _) fun g => ⟨rfl, g, rfl⟩) ?_ (fun x st hne hq => absurd hq.1 hne)
    rintro st ⟨-, g, rfl⟩
    refine FRwp.block ?_
    refine FRwp.loop (fun k st => ∃ i y b g, i ≤ vs.length ∧ k = vs.length - i ∧ (vs.take i).foldl lowS (zeroV 0, false) = (y, b) ∧ st = L35 f o vs.length c y b i g) ?_ (k := vs.length) ⟨0, _, _, g, Nat.zero_le _, rfl, rfl, rfl⟩
    rintro k st ⟨i, y, b, g, hi, hk, hf, rfl⟩
    cases h12 : decide (i < vs.length) with
    | false =>
      have hii : i = vs.length := by have := of_decide_eq_false h12; omega
      subst hii
      rw [List.take_length] at hf
      refine FRwp.pieceY c35_ok follows 0 _ _ _ _ (r35x f o vs.length c vs.length y b g) (Met.cons (ltO_ok (by rw [hkk]; exact h12)) Met.nil) MetH.nil MetE.nil s35e rfl rfl (noFix _) fun g' => .inr ⟨by simp, ?_⟩
      show (if (0 : Nat) = 0 then _ else _)
      rw [if_pos rfl]
      refine ⟨rfl, g', ?_⟩
      unfold lowV
      rw [hf]
    | true =>
      have hlt := of_decide_eq_true h12
      have hft : f = true := by cases f with
        | true => rfl
        | false => rw [(hfl rfl).1] at hlt; simp at hlt
      subst hft
      obtain ⟨x, hx⟩ := some_at hlt
      have hr : ∃ ty ro, o = .cells ty (vrow vs) ro := by
        rcases hrow with h | h
        · rw [h] at hlt; simp at hlt
        · exact h
      have hst := fold_step (f := lowS) (a := (zeroV 0, false)) hx
      rw [hf] at hst
      have hat : RowAt (heapOf ([o, vB (zeroV 0), vB y] ++ [.dead]) hp0) 0 vs := rowAt0 hr
      have met : ∀ {l : List Obl}, Met l → Met (ltO i vs.length true :: ixO 0 vs.length c i :: ldO (heapOf ([o, vB (zeroV 0), vB y] ++ [.dead]) hp0).get 24 0 (i * 7 + 1) (hcA x) :: l) := fun hl => Met.cons (ltO_ok h12) (Met.cons (ix_ok hlt) (Met.cons (hload_ok hat hx) hl))
      have met2 : ∀ {l : List Obl}, Met l → Met (ixO 0 vs.length c i :: ldO (heapOf ([o, vB (zeroV 0), vB y] ++ [.dead]) hp0).get 24 0 (i * 7 + 1) (hcA x) :: l) := fun hl => Met.cons (ix_ok hlt) (Met.cons (hload_ok hat hx) hl)
      have met3 : ∀ {l : List Obl}, Met l → Met (ixO 0 vs.length c i :: ldO (heapOf ([o, vB (zeroV 0), vB y] ++ [.dead]) hp0).get 45 0 (i * 7) (.agg ⟨vc x⟩) :: l) := fun hl => Met.cons (ix_ok hlt) (Met.cons (at_ok hat hx) hl)
      have hnx : Met [nxt29 i] := Met.cons (wrap_up (by omega)) Met.nil
      have leb : ∀ {b : Bool}, ltV x y = b → (leV x y b).1 = some (leV x y b).2 := fun h => by show some (Value.bool (ltV x y)) = _; rw [h]; rfl
      have go : ∀ {y' : ViewV} {b' : Bool} {g' : Nat → Value}, lowS (y, b) x = (y', b') → ∃ k', k' < k ∧ ∃ j z d g, j ≤ vs.length ∧ k' = vs.length - j ∧ (vs.take j).foldl lowS (zeroV 0, false) = (z, d) ∧ L35 true o vs.length c y' b' (i + 1) g' = L35 true o vs.length c z d j g :=
        fun {y' b' g'} h => ⟨vs.length - (i + 1), by omega, i + 1, y', b', g', by omega, rfl, by rw [hst, h], rfl⟩
      cases h17 : toldV x with
      | false =>
        refine FRwp.pieceY c35_ok follows 1 _ _ _ _ (r35f o vs.length c i x y b g) (met (Met.cons (toV_ok h17) hnx)) MetH.nil MetE.nil s35e rfl rfl (fix11 ho _) fun g' => .inl ⟨rfl, go ?_⟩
        unfold lowS; rw [h17]; rfl
      | true =>
        cases b with
        | false =>
          refine FRwp.pieceY c35_ok follows 1 _ _ _ _ (r35g o vs.length c i x y g) (met (Met.cons (toV_ok h17) (met3 hnx))) MetH.nil MetE.nil s35e rfl rfl (fix11 ho _) fun g' => .inl ⟨rfl, go ?_⟩
          unfold lowS; rw [h17]; rfl
        | true =>
          cases h26 : ltV x y with
          | true =>
            refine FRwp.pieceY c35_ok follows 1 _ _ _ _ (r35h o vs.length c i x y g) (met (Met.cons (toV_ok h17) (met2 (Met.cons (leb h26) (met3 hnx))))) MetH.nil MetE.nil s35e rfl rfl (fix11 ho _) fun g' => .inl ⟨rfl, go ?_⟩
            unfold lowS; simp only [h17, h26]; rfl
          | false =>
            refine FRwp.pieceY c35_ok follows 1 _ _ _ _ (r35i o vs.length c i x y g) (met (Met.cons (toV_ok h17) (met2 (Met.cons (leb h26) hnx)))) MetH.nil MetE.nil s35e rfl rfl (fix11 ho _) fun g' => .inl ⟨rfl, go ?_⟩
            unfold lowS; simp only [h17, h26]; rfl
  · rintro st ⟨-, g, rfl⟩
    exact FRwp.pieceY c35_ok follows 0 _ _ _ _ (r35j (lowV vs).1 (lowV vs).2 g) Met.nil MetH.nil MetE.nil s35f rfl rfl (noFix _) fun g => ⟨.inr rfl, rfl, q35 _ _ g, (fun B h => by cases h)⟩
noncomputable def G35 : HeapFn := toldR lowR
theorem hkG35 : CallGoal Try.prog 56 G35 := toldR_goal Try.func56 body35 (by kernel_rfl) ntmps35 fun vs hn => run35 vs hn
end Go.Proofs.Ytgeoommlmddgpaa.LtA
namespace Go.Proofs.Ytgeoommlmddgpaa.LtA
open Go Go.Proofs Go.Proofs.Ytgeoommlmddgpaa.AI Go.RowKit Go.Proofs.Ytgeoommlmddgpaa.Sort
theorem app_any {get : Nat → Option Blk} {sz b b2 k : Nat} {ws : List ViewV} {x : ViewV} {f : Bool} (hf : f = !ws.isEmpty) (hb : get b = some (ownB ws)) (hb2 : get b2 = some (vB x)) (hk : k = ws.length) (hl : k < 2000000) :
    aAppend Try.prog get sz [22, 22] [vS f b k 22, rowS b2 1 22] = some (newS sz (k + 1), effF f b (rowB (ws ++ [x]))) := by
  cases ws with
  | cons w ws => subst hf; exact app_one hb hb2 hk hl
  | nil =>
    subst hf hk
    obtain ⟨i, hi, h7, h56⟩ := info34
    obtain ⟨z, hz, hzl⟩ := zero34
    have hb2' : get b2 = some (.cells 45 (vc x) false) := hb2
    have hsrc : aSrc Try.prog get 7 z (.slice 45) (rowS b2 1 22) = some (vc x, 1) := by
      unfold aSrc
      simp only [rowS, srcLen, srcCells, hb2']
      rw [if_neg (by omega), if_neg (by omega), getR_all (n := 1 * 7) rfl]
      rfl
    show aAppend Try.prog get sz [22, 22] [nilS, rowS b2 1 22] = some (newS sz 1, [.push (rowB [x])])
    unfold aAppend
    simp only [Try.underlying22, hi, hz, h7, h56, hzl]
    rw [if_neg (by decide)]
    simp only [hsrc]
    rw [if_neg (by simp [vc, isOne])]
    simp only [nilS]
    rw [if_neg (by omega), if_neg (by omega)]
    have e : vrow [x] = vc x := by unfold vrow; simp
    unfold rowB
    rw [e]; rfl
theorem app_anyI {get : Nat → Option Blk} {sz b b2 k : Nat} {ids : List Int} {x : Int} {f : Bool} (hf : f = !ids.isEmpty) (hb : get b = some (ownI ids)) (hb2 : get b2 = some (.cells 3 [icell x] false)) (hk : k = ids.length) (hl : k < 2000000) :
    aAppend Try.prog get sz [30, 30] [vI f b k, newI b2 1] = some (newI sz (k + 1), effF f b (iB (ids ++ [x]))) := by
  cases ids with
  | cons w ids => subst hf; exact app_int hb hb2 hk hl
  | nil =>
    subst hf hk
    obtain ⟨i, hi, h1, h8⟩ := info3
    obtain ⟨z, hz, hzl⟩ := zero3
    have hsrc : aSrc Try.prog get 1 z (.slice 3) (newI b2 1) = some ([icell x], 1) := by
      unfold aSrc newI
      simp only [srcLen, srcCells, hb2]
      rw [if_neg (by omega), if_neg (by omega), getR_all (n := 1 * 1) rfl]
      rfl
    show aAppend Try.prog get sz [30, 30] [nilS, newI b2 1] = some (newI sz 1, [.push (iB [x])])
    unfold aAppend
    simp only [underlying31, hi, hz, h1, h8, hzl]
    rw [if_neg (by decide)]
    simp only [hsrc]
    rw [if_neg (by simp [isOne, icell])]
    simp only [nilS]
    rw [if_neg (by omega), if_neg (by omega)]
    rfl
noncomputable def apV (h : Hp) (sz b k b2 : Nat) (f : Bool) (us : List ViewV) : OblE := (aAppend Try.prog h.get sz [22, 22] [vS f b k 22, rowS b2 1 22], (newS sz (k + 1), effF f b (rowB us)))
noncomputable def apI (h : Hp) (sz b k b2 : Nat) (f : Bool) (us : List Int) : OblE := (aAppend Try.prog h.get sz [30, 30] [vI f b k, newI b2 1], (newI sz (k + 1), effF f b (iB us)))
section
variable (f fu fm d fi : Bool) (o U M I : Blk) (n c u m i k q j : Nat) (x w : ViewV) (us ws zs ys : List ViewV) (ids jds : List Int) (g : Nat → Value)
end
end Go.Proofs.Ytgeoommlmddgpaa.LtA
namespace Go.Proofs.Ytgeoommlmddgpaa.LtA
open Go Go.Proofs Go.Proofs.Ytgeoommlmddgpaa.AI Go.RowKit Go.Proofs.Ytgeoommlmddgpaa.Sort
theorem isE_false {α : Type} {l : List α} (h : l ≠ []) : (!l.isEmpty) = true := by
  cases l with
  | nil => exact absurd rfl h
  | cons => rfl
theorem isE_app {α : Type} (l : List α) (x : α) : (!(l ++ [x]).isEmpty) = true := isE_false (by simp)
theorem ownB_ne {l : List ViewV} (h : l ≠ []) : ownB l = rowB l := by
  cases l with
  | nil => exact absurd rfl h
  | cons => rfl
theorem ownI_ne {l : List Int} (h : l ≠ []) : ownI l = iB l := by
  cases l with
  | nil => exact absurd rfl h
  | cons => rfl
theorem ne_app {α : Type} (l : List α) (x : α) : l ++ [x] ≠ [] := by simp
section
variable {o : Blk} {vs us : List ViewV} {c i : Nat} {x : ViewV}
end
end Go.Proofs.Ytgeoommlmddgpaa.LtA
namespace Go.Proofs.Ytgeoommlmddgpaa.LtA
open Go Go.Proofs Go.Proofs.Ytgeoommlmddgpaa.AI Go.RowKit Go.Proofs.Ytgeoommlmddgpaa.Sort
theorem fold_loop {N : Nat} {W : Base} {b : Code} {kb : Nat} {α β : Type} {vs : List β} (F : α → β → α) (a0 : α) (I : α → Nat → (Nat → Value) → St) (Q : α → St → Prop) (R : Exit → St → Prop)
    (hx : ∀ a g, vs.foldl F a0 = a → FRwp Try.prog N W b (I a vs.length g) (fun e st => e = .exit kb ∧ Q a st))
    (hs : ∀ i x a g, vs[i]? = some x → i < vs.length → (vs.take i).foldl F a0 = a → FRwp Try.prog N W b (I a i g) (fun e st => (e = .normal ∧ ∃ g', st = I (F a x) (i + 1) g') ∨ (e = .ret ∧ R e st)))
    (g : Nat → Value) : FRwp Try.prog N W (.block kb (.loop b)) (I a0 0 g) (fun e st => (e = .normal ∧ Q (vs.foldl F a0) st) ∨ (e = .ret ∧ R e st)) := by
  refine FRwp.block ?_
  refine FRwp.loop (fun k st => ∃ i a g, i ≤ vs.length ∧ k = vs.length - i ∧ (vs.take i).foldl F a0 = a ∧ st = I a i g) ?_ (k := vs.length) ⟨0, a0, g, Nat.zero_le _, rfl, rfl, rfl⟩
  rintro k st ⟨i, a, g, hi, hk, ha, rfl⟩
  rcases Nat.lt_or_ge i vs.length with hlt | hge
  · have hxx : vs[i]? = some vs[i] := List.getElem?_eq_getElem hlt
    refine FRwp.mono (hs i vs[i] a g hxx hlt ha) fun e st q => ?_
    rcases q with ⟨rfl, g', rfl⟩ | ⟨rfl, hr⟩
    · exact .inl ⟨rfl, vs.length - (i + 1), by omega, i + 1, _, g', by omega, rfl, by rw [fold_step hxx, ha], rfl⟩
    · exact .inr ⟨by simp, .inr ⟨rfl, hr⟩⟩
  · have hii : i = vs.length := by omega
    subst hii
    rw [List.take_length] at ha
    refine FRwp.mono (hx a g ha) fun e st q => .inr ?_
    obtain ⟨rfl, hq⟩ := q
    refine ⟨by simp, ?_⟩
    show (if kb = kb then _ else _)
    rw [if_pos rfl]
    exact .inl ⟨rfl, by rw [ha]; exact hq⟩
theorem fold_loop' {N : Nat} {W : Base} {b : Code} {kb : Nat} {α β : Type} {vs : List β} (F : α → β → α) (a0 : α) (I : α → Nat → (Nat → Value) → St) (Q : α → St → Prop)
    (hx : ∀ a g, vs.foldl F a0 = a → FRwp Try.prog N W b (I a vs.length g) (fun e st => e = .exit kb ∧ Q a st))
    (hs : ∀ i x a g, vs[i]? = some x → i < vs.length → (vs.take i).foldl F a0 = a → FRwp Try.prog N W b (I a i g) (fun e st => e = .normal ∧ ∃ g', st = I (F a x) (i + 1) g'))
    (g : Nat → Value) : FRwp Try.prog N W (.block kb (.loop b)) (I a0 0 g) (fun e st => e = .normal ∧ Q (vs.foldl F a0) st) :=
  FRwp.mono (fold_loop F a0 I Q (fun _ _ => False) hx (fun i x a g h1 h2 h3 => FRwp.mono (hs i x a g h1 h2 h3) fun e st q => .inl q) g) fun e st q => by
    rcases q with q | ⟨-, h⟩
    · exact q
    · exact h.elim
def unH : Value → Option ViewV
  | .agg cs => match cs.toList with
    | [.bool n, .int .i64 t, .int .i64 o, .int .i64 r, .int .i64 d, .int .i64 i] => some ⟨0, n, t, o, r, d, i⟩
    | _ => none
  | _ => none
theorem unH_some {v : Value} {y : ViewV} (h : unH v = some y) : v = hcA y := by
  unfold unH at h
  split at h
  · rename_i cs
    split at h
    · rename_i n t o r d i hcs
      cases h
      obtain rfl := arr_of hcs
      rfl
    · cases h
  · cases h
def filS (p : ViewV → Bool) (us : List ViewV) (x : ViewV) : List ViewV := bif p x then us ++ [x] else us
theorem fil_fold {p : ViewV → Bool} : ∀ {vs us : List ViewV}, vs.foldl (filS p) us = us ++ vs.filter p
  | [], us => by simp
  | v :: vs, us => by
    rw [List.foldl_cons, fil_fold]
    unfold filS
    cases h : p v with
    | true => rw [List.filter_cons_of_pos h]; simp
    | false => rw [List.filter_cons_of_neg (by rw [h]; simp)]; rfl
section
variable (f fu fi b : Bool) (o U I : Blk) (n c u i q : Nat) (x own : ViewV) (zs : List ViewV) (ids : List Int) (g : Nat → Value)
end
section
variable (f fu fi b : Bool) (o U I : Blk) (n c u i q : Nat) (x own : ViewV) (zs : List ViewV) (ids : List Int) (g : Nat → Value)
end
end Go.Proofs.Ytgeoommlmddgpaa.LtA
namespace Go.Proofs.Ytgeoommlmddgpaa.LtA
open Go Go.Proofs Go.Proofs.Ytgeoommlmddgpaa.AI Go.RowKit Go.Proofs.Ytgeoommlmddgpaa.Sort
section
variable (f fu : Bool) (o U : Blk) (n c u i : Nat) (lt lo lr keep : Int) (x : ViewV) (zs : List ViewV) (g : Nat → Value)
end
theorem map_fold {α β : Type} {m : α → β} : ∀ {vs : List α} {us : List β}, vs.foldl (fun us x => us ++ [m x]) us = us ++ vs.map m
  | [], us => by simp
  | v :: vs, us => by rw [List.foldl_cons, map_fold]; simp
end Go.Proofs.Ytgeoommlmddgpaa.LtA
namespace Go.Proofs.Ytgeoommlmddgpaa.LtA
open Go Go.Proofs Go.Proofs.Ytgeoommlmddgpaa.AI Go.RowKit Go.Proofs.Ytgeoommlmddgpaa.Sort
noncomputable def E23 : Ext := extH Try.prog []
theorem E23_ok : ExtOk Try.prog E23 := extH_ok (.nil)
noncomputable def c23 : CallF := aCall Try.prog E23 60
theorem c23_ok : CallOk Try.prog c23 := aCall_sound E23_ok follows 60
noncomputable def fb23 : Code := (Try.f14.body).getD .skip
noncomputable def p23 : Nat → Code
  | 0 => fb23
  | n + 1 => sR (p23 n)
noncomputable def c23a : Code := sL (p23 0)
noncomputable def c23b : Code := sL (p23 1)
noncomputable def c23c : Code := sL (sL (p23 2))
noncomputable def c23d : Code := unL (unB (sR (sL (p23 2))))
noncomputable def c23e : Code := p23 3
noncomputable abbrev code23 : Code := .seq c23a (.seq c23b (.seq (.seq c23c (.block 0 (.loop c23d))) c23e))
theorem body23 : Try.f14.body = some code23 := by kernel_rfl
theorem ntmps23 : Try.f14.ntmps = 26 := by kernel_rfl
theorem s23 : codeSafe Try.prog 26 code23 = true := by kernel_rfl
theorem s23a : codeSafe Try.prog 26 c23a = true := by kernel_rfl
theorem s23b : codeSafe Try.prog 26 c23b = true := by kernel_rfl
theorem s23c : codeSafe Try.prog 26 c23c = true := by kernel_rfl
theorem s23d : codeSafe Try.prog 26 c23d = true := by kernel_rfl
theorem s23e : codeSafe Try.prog 26 c23e = true := by kernel_rfl
theorem q23 (v : Value) (O : List Blk) (g : Nat → Value) : retVal Try.prog Try.f14 (stOf 26 g [(4, v)] O) = some v := by kernel_rfl
section
variable (A B : Blk) (n i : Nat) (z : Int) (g : Nat → Value)
theorem r23a : (execE Try.prog c23 [] [] [] 20 c23a ⟨tmsOf [newI 0 n, newI 1 n] 0 .leaf, heapOf [A, B, .dead] hp0, []⟩).map (fun z => (look2 2 [0, 1] [0, 1] (z.1, z.2.1), z.2.2)) =
    some ((.normal, [A, B], [(0, newI 0 n), (1, newI 1 n)], true), [], [], []) := by kernel_rfl
theorem r23b : (execE Try.prog c23 [(10, .bool false)] [] [] 20 c23b (stOf 26 g [(0, newI 0 n), (1, newI 1 n)] [A, B])).map (fun z => (look2 2 [0, 1] [0, 1] (z.1, z.2.1), z.2.2)) =
    some ((.normal, [A, B], [(0, newI 0 n), (1, newI 1 n)], true), [(some (.bool (Int.ofNat n != Int.ofNat n)), .bool false)], [], []) := by kernel_rfl
theorem r23c : (execE Try.prog c23 [] [] [] 20 c23c (stOf 26 g [(0, newI 0 n), (1, newI 1 n)] [A, B])).map (fun z => (look2 2 [0, 1] [0, 1, 5] (z.1, z.2.1), z.2.2)) =
    some ((.normal, [A, B], [(0, newI 0 n), (1, newI 1 n), (5, iN 0)], true), [], [], []) := by kernel_rfl
abbrev L23 (i : Nat) (g : Nat → Value) : St := (stOf 26 g [(0, newI 0 n), (1, newI 1 n), (5, iN i)] [A, B])
theorem r23x : (execE Try.prog c23 [(14, .bool false)] [] [] 20 c23d (L23 A B n i g)).map (fun z => (look2 0 [] [] (z.1, z.2.1), z.2.2)) =
    some ((.exit 0, [], [], true), [ltO i n false], [], []) := by kernel_rfl
theorem r23s : (execE Try.prog c23 [(14, .bool true), (19, pb 0 i), (20, .int .i64 z), (23, pb 1 i), (24, .int .i64 z), (25, .bool false), (16, iN (i + 1))] [] [] 20 c23d (L23 A B n i g)).map (fun z => (look2 2 [0, 1] [0, 1, 5] (z.1, z.2.1), z.2.2)) =
    some ((.normal, [A, B], [(0, newI 0 n), (1, newI 1 n), (5, iN (i + 1))], true), [ltO i n true, ixI 0 n i, ldO (h84 A B).get 3 0 i (.int .i64 z), ixI 1 n i, ldO (h84 A B).get 3 1 i (.int .i64 z), (some (.bool (z != z)), .bool false), nxt29 i], [], []) := by kernel_rfl
theorem r23e : (execE Try.prog c23 [] [] [] 20 c23e (stOf 26 g [] [])).map (fun z => (look2 0 [] [4] (z.1, z.2.1), z.2.2)) =
    some ((.ret, [], [(4, .bool true)], true), [], [], []) := by kernel_rfl
theorem n23 : (execQ Try.prog c23 [] 40 code23 ⟨tmsOf [nilS, nilS] 0 .leaf, heapOf [.dead] hp0, []⟩).map (fun y => (look2 0 [] [4] (y.1, y.2.1), y.2.2)) = some ((.ret, [], [(4, .bool true)], true), []) := by kernel_rfl
end
def Ends23 (e : Exit) (st : St) : Prop := e = .ret ∧ ∃ g, st = stOf 26 g [(4, .bool true)] []
theorem fr23 (A B : Blk) (us : List Int) (hA : IsI A us) (hB : IsI B us) (hn : us.length < 1000000) (W : Base) :
    FRwp Try.prog 26 W code23 ⟨tmsOf [newI 0 us.length, newI 1 us.length] 0 .leaf, heapOf [A, B, .dead] hp0, []⟩ Ends23 := by
  have fx : ∀ r : List Blk, ∀ i, i < 2 → ∀ o', (A :: B :: r)[i]? = some o' → Fixed 0 o' := fixOO hA.inert hB.inert
  have gA : (h84 A B).get 0 = some A := by unfold h84; rw [heapOf0_get]; rfl
  have gB : (h84 A B).get 1 = some B := by unfold h84; rw [heapOf0_get]; rfl
  refine FRwp.seq (Q1 := fun e st => e = .normal ∧ ∃ g, st = stOf 26 g [(0, newI 0 us.length), (1, newI 1 us.length)] [A, B]) (FRwp.pieceY c23_ok follows 2 _ _ _ _ (r23a A B us.length) Met.nil MetH.nil MetE.nil s23a rfl rfl (fx []) fun g => ⟨rfl, g, rfl⟩) ?_ (fun x st hne hq => absurd hq.1 hne)
  rintro st ⟨-, g, rfl⟩
  refine FRwp.seq (Q1 := fun e st => e = .normal ∧ ∃ g, st = stOf 26 g [(0, newI 0 us.length), (1, newI 1 us.length)] [A, B]) (FRwp.pieceY c23_ok follows 2 _ _ _ _ (r23b A B us.length g) (Met.cons (bool_ok (by simp)) Met.nil) MetH.nil MetE.nil s23b rfl rfl (fx []) fun g => ⟨rfl, g, rfl⟩) ?_ (fun x st hne hq => absurd hq.1 hne)
  rintro st ⟨-, g, rfl⟩
  refine FRwp.seq (Q1 := fun e st => e = .normal ∧ ∃ g, st = stOf 26 g [] []) ?_ ?_ (fun x st hne hq => absurd hq.1 hne)
  · refine FRwp.seq (Q1 := fun e st => e = .normal ∧ ∃ g, st = L23 A B us.length 0 g) (FRwp.pieceY c23_ok follows 2 _ _ _ _ (r23c A B us.length g) Met.nil MetH.nil MetE.nil s23c rfl rfl (fx []) fun g => ⟨rfl, g, rfl⟩) ?_ (fun x st hne hq => absurd hq.1 hne)
    rintro st ⟨-, g, rfl⟩
    refine fold_loop' (vs := us) (fun _ _ => ()) () (fun _ i g => L23 A B us.length i g) (fun _ st => ∃ g, st = stOf 26 g [] []) (fun a g hf => ?_) (fun i x a g hx hlt hf => ?_) g
    · exact FRwp.pieceY c23_ok follows 0 _ _ _ _ (r23x A B us.length us.length g) (Met.cons (ltO_ok (by simp)) Met.nil) MetH.nil MetE.nil s23d rfl rfl (noFix _) fun g' => ⟨rfl, g', rfl⟩
    · exact FRwp.pieceY c23_ok follows 2 _ _ _ _ (r23s A B us.length i x g) (Met.cons (ltO_ok (decide_eq_true hlt)) (Met.cons (ixI_ok hlt) (Met.cons (ldA_ok hA gA hx) (Met.cons (ixI_ok hlt) (Met.cons (ldA_ok hB gB hx) (Met.cons (bool_ok (by simp)) (Met.cons (wrap_up (by omega)) Met.nil))))))) MetH.nil MetE.nil s23d rfl rfl (fx []) fun g' => ⟨rfl, g', rfl⟩
  · rintro st ⟨-, g, rfl⟩
    exact FRwp.pieceY c23_ok follows 0 _ _ _ _ (r23e g) Met.nil MetH.nil MetE.nil s23e rfl rfl (noFix _) fun g => ⟨rfl, g, rfl⟩
def SI (us : List Int) (s t : Value) (hp : Hp) : Prop :=
  (s = nilS ∧ t = nilS) ∨ ∃ b1 b2, s = newI b1 us.length ∧ t = newI b2 us.length ∧ b1 ≠ b2 ∧ hp.get b1 = some (iB us) ∧ hp.get b2 = some (iB us)
open Classical in
noncomputable def gSI : HeapFn := fun args hp => match args with
  | [s, t] => if ∃ us, us.length < 1000000 ∧ SI us s t hp then some (.bool true, heapOf ([] ++ [.dead]) hp) else none
  | _ => none
theorem hkSI : CallGoal Try.prog 14 gSI := scan_goal follows Try.func14 body23 (by kernel_rfl) fun args hp v hp' h hk => by
  unfold gSI at h
  rw [ntmps23]
  split at h
  case h_2 => cases h
  rename_i s t
  split at h
  case isFalse => cases h
  rename_i hT
  obtain ⟨us, hn, hT⟩ := hT
  cases h
  have fin : ∀ {e : Exit} {st : St}, Ends23 e st → (e = .normal ∨ e = .ret) ∧ st.df = [] ∧ ∃ v0, retVal Try.prog Try.f14 st = some v0 ∧ ok3 v0 = true ∧
      (∀ b ∈ ([] : List Nat), ∃ o, st.hp.get b = some o ∧ okBlk o = true ∧ rwB o = true) ∧ .bool true = sh3 [] hp.sz v0 ∧ [] = outOf [] hp.sz st.hp := by
    rintro e st ⟨rfl, g, rfl⟩
    exact ⟨.inr rfl, rfl, _, q23 _ _ g, rfl, (fun b hb => by cases hb), rfl, rfl⟩
  rcases hT with ⟨rfl, rfl⟩ | ⟨b1, b2, rfl, rfl, hne, h1, h2⟩
  · refine ⟨[], [], [], rfl, rfl, rfl, rfl, (fun b hb => by cases hb), rfl, (by simp), fun W => ?_⟩
    have e1 : [nilS, nilS].map (sh3 [] 0) = [nilS, nilS] := by simp [sh3, sh2, sh1, nilS]
    rw [e1]
    exact FRwp.piece c23_ok follows 0 _ _ _ _ n23 Met.nil s23 rfl rfl rfl (noFix _) fun g => fin ⟨rfl, g, rfl⟩
  · have hbe : Nat.beq b1 b2 = false := by
      cases e : Nat.beq b1 b2 with
      | false => rfl
      | true => exact absurd (Nat.eq_of_beq_eq_true e) hne
    refine ⟨[b1, b2], [], [], rfl, rfl, by simp [nodupB, hbe], rfl, fun b' hb' => ?_, rfl, (by simp), fun W => ?_⟩
    · have : b' = b1 ∨ b' = b2 := by simpa using hb'
      rcases this with rfl | rfl
      · exact ⟨_, h1, inert_start (iB_inert _)⟩
      · exact ⟨_, h2, inert_start (iB_inert _)⟩
    · have e1 : [newI b1 us.length, newI b2 us.length].map (sh3 [b1, b2] 0) = [newI 0 us.length, newI 1 us.length] := by simp [sh3, sh2, sh1, rho, idxOf, newI, hbe]
      have e2 : startHp [b1, b2] hp = heapOf [.cells 3 (us.map icell) true, .cells 3 (us.map icell) true, .dead] hp0 := start2 h1 h2 (iB_inert _) (iB_inert _)
      rw [e1, e2]
      exact FRwp.mono (fr23 (.cells 3 (us.map icell) true) (.cells 3 (us.map icell) true) us ⟨3, true, rfl⟩ ⟨3, true, rfl⟩ hn W) fun e st q => fin q
open Classical in
theorem gSI_of {us : List Int} {hp : Hp} {b1 b2 : Nat} (hne : b1 ≠ b2) (h1 : hp.get b1 = some (ownI us)) (h2 : hp.get b2 = some (ownI us)) (hn : us.length < 1000000) : gSI [rowIv us b1, rowIv us b2] hp = some (.bool true, heapOf [.dead] hp) := by
  have h : SI us (rowIv us b1) (rowIv us b2) hp := by
    cases us with
    | nil => exact .inl ⟨rfl, rfl⟩
    | cons i us => exact .inr ⟨b1, b2, rfl, rfl, hne, h1, h2⟩
  unfold gSI
  simp only
  rw [if_pos ⟨us, hn, h⟩]
  rfl
end Go.Proofs.Ytgeoommlmddgpaa.LtA
namespace Go.Proofs.Ytgeoommlmddgpaa.LtA
open Go Go.Proofs Go.Proofs.Ytgeoommlmddgpaa.AI Go.RowKit
def Grow (hp hp' : Hp) : Prop := ∀ b o, hp.get b = some o → hp'.get b = some o
theorem Grow.trans {a b c : Hp} (h1 : Grow a b) (h2 : Grow b c) : Grow a c := fun x o h => h2 x o (h1 x o h)
section
variable {hp : Hp}
end
theorem rowV_tn {us : List ViewV} {b : Nat} {hp : Hp} (hb : hp.get b = some (ownB us)) : TN us (rowV us b) hp := by
  cases us with
  | nil => exact .inl ⟨rfl, rfl⟩
  | cons u us => exact TN.new rfl hb
theorem SM_new {us : List ViewV} {s : Value} {b : Nat} {hp : Hp} (hb : hp.get b = some (ownB us)) (h : TN us s hp) (hne : ∀ b' n c, s = rowS b' n c → b' ≠ b) : SM us (rowV us b) s hp := by
  cases us with
  | nil =>
    rcases h with ⟨h, -⟩ | h
    · exact .inl ⟨rfl, h, rfl⟩
    · exact .inr (.inr (.inl ⟨rfl, h, rfl⟩))
  | cons u us =>
    rcases h with ⟨-, h⟩ | ⟨b', c', o', h1, h2, h3, h4⟩
    · cases h
    · exact .inr (.inr (.inr ⟨b, 22, rowB (u :: us), b', c', o', rfl, h1, fun e => hne b' _ _ h1 e.symm, hb, h2, row_block _, h3, .inr ⟨45, false, rfl⟩, h4⟩))
theorem SM.symm {us : List ViewV} {s t : Value} {hp : Hp} (h : SM us s t hp) : SM us t s hp := by
  rcases h with ⟨h1, h2, h3⟩ | ⟨h1, h2, h3⟩ | ⟨h1, h2, h3⟩ | ⟨b1, c1, o1, b2, c2, o2, h1, h2, h3, h4, h5, h6, h7, h8, h9⟩
  · exact .inl ⟨h2, h1, h3⟩
  · exact .inr (.inr (.inl ⟨h2, h1, h3⟩))
  · exact .inr (.inl ⟨h2, h1, h3⟩)
  · exact .inr (.inr (.inr ⟨b2, c2, o2, b1, c1, o1, h2, h1, fun e => h3 e.symm, h5, h4, h7, h6, h9, h8⟩))
end Go.Proofs.Ytgeoommlmddgpaa.LtA
namespace Go.Proofs.Ytgeoommlmddgpaa.LtL
open Go Go.Proofs Go.Proofs.Ytgeoommlmddgpaa.AI Go.RowKit Go.Proofs.Ytgeoommlmddgpaa.Sort Go.Proofs.Ytgeoommlmddgpaa.LtA
def rowB (us : List ViewV) : Blk := .cells 81 (vrow us) false
def vB (x : ViewV) : Blk := .cells 81 (vc x) false
theorem row_block (vs : List ViewV) : inertB (.cells 81 (vrow vs) false) = true := vrow_inert vs
theorem fix1 (us : List ViewV) : ∀ r : List Blk, ∀ i, i < 1 → ∀ o', (rowB us :: r)[i]? = some o' → Fixed 0 o' := fix11 (row_block us)
theorem size81 : tsize Try.prog 81 = some 7 := by kernel_rfl
theorem agg81 : tagg Try.prog 81 = some true := by kernel_rfl
theorem underlying80 : Try.prog.underlying 80 = some (.slice 81) := by kernel_rfl
theorem vidx_ok {b n i c : Nat} (h : i < n) : fstV ((aIndexAddr Try.prog 80 (rowS b n c) (iN i)).map fun v => (v, none)) = some (.pointer (some ⟨b, i * 7, none⟩)) := by
  have h1 : (0 : Int) ≤ Int.ofNat i ∧ Int.ofNat i < (n : Int) := ⟨Int.natCast_nonneg i, by simpa using h⟩
  simp only [aIndexAddr, rowS, iN, underlying80, size81]
  rw [if_pos h1]
  simp [fstV]
theorem vload_ok {hp : Hp} {b : Nat} {vs : List ViewV} {i : Nat} {p : ViewV} (ho : RowAt hp b vs) (h : vs[i]? = some p) : aLoad Try.prog hp.get 81 (.pointer (some ⟨b, i * 7, none⟩)) = some (.agg ⟨vc p⟩) := by
  obtain ⟨ty, ro, rest, hg⟩ := ho
  simp only [aLoad, hg, agg81, size81]
  have := flat_getR (f := vc) (k := 7) (ps := vs) (fun _ _ => rfl) h
  unfold vrow
  rw [getR_app this]
  rfl
noncomputable def ixO (b n c : Nat) (i : Nat) : Obl := (fstV ((aIndexAddr Try.prog 80 (rowS b n c) (iN i)).map fun v => (v, none)), pb b (i * 7))
end Go.Proofs.Ytgeoommlmddgpaa.LtL
namespace Go.Proofs.Ytgeoommlmddgpaa.LtL
open Go Go.Proofs Go.Proofs.Ytgeoommlmddgpaa.AI Go.RowKit Go.Proofs.Ytgeoommlmddgpaa.Sort Go.Proofs.Ytgeoommlmddgpaa.LtA
def Fc : Value := .func (.func 78) #[] #[]
theorem of_Fc {m : BM} {h : HG} {v : Value} (r : VRel m h Fc v) : v = Fc := by
  unfold Fc at *
  cases r with
  | flat hf => rfl
  | func h1 h2 h3 h4 =>
    rename_i a' c'
    have e1 : a' = #[] := Array.eq_empty_of_size_eq_zero h1.symm
    have e2 : c' = #[] := Array.eq_empty_of_size_eq_zero h3.symm
    subst e1 e2
    rfl
def IsRow (us : List ViewV) (s : Value) (hp : Hp) : Prop := ∃ b c, s = rowS b us.length c ∧ hp.get b = some (rowB us)
theorem IsRow.uniq {us vs : List ViewV} {s : Value} {hp : Hp} (h1 : IsRow us s hp) (h2 : IsRow vs s hp) : us = vs := by
  obtain ⟨b, c, rfl, hb⟩ := h1
  obtain ⟨b', c', e, hb'⟩ := h2
  simp only [rowS, Value.slice.injEq, Option.some.injEq, Addr.mk.injEq, and_true] at e
  obtain ⟨rfl, -, -⟩ := e
  rw [hb] at hb'
  simp only [rowB, Option.some.injEq, Blk.cells.injEq, true_and, and_true] at hb'
  exact vrow_inj hb'
open Classical in
noncomputable def atW (k : List ViewV → HeapFn) : HeapFn := fun args hp => match args with
  | s :: _ => if h : ∃ us, IsRow us s hp ∧ us.length < 1000000 then k h.choose args hp else none
  | _ => none
theorem atW_goal {f : FuncId} {k : List ViewV → HeapFn} (h : ∀ us, us.length < 1000000 → CallGoal Try.prog f (k us)) : CallGoal Try.prog f (atW k) := by
  intro args hp v hp' he hk
  unfold atW at he
  split at he
  case h_2 => cases he
  split at he
  · rename_i hx
    exact h _ hx.choose_spec.2 _ _ _ _ he hk
  · cases he
theorem atW_of {k : List ViewV → HeapFn} {us : List ViewV} {s : Value} {r : List Value} {hp : Hp} (h : IsRow us s hp) (hn : us.length < 1000000) : atW k (s :: r) hp = k us (s :: r) hp := by
  unfold atW
  have hx : ∃ us, IsRow us s hp ∧ us.length < 1000000 := ⟨us, h, hn⟩
  simp only
  rw [dif_pos hx]
  rw [hx.choose_spec.1.uniq h]
def hW (us : List ViewV) : Hp := heapOf ([rowB us] ++ [.dead]) hp0
theorem hW_get (us : List ViewV) : (hW us).get 0 = some (rowB us) := by unfold hW; rw [heapOf0_get]; rfl
theorem hW_at (us : List ViewV) : RowAt (hW us) 0 us := .of (hW_get us)
noncomputable def stO (h : Hp) (i : Nat) (v : ViewV) (us' : List ViewV) : OblE := ((aStore Try.prog h.get 81 (pb 0 (i * 7)) (.agg ⟨vc v⟩)).map fun es => (undef, es), (undef, [.put 0 (rowB us')]))
theorem stO_ok {h : Hp} {us : List ViewV} {i : Nat} {v : ViewV} (hg : h.get 0 = some (rowB us)) (hi : i < us.length) : (stO h i v (us.set i v)).1 = some (stO h i v (us.set i v)).2 := by
  obtain ⟨x, hx⟩ : ∃ x, us[i]? = some x := ⟨_, List.getElem?_eq_getElem hi⟩
  have hcell : cellsL (.agg ⟨vc v⟩) = vc v := rfl
  have hput := put_row (k := 0) (y := v) (ns := vc v) hx (by simp [vc]) (fun j hj => by
    rw [if_pos ⟨Nat.zero_le _, by show j < 0 + 7; omega⟩, Nat.sub_zero])
  rw [Nat.add_zero] at hput
  unfold rowB at hg
  unfold stO pb
  simp only [aStore, hg, size81, hcell]
  rw [if_pos]
  · rw [hput]; rfl
  · rw [Bool.and_eq_true, Bool.and_eq_true]
    refine ⟨⟨rfl, rfl⟩, decide_eq_true ?_⟩
    rw [vrow_len]; omega
theorem put_get {h : Hp} {us : List ViewV} : (h.put 0 (rowB us)).get 0 = some (rowB us) := by rw [Hp.get_put, if_pos rfl]
theorem at_ok {h : Hp} {us : List ViewV} {i : Nat} {x : ViewV} (hat : RowAt h 0 us) (hx : us[i]? = some x) : (ldO h.get 81 0 (i * 7) (.agg ⟨vc x⟩)).1 = some (ldO h.get 81 0 (i * 7) (.agg ⟨vc x⟩)).2 := vload_ok hat hx
theorem ix_ok {i n c : Nat} (h : i < n) : (ixO 0 n c i).1 = some (ixO 0 n c i).2 := vidx_ok h
noncomputable def fb114 : Code := (Try.f102.body).getD .skip
noncomputable def c114a : Code := sL fb114
noncomputable def c114b : Code := unL (unB (sR fb114))
noncomputable abbrev code114 : Code := .seq c114a (.block 0 (.loop c114b))
theorem body114 : Try.f102.body = some code114 := by kernel_rfl
theorem ntmps114 : Try.f102.ntmps = 38 := by kernel_rfl
theorem s114a : codeSafe Try.prog 38 c114a = true := by kernel_rfl
theorem s114b : codeSafe Try.prog 38 c114b = true := by kernel_rfl
theorem q114 (O : List Blk) (g : Nat → Value) : retVal Try.prog Try.f102 (stOf 38 g [] O) = some vU := by kernel_rfl
section
variable (us us1 us2 : List ViewV) (n c a m k i : Nat) (x y : ViewV) (f : Value) (g : Nat → Value)
abbrev L114 (us : List ViewV) (i : Nat) (g : Nat → Value) : St := stOf 38 g [(0, rowS 0 n c), (1, iN a), (2, iN m), (3, iN k), (10, iN i)] [rowB us]
theorem r114a : (execE Try.prog c0 [] [] [] 10 c114a ⟨tmsOf [rowS 0 n c, iN a, iN m, iN k, f] 0 .leaf, heapOf [rowB us, .dead] hp0, []⟩).map (fun z => (look2 1 [0] [0, 1, 2, 3, 10] (z.1, z.2.1), z.2.2)) =
    some ((.normal, [rowB us], [(0, rowS 0 n c), (1, iN a), (2, iN m), (3, iN k), (10, iN 0)], true), [], [], []) := by kernel_rfl
theorem r114x : (execE Try.prog c0 [(13, .bool false)] [] [] 10 c114b (L114 n c a m k us i g)).map (fun z => (look2 1 [0] [] (z.1, z.2.1), z.2.2)) = some ((.exit 0, [rowB us], [], true), [ltO i k false], [], []) := by kernel_rfl
theorem r114b : (execE Try.prog c0 [(13, .bool true), (19, iN (a + i)), (23, iN (m + i)), (27, iN (m + i)), (28, pb 0 ((m + i) * 7)), (29, .agg ⟨vc y⟩), (33, iN (a + i)), (34, pb 0 ((a + i) * 7)), (35, .agg ⟨vc x⟩), (36, pb 0 ((a + i) * 7)), (37, pb 0 ((m + i) * 7)), (15, iN (i + 1))] []
      [(1036, undef, [.put 0 (rowB us1)]), (1037, undef, [.put 0 (rowB us2)])] 10 c114b (L114 n c a m k us i g)).map (fun z => (look2 1 [0] [0, 1, 2, 3, 10] (z.1, z.2.1), z.2.2)) =
    some ((.normal, [rowB us2], [(0, rowS 0 n c), (1, iN a), (2, iN m), (3, iN k), (10, iN (i + 1))], true),
      [ltO i k true, adO a i, adO m i, adO m i, ixO 0 n c (m + i), ldO (hW us).get 81 0 ((m + i) * 7) (.agg ⟨vc y⟩), adO a i, ixO 0 n c (a + i), ldO (hW us).get 81 0 ((a + i) * 7) (.agg ⟨vc x⟩), ixO 0 n c (a + i), ixO 0 n c (m + i), nxt29 i], [],
      [stO (hW us) (a + i) y us1, stO ((hW us).put 0 (rowB us1)) (m + i) x us2]) := by kernel_rfl
end
def EndsW (N : Nat) (us : List ViewV) (e : Exit) (st : St) : Prop := e = .normal ∧ ∃ g, st = stOf N g [] [rowB us]
theorem swap_fr {A X B Y C us : List ViewV} {n c a m k : Nat} {f : Value} (hus : us = A ++ X ++ B ++ Y ++ C) (hX : X.length = k) (hY : Y.length = k) (hA : A.length = a) (hm : m = a + k + B.length) (hn : n = us.length) (hl : n < 1000000) (W : Base) (x : Nat × Nat × Nat) :
    FRp Try.prog 38 W x code114 ⟨tmsOf [rowS 0 n c, iN a, iN m, iN k, f] 0 .leaf, heapOf [rowB us, .dead] hp0, []⟩ (EndsW 38 (A ++ Y ++ B ++ X ++ C)) := by
  refine FRp.seq (Q1 := fun e st => e = .normal ∧ ∃ g, st = L114 n c a m k us 0 g) (FRp.piece c0_ok follows 1 _ _ _ _ (r114a us n c a m k f) Met.nil MetH.nil MetE.nil s114a rfl rfl (fix1 us []) rfl fun g => ⟨rfl, g, rfl⟩) ?_ (fun x st hne hq => absurd hq.1 hne)
  rintro st ⟨-, g, rfl⟩
  refine FRp.block ?_
  refine FRp.loop (fun j st => ∃ X1 X2 Y1 Y2 g, X = X1 ++ X2 ∧ Y = Y1 ++ Y2 ∧ X1.length = Y1.length ∧ j = X2.length ∧ st = L114 n c a m k (A ++ Y1 ++ X2 ++ B ++ X1 ++ Y2 ++ C) X1.length g) ?_ (k := X.length)
    ⟨[], X, [], Y, g, rfl, rfl, rfl, rfl, by simp [hus]⟩
  rintro j st ⟨X1, X2, Y1, Y2, g, rfl, rfl, h1, rfl, rfl⟩
  rw [List.length_append] at hX hY
  cases h13 : decide (X1.length < k) with
  | false =>
    have hz : X2 = [] := List.eq_nil_of_length_eq_zero (by have := of_decide_eq_false h13; omega)
    have hz2 : Y2 = [] := List.eq_nil_of_length_eq_zero (by have := of_decide_eq_false h13; omega)
    subst hz hz2
    refine FRp.piece c0_ok follows 1 _ _ _ _ (r114x (A ++ Y1 ++ [] ++ B ++ X1 ++ [] ++ C) n c a m k X1.length g) (Met.cons (ltO_ok h13) Met.nil) MetH.nil MetE.nil s114b rfl rfl (fix1 _ []) rfl fun g' => .inr ⟨by simp, ?_⟩
    show (if (0 : Nat) = 0 then _ else _)
    rw [if_pos rfl]
    exact ⟨rfl, g', by simp⟩
  | true =>
    have hlt := of_decide_eq_true h13
    match X2, Y2 with
    | [], _ => simp at hX; omega
    | _ :: _, [] => simp at hY hX; omega
    | x' :: X2, y' :: Y2 =>
      have e1 : A ++ Y1 ++ x' :: X2 ++ B ++ X1 ++ y' :: Y2 ++ C = (A ++ Y1) ++ x' :: (X2 ++ B ++ X1 ++ y' :: Y2 ++ C) := by simp
      have e2 : (A ++ Y1) ++ y' :: (X2 ++ B ++ X1 ++ y' :: Y2 ++ C) = (A ++ Y1 ++ [y'] ++ X2 ++ B ++ X1) ++ y' :: (Y2 ++ C) := by simp
      have e3 : A ++ Y1 ++ x' :: X2 ++ B ++ X1 ++ y' :: Y2 ++ C = (A ++ Y1 ++ x' :: X2 ++ B ++ X1) ++ y' :: (Y2 ++ C) := by simp
      have p1 : (A ++ Y1).length = a + X1.length := by simp; omega
      simp only [List.length_cons] at hX hY
      have p2 : (A ++ Y1 ++ [y'] ++ X2 ++ B ++ X1).length = m + X1.length := by simp; omega
      have p3 : (A ++ Y1 ++ x' :: X2 ++ B ++ X1).length = m + X1.length := by simp; omega
      have hlen : (A ++ Y1 ++ x' :: X2 ++ B ++ X1 ++ y' :: Y2 ++ C).length = n := by rw [hn, hus]; simp; omega
      have hi1 : a + X1.length < n := by rw [← hlen]; simp; omega
      have hi2 : m + X1.length < n := by rw [← hlen]; simp; omega
      generalize hcur : A ++ Y1 ++ x' :: X2 ++ B ++ X1 ++ y' :: Y2 ++ C = cur at *
      have hx : cur[a + X1.length]? = some x' := by rw [e1]; exact get_mid p1
      have hy : cur[m + X1.length]? = some y' := by rw [e3]; exact get_mid p3
      have s1 : cur.set (a + X1.length) y' = (A ++ Y1) ++ y' :: (X2 ++ B ++ X1 ++ y' :: Y2 ++ C) := by rw [e1]; exact set_mid p1
      have s2 : (cur.set (a + X1.length) y').set (m + X1.length) x' = A ++ (Y1 ++ [y']) ++ X2 ++ B ++ (X1 ++ [x']) ++ Y2 ++ C := by
        rw [s1, e2, set_mid p2]; simp
      refine FRp.piece c0_ok follows 1 _ _ _ _ (r114b cur (cur.set (a + X1.length) y') ((cur.set (a + X1.length) y').set (m + X1.length) x') n c a m k X1.length x' y' g)
        (Met.cons (ltO_ok h13) (Met.cons (adO_ok (by omega)) (Met.cons (adO_ok (by omega)) (Met.cons (adO_ok (by omega)) (Met.cons (ix_ok hi2) (Met.cons (at_ok (hW_at _) hy) (Met.cons (adO_ok (by omega)) (Met.cons (ix_ok hi1) (Met.cons (at_ok (hW_at _) hx) (Met.cons (ix_ok hi1) (Met.cons (ix_ok hi2) (Met.cons (wrap_up (by omega)) Met.nil))))))))))))
        MetH.nil (MetE.cons (stO_ok (hW_get _) (by omega)) (MetE.cons (stO_ok put_get (by rw [List.length_set]; omega)) MetE.nil)) s114b rfl rfl (fix1 _ []) rfl fun g' => .inl ⟨rfl, X2.length, by simp, X1 ++ [x'], X2, Y1 ++ [y'], Y2, g', by simp, by simp, by simp; omega, rfl, ?_⟩
      rw [s2, List.length_append]
      rfl
open Classical in
noncomputable def g114 (us : List ViewV) : HeapFn := fun args hp => match args with
  | [.slice (some ⟨b, 0, none⟩) n c, .int .i64 (.ofNat a), .int .i64 (.ofNat m), .int .i64 (.ofNat k), f] =>
    if f = Fc ∧ IsRow us (.slice (some ⟨b, 0, none⟩) n c) hp ∧ a + k ≤ m ∧ m + k ≤ us.length then some (vU, hp.put b (rowB (swapR us a m k))) else none
  | _ => none
theorem rowargs {us : List ViewV} {b n c : Nat} {hp : Hp} (hk : hp.ok) (hb : hp.get b = some (rowB us)) {m : BM} {h : HG} {v : Value} (r : VRel m (ovr hp h) (rowS b n c) v) : ∃ x, m b = some x ∧ VRel (canM m [b]) (heapOf [rowB us, .dead] hp0).get (rowS 0 n c) v := by
  obtain ⟨_, _, rr, oo, cap, q1, rfl, hcap, hh⟩ := r.of_slice0
  cases q1
  have gb := ovr_sub hk h b _ hb
  rcases hh with hd | ⟨δ, E, hm, hoff, hcok⟩
  · rw [gb] at hd; cases hd
  · exact ⟨_, hm, .slice hcap (.inr ⟨δ, E, hm, hoff, hcok⟩)⟩
theorem Fc_rel {m m' : BM} {h h' : HG} {v : Value} (r : VRel m h Fc v) : VRel m' h' Fc v := by
  rw [of_Fc r]; exact VRel.plain rfl
theorem hk114 (us : List ViewV) (hn : us.length < 1000000) : CallGoal Try.prog 102 (g114 us) := put_goal follows Try.func102 body114 (by kernel_rfl) fun args hp v hp' he hk => by
  unfold g114 at he
  split at he
  case h_2 => cases he
  rename_i b n c a m k f
  split at he
  case isFalse => cases he
  rename_i hT
  cases he
  obtain ⟨rfl, ⟨b', c', e, hb⟩, h1, h2⟩ := hT
  simp only [rowS, Value.slice.injEq, Option.some.injEq, Addr.mk.injEq, and_true] at e
  obtain ⟨rfl, rfl, rfl⟩ := e
  refine ⟨b, 81, vrow us, vrow (swapR us a m k), rfl, hb, vrow_inert _, vrow_inert _, fun mm h w args' s ra => ?_⟩
  obtain ⟨v1, bs1, e1, r1, ra1⟩ := ra.of_cons
  obtain ⟨v2, bs2, e2, r2, ra2⟩ := ra1.of_cons
  obtain ⟨v3, bs3, e3, r3, ra3⟩ := ra2.of_cons
  obtain ⟨v4, bs4, e4, r4, ra4⟩ := ra3.of_cons
  obtain ⟨v5, bs5, e5, r5, ra5⟩ := ra4.of_cons
  have e6 := ra5.of_nil
  subst e6
  obtain ⟨x, hx, rx⟩ := rowargs hk hb (n := us.length) (c := c) r1
  refine ⟨x, hx, [rowS 0 us.length c, iN a, iN m, iN k, Fc], ?_, by rw [ntmps114]; simp, fun W x => ?_⟩
  · rw [e1, e2, e3, e4, e5]
    exact .cons rx (.cons (int_rel r2) (.cons (int_rel r3) (.cons (int_rel r4) (.cons (Fc_rel r5) .nil))))
  · rw [ntmps114]
    have hl1 : ((us.drop a).take k).length = k := by simp; omega
    have hl2 : ((us.drop m).take k).length = k := by simp; omega
    refine FRp.mono (swap_fr (f := Fc) (cut5 h1 h2) hl1 hl2 (by simp; omega) (by simp; omega) rfl hn W x) fun e st q => ?_
    obtain ⟨rfl, g, rfl⟩ := q
    exact ⟨.inl rfl, rfl, vU, q114 _ g, fun m h m' h' v r => vU_rel r, by show (heapOf _ hp0).get 0 = _; rw [heapOf0_get]; rfl⟩
noncomputable def G114 : HeapFn := atW g114
theorem hkG114 : CallGoal Try.prog 102 G114 := atW_goal fun us hn => hk114 us hn
open Classical in
theorem G114_of {A X B Y C us : List ViewV} {b n c a m k : Nat} {hp : Hp} (hus : us = A ++ X ++ B ++ Y ++ C) (hX : X.length = k) (hY : Y.length = k) (hA : A.length = a) (hm : m = a + k + B.length) (hn : n = us.length) (hl : n < 1000000) (hb : hp.get b = some (rowB us)) :
    G114 [rowS b n c, iN a, iN m, iN k, Fc] hp = some (vU, hp.put b (rowB (A ++ Y ++ B ++ X ++ C))) := by
  subst hn
  have hr : IsRow us (rowS b us.length c) hp := ⟨b, c, rfl, hb⟩
  unfold G114
  rw [atW_of hr hl]
  show (if Fc = Fc ∧ IsRow us (rowS b us.length c) hp ∧ a + k ≤ m ∧ m + k ≤ us.length then some (vU, hp.put b (rowB (swapR us a m k))) else none) = _
  rw [if_pos ⟨rfl, hr, by omega, by rw [hus]; simp; omega⟩, hus, swapR_of hX hY hA hm]
end Go.Proofs.Ytgeoommlmddgpaa.LtL
namespace Go.Proofs.Ytgeoommlmddgpaa.LtL
open Go Go.Proofs Go.Proofs.Ytgeoommlmddgpaa.AI Go.RowKit Go.Proofs.Ytgeoommlmddgpaa.Sort Go.Proofs.Ytgeoommlmddgpaa.LtA
theorem ints_rel {m m' : BM} {h h' : HG} : ∀ {is : List Nat} {l : List Value}, VRelL m h (is.map iN ++ [Fc]) l → VRelL m' h' (is.map iN ++ [Fc]) l
  | [], l, r => by
    obtain ⟨v, bs, rfl, r1, r2⟩ := VRelL.of_cons (show VRelL m h (Fc :: []) l from r)
    have := r2.of_nil
    subst this
    exact .cons (Fc_rel r1) .nil
  | i :: is, l, r => by
    obtain ⟨v, bs, rfl, r1, r2⟩ := VRelL.of_cons (show VRelL m h (iN i :: (is.map iN ++ [Fc])) l from r)
    exact .cons (int_rel r1) (ints_rel r2)
theorem put_case {fn : Func} {code : Code} {us us' : List ViewV} {b c : Nat} {is : List Nat} {hp : Hp} (hk : hp.ok) (hb : hp.get b = some (rowB us)) (hlen : is.length + 2 ≤ fn.ntmps)
    (run : ∀ W x, FRp Try.prog fn.ntmps W x code ⟨tmsOf (rowS 0 us.length c :: (is.map iN ++ [Fc])) 0 .leaf, heapOf [rowB us, .dead] hp0, []⟩ (fun e st => (e = .normal ∨ e = .ret) ∧ st.df = [] ∧ retVal Try.prog fn st = some vU ∧ st.hp.get 0 = some (rowB us'))) :
    ∃ (b' : Nat) (ty : TypeId) (L L' : List Value), hp.put b (rowB us') = hp.put b' (.cells ty L' false) ∧ hp.get b' = some (.cells ty L false) ∧ L.all inert = true ∧ L'.all inert = true ∧
      ∀ (m : BM) (h : HG) (w : World) (args' : Array Value), Sim m (ovr hp h) w → VRelL m (ovr hp h) (rowS b us.length c :: (is.map iN ++ [Fc])) args'.toList → ∃ x, m b' = some x ∧
        ∃ (args0 : List Value), VRelL (canM m [b']) (heapOf [.cells ty L false, .dead] hp0).get args0 args'.toList ∧ args0.length ≤ fn.ntmps ∧
        ∀ W x, FRp Try.prog fn.ntmps W x code ⟨tmsOf args0 0 .leaf, heapOf [.cells ty L false, .dead] hp0, []⟩ fun e st => (e = .normal ∨ e = .ret) ∧ st.df = [] ∧ ∃ v0, retVal Try.prog fn st = some v0 ∧
          (∀ m h m' h' x, VRel m h v0 x → VRel m' h' vU x) ∧ st.hp.get 0 = some (.cells ty L' false) := by
  refine ⟨b, 81, vrow us, vrow us', rfl, hb, vrow_inert _, vrow_inert _, fun mm h w args' s ra => ?_⟩
  obtain ⟨v1, bs1, e1, r1, ra1⟩ := ra.of_cons
  obtain ⟨x, hx, rx⟩ := rowargs hk hb (n := us.length) (c := c) r1
  refine ⟨x, hx, rowS 0 us.length c :: (is.map iN ++ [Fc]), ?_, by simp; omega, fun W x => FRp.mono (run W x) fun e st q => ?_⟩
  · rw [e1]
    exact .cons rx (ints_rel ra1)
  · exact ⟨q.1, q.2.1, vU, q.2.2.1, fun m h m' h' v r => vU_rel r, q.2.2.2⟩
noncomputable def E111 : Ext := extG (extH Try.prog []) [(102, G114)]
theorem E111_ok : ExtOk Try.prog E111 := extG_ok (extH_ok .nil) (.cons hkG114 .nil)
noncomputable def c111 : CallF := aCall Try.prog E111 5
theorem c111_ok : CallOk Try.prog c111 := aCall_sound E111_ok follows 5
theorem c111_114 (args : List Value) (hp : Hp) : c111 102 args hp = G114 args hp := by
  show aCall Try.prog E111 5 102 _ _ = _
  rw [aCall]; rfl
noncomputable def fb111 : Code := (Try.f100.body).getD .skip
noncomputable def c111a : Code := sL fb111
noncomputable def c111b : Code := sL (sR fb111)
noncomputable def c111c : Code := unL (unB (sL (sR (sR fb111))))
noncomputable def c111d : Code := sR (sR (sR fb111))
noncomputable abbrev code111 : Code := .seq c111a (.seq c111b (.seq (.block 0 (.loop c111c)) c111d))
theorem body111 : Try.f100.body = some code111 := by kernel_rfl
theorem ntmps111 : Try.f100.ntmps = 58 := by kernel_rfl
theorem s111a : codeSafe Try.prog 58 c111a = true := by kernel_rfl
theorem s111b : codeSafe Try.prog 58 c111b = true := by kernel_rfl
theorem s111c : codeSafe Try.prog 58 c111c = true := by kernel_rfl
theorem s111d : codeSafe Try.prog 58 c111d = true := by kernel_rfl
theorem q111 (O : List Blk) (g : Nat → Value) : retVal Try.prog Try.f100 (stOf 58 g [] O) = some vU := by kernel_rfl
section
variable (us us' : List ViewV) (n c a m b i j : Nat) (g : Nat → Value)
abbrev A111 (us : List ViewV) (g : Nat → Value) : St := stOf 58 g [(0, rowS 0 n c), (2, iN m), (3, iN b), (4, Fc), (10, iN (m - a))] [rowB us]
abbrev L111 (us : List ViewV) (i j : Nat) (g : Nat → Value) : St := stOf 58 g [(0, rowS 0 n c), (2, iN m), (4, Fc), (10, iN i), (11, iN j)] [rowB us]
theorem r111a : (execE Try.prog c111 [(14, iN (m - a))] [] [] 10 c111a ⟨tmsOf [rowS 0 n c, iN a, iN m, iN b, Fc] 0 .leaf, heapOf [rowB us, .dead] hp0, []⟩).map (fun z => (look2 1 [0] [0, 2, 3, 4, 10] (z.1, z.2.1), z.2.2)) =
    some ((.normal, [rowB us], [(0, rowS 0 n c), (2, iN m), (3, iN b), (4, Fc), (10, iN (m - a))], true), [suO m a], [], []) := by kernel_rfl
theorem r111b : (execE Try.prog c111 [(17, iN (b - m))] [] [] 10 c111b (A111 n c a m b us g)).map (fun z => (look2 1 [0] [0, 2, 4, 10, 11] (z.1, z.2.1), z.2.2)) =
    some ((.normal, [rowB us], [(0, rowS 0 n c), (2, iN m), (4, Fc), (10, iN (m - a)), (11, iN (b - m))], true), [suO b m], [], []) := by kernel_rfl
theorem r111x : (execE Try.prog c111 [(20, .bool false)] [] [] 10 c111c (L111 n c m us i j g)).map (fun z => (look2 1 [0] [0, 2, 4, 10, 11] (z.1, z.2.1), z.2.2)) =
    some ((.exit 0, [rowB us], [(0, rowS 0 n c), (2, iN m), (4, Fc), (10, iN i), (11, iN j)], true), [neO i j false], [], []) := by kernel_rfl
theorem r111c : (execE Try.prog c111 [(20, .bool true), (23, .bool true), (27, iN (m - i)), (34, iN (i - j))] [] [(31, vU, [.put 0 (rowB us')])] 10 c111c (L111 n c m us i j g)).map (fun z => (look2 1 [0] [0, 2, 4, 10, 11] (z.1, z.2.1), z.2.2)) =
    some ((.normal, [rowB us'], [(0, rowS 0 n c), (2, iN m), (4, Fc), (10, iN (i - j)), (11, iN j)], true), [neO i j true, gtO i j true, suO m i, suO i j], [(c111 102 [rowS 0 n c, iN (m - i), iN m, iN j, Fc] (hW us), (vU, (hW us).put 0 (rowB us')))], []) := by kernel_rfl
theorem r111d : (execE Try.prog c111 [(20, .bool true), (23, .bool false), (38, iN (m - i)), (41, iN (m + j)), (43, iN (m + j - i)), (49, iN (j - i))] [] [(46, vU, [.put 0 (rowB us')])] 10 c111c (L111 n c m us i j g)).map (fun z => (look2 1 [0] [0, 2, 4, 10, 11] (z.1, z.2.1), z.2.2)) =
    some ((.normal, [rowB us'], [(0, rowS 0 n c), (2, iN m), (4, Fc), (10, iN i), (11, iN (j - i))], true), [neO i j true, gtO i j false, suO m i, adO m j, suO (m + j) i, suO j i], [(c111 102 [rowS 0 n c, iN (m - i), iN (m + j - i), iN i, Fc] (hW us), (vU, (hW us).put 0 (rowB us')))], []) := by kernel_rfl
theorem r111e : (execE Try.prog c111 [(53, iN (m - i))] [] [(57, vU, [.put 0 (rowB us')])] 10 c111d (L111 n c m us i j g)).map (fun z => (look2 1 [0] [] (z.1, z.2.1), z.2.2)) =
    some ((.normal, [rowB us'], [], true), [suO m i], [(c111 102 [rowS 0 n c, iN (m - i), iN m, iN i, Fc] (hW us), (vU, (hW us).put 0 (rowB us')))], []) := by kernel_rfl
end
theorem rot_fr {A X Y C us : List ViewV} {n c a m b : Nat} (hus : us = A ++ X ++ Y ++ C) (hA : A.length = a) (hm : m = a + X.length) (hb : b = m + Y.length) (hX : 0 < X.length) (hY : 0 < Y.length) (hn : n = us.length) (hl : n < 1000000) (W : Base) (x : Nat × Nat × Nat) :
    FRp Try.prog 58 W x code111 ⟨tmsOf [rowS 0 n c, iN a, iN m, iN b, Fc] 0 .leaf, heapOf [rowB us, .dead] hp0, []⟩ (EndsW 58 (A ++ Y ++ X ++ C)) := by
  have hlen : us.length = a + X.length + Y.length + C.length := by rw [hus]; simp; omega
  refine FRp.seq (Q1 := fun e st => e = .normal ∧ ∃ g, st = A111 n c a m b us g) (FRp.piece c111_ok follows 1 _ _ _ _ (r111a us n c a m b) (Met.cons (suO_ok (by omega) (by omega)) Met.nil) MetH.nil MetE.nil s111a rfl rfl (fix1 us []) rfl fun g => ⟨rfl, g, rfl⟩) ?_ (fun x st hne hq => absurd hq.1 hne)
  rintro st ⟨-, g, rfl⟩
  refine FRp.seq (Q1 := fun e st => e = .normal ∧ ∃ g, st = L111 n c m us (m - a) (b - m) g) (FRp.piece c111_ok follows 1 _ _ _ _ (r111b us n c a m b g) (Met.cons (suO_ok (by omega) (by omega)) Met.nil) MetH.nil MetE.nil s111b rfl rfl (fix1 us []) rfl fun g => ⟨rfl, g, rfl⟩) ?_ (fun x st hne hq => absurd hq.1 hne)
  rintro st ⟨-, g, rfl⟩
  refine FRp.seq (Q1 := fun e st => e = .normal ∧ ∃ A' X' Y' C' g, A' ++ Y' ++ X' ++ C' = A ++ Y ++ X ++ C ∧ A'.length + X'.length = m ∧ X'.length = Y'.length ∧ st = L111 n c m (A' ++ X' ++ Y' ++ C') X'.length Y'.length g) ?_ ?_ (fun x st hne hq => absurd hq.1 hne)
  · refine FRp.block ?_
    refine FRp.loop (fun k st => ∃ A' X' Y' C' g, A' ++ Y' ++ X' ++ C' = A ++ Y ++ X ++ C ∧ A'.length + X'.length = m ∧ 0 < X'.length ∧ 0 < Y'.length ∧ k = X'.length + Y'.length ∧ st = L111 n c m (A' ++ X' ++ Y' ++ C') X'.length Y'.length g) ?_ (k := X.length + Y.length)
      ⟨A, X, Y, C, g, rfl, by omega, hX, hY, rfl, by rw [hus, show m - a = X.length by omega, show b - m = Y.length by omega]⟩
    rintro k st ⟨A', X', Y', C', g, hT, hAm, h1, h2, hk, rfl⟩
    have hln : (A' ++ X' ++ Y' ++ C').length = n := by
      have := congrArg List.length hT
      simp at this ⊢
      omega
    have hle : A'.length + X'.length + Y'.length + C'.length = n := by rw [← hln]; simp; omega
    cases h20 : (X'.length != Y'.length) with
    | false =>
      have heq : X'.length = Y'.length := by simpa using h20
      refine FRp.piece c111_ok follows 1 _ _ _ _ (r111x (A' ++ X' ++ Y' ++ C') n c m X'.length Y'.length g) (Met.cons (neO_ok h20) Met.nil) MetH.nil MetE.nil s111c rfl rfl (fix1 _ []) rfl fun g' => .inr ⟨by simp, ?_⟩
      show (if (0 : Nat) = 0 then _ else _)
      rw [if_pos rfl]
      exact ⟨rfl, A', X', Y', C', g', hT, hAm, heq, rfl⟩
    | true =>
      have hne : X'.length ≠ Y'.length := by simpa using h20
      cases h23 : decide (Y'.length < X'.length) with
      | true =>
        have hlt := of_decide_eq_true h23
        obtain ⟨X1, X2, rfl, hX1⟩ : ∃ X1 X2, X' = X1 ++ X2 ∧ X1.length = Y'.length := ⟨X'.take Y'.length, X'.drop Y'.length, (List.take_append_drop _ _).symm, by simp; omega⟩
        rw [List.length_append] at *
        have hcall : c111 102 [rowS 0 n c, iN (m - (X1.length + X2.length)), iN m, iN Y'.length, Fc] (hW (A' ++ (X1 ++ X2) ++ Y' ++ C')) = some (vU, (hW (A' ++ (X1 ++ X2) ++ Y' ++ C')).put 0 (rowB (A' ++ Y' ++ X2 ++ X1 ++ C'))) := by
          rw [c111_114]
          exact G114_of (A := A') (X := X1) (B := X2) (Y := Y') (C := C') (by simp) hX1 rfl (by omega) (by omega) (by simp; omega) hl (hW_get _)
        refine FRp.piece c111_ok follows 1 _ _ _ _ (r111c (A' ++ (X1 ++ X2) ++ Y' ++ C') (A' ++ Y' ++ X2 ++ X1 ++ C') n c m (X1.length + X2.length) Y'.length g) (Met.cons (neO_ok h20) (Met.cons (gtO_ok h23) (Met.cons (suO_ok (by omega) (by omega)) (Met.cons (suO_ok (by omega) (by omega)) Met.nil)))) (MetH.cons hcall MetH.nil) MetE.nil s111c rfl rfl (fix1 _ []) rfl
          fun g' => .inl ⟨rfl, X2.length + X1.length, by omega, A' ++ Y', X2, X1, C', g', ?_, ?_, by omega, by omega, rfl, ?_⟩
        · rw [← hT]; simp
        · simp; omega
        · rw [show X1.length + X2.length - Y'.length = X2.length by omega, hX1]
      | false =>
        have hlt := of_decide_eq_false h23
        obtain ⟨Y1, Y2, rfl, hY2⟩ : ∃ Y1 Y2, Y' = Y1 ++ Y2 ∧ Y2.length = X'.length := ⟨Y'.take (Y'.length - X'.length), Y'.drop (Y'.length - X'.length), (List.take_append_drop _ _).symm, by simp; omega⟩
        rw [List.length_append] at *
        have hcall : c111 102 [rowS 0 n c, iN (m - X'.length), iN (m + (Y1.length + Y2.length) - X'.length), iN X'.length, Fc] (hW (A' ++ X' ++ (Y1 ++ Y2) ++ C')) = some (vU, (hW (A' ++ X' ++ (Y1 ++ Y2) ++ C')).put 0 (rowB (A' ++ Y2 ++ Y1 ++ X' ++ C'))) := by
          rw [c111_114]
          exact G114_of (A := A') (X := X') (B := Y1) (Y := Y2) (C := C') (by simp) rfl hY2 (by omega) (by omega) (by simp; omega) hl (hW_get _)
        refine FRp.piece c111_ok follows 1 _ _ _ _ (r111d (A' ++ X' ++ (Y1 ++ Y2) ++ C') (A' ++ Y2 ++ Y1 ++ X' ++ C') n c m X'.length (Y1.length + Y2.length) g) (Met.cons (neO_ok h20) (Met.cons (gtO_ok h23) (Met.cons (suO_ok (by omega) (by omega)) (Met.cons (adO_ok (by omega)) (Met.cons (suO_ok (by omega) (by omega)) (Met.cons (suO_ok (by omega) (by omega)) Met.nil)))))) (MetH.cons hcall MetH.nil) MetE.nil s111c rfl rfl (fix1 _ []) rfl
          fun g' => .inl ⟨rfl, Y2.length + Y1.length, by omega, A', Y2, Y1, X' ++ C', g', ?_, by omega, by omega, by omega, rfl, ?_⟩
        · rw [← hT]; simp
        · rw [show Y1.length + Y2.length - X'.length = Y1.length by omega, ← hY2]; simp
  · rintro st ⟨-, A', X', Y', C', g, hT, hAm, heq, rfl⟩
    have hln : (A' ++ X' ++ Y' ++ C').length = n := by
      have := congrArg List.length hT
      simp at this ⊢
      omega
    have hle : A'.length + X'.length + Y'.length + C'.length = n := by rw [← hln]; simp; omega
    have hcall : c111 102 [rowS 0 n c, iN (m - X'.length), iN m, iN X'.length, Fc] (hW (A' ++ X' ++ Y' ++ C')) = some (vU, (hW (A' ++ X' ++ Y' ++ C')).put 0 (rowB (A' ++ Y' ++ X' ++ C'))) := by
      rw [c111_114]
      have := G114_of (A := A') (X := X') (B := []) (Y := Y') (C := C') (us := A' ++ X' ++ Y' ++ C') (b := 0) (n := n) (c := c) (a := m - X'.length) (m := m) (k := X'.length) (hp := hW (A' ++ X' ++ Y' ++ C')) (by simp) rfl heq.symm (by omega) (by simp; omega) (by rw [hln]) hl (hW_get _)
      rw [List.append_nil] at this
      exact this
    exact FRp.piece c111_ok follows 1 _ _ _ _ (r111e (A' ++ X' ++ Y' ++ C') (A' ++ Y' ++ X' ++ C') n c m X'.length Y'.length g) (Met.cons (suO_ok (by omega) (by omega)) Met.nil) (MetH.cons hcall MetH.nil) MetE.nil s111d rfl rfl (fix1 _ []) rfl fun g' => ⟨rfl, g', by rw [hT]⟩
open Classical in
noncomputable def g111 (us : List ViewV) : HeapFn := fun args hp => match args with
  | [.slice (some ⟨k, 0, none⟩) n c, .int .i64 (.ofNat a), .int .i64 (.ofNat m), .int .i64 (.ofNat b), f] =>
    if f = Fc ∧ IsRow us (.slice (some ⟨k, 0, none⟩) n c) hp ∧ a < m ∧ m < b ∧ b ≤ us.length then some (vU, hp.put k (rowB (rotR us a m b))) else none
  | _ => none
theorem hk111 (us : List ViewV) (hn : us.length < 1000000) : CallGoal Try.prog 100 (g111 us) := put_goal follows Try.func100 body111 (by kernel_rfl) fun args hp v hp' he hk => by
  unfold g111 at he
  split at he
  case h_2 => cases he
  rename_i k n c a m b f
  split at he
  case isFalse => cases he
  rename_i hT
  cases he
  obtain ⟨rfl, ⟨b', c', e, hb⟩, h1, h2, h3⟩ := hT
  simp only [rowS, Value.slice.injEq, Option.some.injEq, Addr.mk.injEq, and_true] at e
  obtain ⟨rfl, rfl, rfl⟩ := e
  refine put_case (is := [a, m, b]) hk hb (by rw [ntmps111]; simp) fun W x => ?_
  rw [ntmps111]
  refine FRp.mono (rot_fr (cut4 (us := us) (Nat.le_of_lt h1) (Nat.le_of_lt h2)) (by simp; omega) (by simp; omega) (by simp; omega) (by simp; omega) (by simp; omega) rfl hn W x) fun e st q => ?_
  obtain ⟨rfl, g, rfl⟩ := q
  exact ⟨.inl rfl, rfl, q111 _ g, by show (heapOf _ hp0).get 0 = _; rw [heapOf0_get]; rfl⟩
noncomputable def G111 : HeapFn := atW g111
theorem hkG111 : CallGoal Try.prog 100 G111 := atW_goal fun us hn => hk111 us hn
open Classical in
theorem G111_of {A X Y C us : List ViewV} {k n c a m b : Nat} {hp : Hp} (hus : us = A ++ X ++ Y ++ C) (hA : A.length = a) (hm : m = a + X.length) (hb' : b = m + Y.length) (hX : 0 < X.length) (hY : 0 < Y.length) (hn : n = us.length) (hl : n < 1000000) (hb : hp.get k = some (rowB us)) :
    G111 [rowS k n c, iN a, iN m, iN b, Fc] hp = some (vU, hp.put k (rowB (A ++ Y ++ X ++ C))) := by
  subst hn
  have hr : IsRow us (rowS k us.length c) hp := ⟨k, c, rfl, hb⟩
  unfold G111
  rw [atW_of hr hl]
  show (if Fc = Fc ∧ IsRow us (rowS k us.length c) hp ∧ a < m ∧ m < b ∧ b ≤ us.length then some (vU, hp.put k (rowB (rotR us a m b))) else none) = _
  rw [if_pos ⟨rfl, hr, by omega, by omega, by rw [hus]; simp; omega⟩]
  obtain ⟨e1, e2, e3, e4⟩ := cut4_of (C := C) hA hm hb'
  unfold rotR
  rw [hus, e1, e2, e3, e4]
end Go.Proofs.Ytgeoommlmddgpaa.LtL
namespace Go.Proofs.Ytgeoommlmddgpaa.LtL
open Go Go.Proofs Go.Proofs.Ytgeoommlmddgpaa.AI Go.RowKit Go.Proofs.Ytgeoommlmddgpaa.Sort Go.Proofs.Ytgeoommlmddgpaa.LtA
def tCmpV (aId : Int) (aHeightNull : Bool) (aHeightTau : Int) (aHeightOid : Int) (aHeightR : Int) (aHeightDelta : Int) (aHeightId : Int) (bId : Int) (bHeightNull : Bool) (bHeightTau : Int) (bHeightOid : Int) (bHeightR : Int) (bHeightDelta : Int) (bHeightId : Int) : Value := (bif (less (aHeightNull) (aHeightTau) (aHeightOid) (aHeightR) (aHeightDelta) (aHeightId) (bHeightNull) (bHeightTau) (bHeightOid) (bHeightR) (bHeightDelta) (bHeightId)) then (.int .i64 (-1)) else (bif (less (bHeightNull) (bHeightTau) (bHeightOid) (bHeightR) (bHeightDelta) (bHeightId) (aHeightNull) (aHeightTau) (aHeightOid) (aHeightR) (aHeightDelta) (aHeightId)) then (.int .i64 1) else (.int .i64 0)))
theorem tCmpV_run (aId : Int) (aHeightNull : Bool) (aHeightTau : Int) (aHeightOid : Int) (aHeightR : Int) (aHeightDelta : Int) (aHeightId : Int) (bId : Int) (bHeightNull : Bool) (bHeightTau : Int) (bHeightOid : Int) (bHeightR : Int) (bHeightDelta : Int) (bHeightId : Int) : ∃ hp, aCall Try.prog E4 61 78 [.agg #[.int .i64 aId, .bool aHeightNull, .int .i64 aHeightTau, .int .i64 aHeightOid, .int .i64 aHeightR, .int .i64 aHeightDelta, .int .i64 aHeightId], .agg #[.int .i64 bId, .bool bHeightNull, .int .i64 bHeightTau, .int .i64 bHeightOid, .int .i64 bHeightR, .int .i64 bHeightDelta, .int .i64 bHeightId]] hp0 = some (tCmpV aId aHeightNull aHeightTau aHeightOid aHeightR aHeightDelta aHeightId bId bHeightNull bHeightTau bHeightOid bHeightR bHeightDelta bHeightId, hp) := by
  cases h0 : (less (aHeightNull) (aHeightTau) (aHeightOid) (aHeightR) (aHeightDelta) (aHeightId) (bHeightNull) (bHeightTau) (bHeightOid) (bHeightR) (bHeightDelta) (bHeightId)) with
  | true =>
    have e : tCmpV aId aHeightNull aHeightTau aHeightOid aHeightR aHeightDelta aHeightId bId bHeightNull bHeightTau bHeightOid bHeightR bHeightDelta bHeightId = (.int .i64 (-1)) := by simp only [tCmpV, h0, cond_true, cond_false]
    rw [e]
    exact callQ_run [(10, .bool true)] (q := [(some (.bool (less (aHeightNull) (aHeightTau) (aHeightOid) (aHeightR) (aHeightDelta) (aHeightId) (bHeightNull) (bHeightTau) (bHeightOid) (bHeightR) (bHeightDelta) (bHeightId))), .bool true)]) (by kernel_rfl) (Met.cons (met_bool h0) (Met.nil))
  | false =>
    cases h1 : (less (bHeightNull) (bHeightTau) (bHeightOid) (bHeightR) (bHeightDelta) (bHeightId) (aHeightNull) (aHeightTau) (aHeightOid) (aHeightR) (aHeightDelta) (aHeightId)) with
    | true =>
      have e : tCmpV aId aHeightNull aHeightTau aHeightOid aHeightR aHeightDelta aHeightId bId bHeightNull bHeightTau bHeightOid bHeightR bHeightDelta bHeightId = (.int .i64 1) := by simp only [tCmpV, h0, h1, cond_true, cond_false]
      rw [e]
      exact callQ_run [(10, .bool false), (16, .bool true)] (q := [(some (.bool (less (aHeightNull) (aHeightTau) (aHeightOid) (aHeightR) (aHeightDelta) (aHeightId) (bHeightNull) (bHeightTau) (bHeightOid) (bHeightR) (bHeightDelta) (bHeightId))), .bool false), (some (.bool (less (bHeightNull) (bHeightTau) (bHeightOid) (bHeightR) (bHeightDelta) (bHeightId) (aHeightNull) (aHeightTau) (aHeightOid) (aHeightR) (aHeightDelta) (aHeightId))), .bool true)]) (by kernel_rfl) (Met.cons (met_bool h0) (Met.cons (met_bool h1) (Met.nil)))
    | false =>
      have e : tCmpV aId aHeightNull aHeightTau aHeightOid aHeightR aHeightDelta aHeightId bId bHeightNull bHeightTau bHeightOid bHeightR bHeightDelta bHeightId = (.int .i64 0) := by simp only [tCmpV, h0, h1, cond_true, cond_false]
      rw [e]
      exact callQ_run [(10, .bool false), (16, .bool false)] (q := [(some (.bool (less (aHeightNull) (aHeightTau) (aHeightOid) (aHeightR) (aHeightDelta) (aHeightId) (bHeightNull) (bHeightTau) (bHeightOid) (bHeightR) (bHeightDelta) (bHeightId))), .bool false), (some (.bool (less (bHeightNull) (bHeightTau) (bHeightOid) (bHeightR) (bHeightDelta) (bHeightId) (aHeightNull) (aHeightTau) (aHeightOid) (aHeightR) (aHeightDelta) (aHeightId))), .bool false)]) (by kernel_rfl) (Met.cons (met_bool h0) (Met.cons (met_bool h1) (Met.nil)))
theorem tCmpV_eq (u v : ViewV) : tCmpV u.id u.n u.t u.o u.r u.d u.i v.id v.n v.t v.o v.r v.d v.i = .int .i64 (cmpV u v) := by
  unfold tCmpV cmpV ltV
  cases less u.n u.t u.o u.r u.d u.i v.n v.t v.o v.r v.d v.i with
  | true => rfl
  | false => cases less v.n v.t v.o v.r v.d v.i u.n u.t u.o u.r u.d u.i <;> rfl
def g77 : List Value → Option Value
  | [.agg c0, .agg c1] => match c0.toList, c1.toList with
    | [.int .i64 a, .bool an, .int .i64 at', .int .i64 ao, .int .i64 ar, .int .i64 ad, .int .i64 ai], [.int .i64 b, .bool bn, .int .i64 bt, .int .i64 bo, .int .i64 br, .int .i64 bd, .int .i64 bi] => some (.int .i64 (cmpV ⟨a, an, at', ao, ar, ad, ai⟩ ⟨b, bn, bt, bo, br, bd, bi⟩))
    | _, _ => none
  | _ => none
theorem hk77 : HookGoal Try.prog 78 g77 := hook_of (ext := E4) E4_ok follows Try.func78 (by kernel_rfl) fun args v h => by
  unfold g77 at h
  split at h
  · rename_i c0 c1
    split at h
    · rename_i ec0 ec1
      cases h
      obtain rfl := arr_of ec0
      obtain rfl := arr_of ec1
      refine ⟨rfl, rfl, ?_⟩
      obtain ⟨hp, q⟩ := tCmpV_run _ _ _ _ _ _ _ _ _ _ _ _ _ _
      rw [tCmpV_eq ⟨_, _, _, _, _, _, _⟩ ⟨_, _, _, _, _, _, _⟩] at q
      exact ⟨_, hp, q⟩
    · cases h
  · cases h
noncomputable def E101 : Ext := extH Try.prog [(78, g77)]
noncomputable def c101 : CallF := aCall Try.prog E101 5
theorem c101_ok : CallOk Try.prog c101 := aCall_sound (by unfold E101; exact extH_ok (.cons hk77 .nil)) follows 5
noncomputable def fb101 : Code := (Try.f93.body).getD .skip
noncomputable def lb101 : Code := unL (unB (sR fb101))
noncomputable def c101a : Code := sL fb101
noncomputable def c101h : Code := sL lb101
noncomputable def c101c : Code := sL (unB (sL (sR lb101)))
noncomputable def c101d : Code := unL (unB (sR (unB (sL (sR lb101)))))
noncomputable def c101e : Code := sR (sR lb101)
noncomputable abbrev code101 : Code := .seq c101a (.block 0 (.loop (.seq c101h (.seq (.block 1 (.seq c101c (.block 2 (.loop c101d)))) c101e))))
theorem body101 : Try.f93.body = some code101 := by kernel_rfl
theorem ntmps101 : Try.f93.ntmps = 53 := by kernel_rfl
theorem s101a : codeSafe Try.prog 53 c101a = true := by kernel_rfl
theorem s101h : codeSafe Try.prog 53 c101h = true := by kernel_rfl
theorem s101c : codeSafe Try.prog 53 c101c = true := by kernel_rfl
theorem s101d : codeSafe Try.prog 53 c101d = true := by kernel_rfl
theorem s101e : codeSafe Try.prog 53 c101e = true := by kernel_rfl
theorem q101 (O : List Blk) (g : Nat → Value) : retVal Try.prog Try.f93 (stOf 53 g [] O) = some vU := by kernel_rfl
section
variable (us us1 us2 : List ViewV) (n c a b i j : Nat) (x y : ViewV) (g : Nat → Value)
abbrev A101 (us : List ViewV) (i : Nat) (g : Nat → Value) : St := stOf 53 g [(0, rowS 0 n c), (1, iN a), (2, iN b), (3, Fc), (8, iN i)] [rowB us]
abbrev L101 (us : List ViewV) (i j : Nat) (g : Nat → Value) : St := stOf 53 g [(0, rowS 0 n c), (1, iN a), (2, iN b), (3, Fc), (8, iN i), (9, iN j)] [rowB us]
theorem r101a : (execE Try.prog c101 [(11, iN (a + 1))] [] [] 10 c101a ⟨tmsOf [rowS 0 n c, iN a, iN b, Fc] 0 .leaf, heapOf [rowB us, .dead] hp0, []⟩).map (fun z => (look2 1 [0] [0, 1, 2, 3, 8] (z.1, z.2.1), z.2.2)) =
    some ((.normal, [rowB us], [(0, rowS 0 n c), (1, iN a), (2, iN b), (3, Fc), (8, iN (a + 1))], true), [nxt29 a], [], []) := by kernel_rfl
theorem r101x : (execE Try.prog c101 [(14, .bool false)] [] [] 10 c101h (A101 n c a b us i g)).map (fun z => (look2 1 [0] [] (z.1, z.2.1), z.2.2)) = some ((.exit 0, [rowB us], [], true), [ltO i b false], [], []) := by kernel_rfl
theorem r101h : (execE Try.prog c101 [(14, .bool true)] [] [] 10 c101h (A101 n c a b us i g)).map (fun z => (look2 1 [0] [0, 1, 2, 3, 8] (z.1, z.2.1), z.2.2)) =
    some ((.normal, [rowB us], [(0, rowS 0 n c), (1, iN a), (2, iN b), (3, Fc), (8, iN i)], true), [ltO i b true], [], []) := by kernel_rfl
theorem r101c : (execE Try.prog c101 [] [] [] 10 c101c (A101 n c a b us i g)).map (fun z => (look2 1 [0] [0, 1, 2, 3, 8, 9] (z.1, z.2.1), z.2.2)) =
    some ((.normal, [rowB us], [(0, rowS 0 n c), (1, iN a), (2, iN b), (3, Fc), (8, iN i), (9, iN i)], true), [], [], []) := by kernel_rfl
theorem r101e : (execE Try.prog c101 [(16, iN (i + 1))] [] [] 10 c101e (A101 n c a b us i g)).map (fun z => (look2 1 [0] [0, 1, 2, 3, 8] (z.1, z.2.1), z.2.2)) =
    some ((.normal, [rowB us], [(0, rowS 0 n c), (1, iN a), (2, iN b), (3, Fc), (8, iN (i + 1))], true), [nxt29 i], [], []) := by kernel_rfl
theorem r101y : (execE Try.prog c101 [(20, .bool false)] [] [] 20 c101d (L101 n c a b us i j g)).map (fun z => (look2 1 [0] [0, 1, 2, 3, 8] (z.1, z.2.1), z.2.2)) =
    some ((.exit 2, [rowB us], [(0, rowS 0 n c), (1, iN a), (2, iN b), (3, Fc), (8, iN i)], true), [gtO j a false], [], []) := by kernel_rfl
theorem r101z : (execE Try.prog c101 [(20, .bool true), (25, pb 0 ((j + 1) * 7)), (26, .agg ⟨vc y⟩), (29, iN j), (30, pb 0 (j * 7)), (31, .agg ⟨vc x⟩), (33, .bool false)] [] [] 20 c101d (L101 n c a b us i (j + 1) g)).map (fun z => (look2 1 [0] [0, 1, 2, 3, 8] (z.1, z.2.1), z.2.2)) =
    some ((.exit 2, [rowB us], [(0, rowS 0 n c), (1, iN a), (2, iN b), (3, Fc), (8, iN i)], true),
      [gtO (j + 1) a true, ixO 0 n c (j + 1), ldO (hW us).get 81 0 ((j + 1) * 7) (.agg ⟨vc y⟩), dnO j, ixO 0 n c j, ldO (hW us).get 81 0 (j * 7) (.agg ⟨vc x⟩), cpO y x false], [], []) := by kernel_rfl
theorem r101s : (execE Try.prog c101 [(20, .bool true), (25, pb 0 ((j + 1) * 7)), (26, .agg ⟨vc y⟩), (29, iN j), (30, pb 0 (j * 7)), (31, .agg ⟨vc x⟩), (33, .bool true),
      (41, iN j), (44, iN j), (45, pb 0 (j * 7)), (46, .agg ⟨vc x⟩), (49, pb 0 ((j + 1) * 7)), (50, .agg ⟨vc y⟩), (51, pb 0 ((j + 1) * 7)), (52, pb 0 (j * 7)), (36, iN j)] []
      [(1051, undef, [.put 0 (rowB us1)]), (1052, undef, [.put 0 (rowB us2)])] 20 c101d (L101 n c a b us i (j + 1) g)).map (fun z => (look2 1 [0] [0, 1, 2, 3, 8, 9] (z.1, z.2.1), z.2.2)) =
    some ((.normal, [rowB us2], [(0, rowS 0 n c), (1, iN a), (2, iN b), (3, Fc), (8, iN i), (9, iN j)], true),
      [gtO (j + 1) a true, ixO 0 n c (j + 1), ldO (hW us).get 81 0 ((j + 1) * 7) (.agg ⟨vc y⟩), dnO j, ixO 0 n c j, ldO (hW us).get 81 0 (j * 7) (.agg ⟨vc x⟩), cpO y x true,
       dnO j, dnO j, ixO 0 n c j, ldO (hW us).get 81 0 (j * 7) (.agg ⟨vc x⟩), ixO 0 n c (j + 1), ldO (hW us).get 81 0 ((j + 1) * 7) (.agg ⟨vc y⟩), ixO 0 n c (j + 1), ixO 0 n c j, dnO j], [],
      [stO (hW us) (j + 1) x us1, stO ((hW us).put 0 (rowB us1)) j y us2]) := by kernel_rfl
end
theorem insert_fr {A S R us : List ViewV} {z : ViewV} {n c a b i : Nat} (hus : us = A ++ S ++ z :: R) (hA : A.length = a) (hi : i = a + S.length) (hn : n = us.length) (hl : n < 1000000) (W : Base) (x : Nat × Nat × Nat) (g : Nat → Value) :
    FRp Try.prog 53 W x (.block 2 (.loop c101d)) (L101 n c a b us i i g) (fun e st => e = .normal ∧ ∃ g, st = A101 n c a b (A ++ insB ltV S z ++ R) i g) := by
  refine FRp.block ?_
  refine FRp.loop (fun k st => ∃ P Q g, S = P ++ Q ∧ (∀ q ∈ Q, ltV z q = true) ∧ k = P.length ∧ st = L101 n c a b (A ++ P ++ z :: (Q ++ R)) i (a + P.length) g) ?_ (k := S.length)
    ⟨S, [], g, by simp, (fun q hq => by cases hq), rfl, by rw [hus, hi]; simp⟩
  rintro k st ⟨P, Q, g, hS, hQ, rfl, rfl⟩
  have hlen : (A ++ P ++ z :: (Q ++ R)).length = n := by rw [hn, hus, hS]; simp; omega
  have hin : a + P.length < n := by rw [← hlen]; simp; omega
  have fin : ∀ {g'}, (∀ p, P.getLast? = some p → ltV z p = false) → ∃ g, A101 n c a b (A ++ P ++ z :: (Q ++ R)) i g' = A101 n c a b (A ++ insB ltV S z ++ R) i g := fun {g'} h => ⟨g', by rw [insB_of hS hQ h]; simp⟩
  cases h20 : decide (a < a + P.length) with
  | false =>
    have hP : P = [] := List.eq_nil_of_length_eq_zero (by have := of_decide_eq_false h20; omega)
    refine FRp.piece c101_ok follows 1 _ _ _ _ (r101y (A ++ P ++ z :: (Q ++ R)) n c a b i (a + P.length) g) (Met.cons (gtO_ok h20) Met.nil) MetH.nil MetE.nil s101d rfl rfl (fix1 _ []) rfl fun g' => .inr ⟨by simp, ?_⟩
    show (if (2 : Nat) = 2 then _ else _)
    rw [if_pos rfl]
    exact ⟨rfl, fin fun p hp => by rw [hP] at hp; cases hp⟩
  | true =>
    have hpos := of_decide_eq_true h20
    obtain ⟨P', p, rfl⟩ : ∃ P' p, P = P' ++ [p] := by
      rcases List.eq_nil_or_concat P with h | ⟨L, b, h⟩
      · rw [h] at hpos; simp at hpos
      · exact ⟨L, b, by simpa using h⟩
    have el : a + (P' ++ [p]).length = a + P'.length + 1 := by simp; omega
    rw [el] at h20 hin ⊢
    have ecur : A ++ (P' ++ [p]) ++ z :: (Q ++ R) = (A ++ P') ++ p :: z :: (Q ++ R) := by simp
    have ecur2 : A ++ (P' ++ [p]) ++ z :: (Q ++ R) = (A ++ P' ++ [p]) ++ z :: (Q ++ R) := by simp
    have l1 : (A ++ P').length = a + P'.length := by simp; omega
    have l2 : (A ++ P' ++ [p]).length = a + P'.length + 1 := by simp; omega
    generalize hcur : A ++ (P' ++ [p]) ++ z :: (Q ++ R) = cur at *
    have hz : cur[a + P'.length + 1]? = some z := by rw [ecur2]; exact get_mid l2
    have hp : cur[a + P'.length]? = some p := by rw [ecur]; exact get_mid l1
    have i1 : a + P'.length < n := by omega
    cases h33 : ltV z p with
    | false =>
      refine FRp.piece c101_ok follows 1 _ _ _ _ (r101z cur n c a b i (a + P'.length) p z g) (Met.cons (gtO_ok h20) (Met.cons (ix_ok hin) (Met.cons (at_ok (hW_at _) hz) (Met.cons (dnO_ok (by omega)) (Met.cons (ix_ok i1) (Met.cons (at_ok (hW_at _) hp) (Met.cons (cpO_ok h33) Met.nil))))))) MetH.nil MetE.nil s101d rfl rfl (fix1 _ []) rfl fun g' => .inr ⟨by simp, ?_⟩
      show (if (2 : Nat) = 2 then _ else _)
      rw [if_pos rfl]
      exact ⟨rfl, fin fun q hq => by simp at hq; subst hq; exact h33⟩
    | true =>
      have s1 : (cur.set (a + P'.length + 1) p).set (a + P'.length) z = A ++ P' ++ z :: (p :: Q ++ R) := by
        rw [ecur2, set_mid l2]
        have : A ++ P' ++ [p] ++ p :: (Q ++ R) = (A ++ P') ++ p :: (p :: (Q ++ R)) := by simp
        rw [this, set_mid l1]; simp
      refine FRp.piece c101_ok follows 1 _ _ _ _ (r101s cur (cur.set (a + P'.length + 1) p) ((cur.set (a + P'.length + 1) p).set (a + P'.length) z) n c a b i (a + P'.length) p z g)
        (Met.cons (gtO_ok h20) (Met.cons (ix_ok hin) (Met.cons (at_ok (hW_at _) hz) (Met.cons (dnO_ok (by omega)) (Met.cons (ix_ok i1) (Met.cons (at_ok (hW_at _) hp) (Met.cons (cpO_ok h33) (Met.cons (dnO_ok (by omega)) (Met.cons (dnO_ok (by omega)) (Met.cons (ix_ok i1) (Met.cons (at_ok (hW_at _) hp) (Met.cons (ix_ok hin) (Met.cons (at_ok (hW_at _) hz) (Met.cons (ix_ok hin) (Met.cons (ix_ok i1) (Met.cons (dnO_ok (by omega)) Met.nil)))))))))))))))) MetH.nil
        (MetE.cons (stO_ok (hW_get _) (by omega)) (MetE.cons (stO_ok put_get (by rw [List.length_set]; omega)) MetE.nil)) s101d rfl rfl (fix1 _ []) rfl fun g' => .inl ⟨rfl, P'.length, by simp, P', p :: Q, g', by rw [hS]; simp, (fun q hq => by
          rcases List.mem_cons.1 hq with rfl | hq
          · exact h33
          · exact hQ q hq), rfl, by rw [s1]⟩
theorem isort_fr {A T C us : List ViewV} {n c a b : Nat} (hus : us = A ++ T ++ C) (hA : A.length = a) (hb : b = a + T.length) (hn : n = us.length) (hl : n < 1000000) (W : Base) (x : Nat × Nat × Nat) :
    FRp Try.prog 53 W x code101 ⟨tmsOf [rowS 0 n c, iN a, iN b, Fc] 0 .leaf, heapOf [rowB us, .dead] hp0, []⟩ (EndsW 53 (A ++ ssort ltV T ++ C)) := by
  have hlen : us.length = a + T.length + C.length := by rw [hus]; simp; omega
  refine FRp.seq (Q1 := fun e st => e = .normal ∧ ∃ g, st = A101 n c a b us (a + 1) g) (FRp.piece c101_ok follows 1 _ _ _ _ (r101a us n c a b) (Met.cons (wrap_up (by omega)) Met.nil) MetH.nil MetE.nil s101a rfl rfl (fix1 us []) rfl fun g => ⟨rfl, g, rfl⟩) ?_ (fun x st hne hq => absurd hq.1 hne)
  rintro st ⟨-, g, rfl⟩
  refine FRp.block ?_
  refine FRp.loop (fun j st => ∃ k g, 1 ≤ k ∧ (k ≤ T.length ∨ T = []) ∧ j = T.length - k ∧ st = A101 n c a b (A ++ ssort ltV (T.take k) ++ (T.drop k ++ C)) (a + k) g) ?_ (k := T.length - 1) ⟨1, g, Nat.le_refl _, ?_, rfl, ?_⟩
  · rintro j st ⟨k, g, hk1, hk2, rfl, rfl⟩
    have hcl : (A ++ ssort ltV (T.take k) ++ (T.drop k ++ C)).length = n := by rw [hn, hus]; simp [len_ssort]; omega
    cases h14 : decide (a + k < b) with
    | false =>
      have hge := of_decide_eq_false h14
      refine FRp.seq (Q1 := fun e st => e = .exit 0 ∧ ∃ g, st = stOf 53 g [] [rowB (A ++ ssort ltV T ++ C)]) ?_ (fun st hq => by cases hq.1) ?_
      · have e1 : T.take k = T := List.take_of_length_le (by omega)
        have e2 : T.drop k = [] := List.drop_of_length_le (by omega)
        rw [e1, e2, List.nil_append]
        exact FRp.piece c101_ok follows 1 _ _ _ _ (r101x (A ++ ssort ltV T ++ C) n c a b (a + k) g) (Met.cons (ltO_ok h14) Met.nil) MetH.nil MetE.nil s101h rfl rfl (fix1 _ []) rfl fun g' => ⟨rfl, g', rfl⟩
      · rintro e st hne ⟨rfl, g', rfl⟩
        refine .inr ⟨by simp, ?_⟩
        show (if (0 : Nat) = 0 then _ else _)
        rw [if_pos rfl]
        exact ⟨rfl, g', rfl⟩
    | true =>
      have hlt := of_decide_eq_true h14
      obtain ⟨z, hz⟩ : ∃ z, T[k]? = some z := ⟨_, List.getElem?_eq_getElem (by omega)⟩
      have hd : T.drop k = z :: T.drop (k + 1) := List.drop_eq_getElem?_toList_append.trans (by rw [hz]; rfl)
      have ht : T.take (k + 1) = T.take k ++ [z] := by rw [List.take_add_one, hz]; rfl
      have hS : (ssort ltV (T.take k)).length = k := by rw [len_ssort, List.length_take]; omega
      have ecur : A ++ ssort ltV (T.take k) ++ (T.drop k ++ C) = A ++ ssort ltV (T.take k) ++ z :: (T.drop (k + 1) ++ C) := by rw [hd]; simp
      rw [ecur] at hcl ⊢
      refine FRp.seq (Q1 := fun e st => e = .normal ∧ ∃ g, st = A101 n c a b (A ++ ssort ltV (T.take k) ++ z :: (T.drop (k + 1) ++ C)) (a + k) g) (FRp.piece c101_ok follows 1 _ _ _ _ (r101h _ n c a b (a + k) g) (Met.cons (ltO_ok h14) Met.nil) MetH.nil MetE.nil s101h rfl rfl (fix1 _ []) rfl fun g' => ⟨rfl, g', rfl⟩) ?_ (fun x st hne hq => absurd hq.1 hne)
      rintro st ⟨-, g, rfl⟩
      refine FRp.seq (Q1 := fun e st => e = .normal ∧ ∃ g, st = A101 n c a b (A ++ insB ltV (ssort ltV (T.take k)) z ++ (T.drop (k + 1) ++ C)) (a + k) g) ?_ ?_ (fun x st hne hq => absurd hq.1 hne)
      · refine FRp.block ?_
        refine FRp.mono (Q := fun e st => e = .normal ∧ ∃ g, st = A101 n c a b (A ++ insB ltV (ssort ltV (T.take k)) z ++ (T.drop (k + 1) ++ C)) (a + k) g) ?_ (fun e st q => by obtain ⟨rfl, q⟩ := q; exact ⟨rfl, q⟩)
        refine FRp.seq (Q1 := fun e st => e = .normal ∧ ∃ g, st = L101 n c a b (A ++ ssort ltV (T.take k) ++ z :: (T.drop (k + 1) ++ C)) (a + k) (a + k) g) (FRp.piece c101_ok follows 1 _ _ _ _ (r101c _ n c a b (a + k) g) Met.nil MetH.nil MetE.nil s101c rfl rfl (fix1 _ []) rfl fun g' => ⟨rfl, g', rfl⟩) ?_ (fun x st hne hq => absurd hq.1 hne)
        rintro st ⟨-, g, rfl⟩
        exact insert_fr rfl hA (by omega) hcl.symm hl W x g
      · rintro st ⟨-, g, rfl⟩
        refine FRp.piece c101_ok follows 1 _ _ _ _ (r101e _ n c a b (a + k) g) (Met.cons (wrap_up (by omega)) Met.nil) MetH.nil MetE.nil s101e rfl rfl (fix1 _ []) rfl fun g' => .inl ⟨rfl, T.length - (k + 1), by omega, k + 1, g', by omega, .inl (by omega), rfl, ?_⟩
        rw [ht, ssort_snoc]
        rfl
  · cases T with
    | nil => exact .inr rfl
    | cons t T => exact .inl (by simp)
  · cases T with
    | nil => rw [hus]; rfl
    | cons t T =>
      have e : ssort ltV ((t :: T).take 1) = [t] := rfl
      rw [e, hus]
      simp
open Classical in
noncomputable def g101 (us : List ViewV) : HeapFn := fun args hp => match args with
  | [.slice (some ⟨k, 0, none⟩) n c, .int .i64 (.ofNat a), .int .i64 (.ofNat b), f] =>
    if f = Fc ∧ IsRow us (.slice (some ⟨k, 0, none⟩) n c) hp ∧ a ≤ b ∧ b ≤ us.length then some (vU, hp.put k (rowB (us.take a ++ ssort ltV ((us.drop a).take (b - a)) ++ us.drop b))) else none
  | _ => none
theorem hk101 (us : List ViewV) (hn : us.length < 1000000) : CallGoal Try.prog 93 (g101 us) := put_goal follows Try.func93 body101 (by kernel_rfl) fun args hp v hp' he hk => by
  unfold g101 at he
  split at he
  case h_2 => cases he
  rename_i k n c a b f
  split at he
  case isFalse => cases he
  rename_i hT
  cases he
  obtain ⟨rfl, ⟨b', c', e, hb⟩, h1, h2⟩ := hT
  simp only [rowS, Value.slice.injEq, Option.some.injEq, Addr.mk.injEq, and_true] at e
  obtain ⟨rfl, rfl, rfl⟩ := e
  refine put_case (is := [a, b]) hk hb (by rw [ntmps101]; simp) fun W x => ?_
  rw [ntmps101]
  refine FRp.mono (isort_fr (cut3 (us := us) h1) (by simp; omega) (by simp; omega) rfl hn W x) fun e st q => ?_
  obtain ⟨rfl, g, rfl⟩ := q
  exact ⟨.inl rfl, rfl, q101 _ g, by show (heapOf _ hp0).get 0 = _; rw [heapOf0_get]; rfl⟩
noncomputable def G101 : HeapFn := atW g101
theorem hkG101 : CallGoal Try.prog 93 G101 := atW_goal fun us hn => hk101 us hn
open Classical in
theorem G101_of {A X C us : List ViewV} {k n c a b : Nat} {hp : Hp} (hus : us = A ++ X ++ C) (hA : A.length = a) (hb' : b = a + X.length) (hn : n = us.length) (hl : n < 1000000) (hb : hp.get k = some (rowB us)) :
    G101 [rowS k n c, iN a, iN b, Fc] hp = some (vU, hp.put k (rowB (A ++ ssort ltV X ++ C))) := by
  subst hn
  have hr : IsRow us (rowS k us.length c) hp := ⟨k, c, rfl, hb⟩
  unfold G101
  rw [atW_of hr hl]
  show (if Fc = Fc ∧ IsRow us (rowS k us.length c) hp ∧ a ≤ b ∧ b ≤ us.length then some (vU, hp.put k (rowB (us.take a ++ ssort ltV ((us.drop a).take (b - a)) ++ us.drop b))) else none) = _
  rw [if_pos ⟨rfl, hr, by omega, by rw [hus]; simp; omega⟩]
  obtain ⟨e1, e2, e3⟩ := cut3_of (C := C) hA hb'
  rw [hus, e1, e2, e3]
end Go.Proofs.Ytgeoommlmddgpaa.LtL
namespace Go.Proofs.Ytgeoommlmddgpaa.LtL
open Go Go.Proofs Go.Proofs.Ytgeoommlmddgpaa.AI Go.RowKit Go.Proofs.Ytgeoommlmddgpaa.Sort Go.Proofs.Ytgeoommlmddgpaa.LtA
noncomputable def fb102 : Code := (Try.f94.body).getD .skip
noncomputable def p102 : Nat → Code
  | 0 => fb102
  | n + 1 => sR (p102 n)
noncomputable def c102a : Code := sL (sL fb102)
noncomputable def t102 : Code := cT (sR (sL fb102))
noncomputable def c102b : Code := sL t102
noncomputable def c102c : Code := sL (sR t102)
noncomputable def c102d : Code := unL (unB (sL (sR (sR t102))))
noncomputable def c102e : Code := sL (sL (sR (sR (sR t102))))
noncomputable def c102f : Code := unL (unB (sR (sL (sR (sR (sR t102))))))
noncomputable def c102g : Code := sL (sL (p102 1))
noncomputable def u102 : Code := cT (sR (sL (p102 1)))
noncomputable def c102h : Code := sL u102
noncomputable def c102i : Code := sL (sR u102)
noncomputable def c102j : Code := unL (unB (sL (sR (sR u102))))
noncomputable def c102k : Code := sL (sL (sR (sR (sR u102))))
noncomputable def c102l : Code := unL (unB (sR (sL (sR (sR (sR u102))))))
noncomputable def c102m : Code := sL (p102 2)
noncomputable def c102n : Code := sL (p102 3)
noncomputable def c102o : Code := sL (p102 4)
noncomputable def c102p : Code := sL (p102 5)
noncomputable def c102q : Code := sL (p102 6)
noncomputable def c102r : Code := unL (unB (sL (p102 7)))
noncomputable def c102s : Code := sL (p102 8)
noncomputable def c102t : Code := sL (p102 9)
noncomputable def c102u : Code := sL (p102 10)
noncomputable def c102v : Code := p102 11
noncomputable abbrev t1c102 : Code := .seq c102b (.seq c102c (.seq (.block 0 (.loop c102d)) (.seq (.seq c102e (.block 2 (.loop c102f))) .ret)))
noncomputable abbrev t2c102 : Code := .seq c102h (.seq c102i (.seq (.block 4 (.loop c102j)) (.seq (.seq c102k (.block 6 (.loop c102l))) .ret)))
noncomputable abbrev t3c102 : Code := .seq c102m (.seq c102n (.seq c102o (.seq c102p (.seq c102q (.seq (.block 8 (.loop c102r)) (.seq c102s (.seq c102t (.seq c102u c102v))))))))
noncomputable abbrev code102 : Code := .seq (.seq c102a (.cond (.tmp 28) t1c102 .skip)) (.seq (.seq c102g (.cond (.tmp 80) t2c102 .skip)) t3c102)
theorem body102 : Try.f94.body = some code102 := by kernel_rfl
theorem ntmps102 : Try.f94.ntmps = 220 := by kernel_rfl
theorem q102 (O : List Blk) (g : Nat → Value) : retVal Try.prog Try.f94 (stOf 220 g [] O) = some vU := by kernel_rfl
theorem s102a : codeSafe Try.prog 220 c102a = true := by kernel_rfl
theorem s102b : codeSafe Try.prog 220 c102b = true := by kernel_rfl
theorem s102c : codeSafe Try.prog 220 c102c = true := by kernel_rfl
theorem s102d : codeSafe Try.prog 220 c102d = true := by kernel_rfl
theorem s102e : codeSafe Try.prog 220 c102e = true := by kernel_rfl
theorem s102f : codeSafe Try.prog 220 c102f = true := by kernel_rfl
theorem s102g : codeSafe Try.prog 220 c102g = true := by kernel_rfl
theorem s102h : codeSafe Try.prog 220 c102h = true := by kernel_rfl
theorem s102i : codeSafe Try.prog 220 c102i = true := by kernel_rfl
theorem s102j : codeSafe Try.prog 220 c102j = true := by kernel_rfl
theorem s102k : codeSafe Try.prog 220 c102k = true := by kernel_rfl
theorem s102l : codeSafe Try.prog 220 c102l = true := by kernel_rfl
theorem s102m : codeSafe Try.prog 220 c102m = true := by kernel_rfl
theorem s102n : codeSafe Try.prog 220 c102n = true := by kernel_rfl
theorem s102o : codeSafe Try.prog 220 c102o = true := by kernel_rfl
theorem s102p : codeSafe Try.prog 220 c102p = true := by kernel_rfl
theorem s102q : codeSafe Try.prog 220 c102q = true := by kernel_rfl
theorem s102r : codeSafe Try.prog 220 c102r = true := by kernel_rfl
theorem s102s : codeSafe Try.prog 220 c102s = true := by kernel_rfl
theorem s102t : codeSafe Try.prog 220 c102t = true := by kernel_rfl
theorem s102u : codeSafe Try.prog 220 c102u = true := by kernel_rfl
theorem s102v : codeSafe Try.prog 220 c102v = true := by kernel_rfl
section
variable (call : CallF) (us us1 us2 us' : List ViewV) (n c a m b i j h k s r p e mid q : Nat) (x y u w : ViewV) (d : Bool) (g : Nat → Value)
abbrev A102 (us : List ViewV) (d : Bool) (g : Nat → Value) : St := stOf 220 g [(0, rowS 0 n c), (1, iN a), (2, iN m), (3, iN b), (4, Fc), (28, .bool d)] [rowB us]
theorem r102a : (execE Try.prog call [(27, iN (m - a)), (28, .bool d)] [] [] 10 c102a ⟨tmsOf [rowS 0 n c, iN a, iN m, iN b, Fc] 0 .leaf, heapOf [rowB us, .dead] hp0, []⟩).map (fun z => (look2 1 [0] [0, 1, 2, 3, 4, 28] (z.1, z.2.1), z.2.2)) =
    some ((.normal, [rowB us], [(0, rowS 0 n c), (1, iN a), (2, iN m), (3, iN b), (4, Fc), (28, .bool d)], true), [suO m a, eqO (m - a) 1 d], [], []) := by kernel_rfl
abbrev B102 (us : List ViewV) (g : Nat → Value) : St := stOf 220 g [(0, rowS 0 n c), (1, iN a), (3, iN b), (4, Fc), (10, iN m)] [rowB us]
abbrev C102 (us : List ViewV) (i j : Nat) (g : Nat → Value) : St := stOf 220 g [(0, rowS 0 n c), (1, iN a), (4, Fc), (10, iN i), (11, iN j)] [rowB us]
theorem r102b : (execE Try.prog call [] [] [] 10 c102b (A102 n c a m b us d g)).map (fun z => (look2 1 [0] [0, 1, 3, 4, 10] (z.1, z.2.1), z.2.2)) =
    some ((.normal, [rowB us], [(0, rowS 0 n c), (1, iN a), (3, iN b), (4, Fc), (10, iN m)], true), [], [], []) := by kernel_rfl
theorem r102c : (execE Try.prog call [] [] [] 10 c102c (B102 n c a m b us g)).map (fun z => (look2 1 [0] [0, 1, 4, 10, 11] (z.1, z.2.1), z.2.2)) =
    some ((.normal, [rowB us], [(0, rowS 0 n c), (1, iN a), (4, Fc), (10, iN m), (11, iN b)], true), [], [], []) := by kernel_rfl
theorem r102dx : (execE Try.prog c101 [(33, .bool false)] [] [] 10 c102d (C102 n c a us i j g)).map (fun z => (look2 1 [0] [0, 1, 10] (z.1, z.2.1), z.2.2)) =
    some ((.exit 0, [rowB us], [(0, rowS 0 n c), (1, iN a), (10, iN i)], true), [ltO i j false], [], []) := by kernel_rfl
noncomputable def d1o (b : Bool) (l : List Obl) : List Obl := ltO i j true :: hvO i j h (ixO 0 n c h :: ldO (hW us).get 81 0 (h * 7) (.agg ⟨vc u⟩) :: ixO 0 n c a :: ldO (hW us).get 81 0 (a * 7) (.agg ⟨vc x⟩) :: cpO u x b :: l)
end
section
variable (us us1 us2 us' : List ViewV) (n c a m b i j h k s r p e mid q : Nat) (x y u w : ViewV) (d : Bool) (g : Nat → Value)
theorem r102dt : (execE Try.prog c101 (d1c a i j h x u true ++ [(52, iN (h + 1))]) [] [] 20 c102d (C102 n c a us i j g)).map (fun z => (look2 1 [0] [0, 1, 4, 10, 11] (z.1, z.2.1), z.2.2)) =
    some ((.normal, [rowB us], [(0, rowS 0 n c), (1, iN a), (4, Fc), (10, iN (h + 1)), (11, iN j)], true), d1o us n c a i j h x u true [nxt29 h], [], []) := by kernel_rfl
theorem r102df : (execE Try.prog c101 (d1c a i j h x u false) [] [] 20 c102d (C102 n c a us i j g)).map (fun z => (look2 1 [0] [0, 1, 4, 10, 11] (z.1, z.2.1), z.2.2)) =
    some ((.normal, [rowB us], [(0, rowS 0 n c), (1, iN a), (4, Fc), (10, iN i), (11, iN h)], true), d1o us n c a i j h x u false [], [], []) := by kernel_rfl
abbrev D102 (us : List ViewV) (i : Nat) (g : Nat → Value) : St := stOf 220 g [(0, rowS 0 n c), (1, iN a), (10, iN i)] [rowB us]
abbrev F102 (us : List ViewV) (i k : Nat) (g : Nat → Value) : St := stOf 220 g [(0, rowS 0 n c), (10, iN i), (13, iN k)] [rowB us]
theorem r102e : (execE Try.prog c101 [] [] [] 10 c102e (D102 n c a us i g)).map (fun z => (look2 1 [0] [0, 10, 13] (z.1, z.2.1), z.2.2)) =
    some ((.normal, [rowB us], [(0, rowS 0 n c), (10, iN i), (13, iN a)], true), [], [], []) := by kernel_rfl
theorem r102fx : (execE Try.prog c101 [(57, iN (i - 1)), (58, .bool false)] [] [] 10 c102f (F102 n c us i k g)).map (fun z => (look2 1 [0] [] (z.1, z.2.1), z.2.2)) =
    some ((.exit 2, [rowB us], [], true), [suO i 1, ltO k (i - 1) false], [], []) := by kernel_rfl
theorem r102fs : (execE Try.prog c101 [(57, iN (i - 1)), (58, .bool true), (65, iN (k + 1)), (68, iN (k + 1)), (69, pb 0 ((k + 1) * 7)), (70, .agg ⟨vc y⟩), (73, pb 0 (k * 7)), (74, .agg ⟨vc x⟩), (75, pb 0 (k * 7)), (76, pb 0 ((k + 1) * 7)), (60, iN (k + 1))] []
      [(1075, undef, [.put 0 (rowB us1)]), (1076, undef, [.put 0 (rowB us2)])] 10 c102f (F102 n c us i k g)).map (fun z => (look2 1 [0] [0, 10, 13] (z.1, z.2.1), z.2.2)) =
    some ((.normal, [rowB us2], [(0, rowS 0 n c), (10, iN i), (13, iN (k + 1))], true),
      [suO i 1, ltO k (i - 1) true, nxt29 k, nxt29 k, ixO 0 n c (k + 1), ldO (hW us).get 81 0 ((k + 1) * 7) (.agg ⟨vc y⟩), ixO 0 n c k, ldO (hW us).get 81 0 (k * 7) (.agg ⟨vc x⟩), ixO 0 n c k, ixO 0 n c (k + 1), nxt29 k], [],
      [stO (hW us) k y us1, stO ((hW us).put 0 (rowB us1)) (k + 1) x us2]) := by kernel_rfl
abbrev A102' (us : List ViewV) (d : Bool) (g : Nat → Value) : St := stOf 220 g [(0, rowS 0 n c), (1, iN a), (2, iN m), (3, iN b), (4, Fc), (80, .bool d)] [rowB us]
theorem r102g : (execE Try.prog c101 [(79, iN (b - m)), (80, .bool d)] [] [] 10 c102g (A102 n c a m b us false g)).map (fun z => (look2 1 [0] [0, 1, 2, 3, 4, 80] (z.1, z.2.1), z.2.2)) =
    some ((.normal, [rowB us], [(0, rowS 0 n c), (1, iN a), (2, iN m), (3, iN b), (4, Fc), (80, .bool d)], true), [suO b m, eqO (b - m) 1 d], [], []) := by kernel_rfl
abbrev H102 (us : List ViewV) (g : Nat → Value) : St := stOf 220 g [(0, rowS 0 n c), (2, iN m), (4, Fc), (14, iN a)] [rowB us]
abbrev J102 (us : List ViewV) (i j : Nat) (g : Nat → Value) : St := stOf 220 g [(0, rowS 0 n c), (2, iN m), (4, Fc), (14, iN i), (15, iN j)] [rowB us]
theorem r102h : (execE Try.prog c101 [] [] [] 10 c102h (A102' n c a m b us d g)).map (fun z => (look2 1 [0] [0, 2, 4, 14] (z.1, z.2.1), z.2.2)) =
    some ((.normal, [rowB us], [(0, rowS 0 n c), (2, iN m), (4, Fc), (14, iN a)], true), [], [], []) := by kernel_rfl
theorem r102i : (execE Try.prog c101 [] [] [] 10 c102i (H102 n c a m us g)).map (fun z => (look2 1 [0] [0, 2, 4, 14, 15] (z.1, z.2.1), z.2.2)) =
    some ((.normal, [rowB us], [(0, rowS 0 n c), (2, iN m), (4, Fc), (14, iN a), (15, iN m)], true), [], [], []) := by kernel_rfl
theorem r102jx : (execE Try.prog c101 [(85, .bool false)] [] [] 10 c102j (J102 n c m us i j g)).map (fun z => (look2 1 [0] [0, 2, 14] (z.1, z.2.1), z.2.2)) =
    some ((.exit 4, [rowB us], [(0, rowS 0 n c), (2, iN m), (14, iN i)], true), [ltO i j false], [], []) := by kernel_rfl
noncomputable def j1o (b : Bool) (l : List Obl) : List Obl := ltO i j true :: hvO i j h (ixO 0 n c m :: ldO (hW us).get 81 0 (m * 7) (.agg ⟨vc y⟩) :: ixO 0 n c h :: ldO (hW us).get 81 0 (h * 7) (.agg ⟨vc u⟩) :: cpO y u b :: l)
theorem r102jf : (execE Try.prog c101 (j1c m i j h y u false ++ [(105, iN (h + 1))]) [] [] 20 c102j (J102 n c m us i j g)).map (fun z => (look2 1 [0] [0, 2, 4, 14, 15] (z.1, z.2.1), z.2.2)) =
    some ((.normal, [rowB us], [(0, rowS 0 n c), (2, iN m), (4, Fc), (14, iN (h + 1)), (15, iN j)], true), j1o us n c m i j h y u false [nxt29 h], [], []) := by kernel_rfl
theorem r102jt : (execE Try.prog c101 (j1c m i j h y u true) [] [] 20 c102j (J102 n c m us i j g)).map (fun z => (look2 1 [0] [0, 2, 4, 14, 15] (z.1, z.2.1), z.2.2)) =
    some ((.normal, [rowB us], [(0, rowS 0 n c), (2, iN m), (4, Fc), (14, iN i), (15, iN h)], true), j1o us n c m i j h y u true [], [], []) := by kernel_rfl
abbrev K102 (us : List ViewV) (i : Nat) (g : Nat → Value) : St := stOf 220 g [(0, rowS 0 n c), (2, iN m), (14, iN i)] [rowB us]
abbrev M102 (us : List ViewV) (i k : Nat) (g : Nat → Value) : St := stOf 220 g [(0, rowS 0 n c), (14, iN i), (17, iN k)] [rowB us]
theorem r102k : (execE Try.prog c101 [] [] [] 10 c102k (K102 n c m us i g)).map (fun z => (look2 1 [0] [0, 14, 17] (z.1, z.2.1), z.2.2)) =
    some ((.normal, [rowB us], [(0, rowS 0 n c), (14, iN i), (17, iN m)], true), [], [], []) := by kernel_rfl
theorem r102lx : (execE Try.prog c101 [(110, .bool false)] [] [] 10 c102l (M102 n c us i k g)).map (fun z => (look2 1 [0] [] (z.1, z.2.1), z.2.2)) =
    some ((.exit 6, [rowB us], [], true), [gtO k i false], [], []) := by kernel_rfl
theorem r102ls : (execE Try.prog c101 [(110, .bool true), (117, iN (k - 1)), (120, iN (k - 1)), (121, pb 0 ((k - 1) * 7)), (122, .agg ⟨vc x⟩), (125, pb 0 (k * 7)), (126, .agg ⟨vc y⟩), (127, pb 0 (k * 7)), (128, pb 0 ((k - 1) * 7)), (112, iN (k - 1))] []
      [(1127, undef, [.put 0 (rowB us1)]), (1128, undef, [.put 0 (rowB us2)])] 10 c102l (M102 n c us i k g)).map (fun z => (look2 1 [0] [0, 14, 17] (z.1, z.2.1), z.2.2)) =
    some ((.normal, [rowB us2], [(0, rowS 0 n c), (14, iN i), (17, iN (k - 1))], true),
      [gtO k i true, suO k 1, suO k 1, ixO 0 n c (k - 1), ldO (hW us).get 81 0 ((k - 1) * 7) (.agg ⟨vc x⟩), ixO 0 n c k, ldO (hW us).get 81 0 (k * 7) (.agg ⟨vc y⟩), ixO 0 n c k, ixO 0 n c (k - 1), suO k 1], [],
      [stO (hW us) k x us1, stO ((hW us).put 0 (rowB us1)) (k - 1) y us2]) := by kernel_rfl
abbrev N102 (us : List ViewV) (g : Nat → Value) : St := stOf 220 g [(0, rowS 0 n c), (1, iN a), (2, iN m), (3, iN b), (4, Fc), (18, iN mid)] [rowB us]
abbrev O102 (us : List ViewV) (g : Nat → Value) : St := stOf 220 g [(0, rowS 0 n c), (1, iN a), (2, iN m), (3, iN b), (4, Fc), (18, iN mid), (19, iN q)] [rowB us]
abbrev P102 (us : List ViewV) (s r : Nat) (g : Nat → Value) : St := stOf 220 g [(0, rowS 0 n c), (1, iN a), (2, iN m), (3, iN b), (4, Fc), (18, iN mid), (19, iN q), (20, iN s), (21, iN r)] [rowB us]
abbrev R102 (us : List ViewV) (s r : Nat) (g : Nat → Value) : St := stOf 220 g [(0, rowS 0 n c), (1, iN a), (2, iN m), (3, iN b), (4, Fc), (18, iN mid), (19, iN q), (20, iN s), (21, iN r), (22, iN p)] [rowB us]
theorem r102m : (execE Try.prog c101 [(131, iN (a + b)), (132, uN (a + b)), (133, uN mid), (134, iN mid)] [] [] 10 c102m (A102' n c a m b us false g)).map (fun z => (look2 1 [0] [0, 1, 2, 3, 4, 18] (z.1, z.2.1), z.2.2)) =
    some ((.normal, [rowB us], [(0, rowS 0 n c), (1, iN a), (2, iN m), (3, iN b), (4, Fc), (18, iN mid)], true), hvO a b mid [], [], []) := by kernel_rfl
theorem r102n : (execE Try.prog c101 [(137, iN (mid + m))] [] [] 10 c102n (N102 n c a m b mid us g)).map (fun z => (look2 1 [0] [0, 1, 2, 3, 4, 18, 19] (z.1, z.2.1), z.2.2)) =
    some ((.normal, [rowB us], [(0, rowS 0 n c), (1, iN a), (2, iN m), (3, iN b), (4, Fc), (18, iN mid), (19, iN (mid + m))], true), [adO mid m], [], []) := by kernel_rfl
theorem r102o : (execE Try.prog c101 [] [] [] 10 c102o (O102 n c a m b mid q us g)).map (fun z => (look2 1 [0] [0, 1, 2, 3, 4, 18, 19] (z.1, z.2.1), z.2.2)) =
    some ((.normal, [rowB us], [(0, rowS 0 n c), (1, iN a), (2, iN m), (3, iN b), (4, Fc), (18, iN mid), (19, iN q)], true), [], [], []) := by kernel_rfl
theorem r102pt : (execE Try.prog c101 [(140, .bool true), (143, iN (q - b))] [] [] 10 c102p (O102 n c a m b mid q us g)).map (fun z => (look2 1 [0] [0, 1, 2, 3, 4, 18, 19, 20, 21] (z.1, z.2.1), z.2.2)) =
    some ((.normal, [rowB us], [(0, rowS 0 n c), (1, iN a), (2, iN m), (3, iN b), (4, Fc), (18, iN mid), (19, iN q), (20, iN (q - b)), (21, iN mid)], true), [gtO m mid true, suO q b], [], []) := by kernel_rfl
theorem r102pf : (execE Try.prog c101 [(140, .bool false)] [] [] 10 c102p (O102 n c a m b mid q us g)).map (fun z => (look2 1 [0] [0, 1, 2, 3, 4, 18, 19, 20, 21] (z.1, z.2.1), z.2.2)) =
    some ((.normal, [rowB us], [(0, rowS 0 n c), (1, iN a), (2, iN m), (3, iN b), (4, Fc), (18, iN mid), (19, iN q), (20, iN a), (21, iN m)], true), [gtO m mid false], [], []) := by kernel_rfl
theorem r102q : (execE Try.prog c101 [(148, iN (q - 1))] [] [] 10 c102q (P102 n c a m b mid q us s r g)).map (fun z => (look2 1 [0] [0, 1, 2, 3, 4, 18, 19, 20, 21, 22] (z.1, z.2.1), z.2.2)) =
    some ((.normal, [rowB us], [(0, rowS 0 n c), (1, iN a), (2, iN m), (3, iN b), (4, Fc), (18, iN mid), (19, iN q), (20, iN s), (21, iN r), (22, iN (q - 1))], true), [suO q 1], [], []) := by kernel_rfl
theorem r102rx : (execE Try.prog c101 [(151, .bool false)] [] [] 10 c102r (R102 n c a m b p mid q us s r g)).map (fun z => (look2 1 [0] [0, 1, 2, 3, 4, 18, 19, 20] (z.1, z.2.1), z.2.2)) =
    some ((.exit 8, [rowB us], [(0, rowS 0 n c), (1, iN a), (2, iN m), (3, iN b), (4, Fc), (18, iN mid), (19, iN q), (20, iN s)], true), [ltO s r false], [], []) := by kernel_rfl
noncomputable def r1o (b : Bool) (l : List Obl) : List Obl := ltO s r true :: hvO s r h (suO p h :: ixO 0 n c (p - h) :: ldO (hW us).get 81 0 ((p - h) * 7) (.agg ⟨vc u⟩) :: ixO 0 n c h :: ldO (hW us).get 81 0 (h * 7) (.agg ⟨vc w⟩) :: cpO u w b :: l)
theorem r102rf : (execE Try.prog c101 (r1c h s r p u w false ++ [(173, iN (h + 1))]) [] [] 20 c102r (R102 n c a m b p mid q us s r g)).map (fun z => (look2 1 [0] [0, 1, 2, 3, 4, 18, 19, 20, 21, 22] (z.1, z.2.1), z.2.2)) =
    some ((.normal, [rowB us], [(0, rowS 0 n c), (1, iN a), (2, iN m), (3, iN b), (4, Fc), (18, iN mid), (19, iN q), (20, iN (h + 1)), (21, iN r), (22, iN p)], true), r1o us n c h s r p u w false [nxt29 h], [], []) := by kernel_rfl
theorem r102rt : (execE Try.prog c101 (r1c h s r p u w true) [] [] 20 c102r (R102 n c a m b p mid q us s r g)).map (fun z => (look2 1 [0] [0, 1, 2, 3, 4, 18, 19, 20, 21, 22] (z.1, z.2.1), z.2.2)) =
    some ((.normal, [rowB us], [(0, rowS 0 n c), (1, iN a), (2, iN m), (3, iN b), (4, Fc), (18, iN mid), (19, iN q), (20, iN s), (21, iN h), (22, iN p)], true), r1o us n c h s r p u w true [], [], []) := by kernel_rfl
abbrev S102 (us : List ViewV) (s : Nat) (g : Nat → Value) : St := stOf 220 g [(0, rowS 0 n c), (1, iN a), (2, iN m), (3, iN b), (4, Fc), (18, iN mid), (19, iN q), (20, iN s)] [rowB us]
abbrev T102 (us : List ViewV) (s e : Nat) (g : Nat → Value) : St := stOf 220 g [(0, rowS 0 n c), (1, iN a), (2, iN m), (3, iN b), (4, Fc), (18, iN mid), (20, iN s), (24, iN e)] [rowB us]
theorem r102s : (execE Try.prog c101 [(177, iN (q - s))] [] [] 10 c102s (S102 n c a m b mid q us s g)).map (fun z => (look2 1 [0] [0, 1, 2, 3, 4, 18, 20, 24] (z.1, z.2.1), z.2.2)) =
    some ((.normal, [rowB us], [(0, rowS 0 n c), (1, iN a), (2, iN m), (3, iN b), (4, Fc), (18, iN mid), (20, iN s), (24, iN (q - s))], true), [suO q s], [], []) := by kernel_rfl
end
section
variable (call : CallF) (us us' : List ViewV) (n c a m b s e mid : Nat) (g : Nat → Value)
theorem r102t1 : (execE Try.prog call [(180, .bool false)] [] [] 10 c102t (T102 n c a m b mid us s e g)).map (fun z => (look2 1 [0] [0, 1, 2, 3, 4, 18, 20, 24] (z.1, z.2.1), z.2.2)) =
    some ((.normal, [rowB us], [(0, rowS 0 n c), (1, iN a), (2, iN m), (3, iN b), (4, Fc), (18, iN mid), (20, iN s), (24, iN e)], true), [ltO s m false], [], []) := by kernel_rfl
theorem r102t2 : (execE Try.prog call [(180, .bool true), (184, .bool false)] [] [] 10 c102t (T102 n c a m b mid us s e g)).map (fun z => (look2 1 [0] [0, 1, 2, 3, 4, 18, 20, 24] (z.1, z.2.1), z.2.2)) =
    some ((.normal, [rowB us], [(0, rowS 0 n c), (1, iN a), (2, iN m), (3, iN b), (4, Fc), (18, iN mid), (20, iN s), (24, iN e)], true), [ltO s m true, ltO m e false], [], []) := by kernel_rfl
theorem r102t3 : (execE Try.prog call [(180, .bool true), (184, .bool true)] [] [(191, vU, [.put 0 (rowB us')])] 10 c102t (T102 n c a m b mid us s e g)).map (fun z => (look2 1 [0] [0, 1, 2, 3, 4, 18, 20, 24] (z.1, z.2.1), z.2.2)) =
    some ((.normal, [rowB us'], [(0, rowS 0 n c), (1, iN a), (2, iN m), (3, iN b), (4, Fc), (18, iN mid), (20, iN s), (24, iN e)], true), [ltO s m true, ltO m e true], [(call 100 [rowS 0 n c, iN s, iN m, iN e, Fc] (hW us), (vU, (hW us).put 0 (rowB us')))], []) := by kernel_rfl
theorem r102u1 : (execE Try.prog call [(194, .bool false)] [] [] 10 c102u (T102 n c a m b mid us s e g)).map (fun z => (look2 1 [0] [0, 1, 2, 3, 4, 18, 20, 24] (z.1, z.2.1), z.2.2)) =
    some ((.normal, [rowB us], [(0, rowS 0 n c), (1, iN a), (2, iN m), (3, iN b), (4, Fc), (18, iN mid), (20, iN s), (24, iN e)], true), [ltO a s false], [], []) := by kernel_rfl
theorem r102u2 : (execE Try.prog call [(194, .bool true), (198, .bool false)] [] [] 10 c102u (T102 n c a m b mid us s e g)).map (fun z => (look2 1 [0] [0, 1, 2, 3, 4, 18, 20, 24] (z.1, z.2.1), z.2.2)) =
    some ((.normal, [rowB us], [(0, rowS 0 n c), (1, iN a), (2, iN m), (3, iN b), (4, Fc), (18, iN mid), (20, iN s), (24, iN e)], true), [ltO a s true, ltO s mid false], [], []) := by kernel_rfl
theorem r102u3 : (execE Try.prog call [(194, .bool true), (198, .bool true)] [] [(205, vU, [.put 0 (rowB us')])] 10 c102u (T102 n c a m b mid us s e g)).map (fun z => (look2 1 [0] [0, 1, 2, 3, 4, 18, 20, 24] (z.1, z.2.1), z.2.2)) =
    some ((.normal, [rowB us'], [(0, rowS 0 n c), (1, iN a), (2, iN m), (3, iN b), (4, Fc), (18, iN mid), (20, iN s), (24, iN e)], true), [ltO a s true, ltO s mid true], [(call 94 [rowS 0 n c, iN a, iN s, iN mid, Fc] (hW us), (vU, (hW us).put 0 (rowB us')))], []) := by kernel_rfl
theorem r102v1 : (execE Try.prog call [(208, .bool false)] [] [] 10 c102v (T102 n c a m b mid us s e g)).map (fun z => (look2 1 [0] [] (z.1, z.2.1), z.2.2)) =
    some ((.normal, [rowB us], [], true), [ltO mid e false], [], []) := by kernel_rfl
theorem r102v2 : (execE Try.prog call [(208, .bool true), (212, .bool false)] [] [] 10 c102v (T102 n c a m b mid us s e g)).map (fun z => (look2 1 [0] [] (z.1, z.2.1), z.2.2)) =
    some ((.normal, [rowB us], [], true), [ltO mid e true, ltO e b false], [], []) := by kernel_rfl
theorem r102v3 : (execE Try.prog call [(208, .bool true), (212, .bool true)] [] [(219, vU, [.put 0 (rowB us')])] 10 c102v (T102 n c a m b mid us s e g)).map (fun z => (look2 1 [0] [] (z.1, z.2.1), z.2.2)) =
    some ((.normal, [rowB us'], [], true), [ltO mid e true, ltO e b true], [(call 94 [rowS 0 n c, iN mid, iN e, iN b, Fc] (hW us), (vU, (hW us).put 0 (rowB us')))], []) := by kernel_rfl
end
end Go.Proofs.Ytgeoommlmddgpaa.LtL
namespace Go.Proofs.Ytgeoommlmddgpaa.LtL
open Go Go.Proofs Go.Proofs.Ytgeoommlmddgpaa.AI Go.RowKit Go.Proofs.Ytgeoommlmddgpaa.Sort Go.Proofs.Ytgeoommlmddgpaa.LtA
section
variable {A X Y C us : List ViewV} {a m b : Nat}
end
def Ends4 (us : List ViewV) (e : Exit) (st : St) : Prop := (e = .normal ∨ e = .ret) ∧ ∃ g, st = stOf 220 g [] [rowB us]
def EndsR4 (us : List ViewV) (e : Exit) (st : St) : Prop := e = .ret ∧ ∃ g, st = stOf 220 g [] [rowB us]
theorem ret102 {us : List ViewV} {W : Base} {x : Nat × Nat × Nat} {g : Nat → Value} : FRp Try.prog 220 W x .ret (stOf 220 g [] [rowB us]) (EndsR4 us) := fun a w m f => wp_ret ⟨_, m, f, rfl, g, rfl⟩
theorem sleft_fr {A Y C us : List ViewV} {z : ViewV} {n c a m b : Nat} (hus : us = A ++ [z] ++ Y ++ C) (hA : A.length = a) (hm : m = a + 1) (hb : b = m + Y.length) (hn : n = us.length) (hl : n < 1000000) (hz : Kn z) (hK : ∀ u ∈ Y, Kn u) (hY : Srt ltV Y) (W : Base) (x : Nat × Nat × Nat) (g : Nat → Value) :
    FRp Try.prog 220 W x t1c102 (A102 n c a m b us true g) (EndsR4 (A ++ mrg ltV [z] Y ++ C)) := by
  have hlen : us.length = a + 1 + Y.length + C.length := by rw [hus]; simp; omega
  have hza : us[a]? = some z := by have := at_X (X := [z]) hus hA (i := 0) (by simp); simpa using this
  have hYi : ∀ {i : Nat}, i < Y.length → us[m + i]? = Y[i]? := fun h => at_Y (X := [z]) hus hA hm h
  refine FRp.seq (Q1 := fun e st => e = .normal ∧ ∃ g, st = B102 n c a m b us g) (FRp.piece c101_ok follows 1 _ _ _ _ (r102b c101 us n c a m b true g) Met.nil MetH.nil MetE.nil s102b rfl rfl (fix1 us []) rfl fun g => ⟨rfl, g, rfl⟩) ?_ (fun x st hne hq => absurd hq.1 hne)
  rintro st ⟨-, g, rfl⟩
  refine FRp.seq (Q1 := fun e st => e = .normal ∧ ∃ g, st = C102 n c a us m b g) (FRp.piece c101_ok follows 1 _ _ _ _ (r102c c101 us n c a m b g) Met.nil MetH.nil MetE.nil s102c rfl rfl (fix1 us []) rfl fun g => ⟨rfl, g, rfl⟩) ?_ (fun x st hne hq => absurd hq.1 hne)
  rintro st ⟨-, g, rfl⟩
  refine FRp.seq (Q1 := fun e st => e = .normal ∧ ∃ p g, p ≤ Y.length ∧ (∀ k u, k < p → Y[k]? = some u → ltV u z = true) ∧ (∀ k u, p ≤ k → Y[k]? = some u → ltV u z = false) ∧ st = D102 n c a us (m + p) g) ?_ ?_ (fun x st hne hq => absurd hq.1 hne)
  · refine FRp.block ?_
    refine FRp.loop (fun k st => ∃ p r g, p ≤ r ∧ r ≤ Y.length ∧ k = r - p ∧ (∀ k u, k < p → Y[k]? = some u → ltV u z = true) ∧ (∀ k u, r ≤ k → Y[k]? = some u → ltV u z = false) ∧ st = C102 n c a us (m + p) (m + r) g) ?_ (k := Y.length)
      ⟨0, Y.length, g, Nat.zero_le _, Nat.le_refl _, rfl, fun k u hk => absurd hk (Nat.not_lt_zero _), fun k u hk hu => (by rw [List.getElem?_eq_none hk] at hu; cases hu), by rw [hb]; rfl⟩
    rintro k st ⟨p, r, g, hpr, hr, rfl, hlo, hhi, rfl⟩
    cases h33 : decide (m + p < m + r) with
    | false =>
      have e : p = r := by have := of_decide_eq_false h33; omega
      subst e
      refine FRp.piece c101_ok follows 1 _ _ _ _ (r102dx us n c a (m + p) (m + p) g) (Met.cons (ltO_ok h33) Met.nil) MetH.nil MetE.nil s102d rfl rfl (fix1 us []) rfl fun g' => .inr ⟨by simp, ?_⟩
      show (if (0 : Nat) = 0 then _ else _)
      rw [if_pos rfl]
      exact ⟨rfl, p, g', hr, hlo, hhi, rfl⟩
    | true =>
      have hlt := of_decide_eq_true h33
      have eh : (m + p + (m + r)) / 2 = m + (p + r) / 2 := by omega
      have hq : (p + r) / 2 < Y.length := by omega
      obtain ⟨u, hu⟩ := some_at hq
      have hku := hK u (List.mem_of_getElem? hu)
      have hui : us[(m + p + (m + r)) / 2]? = some u := by rw [eh, hYi hq, hu]
      have met : ∀ {b : Bool} {l : List Obl}, ltV u z = b → Met l → Met (d1o us n c a (m + p) (m + r) ((m + p + (m + r)) / 2) z u b l) := fun hb hl =>
        Met.cons (ltO_ok h33) (hvO_ok (by omega) (Met.cons (ix_ok (by omega)) (Met.cons (at_ok (hW_at _) hui) (Met.cons (ix_ok (by omega)) (Met.cons (at_ok (hW_at _) hza) (Met.cons (cpO_ok hb) hl))))))
      cases h50 : ltV u z with
      | true =>
        refine FRp.piece c101_ok follows 1 _ _ _ _ (r102dt us n c a (m + p) (m + r) ((m + p + (m + r)) / 2) z u g) (met h50 (Met.cons (wrap_up (by omega)) Met.nil)) MetH.nil MetE.nil s102d rfl rfl (fix1 us []) rfl fun g' => .inl ⟨rfl, r - ((p + r) / 2 + 1), by omega, (p + r) / 2 + 1, r, g', by omega, hr, rfl, fun k v hk hv => ?_, hhi, by rw [eh]; rfl⟩
        cases e : ltV v z with
        | true => rfl
        | false =>
          have h1 := srt_get hY hK (show k ≤ (p + r) / 2 by omega) hv hu
          rw [sw.ntr u v z hku (hK v (List.mem_of_getElem? hv)) hz h1 e] at h50; cases h50
      | false =>
        refine FRp.piece c101_ok follows 1 _ _ _ _ (r102df us n c a (m + p) (m + r) ((m + p + (m + r)) / 2) z u g) (met h50 Met.nil) MetH.nil MetE.nil s102d rfl rfl (fix1 us []) rfl fun g' => .inl ⟨rfl, (p + r) / 2 - p, by omega, p, (p + r) / 2, g', by omega, by omega, rfl, hlo, fun k v hk hv => ?_, by rw [eh]⟩
        have h1 := srt_get hY hK hk hu hv
        exact sw.ntr v u z (hK v (List.mem_of_getElem? hv)) hku hz h1 h50
  · rintro st ⟨-, p, g, hp, hlo, hhi, rfl⟩
    obtain ⟨Y1, Y2, hYe, hY1⟩ : ∃ Y1 Y2, Y = Y1 ++ Y2 ∧ Y1.length = p := ⟨Y.take p, Y.drop p, (List.take_append_drop _ _).symm, by simp; omega⟩
    have k1 : ∀ u ∈ Y1, ltV u z = true := fun u hu => by
      obtain ⟨i, hi⟩ := List.mem_iff_getElem?.1 hu
      have hlt := (List.getElem?_eq_some_iff.1 hi).1
      exact hlo i u (by omega) (by rw [hYe, List.getElem?_append_left hlt, hi])
    have k2 : ∀ u ∈ Y2, ltV u z = false := fun u hu => by
      obtain ⟨i, hi⟩ := List.mem_iff_getElem?.1 hu
      exact hhi (p + i) u (by omega) (by rw [hYe, List.getElem?_append_right (by omega), show p + i - Y1.length = i by omega, hi])
    have hfin : A ++ mrg ltV [z] Y ++ C = A ++ Y1 ++ z :: (Y2 ++ C) := by
      rw [hYe, mrg_one_left k1 k2 (by rw [← hYe]; exact hY)]; simp
    refine FRp.seq (Q1 := fun e st => e = .normal ∧ ∃ g, st = stOf 220 g [] [rowB (A ++ Y1 ++ z :: (Y2 ++ C))]) ?_ ?_ (fun x st hne hq => absurd hq.1 hne)
    · refine FRp.seq (Q1 := fun e st => e = .normal ∧ ∃ g, st = F102 n c us (m + p) a g) (FRp.piece c101_ok follows 1 _ _ _ _ (r102e us n c a (m + p) g) Met.nil MetH.nil MetE.nil s102e rfl rfl (fix1 us []) rfl fun g => ⟨rfl, g, rfl⟩) ?_ (fun x st hne hq => absurd hq.1 hne)
      rintro st ⟨-, g, rfl⟩
      refine FRp.block ?_
      refine FRp.loop (fun k st => ∃ P Q g, Y1 = P ++ Q ∧ k = Q.length ∧ st = F102 n c (A ++ P ++ z :: (Q ++ Y2 ++ C)) (m + p) (a + P.length) g) ?_ (k := Y1.length) ⟨[], Y1, g, rfl, rfl, by rw [hus, hYe]; simp⟩
      rintro k st ⟨P, Q, g, hPQ, rfl, rfl⟩
      have hpl : p = P.length + Q.length := by rw [← hY1, hPQ]; simp
      have hcl : (A ++ P ++ z :: (Q ++ Y2 ++ C)).length = n := by rw [hn, hus, hYe, hPQ]; simp; omega
      cases h58 : decide (a + P.length < m + p - 1) with
      | false =>
        have hQ : Q = [] := List.eq_nil_of_length_eq_zero (by have := of_decide_eq_false h58; omega)
        subst hQ
        rw [List.append_nil] at hPQ
        subst hPQ
        refine FRp.piece c101_ok follows 1 _ _ _ _ (r102fx _ n c (m + p) (a + Y1.length) g) (Met.cons (suO_ok (by omega) (by omega)) (Met.cons (ltO_ok h58) Met.nil)) MetH.nil MetE.nil s102f rfl rfl (fix1 _ []) rfl fun g' => .inr ⟨by simp, ?_⟩
        show (if (2 : Nat) = 2 then _ else _)
        rw [if_pos rfl]
        exact ⟨rfl, g', by simp⟩
      | true =>
        have hlt := of_decide_eq_true h58
        match Q, hPQ, hpl, hcl with
        | [], _, hpl, _ => simp at hpl; omega
        | y :: Q, hPQ, hpl, hcl =>
          simp only [List.length_cons] at hpl
          have l1 : (A ++ P).length = a + P.length := by simp; omega
          have l2 : (A ++ P ++ [y]).length = a + P.length + 1 := by simp; omega
          have l2' : (A ++ P ++ [z]).length = a + P.length + 1 := by simp; omega
          have ec : A ++ P ++ z :: (y :: Q ++ Y2 ++ C) = (A ++ P ++ [z]) ++ y :: (Q ++ Y2 ++ C) := by simp
          have hp1 : (A ++ P ++ z :: (y :: Q ++ Y2 ++ C))[a + P.length]? = some z := get_mid l1
          have hp2 : (A ++ P ++ z :: (y :: Q ++ Y2 ++ C))[a + P.length + 1]? = some y := by rw [ec]; exact get_mid l2'
          have hin : a + P.length + 1 < n := by rw [← hcl]; simp; omega
          have s2 : ((A ++ P ++ z :: (y :: Q ++ Y2 ++ C)).set (a + P.length) y).set (a + P.length + 1) z = A ++ (P ++ [y]) ++ z :: (Q ++ Y2 ++ C) := by
            rw [set_mid l1]
            have : A ++ P ++ y :: (y :: Q ++ Y2 ++ C) = (A ++ P ++ [y]) ++ y :: (Q ++ Y2 ++ C) := by simp
            rw [this, set_mid l2]; simp
          generalize hcur : A ++ P ++ z :: (y :: Q ++ Y2 ++ C) = cur at *
          refine FRp.piece c101_ok follows 1 _ _ _ _ (r102fs cur (cur.set (a + P.length) y) ((cur.set (a + P.length) y).set (a + P.length + 1) z) n c (m + p) (a + P.length) z y g)
            (Met.cons (suO_ok (by omega) (by omega)) (Met.cons (ltO_ok h58) (Met.cons (wrap_up (by omega)) (Met.cons (wrap_up (by omega)) (Met.cons (ix_ok hin) (Met.cons (at_ok (hW_at _) hp2) (Met.cons (ix_ok (by omega)) (Met.cons (at_ok (hW_at _) hp1) (Met.cons (ix_ok (by omega)) (Met.cons (ix_ok hin) (Met.cons (wrap_up (by omega)) Met.nil)))))))))))
            MetH.nil (MetE.cons (stO_ok (hW_get _) (by omega)) (MetE.cons (stO_ok put_get (by rw [List.length_set]; omega)) MetE.nil)) s102f rfl rfl (fix1 _ []) rfl fun g' => .inl ⟨rfl, Q.length, by simp, P ++ [y], Q, g', by rw [hPQ]; simp, rfl, ?_⟩
          rw [s2, List.length_append]
          rfl
    · rintro st ⟨-, g, rfl⟩
      rw [hfin]
      exact ret102
theorem sright_fr {A X C us : List ViewV} {y : ViewV} {n c a m b : Nat} {d : Bool} (hus : us = A ++ X ++ [y] ++ C) (hA : A.length = a) (hm : m = a + X.length) (hn : n = us.length) (hl : n < 1000000) (hy : Kn y) (hK : ∀ u ∈ X, Kn u) (hX : Srt ltV X) (W : Base) (x : Nat × Nat × Nat) (g : Nat → Value) :
    FRp Try.prog 220 W x t2c102 (A102' n c a m b us d g) (EndsR4 (A ++ mrg ltV X [y] ++ C)) := by
  have hlen : us.length = a + X.length + 1 + C.length := by rw [hus]; simp; omega
  have hym : us[m]? = some y := by have := at_Y (Y := [y]) hus hA hm (i := 0) (by simp); simpa using this
  have hXi : ∀ {i : Nat}, i < X.length → us[a + i]? = X[i]? := fun h => at_X (Y := [y]) hus hA h
  refine FRp.seq (Q1 := fun e st => e = .normal ∧ ∃ g, st = H102 n c a m us g) (FRp.piece c101_ok follows 1 _ _ _ _ (r102h us n c a m b d g) Met.nil MetH.nil MetE.nil s102h rfl rfl (fix1 us []) rfl fun g => ⟨rfl, g, rfl⟩) ?_ (fun x st hne hq => absurd hq.1 hne)
  rintro st ⟨-, g, rfl⟩
  refine FRp.seq (Q1 := fun e st => e = .normal ∧ ∃ g, st = J102 n c m us a m g) (FRp.piece c101_ok follows 1 _ _ _ _ (r102i us n c a m g) Met.nil MetH.nil MetE.nil s102i rfl rfl (fix1 us []) rfl fun g => ⟨rfl, g, rfl⟩) ?_ (fun x st hne hq => absurd hq.1 hne)
  rintro st ⟨-, g, rfl⟩
  refine FRp.seq (Q1 := fun e st => e = .normal ∧ ∃ p g, p ≤ X.length ∧ (∀ k u, k < p → X[k]? = some u → ltV y u = false) ∧ (∀ k u, p ≤ k → X[k]? = some u → ltV y u = true) ∧ st = K102 n c m us (a + p) g) ?_ ?_ (fun x st hne hq => absurd hq.1 hne)
  · refine FRp.block ?_
    refine FRp.loop (fun k st => ∃ p r g, p ≤ r ∧ r ≤ X.length ∧ k = r - p ∧ (∀ k u, k < p → X[k]? = some u → ltV y u = false) ∧ (∀ k u, r ≤ k → X[k]? = some u → ltV y u = true) ∧ st = J102 n c m us (a + p) (a + r) g) ?_ (k := X.length)
      ⟨0, X.length, g, Nat.zero_le _, Nat.le_refl _, rfl, fun k u hk => absurd hk (Nat.not_lt_zero _), fun k u hk hu => (by rw [List.getElem?_eq_none hk] at hu; cases hu), by rw [← hm]; rfl⟩
    rintro k st ⟨p, r, g, hpr, hr, rfl, hlo, hhi, rfl⟩
    cases h85 : decide (a + p < a + r) with
    | false =>
      have e : p = r := by have := of_decide_eq_false h85; omega
      subst e
      refine FRp.piece c101_ok follows 1 _ _ _ _ (r102jx us n c m (a + p) (a + p) g) (Met.cons (ltO_ok h85) Met.nil) MetH.nil MetE.nil s102j rfl rfl (fix1 us []) rfl fun g' => .inr ⟨by simp, ?_⟩
      show (if (4 : Nat) = 4 then _ else _)
      rw [if_pos rfl]
      exact ⟨rfl, p, g', hr, hlo, hhi, rfl⟩
    | true =>
      have hlt := of_decide_eq_true h85
      have eh : (a + p + (a + r)) / 2 = a + (p + r) / 2 := by omega
      have hq : (p + r) / 2 < X.length := by omega
      obtain ⟨u, hu⟩ := some_at hq
      have hku := hK u (List.mem_of_getElem? hu)
      have hui : us[(a + p + (a + r)) / 2]? = some u := by rw [eh, hXi hq, hu]
      have met : ∀ {b : Bool} {l : List Obl}, ltV y u = b → Met l → Met (j1o us n c m (a + p) (a + r) ((a + p + (a + r)) / 2) y u b l) := fun hb hl =>
        Met.cons (ltO_ok h85) (hvO_ok (by omega) (Met.cons (ix_ok (by omega)) (Met.cons (at_ok (hW_at _) hym) (Met.cons (ix_ok (by omega)) (Met.cons (at_ok (hW_at _) hui) (Met.cons (cpO_ok hb) hl))))))
      cases h102 : ltV y u with
      | false =>
        refine FRp.piece c101_ok follows 1 _ _ _ _ (r102jf us n c m (a + p) (a + r) ((a + p + (a + r)) / 2) y u g) (met h102 (Met.cons (wrap_up (by omega)) Met.nil)) MetH.nil MetE.nil s102j rfl rfl (fix1 us []) rfl fun g' => .inl ⟨rfl, r - ((p + r) / 2 + 1), by omega, (p + r) / 2 + 1, r, g', by omega, hr, rfl, fun k v hk hv => ?_, hhi, by rw [eh]; rfl⟩
        have h1 := srt_get hX hK (show k ≤ (p + r) / 2 by omega) hv hu
        exact sw.ntr y u v hy hku (hK v (List.mem_of_getElem? hv)) h102 h1
      | true =>
        refine FRp.piece c101_ok follows 1 _ _ _ _ (r102jt us n c m (a + p) (a + r) ((a + p + (a + r)) / 2) y u g) (met h102 Met.nil) MetH.nil MetE.nil s102j rfl rfl (fix1 us []) rfl fun g' => .inl ⟨rfl, (p + r) / 2 - p, by omega, p, (p + r) / 2, g', by omega, by omega, rfl, hlo, fun k v hk hv => ?_, by rw [eh]⟩
        cases e : ltV y v with
        | true => rfl
        | false =>
          have h1 := srt_get hX hK hk hu hv
          rw [sw.ntr y v u hy (hK v (List.mem_of_getElem? hv)) hku e h1] at h102; cases h102
  · rintro st ⟨-, p, g, hp, hlo, hhi, rfl⟩
    obtain ⟨X1, X2, hXe, hX1⟩ : ∃ X1 X2, X = X1 ++ X2 ∧ X1.length = p := ⟨X.take p, X.drop p, (List.take_append_drop _ _).symm, by simp; omega⟩
    have k1 : ∀ u ∈ X1, ltV y u = false := fun u hu => by
      obtain ⟨i, hi⟩ := List.mem_iff_getElem?.1 hu
      have hlt := (List.getElem?_eq_some_iff.1 hi).1
      exact hlo i u (by omega) (by rw [hXe, List.getElem?_append_left hlt, hi])
    have k2 : ∀ u ∈ X2, ltV y u = true := fun u hu => by
      obtain ⟨i, hi⟩ := List.mem_iff_getElem?.1 hu
      exact hhi (p + i) u (by omega) (by rw [hXe, List.getElem?_append_right (by omega), show p + i - X1.length = i by omega, hi])
    have hfin : A ++ mrg ltV X [y] ++ C = A ++ X1 ++ y :: (X2 ++ C) := by
      have : mrg ltV X [y] = insB ltV X y := rfl
      rw [this, insB_of hXe k2 (fun q hq => k1 q (List.mem_of_getLast? hq))]; simp
    refine FRp.seq (Q1 := fun e st => e = .normal ∧ ∃ g, st = stOf 220 g [] [rowB (A ++ X1 ++ y :: (X2 ++ C))]) ?_ ?_ (fun x st hne hq => absurd hq.1 hne)
    · refine FRp.seq (Q1 := fun e st => e = .normal ∧ ∃ g, st = M102 n c us (a + p) m g) (FRp.piece c101_ok follows 1 _ _ _ _ (r102k us n c m (a + p) g) Met.nil MetH.nil MetE.nil s102k rfl rfl (fix1 us []) rfl fun g => ⟨rfl, g, rfl⟩) ?_ (fun x st hne hq => absurd hq.1 hne)
      rintro st ⟨-, g, rfl⟩
      refine FRp.block ?_
      refine FRp.loop (fun k st => ∃ P Q g, X2 = P ++ Q ∧ k = P.length ∧ st = M102 n c (A ++ X1 ++ P ++ y :: (Q ++ C)) (a + p) (a + p + P.length) g) ?_ (k := X2.length) ⟨X2, [], g, by simp, rfl, by rw [hus, hXe, show a + p + X2.length = m by rw [hm, hXe]; simp; omega]; simp⟩
      rintro k st ⟨P, Q, g, hPQ, rfl, rfl⟩
      have hcl : (A ++ X1 ++ P ++ y :: (Q ++ C)).length = n := by rw [hn, hus, hXe, hPQ]; simp; omega
      cases h110 : decide (a + p < a + p + P.length) with
      | false =>
        have hP : P = [] := List.eq_nil_of_length_eq_zero (by have := of_decide_eq_false h110; omega)
        subst hP
        rw [List.nil_append] at hPQ
        subst hPQ
        refine FRp.piece c101_ok follows 1 _ _ _ _ (r102lx _ n c (a + p) (a + p + ([] : List ViewV).length) g) (Met.cons (gtO_ok h110) Met.nil) MetH.nil MetE.nil s102l rfl rfl (fix1 _ []) rfl fun g' => .inr ⟨by simp, ?_⟩
        show (if (6 : Nat) = 6 then _ else _)
        rw [if_pos rfl]
        exact ⟨rfl, g', by simp⟩
      | true =>
        have hpos := of_decide_eq_true h110
        obtain ⟨P', q, rfl⟩ : ∃ P' q, P = P' ++ [q] := by
          rcases List.eq_nil_or_concat P with h | ⟨L, b, h⟩
          · rw [h] at hpos; simp at hpos
          · exact ⟨L, b, by simpa using h⟩
        have el : a + p + (P' ++ [q]).length = a + p + P'.length + 1 := by simp; omega
        have e1 : A ++ X1 ++ (P' ++ [q]) ++ y :: (Q ++ C) = (A ++ X1 ++ P') ++ q :: y :: (Q ++ C) := by simp
        have e2 : A ++ X1 ++ (P' ++ [q]) ++ y :: (Q ++ C) = (A ++ X1 ++ P' ++ [q]) ++ y :: (Q ++ C) := by simp
        have l1 : (A ++ X1 ++ P').length = a + p + P'.length := by simp; omega
        have l2 : (A ++ X1 ++ P' ++ [q]).length = a + p + P'.length + 1 := by simp; omega
        rw [el] at h110 ⊢
        have hg1 : (A ++ X1 ++ (P' ++ [q]) ++ y :: (Q ++ C))[a + p + P'.length]? = some q := by rw [e1]; exact get_mid l1
        have hg2 : (A ++ X1 ++ (P' ++ [q]) ++ y :: (Q ++ C))[a + p + P'.length + 1]? = some y := by rw [e2]; exact get_mid l2
        have hin : a + p + P'.length + 1 < n := by rw [← hcl]; simp; omega
        have s2 : ((A ++ X1 ++ (P' ++ [q]) ++ y :: (Q ++ C)).set (a + p + P'.length + 1) q).set (a + p + P'.length + 1 - 1) y = A ++ X1 ++ P' ++ y :: (q :: Q ++ C) := by
          rw [e2, set_mid l2]
          have : A ++ X1 ++ P' ++ [q] ++ q :: (Q ++ C) = (A ++ X1 ++ P') ++ q :: (q :: (Q ++ C)) := by simp
          rw [this, show a + p + P'.length + 1 - 1 = a + p + P'.length by omega, set_mid l1]; simp
        generalize hcur : A ++ X1 ++ (P' ++ [q]) ++ y :: (Q ++ C) = cur at *
        have ep : a + p + P'.length + 1 - 1 = a + p + P'.length := by omega
        refine FRp.piece c101_ok follows 1 _ _ _ _ (r102ls cur (cur.set (a + p + P'.length + 1) q) ((cur.set (a + p + P'.length + 1) q).set (a + p + P'.length + 1 - 1) y) n c (a + p) (a + p + P'.length + 1) q y g)
          (Met.cons (gtO_ok h110) (Met.cons (suO_ok (by omega) (by omega)) (Met.cons (suO_ok (by omega) (by omega)) (Met.cons (ix_ok (by omega)) (Met.cons (at_ok (hW_at _) (by rw [ep]; exact hg1)) (Met.cons (ix_ok hin) (Met.cons (at_ok (hW_at _) hg2) (Met.cons (ix_ok hin) (Met.cons (ix_ok (by omega)) (Met.cons (suO_ok (by omega) (by omega)) Met.nil))))))))))
          MetH.nil (MetE.cons (stO_ok (hW_get _) (by omega)) (MetE.cons (stO_ok put_get (by rw [List.length_set]; omega)) MetE.nil)) s102l rfl rfl (fix1 _ []) rfl fun g' => .inl ⟨rfl, P'.length, by simp, P', q :: Q, g', by rw [hPQ]; simp, rfl, ?_⟩
        rw [s2, ep]
    · rintro st ⟨-, g, rfl⟩
      rw [hfin]
      exact ret102
end Go.Proofs.Ytgeoommlmddgpaa.LtL
