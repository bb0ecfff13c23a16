/- PairNil, of the given program: for every object and every frame the law returns true, and the arguments read as they did. No condition. The arguments opened; the statement. -/
import Derived.Test.YtdnmcelmblgpbaaGreatPnA
set_option linter.unusedVariables false
set_option linter.unusedSimpArgs false
set_option maxRecDepth 100000
namespace Go.Proofs.YtdnmcelmblgpbaaGreat.PnA
open Go Go.Proofs Go.Proofs.YtdnmcelmblgpbaaGreat.AI Go.RowKit Go.ChangeShapes

theorem cells3 : Tryz.prog.cellsOf 3 = 1 := by kernel_rfl
theorem cells9 : Tryz.prog.cellsOf 9 = 1 := by kernel_rfl
theorem cells28 : Tryz.prog.cellsOf 28 = 1 := by kernel_rfl
theorem cells36 : Tryz.prog.cellsOf 36 = 1 := by kernel_rfl
theorem cells72 : Tryz.prog.cellsOf 72 = 1 := by kernel_rfl
theorem cells76 : Tryz.prog.cellsOf 76 = 2 := by kernel_rfl
theorem cells78 : Tryz.prog.cellsOf 78 = 2 := by kernel_rfl
theorem cells79 : Tryz.prog.cellsOf 79 = 1 := by kernel_rfl
theorem cells81 : Tryz.prog.cellsOf 81 = 5 := by kernel_rfl
theorem cells83 : Tryz.prog.cellsOf 83 = 11 := by kernel_rfl
section
variable {H : Type} {enc : TypeId × Value → H} {W : World} {sp : Nat → Bool} {hd : Bool} {n : Nat} {cs : List Value} {x : DataW H × List MemPlace}
theorem part_of (h : DataW.trod enc Tryz.prog W 0 sp hd n 83 cs = some x) : cs.length = 11 ∧ ∃ p : PartV, ∀ (j : Nat) (v v' : Value), (pc p)[j]? = some v → cs[j]? = some v' → VRel bm0 (fun _ => none) v v' := by
  obtain ⟨hl, hf⟩ := trod_field Tryz.underlying83 h
  rw [cells83] at hl
  refine ⟨hl, ?_⟩
  match cs, hl with
  | [v0, v1, v2, v3, v4, v5, v6, v7, v8, v9, va], _ =>
    obtain ⟨_, _, k0⟩ := hf 0 _ rfl
    obtain ⟨_, _, k1⟩ := hf 1 _ rfl
    obtain ⟨_, _, k2⟩ := hf 2 _ rfl
    obtain ⟨_, _, k3⟩ := hf 3 _ rfl
    obtain ⟨_, _, k4⟩ := hf 4 _ rfl
    obtain ⟨i0, e0⟩ := trod_int Tryz.underlying3 k0
    obtain ⟨-, f1⟩ := trod_field Tryz.underlying76 k1
    obtain ⟨_, _, k10⟩ := f1 0 _ rfl
    obtain ⟨_, _, k11⟩ := f1 1 _ rfl
    obtain ⟨i1, e1⟩ := trod_int Tryz.underlying3 k10
    obtain ⟨w2, e2, r2⟩ := trod_len Tryz.underlying72 k11
    obtain ⟨-, f2⟩ := trod_field Tryz.underlying78 k2
    obtain ⟨_, _, k20⟩ := f2 0 _ rfl
    obtain ⟨_, _, k21⟩ := f2 1 _ rfl
    obtain ⟨i3, e3⟩ := trod_int Tryz.underlying3 k20
    obtain ⟨w4, e4, r4⟩ := trod_len Tryz.underlying36 k21
    obtain ⟨w5, e5, r5⟩ := trod_len Tryz.underlying79 k3
    obtain ⟨-, f4⟩ := trod_field Tryz.underlying81 k4
    obtain ⟨_, _, k40⟩ := f4 0 _ rfl
    obtain ⟨_, _, k41⟩ := f4 1 _ rfl
    obtain ⟨_, _, k42⟩ := f4 2 _ rfl
    obtain ⟨_, _, k43⟩ := f4 3 _ rfl
    obtain ⟨_, _, k44⟩ := f4 4 _ rfl
    obtain ⟨i6, e6⟩ := trod_int Tryz.underlying3 k40
    obtain ⟨i7, e7⟩ := trod_int Tryz.underlying3 k41
    obtain ⟨i8, e8⟩ := trod_int Tryz.underlying3 k42
    obtain ⟨i9, e9⟩ := trod_int Tryz.underlying3 k43
    obtain ⟨ia, ea⟩ := trod_str Tryz.underlying9 k44
    simp [cells3, cells9, cells36, cells72, cells76, cells78, cells79, cells81] at e0 e1 e2 e3 e4 e5 e6 e7 e8 e9 ea
    subst e0 e1 e2 e3 e4 e5 e6 e7 e8 e9 ea
    refine ⟨⟨i0, i1, i3, i6, i7, i8, i9, lenV v2, lenV v4, lenV v5, ia⟩, fun j v v' q1 q2 => ?_⟩
    unfold pc at q1
    match j with
    | 0 | 1 | 3 | 6 | 7 | 8 | 9 | 10 => simp at q1 q2; subst q1; subst q2; exact .flat rfl
    | 2 => simp at q1 q2; subst q1; subst q2; exact r2 _ _
    | 4 => simp at q1 q2; subst q1; subst q2; exact r4 _ _
    | 5 => simp at q1 q2; subst q1; subst q2; exact r5 _ _
    | j + 11 => simp at q1
end
theorem list_of {α : Type} {R : Nat → α → Prop} : ∀ n, (∀ i, i < n → ∃ p, R i p) → ∃ ps : List α, ps.length = n ∧ ∀ i p, ps[i]? = some p → R i p
  | 0, _ => ⟨[], rfl, fun i p h => by simp at h⟩
  | n + 1, h => by
    obtain ⟨ps, h1, h2⟩ := list_of n (fun i hi => h i (by omega))
    obtain ⟨q, hq⟩ := h n (by omega)
    refine ⟨ps ++ [q], by simp [h1], fun i p hp => ?_⟩
    by_cases hi : i < ps.length
    · rw [List.getElem?_append_left hi] at hp; exact h2 i p hp
    · rw [List.getElem?_append_right (by omega)] at hp
      have : i - ps.length = 0 := by
        have := (List.getElem?_eq_some_iff.1 hp).1
        simp at this; omega
      rw [this] at hp
      simp at hp
      subst hp
      have : i = n := by omega
      rw [this]; exact hq
/-- The row of a frame's parts, as it lies. -/
theorem row_of {H : Type} {enc : TypeId × Value → H} {W : World} {sp : Nat → Bool} {hd : Bool} {fuel : Nat} {r off n c : Nat} {x : DataW H × List MemPlace} (h : DataW.trod enc Tryz.prog W 0 sp hd fuel 28 [.slice (some ⟨r, off, none⟩) n c] = some x) (hn : 0 < n) :
    ∃ (ps : List PartV) (arr : Array Value) (ty : TypeId) (fr : Nat × Nat), ps.length = n ∧ W.heap[r]? = some (.cells arr ty fr) ∧ off + (rowL ps).length ≤ arr.size ∧
      ∀ (i : Nat) (v v' : Value), (rowL ps)[i]? = some v → arr[off + i]? = some v' → VRel bm0 (fun _ => none) v v' := by
  rcases Go.Deep.open_slice Tryz.underlying28 h with ⟨h0, _⟩ | ⟨a, len, cap, m, k, D, Pl, e0, _, hlc, _, hm, _, hel⟩
  · simp at h0
  simp only [List.cons.injEq, Value.slice.injEq, Option.some.injEq, and_true] at e0
  obtain ⟨rfl, rfl, rfl⟩ := e0
  have hmn : n ≤ m := by rw [hm]; split <;> omega
  rw [cells83] at hel
  have hw : ∀ i, i < n → ∃ cs : List Value, (∀ j, j < 11 → W.cell? ⟨r, off + (i * 11 + j), none⟩ = cs[j]?) ∧ cs.length = 11 ∧ ∃ p : PartV, ∀ (j : Nat) (v v' : Value), (pc p)[j]? = some v → cs[j]? = some v' → VRel bm0 (fun _ => none) v v' := by
    intro i hi
    obtain ⟨cs, h1, h2⟩ := hel i (by omega)
    obtain ⟨h3, h4⟩ := part_of h2
    obtain ⟨_, h5, h6⟩ := World.cells?_some h1
    refine ⟨cs, fun j hj => ?_, h3, h4⟩
    have := h6 j hj
    rw [Addr.add_lit, Addr.add_lit, Nat.add_assoc] at this
    exact this
  obtain ⟨ps, hl, hps⟩ := list_of (R := fun i (p : PartV) => ∃ cs : List Value, (∀ j, j < 11 → W.cell? ⟨r, off + (i * 11 + j), none⟩ = cs[j]?) ∧ cs.length = 11 ∧ ∀ (j : Nat) (v v' : Value), (pc p)[j]? = some v → cs[j]? = some v' → VRel bm0 (fun _ => none) v v') n (fun i hi => by
    obtain ⟨cs, h1, h2, p, h3⟩ := hw i hi
    exact ⟨p, cs, h1, h2, h3⟩)
  have hcell : ∀ i j, i < n → j < 11 → ∃ v, W.cell? ⟨r, off + (i * 11 + j), none⟩ = some v := by
    intro i j hi hj
    obtain ⟨cs, h1, h2, _⟩ := hw i hi
    rw [h1 j hj, List.getElem?_eq_getElem (by omega)]
    exact ⟨_, rfl⟩
  obtain ⟨arr, ty, fr, hc⟩ : ∃ arr ty fr, W.heap[r]? = some (.cells arr ty fr) := by
    obtain ⟨v, hv⟩ := hcell 0 0 hn (by omega)
    unfold World.cell? at hv
    split at hv
    · rename_i arr ty fr hc; exact ⟨arr, ty, fr, hc⟩
    · cases hv
  have hlen : (rowL ps).length = n * 11 := by unfold rowL; rw [flat_len pc 11 ps (fun _ _ => rfl), hl]
  refine ⟨ps, arr, ty, fr, hl, hc, ?_, fun i v v' q1 q2 => ?_⟩
  · obtain ⟨v, hv⟩ := hcell (n - 1) 10 (by omega) (by omega)
    rw [cell_of hc] at hv
    have := (Array.getElem?_eq_some_iff.1 hv).1
    rw [hlen]
    have e : (n - 1) * 11 + 10 + 1 = n * 11 := by
      obtain ⟨q, rfl⟩ : ∃ q, n = q + 1 := ⟨n - 1, by omega⟩
      rw [Nat.add_sub_cancel, Nat.succ_mul]
    omega
  · have hi : i < n * 11 := by rw [← hlen]; exact (List.getElem?_eq_some_iff.1 q1).1
    have hq : i / 11 < ps.length := by rw [hl]; exact Nat.div_lt_of_lt_mul (by rw [Nat.mul_comm]; exact hi)
    have hp : ps[i / 11]? = some ps[i / 11] := List.getElem?_eq_getElem hq
    have hsplit : i = i / 11 * 11 + i % 11 := by omega
    have hj : i % 11 < 11 := Nat.mod_lt _ (by omega)
    obtain ⟨cs, h1, h2, h3⟩ := hps _ _ hp
    have g1 := flat_get pc 11 ps (fun _ _ => rfl) (i / 11) (i % 11) _ hp hj
    rw [← hsplit] at g1
    have g2 := h1 (i % 11) hj
    rw [← hsplit, cell_of hc, q2] at g2
    unfold rowL at q1
    rw [q1] at g1
    exact h3 _ v v' g1.symm g2.symm

theorem cellFlat {w : World} {r : Reach} {base : Nat} {t : TypeId} {v : Value} (ht : t = 3 ∨ t = 4) (h : Cell.okWide Tryz.prog w r base t v) : AI.flat v = true := by
  rcases ht with rfl | rfl
  · obtain ⟨n, rfl, _⟩ := cellw_int Tryz.underlying3 h; rfl
  · obtain ⟨b, rfl⟩ := cellw_bool Tryz.underlying4 h; rfl
theorem types27 : Tryz.prog.cellTypes Tryz.prog.depth 27 = some [3, 3, 4, 3, 3, 3, 3, 3, 3, 3, 3, 3] := by kernel_rfl
theorem cells27 : Tryz.prog.cellsOf 27 = 12 := by kernel_rfl
theorem types30 : Tryz.prog.cellTypes Tryz.prog.depth 30 = some [3, 3, 3, 3, 28] := by kernel_rfl
theorem cells30 : Tryz.prog.cellsOf 30 = 5 := by kernel_rfl
theorem open_obj {w : World} {r : Reach} {base : Nat} {v : Value} (h : Value.okWide Tryz.prog w r base 27 v) : ∃ x0 x1 x2 x3 x4 x5 x6 x7 x8 x9 xa xb, v = objV x0 x1 x2 x3 x4 x5 x6 x7 x8 x9 xa xb ∧ flatD v = true := by
  obtain ⟨cs, rfl, hs, hc⟩ := openw_cells Tryz.underlying27 types27 cells27 h
  obtain ⟨l⟩ := cs
  match l, hs with
  | [x0, x1, x2, x3, x4, x5, x6, x7, x8, x9, xa, xb], _ =>
    refine ⟨x0, x1, x2, x3, x4, x5, x6, x7, x8, x9, xa, xb, rfl, ?_⟩
    have f0 := cellFlat (.inl rfl) (hc 0 3 x0 rfl rfl)
    have f1 := cellFlat (.inl rfl) (hc 1 3 x1 rfl rfl)
    have f2 := cellFlat (.inr rfl) (hc 2 4 x2 rfl rfl)
    have f3 := cellFlat (.inl rfl) (hc 3 3 x3 rfl rfl)
    have f4 := cellFlat (.inl rfl) (hc 4 3 x4 rfl rfl)
    have f5 := cellFlat (.inl rfl) (hc 5 3 x5 rfl rfl)
    have f6 := cellFlat (.inl rfl) (hc 6 3 x6 rfl rfl)
    have f7 := cellFlat (.inl rfl) (hc 7 3 x7 rfl rfl)
    have f8 := cellFlat (.inl rfl) (hc 8 3 x8 rfl rfl)
    have f9 := cellFlat (.inl rfl) (hc 9 3 x9 rfl rfl)
    have fa := cellFlat (.inl rfl) (hc 10 3 xa rfl rfl)
    have fb := cellFlat (.inl rfl) (hc 11 3 xb rfl rfl)
    simp [flatD, f0, f1, f2, f3, f4, f5, f6, f7, f8, f9, fa, fb]

/-- From a frame of its own to the law's word. -/
theorem walk_end (W : World) {args : Array Value} {ps : List PartV} {o : Blk} {s x0 x1 x2 x3 x4 x5 x6 x7 x8 x9 xa xb : Value} {a b d e : Int} (hi : inertB o = true)
    (hs : (s = .slice none 0 0 ∧ ps = []) ∨ (∃ c, s = .slice (some ⟨0, 0, none⟩) ps.length c) ∧ (ps = [] ∨ ∃ ty ro, o = .cells ty (rowL ps) ro)) {m : BM} (sim : Sim m (heapOf [o] hp0).get W) (ro : ∀ b, rw? (heapOf [o] hp0).get b = false)
    (ra : VRelL m (heapOf [o] hp0).get [objV x0 x1 x2 x3 x4 x5 x6 x7 x8 x9 xa xb, frameV a b d e s] args.toList) :
    Calls Tryz.prog 3 args W fun e W' => e = .returned (.bool true) ∧ Below W.heap.size W W' := by
  have h := law_fr ps o s x0 x1 x2 x3 x4 x5 x6 x7 x8 x9 xa xb a b d e W hi hs
  rw [← ntmps3] at h
  refine (fn_of (R := fun v _ => v = .bool true) Tryz.func3 bodyLaw (by rw [ntmps3]; simp) (heapOf_ok _ _ hp0_ok) sim ro ra h).mono fun e w' hh => ?_
  obtain ⟨v', v, st', m', rfl, rfl, rv, _, _, hb, _⟩ := hh
  exact ⟨by rw [rv.of_bool], hb⟩
theorem ro_cells {ty : TypeId} {L : List Value} (b : Nat) : rw? (heapOf [Blk.cells ty L true] hp0).get b = false := by
  unfold rw?
  rw [heapOf0_get]
  match b with
  | 0 => rfl
  | b + 1 => rfl
theorem ro_dead (b : Nat) : rw? (heapOf [Blk.dead] hp0).get b = false := by
  unfold rw?
  rw [heapOf0_get]
  match b with
  | 0 => rfl
  | b + 1 => rfl
theorem walk3 {H : Type} {enc : TypeId × Value → H} (W : World) (base : Nat) (args : Array Value) (ds : List (DataW H)) (p : List MemPlace) (hsz : args.size = 2) (hval : ∀ (j : Nat) t v, Tryz.f3.params[j]? = some t → args[j]? = some v → Value.okWide Tryz.prog W .any base t v)
    (hA : DataW.TrodAll enc Tryz.prog W 0 (fun _ => true) true [27, 30] args.toList ds p) : Calls Tryz.prog 3 args W fun e W' => e = .returned (.bool true) ∧ Below W.heap.size W W' := by
  obtain ⟨vo, vf, rfl⟩ : ∃ vo vf, args = #[vo, vf] := by
    obtain ⟨l⟩ := args
    match l, hsz with
    | [a, b], _ => exact ⟨a, b, rfl⟩
  obtain ⟨x0, x1, x2, x3, x4, x5, x6, x7, x8, x9, xa, xb, rfl, hfl⟩ := open_obj (hval 0 27 vo (by kernel_rfl) rfl)
  obtain ⟨cs, rfl, hs, hc⟩ := openw_cells Tryz.underlying30 types30 cells30 (hval 1 30 vf (by kernel_rfl) rfl)
  obtain ⟨l⟩ := cs
  match l, hs with
  | [y0, y1, y2, y3, y4], _ =>
    obtain ⟨a, rfl, _⟩ := cellw_int Tryz.underlying3 (hc 0 3 y0 rfl rfl)
    obtain ⟨b, rfl, _⟩ := cellw_int Tryz.underlying3 (hc 1 3 y1 rfl rfl)
    obtain ⟨d, rfl, _⟩ := cellw_int Tryz.underlying3 (hc 2 3 y2 rfl rfl)
    obtain ⟨e, rfl, _⟩ := cellw_int Tryz.underlying3 (hc 3 3 y3 rfl rfl)
    have frel : ∀ {m : BM} {h : HG} {s s' : Value}, VRel m h s s' → VRelL m h [objV x0 x1 x2 x3 x4 x5 x6 x7 x8 x9 xa xb, frameV a b d e s] [objV x0 x1 x2 x3 x4 x5 x6 x7 x8 x9 xa xb, .agg #[.int .i64 a, .int .i64 b, .int .i64 d, .int .i64 e, s']] := by
      intro m h s s' r
      refine .cons (VRel.flatD hfl) (.cons (.agg rfl fun i v v' q1 q2 => ?_) .nil)
      match i with
      | 0 | 1 | 2 | 3 => simp at q1 q2; subst q1; subst q2; exact .flat rfl
      | 4 => simp at q1 q2; subst q1; subst q2; exact r
      | i + 5 => simp at q1
    rcases cellw_slice Tryz.underlying28 (hc 4 28 y4 rfl rfl) with rfl | ⟨r, off, n, c, rfl, hn⟩
    · exact walk_end W (x0 := x0) (x1 := x1) (x2 := x2) (x3 := x3) (x4 := x4) (x5 := x5) (x6 := x6) (x7 := x7) (x8 := x8) (x9 := x9) (xa := xa) (xb := xb) (a := a) (b := b) (d := d) (e := e) (ps := []) (o := .dead) rfl (.inl ⟨rfl, rfl⟩) (m := bm0) ⟨fun b x h => (by cases h), fun b b' x x' h => (by cases h)⟩ ro_dead (frel (.flat rfl))
    · cases n with
      | zero => exact walk_end W (x0 := x0) (x1 := x1) (x2 := x2) (x3 := x3) (x4 := x4) (x5 := x5) (x6 := x6) (x7 := x7) (x8 := x8) (x9 := x9) (xa := xa) (xb := xb) (a := a) (b := b) (d := d) (e := e) (ps := []) (o := .dead) (s := .slice (some ⟨0, 0, none⟩) 0 2) rfl (.inr ⟨⟨2, rfl⟩, .inl rfl⟩) (m := bm0) ⟨fun b x h => (by cases h), fun b b' x x' h => (by cases h)⟩ ro_dead (frel (.slice hn (.inl (by rw [heapOf0_get]; rfl))))
      | succ n =>
        obtain ⟨v1, vs1, d1, ds1, p1, q1, e1, _, _, _, hA2⟩ := trodAll_cons hA
        obtain ⟨v2, vs2, d2, ds2, p2, q2, e2, _, _, ⟨fuel, hT⟩, _⟩ := trodAll_cons hA2
        cases e1
        cases e2
        obtain ⟨-, hF⟩ := trod_field Tryz.underlying30 hT
        obtain ⟨k, y, hk⟩ := hF 4 _ rfl
        have hk' : DataW.trod enc Tryz.prog W 0 (fun _ => true) true k 28 [.slice (some ⟨r, off, none⟩) (n + 1) c] = some y := by simpa [Value.cells, cells28] using hk
        obtain ⟨ps, arr, ty, fr, hl, hcell, hlen, hv⟩ := row_of hk' (Nat.succ_pos n)
        have hin := rowL_inert ps
        refine walk_end W (x0 := x0) (x1 := x1) (x2 := x2) (x3 := x3) (x4 := x4) (x5 := x5) (x6 := x6) (x7 := x7) (x8 := x8) (x9 := x9) (xa := xa) (xb := xb) (a := a) (b := b) (d := d) (e := e) (ps := ps) (o := .cells ty (rowL ps) true) (s := .slice (some ⟨0, 0, none⟩) ps.length 2) hin (.inr ⟨⟨2, rfl⟩, .inr ⟨ty, true, rfl⟩⟩) (row_sim (k := 11) (n := n) hcell hlen hin hv) ro_cells ?_
        rw [hl]
        refine frel (.slice hn (.inr ⟨off, arr.size, rfl, .inl rfl, ?_⟩))
        constructor <;> intro h <;> simp at h

theorem own : ownKnob Tryz.prog.godebug = none := by kernel_rfl
theorem laid : laidOutB Tryz.prog = true := by kernel_rfl
theorem params3 : ∀ t ∈ Tryz.f3.params.toList, Tryz.prog.readableRec t = true ∧ t < Tryz.prog.types.size := by
  have h : Tryz.f3.params.toList.all (fun t => Tryz.prog.readableRec t && decide (t < Tryz.prog.types.size)) = true := by kernel_rfl
  intro t ht
  have := List.all_eq_true.1 h t ht
  simpa using this
def witV : Value := .agg #[.int .i64 0, .int .i64 0, .bool false, .int .i64 0, .int .i64 0, .int .i64 0, .int .i64 0, .int .i64 0, .int .i64 0, .int .i64 0, .int .i64 0, .int .i64 0]
theorem lifted3 (os : Os) (started : os.Started) (H : Type) (enc : TypeId × Value → H) :
    ReturnsInHanded {} Tryz.checked os 3 .any (Rows.pairNilSpec.pre6 enc Tryz.prog Tryz.f3 Rows.pairNilRow.domain false) (Rows.pairNilSpec.post enc Tryz.prog Tryz.f3 false true false false) :=
  law_lifted (C := Tryz.checked) (tb := 4) started own (by kernel_rfl) Tryz.func3 laid params3 rfl (by kernel_rfl) Tryz.underlying4
    (fun ds hl => by
      match ds, hl with
      | [_, _], _ => rfl)
    (ChangeSpec.witness6 (enc := enc) (C := Tryz.checked) false ⟨#[], #[witV, frameV 0 0 0 0 (.slice none 0 0)], []⟩ 8 (by kernel_rfl) (by kernel_rfl) (by kernel_rfl) (by kernel_rfl))
    (fun W base args ds p hsz hval hA => walk3 W base args ds p hsz hval hA)

/-- The statement. -/
theorem pairNil_proved : Rows.PairNilSaid :=
  OpenClaim.holds_of_wide 3 Tryz.f3 rfl rfl rfl rfl rfl rfl rfl ⟨rfl, rfl, rfl, rfl, rfl⟩ rfl rfl rfl rfl rfl (by kernel_rfl) Tryz.func3 (by kernel_rfl)
    (of_decide_eq_true (by kernel_rfl)) (by unfold Func.isWrapper; first | (rw [if_pos (by decide +kernel)]; kernel_rfl) | (rw [if_neg (by decide +kernel)]; exact ⟨rfl, rfl⟩))
    (fun os started H enc _ => lifted3 os started H enc)
#print axioms pairNil_proved
end Go.Proofs.YtdnmcelmblgpbaaGreat.PnA
