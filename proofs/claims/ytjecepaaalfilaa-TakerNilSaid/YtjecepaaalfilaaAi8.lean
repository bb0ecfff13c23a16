/- Soundness, 4: rows that are laid, places, slices; all operations that look at no memory. -/
import Derived.Test.YtjecepaaalfilaaAi7
set_option linter.unusedVariables false
set_option linter.unusedSimpArgs false
namespace Go.Proofs.Ytjecepaaalfilaa.AI
open Go
section
variable {P : Program} {w : World} {m : BM} {h : HG}

theorem fnil {j : Nat} : ¬ ((0, 0) : Nat × Nat).1 ≤ j ∨ ¬ j < ((0, 0) : Nat × Nat).2 := .inr (by simp)

/-- What an operation that lays a block, or none, comes to. -/
def Lays (P : Program) (m : BM) (h : HG) (w : World) (sz : Nat) (ob : Option Blk) (v : Value) (r : Result Value) : Prop :=
  match ob with
  | none => ∃ v', r = .ok v' w ∧ VRel m h v v'
  | some o => ∃ v' obj E, r = .ok v' (w.alloc obj) ∧ VRel (updM m sz (w.heap.size, 0, E)) (updH h sz o) v v' ∧
      ∀ m' h', Le m h m' h' → BRel m' h' (w.alloc obj) (w.heap.size, 0, E) o

theorem ptr_new {sz E : Nat} {o : Blk} : VRel (updM m sz (w.heap.size, 0, E)) (updH h sz o) (ptr0 sz) (.pointer (some ⟨w.heap.size, 0, none⟩)) :=
  .ptr (.inr ⟨0, E, updM_self, rfl⟩)

theorem alloc_sound {sz : Nat} {elem : TypeId} {z : List Value} (hz : tzero P elem = some z) :
    Lays P m h w sz (some (.cells elem z false)) (ptr0 sz) ((Instr.alloc elem true (.tuple #[])).run P w) := by
  obtain ⟨v, h1, h2, h3⟩ := run_zero (w := w) hz
  refine ⟨_, .cells v.cells elem, v.cells.size, ?_, ptr_new, cells_new_all ?_⟩
  · simp only [Instr.alloc, Sem.run_bind, h1, Result.andThen_ok]
    rfl
  · rw [cells_toList, h2]; exact VRelL.flats h3
theorem box_sound {sz : Nat} {elem : TypeId} {x x' : Value} (rx : VRel m h x x') :
    Lays P m h w sz (some (.cells elem (cellsL x) false)) (ptr0 sz) ((Instr.box elem x').run P w) :=
  ⟨_, .cells x'.cells elem, x'.cells.size, rfl, ptr_new, cells_new_all (by rw [cells_toList]; exact rx.cells)⟩

theorem aBuildSlice_sound {sz : Nat} {t : TypeId} {len : Nat} {ps : List (Nat × Value)} {qs : Array (Nat × Value)} {v : Value} {o : Blk} (he : aBuildSlice P sz t len ps = some (v, o)) (hp : PRel m h ps qs.toList) :
    Lays P m h w sz (some o) v ((Instr.buildSlice t len qs).run P w) := by
  unfold aBuildSlice at he
  split at he
  · rename_i elem hu
    split at he
    · rename_i size zero hs hz
      split at he
      · cases he
      · rename_i hc
        simp only [Bool.or_eq_true, decide_eq_true_eq, not_or, Nat.not_lt, gt_iff_lt] at hc
        obtain ⟨⟨hc1, hc2⟩, hc3⟩ := hc
        obtain ⟨cs, hcs, hvo⟩ := Option.map_eq_some_iff.1 he
        cases hvo
        obtain ⟨z, h1, h2, h3⟩ := run_zero (w := w) hz
        have hzs : z.cells.size = size := by
          have : z.cells.toList.length = size := by rw [cells_toList, h2]; simpa using hc2
          simpa using this
        have e : ∀ y : Array Value, (if len * size = 0 then y = #[] else y = z.cells) → ((Array.range (len * size)).map (y[· % y.size]!)).toList = repL zero len := by
          intro y hy
          split at hy
          · rename_i h0
            have hl : len = 0 := by
              rcases Nat.mul_eq_zero.1 h0 with h0 | h0
              · exact h0
              · exact absurd h0 hc1
            subst hl; simp [repL]
          · subst hy
            rw [← hzs, range_zero _ _ (.inr (by omega)), cells_toList, h2]
        have hrz := VRelL.flats (m := m) (h := h) (repL_flat h3 len)
        have hf := VRelL.flats (m := m) (h := h) (repL_flat h3 len)
        by_cases h0 : len * size = 0
        · have e0 := e #[] (by rw [if_pos h0])
          obtain ⟨r', hr', hrr, hlen⟩ := aFill_sound (ds := (Array.range (len * size)).map ((#[] : Array Value)[· % (#[] : Array Value).size]!)) hcs hp (by rw [e0]; exact hf)
          refine ⟨.slice (some ⟨w.heap.size, 0, none⟩) len len, .cells r' elem, r'.size, ?_, ?_, cells_new_all hrr⟩
          · simp only [Instr.buildSlice, Sem.run_bind, run_under hu, run_size hs, Result.andThen_ok, h0, if_true]
            rw [if_neg (by omega)]
            simp only [Sem.run_bind, Sem.run_pure, Result.andThen_ok]
            rw [h0] at hr'
            rw [hr']
            rfl
          · refine .slice (Nat.le_refl _) (.inr ⟨0, _, updM_self, .inl rfl, fun hh => by omega, fun _ => ?_⟩)
            have : r'.size = (repL zero len).length := by rw [← hlen, hrr.1]; simp
            rw [this, repL_length, show (3 * size + 1) / 3 = size from by omega]
            simp at hc2; simp [hc2]
        · have e0 := e z.cells (by rw [if_neg h0])
          obtain ⟨r', hr', hrr, hlen⟩ := aFill_sound (ds := (Array.range (len * size)).map (z.cells[· % z.cells.size]!)) hcs hp (by rw [e0]; exact hf)
          refine ⟨.slice (some ⟨w.heap.size, 0, none⟩) len len, .cells r' elem, r'.size, ?_, ?_, cells_new_all hrr⟩
          · simp only [Instr.buildSlice, Sem.run_bind, run_under hu, run_size hs, Result.andThen_ok]
            rw [if_neg (by omega), if_neg h0]
            simp only [Sem.run_bind, Sem.run_pure, Result.andThen_ok, h1]
            rw [hr']
            rfl
          · refine .slice (Nat.le_refl _) (.inr ⟨0, _, updM_self, .inl rfl, fun hh => by omega, fun _ => ?_⟩)
            have : r'.size = (repL zero len).length := by rw [← hlen, hrr.1]; simp
            rw [this, repL_length, show (3 * size + 1) / 3 = size from by omega]
            simp at hc2; simp [hc2]
    · cases he
  · cases he

theorem wrap_small {n : Int} (h0 : 0 ≤ n) (h1 : n ≤ 2147483647) : IntKind.i64.wrap n = n := by
  have e : inR .i64 n = true := by simp [inR]; omega
  rw [← wrapF_eq]; unfold wrapF
  rw [e]

theorem aMakeSlice_sound {sz : Nat} {t : TypeId} {l c l' c' v : Value} {o : Blk} (he : aMakeSlice P sz t l c = some (v, o)) (rl : VRel m h l l') (rc : VRel m h c c') :
    Lays P m h w sz (some o) v ((Instr.makeSlice t l' c').run P w) := by
  unfold aMakeSlice at he
  split at he
  · rename_i elem k1 l k2 c hu
    obtain rfl := rl.of_int
    obtain rfl := rc.of_int
    split at he
    · rename_i i zero hi hz
      split at he
      · cases he
      · rename_i hc
        simp only [Bool.or_eq_true, decide_eq_true_eq, not_or, Int.not_lt, gt_iff_lt, Nat.not_lt] at hc
        obtain ⟨⟨⟨⟨⟨hc1, hc2⟩, hc3⟩, hc4⟩, hc5⟩, hc6⟩ := hc
        cases he
        obtain ⟨z, h1, h2, h3⟩ := run_zero (w := w) hz
        have hs : tsize P elem = some i.size := by simp [tsize, hi]
        have hzs : z.cells.size = i.size := by
          have : z.cells.toList.length = i.size := by rw [cells_toList, h2]; simpa using hc2
          simpa using this
        have hb : (i.bytes : Int) * c ≤ 2 ^ 48 := by
          have h1 : (i.bytes : Int) ≤ 32768 := by omega
          have : (i.bytes : Int) * c ≤ 32768 * 2147483647 := Int.mul_le_mul h1 hc5 (by omega) (by omega)
          omega
        have e : ∀ y : Array Value, (if c.toNat * i.size = 0 then y = #[] else y = z.cells) → ((Array.range (c.toNat * i.size)).map (y[· % y.size]!)).toList = repL zero c.toNat := by
          intro y hy
          split at hy
          · rename_i h0
            have hl : c.toNat = 0 := by
              rcases Nat.mul_eq_zero.1 h0 with h0 | h0
              · exact h0
              · exact absurd h0 hc1
            rw [hl]; simp [repL]
          · subst hy
            rw [← hzs, range_zero _ _ (.inr (by omega)), cells_toList, h2]
        have hrun : ∃ y : Array Value, (if c.toNat * i.size = 0 then y = #[] else y = z.cells) ∧ (Instr.makeSlice t (.int k1 l) (.int k2 c)).run P w =
            .ok (.slice (some ⟨w.heap.size, 0, none⟩) l.toNat c.toNat) (w.alloc (.cells ((Array.range (c.toNat * i.size)).map (y[· % y.size]!)) elem)) := by
          by_cases h0 : c.toNat * i.size = 0
          · refine ⟨#[], by rw [if_pos h0], ?_⟩
            simp only [Instr.makeSlice, Sem.run_bind, run_under hu, Result.andThen_ok, asInt, asIntOf, Sem.run_pure, run_info hi, wrap_small (show 0 ≤ c by omega) hc5, wrap_small hc3 (show l ≤ 2147483647 by omega), run_askRoom, run_size hs]
            rw [if_neg (by simp; omega)]
            simp only [Sem.run_bind, Sem.run_pure, Result.andThen_ok, run_askRoom, run_size hs, h0, if_true]
            rfl
          · refine ⟨z.cells, by rw [if_neg h0], ?_⟩
            simp only [Instr.makeSlice, Sem.run_bind, run_under hu, Result.andThen_ok, asInt, asIntOf, Sem.run_pure, run_info hi, wrap_small (show 0 ≤ c by omega) hc5, wrap_small hc3 (show l ≤ 2147483647 by omega), run_askRoom, run_size hs]
            rw [if_neg (by simp; omega)]
            simp only [Sem.run_bind, Sem.run_pure, Result.andThen_ok, run_askRoom, run_size hs]
            rw [if_neg h0]
            simp only [Sem.run_bind, Sem.run_pure, Result.andThen_ok, h1]
            rfl
        obtain ⟨y, hy, hrun⟩ := hrun
        have ey := e y hy
        have hsz : ((Array.range (c.toNat * i.size)).map (y[· % y.size]!)).size = c.toNat * i.size := by simp
        refine ⟨_, _, _, hrun, ?_, cells_new_all (by rw [ey]; exact VRelL.flats (repL_flat h3 _))⟩
        refine .slice (by omega) (.inr ⟨0, _, updM_self, .inl rfl, fun hh => by omega, fun _ => ?_⟩)
        rw [hsz, show (3 * i.size + 1) / 3 = i.size from by omega]
        omega
    · cases he
  · cases he

/-! ### Places -/
theorem addr_add (b off n : Nat) : (⟨b, off, none⟩ : Addr).add n = ⟨b, off + n, none⟩ := by unfold Addr.add; split <;> simp_all
theorem VRel.add {b off r off' n : Nat} (hh : h b = some .dead ∨ ∃ δ E, m b = some (r, δ, E) ∧ off' = δ + off) :
    VRel m h (.pointer (some ⟨b, off + n, none⟩)) (.pointer (some ⟨r, off' + n, none⟩)) := by
  refine .ptr ?_
  rcases hh with hh | ⟨δ, E, h1, h2⟩
  · exact .inl hh
  · exact .inr ⟨δ, E, h1, by omega⟩

theorem aFieldAddr_sound {s : TypeId} {x x' v : Value} {f : Nat} (he : aFieldAddr P s x f = some v) (rx : VRel m h x x') :
    ∃ v', (Instr.fieldAt s x' f).run P w = .ok v' w ∧ VRel m h v v' := by
  unfold aFieldAddr at he
  split at he
  · rename_i fields a hu
    split at he
    · rename_i fd hf
      split at he
      · cases he
      · rename_i n hn0 hn
        cases he
        obtain ⟨b, off, r, off', rfl, rfl, hh⟩ := rx.of_ptr
        refine ⟨_, ?_, VRel.add hh⟩
        have hn1 : n ≠ 0 := fun e => hn0 e
        simp [Instr.fieldAt, run_under hu, hf, Instr.sureAddr, fieldPlace, run_size hn, hn1, addr_add]
      · cases he
    · cases he
  · cases he

theorem aIndexAddr_sound {t : TypeId} {x x' ix ix' v : Value} (he : aIndexAddr P t x ix = some v) (rx : VRel m h x x') (ri : VRel m h ix ix') :
    ∃ v', (Instr.indexAt t x' ix').run P w = .ok v' w ∧ VRel m h v v' := by
  unfold aIndexAddr at he
  split at he
  · obtain rfl := ri.of_int
    split at he
    · rename_i k i _ len elem a hu
      split at he
      · rename_i n hn
        split at he
        · rename_i hb
          cases he
          obtain ⟨b, off, r, off', rfl, rfl, hh⟩ := rx.of_ptr
          refine ⟨_, ?_, VRel.add hh⟩
          simp [Instr.indexAt, asIntOf, run_under hu, Instr.sureAddr, hb, run_size hn, addr_add]
        · cases he
      · cases he
    · rename_i kk i od xv elem a len c hu
      split at he
      · rename_i n hn
        split at he
        · rename_i hb
          cases he
          obtain ⟨b, off, r, off', cap, rfl, rfl, hlc, hh⟩ := rx.of_slice
          refine ⟨.pointer (some ⟨r, off' + i.toNat * n, none⟩), ?_, ?_⟩
          · simp [Instr.indexAt, asIntOf, run_under hu, hb, run_size hn, addr_add]
          · refine .ptr ?_
            rcases hh with hh | ⟨δ, E, h1, h2, _⟩
            · exact .inl hh
            · refine .inr ⟨δ, E, h1, ?_⟩
              show off' + i.toNat * n = δ + (off + i.toNat * n)
              rcases h2 with h2 | h2
              · omega
              · omega
        · cases he
      · cases he
    · cases he
  · cases he

theorem aIndex_sound {t : TypeId} {x x' ix ix' v : Value} (he : aIndex P t x ix = some v) (rx : VRel m h x x') (ri : VRel m h ix ix') :
    ∃ v', (Instr.index t x' ix').run P w = .ok v' w ∧ VRel m h v v' := by
  unfold aIndex at he
  split at he
  · obtain rfl := ri.of_int
    split at he
    · rename_i k i _ len elem cs hu
      split at he
      · rename_i n hn
        split at he
        · rename_i hb
          obtain ⟨cs', rfl, rc⟩ := rx.of_agg
          obtain ⟨v', h1, h2⟩ := run_part (w := w) he rc
          exact ⟨v', by simp [Instr.index, asIntOf, run_under hu, hb, run_size hn, h1], h2⟩
        · cases he
      · cases he
    · rename_i kk i od xv s hu
      obtain rfl := rx.of_string
      split at he
      · rename_i h0
        obtain ⟨b, hb, rfl⟩ := Option.map_eq_some_iff.1 he
        refine ⟨_, ?_, .flat rfl⟩
        have hlt : i.toNat < s.size := by
          have := (List.getElem?_eq_some_iff.1 hb).1
          rw [Lib.size_eq]; exact this
        have e : s[i.toNat]? = some b := by
          rw [getElem?_pos s i.toNat hlt]
          have := (List.getElem?_eq_some_iff.1 hb).2
          simp only [Array.getElem_toList] at this
          rw [← this]; rfl
        simp only [Instr.index, Sem.run_bind, asIntOf, Sem.run_pure, Result.andThen_ok, run_under hu]
        rw [if_pos h0, e]
        rfl
      · cases he
    · cases he
  · cases he

theorem aField_sound {t : TypeId} {x x' v : Value} {f : Nat} (he : aField P t x f = some v) (rx : VRel m h x x') :
    ∃ v', (Instr.field t x' f).run P w = .ok v' w ∧ VRel m h v v' := by
  unfold aField at he
  split at he
  · rename_i fields cs hu
    split at he
    · rename_i fd hf
      obtain ⟨cs', rfl, rc⟩ := rx.of_agg
      obtain ⟨v', h1, h2⟩ := run_part (w := w) he rc
      exact ⟨v', by simp [Instr.field, run_under hu, hf, asAgg, h1], h2⟩
    · cases he
  · cases he

/-! ### Slices -/
theorem bound_sound {x : Value} {x' : Value} {y n : Nat} {code : BoundsCode} {d : Nat} (he : bound (some x) d y = some n) (rx : VRel m h x x') (z : Nat) (hz : y ≤ z) :
    (Instr.sliceBound x' z code).run P w = .ok n w ∧ n ≤ y := by
  unfold bound at he
  split at he
  · rename_i hx; cases hx
  · rename_i k i hx
    cases hx
    obtain rfl := rx.of_int
    split at he
    · rename_i hb
      cases he
      refine ⟨?_, by omega⟩
      simp only [Instr.sliceBound, Sem.run_bind, asIntOf, Sem.run_pure, Result.andThen_ok]
      rw [if_pos ⟨hb.1, by omega⟩]
      rfl
    · cases he
  · cases he

/-- Two optional numbers. -/
def ORel (m : BM) (h : HG) (a b : Option Value) : Prop :=
  match a, b with
  | none, none => True
  | some x, some y => VRel m h x y
  | _, _ => False
theorem ORel.map {ρ ρ' : Operand → Value} {x : Option Operand} (hr : ∀ y, x = some y → VRel m h (ρ y) (ρ' y)) : ORel m h (x.map ρ) (x.map ρ') := by
  cases x with
  | none => trivial
  | some y => exact hr y rfl

theorem lo_sound {lo lo' : Option Value} {hh l : Nat} {code : BoundsCode} (he : bound lo 0 hh = some l) (r : ORel m h lo lo') :
    (match lo' with | some v => Instr.sliceBound v hh code | none => pure 0 : Sem Nat).run P w = .ok l w ∧ l ≤ hh := by
  cases lo with
  | none =>
    cases lo' with
    | none => simp [bound] at he; subst he; exact ⟨rfl, Nat.zero_le _⟩
    | some _ => exact r.elim
  | some x =>
    cases lo' with
    | none => exact r.elim
    | some y => exact bound_sound he r hh (Nat.le_refl _)

theorem bounds_run {isS : Bool} {len cap hh l y : Nat} {lo lo' hi hi' : Option Value} (hy : y ≤ cap) (hb : bound hi len y = some hh) (hl : bound lo 0 hh = some l) (rh : ORel m h hi hi') (rl : ORel m h lo lo') :
    (Instr.sliceBounds isS len cap lo' hi' none).run P w = .ok (l, hh, cap) w ∧ l ≤ hh := by
  have h2 := (lo_sound (P := P) (w := w) (code := .sliceB) hl rl)
  refine ⟨?_, h2.2⟩
  have h2 := h2.1
  cases hi with
  | none => cases hi' with
    | some _ => exact rh.elim
    | none =>
      simp [bound] at hb; subst hb
      cases lo' with
      | none => simp [Instr.sliceBounds] at h2 ⊢; exact h2
      | some b => simp at h2; simp [Instr.sliceBounds, h2]
  | some x => cases hi' with
    | none => exact rh.elim
    | some z =>
      have h1 := (bound_sound (P := P) (w := w) (code := if isS then .sliceAcap else .sliceAlen) hb rh cap hy).1
      cases lo' with
      | none => simp at h2; simp [Instr.sliceBounds, h1, h2]
      | some b => simp at h2; simp [Instr.sliceBounds, h1, h2]
theorem bounds_max {len cap hh l mm y : Nat} {lo lo' : Option Value} {hi hi' mx mx' : Value} (hy : y ≤ cap) (hm : bound (some mx) len y = some mm) (hb : bound (some hi) len mm = some hh) (hl : bound lo 0 hh = some l)
    (rm : VRel m h mx mx') (rh : VRel m h hi hi') (rl : ORel m h lo lo') :
    (Instr.sliceBounds true len cap lo' (some hi') (some mx')).run P w = .ok (l, hh, mm) w ∧ l ≤ hh ∧ hh ≤ mm ∧ mm ≤ y := by
  have h2 := (lo_sound (P := P) (w := w) (code := .slice3C) hl rl)
  have h1 := (bound_sound (P := P) (w := w) (code := .slice3Acap) hm rm cap hy)
  have h3 := (bound_sound (P := P) (w := w) (code := .slice3B) hb rh mm (Nat.le_refl _))
  refine ⟨?_, h2.2, h3.2, h1.2⟩
  have h2 := h2.1
  cases lo' with
  | none => simp at h2; simp [Instr.sliceBounds, h1.1, h3.1, h2]
  | some b => simp at h2; simp [Instr.sliceBounds, h1.1, h3.1, h2]

theorem bound_le {x : Option Value} {d y n : Nat} (hd : d ≤ y) (he : bound x d y = some n) : n ≤ y := by
  unfold bound at he
  split at he
  · cases he; exact hd
  · split at he
    · cases he; omega
    · cases he
  · cases he

theorem aSlice_sound {t : TypeId} {x x' v : Value} {lo hi mx lo' hi' mx' : Option Value} (he : aSlice P t x lo hi mx = some v) (rx : VRel m h x x') (rl : ORel m h lo lo') (rh : ORel m h hi hi') (rm : ORel m h mx mx') :
    ∃ v', (Instr.sliceAt t x' lo' hi' mx').run P w = .ok v' w ∧ VRel m h v v' := by
  unfold aSlice at he
  split at he
  · rename_i s hu
    obtain rfl := rx.of_string
    split at he
    · cases he
    · cases mx' with
      | some _ => exact rm.elim
      | none =>
        split at he
        · cases he
        · rename_i hv hb
          split at he
          · cases he
          · rename_i l hl
            cases he
            refine ⟨.string (s.extract l hv), ?_, by rw [Lib.extract_eq]; exact .flat rfl⟩
            have hrun := (bounds_run (P := P) (w := w) (isS := false) (Nat.le_refl _) hb hl rh rl).1
            simp [Instr.sliceAt, run_under hu, Instr.slice, hrun]
  · rename_i elem hu
    obtain rfl := rx.of_flat rfl
    split at he
    · rename_i n a1 b1 c1 hn ha hb hc
      split at he
      · cases he
      · rename_i hnn
        cases he
        have ha0 := bound_le (Nat.le_refl 0) ha
        have hb0 := bound_le (Nat.le_refl 0) hb
        have hc0 := bound_le (Nat.le_refl 0) hc
        obtain rfl : a1 = 0 := by omega
        obtain rfl : b1 = 0 := by omega
        obtain rfl : c1 = 0 := by omega
        refine ⟨.slice none 0 0, ?_, .flat rfl⟩
        cases mx with
        | none => cases mx' with
          | some _ => exact rm.elim
          | none =>
            have hrun := (bounds_run (P := P) (w := w) (isS := true) (Nat.le_refl 0) ha hb rh rl).1
            simp [Instr.sliceAt, run_under hu, Instr.slice, hrun, run_size hn]
        | some y => cases mx' with
          | none => exact rm.elim
          | some z => cases hi with
            | none => simp at hnn
            | some u => cases hi' with
              | none => exact rh.elim
              | some u' =>
                have hrun := (bounds_max (P := P) (w := w) (Nat.le_refl 0) hc ha hb rm rh rl).1
                simp [Instr.sliceAt, run_under hu, Instr.slice, hrun, run_size hn]
    · cases he
  · rename_i elem a len c hu
    obtain ⟨b, off, r, off', cap, rfl, rfl, hlc, hh⟩ := rx.of_slice
    split at he
    · cases he
    · rename_i size hs
      split at he
      · cases mx' with
        | some _ => exact rm.elim
        | none =>
          split at he
          · cases he
          · rename_i h2 hb
            split at he
            · cases he
            · rename_i l hl
              cases he
              obtain ⟨hrun, hlh⟩ := (bounds_run (P := P) (w := w) (isS := true) hlc hb hl rh rl)
              have h2l := bound_le (Nat.le_refl len) hb
              refine ⟨.slice (some ⟨r, if cap = l then off' else off' + l * size, none⟩) (h2 - l) (cap - l), ?_, ?_⟩
              · simp only [Instr.sliceAt, Sem.run_bind, run_under hu, Result.andThen_ok, Instr.slice, hrun, run_size hs, Sem.run_pure]
                split <;> simp [addr_add]
              · refine .slice (by omega) ?_
                rcases hh with hh | ⟨δ, E, h3, h4, h5, h6⟩
                · exact .inl hh
                · refine .inr ⟨δ, E, h3, ?_, ?_, ?_⟩
                  · by_cases e : cap = l
                    · exact .inr (by omega)
                    · rw [if_neg e]
                      rcases h4 with h4 | h4
                      · exact .inl (by dsimp only; omega)
                      · exact .inr (by omega)
                  · intro hz
                    split at hz
                    · rename_i hf
                      unfold flagOf at hf
                      omega
                    · split at hz
                      · rename_i hf
                        unfold flagOf at hf
                        have := h5 hf.1
                        omega
                      · omega
                  · intro hz
                    split at hz
                    · rename_i hf
                      rw [if_pos hf]
                      unfold flagOf wide at hf
                      have := h6 hf.1
                      rw [hf.2] at this ⊢
                      dsimp only
                      have hm : (cap - l) * size + l * size = cap * size := by rw [← Nat.add_mul]; congr 1; omega
                      omega
                    · split at hz
                      · rename_i hf
                        unfold flagOf at hf
                        omega
                      · omega
      · rename_i my
        cases mx' with
        | none => exact rm.elim
        | some mz =>
          split at he
          · rename_i mm hiv hmm
            cases hi' with
            | none => exact rh.elim
            | some hz' =>
              split at he
              · cases he
              · rename_i h2 hb
                split at he
                · cases he
                · rename_i l hl
                  cases he
                  obtain ⟨hrun, hlh, hhm, hml⟩ := (bounds_max (P := P) (w := w) hlc hmm hb hl rm rh rl)
                  refine ⟨.slice (some ⟨r, if mm = l then off' else off' + l * size, none⟩) (h2 - l) (mm - l), ?_, ?_⟩
                  · simp only [Instr.sliceAt, Sem.run_bind, run_under hu, Result.andThen_ok, Instr.slice, hrun, run_size hs, Sem.run_pure]
                    split <;> simp [addr_add]
                  · refine .slice (by omega) ?_
                    rcases hh with hh | ⟨δ, E, h3, h4, h5, h6⟩
                    · exact .inl hh
                    · refine .inr ⟨δ, E, h3, ?_, ?_, ?_⟩
                      · by_cases e : mm = l
                        · exact .inr (by omega)
                        · rw [if_neg e]
                          rcases h4 with h4 | h4
                          · exact .inl (by dsimp only; omega)
                          · exact .inr (by omega)
                      · intro hz
                        split at hz <;> omega
                      · intro hz
                        split at hz <;> omega
          · cases he
  · cases he

/-! ### Builtins that only look at their arguments -/
theorem aLen_sound {t : TypeId} {x x' v : Value} {ts : Array TypeId} {ty : TypeId} {xs : Array Value} (he : aLen P t x = some v) (rx : VRel m h x x') (ht : ts[0]? = some t) (hx : xs[0]? = some x') :
    (Builtin.len_ ts ty xs).run P w = .ok v w ∧ AI.flat v = true := by
  unfold aLen at he
  split at he
  · rename_i s hu; obtain rfl := rx.of_string; cases he; exact ⟨by simp [Builtin.len_, ht, hx, run_under hu], rfl⟩
  · rename_i _ a n c hu; cases he
    cases a with
    | none =>
      obtain ⟨rfl, _, rfl⟩ := rx.of_nilslice
      exact ⟨by simp [Builtin.len_, ht, hx, run_under hu], rfl⟩
    | some a =>
      obtain ⟨_, _, _, _, _, _, rfl, _⟩ := rx.of_slice
      exact ⟨by simp [Builtin.len_, ht, hx, run_under hu], rfl⟩
  · rename_i hu; obtain rfl := rx.of_flat rfl; cases he; exact ⟨by simp [Builtin.len_, ht, hx, run_under hu], rfl⟩
  · cases he

theorem foldMin_sound : ∀ {xs : List Value} {x v : Value} {xs' : List Value} {x' : Value}, foldMin x xs = some v → VRel m h x x' → VRelL m h xs xs' →
    ∃ v', (xs'.foldlM Builtin.min2 x' : Sem Value).run P w = .ok v' w ∧ VRel m h v v'
  | [], x, v, xs', x', he, rx, rs => by
    simp [foldMin] at he; subst he; rw [rs.of_nil]; exact ⟨x', by simp, rx⟩
  | y :: ys, x, v, xs', x', he, rx, rs => by
    obtain ⟨y', ys', rfl, h1, h2⟩ := rs.of_cons
    cases x <;> cases y <;> simp [foldMin] at he
    obtain rfl := rx.of_int
    obtain rfl := h1.of_int
    obtain ⟨v', h3, h4⟩ := foldMin_sound he (.flat rfl) h2
    refine ⟨v', ?_, h4⟩
    rw [List.foldlM_cons]
    simp only [Builtin.min2, Sem.run_bind, Sem.run_pure, Result.andThen_ok]
    exact h3
theorem foldMax_sound : ∀ {xs : List Value} {x v : Value} {xs' : List Value} {x' : Value}, foldMax x xs = some v → VRel m h x x' → VRelL m h xs xs' →
    ∃ v', (xs'.foldlM Builtin.max2 x' : Sem Value).run P w = .ok v' w ∧ VRel m h v v'
  | [], x, v, xs', x', he, rx, rs => by
    simp [foldMax] at he; subst he; rw [rs.of_nil]; exact ⟨x', by simp, rx⟩
  | y :: ys, x, v, xs', x', he, rx, rs => by
    obtain ⟨y', ys', rfl, h1, h2⟩ := rs.of_cons
    cases x <;> cases y <;> simp [foldMax] at he
    obtain rfl := rx.of_int
    obtain rfl := h1.of_int
    obtain ⟨v', h3, h4⟩ := foldMax_sound he (.flat rfl) h2
    refine ⟨v', ?_, h4⟩
    rw [List.foldlM_cons]
    simp only [Builtin.max2, Sem.run_bind, Sem.run_pure, Result.andThen_ok]
    exact h3

theorem VRelL.map {ρ ρ' : Operand → Value} : ∀ {xs : List Operand}, (∀ x ∈ xs, VRel m h (ρ x) (ρ' x)) → VRelL m h (xs.map ρ) (xs.map ρ')
  | [], _ => .nil
  | x :: xs, hr => .cons (hr x (.head _)) (VRelL.map fun y hy => hr y (.tail _ hy))

theorem aPureCall_sound {b : Builtin} {ts : Array TypeId} {ty : TypeId} {cs : Array Bool} {xs : List Value} {xs' : Array Value} {v : Value} (he : aPureCall P b ts.toList xs = some v) (rs : VRelL m h xs xs'.toList) :
    ∃ v', (builtin b ts ty cs xs').run P w = .ok (.value v') w ∧ VRel m h v v' := by
  unfold aPureCall at he
  split at he
  · rename_i t _ x _ ht
    obtain ⟨x', xr, hx, h1, h2⟩ := rs.of_cons
    have ht0 : ts[0]? = some t := by
      have : ts.toList[0]? = some t := by rw [ht]; rfl
      simpa using this
    have hx0 : xs'[0]? = some x' := by
      have : xs'.toList[0]? = some x' := by rw [hx]; rfl
      simpa using this
    obtain ⟨h3, h4⟩ := aLen_sound (P := P) (w := w) (ty := ty) he h1 ht0 hx0
    exact ⟨v, by simp [builtin, h3], .flat h4⟩
  · obtain ⟨x', xr, hx, h1, h2⟩ := rs.of_cons
    obtain ⟨v', h3, h4⟩ := foldMin_sound (P := P) (w := w) he h1 h2
    refine ⟨v', ?_, h4⟩
    simp only [builtin, Sem.run_bind, Builtin.min_, hx, h3, Result.andThen_ok, Sem.run_pure]
  · obtain ⟨x', xr, hx, h1, h2⟩ := rs.of_cons
    obtain ⟨v', h3, h4⟩ := foldMax_sound (P := P) (w := w) he h1 h2
    refine ⟨v', ?_, h4⟩
    simp only [builtin, Sem.run_bind, Builtin.max_, hx, h3, Result.andThen_ok, Sem.run_pure]
  · cases he

/-! ### All of them -/
theorem prel_map {ρ ρ' : Operand → Value} : ∀ {ps : List (Nat × Operand)}, (∀ p ∈ ps, VRel m h (ρ p.2) (ρ' p.2)) → PRel m h (ps.map fun p => (p.1, ρ p.2)) (ps.map fun p => (p.1, ρ' p.2))
  | [], _ => trivial
  | p :: ps, hr => ⟨rfl, hr p (.head _), prel_map fun q hq => hr q (.tail _ hq)⟩

/-- What an operation comes to, told of what it answers. -/
def LaysN (P : Program) (m : BM) (h : HG) (w : World) (sz : Nat) (ob : Option Blk) (v : Value) (r : Result Next) : Prop :=
  match ob with
  | none => ∃ v', r = .ok (.value v') w ∧ VRel m h v v'
  | some o => ∃ v' obj E, r = .ok (.value v') (w.alloc obj) ∧ VRel (updM m sz (w.heap.size, 0, E)) (updH h sz o) v v' ∧
      ∀ m' h', Le m h m' h' → BRel m' h' (w.alloc obj) (w.heap.size, 0, E) o
theorem Lays.next {sz : Nat} {ob : Option Blk} {v : Value} {s : Sem Value} (hl : Lays P m h w sz ob v (s.run P w)) : LaysN P m h w sz ob v ((do pure (.value (← s)) : Sem Next).run P w) := by
  cases ob with
  | none => obtain ⟨v', h1, h2⟩ := hl; exact ⟨v', by simp [h1], h2⟩
  | some o => obtain ⟨v', obj, E, h1, h2⟩ := hl; exact ⟨v', obj, E, by simp [h1], h2⟩
theorem lays_none {sz : Nat} {v : Value} {r : Result Value} (hr : ∃ v', r = .ok v' w ∧ VRel m h v v') : Lays P m h w sz none v r := hr

theorem opP_sound {ρ ρ' : Operand → Value} {o : Oper} {sz : Nat} {v : Value} {ob : Option Blk} (he : opP P ρ sz o = some (v, ob)) (hr : ∀ x ∈ o.op.operands.toList, VRel m h (ρ x) (ρ' x)) :
    LaysN P m h w sz ob v ((execOp ρ' o).run P w) := by
  obtain ⟨dst, op, type, pos, after, guard⟩ := o
  unfold opP at he
  simp only at he hr
  split at he
  · cases he; exact ⟨_, rfl, hr _ (by simp [Op.operands])⟩
  · cases he; exact ⟨_, rfl, hr _ (by simp [Op.operands])⟩
  · rename_i c a b
    have hc := hr c (by simp [Op.operands])
    split at he
    · rename_i hb; rw [hb] at hc; cases he
      exact ⟨_, by simp [execOp, hc.of_bool, asBool], hr _ (by simp [Op.operands])⟩
    · rename_i hb; rw [hb] at hc; cases he
      exact ⟨_, by simp [execOp, hc.of_bool, asBool], hr _ (by simp [Op.operands])⟩
    · cases he
  · obtain ⟨z, hz, hvo⟩ := Option.map_eq_some_iff.1 he
    cases hvo
    exact (alloc_sound hz).next
  · cases he
    exact (box_sound (hr _ (by simp [Op.operands]))).next
  · rename_i t parts
    obtain ⟨z, hz, hvo⟩ := Option.map_eq_some_iff.1 he
    cases hvo
    refine Lays.next (s := Instr.build t (parts.map fun (i, x) => (i, ρ' x))) (lays_none (aBuild_sound hz ?_))
    have := prel_map (m := m) (h := h) (ρ := ρ) (ρ' := ρ') (ps := parts.toList) (fun p hp => hr p.2 (by simp [Op.operands]; exact ⟨p.1, by simpa using hp⟩))
    simpa using this
  · rename_i t len parts
    obtain ⟨⟨z1, z2⟩, hz, hvo⟩ := Option.map_eq_some_iff.1 he
    cases hvo
    have hp := prel_map (m := m) (h := h) (ρ := ρ) (ρ' := ρ') (ps := parts.toList) (fun p hp => hr p.2 (by simp [Op.operands]; exact ⟨p.1, by simpa using hp⟩))
    have := aBuildSlice_sound (w := w) (qs := parts.map fun p => (p.1, ρ' p.2)) hz (by simpa using hp)
    exact this.next
  · rename_i x
    have hx := hr x (by simp [Op.operands])
    split at he
    · rename_i a hb; rw [hb] at hx; cases he
      obtain ⟨b, off, r, off', rfl, hv, hh⟩ := hx.of_ptr
      exact ⟨_, by simp [execOp, hv], .ptr hh⟩
    · cases he
  · rename_i op t x y yt
    obtain ⟨z, hz, hvo⟩ := Option.map_eq_some_iff.1 he
    cases hvo
    obtain ⟨h1, h2⟩ := aBin_sound (w := w) (ox := x) (oy := y) hz (hr x (by simp [Op.operands])) (hr y (by simp [Op.operands]))
    refine ⟨v, ?_, .flat h2⟩
    simp only [execOp]
    rw [Sem.run_bind, h1]
    rfl
  · rename_i op t x
    obtain ⟨z, hz, hvo⟩ := Option.map_eq_some_iff.1 he
    cases hvo
    obtain ⟨h1, h2⟩ := aUn_sound (P := P) (w := w) hz (hr x (by simp [Op.operands]))
    exact Lays.next (s := Op.unary op (ρ' x)) (lays_none ⟨_, h1, .flat h2⟩)
  · rename_i src dst x
    obtain ⟨z, hz, hvo⟩ := Option.map_eq_some_iff.1 he
    cases hvo
    obtain ⟨h1, h2⟩ := aConv_sound (P := P) (w := w) hz (hr x (by simp [Op.operands]))
    exact Lays.next (s := convert src dst (ρ' x)) (lays_none ⟨_, h1, .flat h2⟩)
  · rename_i f first captured
    cases he
    refine ⟨_, rfl, ?_⟩
    refine .func (by simp) ?_ (by simp) ?_
    · intro i v v' h1 h2
      simp only [Array.getElem?_map, Option.map_eq_some_iff] at h1 h2
      obtain ⟨a, ha, rfl⟩ := h1
      obtain ⟨b, hb, rfl⟩ := h2
      rw [ha] at hb; cases hb
      exact hr a (by simp only [Op.operands, Array.toList_append, List.mem_append]; exact .inl (Array.mem_toList_iff.2 (Array.mem_of_getElem? ha)))
    · intro i v v' h1 h2
      simp only [Array.getElem?_map, Option.map_eq_some_iff] at h1 h2
      obtain ⟨a, ha, rfl⟩ := h1
      obtain ⟨b, hb, rfl⟩ := h2
      rw [ha] at hb; cases hb
      exact hr a (by simp only [Op.operands, Array.toList_append, List.mem_append]; exact .inr (Array.mem_toList_iff.2 (Array.mem_of_getElem? ha)))
  · cases he
    refine ⟨.map (some w.heap.size), .map #[] 0, 0, rfl, .map (.inr ⟨_, updM_self⟩), ?_⟩
    intro m' h' l
    exact ⟨#[], by show (w.heap.push _)[_]? = _; simp, rfl, fun i e f h1 _ => by simp at h1⟩
  · rename_i t l c
    obtain ⟨⟨z1, z2⟩, hz, hvo⟩ := Option.map_eq_some_iff.1 he
    cases hvo
    have := aMakeSlice_sound (w := w) hz (hr l (by simp [Op.operands])) (hr c (by simp [Op.operands]))
    exact this.next
  · rename_i t x lo hi mx
    obtain ⟨z, hz, hvo⟩ := Option.map_eq_some_iff.1 he
    cases hvo
    exact Lays.next (s := Instr.sliceAt t (ρ' x) (lo.map ρ') (hi.map ρ') (mx.map ρ')) (lays_none (aSlice_sound hz (hr x (by simp [Op.operands]))
      (ORel.map fun y hy => hr y (by simp [Op.operands, hy])) (ORel.map fun y hy => hr y (by simp [Op.operands, hy])) (ORel.map fun y hy => hr y (by simp [Op.operands, hy]))))
  · rename_i s x f
    obtain ⟨z, hz, hvo⟩ := Option.map_eq_some_iff.1 he
    cases hvo
    exact Lays.next (s := Instr.fieldAt s (ρ' x) f) (lays_none (aFieldAddr_sound hz (hr x (by simp [Op.operands]))))
  · rename_i s x f
    obtain ⟨z, hz, hvo⟩ := Option.map_eq_some_iff.1 he
    cases hvo
    exact Lays.next (s := Instr.field s (ρ' x) f) (lays_none (aField_sound hz (hr x (by simp [Op.operands]))))
  · rename_i t x ix
    obtain ⟨z, hz, hvo⟩ := Option.map_eq_some_iff.1 he
    cases hvo
    exact Lays.next (s := Instr.indexAt t (ρ' x) (ρ' ix)) (lays_none (aIndexAddr_sound hz (hr x (by simp [Op.operands])) (hr ix (by simp [Op.operands]))))
  · rename_i t x ix
    obtain ⟨z, hz, hvo⟩ := Option.map_eq_some_iff.1 he
    cases hvo
    exact Lays.next (s := Instr.index t (ρ' x) (ρ' ix)) (lays_none (aIndex_sound hz (hr x (by simp [Op.operands])) (hr ix (by simp [Op.operands]))))
  · rename_i t ix
    have hx := hr t (by simp [Op.operands])
    split at he
    · rename_i vs hb; rw [hb] at hx
      obtain ⟨z, hz, hvo⟩ := Option.map_eq_some_iff.1 he
      cases hvo
      obtain ⟨vs', hv, h1, h2⟩ := hx.of_tuple
      have hlt : ix < vs'.size := h1 ▸ (Array.getElem?_eq_some_iff.1 hz).1
      refine ⟨vs'[ix], ?_, h2 ix v vs'[ix] hz (Array.getElem?_eq_getElem hlt)⟩
      simp [execOp, hv, Instr.extract, Array.getElem?_eq_getElem hlt]
    · cases he
  · rename_i c
    split at he
    · rename_i b hcal
      obtain ⟨z, hz, hvo⟩ := Option.map_eq_some_iff.1 he
      cases hvo
      have hargs : VRelL m h (c.args.toList.map ρ) (c.args.map ρ').toList := by
        rw [Array.toList_map]
        exact VRelL.map fun x hx => hr x (by simp only [Op.operands, Call.operands, hcal, Array.toList_append, List.mem_append]; exact .inr hx)
      obtain ⟨v', h1, h2⟩ := aPureCall_sound (P := P) (w := w) (ty := type) (cs := c.args.map fun | .const _ => true | _ => false) hz hargs
      refine ⟨v', ?_, h2⟩
      simp only [execOp, resolve, hcal, Sem.run_bind, Sem.run_pure, Result.andThen_ok, invoke]
      exact h1
    · cases he
  · cases he
end
end Go.Proofs.Ytjecepaaalfilaa.AI
