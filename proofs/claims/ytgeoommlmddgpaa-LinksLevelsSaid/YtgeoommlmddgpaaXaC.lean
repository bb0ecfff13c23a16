/- ViewsForget, of the given program: its runs (thalweglaw12.awake is told). -/
import Derived.Test.YtgeoommlmddgpaaXaB
import Derived.Test.YtgeoommlmddgpaaAi39
import Derived.Test.YtgeoommlmddgpaaRows
set_option linter.unusedVariables false
set_option linter.unusedSimpArgs false
set_option maxRecDepth 100000
namespace Go.Proofs.Ytgeoommlmddgpaa.LtA
open Go Go.Proofs Go.Proofs.Ytgeoommlmddgpaa.AI Go.RowKit

def p2 : Value := .pointer (some ⟨2, 0, none⟩)
section
variable (o : Blk) (vs ms : List ViewV) (n c : Nat) (lt lo lr keep : Int)
abbrev B6 : St := ⟨tmsOf [rowS 0 n c, levA lt lo lr, .int .i64 keep] 0 .leaf, heapOf [o, .dead] hp0, []⟩
end
end Go.Proofs.Ytgeoommlmddgpaa.LtA
namespace Go.Proofs.Ytgeoommlmddgpaa.LtA
open Go Go.Proofs Go.Proofs.Ytgeoommlmddgpaa.AI Go.RowKit

section
variable (call : CallF) (L X : List Value) (t2 : TypeId) (n c c2 i x : Nat)
end
end Go.Proofs.Ytgeoommlmddgpaa.LtA
namespace Go.Proofs.Ytgeoommlmddgpaa.LtA
open Go Go.Proofs Go.Proofs.Ytgeoommlmddgpaa.AI Go.RowKit

section
variable {L X : List Value} {t2 : TypeId} {n c c2 i x : Nat} {W : Base}
end
end Go.Proofs.Ytgeoommlmddgpaa.LtA
namespace Go.Proofs.Ytgeoommlmddgpaa.LtA
open Go Go.Proofs Go.Proofs.Ytgeoommlmddgpaa.AI Go.RowKit

end Go.Proofs.Ytgeoommlmddgpaa.LtA
namespace Go.Proofs.Ytgeoommlmddgpaa.LtA
open Go Go.Proofs Go.Proofs.Ytgeoommlmddgpaa.AI Go.RowKit

end Go.Proofs.Ytgeoommlmddgpaa.LtA
namespace Go.Proofs.Ytgeoommlmddgpaa.LtA
open Go Go.Proofs Go.Proofs.Ytgeoommlmddgpaa.AI Go.RowKit

def hcA (x : ViewV) : Value := .agg #[.bool x.n, .int .i64 x.t, .int .i64 x.o, .int .i64 x.r, .int .i64 x.d, .int .i64 x.i]
def pb (b off : Nat) : Value := .pointer (some ⟨b, off, none⟩)
section
variable (o : Blk) (vs ms : List ViewV) (n c : Nat) (lt lo lr keep : Int) (i : Nat) (x y : ViewV) (g : Nat → Value)
end
end Go.Proofs.Ytgeoommlmddgpaa.LtA
namespace Go.Proofs.Ytgeoommlmddgpaa.LtA
open Go Go.Proofs Go.Proofs.Ytgeoommlmddgpaa.AI Go.RowKit

/-! ### Plain facts -/
section
variable {lt lo lr keep : Int} {vs : List ViewV}
theorem right_one (h : rightB vs = true) {i : Nat} {x : ViewV} (hx : vs[i]? = some x) : oneV x = true := by
  have hi : i < vs.length := (List.getElem?_eq_some_iff.1 hx).1
  have := List.all_eq_true.1 h i (List.mem_range.2 hi)
  unfold rightAt at this
  rw [hx] at this
  exact (Bool.and_eq_true_iff.1 this).1
end
/-! ### The law's frame -/
theorem agg23 : tagg Try.prog 24 = some true := by kernel_rfl
section
variable {hp : Hp} {b : Nat} {us : List ViewV} {i : Nat} {p : ViewV}
theorem hload_ok (ho : RowAt hp b us) (h : us[i]? = some p) : aLoad Try.prog hp.get 24 (pb b (i * 7 + 1)) = some (hcA p) := by
  obtain ⟨ty, ro, rest, hg⟩ := ho
  unfold pb
  simp only [aLoad, hg, agg23, size23]
  have hi : i < us.length := (List.getElem?_eq_some_iff.1 h).1
  have hl := vrow_len us
  have e : ((vrow us).drop (i * 7 + 1)).take 6 = [.bool p.n, .int .i64 p.t, .int .i64 p.o, .int .i64 p.r, .int .i64 p.d, .int .i64 p.i] := by
    apply List.ext_getElem?
    intro j
    rw [List.getElem?_take]
    by_cases hj : j < 6
    · rw [if_pos hj, List.getElem?_drop, Nat.add_assoc]
      unfold vrow
      rw [flat_get vc 7 us (fun _ _ => rfl) i (1 + j) p h (by omega), Nat.add_comm 1 j]
      rfl
    · rw [if_neg hj, List.getElem?_eq_none (by simp; omega)]
  rw [getR_app (r := [.bool p.n, .int .i64 p.t, .int .i64 p.o, .int .i64 p.r, .int .i64 p.d, .int .i64 p.i]) (by unfold getR; rw [e]; rfl)]
  rfl
end
theorem fix11 {o : Blk} (ho : inertB o = true) : ∀ r : List Blk, ∀ i, i < 1 → ∀ o', (o :: r)[i]? = some o' → Fixed 0 o' := by
  intro r i hi o' h
  have : i = 0 := by omega
  subst this
  simp at h; subst h; exact inert_fixed ho 0
section
variable {vs ms : List ViewV} {hp : Hp} {s : Value}
end
end Go.Proofs.Ytgeoommlmddgpaa.LtA
namespace Go.Proofs.Ytgeoommlmddgpaa.LtA
open Go Go.Proofs Go.Proofs.Ytgeoommlmddgpaa.AI Go.RowKit Go.ChangeShapes

theorem cells3 : Try.prog.cellsOf 3 = 1 := by kernel_rfl
theorem cells4 : Try.prog.cellsOf 4 = 1 := by kernel_rfl
theorem cells23' : Try.prog.cellsOf 24 = 6 := by kernel_rfl
theorem cells34 : Try.prog.cellsOf 45 = 7 := by kernel_rfl
section
variable {H : Type} {enc : TypeId × Value → H} {W : World} {sp : Nat → Bool} {hd : Bool} {n : Nat} {cs : List Value} {x : DataW H × List MemPlace}
theorem view_of (h : DataW.trod enc Try.prog W 0 sp hd n 45 cs = some x) : ∃ p : ViewV, cs = vc p := by
  obtain ⟨hl, hf⟩ := trod_field Try.underlying45 h
  rw [cells34] at hl
  match cs, hl with
  | [v0, v1, v2, v3, v4, v5, v6], _ =>
    obtain ⟨_, _, k0⟩ := hf 0 _ rfl
    obtain ⟨_, _, k1⟩ := hf 1 _ rfl
    obtain ⟨i0, e0⟩ := trod_int Try.underlying3 k0
    obtain ⟨-, f1⟩ := trod_field Try.underlying24 k1
    obtain ⟨_, _, k10⟩ := f1 0 _ rfl
    obtain ⟨_, _, k11⟩ := f1 1 _ rfl
    obtain ⟨_, _, k12⟩ := f1 2 _ rfl
    obtain ⟨_, _, k13⟩ := f1 3 _ rfl
    obtain ⟨_, _, k14⟩ := f1 4 _ rfl
    obtain ⟨_, _, k15⟩ := f1 5 _ rfl
    obtain ⟨b, e1⟩ := trod_bool Try.underlying4 k10
    obtain ⟨i2, e2⟩ := trod_int Try.underlying3 k11
    obtain ⟨i3, e3⟩ := trod_int Try.underlying3 k12
    obtain ⟨i4, e4⟩ := trod_int Try.underlying3 k13
    obtain ⟨i5, e5⟩ := trod_int Try.underlying3 k14
    obtain ⟨i6, e6⟩ := trod_int Try.underlying3 k15
    simp [cells3, cells4, cells23'] at e0 e1 e2 e3 e4 e5 e6
    subst e0 e1 e2 e3 e4 e5 e6
    exact ⟨⟨i0, b, i2, i3, i4, i5, i6⟩, rfl⟩
end
theorem list_of {α : Type} {R : Nat → α → Prop} : ∀ n, (∀ i, i < n → ∃ p, R i p) → ∃ ps : List α, ps.length = n ∧ ∀ i p, ps[i]? = some p → R i p
  | 0, _ => ⟨[], rfl, fun i p h => by simp at h⟩
  | n + 1, h => by
    obtain ⟨ps, h1, h2⟩ := list_of n (fun i hi => h i (by omega))
    obtain ⟨q, hq⟩ := h n (by omega)
    refine ⟨ps ++ [q], by simp [h1], fun i p hp => ?_⟩
    by_cases hi : i < ps.length
    · rw [List.getElem?_append_left hi] at hp; exact h2 i p hp
    · rw [List.getElem?_append_right (by omega)] at hp
      have : i - ps.length = 0 := by
        have := (List.getElem?_eq_some_iff.1 hp).1
        simp at this; omega
      rw [this] at hp
      simp at hp
      subst hp
      have : i = n := by omega
      rw [this]; exact hq
/-- A row of views, as it lies. -/
theorem vrow_of {H : Type} {enc : TypeId × Value → H} {W : World} {sp : Nat → Bool} {hd : Bool} {fuel : Nat} {r off n c : Nat} {x : DataW H × List MemPlace} (h : DataW.trod enc Try.prog W 0 sp hd fuel 22 [.slice (some ⟨r, off, none⟩) n c] = some x) (hn : 0 < n) :
    ∃ (ps : List ViewV) (arr : Array Value) (ty : TypeId) (fr : Nat × Nat), ps.length = n ∧ W.heap[r]? = some (.cells arr ty fr) ∧ off + (vrow ps).length ≤ arr.size ∧
      ∀ (i : Nat) (v v' : Value), (vrow ps)[i]? = some v → arr[off + i]? = some v' → VRel bm0 (fun _ => none) v v' := by
  rcases Go.Deep.open_slice Try.underlying22 h with ⟨h0, _⟩ | ⟨a, len, cap, m, k, D, Pl, e0, _, hlc, _, hm, _, hel⟩
  · simp at h0
  simp only [List.cons.injEq, Value.slice.injEq, Option.some.injEq, and_true] at e0
  obtain ⟨rfl, rfl, rfl⟩ := e0
  have hmn : n ≤ m := by rw [hm]; split <;> omega
  rw [cells34] at hel
  have hw : ∀ i, i < n → ∃ p : ViewV, ∀ j, j < 7 → W.cell? ⟨r, off + (i * 7 + j), none⟩ = (vc p)[j]? := by
    intro i hi
    obtain ⟨cs, h1, h2⟩ := hel i (by omega)
    obtain ⟨p, rfl⟩ := view_of h2
    obtain ⟨_, h5, h6⟩ := World.cells?_some h1
    refine ⟨p, fun j hj => ?_⟩
    have := h6 j hj
    rw [Addr.add_lit, Addr.add_lit, Nat.add_assoc] at this
    exact this
  obtain ⟨ps, hl, hps⟩ := list_of (R := fun i (p : ViewV) => ∀ j, j < 7 → W.cell? ⟨r, off + (i * 7 + j), none⟩ = (vc p)[j]?) n hw
  have hcell : ∀ i j, i < n → j < 7 → ∃ v, W.cell? ⟨r, off + (i * 7 + j), none⟩ = some v := by
    intro i j hi hj
    obtain ⟨p, h1⟩ := hw i hi
    rw [h1 j hj]
    have : (vc p).length = 7 := rfl
    rw [List.getElem?_eq_getElem (by omega)]
    exact ⟨_, rfl⟩
  obtain ⟨arr, ty, fr, hc⟩ : ∃ arr ty fr, W.heap[r]? = some (.cells arr ty fr) := by
    obtain ⟨v, hv⟩ := hcell 0 0 hn (by omega)
    unfold World.cell? at hv
    split at hv
    · rename_i arr ty fr hc; exact ⟨arr, ty, fr, hc⟩
    · cases hv
  have hlen : (vrow ps).length = n * 7 := by rw [vrow_len, hl]
  refine ⟨ps, arr, ty, fr, hl, hc, ?_, fun i v v' q1 q2 => ?_⟩
  · obtain ⟨v, hv⟩ := hcell (n - 1) 6 (by omega) (by omega)
    rw [cell_of hc] at hv
    have := (Array.getElem?_eq_some_iff.1 hv).1
    rw [hlen]
    omega
  · have hi : i < n * 7 := by rw [← hlen]; exact (List.getElem?_eq_some_iff.1 q1).1
    have hq : i / 7 < ps.length := by rw [hl]; exact Nat.div_lt_of_lt_mul (by rw [Nat.mul_comm]; exact hi)
    have hp : ps[i / 7]? = some ps[i / 7] := List.getElem?_eq_getElem hq
    have hsplit : i = i / 7 * 7 + i % 7 := by omega
    have hj : i % 7 < 7 := Nat.mod_lt _ (by omega)
    have h1 := hps _ _ hp
    have g1 := flat_get vc 7 ps (fun _ _ => rfl) (i / 7) (i % 7) _ hp hj
    rw [← hsplit] at g1
    have g2 := h1 (i % 7) hj
    rw [← hsplit, cell_of hc, q2] at g2
    have hvrow : (vrow ps)[i]? = (ps.flatMap vc)[i]? := rfl
    rw [hvrow, g1, ← g2] at q1
    cases q1
    have hfl : AI.flat v = true := by
      have hm := List.mem_of_getElem? g2.symm
      unfold vc at hm
      simp only [List.mem_cons, List.not_mem_nil, or_false] at hm
      rcases hm with rfl | rfl | rfl | rfl | rfl | rfl | rfl <;> rfl
    exact .flat hfl
theorem sim_dead {m : BM} {o : Blk} {W : World} (s : Sim m (heapOf [o] hp0).get W) : Sim m (heapOf [o, .dead] hp0).get W := by
  have hsub : ∀ b o', (heapOf [o] hp0).get b = some o' → (heapOf [o, .dead] hp0).get b = some o' := by
    intro b o' h
    rw [heapOf0_get] at h ⊢
    match b with
    | 0 => exact h
    | b + 1 => simp at h
  have hle : Le m (heapOf [o] hp0).get m (heapOf [o, .dead] hp0).get := ⟨fun b h => hsub b _ h, fun b x h => .inr h⟩
  refine ⟨fun b x hx => ?_, fun b b' x x' hx hx' hr hl e => ?_⟩
  · obtain ⟨o', h1, h2⟩ := s.dom b x hx
    exact ⟨o', hsub _ _ h1, h2.mono hle rfl⟩
  · obtain ⟨o1, h1, _⟩ := s.dom b x hx
    obtain ⟨o2, h2, _⟩ := s.dom b' x' hx'
    refine s.inj b b' x x' hx hx' ?_ ?_ e
    · unfold rw? at hr ⊢; rw [hsub _ _ h1] at hr; rw [h1]; exact hr
    · unfold live? at hl ⊢; rw [hsub _ _ h2] at hl; rw [h2]; exact hl
theorem ro2_cells {ty : TypeId} {L : List Value} (b : Nat) : rw? (heapOf [Blk.cells ty L true, .dead] hp0).get b = false := by
  unfold rw?
  rw [heapOf0_get]
  match b with
  | 0 => rfl
  | 1 => rfl
  | b + 2 => rfl
theorem ro2_dead (b : Nat) : rw? (heapOf [Blk.dead, .dead] hp0).get b = false := by
  unfold rw?
  rw [heapOf0_get]
  match b with
  | 0 => rfl
  | 1 => rfl
  | b + 2 => rfl
theorem valw_slice {w : World} {r : Reach} {base : Nat} {t e : TypeId} {v : Value} (ht : Try.prog.underlying t = some (.slice e)) (h : Value.okWide Try.prog w r base t v) : v = .slice none 0 0 ∨ ∃ b off n c, v = .slice (some ⟨b, off, none⟩) n c ∧ n ≤ c := by
  unfold Value.okWide at h
  rw [ht] at h
  exact cellw_slice ht h
theorem sim_bm0 {h : HG} {W : World} : Sim bm0 h W := ⟨fun b x h => (by cases h), fun b b' x x' h => (by cases h)⟩
theorem own : ownKnob Try.prog.godebug = none := by kernel_rfl
end Go.Proofs.Ytgeoommlmddgpaa.LtA
