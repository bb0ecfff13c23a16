/- RouterNil, of the given program: whatever the call and the destination, the law returns true, and the arguments read as they did. No condition. (For the seat of RouterNil: alias Tryz, RouterNil 4, awake 16, Op type 45.) -/
import Derived.Test.YtdnmcelmblgpbaaGreatRnV
import Derived.Test.YtdnmcelmblgpbaaGreatRows
set_option linter.unusedVariables false
set_option linter.unusedSimpArgs false
set_option maxRecDepth 100000
namespace Go.Proofs.YtdnmcelmblgpbaaGreat.RnA
open Go Go.Proofs Go.Proofs.YtdnmcelmblgpbaaGreat.AI Go.RowKit

noncomputable def E1 : Ext := extH Tryz.prog [(16, gAwake)]
theorem E1_ok : ExtOk Tryz.prog E1 := by unfold E1; exact extH_ok (.cons hkAwake .nil)

/-- A call, as a value. -/
def opV (c i d k1 k2 : Int) (b : Bool) (k3 k4 k5 k6 k7 k8 k9 ka kb : Int) : Value :=
  .agg #[.int .i64 c, .int .i64 i, .int .i64 d, .int .i64 k1, .int .i64 k2, .bool b, .int .i64 k3, .int .i64 k4, .int .i64 k5, .int .i64 k6, .int .i64 k7, .int .i64 k8, .int .i64 k9, .int .i64 ka, .int .i64 kb]
noncomputable def runs (c : Int) (i d k1 k2 : Int) (b : Bool) (k3 k4 k5 k6 k7 k8 k9 ka kb dest : Int) : Option Value :=
  (aCall Tryz.prog E1 100 4 [opV c i d k1 k2 b k3 k4 k5 k6 k7 k8 k9 ka kb, .int .i64 dest] hp0).map (fun r => r.1)
section
variable (i d k1 k2 : Int) (b : Bool) (k3 k4 k5 k6 k7 k8 k9 ka kb dest : Int)
theorem run0 : runs (Int.ofNat 0) i d k1 k2 b k3 k4 k5 k6 k7 k8 k9 ka kb dest = some (.bool true) := by kernel_rfl
theorem run1 : runs (Int.ofNat 1) i d k1 k2 b k3 k4 k5 k6 k7 k8 k9 ka kb dest = some (.bool true) := by kernel_rfl
theorem run2 : runs (Int.ofNat 2) i d k1 k2 b k3 k4 k5 k6 k7 k8 k9 ka kb dest = some (.bool true) := by kernel_rfl
theorem run3 : runs (Int.ofNat 3) i d k1 k2 b k3 k4 k5 k6 k7 k8 k9 ka kb dest = some (.bool true) := by kernel_rfl
theorem run4 : runs (Int.ofNat 4) i d k1 k2 b k3 k4 k5 k6 k7 k8 k9 ka kb dest = some (.bool true) := by kernel_rfl
theorem run5 (n : Nat) : runs (Int.ofNat (n + 5)) i d k1 k2 b k3 k4 k5 k6 k7 k8 k9 ka kb dest = some (.bool true) := by kernel_rfl
theorem runN (n : Nat) : runs (Int.negSucc n) i d k1 k2 b k3 k4 k5 k6 k7 k8 k9 ka kb dest = some (.bool true) := by kernel_rfl
theorem run_all (c : Int) : ∃ hp, aCall Tryz.prog E1 100 4 [opV c i d k1 k2 b k3 k4 k5 k6 k7 k8 k9 ka kb, .int .i64 dest] hp0 = some (.bool true, hp) := by
  have h : runs c i d k1 k2 b k3 k4 k5 k6 k7 k8 k9 ka kb dest = some (.bool true) := by
    match c with
    | .ofNat 0 => exact run0 ..
    | .ofNat 1 => exact run1 ..
    | .ofNat 2 => exact run2 ..
    | .ofNat 3 => exact run3 ..
    | .ofNat 4 => exact run4 ..
    | .ofNat (n + 5) => exact run5 ..
    | .negSucc n => exact runN ..
  obtain ⟨⟨u, hp⟩, h1, h2⟩ := Option.map_eq_some_iff.1 h
  simp only at h2
  subst h2
  exact ⟨hp, h1⟩
end

section
variable {P : Program} {w : World} {r : Reach} {base : Nat}
theorem cell_bool {t : TypeId} {v : Value} (ht : P.underlying t = some .bool) (h : Cell.okWide P w r base t v) : ∃ b, v = .bool b := by
  unfold Cell.okWide at h
  rw [ht] at h
  cases v <;> first | exact ⟨_, rfl⟩ | (simp [Cell.ok, ht] at h)
theorem cell_int {t : TypeId} {k : IntKind} {v : Value} (ht : P.underlying t = some (.int k)) (h : Cell.okWide P w r base t v) : ∃ n, v = .int k n ∧ k.has n := by
  unfold Cell.okWide at h
  rw [ht] at h
  cases v <;> first
    | (simp only [Cell.ok, ht] at h; obtain ⟨rfl, h2⟩ := h; exact ⟨_, rfl, h2⟩)
    | (simp [Cell.ok, ht] at h)
theorem open_cells {t : TypeId} {fs : Array Field} {ts : List TypeId} {v : Value} (ht : P.underlying t = some (.struct fs)) (hc : P.cellTypes P.depth t = some ts) (hn : P.cellsOf t = ts.length) (h : Value.okWide P w r base t v) :
    ∃ cs : Array Value, v = .agg cs ∧ cs.size = ts.length ∧ ∀ (i : Nat) (u : TypeId) (x : Value), ts[i]? = some u → cs[i]? = some x → Cell.okWide P w r base u x := by
  unfold Value.okWide at h
  rw [ht] at h
  obtain ⟨cs, rfl, h1, ts', h2, _, h3⟩ := h
  rw [hc] at h2; cases h2
  refine ⟨cs, rfl, h1.trans hn, fun i u x hu hx => ?_⟩
  have hi : i < ts.length := (List.getElem?_eq_some_iff.1 hu).1
  obtain ⟨u', h4, h5⟩ := h3 i x hx
  rw [Nat.mod_eq_of_lt hi, hu] at h4; cases h4
  exact h5
theorem val_int {t : TypeId} {k : IntKind} {v : Value} (ht : P.underlying t = some (.int k)) (h : Value.okWide P w r base t v) : ∃ n, v = .int k n := by
  unfold Value.okWide at h
  rw [ht] at h
  obtain ⟨n, h1, _⟩ := cell_int ht h
  exact ⟨n, h1⟩
end
theorem types45 : Tryz.prog.cellTypes Tryz.prog.depth 45 = some [3, 3, 3, 3, 3, 4, 3, 3, 3, 3, 3, 3, 3, 3, 3] := by kernel_rfl
theorem cells45 : Tryz.prog.cellsOf 45 = 15 := by kernel_rfl
theorem open_op {w : World} {r : Reach} {base : Nat} {v : Value} (h : Value.okWide Tryz.prog w r base 45 v) : ∃ (c i d k1 k2 : Int) (b : Bool) (k3 k4 k5 k6 k7 k8 k9 ka kb : Int), v = opV c i d k1 k2 b k3 k4 k5 k6 k7 k8 k9 ka kb := by
  obtain ⟨cs, rfl, hs, hc⟩ := open_cells Tryz.underlying45 types45 cells45 h
  obtain ⟨l⟩ := cs
  match l, hs with
  | [a0, a1, a2, a3, a4, a5, a6, a7, a8, a9, aa, ab, ac, ad, ae], _ =>
    obtain ⟨x0, rfl, _⟩ := cell_int Tryz.underlying3 (hc 0 3 a0 rfl rfl)
    obtain ⟨x1, rfl, _⟩ := cell_int Tryz.underlying3 (hc 1 3 a1 rfl rfl)
    obtain ⟨x2, rfl, _⟩ := cell_int Tryz.underlying3 (hc 2 3 a2 rfl rfl)
    obtain ⟨x3, rfl, _⟩ := cell_int Tryz.underlying3 (hc 3 3 a3 rfl rfl)
    obtain ⟨x4, rfl, _⟩ := cell_int Tryz.underlying3 (hc 4 3 a4 rfl rfl)
    obtain ⟨x5, rfl⟩ := cell_bool Tryz.underlying4 (hc 5 4 a5 rfl rfl)
    obtain ⟨x6, rfl, _⟩ := cell_int Tryz.underlying3 (hc 6 3 a6 rfl rfl)
    obtain ⟨x7, rfl, _⟩ := cell_int Tryz.underlying3 (hc 7 3 a7 rfl rfl)
    obtain ⟨x8, rfl, _⟩ := cell_int Tryz.underlying3 (hc 8 3 a8 rfl rfl)
    obtain ⟨x9, rfl, _⟩ := cell_int Tryz.underlying3 (hc 9 3 a9 rfl rfl)
    obtain ⟨xa, rfl, _⟩ := cell_int Tryz.underlying3 (hc 10 3 aa rfl rfl)
    obtain ⟨xb, rfl, _⟩ := cell_int Tryz.underlying3 (hc 11 3 ab rfl rfl)
    obtain ⟨xc, rfl, _⟩ := cell_int Tryz.underlying3 (hc 12 3 ac rfl rfl)
    obtain ⟨xd, rfl, _⟩ := cell_int Tryz.underlying3 (hc 13 3 ad rfl rfl)
    obtain ⟨xe, rfl, _⟩ := cell_int Tryz.underlying3 (hc 14 3 ae rfl rfl)
    exact ⟨x0, x1, x2, x3, x4, x5, x6, x7, x8, x9, xa, xb, xc, xd, xe, rfl⟩

theorem walk4 (W : World) (base : Nat) (args : Array Value) (hsz : args.size = 2) (hval : ∀ (j : Nat) t v, Tryz.f4.params[j]? = some t → args[j]? = some v → Value.okWide Tryz.prog W .any base t v) :
    Calls Tryz.prog 4 args W fun e W' => e = .returned (.bool true) ∧ Below W.heap.size W W' := by
  obtain ⟨v0, v1, rfl⟩ : ∃ v0 v1, args = #[v0, v1] := by
    obtain ⟨l⟩ := args
    match l, hsz with
    | [a, b], _ => exact ⟨a, b, rfl⟩
  obtain ⟨c, i, d, k1, k2, b, k3, k4, k5, k6, k7, k8, k9, ka, kb, rfl⟩ := open_op (hval 0 45 v0 (by kernel_rfl) rfl)
  obtain ⟨dest, rfl⟩ := val_int Tryz.underlying3 (hval 1 3 v1 (by kernel_rfl) rfl)
  obtain ⟨hp, h⟩ := run_all i d k1 k2 b k3 k4 k5 k6 k7 k8 k9 ka kb dest c
  exact walk_flat E1_ok follows Tryz.func4 (by kernel_rfl) rfl h W

theorem own : ownKnob Tryz.prog.godebug = none := by kernel_rfl
theorem laid : laidOutB Tryz.prog = true := by kernel_rfl
theorem params4 : ∀ t ∈ Tryz.f4.params.toList, Tryz.prog.readableRec t = true ∧ t < Tryz.prog.types.size := by
  have h : Tryz.f4.params.toList.all (fun t => Tryz.prog.readableRec t && decide (t < Tryz.prog.types.size)) = true := by kernel_rfl
  intro t ht
  have := List.all_eq_true.1 h t ht
  simpa using this

theorem lifted4 (os : Os) (started : os.Started) (H : Type) (enc : TypeId × Value → H) :
    ReturnsInHanded {} Tryz.checked os 4 .any (Rows.routerNilSpec.pre6 enc Tryz.prog Tryz.f4 Rows.routerNilRow.domain false) (Rows.routerNilSpec.post enc Tryz.prog Tryz.f4 false true false false) :=
  law_lifted (C := Tryz.checked) (tb := 4) started own (by kernel_rfl) Tryz.func4 laid params4 rfl (by kernel_rfl) Tryz.underlying4
    (fun ds hl => by
      match ds, hl with
      | [_, _], _ => rfl)
    (ChangeSpec.witness6 (enc := enc) (C := Tryz.checked) false ⟨#[], #[opV 0 0 0 0 0 false 0 0 0 0 0 0 0 0 0, .int .i64 0], []⟩ 8 (by kernel_rfl) (by kernel_rfl) (by kernel_rfl) (by kernel_rfl))
    (fun W base args ds p hsz hval _ => walk4 W base args hsz hval)

/-- The statement. -/
theorem routerNil_proved : Rows.RouterNilSaid :=
  OpenClaim.holds_of_wide 4 Tryz.f4 rfl rfl rfl rfl rfl rfl rfl ⟨rfl, rfl, rfl, rfl, rfl⟩ rfl rfl rfl rfl rfl (by kernel_rfl) Tryz.func4 (by kernel_rfl)
    (of_decide_eq_true (by kernel_rfl)) (by unfold Func.isWrapper; first | (rw [if_pos (by decide +kernel)]; kernel_rfl) | (rw [if_neg (by decide +kernel)]; exact ⟨rfl, rfl⟩))
    (fun os started H enc _ => lifted4 os started H enc)
#print axioms routerNil_proved
end Go.Proofs.YtdnmcelmblgpbaaGreat.RnA
