/- ViewsOrder: its runs, its own frame. -/
import Derived.Test.YtiogdklmhpllfaaVgA
set_option linter.unusedVariables false
set_option linter.unusedSimpArgs false
set_option maxRecDepth 100000
namespace Go.Proofs.Ytiogdklmhpllfaa.LtA
open Go Go.Proofs Go.Proofs.Ytiogdklmhpllfaa.AI Go.RowKit

noncomputable def G27 : HeapFn := atRow (fun _ => True) g27
theorem hkG27 : CallGoal Try.prog 27 G27 := atRow_goal fun vs hn _ => hk27 vs hn
section
variable (zs xs ys : List ViewV) (o : Blk) (s : Value) (n : Nat) (y z : ViewV) (O1 O2 : List Blk) (e f : Nat) (u1 u2 : Value)
abbrev B5 : St := ⟨tmsOf [s, .int .i64 y.id, .int .i64 z.id, hcA y, hcA z] 0 .leaf, heapOf [o, .dead] hp0, []⟩
def rw2 (us : List ViewV) : List Blk := [rowB us, .dead]
end
/-! ### What is owed -/
theorem TR.ext {vs : List ViewV} {s : Value} {hp : Hp} (h : TR vs s hp) (hk : hp.ok) (O : List Blk) : TR vs s (heapOf O hp) := by
  obtain ⟨b, c, o, rfl, hb, hi, hr⟩ := h
  exact ⟨b, c, o, rfl, by rw [heapOf_get, if_pos (lt_of_get hk hb), hb], hi, hr⟩
theorem TN.ext {vs : List ViewV} {s : Value} {hp : Hp} (h : TN vs s hp) (hk : hp.ok) (O : List Blk) : TN vs s (heapOf O hp) := by
  rcases h with h | h
  · exact .inl h
  · exact .inr (h.ext hk O)
theorem TN.new {vs : List ViewV} {hp : Hp} {b n c : Nat} (hn : n = vs.length) (hb : hp.get b = some (rowB vs)) : TN vs (rowS b n c) hp := by
  subst hn
  exact .inr ⟨b, c, rowB vs, rfl, hb, row_block vs, .inr ⟨34, false, rfl⟩⟩
end Go.Proofs.Ytiogdklmhpllfaa.LtA
namespace Go.Proofs.Ytiogdklmhpllfaa.LtA
open Go Go.Proofs Go.Proofs.Ytiogdklmhpllfaa.AI Go.RowKit Go.ChangeShapes

theorem types23' : Try.prog.cellTypes Try.prog.depth 23 = some [4, 3, 3, 3, 3, 3] := by kernel_rfl
theorem open_height' {w : World} {r : Reach} {base : Nat} {v : Value} (id : Int) (h : Value.okWide Try.prog w r base 23 v) : ∃ y : ViewV, y.id = id ∧ v = hcA y := by
  obtain ⟨cs, rfl, hs, hc⟩ := openw_cells Try.underlying23 types23' cells23' h
  obtain ⟨l⟩ := cs
  match l, hs with
  | [x0, x1, x2, x3, x4, x5], _ =>
    obtain ⟨b, rfl⟩ := cellw_bool Try.underlying4 (hc 0 4 x0 rfl rfl)
    obtain ⟨i1, rfl, _⟩ := cellw_int Try.underlying3 (hc 1 3 x1 rfl rfl)
    obtain ⟨i2, rfl, _⟩ := cellw_int Try.underlying3 (hc 2 3 x2 rfl rfl)
    obtain ⟨i3, rfl, _⟩ := cellw_int Try.underlying3 (hc 3 3 x3 rfl rfl)
    obtain ⟨i4, rfl, _⟩ := cellw_int Try.underlying3 (hc 4 3 x4 rfl rfl)
    obtain ⟨i5, rfl, _⟩ := cellw_int Try.underlying3 (hc 5 3 x5 rfl rfl)
    exact ⟨⟨id, b, i1, i2, i3, i4, i5⟩, rfl, rfl⟩
theorem hcA_rel {m : BM} {h : HG} (y : ViewV) : VRel m h (hcA y) (hcA y) := VRel.plain rfl
/-- From a frame of its own to a law's word. -/
theorem law_end {f : FuncId} {fn : Func} {c : Code} {N : Nat} (hf : Try.prog.funcs[f]? = some fn) (hb : fn.body = some c) (hN : fn.ntmps = N) (W : World) {args : Array Value} {args0 : List Value} {hp : Hp} {m : BM} (hl : args0.length ≤ N) (hk : hp.ok) (sim : Sim m hp.get W) (ro : ∀ b, rw? hp.get b = false)
    (ra : VRelL m hp.get args0 args.toList) (h : ∀ W, FRwp Try.prog N W c ⟨tmsOf args0 0 .leaf, hp, []⟩ (fun e st => (e = .normal ∨ e = .ret) ∧ st.df = [] ∧ retVal Try.prog fn st = some (.bool true))) :
    Calls Try.prog f args W fun e W' => e = .returned (.bool true) ∧ Below W.heap.size W W' := by
  have h' := h (Base.shut W)
  rw [← hN] at h'
  refine (fn_of (R := fun v _ => v = .bool true) hf hb (by rw [hN]; exact hl) hk sim ro ra (FRwp.mono h' fun e st q => ⟨q.1, q.2.1, _, q.2.2, rfl⟩)).mono fun e w' hh => ?_
  obtain ⟨v', v, st', m', rfl, rfl, rv, _, _, hb, _⟩ := hh
  exact ⟨by rw [rv.of_bool], hb⟩
theorem ok2_heap (o1 o2 : Blk) : (heapOf [o1, o2] hp0).ok := heapOf_ok _ _ hp0_ok
end Go.Proofs.Ytiogdklmhpllfaa.LtA
