/- ViewsOrder: its runs, its own frame. -/
import Derived.Test.YtiogdklmhpllfaaVgA
set_option linter.unusedVariables false
set_option linter.unusedSimpArgs false
set_option maxRecDepth 100000
namespace Go.Proofs.Ytiogdklmhpllfaa.LtA
open Go Go.Proofs Go.Proofs.Ytiogdklmhpllfaa.AI Go.RowKit

section
variable (zs xs ys : List ViewV) (o : Blk) (s : Value) (n : Nat) (y z : ViewV) (O1 O2 : List Blk) (e f : Nat) (u1 u2 : Value)
abbrev B5 : St := ⟨tmsOf [s, .int .i64 y.id, .int .i64 z.id, hcA y, hcA z] 0 .leaf, heapOf [o, .dead] hp0, []⟩
noncomputable def lenO : Obl := (fstV ((aLen Try.prog 29 s).map fun v => (v, none)), iN n)
def rw2 (us : List ViewV) : List Blk := [rowB us, .dead]
end
/-! ### What is owed -/
theorem TR.ext {vs : List ViewV} {s : Value} {hp : Hp} (h : TR vs s hp) (hk : hp.ok) (O : List Blk) : TR vs s (heapOf O hp) := by
  obtain ⟨b, c, o, rfl, hb, hi, hr⟩ := h
  exact ⟨b, c, o, rfl, by rw [heapOf_get, if_pos (lt_of_get hk hb), hb], hi, hr⟩
theorem TN.ext {vs : List ViewV} {s : Value} {hp : Hp} (h : TN vs s hp) (hk : hp.ok) (O : List Blk) : TN vs s (heapOf O hp) := by
  rcases h with h | h
  · exact .inl h
  · exact .inr (h.ext hk O)
theorem TN.new {vs : List ViewV} {hp : Hp} {b n c : Nat} (hn : n = vs.length) (hb : hp.get b = some (rowB vs)) : TN vs (rowS b n c) hp := by
  subst hn
  exact .inr ⟨b, c, rowB vs, rfl, hb, row_block vs, .inr ⟨34, false, rfl⟩⟩
theorem get_old {O : List Blk} {hp : Hp} {b : Nat} {x : Blk} (hk : hp.ok) (h : hp.get b = some x) : (heapOf O hp).get b = some x := by
  rw [heapOf_get, if_pos (lt_of_get hk h), h]
theorem len_row {b n c : Nat} : (lenO (rowS b n c) n).1 = some (lenO (rowS b n c) n).2 := by
  simp only [lenO, rowS, aLen, Try.underlying29]
  rfl
theorem len_nil : (lenO nilS 0).1 = some (lenO nilS 0).2 := by
  simp only [lenO, nilS, aLen, Try.underlying29]
  rfl
end Go.Proofs.Ytiogdklmhpllfaa.LtA
namespace Go.Proofs.Ytiogdklmhpllfaa.LtA
open Go Go.Proofs Go.Proofs.Ytiogdklmhpllfaa.AI Go.RowKit Go.ChangeShapes

theorem row_arg {H : Type} {enc : TypeId × Value → H} {W : World} {base : Nat} {v : Value} {d : DataW H} {p : List MemPlace} (hval : Value.okWide Try.prog W .any base 29 v) (hT : ∃ fuel, DataW.trod enc Try.prog W 0 (fun _ => true) true fuel 29 v.cells.toList = some (d, p)) :
    ∃ (o : Blk) (s : Value) (n : Nat) (m : BM), inertB o = true ∧ Sim m (heapOf [o, .dead] hp0).get W ∧ (∀ b, rw? (heapOf [o, .dead] hp0).get b = false) ∧ VRel m (heapOf [o, .dead] hp0).get s v ∧ (lenO s n).1 = some (lenO s n).2 ∧
      (n ≤ 100 → ∃ vs : List ViewV, vs.length = n ∧ ∀ O, TN vs s (heapOf ([o, .dead] ++ O) hp0)) := by
  rcases valw_slice Try.underlying29 hval with rfl | ⟨r, off, n, c, rfl, hn⟩
  · exact ⟨.dead, nilS, 0, bm0, rfl, sim_bm0, ro2_dead, .flat rfl, len_nil, fun _ => ⟨[], rfl, fun O => .inl ⟨rfl, rfl⟩⟩⟩
  · by_cases hd : n = 0 ∨ n > 100
    · refine ⟨.dead, rowS 0 n 2, n, bm0, rfl, sim_bm0, ro2_dead, .slice (.of hn (by decide)) (.inl (by rw [heapOf0_get]; rfl)), len_row, fun h => ⟨[], by simp; omega, fun O => .inr ⟨0, 2, .dead, ?_, by rw [heapOf0_get]; rfl, rfl, .inl rfl⟩⟩⟩
      have : n = 0 := by omega
      rw [this]; rfl
    · obtain ⟨fuel, hT⟩ := hT
      have hT' : DataW.trod enc Try.prog W 0 (fun _ => true) true fuel 29 [.slice (some ⟨r, off, none⟩) n c] = some (d, p) := by simpa [Value.cells] using hT
      obtain ⟨ps, arr, ty, fr, hl, hcell, hlen, hv⟩ := vrow_of hT' (by omega)
      have hin := vrow_inert ps
      refine ⟨.cells ty (vrow ps) true, rowS 0 n 2, n, _, hin, sim_dead (row_sim (k := 7) (n := n) hcell hlen hin hv), ro2_cells, .slice (.of hn (by decide)) (.inr ⟨off, arr.size, rfl, .inl rfl, ?_⟩), len_row, fun _ => ⟨ps, hl, fun O => .inr ⟨0, 2, .cells ty (vrow ps) true, ?_, by rw [heapOf0_get]; rfl, hin, .inr ⟨ty, true, rfl⟩⟩⟩⟩
      · constructor <;> intro h <;> simp at h
      · rw [hl]
theorem types23' : Try.prog.cellTypes Try.prog.depth 23 = some [4, 3, 3, 3, 3, 3] := by kernel_rfl
theorem open_height' {w : World} {r : Reach} {base : Nat} {v : Value} (id : Int) (h : Value.okWide Try.prog w r base 23 v) : ∃ y : ViewV, y.id = id ∧ v = hcA y := by
  obtain ⟨cs, rfl, hs, hc⟩ := openw_cells Try.underlying23 types23' cells23' h
  obtain ⟨l⟩ := cs
  match l, hs with
  | [x0, x1, x2, x3, x4, x5], _ =>
    obtain ⟨b, rfl⟩ := cellw_bool Try.underlying4 (hc 0 4 x0 rfl rfl)
    obtain ⟨i1, rfl, _⟩ := cellw_int Try.underlying3 (hc 1 3 x1 rfl rfl)
    obtain ⟨i2, rfl, _⟩ := cellw_int Try.underlying3 (hc 2 3 x2 rfl rfl)
    obtain ⟨i3, rfl, _⟩ := cellw_int Try.underlying3 (hc 3 3 x3 rfl rfl)
    obtain ⟨i4, rfl, _⟩ := cellw_int Try.underlying3 (hc 4 3 x4 rfl rfl)
    obtain ⟨i5, rfl, _⟩ := cellw_int Try.underlying3 (hc 5 3 x5 rfl rfl)
    exact ⟨⟨id, b, i1, i2, i3, i4, i5⟩, rfl, rfl⟩
theorem hcA_rel {m : BM} {h : HG} (y : ViewV) : VRel m h (hcA y) (hcA y) := VRel.plain rfl
/-- From a frame of its own to a law's word. -/
theorem law_end {f : FuncId} {fn : Func} {c : Code} {N : Nat} (hf : Try.prog.funcs[f]? = some fn) (hb : fn.body = some c) (hN : fn.ntmps = N) (W : World) {args : Array Value} {args0 : List Value} {hp : Hp} {m : BM} (hl : args0.length ≤ N) (hk : hp.ok) (sim : Sim m hp.get W) (ro : ∀ b, rw? hp.get b = false)
    (ra : VRelL m hp.get args0 args.toList) (h : ∀ W, FRwp Try.prog N W c ⟨tmsOf args0 0 .leaf, hp, []⟩ (fun e st => (e = .normal ∨ e = .ret) ∧ st.df = [] ∧ retVal Try.prog fn st = some (.bool true))) :
    Calls Try.prog f args W fun e W' => e = .returned (.bool true) ∧ Below W.heap.size W W' := by
  have h' := h (Base.shut W)
  rw [← hN] at h'
  refine (fn_of (R := fun v _ => v = .bool true) hf hb (by rw [hN]; exact hl) hk sim ro ra (FRwp.mono h' fun e st q => ⟨q.1, q.2.1, _, q.2.2, rfl⟩)).mono fun e w' hh => ?_
  obtain ⟨v', v, st', m', rfl, rfl, rv, _, _, hb, _⟩ := hh
  exact ⟨by rw [rv.of_bool], hb⟩
theorem ok2_heap (o1 o2 : Blk) : (heapOf [o1, o2] hp0).ok := heapOf_ok _ _ hp0_ok
end Go.Proofs.Ytiogdklmhpllfaa.LtA
