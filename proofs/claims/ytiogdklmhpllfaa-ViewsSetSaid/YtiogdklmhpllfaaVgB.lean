/- ViewsOrder: its runs, its own frame. -/
import Derived.Test.YtiogdklmhpllfaaVgA
set_option linter.unusedVariables false
set_option linter.unusedSimpArgs false
set_option maxRecDepth 100000
namespace Go.Proofs.Ytiogdklmhpllfaa.LtA
open Go Go.Proofs Go.Proofs.Ytiogdklmhpllfaa.AI Go.RowKit

noncomputable def G27 : HeapFn := atRow (fun _ => True) g27
theorem hkG27 : CallGoal Try.prog 27 G27 := atRow_goal fun vs hn _ => hk27 vs hn
noncomputable def EO (zs : List ViewV) : Ext := extG (extH Try.prog [(26, gAwake12)]) [(27, G27), (28, g28 zs zs)]
theorem EO_ok (zs : List ViewV) (hz : zs.length < 1000000) : ExtOk Try.prog (EO zs) := extG_ok (extH_ok (.cons hkA12 .nil)) (.cons hkG27 (.cons (hk28 zs zs hz) .nil))
noncomputable def cO (zs : List ViewV) : CallF := aCall Try.prog (EO zs) 5
noncomputable def fb5 : Code := (Try.f5.body).getD .skip
theorem body5 : Try.f5.body = some fb5 := by kernel_rfl
theorem ntmps5 : Try.f5.ntmps = 97 := by kernel_rfl
theorem s5 : codeSafe Try.prog 97 fb5 = true := by kernel_rfl
theorem q5 (v : Value) (O : List Blk) (g : Nat → Value) : retVal Try.prog Try.f5 (stOf 97 g [(10, v)] O) = some v := by kernel_rfl
def hO0 (o : Blk) (y z : ViewV) : Hp := heapOf [o, .dead, .cells 23 (hcL y) false, .cells 23 (hcL z) false] hp0
section
variable (zs xs ys : List ViewV) (o : Blk) (s : Value) (n : Nat) (y z : ViewV) (O1 O2 : List Blk) (e f : Nat) (u1 u2 : Value)
abbrev B5 : St := ⟨tmsOf [s, .int .i64 y.id, .int .i64 z.id, hcA y, hcA z] 0 .leaf, heapOf [o, .dead] hp0, []⟩
noncomputable def lenO : Obl := (fstV ((aLen Try.prog 29 s).map fun v => (v, none)), iN n)
theorem r5a : (execE Try.prog (cO zs) [(22, iN n), (23, .bool true)] [] [] 40 fb5 (B5 o s y z)).map (fun w => (look2 0 [] [10] (w.1, w.2.1), w.2.2)) =
    some ((.ret, [], [(10, .bool true)], true), [lenO s n, (some (.bool (decide (Int.ofNat n > 80))), .bool true)], [], []) := by kernel_rfl
theorem r5b : (execE Try.prog (cO zs) [(22, iN n), (23, .bool false), (27, .bool true)] [] [] 40 fb5 (B5 o s y z)).map (fun w => (look2 0 [] [10] (w.1, w.2.1), w.2.2)) =
    some ((.ret, [], [(10, .bool true)], true), [lenO s n, (some (.bool (decide (Int.ofNat n > 80))), .bool false), (some (.bool (y.id == z.id)), .bool true)], [], []) := by kernel_rfl
noncomputable def beg5 : List Obl := [lenO s n, (some (.bool (decide (Int.ofNat n > 80))), .bool false), (some (.bool (y.id == z.id)), .bool false)]
noncomputable def ca5 (v : Value) (hp : Hp) (r : Value) (O : List Blk) : OblH := (cO zs 27 [v, .int .i64 y.id, hcA y] hp, (r, heapOf O hp))
/-- The first one is refused. -/
theorem r5c : (execE Try.prog (cO zs) [(22, iN n), (23, .bool false), (27, .bool false)] [(34, .tuple #[u1, iN 1], [.dead]), (41, .tuple #[u2, iN f], O2)] [] 40 fb5 (B5 o s y z)).map (fun w => (look2 0 [] [10] (w.1, w.2.1), w.2.2)) =
    some ((.ret, [], [(10, .bool true)], true), beg5 s n y z, [ca5 zs y s (hO0 o y z) (.tuple #[u1, iN 1]) [.dead], ca5 zs z s (heapOf [.dead] (hO0 o y z)) (.tuple #[u2, iN f]) O2], []) := by kernel_rfl
/-- The other one is refused. -/
theorem r5d : (execE Try.prog (cO zs) [(22, iN n), (23, .bool false), (27, .bool false)] [(34, .tuple #[u1, iN 0], [rowB xs, .dead]), (41, .tuple #[u2, iN 1], O2)] [] 40 fb5 (B5 o s y z)).map (fun w => (look2 0 [] [10] (w.1, w.2.1), w.2.2)) =
    some ((.ret, [], [(10, .bool true)], true), beg5 s n y z, [ca5 zs y s (hO0 o y z) (.tuple #[u1, iN 0]) [rowB xs, .dead], ca5 zs z s (heapOf [rowB xs, .dead] (hO0 o y z)) (.tuple #[u2, iN 1]) O2], []) := by kernel_rfl
def rw2 (us : List ViewV) : List Blk := [rowB us, .dead]
noncomputable def hO1 (xs : List ViewV) (o : Blk) (y z : ViewV) : Hp := heapOf (rw2 xs) (hO0 o y z)
noncomputable def hO2 (xs ys : List ViewV) (o : Blk) (y z : ViewV) : Hp := heapOf (rw2 ys) (hO1 xs o y z)
noncomputable def hO3 (zs xs ys : List ViewV) (o : Blk) (y z : ViewV) : Hp := heapOf (rw2 zs) (hO2 xs ys o y z)
noncomputable def hO4 (zs xs ys : List ViewV) (o : Blk) (y z : ViewV) : Hp := heapOf (rw2 zs) (hO3 zs xs ys o y z)
noncomputable def hO5 (zs xs ys : List ViewV) (o : Blk) (y z : ViewV) : Hp := heapOf (rw2 zs) (hO4 zs xs ys o y z)
def tupS (b n c : Nat) : Value := .tuple #[rowS b n c, iN 0]
/-- Both are taken. -/
theorem r5e (n1 k1 n2 k2 n3 k3 n4 k4 n5 k5 : Nat) : (execE Try.prog (cO zs) [(22, iN n), (23, .bool false), (27, .bool false)]
      [(34, tupS 4 n1 k1, rw2 xs), (41, tupS 6 n2 k2, rw2 ys), (55, tupS 8 n3 k3, rw2 zs), (62, tupS 10 n4 k4, rw2 zs), (69, tupS 12 n5 k5, rw2 zs), (90, .bool true, [.dead]), (95, .bool true, [.dead])] [] 40 fb5 (B5 o s y z)).map (fun w => (look2 0 [] [10] (w.1, w.2.1), w.2.2)) =
    some ((.ret, [], [(10, .bool true)], true), beg5 s n y z,
      [ca5 zs y s (hO0 o y z) (tupS 4 n1 k1) (rw2 xs), ca5 zs z s (hO1 xs o y z) (tupS 6 n2 k2) (rw2 ys), ca5 zs z (rowS 4 n1 k1) (hO2 xs ys o y z) (tupS 8 n3 k3) (rw2 zs), ca5 zs y (rowS 6 n2 k2) (hO3 zs xs ys o y z) (tupS 10 n4 k4) (rw2 zs), ca5 zs y (rowS 8 n3 k3) (hO4 zs xs ys o y z) (tupS 12 n5 k5) (rw2 zs),
       (cO zs 28 [rowS 8 n3 k3, rowS 10 n4 k4] (hO5 zs xs ys o y z), (.bool true, heapOf [.dead] (hO5 zs xs ys o y z))), (cO zs 28 [rowS 12 n5 k5, rowS 8 n3 k3] (heapOf [.dead] (hO5 zs xs ys o y z)), (.bool true, heapOf [.dead] (heapOf [.dead] (hO5 zs xs ys o y z))))], []) := by kernel_rfl
end
/-! ### What is owed -/
theorem TR.ext {vs : List ViewV} {s : Value} {hp : Hp} (h : TR vs s hp) (hk : hp.ok) (O : List Blk) : TR vs s (heapOf O hp) := by
  obtain ⟨b, c, o, rfl, hb, hi, hr⟩ := h
  exact ⟨b, c, o, rfl, by rw [heapOf_get, if_pos (lt_of_get hk hb), hb], hi, hr⟩
theorem TN.ext {vs : List ViewV} {s : Value} {hp : Hp} (h : TN vs s hp) (hk : hp.ok) (O : List Blk) : TN vs s (heapOf O hp) := by
  rcases h with h | h
  · exact .inl h
  · exact .inr (h.ext hk O)
theorem TN.new {vs : List ViewV} {hp : Hp} {b n c : Nat} (hn : n = vs.length) (hb : hp.get b = some (rowB vs)) : TN vs (rowS b n c) hp := by
  subst hn
  exact .inr ⟨b, c, rowB vs, rfl, hb, row_block vs, .inr ⟨34, false, rfl⟩⟩
theorem get_new {us : List ViewV} {hp : Hp} {b : Nat} (h : hp.sz = b) : (heapOf (rw2 us) hp).get b = some (rowB us) := by
  rw [heapOf_get, if_neg (by omega), h, Nat.sub_self]; rfl
theorem get_old {O : List Blk} {hp : Hp} {b : Nat} {x : Blk} (hk : hp.ok) (h : hp.get b = some x) : (heapOf O hp).get b = some x := by
  rw [heapOf_get, if_pos (lt_of_get hk h), h]
theorem cO_27 {zs vs : List ViewV} {s : Value} {hp : Hp} (y : ViewV) (h : TN vs s hp) (hn : vs.length < 1000000) : cO zs 27 [s, .int .i64 y.id, hcA y] hp = match rightB vs && oneV y with
    | true => some (.tuple #[rowS hp.sz (setV vs y).length (setC s vs y.id), iN 0], heapOf [rowB (setV vs y), .dead] hp)
    | false => some (.tuple #[nilS, iN 1], heapOf [.dead] hp) := by
  show aCall Try.prog (EO zs) 5 27 _ _ = _
  rw [aCall]
  have hE : EO zs 27 = some fun _ args h => G27 args h := rfl
  rw [hE]
  show G27 _ hp = _
  unfold G27
  rw [atRow_of h hn trivial, g27_of y h]
  cases (rightB vs && oneV y) <;> rfl
theorem cO_28 {zs : List ViewV} {hp : Hp} {b1 c1 b2 c2 n1 n2 : Nat} (e1 : n1 = zs.length) (e2 : n2 = zs.length) (hne : b1 ≠ b2) (h1 : hp.get b1 = some (rowB zs)) (h2 : hp.get b2 = some (rowB zs)) :
    cO zs 28 [rowS b1 n1 c1, rowS b2 n2 c2] hp = some (.bool true, heapOf [.dead] hp) := by
  subst e1 e2
  show aCall Try.prog (EO zs) 5 28 _ _ = _
  rw [aCall]
  have hE : EO zs 28 = some fun _ args h => g28 zs zs args h := rfl
  rw [hE]
  show g28 zs zs [rowS b1 zs.length c1, rowS b2 zs.length c2] hp = _
  unfold g28
  simp only
  rw [if_pos ⟨b1, c1, rowB zs, b2, c2, rowB zs, rfl, rfl, hne, h1, h2, row_block zs, row_block zs, .inr ⟨34, false, rfl⟩, .inr ⟨34, false, rfl⟩⟩, sameRow_refl]
  rfl
theorem len_row {b n c : Nat} : (lenO (rowS b n c) n).1 = some (lenO (rowS b n c) n).2 := by
  simp only [lenO, rowS, aLen, Try.underlying29]
  rfl
theorem len_nil : (lenO nilS 0).1 = some (lenO nilS 0).2 := by
  simp only [lenO, nilS, aLen, Try.underlying29]
  rfl
theorem law5_fr (o : Blk) (s : Value) (n : Nat) (hlen : (lenO s n).1 = some (lenO s n).2) (hrow : n ≤ 80 → ∃ vs : List ViewV, vs.length = n ∧ ∀ y z, TN vs s (hO0 o y z)) (y z : ViewV) (W : Base) :
    FRwp Try.prog 97 W fb5 (B5 o s y z) (fun e st => (e = .normal ∨ e = .ret) ∧ st.df = [] ∧ retVal Try.prog Try.f5 st = some (.bool true)) := by
  have hend : ∀ (O : List Blk) (g : Nat → Value), (Exit.ret = Exit.normal ∨ Exit.ret = Exit.ret) ∧ (stOf 97 g [(10, .bool true)] O).df = [] ∧ retVal Try.prog Try.f5 (stOf 97 g [(10, .bool true)] O) = some (.bool true) := fun O g => ⟨.inr rfl, rfl, q5 _ _ g⟩
  have hcO : ∀ zs : List ViewV, zs.length < 1000000 → CallOk Try.prog (cO zs) := fun zs hz => aCall_sound (EO_ok zs hz) follows 5
  cases h23 : decide (Int.ofNat n > 80) with
  | true => exact FRwp.pieceY (hcO [] (by simp)) follows 0 _ _ _ _ (r5a [] o s n y z) (Met.cons hlen (Met.cons (met_bool h23) Met.nil)) MetH.nil MetE.nil s5 rfl rfl (noFix _) fun g => hend _ g
  | false =>
    have hn : n ≤ 80 := by simp at h23; omega
    obtain ⟨vs, hvl, hT⟩ := hrow hn
    cases h27 : (y.id == z.id) with
    | true => exact FRwp.pieceY (hcO [] (by simp)) follows 0 _ _ _ _ (r5b [] o s n y z) (Met.cons hlen (Met.cons (met_bool h23) (Met.cons (met_bool h27) Met.nil))) MetH.nil MetE.nil s5 rfl rfl (noFix _) fun g => hend _ g
    | false =>
      have hne : y.id ≠ z.id := by simpa using h27
      have hbeg : Met (beg5 s n y z) := Met.cons hlen (Met.cons (met_bool h23) (Met.cons (met_bool h27) Met.nil))
      have k0 : (hO0 o y z).ok := heapOf_ok _ _ hp0_ok
      have a1 := fun zs => cO_27 (zs := zs) y (hT y z) (by omega)
      have a2 := fun zs (O : List Blk) => cO_27 (zs := zs) z ((hT y z).ext k0 O) (by omega)
      cases hy : (rightB vs && oneV y) with
      | false =>
        rw [hy] at a1
        cases hz : (rightB vs && oneV z) with
        | false =>
          rw [hz] at a2
          exact FRwp.pieceY (hcO [] (by simp)) follows 0 _ _ _ _ (r5c [] o s n y z [.dead] 1 nilS nilS) hbeg (MetH.cons (a1 _) (MetH.cons (a2 _ _) MetH.nil)) MetE.nil s5 rfl rfl (noFix _) fun g => hend _ g
        | true =>
          rw [hz] at a2
          exact FRwp.pieceY (hcO [] (by simp)) follows 0 _ _ _ _ (r5c [] o s n y z _ 0 nilS _) hbeg (MetH.cons (a1 _) (MetH.cons (a2 _ _) MetH.nil)) MetE.nil s5 rfl rfl (noFix _) fun g => hend _ g
      | true =>
        rw [hy] at a1
        cases hz : (rightB vs && oneV z) with
        | false =>
          rw [hz] at a2
          exact FRwp.pieceY (hcO [] (by simp)) follows 0 _ _ _ _ (r5d [] _ o s n y z [.dead] _ nilS) hbeg (MetH.cons (a1 _) (MetH.cons (a2 _ _) MetH.nil)) MetE.nil s5 rfl rfl (noFix _) fun g => hend _ g
        | true =>
          rw [hz] at a2
          obtain ⟨hr, oy⟩ := Bool.and_eq_true_iff.1 hy
          obtain ⟨_, oz⟩ := Bool.and_eq_true_iff.1 hz
          have hxr := setV_right hr oy
          have hyr := setV_right hr oz
          have hsw := set_swap hr oy oz hne
          have hzr := setV_right hxr oz
          generalize hxs : setV vs y = xs at *
          generalize hys : setV vs z = ys at *
          generalize hzs : setV xs z = zs at *
          have hag : setV zs y = zs := by
            refine set_again hzr oy ?_
            rw [← hzs, mem_setV hxr, ← hxs, mem_setV hr]
            exact .inr ⟨.inl rfl, hne⟩
          have lx : xs.length ≤ vs.length + 1 := by rw [← hxs, setV_len]; cases fnd vs y.id <;> simp
          have ly : ys.length ≤ vs.length + 1 := by rw [← hys, setV_len]; cases fnd vs z.id <;> simp
          have lz : zs.length ≤ xs.length + 1 := by rw [← hzs, setV_len]; cases fnd xs z.id <;> simp
          have z0 : (hO0 o y z).sz = 4 := rfl
          have z1 : (hO1 xs o y z).sz = 6 := rfl
          have z2 : (hO2 xs ys o y z).sz = 8 := rfl
          have z3 : (hO3 zs xs ys o y z).sz = 10 := rfl
          have z4 : (hO4 zs xs ys o y z).sz = 12 := rfl
          have z5 : (hO5 zs xs ys o y z).sz = 14 := rfl
          have k1 : (hO1 xs o y z).ok := heapOf_ok _ _ k0
          have k2 : (hO2 xs ys o y z).ok := heapOf_ok _ _ k1
          have k3 : (hO3 zs xs ys o y z).ok := heapOf_ok _ _ k2
          have k4 : (hO4 zs xs ys o y z).ok := heapOf_ok _ _ k3
          have k5 : (hO5 zs xs ys o y z).ok := heapOf_ok _ _ k4
          have x2 : (hO2 xs ys o y z).get 4 = some (rowB xs) := get_old k1 (get_new z0)
          have y3 : (hO3 zs xs ys o y z).get 6 = some (rowB ys) := get_old k2 (get_new z1)
          have v3 : (hO3 zs xs ys o y z).get 8 = some (rowB zs) := get_new z2
          have v4 : (hO4 zs xs ys o y z).get 8 = some (rowB zs) := get_old k3 v3
          have v5 : (hO5 zs xs ys o y z).get 8 = some (rowB zs) := get_old k4 v4
          have w5 : (hO5 zs xs ys o y z).get 10 = some (rowB zs) := get_old k4 (get_new z3)
          have t5 : (hO5 zs xs ys o y z).get 12 = some (rowB zs) := get_new z4
          have b1 : cO zs 27 [s, .int .i64 y.id, hcA y] (hO0 o y z) = some (tupS 4 xs.length (setC s vs y.id), heapOf (rw2 xs) (hO0 o y z)) := a1 zs
          have b2 : cO zs 27 [s, .int .i64 z.id, hcA z] (hO1 xs o y z) = some (tupS 6 ys.length (setC s vs z.id), heapOf (rw2 ys) (hO1 xs o y z)) := a2 zs (rw2 xs)
          have b3 := cO_27 (zs := zs) z (TN.new (vs := xs) (c := setC s vs y.id) rfl x2) (by omega)
          rw [hxr, oz, hzs] at b3
          have b4 := cO_27 (zs := zs) y (TN.new (vs := ys) (c := setC s vs z.id) rfl y3) (by omega)
          rw [hyr, oy, ← hsw] at b4
          have b5 := cO_27 (zs := zs) y (TN.new (vs := zs) (c := setC (rowS 4 xs.length (setC s vs y.id)) xs z.id) rfl v4) (by omega)
          rw [hzr, oy, hag] at b5
          have b6 := cO_28 (c1 := setC (rowS 4 xs.length (setC s vs y.id)) xs z.id) (c2 := setC (rowS 6 ys.length (setC s vs z.id)) ys y.id) (n1 := zs.length) (n2 := zs.length) rfl rfl (show (8 : Nat) ≠ 10 by omega) v5 w5
          have b7 := cO_28 (c1 := setC (rowS 8 zs.length (setC (rowS 4 xs.length (setC s vs y.id)) xs z.id)) zs y.id) (c2 := setC (rowS 4 xs.length (setC s vs y.id)) xs z.id) (n1 := zs.length) (n2 := zs.length) rfl rfl (show (12 : Nat) ≠ 8 by omega) (get_old (O := [.dead]) k5 t5) (get_old (O := [.dead]) k5 v5)
          exact FRwp.pieceY (hcO zs (by omega)) follows 0 _ _ _ _ (r5e zs xs ys o s n y z xs.length (setC s vs y.id) ys.length (setC s vs z.id) zs.length (setC (rowS 4 xs.length (setC s vs y.id)) xs z.id) zs.length (setC (rowS 6 ys.length (setC s vs z.id)) ys y.id) zs.length (setC (rowS 8 zs.length (setC (rowS 4 xs.length (setC s vs y.id)) xs z.id)) zs y.id))
            hbeg (MetH.cons b1 (MetH.cons b2 (MetH.cons b3 (MetH.cons b4 (MetH.cons b5 (MetH.cons b6 (MetH.cons b7 MetH.nil))))))) MetE.nil s5 rfl rfl (noFix _) fun g => hend _ g
end Go.Proofs.Ytiogdklmhpllfaa.LtA
namespace Go.Proofs.Ytiogdklmhpllfaa.LtA
open Go Go.Proofs Go.Proofs.Ytiogdklmhpllfaa.AI Go.RowKit Go.ChangeShapes

theorem row_arg {H : Type} {enc : TypeId × Value → H} {W : World} {base : Nat} {v : Value} {d : DataW H} {p : List MemPlace} (hval : Value.okWide Try.prog W .any base 29 v) (hT : ∃ fuel, DataW.trod enc Try.prog W 0 (fun _ => true) true fuel 29 v.cells.toList = some (d, p)) :
    ∃ (o : Blk) (s : Value) (n : Nat) (m : BM), inertB o = true ∧ Sim m (heapOf [o, .dead] hp0).get W ∧ (∀ b, rw? (heapOf [o, .dead] hp0).get b = false) ∧ VRel m (heapOf [o, .dead] hp0).get s v ∧ (lenO s n).1 = some (lenO s n).2 ∧
      (n ≤ 100 → ∃ vs : List ViewV, vs.length = n ∧ ∀ O, TN vs s (heapOf ([o, .dead] ++ O) hp0)) := by
  rcases valw_slice Try.underlying29 hval with rfl | ⟨r, off, n, c, rfl, hn⟩
  · exact ⟨.dead, nilS, 0, bm0, rfl, sim_bm0, ro2_dead, .flat rfl, len_nil, fun _ => ⟨[], rfl, fun O => .inl ⟨rfl, rfl⟩⟩⟩
  · by_cases hd : n = 0 ∨ n > 100
    · refine ⟨.dead, rowS 0 n 2, n, bm0, rfl, sim_bm0, ro2_dead, .slice (.of hn (by decide)) (.inl (by rw [heapOf0_get]; rfl)), len_row, fun h => ⟨[], by simp; omega, fun O => .inr ⟨0, 2, .dead, ?_, by rw [heapOf0_get]; rfl, rfl, .inl rfl⟩⟩⟩
      have : n = 0 := by omega
      rw [this]; rfl
    · obtain ⟨fuel, hT⟩ := hT
      have hT' : DataW.trod enc Try.prog W 0 (fun _ => true) true fuel 29 [.slice (some ⟨r, off, none⟩) n c] = some (d, p) := by simpa [Value.cells] using hT
      obtain ⟨ps, arr, ty, fr, hl, hcell, hlen, hv⟩ := vrow_of hT' (by omega)
      have hin := vrow_inert ps
      refine ⟨.cells ty (vrow ps) true, rowS 0 n 2, n, _, hin, sim_dead (row_sim (k := 7) (n := n) hcell hlen hin hv), ro2_cells, .slice (.of hn (by decide)) (.inr ⟨off, arr.size, rfl, .inl rfl, ?_⟩), len_row, fun _ => ⟨ps, hl, fun O => .inr ⟨0, 2, .cells ty (vrow ps) true, ?_, by rw [heapOf0_get]; rfl, hin, .inr ⟨ty, true, rfl⟩⟩⟩⟩
      · constructor <;> intro h <;> simp at h
      · rw [hl]
theorem types23' : Try.prog.cellTypes Try.prog.depth 23 = some [4, 3, 3, 3, 3, 3] := by kernel_rfl
theorem open_height' {w : World} {r : Reach} {base : Nat} {v : Value} (id : Int) (h : Value.okWide Try.prog w r base 23 v) : ∃ y : ViewV, y.id = id ∧ v = hcA y := by
  obtain ⟨cs, rfl, hs, hc⟩ := openw_cells Try.underlying23 types23' cells23' h
  obtain ⟨l⟩ := cs
  match l, hs with
  | [x0, x1, x2, x3, x4, x5], _ =>
    obtain ⟨b, rfl⟩ := cellw_bool Try.underlying4 (hc 0 4 x0 rfl rfl)
    obtain ⟨i1, rfl, _⟩ := cellw_int Try.underlying3 (hc 1 3 x1 rfl rfl)
    obtain ⟨i2, rfl, _⟩ := cellw_int Try.underlying3 (hc 2 3 x2 rfl rfl)
    obtain ⟨i3, rfl, _⟩ := cellw_int Try.underlying3 (hc 3 3 x3 rfl rfl)
    obtain ⟨i4, rfl, _⟩ := cellw_int Try.underlying3 (hc 4 3 x4 rfl rfl)
    obtain ⟨i5, rfl, _⟩ := cellw_int Try.underlying3 (hc 5 3 x5 rfl rfl)
    exact ⟨⟨id, b, i1, i2, i3, i4, i5⟩, rfl, rfl⟩
theorem hcA_rel {m : BM} {h : HG} (y : ViewV) : VRel m h (hcA y) (hcA y) := VRel.plain rfl
/-- From a frame of its own to a law's word. -/
theorem law_end {f : FuncId} {fn : Func} {c : Code} {N : Nat} (hf : Try.prog.funcs[f]? = some fn) (hb : fn.body = some c) (hN : fn.ntmps = N) (W : World) {args : Array Value} {args0 : List Value} {hp : Hp} {m : BM} (hl : args0.length ≤ N) (hk : hp.ok) (sim : Sim m hp.get W) (ro : ∀ b, rw? hp.get b = false)
    (ra : VRelL m hp.get args0 args.toList) (h : ∀ W, FRwp Try.prog N W c ⟨tmsOf args0 0 .leaf, hp, []⟩ (fun e st => (e = .normal ∨ e = .ret) ∧ st.df = [] ∧ retVal Try.prog fn st = some (.bool true))) :
    Calls Try.prog f args W fun e W' => e = .returned (.bool true) ∧ Below W.heap.size W W' := by
  have h' := h (Base.shut W)
  rw [← hN] at h'
  refine (fn_of (R := fun v _ => v = .bool true) hf hb (by rw [hN]; exact hl) hk sim ro ra (FRwp.mono h' fun e st q => ⟨q.1, q.2.1, _, q.2.2, rfl⟩)).mono fun e w' hh => ?_
  obtain ⟨v', v, st', m', rfl, rfl, rv, _, _, hb, _⟩ := hh
  exact ⟨by rw [rv.of_bool], hb⟩
theorem ok2_heap (o1 o2 : Blk) : (heapOf [o1, o2] hp0).ok := heapOf_ok _ _ hp0_ok
end Go.Proofs.Ytiogdklmhpllfaa.LtA
