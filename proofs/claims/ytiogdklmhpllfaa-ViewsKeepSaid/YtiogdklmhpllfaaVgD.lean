/- ViewsKeep, of the given program: for every views, two nodes and a height the law returns true, and the arguments read as they did. No condition. -/
import Derived.Test.YtiogdklmhpllfaaVgC
import Derived.Test.YtiogdklmhpllfaaRows
set_option linter.unusedVariables false
set_option linter.unusedSimpArgs false
set_option maxRecDepth 100000
namespace Go.Proofs.Ytiogdklmhpllfaa.LtA
open Go Go.Proofs Go.Proofs.Ytiogdklmhpllfaa.AI Go.RowKit

noncomputable def G18 : HeapFn := atRow (fun _ => True) g18
theorem hkG18 : CallGoal Try.prog 18 G18 := atRow_goal fun vs hn _ => hk18 vs hn
theorem G18_of {vs : List ViewV} {s : Value} {hp : Hp} (h : TN vs s hp) (hn : vs.length < 1000000) : G18 [s] hp = some (errI (rightB vs), heapOf [.dead] hp) := by
  unfold G18
  rw [atRow_of h hn trivial]
  exact g18_of h
noncomputable def EK : Ext := extG (extH Try.prog [(26, gAwake12)]) [(27, G27), (41, G41), (33, G33), (18, G18)]
theorem EK_ok : ExtOk Try.prog EK := extG_ok (extH_ok (.cons hkA12 .nil)) (.cons hkG27 (.cons hkG41 (.cons hkG33 (.cons hkG18 .nil))))
noncomputable def cK : CallF := aCall Try.prog EK 5
theorem cK_ok : CallOk Try.prog cK := aCall_sound EK_ok follows 5
noncomputable def fb11 : Code := (Try.f11.body).getD .skip
theorem body11 : Try.f11.body = some fb11 := by kernel_rfl
theorem ntmps11 : Try.f11.ntmps = 133 := by kernel_rfl
theorem s11 : codeSafe Try.prog 133 fb11 = true := by kernel_rfl
theorem q11 (v : Value) (O : List Blk) (g : Nat → Value) : retVal Try.prog Try.f11 (stOf 133 g [(8, v)] O) = some v := by kernel_rfl
def hk0 (o : Blk) (y : ViewV) : Hp := heapOf [o, .dead, .cells 23 (hcL y) false] hp0
section
variable (xs ds : List ViewV) (o : Blk) (s : Value) (n : Nat) (y : ViewV) (oth : Int)
abbrev B11 : St := ⟨tmsOf [s, .int .i64 y.id, .int .i64 oth, hcA y] 0 .leaf, heapOf [o, .dead] hp0, []⟩
theorem r11a : (execE Try.prog cK [(24, iN n), (25, .bool true)] [] [] 40 fb11 (B11 o s y oth)).map (fun w => (look2 0 [] [8] (w.1, w.2.1), w.2.2)) =
    some ((.ret, [], [(8, .bool true)], true), [lenO s n, (some (.bool (decide (Int.ofNat n > 100))), .bool true)], [], []) := by kernel_rfl
theorem r11b : (execE Try.prog cK [(24, iN n), (25, .bool false), (29, .bool true)] [] [] 40 fb11 (B11 o s y oth)).map (fun w => (look2 0 [] [8] (w.1, w.2.1), w.2.2)) =
    some ((.ret, [], [(8, .bool true)], true), [lenO s n, (some (.bool (decide (Int.ofNat n > 100))), .bool false), (some (.bool (y.id == oth)), .bool true)], [], []) := by kernel_rfl
noncomputable def beg11 : List Obl := [lenO s n, (some (.bool (decide (Int.ofNat n > 100))), .bool false), (some (.bool (y.id == oth)), .bool false)]
theorem r11c : (execE Try.prog cK [(24, iN n), (25, .bool false), (29, .bool false)] [(36, .tuple #[nilS, iN 1], [.dead])] [] 40 fb11 (B11 o s y oth)).map (fun w => (look2 0 [] [8] (w.1, w.2.1), w.2.2)) =
    some ((.ret, [], [(8, .bool true)], true), beg11 s n y oth, [(cK 27 [s, .int .i64 y.id, hcA y] (hk0 o y), (.tuple #[nilS, iN 1], heapOf [.dead] (hk0 o y)))], []) := by kernel_rfl
noncomputable def hk1 (xs : List ViewV) (o : Blk) (y : ViewV) : Hp := heapOf (rw2 xs) (hk0 o y)
noncomputable def hk2 (ds xs : List ViewV) (o : Blk) (y : ViewV) : Hp := heapOf (rw2 ds) (hk1 xs o y)
/-- Behind a Get: its answer lies in a variable. -/
noncomputable def hkG (x : ViewV) (hp : Hp) : Hp := heapOf [.dead, hB x] hp
def gT (a : ViewV) (b : Bool) : Value := .tuple #[hcA a, .bool b]
theorem r11d (n1 k1 n2 : Nat) (a : ViewV) (b : Bool) : (execE Try.prog cK [(24, iN n), (25, .bool false), (29, .bool false), (96, .bool true), (104, .bool true), (109, .bool true), (114, .bool true), (119, .bool true), (128, iN (n2 + 1)), (131, .bool true)]
      [(36, tupS 3 n1 k1, rw2 xs), (50, tupS 5 n2 23, rw2 ds), (56, gT y true, [.dead]), (62, gT a b, [.dead]), (68, gT a b, [.dead]), (74, gT a b, [.dead]), (80, gT (zeroV 0) false, [.dead]), (86, iN 0, [.dead])] [] 60 fb11 (B11 o s y oth)).map (fun w => (look2 0 [] [8] (w.1, w.2.1), w.2.2)) =
    some ((.ret, [], [(8, .bool true)], true), beg11 s n y oth ++ [(fstV ((aBin Try.prog .eql 23 (hcA y) (hcA y)).map fun v => (v, none)), .bool true), (fstV ((aBin Try.prog .eql 23 (hcA a) (hcA a)).map fun v => (v, none)), .bool true), (some (.bool (b == b)), .bool true),
        (fstV ((aBin Try.prog .eql 23 (hcA a) (hcA a)).map fun v => (v, none)), .bool true), (some (.bool (b == b)), .bool true), (some (.int .i64 (wrapF .i64 (Int.ofNat n2 + 1))), iN (n2 + 1)), (some (.bool (Int.ofNat (n2 + 1) == Int.ofNat n1)), .bool true)],
      [(cK 27 [s, .int .i64 y.id, hcA y] (hk0 o y), (tupS 3 n1 k1, hk1 xs o y)), (cK 41 [rowS 3 n1 k1, .int .i64 y.id] (hk1 xs o y), (tupS 5 n2 23, hk2 ds xs o y)),
       (cK 33 [rowS 3 n1 k1, .int .i64 y.id] (hk2 ds xs o y), (gT y true, heapOf [.dead] (hk2 ds xs o y))),
       (cK 33 [s, .int .i64 oth] (hkG y (hk2 ds xs o y)), (gT a b, heapOf [.dead] (hkG y (hk2 ds xs o y)))),
       (cK 33 [rowS 3 n1 k1, .int .i64 oth] (hkG a (hkG y (hk2 ds xs o y))), (gT a b, heapOf [.dead] (hkG a (hkG y (hk2 ds xs o y))))),
       (cK 33 [rowS 5 n2 23, .int .i64 oth] (hkG a (hkG a (hkG y (hk2 ds xs o y)))), (gT a b, heapOf [.dead] (hkG a (hkG a (hkG y (hk2 ds xs o y)))))),
       (cK 33 [rowS 5 n2 23, .int .i64 y.id] (hkG a (hkG a (hkG a (hkG y (hk2 ds xs o y))))), (gT (zeroV 0) false, heapOf [.dead] (hkG a (hkG a (hkG a (hkG y (hk2 ds xs o y))))))),
       (cK 18 [rowS 3 n1 k1] (hkG (zeroV 0) (hkG a (hkG a (hkG a (hkG y (hk2 ds xs o y)))))), (iN 0, heapOf [.dead] (hkG (zeroV 0) (hkG a (hkG a (hkG a (hkG y (hk2 ds xs o y))))))))], []) := by kernel_rfl
end
/-! ### Plain facts -/
theorem find_mem {vs : List ViewV} {id : Int} {x : ViewV} (h : Up vs) : findV vs id = some x ↔ x ∈ vs ∧ x.id = id := by
  constructor
  · intro hf
    exact ⟨List.mem_of_find?_eq_some hf, by have := List.find?_some hf; simpa [isId] using this⟩
  · rintro ⟨hm, hid⟩
    obtain ⟨i, hi⟩ := List.mem_iff_getElem?.1 hm
    refine find_at hi (by simp [isId, hid]) fun j z hj hz => ?_
    have := rises_up.2 h j i z x hj hz hi
    simp [isId]; omega
theorem find_ext {us vs : List ViewV} {id : Int} (hu : Up us) (hv : Up vs) (h : ∀ x, x.id = id → (x ∈ us ↔ x ∈ vs)) : findV us id = findV vs id := by
  cases e : findV us id with
  | some x =>
    obtain ⟨h1, h2⟩ := (find_mem hu).1 e
    exact ((find_mem hv).2 ⟨(h x h2).1 h1, h2⟩).symm
  | none =>
    cases e2 : findV vs id with
    | none => rfl
    | some x =>
      obtain ⟨h1, h2⟩ := (find_mem hv).1 e2
      rw [(find_mem hu).2 ⟨(h x h2).2 h1, h2⟩] at e; cases e
theorem fnd_mem {vs : List ViewV} {x : ViewV} (h : Up vs) (hm : x ∈ vs) : fnd vs x.id = true ∧ vs[pos vs x.id]? = some x := by
  obtain ⟨i, hi⟩ := List.mem_iff_getElem?.1 hm
  have hr := rises_up.2 h
  have hlt := (List.getElem?_eq_some_iff.1 hi).1
  have hp : pos vs x.id = i := take_len_of (by omega) (fun k z hk hz => by have := hr k i z x hk hz hi; exact decide_eq_true this) (fun z hz => by rw [hi] at hz; cases hz; exact decide_eq_false (by omega))
  refine ⟨?_, by rw [hp]; exact hi⟩
  unfold fnd
  rw [hp, hi]; simp
theorem mem_dropV {vs : List ViewV} {x z : ViewV} (h : Up vs) (hm : x ∈ vs) : z ∈ dropV vs x.id ↔ z ∈ vs ∧ z.id ≠ x.id := by
  obtain ⟨-, hp⟩ := fnd_mem h hm
  have hr := rises_up.2 h
  unfold dropV
  rw [List.mem_eraseIdx_iff_getElem?]
  constructor
  · rintro ⟨i, hne, hi⟩
    refine ⟨List.mem_of_getElem? hi, ?_⟩
    rcases Nat.lt_or_gt_of_ne hne with q | q
    · have := hr _ _ _ _ q hi hp; omega
    · have := hr _ _ _ _ q hp hi; omega
  · rintro ⟨hz, hne⟩
    obtain ⟨i, hi⟩ := List.mem_iff_getElem?.1 hz
    exact ⟨i, (by rintro rfl; rw [hp] at hi; cases hi; exact hne rfl), hi⟩
theorem dropV_up {vs : List ViewV} {id : Int} (h : Up vs) : Up (dropV vs id) := h.sublist (List.eraseIdx_sublist _ _)
theorem same_self (x : ViewV) : same23 x.n x.t x.o x.r x.d x.i x.n x.t x.o x.r x.d x.i = true := by unfold same23; simp
theorem eql23_self (x : ViewV) : fstV ((aBin Try.prog .eql 23 (hcA x) (hcA x)).map fun v => (v, none)) = some (.bool true) := by
  have h : aBin Try.prog .eql 23 (hcA x) (hcA x) = (andE (x.n == x.n) (andE (x.t == x.t) (andE (x.o == x.o) (andE (x.r == x.r) (andE (x.d == x.d) (andE (x.i == x.i) (some true))))))).map .bool := by kernel_rfl
  rw [h]
  simp [andE_some, fstV]
/-! ### What is owed -/
section
variable {vs : List ViewV} {s : Value} {hp : Hp}
theorem cK_27 (y : ViewV) (h : TN vs s hp) (hn : vs.length < 1000000) : cK 27 [s, .int .i64 y.id, hcA y] hp = match rightB vs && oneV y with
    | true => some (.tuple #[rowS hp.sz (setV vs y).length (setC s vs y.id), iN 0], heapOf [rowB (setV vs y), .dead] hp)
    | false => some (.tuple #[nilS, iN 1], heapOf [.dead] hp) := by
  show aCall Try.prog EK 5 27 _ _ = _
  rw [aCall]
  have hE : EK 27 = some fun _ args h => G27 args h := rfl
  rw [hE]
  show G27 _ hp = _
  unfold G27
  rw [atRow_of h hn trivial, g27_of y h]
  cases (rightB vs && oneV y) <;> rfl
theorem cK_41 {id : Int} (h : TN vs s hp) (hn : vs.length < 1000000) : cK 41 [s, .int .i64 id] hp = match rightB vs && fnd vs id with
      | true => some (.tuple #[rowS hp.sz (dropV vs id).length 23, iN 0], heapOf [rowB (dropV vs id), .dead] hp)
      | false => some (.tuple #[nilS, iN (bif rightB vs then 7 else 1)], heapOf [.dead] hp) := by
  show aCall Try.prog EK 5 41 _ _ = _
  rw [aCall]
  have hE : EK 41 = some fun _ args h => G41 args h := rfl
  rw [hE]
  exact G41_of h hn
theorem cK_33 {id : Int} (h : TN vs s hp) (hn : vs.length < 1000000) : cK 33 [s, .int .i64 id] hp = some (getV vs id, heapOf [.dead] hp) := by
  show aCall Try.prog EK 5 33 _ _ = _
  rw [aCall]
  have hE : EK 33 = some fun _ args h => G33 args h := rfl
  rw [hE]
  exact G33_of h.tq hn
theorem cK_18 (h : TN vs s hp) (hn : vs.length < 1000000) : cK 18 [s] hp = some (errI (rightB vs), heapOf [.dead] hp) := by
  show aCall Try.prog EK 5 18 _ _ = _
  rw [aCall]
  have hE : EK 18 = some fun _ args h => G18 args h := rfl
  rw [hE]
  exact G18_of h hn
end
theorem law11_fr (o : Blk) (s : Value) (n : Nat) (hlen : (lenO s n).1 = some (lenO s n).2) (hrow : n ≤ 100 → ∃ vs : List ViewV, vs.length = n ∧ ∀ y, TN vs s (hk0 o y)) (y : ViewV) (oth : Int) (W : Base) :
    FRwp Try.prog 133 W fb11 (B11 o s y oth) (fun e st => (e = .normal ∨ e = .ret) ∧ st.df = [] ∧ retVal Try.prog Try.f11 st = some (.bool true)) := by
  have hend : ∀ (O : List Blk) (g : Nat → Value), (Exit.ret = Exit.normal ∨ Exit.ret = Exit.ret) ∧ (stOf 133 g [(8, .bool true)] O).df = [] ∧ retVal Try.prog Try.f11 (stOf 133 g [(8, .bool true)] O) = some (.bool true) := fun O g => ⟨.inr rfl, rfl, q11 _ _ g⟩
  cases h25 : decide (Int.ofNat n > 100) with
  | true => exact FRwp.pieceY cK_ok follows 0 _ _ _ _ (r11a o s n y oth) (Met.cons hlen (Met.cons (met_bool h25) Met.nil)) MetH.nil MetE.nil s11 rfl rfl (noFix _) fun g => hend _ g
  | false =>
    have hn : n ≤ 100 := by simp at h25; omega
    obtain ⟨vs, hvl, hT⟩ := hrow hn
    cases h29 : (y.id == oth) with
    | true => exact FRwp.pieceY cK_ok follows 0 _ _ _ _ (r11b o s n y oth) (Met.cons hlen (Met.cons (met_bool h25) (Met.cons (met_bool h29) Met.nil))) MetH.nil MetE.nil s11 rfl rfl (noFix _) fun g => hend _ g
    | false =>
      have hne : y.id ≠ oth := by simpa using h29
      have hbeg : Met (beg11 s n y oth) := Met.cons hlen (Met.cons (met_bool h25) (Met.cons (met_bool h29) Met.nil))
      have k0 : (hk0 o y).ok := heapOf_ok _ _ hp0_ok
      have a1 := cK_27 y (hT y) (by omega)
      cases hy : (rightB vs && oneV y) with
      | false =>
        rw [hy] at a1
        exact FRwp.pieceY cK_ok follows 0 _ _ _ _ (r11c o s n y oth) hbeg (MetH.cons a1 MetH.nil) MetE.nil s11 rfl rfl (noFix _) fun g => hend _ g
      | true =>
        rw [hy] at a1
        obtain ⟨hr, oy⟩ := Bool.and_eq_true_iff.1 hy
        have hxr := setV_right hr oy
        have hmx : y ∈ setV vs y := (mem_setV hr).2 (.inl rfl)
        have lx : (setV vs y).length ≤ vs.length + 1 := by rw [setV_len]; cases fnd vs y.id <;> simp
        have hf1 : findV vs oth = findV (setV vs y) oth := find_ext (right_iff.1 hr).2 (right_iff.1 hxr).2 fun x hx => by
          rw [mem_setV hr]
          constructor
          · intro hm; exact .inr ⟨hm, by omega⟩
          · rintro (rfl | ⟨hm, -⟩)
            · exact absurd hx hne
            · exact hm
        generalize hxs : setV vs y = xs at *
        have hux := (right_iff.1 hxr).2
        have hfx := (fnd_mem hux hmx).1
        have hf2 : findV (dropV xs y.id) oth = findV xs oth := find_ext (dropV_up hux) hux fun x hx => by
          rw [mem_dropV hux hmx]
          exact ⟨fun h => h.1, fun h => ⟨h, by omega⟩⟩
        have hf3 : findV (dropV xs y.id) y.id = none := by
          cases e : findV (dropV xs y.id) y.id with
          | none => rfl
          | some x =>
            obtain ⟨h1, h2⟩ := (find_mem (dropV_up hux)).1 e
            exact absurd h2 ((mem_dropV hux hmx).1 h1).2
        have hf4 : findV xs y.id = some y := (find_mem hux).2 ⟨hmx, rfl⟩
        have ld := dropV_len hfx
        have lpos : 0 < xs.length := List.length_pos_of_mem hmx
        generalize hds : dropV xs y.id = ds at *
        have z0 : (hk0 o y).sz = 3 := rfl
        have z1 : (hk1 xs o y).sz = 5 := rfl
        have k1 : (hk1 xs o y).ok := heapOf_ok _ _ k0
        have k2 : (hk2 ds xs o y).ok := heapOf_ok _ _ k1
        have kG : ∀ {hp : Hp} (x : ViewV), hp.ok → (hkG x hp).ok := fun x h => heapOf_ok _ _ h
        have TX1 : TN xs (rowS 3 xs.length (setC s vs y.id)) (hk1 xs o y) := TN.new rfl (get_new z0)
        have TX2 : TN xs (rowS 3 xs.length (setC s vs y.id)) (hk2 ds xs o y) := TX1.ext k1 _
        have TD2 : TN ds (rowS 5 ds.length 23) (hk2 ds xs o y) := TN.new rfl (get_new z1)
        have TL2 : TN vs s (hk2 ds xs o y) := ((hT y).ext k0 _).ext k1 _
        have a2 := cK_41 (id := y.id) TX1 (by omega)
        rw [hxr, hfx, hds] at a2
        have a3 := cK_33 (id := y.id) TX2 (by omega)
        have a4 := cK_33 (id := oth) (TL2.ext k2 [.dead, hB y]) (by omega)
        have e4 : getV vs oth = gT ((findV xs oth).getD (zeroV 0)) (findV xs oth).isSome := by unfold getV; rw [hf1]; rfl
        generalize hA : (findV xs oth).getD (zeroV 0) = a at *
        generalize hB' : (findV xs oth).isSome = b at *
        have a5 := cK_33 (id := oth) ((TX2.ext k2 [.dead, hB y]).ext (kG y k2) [.dead, hB a]) (by omega)
        have a6 := cK_33 (id := oth) (((TD2.ext k2 [.dead, hB y]).ext (kG y k2) [.dead, hB a]).ext (kG a (kG y k2)) [.dead, hB a]) (by omega)
        have a7 := cK_33 (id := y.id) ((((TD2.ext k2 [.dead, hB y]).ext (kG y k2) [.dead, hB a]).ext (kG a (kG y k2)) [.dead, hB a]).ext (kG a (kG a (kG y k2))) [.dead, hB a]) (by omega)
        have a8 := cK_18 (((((TX2.ext k2 [.dead, hB y]).ext (kG y k2) [.dead, hB a]).ext (kG a (kG y k2)) [.dead, hB a]).ext (kG a (kG a (kG y k2))) [.dead, hB a]).ext (kG a (kG a (kG a (kG y k2)))) [.dead, hB (zeroV 0)]) (by omega)
        have e3 : getV xs y.id = gT y true := by unfold getV; rw [hf4]; rfl
        have e5 : getV xs oth = gT a b := by unfold getV; rw [hA, hB']; rfl
        have e6 : getV ds oth = gT a b := by unfold getV; rw [hf2, hA, hB']; rfl
        have e7 : getV ds y.id = gT (zeroV 0) false := by unfold getV; rw [hf3]; rfl
        rw [e3] at a3
        rw [e4] at a4
        rw [e5] at a5
        rw [e6] at a6
        rw [e7] at a7
        rw [hxr] at a8
        refine FRwp.pieceY cK_ok follows 0 _ _ _ _ (r11d xs ds o s n y oth xs.length (setC s vs y.id) ds.length a b) (met_app hbeg (Met.cons (eql23_self y) (Met.cons (eql23_self a) (Met.cons (by simp) (Met.cons (eql23_self a) (Met.cons (by simp) (Met.cons (wrap_up (by omega)) (Met.cons ?_ Met.nil)))))))) (MetH.cons a1 (MetH.cons a2 (MetH.cons a3 (MetH.cons a4 (MetH.cons a5 (MetH.cons a6 (MetH.cons a7 (MetH.cons a8 MetH.nil)))))))) MetE.nil s11 rfl rfl (noFix _) fun g => hend _ g
        rw [show ds.length + 1 = xs.length by omega]
        simp
end Go.Proofs.Ytiogdklmhpllfaa.LtA
namespace Go.Proofs.Ytiogdklmhpllfaa.LtA
open Go Go.Proofs Go.Proofs.Ytiogdklmhpllfaa.AI Go.RowKit Go.ChangeShapes

theorem walk11 {H : Type} {enc : TypeId × Value → H} (W : World) (base : Nat) (args : Array Value) (ds : List (DataW H)) (p : List MemPlace) (hsz : args.size = 4) (hval : ∀ (j : Nat) t v, Try.f11.params[j]? = some t → args[j]? = some v → Value.okWide Try.prog W .any base t v)
    (hA : DataW.TrodAll enc Try.prog W 0 (fun _ => true) true [29, 3, 3, 23] args.toList ds p) : Calls Try.prog 11 args W fun e W' => e = .returned (.bool true) ∧ Below W.heap.size W W' := by
  obtain ⟨vl, va, vb, vh, rfl⟩ : ∃ vl va vb vh, args = #[vl, va, vb, vh] := by
    obtain ⟨l⟩ := args
    match l, hsz with
    | [a, b, c, d], _ => exact ⟨a, b, c, d, rfl⟩
  obtain ⟨a, rfl, _⟩ := valw_int Try.underlying3 (hval 1 3 va (by kernel_rfl) rfl)
  obtain ⟨b, rfl, _⟩ := valw_int Try.underlying3 (hval 2 3 vb (by kernel_rfl) rfl)
  obtain ⟨y, hy, rfl⟩ := open_height' a (hval 3 23 vh (by kernel_rfl) rfl)
  subst hy
  obtain ⟨v1, vs1, d1, ds1, p1, q1, e1, _, _, hT, _⟩ := trodAll_cons hA
  cases e1
  obtain ⟨o, s, n, m, hi, sim, ro, rv, hl, hrow⟩ := row_arg (hval 0 29 vl (by kernel_rfl) rfl) hT
  refine law_end Try.func11 body11 ntmps11 W (args0 := [s, .int .i64 y.id, .int .i64 b, hcA y]) (by simp) (ok2_heap o .dead) sim ro (.cons rv (.cons (.flat rfl) (.cons (.flat rfl) (.cons (hcA_rel y) .nil)))) fun W => ?_
  refine law11_fr o s n hl (fun hn => ?_) y b W
  obtain ⟨vs, h1, h2⟩ := hrow hn
  exact ⟨vs, h1, fun y => h2 [.cells 23 (hcL y) false]⟩
theorem params11 : ∀ t ∈ Try.f11.params.toList, Try.prog.readableRec t = true ∧ t < Try.prog.types.size := by
  have h : Try.f11.params.toList.all (fun t => Try.prog.readableRec t && decide (t < Try.prog.types.size)) = true := by kernel_rfl
  intro t ht
  have := List.all_eq_true.1 h t ht
  simpa using this
theorem lifted11 (os : Os) (started : os.Started) (H : Type) (enc : TypeId × Value → H) :
    ReturnsInHanded {} Try.checked os 11 .any (Rows.viewsKeepSpec.pre6 enc Try.prog Try.f11 Rows.viewsKeepRow.domain false) (Rows.viewsKeepSpec.post enc Try.prog Try.f11 false true false false) :=
  law_lifted (C := Try.checked) (tb := 4) started own (by kernel_rfl) Try.func11 laid params11 rfl (by kernel_rfl) Try.underlying4
    (fun ds hl => by
      match ds, hl with
      | [_, _, _, _], _ => rfl)
    (ChangeSpec.witness6 (enc := enc) (C := Try.checked) false ⟨#[], #[nilS, .int .i64 0, .int .i64 0, hcA (zeroV 0)], []⟩ 8 (by kernel_rfl) (by kernel_rfl) (by kernel_rfl) (by kernel_rfl))
    (fun W base args ds p hsz hval hA => walk11 W base args ds p hsz hval hA)

/-- The statement. -/
theorem viewsKeep_proved : Rows.ViewsKeepSaid :=
  OpenClaim.holds_of_wide 11 Try.f11 rfl rfl rfl rfl rfl rfl rfl ⟨rfl, rfl, rfl, rfl, rfl⟩ rfl rfl rfl rfl rfl (by kernel_rfl) Try.func11 (by kernel_rfl)
    (of_decide_eq_true (by kernel_rfl)) (by unfold Func.isWrapper; first | (rw [if_pos (by decide +kernel)]; kernel_rfl) | (rw [if_neg (by decide +kernel)]; exact ⟨rfl, rfl⟩))
    (fun os started H enc _ => lifted11 os started H enc)
#print axioms viewsKeep_proved
end Go.Proofs.Ytiogdklmhpllfaa.LtA
