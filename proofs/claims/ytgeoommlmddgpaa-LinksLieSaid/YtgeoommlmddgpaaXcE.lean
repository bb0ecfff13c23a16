/- Part 5. -/
import Derived.Test.YtgeoommlmddgpaaXcD
import Derived.Test.YtgeoommlmddgpaaRows
set_option linter.unusedVariables false
set_option linter.unusedSimpArgs false
set_option maxRecDepth 100000
namespace Go.Proofs.Ytgeoommlmddgpaa.LtL
open Go Go.Proofs Go.Proofs.Ytgeoommlmddgpaa.AI Go.RowKit Go.Proofs.Ytgeoommlmddgpaa.Sort Go.Proofs.Ytgeoommlmddgpaa.LtA
open Classical in
noncomputable def g102 (w : Nat) (us : List ViewV) : HeapFn := fun args hp => match args with
  | [.slice (some ⟨k, 0, none⟩) n c, .int .i64 (.ofNat a), .int .i64 (.ofNat m), .int .i64 (.ofNat b), f] =>
    if f = Fc ∧ IsRow us (.slice (some ⟨k, 0, none⟩) n c) hp ∧ a < m ∧ m < b ∧ b ≤ us.length ∧ b - a ≤ w ∧ (∀ z ∈ (us.drop a).take (m - a), Kn z) ∧ (∀ z ∈ (us.drop m).take (b - m), Kn z) ∧ Srt ltV ((us.drop a).take (m - a)) ∧ Srt ltV ((us.drop m).take (b - m)) then
      some (vU, hp.put k (rowB (us.take a ++ mrg ltV ((us.drop a).take (m - a)) ((us.drop m).take (b - m)) ++ us.drop b))) else none
  | _ => none
open Classical in
theorem g102_of {w : Nat} {A X Y C us : List ViewV} {k n c a m b : Nat} {hp : Hp} (hus : us = A ++ X ++ Y ++ C) (hA : A.length = a) (hm : m = a + X.length) (hb' : b = m + Y.length) (hX : 0 < X.length) (hY : 0 < Y.length) (hn : n = us.length) (hl : n < 1000000) (hw : b - a ≤ w)
    (kX : ∀ z ∈ X, Kn z) (kY : ∀ z ∈ Y, Kn z) (sX : Srt ltV X) (sY : Srt ltV Y) (hb : hp.get k = some (rowB us)) :
    atW (g102 w) [rowS k n c, iN a, iN m, iN b, Fc] hp = some (vU, hp.put k (rowB (A ++ mrg ltV X Y ++ C))) := by
  subst hn
  have hr : IsRow us (rowS k us.length c) hp := ⟨k, c, rfl, hb⟩
  rw [atW_of hr hl]
  obtain ⟨e1, e2, e3, e4⟩ := cut4_of (C := C) hA hm hb'
  show (if Fc = Fc ∧ IsRow us (rowS k us.length c) hp ∧ a < m ∧ m < b ∧ b ≤ us.length ∧ b - a ≤ w ∧ (∀ z ∈ (us.drop a).take (m - a), Kn z) ∧ (∀ z ∈ (us.drop m).take (b - m), Kn z) ∧ Srt ltV ((us.drop a).take (m - a)) ∧ Srt ltV ((us.drop m).take (b - m)) then
      some (vU, hp.put k (rowB (us.take a ++ mrg ltV ((us.drop a).take (m - a)) ((us.drop m).take (b - m)) ++ us.drop b))) else none) = _
  rw [hus] at hr ⊢
  rw [e1, e2, e3, e4, if_pos ⟨rfl, hr, by omega, by omega, by simp; omega, hw, kX, kY, sX, sY⟩]
noncomputable def E102 (w : Nat) : Ext := extG (extH Try.prog []) [(100, G111), (94, atW (g102 w))]
noncomputable def c102w (w : Nat) : CallF := aCall Try.prog (E102 w) 5
theorem c102_111 (w : Nat) (args : List Value) (hp : Hp) : c102w w 100 args hp = G111 args hp := by
  show aCall Try.prog (E102 w) 5 100 _ _ = _
  rw [aCall]; rfl
theorem c102_102 (w : Nat) (args : List Value) (hp : Hp) : c102w w 94 args hp = atW (g102 w) args hp := by
  show aCall Try.prog (E102 w) 5 94 _ _ = _
  rw [aCall]; rfl
theorem gen_fr {w : Nat} (hc : CallOk Try.prog (c102w w)) {A X Y C us : List ViewV} {n c a m b : Nat} (hus : us = A ++ X ++ Y ++ C) (hA : A.length = a) (hm : m = a + X.length) (hb : b = m + Y.length) (hX : 0 < X.length) (hY : 0 < Y.length) (hw : b - a ≤ w + 1)
    (hn : n = us.length) (hl : n < 1000000) (kX : ∀ u ∈ X, Kn u) (kY : ∀ u ∈ Y, Kn u) (sX : Srt ltV X) (sY : Srt ltV Y) (W : Base) (x : Nat × Nat × Nat) (g : Nat → Value) :
    FRp Try.prog 220 W x t3c102 (A102' n c a m b us false g) (Ends4 (A ++ mrg ltV X Y ++ C)) := by
  have hlen : us.length = a + X.length + Y.length + C.length := by rw [hus]; simp; omega
  -- what lies where
  have gX : ∀ {i : Nat}, a ≤ i → i < m → us[i]? = X[i - a]? := fun {i} h1 h2 => by
    have := at_X hus hA (i := i - a) (by omega)
    rwa [show a + (i - a) = i by omega] at this
  have gY : ∀ {i : Nat}, m ≤ i → i < b → us[i]? = Y[i - m]? := fun {i} h1 h2 => by
    have := at_Y hus hA hm (i := i - m) (by omega)
    rwa [show m + (i - m) = i by omega] at this
  have KX : ∀ {i u}, a ≤ i → i < m → us[i]? = some u → Kn u := fun h1 h2 h => kX _ (List.mem_of_getElem? (by rw [← gX h1 h2]; exact h))
  have KY : ∀ {i u}, m ≤ i → i < b → us[i]? = some u → Kn u := fun h1 h2 h => kY _ (List.mem_of_getElem? (by rw [← gY h1 h2]; exact h))
  have SX : ∀ {i j u v}, a ≤ i → i ≤ j → j < m → us[i]? = some u → us[j]? = some v → ltV v u = false := fun {i j u v} h1 h2 h3 hu hv => srt_get sX kX (show i - a ≤ j - a by omega) (by rw [← gX h1 (by omega)]; exact hu) (by rw [← gX (by omega) h3]; exact hv)
  have SY : ∀ {i j u v}, m ≤ i → i ≤ j → j < b → us[i]? = some u → us[j]? = some v → ltV v u = false := fun {i j u v} h1 h2 h3 hu hv => srt_get sY kY (show i - m ≤ j - m by omega) (by rw [← gY h1 (by omega)]; exact hu) (by rw [← gY (by omega) h3]; exact hv)
  refine FRp.seq (Q1 := fun e st => e = .normal ∧ ∃ g, st = N102 n c a m b ((a + b) / 2) us g) (FRp.piece c101_ok follows 1 _ _ _ _ (r102m us n c a m b ((a + b) / 2) g) (hvO_ok (by omega) Met.nil) MetH.nil MetE.nil s102m rfl rfl (fix1 us []) rfl fun g => ⟨rfl, g, rfl⟩) ?_ (fun x st hne hq => absurd hq.1 hne)
  rintro st ⟨-, g, rfl⟩
  have hmid1 : 2 * ((a + b) / 2) ≤ a + b := by omega
  have hmid2 : a + b ≤ 2 * ((a + b) / 2) + 1 := by omega
  generalize (a + b) / 2 = mid at *
  refine FRp.seq (Q1 := fun e st => e = .normal ∧ ∃ g, st = O102 n c a m b mid (mid + m) us g) (FRp.piece c101_ok follows 1 _ _ _ _ (r102n us n c a m b mid g) (Met.cons (adO_ok (by omega)) Met.nil) MetH.nil MetE.nil s102n rfl rfl (fix1 us []) rfl fun g => ⟨rfl, g, rfl⟩) ?_ (fun x st hne hq => absurd hq.1 hne)
  rintro st ⟨-, g, rfl⟩
  refine FRp.seq (Q1 := fun e st => e = .normal ∧ ∃ g, st = O102 n c a m b mid (mid + m) us g) (FRp.piece c101_ok follows 1 _ _ _ _ (r102o us n c a m b mid (mid + m) g) Met.nil MetH.nil MetE.nil s102o rfl rfl (fix1 us []) rfl fun g => ⟨rfl, g, rfl⟩) ?_ (fun x st hne hq => absurd hq.1 hne)
  rintro st ⟨-, g, rfl⟩
  refine FRp.seq (Q1 := fun e st => e = .normal ∧ ∃ s0 r0 g, s0 ≤ r0 ∧ (m > mid ∧ s0 + b = mid + m ∧ r0 = mid ∨ m ≤ mid ∧ s0 = a ∧ r0 = m) ∧ st = P102 n c a m b mid (mid + m) us s0 r0 g) ?_ ?_ (fun x st hne hq => absurd hq.1 hne)
  · cases h140 : decide (mid < m) with
    | true =>
      have hlt := of_decide_eq_true h140
      exact FRp.piece c101_ok follows 1 _ _ _ _ (r102pt us n c a m b mid (mid + m) g) (Met.cons (gtO_ok h140) (Met.cons (suO_ok (by omega) (by omega)) Met.nil)) MetH.nil MetE.nil s102p rfl rfl (fix1 us []) rfl fun g => ⟨rfl, mid + m - b, mid, g, by omega, .inl ⟨hlt, by omega, rfl⟩, rfl⟩
    | false =>
      have hlt := of_decide_eq_false h140
      exact FRp.piece c101_ok follows 1 _ _ _ _ (r102pf us n c a m b mid (mid + m) g) (Met.cons (gtO_ok h140) Met.nil) MetH.nil MetE.nil s102p rfl rfl (fix1 us []) rfl fun g => ⟨rfl, a, m, g, by omega, .inr ⟨by omega, rfl, rfl⟩, rfl⟩
  rintro st ⟨-, s0, r0, g, hs0, hcase, rfl⟩
  refine FRp.seq (Q1 := fun e st => e = .normal ∧ ∃ g, st = R102 n c a m b (mid + m - 1) mid (mid + m) us s0 r0 g) (FRp.piece c101_ok follows 1 _ _ _ _ (r102q us n c a m b s0 r0 mid (mid + m) g) (Met.cons (suO_ok (by omega) (by omega)) Met.nil) MetH.nil MetE.nil s102q rfl rfl (fix1 us []) rfl fun g => ⟨rfl, g, rfl⟩) ?_ (fun x st hne hq => absurd hq.1 hne)
  rintro st ⟨-, g, rfl⟩
  have H : ∀ i, s0 ≤ i → i < r0 → a ≤ i ∧ i < m ∧ m ≤ mid + m - 1 - i ∧ mid + m - 1 - i < b ∧ i ≤ mid + m - 1 := fun i h1 h2 => by
    rcases hcase with ⟨q1, q2, q3⟩ | ⟨q1, q2, q3⟩ <;> omega
  refine FRp.seq (Q1 := fun e st => e = .normal ∧ ∃ s g, s0 ≤ s ∧ s ≤ r0 ∧ (∀ i u v, s0 ≤ i → i < s → us[mid + m - 1 - i]? = some u → us[i]? = some v → ltV u v = false) ∧ (∀ i u v, s ≤ i → i < r0 → us[mid + m - 1 - i]? = some u → us[i]? = some v → ltV u v = true) ∧ st = S102 n c a m b mid (mid + m) us s g) ?_ ?_ (fun x st hne hq => absurd hq.1 hne)
  · refine FRp.block ?_
    refine FRp.loop (fun k st => ∃ s r g, s0 ≤ s ∧ s ≤ r ∧ r ≤ r0 ∧ k = r - s ∧ (∀ i u v, s0 ≤ i → i < s → us[mid + m - 1 - i]? = some u → us[i]? = some v → ltV u v = false) ∧ (∀ i u v, r ≤ i → i < r0 → us[mid + m - 1 - i]? = some u → us[i]? = some v → ltV u v = true) ∧ st = R102 n c a m b (mid + m - 1) mid (mid + m) us s r g) ?_ (k := r0 - s0)
      ⟨s0, r0, g, Nat.le_refl _, hs0, Nat.le_refl _, rfl, (fun i u v h1 h2 => by omega), (fun i u v h1 h2 => by omega), rfl⟩
    rintro k st ⟨s, r, g, h1, h2, h3, rfl, hlo, hhi, rfl⟩
    cases h151 : decide (s < r) with
    | false =>
      have e : s = r := by have := of_decide_eq_false h151; omega
      subst e
      refine FRp.piece c101_ok follows 1 _ _ _ _ (r102rx us n c a m b s s (mid + m - 1) mid (mid + m) g) (Met.cons (ltO_ok h151) Met.nil) MetH.nil MetE.nil s102r rfl rfl (fix1 us []) rfl fun g' => .inr ⟨by simp, ?_⟩
      show (if (8 : Nat) = 8 then _ else _)
      rw [if_pos rfl]
      exact ⟨rfl, s, g', h1, h3, hlo, hhi, rfl⟩
    | true =>
      have hlt := of_decide_eq_true h151
      have hq1 : s ≤ (s + r) / 2 := by omega
      have hq2 : (s + r) / 2 < r := by omega
      have hhv : ∀ l, Met l → Met (hvO s r ((s + r) / 2) l) := fun l q => hvO_ok (show s + r < 3000000 by have := H s h1 (by omega); omega) q
      generalize (s + r) / 2 = h at *
      obtain ⟨c1, c2, c3, c4, c5⟩ := H h (by omega) (by omega)
      obtain ⟨v, hv⟩ : ∃ v, us[h]? = some v := some_at (by omega)
      obtain ⟨u, hu⟩ : ∃ u, us[mid + m - 1 - h]? = some u := some_at (by omega)
      have met : ∀ {b' : Bool} {l : List Obl}, ltV u v = b' → Met l → Met (r1o us n c h s r (mid + m - 1) u v b' l) := fun hb' hl =>
        Met.cons (ltO_ok h151) (hhv _ (Met.cons (suO_ok (by omega) c5) (Met.cons (ix_ok (by omega)) (Met.cons (at_ok (hW_at _) hu) (Met.cons (ix_ok (by omega)) (Met.cons (at_ok (hW_at _) hv) (Met.cons (cpO_ok hb') hl)))))))
      cases h170 : ltV u v with
      | false =>
        refine FRp.piece c101_ok follows 1 _ _ _ _ (r102rf us n c a m b h s r (mid + m - 1) mid (mid + m) u v g) (met h170 (Met.cons (wrap_up (by omega)) Met.nil)) MetH.nil MetE.nil s102r rfl rfl (fix1 us []) rfl fun g' => .inl ⟨rfl, r - (h + 1), by omega, h + 1, r, g', by omega, by omega, h3, rfl, fun i u' v' i1 i2 hu' hv' => ?_, hhi, rfl⟩
        obtain ⟨d1, d2, d3, d4, d5⟩ := H i i1 (by omega)
        have s1 := SX d1 (show i ≤ h by omega) c2 hv' hv
        have s2 := SY c3 (show mid + m - 1 - h ≤ mid + m - 1 - i by omega) d4 hu hu'
        exact sw.ntr u' v v' (KY d3 d4 hu') (KX c1 c2 hv) (KX d1 d2 hv') (sw.ntr u' u v (KY d3 d4 hu') (KY c3 c4 hu) (KX c1 c2 hv) s2 h170) s1
      | true =>
        refine FRp.piece c101_ok follows 1 _ _ _ _ (r102rt us n c a m b h s r (mid + m - 1) mid (mid + m) u v g) (met h170 Met.nil) MetH.nil MetE.nil s102r rfl rfl (fix1 us []) rfl fun g' => .inl ⟨rfl, h - s, by omega, s, h, g', h1, hq1, by omega, rfl, hlo, fun i u' v' i1 i2 hu' hv' => ?_, rfl⟩
        obtain ⟨d1, d2, d3, d4, d5⟩ := H i (by omega) i2
        cases e : ltV u' v' with
        | true => rfl
        | false =>
          have s1 := SX c1 i1 d2 hv hv'
          have s2 := SY d3 (show mid + m - 1 - i ≤ mid + m - 1 - h by omega) c4 hu' hu
          have := sw.ntr u v' v (KY c3 c4 hu) (KX d1 d2 hv') (KX c1 c2 hv) (sw.ntr u u' v' (KY c3 c4 hu) (KY d3 d4 hu') (KX d1 d2 hv') s2 e) s1
          rw [this] at h170; cases h170
  rintro st ⟨-, s, g, hs1, hs2, hlo, hhi, rfl⟩
  have bs : a ≤ s ∧ s ≤ m ∧ s ≤ mid ∧ m ≤ mid + m - s ∧ mid + m - s ≤ b := by rcases hcase with ⟨q1, q2, q3⟩ | ⟨q1, q2, q3⟩ <;> omega
  obtain ⟨bs1, bs2, bs3, bs4, bs5⟩ := bs
  obtain ⟨X1, X2, hXe, lX1⟩ : ∃ X1 X2, X = X1 ++ X2 ∧ X1.length = s - a := ⟨X.take (s - a), X.drop (s - a), (List.take_append_drop _ _).symm, by simp; omega⟩
  obtain ⟨Y1, Y2, hYe, lY1⟩ : ∃ Y1 Y2, Y = Y1 ++ Y2 ∧ Y1.length = mid - s := ⟨Y.take (mid - s), Y.drop (mid - s), (List.take_append_drop _ _).symm, by simp; omega⟩
  have lX : X.length = X1.length + X2.length := by rw [hXe]; simp
  have lY : Y.length = Y1.length + Y2.length := by rw [hYe]; simp
  have iX1 : ∀ z ∈ X1, ∃ i, a ≤ i ∧ i < s ∧ us[i]? = some z := fun z hz => by
    obtain ⟨i, hi⟩ := List.mem_iff_getElem?.1 hz
    have hlt := (List.getElem?_eq_some_iff.1 hi).1
    exact ⟨a + i, by omega, by omega, by rw [gX (by omega) (by omega), hXe, show a + i - a = i by omega, List.getElem?_append_left hlt, hi]⟩
  have iX2 : ∀ z ∈ X2, ∃ i, s ≤ i ∧ i < m ∧ us[i]? = some z := fun z hz => by
    obtain ⟨i, hi⟩ := List.mem_iff_getElem?.1 hz
    have hlt := (List.getElem?_eq_some_iff.1 hi).1
    exact ⟨s + i, by omega, by omega, by rw [gX (by omega) (by omega), hXe, List.getElem?_append_right (by omega), show s + i - a - X1.length = i by omega, hi]⟩
  have iY1 : ∀ z ∈ Y1, ∃ i, m ≤ i ∧ i < mid + m - s ∧ us[i]? = some z := fun z hz => by
    obtain ⟨i, hi⟩ := List.mem_iff_getElem?.1 hz
    have hlt := (List.getElem?_eq_some_iff.1 hi).1
    exact ⟨m + i, by omega, by omega, by rw [gY (by omega) (by omega), hYe, show m + i - m = i by omega, List.getElem?_append_left hlt, hi]⟩
  have iY2 : ∀ z ∈ Y2, ∃ i, mid + m - s ≤ i ∧ i < b ∧ us[i]? = some z := fun z hz => by
    obtain ⟨i, hi⟩ := List.mem_iff_getElem?.1 hz
    have hlt := (List.getElem?_eq_some_iff.1 hi).1
    exact ⟨mid + m - s + i, by omega, by omega, by rw [gY (by omega) (by omega), hYe, List.getElem?_append_right (by omega), show mid + m - s + i - m - Y1.length = i by omega, hi]⟩
  have C1 : ∀ y ∈ Y1, ∀ z ∈ X2, ltV y z = true := fun y hy z hz => by
    obtain ⟨j, j1, j2, hj⟩ := iY1 y hy
    obtain ⟨i, i1, i2, hi⟩ := iX2 z hz
    have hsr : s < r0 := by rcases hcase with ⟨q1, q2, q3⟩ | ⟨q1, q2, q3⟩ <;> omega
    obtain ⟨d1, d2, d3, d4, d5⟩ := H s hs1 hsr
    obtain ⟨v, hv⟩ : ∃ v, us[s]? = some v := some_at (by omega)
    obtain ⟨u, hu⟩ : ∃ u, us[mid + m - 1 - s]? = some u := some_at (by omega)
    have hk := hhi s u v (Nat.le_refl _) hsr hu hv
    cases e : ltV y z with
    | true => rfl
    | false =>
      have s1 := SX d1 i1 i2 hv hi
      have s2 := SY j1 (show j ≤ mid + m - 1 - s by omega) d4 hj hu
      have := sw.ntr u z v (KY d3 d4 hu) (KX (by omega) i2 hi) (KX d1 d2 hv) (sw.ntr u y z (KY d3 d4 hu) (KY j1 (by omega) hj) (KX (by omega) i2 hi) s2 e) s1
      rw [this] at hk; cases hk
  have C2 : ∀ y ∈ Y2, ∀ z ∈ X1, ltV y z = false := fun y hy z hz => by
    obtain ⟨j, j1, j2, hj⟩ := iY2 y hy
    obtain ⟨i, i1, i2, hi⟩ := iX1 z hz
    have hsr : s0 < s := by rcases hcase with ⟨q1, q2, q3⟩ | ⟨q1, q2, q3⟩ <;> omega
    obtain ⟨d1, d2, d3, d4, d5⟩ := H (s - 1) (by omega) (by omega)
    obtain ⟨v, hv⟩ : ∃ v, us[s - 1]? = some v := some_at (by omega)
    obtain ⟨u, hu⟩ : ∃ u, us[mid + m - 1 - (s - 1)]? = some u := some_at (by omega)
    have hk := hlo (s - 1) u v (by omega) (by omega) hu hv
    have s1 := SX i1 (show i ≤ s - 1 by omega) d2 hi hv
    have s2 := SY d3 (show mid + m - 1 - (s - 1) ≤ j by omega) j2 hu hj
    exact sw.ntr y v z (KY (by omega) j2 hj) (KX d1 d2 hv) (KX i1 (by omega) hi) (sw.ntr y u v (KY (by omega) j2 hj) (KY d3 d4 hu) (KX d1 d2 hv) s2 hk) s1
  obtain ⟨sX1, sX2, -⟩ := List.pairwise_append.1 (show Srt ltV (X1 ++ X2) by rw [← hXe]; exact sX)
  obtain ⟨sY1, sY2, sY12⟩ := List.pairwise_append.1 (show Srt ltV (Y1 ++ Y2) by rw [← hYe]; exact sY)
  have hsplit : mrg ltV X Y = mrg ltV X1 Y1 ++ mrg ltV X2 Y2 := by rw [hXe, hYe]; exact mrg_split C1 C2 fun y hy z hz => sY12 z hz y hy
  have kX1 : ∀ z ∈ X1, Kn z := fun z hz => kX z (by rw [hXe]; simp [hz])
  have kX2 : ∀ z ∈ X2, Kn z := fun z hz => kX z (by rw [hXe]; simp [hz])
  have kY1 : ∀ z ∈ Y1, Kn z := fun z hz => kY z (by rw [hYe]; simp [hz])
  have kY2 : ∀ z ∈ Y2, Kn z := fun z hz => kY z (by rw [hYe]; simp [hz])
  refine FRp.seq (Q1 := fun e st => e = .normal ∧ ∃ g, st = T102 n c a m b mid us s (mid + m - s) g) (FRp.piece c101_ok follows 1 _ _ _ _ (r102s us n c a m b s mid (mid + m) g) (Met.cons (suO_ok (by omega) (by omega)) Met.nil) MetH.nil MetE.nil s102s rfl rfl (fix1 us []) rfl fun g => ⟨rfl, g, rfl⟩) ?_ (fun x st hne hq => absurd hq.1 hne)
  rintro st ⟨-, g, rfl⟩
  have he : mid + m - s = m + Y1.length := by omega
  have he2 : mid + m - s = mid + X2.length := by omega
  generalize mid + m - s = e at *
  have ln2 : (A ++ X1 ++ Y1 ++ X2 ++ Y2 ++ C).length = n := by rw [hn, hlen]; simp; omega
  -- the rotation
  refine FRp.seq (Q1 := fun ex st => ex = .normal ∧ ∃ g, st = T102 n c a m b mid (A ++ X1 ++ Y1 ++ X2 ++ Y2 ++ C) s e g) ?_ ?_ (fun x st hne hq => absurd hq.1 hne)
  · cases h180 : decide (s < m) with
    | false =>
      have : X2 = [] := List.eq_nil_of_length_eq_zero (by have := of_decide_eq_false h180; omega)
      subst this
      have e1 : us = A ++ X1 ++ Y1 ++ [] ++ Y2 ++ C := by rw [hus, hXe, hYe]; simp
      rw [← e1]
      exact FRp.piece hc follows 1 _ _ _ _ (r102t1 (c102w w) us n c a m b s e mid g) (Met.cons (ltO_ok h180) Met.nil) MetH.nil MetE.nil s102t rfl rfl (fix1 us []) rfl fun g => ⟨rfl, g, rfl⟩
    | true =>
      have l1 := of_decide_eq_true h180
      cases h184 : decide (m < e) with
      | false =>
        have : Y1 = [] := List.eq_nil_of_length_eq_zero (by have := of_decide_eq_false h184; omega)
        subst this
        have e1 : us = A ++ X1 ++ [] ++ X2 ++ Y2 ++ C := by rw [hus, hXe, hYe]; simp
        rw [← e1]
        exact FRp.piece hc follows 1 _ _ _ _ (r102t2 (c102w w) us n c a m b s e mid g) (Met.cons (ltO_ok h180) (Met.cons (ltO_ok h184) Met.nil)) MetH.nil MetE.nil s102t rfl rfl (fix1 us []) rfl fun g => ⟨rfl, g, rfl⟩
      | true =>
        have l2 := of_decide_eq_true h184
        have hcall : c102w w 100 [rowS 0 n c, iN s, iN m, iN e, Fc] (hW us) = some (vU, (hW us).put 0 (rowB (A ++ X1 ++ Y1 ++ X2 ++ Y2 ++ C))) := by
          rw [c102_111]
          have := G111_of (A := A ++ X1) (X := X2) (Y := Y1) (C := Y2 ++ C) (us := us) (k := 0) (n := n) (c := c) (a := s) (m := m) (b := e) (hp := hW us) (by rw [hus, hXe, hYe]; simp) (by simp; omega) (by omega) he (by omega) (by omega) hn hl (hW_get us)
          rw [this]; simp
        exact FRp.piece hc follows 1 _ _ _ _ (r102t3 (c102w w) us _ n c a m b s e mid g) (Met.cons (ltO_ok h180) (Met.cons (ltO_ok h184) Met.nil)) (MetH.cons hcall MetH.nil) MetE.nil s102t rfl rfl (fix1 _ []) rfl fun g => ⟨rfl, g, rfl⟩
  rintro st ⟨-, g, rfl⟩
  -- the first half
  have lm1 : (mrg ltV X1 Y1).length = X1.length + Y1.length := len_mrg
  have ln3 : (A ++ mrg ltV X1 Y1 ++ X2 ++ Y2 ++ C).length = n := by rw [hn, hlen]; simp [lm1]; omega
  refine FRp.seq (Q1 := fun ex st => ex = .normal ∧ ∃ g, st = T102 n c a m b mid (A ++ mrg ltV X1 Y1 ++ X2 ++ Y2 ++ C) s e g) ?_ ?_ (fun x st hne hq => absurd hq.1 hne)
  · cases h194 : decide (a < s) with
    | false =>
      have : X1 = [] := List.eq_nil_of_length_eq_zero (by have := of_decide_eq_false h194; omega)
      subst this
      rw [mrg_nil_left sY1, List.append_nil]
      exact FRp.piece hc follows 1 _ _ _ _ (r102u1 (c102w w) _ n c a m b s e mid g) (Met.cons (ltO_ok h194) Met.nil) MetH.nil MetE.nil s102u rfl rfl (fix1 _ []) rfl fun g => ⟨rfl, g, rfl⟩
    | true =>
      have l1 := of_decide_eq_true h194
      cases h198 : decide (s < mid) with
      | false =>
        have : Y1 = [] := List.eq_nil_of_length_eq_zero (by have := of_decide_eq_false h198; omega)
        subst this
        have e1 : mrg ltV X1 [] = X1 := rfl
        rw [e1, List.append_nil]
        exact FRp.piece hc follows 1 _ _ _ _ (r102u2 (c102w w) _ n c a m b s e mid g) (Met.cons (ltO_ok h194) (Met.cons (ltO_ok h198) Met.nil)) MetH.nil MetE.nil s102u rfl rfl (fix1 _ []) rfl fun g => ⟨rfl, g, rfl⟩
      | true =>
        have l2 := of_decide_eq_true h198
        have hcall : c102w w 94 [rowS 0 n c, iN a, iN s, iN mid, Fc] (hW (A ++ X1 ++ Y1 ++ X2 ++ Y2 ++ C)) = some (vU, (hW (A ++ X1 ++ Y1 ++ X2 ++ Y2 ++ C)).put 0 (rowB (A ++ mrg ltV X1 Y1 ++ X2 ++ Y2 ++ C))) := by
          rw [c102_102]
          have := g102_of (w := w) (A := A) (X := X1) (Y := Y1) (C := X2 ++ Y2 ++ C) (us := A ++ X1 ++ Y1 ++ X2 ++ Y2 ++ C) (k := 0) (n := n) (c := c) (a := a) (m := s) (b := mid) (hp := hW (A ++ X1 ++ Y1 ++ X2 ++ Y2 ++ C)) (by simp) hA (by omega) (by omega) (by omega) (by omega) ln2.symm hl (by omega) kX1 kY1 sX1 sY1 (hW_get _)
          rw [this]; simp
        exact FRp.piece hc follows 1 _ _ _ _ (r102u3 (c102w w) _ _ n c a m b s e mid g) (Met.cons (ltO_ok h194) (Met.cons (ltO_ok h198) Met.nil)) (MetH.cons hcall MetH.nil) MetE.nil s102u rfl rfl (fix1 _ []) rfl fun g => ⟨rfl, g, rfl⟩
  rintro st ⟨-, g, rfl⟩
  -- the second half
  rw [hsplit]
  have fin : A ++ (mrg ltV X1 Y1 ++ mrg ltV X2 Y2) ++ C = A ++ mrg ltV X1 Y1 ++ mrg ltV X2 Y2 ++ C := by simp
  rw [fin]
  cases h208 : decide (mid < e) with
  | false =>
    have : X2 = [] := List.eq_nil_of_length_eq_zero (by have := of_decide_eq_false h208; omega)
    subst this
    rw [mrg_nil_left sY2, List.append_nil]
    exact FRp.piece hc follows 1 _ _ _ _ (r102v1 (c102w w) _ n c a m b s e mid g) (Met.cons (ltO_ok h208) Met.nil) MetH.nil MetE.nil s102v rfl rfl (fix1 _ []) rfl fun g => ⟨.inl rfl, g, rfl⟩
  | true =>
    have l1 := of_decide_eq_true h208
    cases h212 : decide (e < b) with
    | false =>
      have : Y2 = [] := List.eq_nil_of_length_eq_zero (by have := of_decide_eq_false h212; omega)
      subst this
      have e1 : mrg ltV X2 [] = X2 := rfl
      rw [e1, List.append_nil]
      exact FRp.piece hc follows 1 _ _ _ _ (r102v2 (c102w w) _ n c a m b s e mid g) (Met.cons (ltO_ok h208) (Met.cons (ltO_ok h212) Met.nil)) MetH.nil MetE.nil s102v rfl rfl (fix1 _ []) rfl fun g => ⟨.inl rfl, g, rfl⟩
    | true =>
      have l2 := of_decide_eq_true h212
      have hcall : c102w w 94 [rowS 0 n c, iN mid, iN e, iN b, Fc] (hW (A ++ mrg ltV X1 Y1 ++ X2 ++ Y2 ++ C)) = some (vU, (hW (A ++ mrg ltV X1 Y1 ++ X2 ++ Y2 ++ C)).put 0 (rowB (A ++ mrg ltV X1 Y1 ++ mrg ltV X2 Y2 ++ C))) := by
        rw [c102_102]
        exact g102_of (w := w) (A := A ++ mrg ltV X1 Y1) (X := X2) (Y := Y2) (C := C) rfl (by simp [lm1]; omega) he2 (by omega) (by omega) (by omega) ln3.symm hl (by omega) kX2 kY2 sX2 sY2 (hW_get _)
      exact FRp.piece hc follows 1 _ _ _ _ (r102v3 (c102w w) _ _ n c a m b s e mid g) (Met.cons (ltO_ok h208) (Met.cons (ltO_ok h212) Met.nil)) (MetH.cons hcall MetH.nil) MetE.nil s102v rfl rfl (fix1 _ []) rfl fun g => ⟨.inl rfl, g, rfl⟩
theorem sym_fr {w : Nat} (hc : CallOk Try.prog (c102w w)) {A X Y C us : List ViewV} {n c a m b : Nat} (hus : us = A ++ X ++ Y ++ C) (hA : A.length = a) (hm : m = a + X.length) (hb : b = m + Y.length) (hX : 0 < X.length) (hY : 0 < Y.length) (hw : b - a ≤ w + 1)
    (hn : n = us.length) (hl : n < 1000000) (kX : ∀ u ∈ X, Kn u) (kY : ∀ u ∈ Y, Kn u) (sX : Srt ltV X) (sY : Srt ltV Y) (W : Base) (x : Nat × Nat × Nat) :
    FRp Try.prog 220 W x code102 ⟨tmsOf [rowS 0 n c, iN a, iN m, iN b, Fc] 0 .leaf, heapOf [rowB us, .dead] hp0, []⟩ (Ends4 (A ++ mrg ltV X Y ++ C)) := by
  have hlen : us.length = a + X.length + Y.length + C.length := by rw [hus]; simp; omega
  let Q1 : Exit → St → Prop := fun e st => (e = .normal ∧ ∃ g, st = A102 n c a m b us false g) ∨ (e = .ret ∧ Ends4 (A ++ mrg ltV X Y ++ C) e st)
  refine FRp.seq (Q1 := Q1) ?_ ?_ ?_
  · refine FRp.seq (Q1 := fun e st => e = .normal ∧ ∃ g, st = A102 n c a m b us (m - a == 1) g) (FRp.piece c101_ok follows 1 _ _ _ _ (r102a c101 us n c a m b (m - a == 1)) (Met.cons (suO_ok (by omega) (by omega)) (Met.cons (eqO_ok rfl) Met.nil)) MetH.nil MetE.nil s102a rfl rfl (fix1 us []) rfl fun g => ⟨rfl, g, rfl⟩) ?_ (fun x st hne hq => absurd hq.1 hne)
    rintro st ⟨-, g, rfl⟩
    cases h28 : (m - a == 1) with
    | true =>
      have e1 : m - a = 1 := by simpa using h28
      obtain ⟨z, rfl⟩ : ∃ z, X = [z] := List.length_eq_one_iff.1 (by omega)
      refine FRp.cond_true (by kernel_rfl) (by kernel_rfl) ?_
      have := sleft_fr (n := n) (c := c) (b := b) hus hA (by simpa using hm) hb hn hl (kX z (.head _)) kY sY W x g
      exact FRp.mono this fun e st q => .inr ⟨q.1, .inr q.1, q.2⟩
    | false => exact FRp.cond_false (by kernel_rfl) (by kernel_rfl) (FRp.skip (.inl ⟨rfl, g, rfl⟩))
  · rintro st (⟨-, g, rfl⟩ | ⟨h, -⟩)
    · let Q2 : Exit → St → Prop := fun e st => (e = .normal ∧ ∃ g, st = A102' n c a m b us false g) ∨ (e = .ret ∧ Ends4 (A ++ mrg ltV X Y ++ C) e st)
      refine FRp.seq (Q1 := Q2) ?_ ?_ ?_
      · refine FRp.seq (Q1 := fun e st => e = .normal ∧ ∃ g, st = A102' n c a m b us (b - m == 1) g) (FRp.piece c101_ok follows 1 _ _ _ _ (r102g us n c a m b (b - m == 1) g) (Met.cons (suO_ok (by omega) (by omega)) (Met.cons (eqO_ok rfl) Met.nil)) MetH.nil MetE.nil s102g rfl rfl (fix1 us []) rfl fun g => ⟨rfl, g, rfl⟩) ?_ (fun x st hne hq => absurd hq.1 hne)
        rintro st ⟨-, g, rfl⟩
        cases h80 : (b - m == 1) with
        | true =>
          have e1 : b - m = 1 := by simpa using h80
          obtain ⟨y, rfl⟩ : ∃ y, Y = [y] := List.length_eq_one_iff.1 (by omega)
          refine FRp.cond_true (by kernel_rfl) (by kernel_rfl) ?_
          have := sright_fr (n := n) (c := c) (b := b) (d := true) hus hA hm hn hl (kY y (.head _)) kX sX W x g
          exact FRp.mono this fun e st q => .inr ⟨q.1, .inr q.1, q.2⟩
        | false => exact FRp.cond_false (by kernel_rfl) (by kernel_rfl) (FRp.skip (.inl ⟨rfl, g, rfl⟩))
      · rintro st (⟨-, g, rfl⟩ | ⟨h, -⟩)
        · exact gen_fr hc hus hA hm hb hX hY hw hn hl kX kY sX sY W x g
        · cases h
      · rintro e st hne (⟨h, -⟩ | ⟨-, h⟩)
        · exact absurd h hne
        · exact h
    · cases h
  · rintro e st hne (⟨h, -⟩ | ⟨-, h⟩)
    · exact absurd h hne
    · exact h
theorem hk102 : ∀ (w : Nat) (us : List ViewV), us.length < 1000000 → CallGoal Try.prog 94 (g102 w us)
  | 0, us, hn => put_goal follows Try.func94 body102 (by kernel_rfl) fun args hp v hp' he hk => by
    exfalso
    unfold g102 at he
    split at he
    case h_2 => cases he
    split at he
    case isFalse => cases he
    rename_i hT
    obtain ⟨-, -, h1, h2, h3, h4, -⟩ := hT
    omega
  | w + 1, us, hn => put_goal follows Try.func94 body102 (by kernel_rfl) fun args hp v hp' he hk => by
    have hc : CallOk Try.prog (c102w w) := aCall_sound (extG_ok (extH_ok .nil) (.cons hkG111 (.cons (atW_goal fun us hn => hk102 w us hn) .nil))) follows 5
    unfold g102 at he
    split at he
    case h_2 => cases he
    rename_i k n c a m b f
    split at he
    case isFalse => cases he
    rename_i hT
    cases he
    obtain ⟨rfl, ⟨b', c', e, hb⟩, h1, h2, h3, h4, k1, k2, s1, s2⟩ := hT
    simp only [rowS, Value.slice.injEq, Option.some.injEq, Addr.mk.injEq, and_true] at e
    obtain ⟨rfl, rfl, rfl⟩ := e
    refine put_case (is := [a, m, b]) hk hb (by rw [ntmps102]; simp) fun W x => ?_
    rw [ntmps102]
    refine FRp.mono (sym_fr hc (cut4 (us := us) (Nat.le_of_lt h1) (Nat.le_of_lt h2)) (by simp; omega) (by simp; omega) (by simp; omega) (by simp; omega) (by simp; omega) h4 rfl hn k1 k2 s1 s2 W x) fun e st q => ?_
    obtain ⟨q1, g, rfl⟩ := q
    exact ⟨q1, rfl, q102 _ g, by show (heapOf _ hp0).get 0 = _; rw [heapOf0_get]; rfl⟩
noncomputable def G102 : HeapFn := atW (g102 1000000)
theorem hkG102 : CallGoal Try.prog 94 G102 := atW_goal fun us hn => hk102 1000000 us hn
end Go.Proofs.Ytgeoommlmddgpaa.LtL
namespace Go.Proofs.Ytgeoommlmddgpaa.LtL
open Go Go.Proofs Go.Proofs.Ytgeoommlmddgpaa.AI Go.RowKit Go.Proofs.Ytgeoommlmddgpaa.Sort Go.Proofs.Ytgeoommlmddgpaa.LtA
noncomputable def E88 : Ext := extG (extH Try.prog []) [(93, G101), (94, G102)]
noncomputable def c88 : CallF := aCall Try.prog E88 5
theorem c88_ok : CallOk Try.prog c88 := aCall_sound (extG_ok (extH_ok .nil) (.cons hkG101 (.cons hkG102 .nil))) follows 5
theorem c88_101 (args : List Value) (hp : Hp) : c88 93 args hp = G101 args hp := by
  show aCall Try.prog E88 5 93 _ _ = _
  rw [aCall]; rfl
theorem c88_102 (args : List Value) (hp : Hp) : c88 94 args hp = G102 args hp := by
  show aCall Try.prog E88 5 94 _ _ = _
  rw [aCall]; rfl
noncomputable def fb88 : Code := (Try.f82.body).getD .skip
noncomputable def c88a : Code := sL fb88
noncomputable def c88b : Code := sL (sR fb88)
noncomputable def c88c : Code := unL (unB (sL (sR (sR fb88))))
noncomputable def c88d : Code := sL (sR (sR (sR fb88)))
noncomputable def l88 : Code := unL (unB (sR (sR (sR (sR fb88)))))
noncomputable def c88e : Code := sL l88
noncomputable def c88f : Code := sL (unB (sR l88))
noncomputable def c88g : Code := unL (unB (sL (sR (unB (sR l88)))))
noncomputable def c88h : Code := sL (sR (sR (unB (sR l88))))
noncomputable def c88i : Code := sR (sR (sR (unB (sR l88))))
noncomputable abbrev code88 : Code := .seq c88a (.seq c88b (.seq (.block 0 (.loop c88c)) (.seq c88d (.block 2 (.loop (.seq c88e (.block 3 (.seq c88f (.seq (.block 4 (.loop c88g)) (.seq c88h c88i))))))))))
theorem body88 : Try.f82.body = some code88 := by kernel_rfl
theorem ntmps88 : Try.f82.ntmps = 63 := by kernel_rfl
theorem q88 (O : List Blk) (g : Nat → Value) : retVal Try.prog Try.f82 (stOf 63 g [] O) = some vU := by kernel_rfl
theorem s88a : codeSafe Try.prog 63 c88a = true := by kernel_rfl
theorem s88b : codeSafe Try.prog 63 c88b = true := by kernel_rfl
theorem s88c : codeSafe Try.prog 63 c88c = true := by kernel_rfl
theorem s88d : codeSafe Try.prog 63 c88d = true := by kernel_rfl
theorem s88e : codeSafe Try.prog 63 c88e = true := by kernel_rfl
theorem s88f : codeSafe Try.prog 63 c88f = true := by kernel_rfl
theorem s88g : codeSafe Try.prog 63 c88g = true := by kernel_rfl
theorem s88h : codeSafe Try.prog 63 c88h = true := by kernel_rfl
theorem s88i : codeSafe Try.prog 63 c88i = true := by kernel_rfl
section
variable (us us' : List ViewV) (n c a b s : Nat) (g : Nat → Value)
abbrev A88 (us : List ViewV) (g : Nat → Value) : St := stOf 63 g [(0, rowS 0 n c), (1, iN n), (2, Fc), (6, iN s)] [rowB us]
abbrev L88 (us : List ViewV) (a b : Nat) (g : Nat → Value) : St := stOf 63 g [(0, rowS 0 n c), (1, iN n), (2, Fc), (6, iN s), (7, iN a), (8, iN b)] [rowB us]
abbrev M88 (us : List ViewV) (a : Nat) (g : Nat → Value) : St := stOf 63 g [(0, rowS 0 n c), (1, iN n), (2, Fc), (6, iN s), (7, iN a)] [rowB us]
theorem r88a : (execE Try.prog c88 [] [] [] 10 c88a ⟨tmsOf [rowS 0 n c, iN n, Fc] 0 .leaf, heapOf [rowB us, .dead] hp0, []⟩).map (fun z => (look2 1 [0] [0, 1, 2, 6] (z.1, z.2.1), z.2.2)) =
    some ((.normal, [rowB us], [(0, rowS 0 n c), (1, iN n), (2, Fc), (6, iN 20)], true), [], [], []) := by kernel_rfl
theorem r88b : (execE Try.prog c88 [] [] [] 10 c88b (A88 n c s us g)).map (fun z => (look2 1 [0] [0, 1, 2, 6, 7, 8] (z.1, z.2.1), z.2.2)) =
    some ((.normal, [rowB us], [(0, rowS 0 n c), (1, iN n), (2, Fc), (6, iN s), (7, iN 0), (8, iN s)], true), [], [], []) := by kernel_rfl
theorem r88cx : (execE Try.prog c88 [(13, .bool false)] [] [] 10 c88c (L88 n c s us a b g)).map (fun z => (look2 1 [0] [0, 1, 2, 6, 7] (z.1, z.2.1), z.2.2)) =
    some ((.exit 0, [rowB us], [(0, rowS 0 n c), (1, iN n), (2, Fc), (6, iN s), (7, iN a)], true), [leO b n false], [], []) := by kernel_rfl
theorem r88c : (execE Try.prog c88 [(13, .bool true), (22, iN (b + s))] [] [(18, vU, [.put 0 (rowB us')])] 10 c88c (L88 n c s us a b g)).map (fun z => (look2 1 [0] [0, 1, 2, 6, 7, 8] (z.1, z.2.1), z.2.2)) =
    some ((.normal, [rowB us'], [(0, rowS 0 n c), (1, iN n), (2, Fc), (6, iN s), (7, iN b), (8, iN (b + s))], true), [leO b n true, adO b s], [(c88 93 [rowS 0 n c, iN a, iN b, Fc] (hW us), (vU, (hW us).put 0 (rowB us')))], []) := by kernel_rfl
theorem r88d : (execE Try.prog c88 [] [] [(27, vU, [.put 0 (rowB us')])] 10 c88d (M88 n c s us a g)).map (fun z => (look2 1 [0] [0, 1, 2, 6] (z.1, z.2.1), z.2.2)) =
    some ((.normal, [rowB us'], [(0, rowS 0 n c), (1, iN n), (2, Fc), (6, iN s)], true), [], [(c88 93 [rowS 0 n c, iN a, iN n, Fc] (hW us), (vU, (hW us).put 0 (rowB us')))], []) := by kernel_rfl
theorem r88ex : (execE Try.prog c88 [(30, .bool false)] [] [] 10 c88e (A88 n c s us g)).map (fun z => (look2 1 [0] [] (z.1, z.2.1), z.2.2)) = some ((.exit 2, [rowB us], [], true), [ltO s n false], [], []) := by kernel_rfl
theorem r88e : (execE Try.prog c88 [(30, .bool true)] [] [] 10 c88e (A88 n c s us g)).map (fun z => (look2 1 [0] [0, 1, 2, 6] (z.1, z.2.1), z.2.2)) =
    some ((.normal, [rowB us], [(0, rowS 0 n c), (1, iN n), (2, Fc), (6, iN s)], true), [ltO s n true], [], []) := by kernel_rfl
theorem r88f : (execE Try.prog c88 [(32, iN (2 * s))] [] [] 10 c88f (A88 n c s us g)).map (fun z => (look2 1 [0] [0, 1, 2, 6, 7, 8] (z.1, z.2.1), z.2.2)) =
    some ((.normal, [rowB us], [(0, rowS 0 n c), (1, iN n), (2, Fc), (6, iN s), (7, iN 0), (8, iN (2 * s))], true), [twO s], [], []) := by kernel_rfl
theorem r88gx : (execE Try.prog c88 [(35, .bool false)] [] [] 10 c88g (L88 n c s us a b g)).map (fun z => (look2 1 [0] [0, 1, 2, 6, 7] (z.1, z.2.1), z.2.2)) =
    some ((.exit 4, [rowB us], [(0, rowS 0 n c), (1, iN n), (2, Fc), (6, iN s), (7, iN a)], true), [leO b n false], [], []) := by kernel_rfl
theorem r88g : (execE Try.prog c88 [(35, .bool true), (40, iN (a + s)), (47, iN (2 * s)), (48, iN (b + 2 * s))] [] [(43, vU, [.put 0 (rowB us')])] 10 c88g (L88 n c s us a b g)).map (fun z => (look2 1 [0] [0, 1, 2, 6, 7, 8] (z.1, z.2.1), z.2.2)) =
    some ((.normal, [rowB us'], [(0, rowS 0 n c), (1, iN n), (2, Fc), (6, iN s), (7, iN b), (8, iN (b + 2 * s))], true), [leO b n true, adO a s, twO s, adO b (2 * s)], [(c88 94 [rowS 0 n c, iN a, iN (a + s), iN b, Fc] (hW us), (vU, (hW us).put 0 (rowB us')))], []) := by kernel_rfl
theorem r88hf : (execE Try.prog c88 [(51, iN (a + s)), (54, .bool false)] [] [] 10 c88h (M88 n c s us a g)).map (fun z => (look2 1 [0] [0, 1, 2, 6] (z.1, z.2.1), z.2.2)) =
    some ((.normal, [rowB us], [(0, rowS 0 n c), (1, iN n), (2, Fc), (6, iN s)], true), [adO a s, ltO (a + s) n false], [], []) := by kernel_rfl
theorem r88ht : (execE Try.prog c88 [(51, iN (a + s)), (54, .bool true)] [] [(60, vU, [.put 0 (rowB us')])] 10 c88h (M88 n c s us a g)).map (fun z => (look2 1 [0] [0, 1, 2, 6] (z.1, z.2.1), z.2.2)) =
    some ((.normal, [rowB us'], [(0, rowS 0 n c), (1, iN n), (2, Fc), (6, iN s)], true), [adO a s, ltO (a + s) n true], [(c88 94 [rowS 0 n c, iN a, iN (a + s), iN n, Fc] (hW us), (vU, (hW us).put 0 (rowB us')))], []) := by kernel_rfl
theorem r88i : (execE Try.prog c88 [(62, iN (2 * s))] [] [] 10 c88i (A88 n c s us g)).map (fun z => (look2 1 [0] [0, 1, 2, 6] (z.1, z.2.1), z.2.2)) =
    some ((.normal, [rowB us], [(0, rowS 0 n c), (1, iN n), (2, Fc), (6, iN (2 * s))], true), [dbO s], [], []) := by kernel_rfl
end
theorem first_fr {us : List ViewV} {n c : Nat} (hn : n = us.length) (hl : n < 1000000) (W : Base) (x : Nat × Nat × Nat) (g : Nat → Value) :
    FRp Try.prog 63 W x (.block 0 (.loop c88c)) (L88 n c 20 us 0 20 g) (fun e st => e = .normal ∧ ∃ P R g, P ++ bsS 20 R = bsS 20 us ∧ P.length + R.length = n ∧ R.length < 20 ∧ st = M88 n c 20 (P ++ R) P.length g) := by
  refine FRp.block ?_
  refine FRp.loop (fun k st => ∃ P R g, P ++ bsS 20 R = bsS 20 us ∧ P.length + R.length = n ∧ k = R.length ∧ st = L88 n c 20 (P ++ R) P.length (P.length + 20) g) ?_ (k := us.length) ⟨[], us, g, rfl, by simp [hn], rfl, rfl⟩
  rintro k st ⟨P, R, g, h1, h2, rfl, rfl⟩
  cases h13 : decide (P.length + 20 ≤ n) with
  | false =>
    have hlt := of_decide_eq_false h13
    refine FRp.piece c88_ok follows 1 _ _ _ _ (r88cx (P ++ R) n c P.length (P.length + 20) 20 g) (Met.cons (leO_ok h13) Met.nil) MetH.nil MetE.nil s88c rfl rfl (fix1 _ []) rfl fun g' => .inr ⟨by simp, ?_⟩
    show (if (0 : Nat) = 0 then _ else _)
    rw [if_pos rfl]
    exact ⟨rfl, P, R, g', h1, h2, by omega, rfl⟩
  | true =>
    have hle := of_decide_eq_true h13
    obtain ⟨R1, R2, rfl, hR1⟩ := cutAt (R := R) (s := 20) (by omega)
    have hcall : c88 93 [rowS 0 n c, iN P.length, iN (P.length + 20), Fc] (hW (P ++ (R1 ++ R2))) = some (vU, (hW (P ++ (R1 ++ R2))).put 0 (rowB (P ++ ssort ltV R1 ++ R2))) := by
      rw [c88_101]
      exact G101_of (A := P) (X := R1) (C := R2) (by simp) rfl (by omega) (by rw [List.length_append]; exact h2.symm) hl (hW_get _)
    have hPl : (P ++ ssort ltV R1).length = P.length + 20 := by rw [List.length_append, len_ssort, hR1]
    refine FRp.piece c88_ok follows 1 _ _ _ _ (r88c (P ++ (R1 ++ R2)) (P ++ ssort ltV R1 ++ R2) n c P.length (P.length + 20) 20 g) (Met.cons (leO_ok h13) (Met.cons (adO_ok (by omega)) Met.nil)) (MetH.cons hcall MetH.nil) MetE.nil s88c rfl rfl (fix1 _ []) rfl
      fun g' => .inl ⟨rfl, R2.length, by simp; omega, P ++ ssort ltV R1, R2, g', ?_, ?_, rfl, by rw [hPl]⟩
    · rw [← h1, bsS_cut (by omega) hR1, List.append_assoc]
    · rw [hPl]; rw [List.length_append] at h2; omega
theorem inner_fr {us : List ViewV} {n c s : Nat} (hs : 0 < s) (hsn : s < n) (hn : n = us.length) (hl : n < 1000000) (hK : ∀ z ∈ us, Kn z) (W : Base) (x : Nat × Nat × Nat) (g : Nat → Value) :
    FRp Try.prog 63 W x (.block 4 (.loop c88g)) (L88 n c s (bsS s us) 0 (2 * s) g) (fun e st => e = .normal ∧ ∃ P R g, P ++ bsS (2 * s) R = bsS (2 * s) us ∧ P.length + R.length = n ∧ R.length < 2 * s ∧ (∀ z ∈ R, Kn z) ∧ st = M88 n c s (P ++ bsS s R) P.length g) := by
  refine FRp.block ?_
  refine FRp.loop (fun k st => ∃ P R g, P ++ bsS (2 * s) R = bsS (2 * s) us ∧ P.length + R.length = n ∧ k = R.length ∧ (∀ z ∈ R, Kn z) ∧ st = L88 n c s (P ++ bsS s R) P.length (P.length + 2 * s) g) ?_ (k := us.length) ⟨[], us, g, rfl, by simp [hn], rfl, hK, by simp⟩
  rintro k st ⟨P, R, g, h1, h2, rfl, hKR, rfl⟩
  cases h35 : decide (P.length + 2 * s ≤ n) with
  | false =>
    have hlt := of_decide_eq_false h35
    refine FRp.piece c88_ok follows 1 _ _ _ _ (r88gx (P ++ bsS s R) n c P.length (P.length + 2 * s) s g) (Met.cons (leO_ok h35) Met.nil) MetH.nil MetE.nil s88g rfl rfl (fix1 _ []) rfl fun g' => .inr ⟨by simp, ?_⟩
    show (if (4 : Nat) = 4 then _ else _)
    rw [if_pos rfl]
    exact ⟨rfl, P, R, g', h1, h2, by omega, hKR, rfl⟩
  | true =>
    have hle := of_decide_eq_true h35
    obtain ⟨R1, R', rfl, hR1⟩ := cutAt (R := R) (s := s) (by omega)
    rw [List.length_append] at h2
    obtain ⟨R2, R3, rfl, hR2⟩ := cutAt (R := R') (s := s) (by omega)
    rw [List.length_append] at h2
    have k1 : ∀ z ∈ R1, Kn z := fun z hz => hKR z (by simp [hz])
    have k2 : ∀ z ∈ R2, Kn z := fun z hz => hKR z (by simp [hz])
    have k3 : ∀ z ∈ R3, Kn z := fun z hz => hKR z (by simp [hz])
    have e1 : bsS s (R1 ++ (R2 ++ R3)) = ssort ltV R1 ++ (ssort ltV R2 ++ bsS s R3) := by rw [bsS_cut hs hR1, bsS_cut hs hR2]
    have e2 : bsS (2 * s) (R1 ++ (R2 ++ R3)) = ssort ltV (R1 ++ R2) ++ bsS (2 * s) R3 := by rw [← List.append_assoc, bsS_cut (by omega) (by simp; omega)]
    rw [e1]
    have hl3 : (bsS s R3).length = R3.length := bsS_len
    have hcall : c88 94 [rowS 0 n c, iN P.length, iN (P.length + s), iN (P.length + 2 * s), Fc] (hW (P ++ (ssort ltV R1 ++ (ssort ltV R2 ++ bsS s R3)))) = some (vU, (hW (P ++ (ssort ltV R1 ++ (ssort ltV R2 ++ bsS s R3)))).put 0 (rowB (P ++ ssort ltV (R1 ++ R2) ++ bsS s R3))) := by
      rw [c88_102, ← ssort_two k1 k2]
      exact g102_of (A := P) (X := ssort ltV R1) (Y := ssort ltV R2) (C := bsS s R3) (by simp) rfl (by rw [len_ssort]; omega) (by rw [len_ssort]; omega) (by rw [len_ssort]; omega) (by rw [len_ssort]; omega) (by simp [len_ssort, hl3]; omega) hl (by omega) (kS k1) (kS k2) (srtS k1) (srtS k2) (hW_get _)
    have hPl : (P ++ ssort ltV (R1 ++ R2)).length = P.length + 2 * s := by rw [List.length_append, len_ssort]; simp; omega
    refine FRp.piece c88_ok follows 1 _ _ _ _ (r88g _ (P ++ ssort ltV (R1 ++ R2) ++ bsS s R3) n c P.length (P.length + 2 * s) s g) (Met.cons (leO_ok h35) (Met.cons (adO_ok (by omega)) (Met.cons (twO_ok (by omega)) (Met.cons (adO_ok (by omega)) Met.nil)))) (MetH.cons hcall MetH.nil) MetE.nil s88g rfl rfl (fix1 _ []) rfl
      fun g' => .inl ⟨rfl, R3.length, by simp; omega, P ++ ssort ltV (R1 ++ R2), R3, g', ?_, ?_, rfl, k3, by rw [hPl]⟩
    · rw [← h1, e2, List.append_assoc]
    · rw [hPl]; omega
theorem stable_fr {us : List ViewV} {n c : Nat} (hn : n = us.length) (hl : n < 1000000) (hK : ∀ z ∈ us, Kn z) (W : Base) (x : Nat × Nat × Nat) :
    FRp Try.prog 63 W x code88 ⟨tmsOf [rowS 0 n c, iN n, Fc] 0 .leaf, heapOf [rowB us, .dead] hp0, []⟩ (EndsW 63 (ssort ltV us)) := by
  refine FRp.seq (Q1 := fun e st => e = .normal ∧ ∃ g, st = A88 n c 20 us g) (FRp.piece c88_ok follows 1 _ _ _ _ (r88a us n c) Met.nil MetH.nil MetE.nil s88a rfl rfl (fix1 us []) rfl fun g => ⟨rfl, g, rfl⟩) ?_ (fun x st hne hq => absurd hq.1 hne)
  rintro st ⟨-, g, rfl⟩
  refine FRp.seq (Q1 := fun e st => e = .normal ∧ ∃ g, st = L88 n c 20 us 0 20 g) (FRp.piece c88_ok follows 1 _ _ _ _ (r88b us n c 20 g) Met.nil MetH.nil MetE.nil s88b rfl rfl (fix1 us []) rfl fun g => ⟨rfl, g, rfl⟩) ?_ (fun x st hne hq => absurd hq.1 hne)
  rintro st ⟨-, g, rfl⟩
  refine FRp.seq (first_fr hn hl W x g) ?_ (fun x st hne hq => absurd hq.1 hne)
  rintro st ⟨-, P, R, g, h1, h2, h3, rfl⟩
  refine FRp.seq (Q1 := fun e st => e = .normal ∧ ∃ g, st = A88 n c 20 (bsS 20 us) g) ?_ ?_ (fun x st hne hq => absurd hq.1 hne)
  · have hcall : c88 93 [rowS 0 n c, iN P.length, iN n, Fc] (hW (P ++ R)) = some (vU, (hW (P ++ R)).put 0 (rowB (bsS 20 us))) := by
      rw [c88_101, ← h1, bsS_short (by omega) (by omega)]
      have := G101_of (A := P) (X := R) (C := []) (us := P ++ R) (k := 0) (n := n) (c := c) (a := P.length) (b := n) (hp := hW (P ++ R)) (by simp) rfl (by omega) (by rw [List.length_append]; exact h2.symm) hl (hW_get _)
      rw [this]; simp
    exact FRp.piece c88_ok follows 1 _ _ _ _ (r88d (P ++ R) (bsS 20 us) n c P.length 20 g) Met.nil (MetH.cons hcall MetH.nil) MetE.nil s88d rfl rfl (fix1 _ []) rfl fun g => ⟨rfl, g, rfl⟩
  rintro st ⟨-, g, rfl⟩
  refine FRp.block ?_
  refine FRp.loop (fun k st => ∃ s g, 0 < s ∧ k = n - s ∧ st = A88 n c s (bsS s us) g) ?_ (k := n - 20) ⟨20, g, by omega, rfl, rfl⟩
  rintro k st ⟨s, g, hs, rfl, rfl⟩
  cases h30 : decide (s < n) with
  | false =>
    have hge := of_decide_eq_false h30
    refine FRp.seq (Q1 := fun e st => e = .exit 2 ∧ ∃ g, st = stOf 63 g [] [rowB (ssort ltV us)]) ?_ (fun st hq => by cases hq.1) ?_
    · rw [bsS_short hs (by omega)]
      exact FRp.piece c88_ok follows 1 _ _ _ _ (r88ex (ssort ltV us) n c s g) (Met.cons (ltO_ok h30) Met.nil) MetH.nil MetE.nil s88e rfl rfl (fix1 _ []) rfl fun g' => ⟨rfl, g', rfl⟩
    · rintro e st hne ⟨rfl, g', rfl⟩
      refine .inr ⟨by simp, ?_⟩
      show (if (2 : Nat) = 2 then _ else _)
      rw [if_pos rfl]
      exact ⟨rfl, g', rfl⟩
  | true =>
    have hlt := of_decide_eq_true h30
    refine FRp.seq (Q1 := fun e st => e = .normal ∧ ∃ g, st = A88 n c s (bsS s us) g) (FRp.piece c88_ok follows 1 _ _ _ _ (r88e (bsS s us) n c s g) (Met.cons (ltO_ok h30) Met.nil) MetH.nil MetE.nil s88e rfl rfl (fix1 _ []) rfl fun g => ⟨rfl, g, rfl⟩) ?_ (fun x st hne hq => absurd hq.1 hne)
    rintro st ⟨-, g, rfl⟩
    refine FRp.block ?_
    refine FRp.mono (Q := fun e st => e = .normal ∧ ∃ g, st = A88 n c (2 * s) (bsS (2 * s) us) g) ?_ (fun e st q => by
      obtain ⟨rfl, g, rfl⟩ := q
      exact .inl ⟨rfl, n - 2 * s, by omega, 2 * s, g, by omega, rfl, rfl⟩)
    refine FRp.seq (Q1 := fun e st => e = .normal ∧ ∃ g, st = L88 n c s (bsS s us) 0 (2 * s) g) (FRp.piece c88_ok follows 1 _ _ _ _ (r88f (bsS s us) n c s g) (Met.cons (twO_ok (by omega)) Met.nil) MetH.nil MetE.nil s88f rfl rfl (fix1 _ []) rfl fun g => ⟨rfl, g, rfl⟩) ?_ (fun x st hne hq => absurd hq.1 hne)
    rintro st ⟨-, g, rfl⟩
    refine FRp.seq (inner_fr hs hlt hn hl hK W x g) ?_ (fun x st hne hq => absurd hq.1 hne)
    rintro st ⟨-, P, R, g, h1, h2, h3, hKR, rfl⟩
    refine FRp.seq (Q1 := fun e st => e = .normal ∧ ∃ g, st = A88 n c s (bsS (2 * s) us) g) ?_ ?_ (fun x st hne hq => absurd hq.1 hne)
    · have eR : bsS (2 * s) R = ssort ltV R := bsS_short (by omega) (by omega)
      rw [← h1, eR]
      cases h54 : decide (P.length + s < n) with
      | false =>
        have hge := of_decide_eq_false h54
        rw [bsS_short hs (by omega)]
        exact FRp.piece c88_ok follows 1 _ _ _ _ (r88hf (P ++ ssort ltV R) n c P.length s g) (Met.cons (adO_ok (by omega)) (Met.cons (ltO_ok h54) Met.nil)) MetH.nil MetE.nil s88h rfl rfl (fix1 _ []) rfl fun g => ⟨rfl, g, rfl⟩
      | true =>
        have hlt2 := of_decide_eq_true h54
        obtain ⟨R1, R2, rfl, hR1⟩ := cutAt (R := R) (s := s) (by omega)
        rw [List.length_append] at h2 h3
        have k1 : ∀ z ∈ R1, Kn z := fun z hz => hKR z (by simp [hz])
        have k2 : ∀ z ∈ R2, Kn z := fun z hz => hKR z (by simp [hz])
        have e1 : bsS s (R1 ++ R2) = ssort ltV R1 ++ ssort ltV R2 := by rw [bsS_cut hs hR1, bsS_short hs (by omega)]
        rw [e1]
        have hcall : c88 94 [rowS 0 n c, iN P.length, iN (P.length + s), iN n, Fc] (hW (P ++ (ssort ltV R1 ++ ssort ltV R2))) = some (vU, (hW (P ++ (ssort ltV R1 ++ ssort ltV R2))).put 0 (rowB (P ++ ssort ltV (R1 ++ R2)))) := by
          rw [c88_102, ← ssort_two k1 k2]
          have := g102_of (w := 1000000) (A := P) (X := ssort ltV R1) (Y := ssort ltV R2) (C := []) (us := P ++ (ssort ltV R1 ++ ssort ltV R2)) (k := 0) (n := n) (c := c) (a := P.length) (m := P.length + s) (b := n) (hp := hW (P ++ (ssort ltV R1 ++ ssort ltV R2)))
            (by simp) rfl (by rw [len_ssort]; omega) (by rw [len_ssort]; omega) (by rw [len_ssort]; omega) (by rw [len_ssort]; omega) (by simp [len_ssort]; omega) hl (by omega) (kS k1) (kS k2) (srtS k1) (srtS k2) (hW_get _)
          rw [List.append_nil] at this
          exact this
        exact FRp.piece c88_ok follows 1 _ _ _ _ (r88ht _ (P ++ ssort ltV (R1 ++ R2)) n c P.length s g) (Met.cons (adO_ok (by omega)) (Met.cons (ltO_ok h54) Met.nil)) (MetH.cons hcall MetH.nil) MetE.nil s88h rfl rfl (fix1 _ []) rfl fun g => ⟨rfl, g, rfl⟩
    · rintro st ⟨-, g, rfl⟩
      exact FRp.piece c88_ok follows 1 _ _ _ _ (r88i (bsS (2 * s) us) n c s g) (Met.cons (dbO_ok (by omega)) Met.nil) MetH.nil MetE.nil s88i rfl rfl (fix1 _ []) rfl fun g => ⟨rfl, g, rfl⟩
open Classical in
noncomputable def g88 (us : List ViewV) : HeapFn := fun args hp => match args with
  | [.slice (some ⟨k, 0, none⟩) n c, .int .i64 (.ofNat n'), f] => if f = Fc ∧ IsRow us (.slice (some ⟨k, 0, none⟩) n c) hp ∧ n' = n ∧ (∀ z ∈ us, Kn z) then some (vU, hp.put k (rowB (ssort ltV us))) else none
  | _ => none
theorem hk88 (us : List ViewV) (hn : us.length < 1000000) : CallGoal Try.prog 82 (g88 us) := put_goal follows Try.func82 body88 (by kernel_rfl) fun args hp v hp' he hk => by
  unfold g88 at he
  split at he
  case h_2 => cases he
  rename_i k n c n' f
  split at he
  case isFalse => cases he
  rename_i hT
  cases he
  obtain ⟨rfl, ⟨b', c', e, hb⟩, rfl, h2⟩ := hT
  simp only [rowS, Value.slice.injEq, Option.some.injEq, Addr.mk.injEq, and_true] at e
  obtain ⟨rfl, rfl, rfl⟩ := e
  refine put_case (is := [us.length]) hk hb (by rw [ntmps88]; simp) fun W x => ?_
  rw [ntmps88]
  refine FRp.mono (stable_fr rfl hn h2 W x) fun e st q => ?_
  obtain ⟨rfl, g, rfl⟩ := q
  exact ⟨.inl rfl, rfl, q88 _ g, by show (heapOf _ hp0).get 0 = _; rw [heapOf0_get]; rfl⟩
noncomputable def G88 : HeapFn := atW g88
theorem hkG88 : CallGoal Try.prog 82 G88 := atW_goal fun us hn => hk88 us hn
open Classical in
theorem G88_of {us : List ViewV} {k n c : Nat} {hp : Hp} (hn : n = us.length) (hl : n < 1000000) (hK : ∀ z ∈ us, Kn z) (hb : hp.get k = some (rowB us)) : G88 [rowS k n c, iN n, Fc] hp = some (vU, hp.put k (rowB (ssort ltV us))) := by
  subst hn
  have hr : IsRow us (rowS k us.length c) hp := ⟨k, c, rfl, hb⟩
  unfold G88
  rw [atW_of hr hl]
  show (if Fc = Fc ∧ IsRow us (rowS k us.length c) hp ∧ us.length = us.length ∧ (∀ z ∈ us, Kn z) then some (vU, hp.put k (rowB (ssort ltV us))) else none) = _
  rw [if_pos ⟨rfl, hr, rfl, hK⟩]
noncomputable def E76 : Ext := extG (extH Try.prog []) [(82, G88)]
noncomputable def c76 : CallF := aCall Try.prog E76 5
theorem c76_ok : CallOk Try.prog c76 := aCall_sound (extG_ok (extH_ok .nil) (.cons hkG88 .nil)) follows 5
theorem c76_88 (args : List Value) (hp : Hp) : c76 82 args hp = G88 args hp := by
  show aCall Try.prog E76 5 82 _ _ = _
  rw [aCall]; rfl
noncomputable def fb76 : Code := (Try.f77.body).getD .skip
theorem body76 : Try.f77.body = some fb76 := by kernel_rfl
theorem ntmps76 : Try.f77.ntmps = 9 := by kernel_rfl
theorem s76 : codeSafe Try.prog 9 fb76 = true := by kernel_rfl
theorem q76 (O : List Blk) (g : Nat → Value) : retVal Try.prog Try.f77 (stOf 9 g [] O) = some vU := by kernel_rfl
theorem r76 (us us' : List ViewV) (n c : Nat) : (execE Try.prog c76 [] [] [(8, vU, [.put 0 (rowB us')])] 10 fb76 ⟨tmsOf [rowS 0 n c, Fc] 0 .leaf, heapOf [rowB us, .dead] hp0, []⟩).map (fun z => (look2 1 [0] [] (z.1, z.2.1), z.2.2)) =
    some ((.normal, [rowB us'], [], true), [], [(c76 82 [rowS 0 n c, iN n, Fc] (hW us), (vU, (hW us).put 0 (rowB us')))], []) := by kernel_rfl
open Classical in
noncomputable def g76 (us : List ViewV) : HeapFn := fun args hp => match args with
  | [.slice (some ⟨k, 0, none⟩) n c, f] => if f = Fc ∧ IsRow us (.slice (some ⟨k, 0, none⟩) n c) hp ∧ (∀ z ∈ us, Kn z) then some (vU, hp.put k (rowB (ssort ltV us))) else none
  | _ => none
theorem hk76 (us : List ViewV) (hn : us.length < 1000000) : CallGoal Try.prog 77 (g76 us) := put_goal follows Try.func77 body76 (by kernel_rfl) fun args hp v hp' he hk => by
  unfold g76 at he
  split at he
  case h_2 => cases he
  rename_i k n c f
  split at he
  case isFalse => cases he
  rename_i hT
  cases he
  obtain ⟨rfl, ⟨b', c', e, hb⟩, h2⟩ := hT
  simp only [rowS, Value.slice.injEq, Option.some.injEq, Addr.mk.injEq, and_true] at e
  obtain ⟨rfl, rfl, rfl⟩ := e
  refine put_case (is := []) hk hb (by rw [ntmps76]; simp) fun W x => ?_
  rw [ntmps76]
  have hcall : c76 82 [rowS 0 us.length c, iN us.length, Fc] (hW us) = some (vU, (hW us).put 0 (rowB (ssort ltV us))) := by rw [c76_88]; exact G88_of rfl hn h2 (hW_get us)
  exact FRp.piece c76_ok follows 1 _ _ _ _ (r76 us _ us.length c) Met.nil (MetH.cons hcall MetH.nil) MetE.nil s76 rfl rfl (fix1 _ []) rfl fun g => ⟨.inl rfl, rfl, q76 _ g, by show (heapOf _ hp0).get 0 = _; rw [heapOf0_get]; rfl⟩
noncomputable def G76 : HeapFn := atW g76
theorem hkG76 : CallGoal Try.prog 77 G76 := atW_goal fun us hn => hk76 us hn
open Classical in
theorem G76_of {us : List ViewV} {k n c : Nat} {hp : Hp} (hn : n = us.length) (hl : n < 1000000) (hK : ∀ z ∈ us, Kn z) (hb : hp.get k = some (rowB us)) : G76 [rowS k n c, Fc] hp = some (vU, hp.put k (rowB (ssort ltV us))) := by
  subst hn
  have hr : IsRow us (rowS k us.length c) hp := ⟨k, c, rfl, hb⟩
  unfold G76
  rw [atW_of hr hl]
  show (if Fc = Fc ∧ IsRow us (rowS k us.length c) hp ∧ (∀ z ∈ us, Kn z) then some (vU, hp.put k (rowB (ssort ltV us))) else none) = _
  rw [if_pos ⟨rfl, hr, hK⟩]
end Go.Proofs.Ytgeoommlmddgpaa.LtL
namespace Go.Proofs.Ytgeoommlmddgpaa.LtL
open Go Go.Proofs Go.Proofs.Ytgeoommlmddgpaa.AI Go.RowKit Go.Proofs.Ytgeoommlmddgpaa.Sort Go.Proofs.Ytgeoommlmddgpaa.LtA
theorem info81 : ∃ i, Try.prog.info? 81 = some i ∧ i.size = 7 ∧ i.bytes = 56 := by
  have h : (Try.prog.info? 81).map (fun i => (i.size, i.bytes)) = some (7, 56) := by kernel_rfl
  obtain ⟨i, h1, h2⟩ := Option.map_eq_some_iff.1 h
  simp only [Prod.mk.injEq] at h2
  exact ⟨i, h1, h2.1, h2.2⟩
theorem zero81 : ∃ z, tzero Try.prog 81 = some z ∧ z.length = 7 := by
  have h : (tzero Try.prog 81).map (fun z => z.length) = some 7 := by kernel_rfl
  obtain ⟨z, h1, h2⟩ := Option.map_eq_some_iff.1 h
  exact ⟨z, h1, h2⟩
def ownB (vs : List ViewV) : Blk := match vs with
  | [] => .dead
  | _ :: _ => rowB vs
theorem ownB_inert (us : List ViewV) : inertB (ownB us) = true := by
  cases us with
  | nil => rfl
  | cons => exact row_block _
theorem ownB_ne {l : List ViewV} (h : l ≠ []) : ownB l = rowB l := by
  cases l with
  | nil => exact absurd rfl h
  | cons => rfl
theorem app_any {get : Nat → Option Blk} {sz b b2 k : Nat} {ws : List ViewV} {x : ViewV} {f : Bool} (hf : f = !ws.isEmpty) (hb : get b = some (ownB ws)) (hb2 : get b2 = some (vB x)) (hk : k = ws.length) (hl : k < 2000000) :
    aAppend Try.prog get sz [80, 80] [vS f b k 22, rowS b2 1 22] = some (newS sz (k + 1), effF f b (rowB (ws ++ [x]))) := by
  obtain ⟨i, hi, h7, h56⟩ := info81
  obtain ⟨z, hz, hzl⟩ := zero81
  have hb2' : get b2 = some (.cells 81 (vc x) false) := hb2
  have hsrc : aSrc Try.prog get 7 z (.slice 81) (rowS b2 1 22) = some (vc x, 1) := by
    unfold aSrc
    simp only [rowS, srcLen, srcCells, hb2']
    rw [if_neg (by omega), if_neg (by omega), getR_all (n := 1 * 7) rfl]
    rfl
  have e : vrow [x] = vc x := by unfold vrow; simp
  cases ws with
  | cons w ws =>
    subst hf hk
    have hbw : get b = some (.cells 81 (vrow (w :: ws)) false) := hb
    show aAppend Try.prog get sz [80, 80] [newS b (w :: ws).length, rowS b2 1 22] = some (newS sz ((w :: ws).length + 1), [.put b .dead, .push (rowB ((w :: ws) ++ [x]))])
    generalize w :: ws = us at *
    have hg : getR (vrow us) 0 (us.length * 7) = some (vrow us) := getR_all (vrow_len us)
    unfold aAppend
    simp only [underlying80, hi, hz, h7, h56, hzl]
    rw [if_neg (by decide)]
    simp only [hsrc]
    rw [if_neg (by simp [vc, isOne])]
    simp only [newS]
    rw [if_neg (by omega), if_neg (by omega)]
    simp only [hbw, hg]
    rw [if_neg (by omega), if_pos (by decide), if_neg (by rw [vrow_len]; omega)]
    unfold rowB
    rw [vrow_append, e]
  | nil =>
    subst hf hk
    show aAppend Try.prog get sz [80, 80] [nilS, rowS b2 1 22] = some (newS sz 1, [.push (rowB [x])])
    unfold aAppend
    simp only [underlying80, hi, hz, h7, h56, hzl]
    rw [if_neg (by decide)]
    simp only [hsrc]
    rw [if_neg (by simp [vc, isOne])]
    simp only [nilS]
    rw [if_neg (by omega), if_neg (by omega)]
    unfold rowB
    rw [e]; rfl
noncomputable def apV (h : Hp) (sz b k b2 : Nat) (f : Bool) (us : List ViewV) : OblE := (aAppend Try.prog h.get sz [80, 80] [vS f b k 22, rowS b2 1 22], (newS sz (k + 1), effF f b (rowB us)))
def dirV (own x : ViewV) : Int := dir own.n own.t own.o own.r own.d own.i x.n x.t x.o x.r x.d x.i
def pD (d : Int) (own x : ViewV) : Bool := dirV own x == d
theorem pD_kn {d : Int} {own x : ViewV} (hd : d = 1 ∨ d = 2) (h : pD d own x = true) : Kn x := by
  unfold pD dirV dir at h
  cases hk : known x.n x.t x.o x.r x.d x.i with
  | true => exact hk
  | false =>
    rw [hk] at h
    rcases hd with rfl | rfl <;> simp at h
noncomputable def diO (own x : ViewV) (d : Int) (b : Bool) : Obl := (some (.bool (dirV own x == d)), .bool b)
noncomputable def E56 : Ext := extG (extH Try.prog [(12, g14)]) [(77, G76)]
theorem E56_ok : ExtOk Try.prog E56 := extG_ok (extH_ok (.cons hk14 (.nil))) (.cons hkG76 (.nil))
noncomputable def c56 : CallF := aCall Try.prog E56 5
theorem c56_ok : CallOk Try.prog c56 := aCall_sound E56_ok follows 5
theorem c56_76 (args : List Value) (hp : Hp) : c56 77 args hp = G76 args hp := by
  show aCall Try.prog E56 5 77 _ _ = _
  rw [aCall]; rfl
noncomputable def c56n : CallF := aCall Try.prog (extH Try.prog []) 60
theorem c56n_ok : CallOk Try.prog c56n := aCall_sound (extH_ok .nil) follows 60
noncomputable def fb56 : Code := (Try.f42.body).getD .skip
noncomputable def p56 : Nat → Code
  | 0 => fb56
  | n + 1 => sR (p56 n)
noncomputable def c56a : Code := sL (p56 0)
noncomputable def c56b : Code := sL (p56 1)
noncomputable def c56c : Code := sL (sL (p56 2))
noncomputable def c56d : Code := unL (unB (sR (sL (p56 2))))
noncomputable def c56e : Code := sL (p56 3)
noncomputable def c56f : Code := sL (p56 4)
noncomputable def c56g : Code := sL (sL (p56 5))
noncomputable def c56h : Code := unL (unB (sR (sL (p56 5))))
noncomputable def c56i : Code := p56 6
noncomputable abbrev code56 : Code := .seq c56a (.seq c56b (.seq (.seq c56c (.block 0 (.loop c56d))) (.seq c56e (.seq c56f (.seq (.seq c56g (.block 2 (.loop c56h))) c56i)))))
theorem body56 : Try.f42.body = some code56 := by kernel_rfl
theorem ntmps56 : Try.f42.ntmps = 45 := by kernel_rfl
theorem s56a : codeSafe Try.prog 45 c56a = true := by kernel_rfl
theorem s56b : codeSafe Try.prog 45 c56b = true := by kernel_rfl
theorem s56c : codeSafe Try.prog 45 c56c = true := by kernel_rfl
theorem s56d : codeSafe Try.prog 45 c56d = true := by kernel_rfl
theorem s56e : codeSafe Try.prog 45 c56e = true := by kernel_rfl
theorem s56f : codeSafe Try.prog 45 c56f = true := by kernel_rfl
theorem s56g : codeSafe Try.prog 45 c56g = true := by kernel_rfl
theorem s56h : codeSafe Try.prog 45 c56h = true := by kernel_rfl
theorem s56i : codeSafe Try.prog 45 c56i = true := by kernel_rfl
noncomputable def rest56 : Code := .seq c56e (.seq c56f (.seq (.seq c56g (.block 2 (.loop c56h))) c56i))
theorem s56r : codeSafe Try.prog 45 rest56 = true := by kernel_rfl
theorem q56 (v : Value) (O : List Blk) (g : Nat → Value) : retVal Try.prog Try.f42 (stOf 45 g [(6, v)] O) = some v := by kernel_rfl
section
variable (f fu fi : Bool) (o U I : Blk) (n c u i k q j : Nat) (d : Int) (x own : ViewV) (us ws zs : List ViewV) (ids : List Int) (g : Nat → Value)
theorem r56a : (execE Try.prog c56 [] [] [] 20 c56a ⟨tmsOf [rowS 0 n c, hcA own, .int .i64 d] 0 .leaf, heapOf [o, .dead] hp0, []⟩).map (fun z => (look2 1 [0, 2] [0, 2, 4] (z.1, z.2.1), z.2.2)) =
    some ((.normal, [o, hB own], [(0, rowS 0 n c), (2, .int .i64 d), (4, pb 1 0)], true), [], [], []) := by kernel_rfl
theorem n56a : (execE Try.prog c56 [] [] [] 20 c56a ⟨tmsOf [nilS, hcA own, .int .i64 d] 0 .leaf, heapOf [.dead] hp0, []⟩).map (fun z => (look2 1 [0, 1] [0, 2, 4] (z.1, z.2.1), z.2.2)) =
    some ((.normal, [.dead, hB own], [(0, nilS), (2, .int .i64 d), (4, pb 1 0)], true), [], [], []) := by kernel_rfl
theorem r56b : (execE Try.prog c56 [] [] [] 20 c56b (stOf 45 g [(0, vS f 0 n c), (2, .int .i64 d), (4, pb 1 0)] [o, hB own])).map (fun z => (look2 2 [0, 2, 1] [0, 2, 4, 7] (z.1, z.2.1), z.2.2)) =
    some ((.normal, [o, .dead, hB own], [(0, vS f 0 n c), (2, .int .i64 d), (4, pb 2 0), (7, nilS)], true), [], [], []) := by cases f <;> kernel_rfl
theorem r56c : (execE Try.prog c56 [] [] [] 20 c56c (stOf 45 g [(0, vS f 0 n c), (2, .int .i64 d), (4, pb 2 0), (7, nilS)] [o, .dead, hB own])).map (fun z => (look2 2 [0, 1, 2] [2, 4, 7, 13, 14, 15] (z.1, z.2.1), z.2.2)) =
    some ((.normal, [o, .dead, hB own], [(2, .int .i64 d), (4, pb 2 0), (7, nilS), (13, vS f 0 n c), (14, iN (kk f n)), (15, iN 0)], true), [], [], []) := by cases f <;> kernel_rfl
abbrev L56 (U : Blk) (fu : Bool) (u i : Nat) (g : Nat → Value) : St := (stOf 45 g [(2, .int .i64 d), (4, pb 2 0), (7, vS fu 1 u 22), (13, vS f 0 n c), (14, iN (kk f n)), (15, iN i)] [o, U, hB own])
def h56 (o U : Blk) (own : ViewV) : Hp := heapOf ([o, U, hB own] ++ [.dead]) hp0
theorem r56x : (execE Try.prog c56 [(16, .bool false)] [] [] 20 c56d (L56 f o n c d own U fu u i g)).map (fun z => (look2 1 [1] [7] (z.1, z.2.1), z.2.2)) =
    some ((.exit 0, [U], [(7, vS fu 0 u 22)], true), [ltO i (kk f n) false], [], []) := by cases f <;> cases fu <;> kernel_rfl
theorem r56f : (execE Try.prog c56 [(16, .bool true), (17, pb 0 (i * 7)), (18, .agg ⟨vc x⟩), (29, iN (i + 1)), (24, .bool false)] [] [] 20 c56d (L56 true o n c d own U fu u i g)).map (fun z => (look2 2 [0, 1, 2] [2, 4, 7, 13, 14, 15] (z.1, z.2.1), z.2.2)) =
    some ((.normal, [o, U, hB own], [(2, .int .i64 d), (4, pb 2 0), (7, vS fu 1 u 22), (13, rowS 0 n c), (14, iN n), (15, iN (i + 1))], true), [ltO i n true, LtA.ixO 0 n c i, ldO (h56 o U own).get 45 0 (i * 7) (.agg ⟨vc x⟩), diO own x d false, nxt29 i], [], []) := by cases fu <;> kernel_rfl
theorem r56t : (execE Try.prog c56 [(16, .bool true), (17, pb 0 (i * 7)), (18, .agg ⟨vc x⟩), (29, iN (i + 1)), (24, .bool true)] [] [(28, newS 6 (u + 1), effF fu 1 (rowB zs))] 20 c56d (L56 true o n c d own U fu u i g)).map (fun z => (look2 2 [0, 6, 2] [2, 4, 7, 13, 14, 15] (z.1, z.2.1), z.2.2)) =
    some ((.normal, [o, rowB zs, hB own], [(2, .int .i64 d), (4, pb 2 0), (7, newS 1 (u + 1)), (13, rowS 0 n c), (14, iN n), (15, iN (i + 1))], true), [ltO i n true, LtA.ixO 0 n c i, ldO (h56 o U own).get 45 0 (i * 7) (.agg ⟨vc x⟩), diO own x d true, nxt29 i], [], [apV (((h56 o U own).push (LtA.vB x)).push (vB x)) 6 1 u 5 fu zs]) := by cases fu <;> kernel_rfl
theorem n56r : (execQ Try.prog c56n [] 60 rest56 (stOf 45 g [(7, nilS)] [.dead])).map (fun z => (look2 0 [] [6] (z.1, z.2.1), z.2.2)) = some ((.ret, [], [(6, nilS)], true), []) := by kernel_rfl
theorem r56e : (execE Try.prog c56 [] [] [(31, vU, [.put 0 (rowB us)])] 20 c56e (stOf 45 g [(7, newS 0 k)] [rowB ws])).map (fun z => (look2 1 [0] [7] (z.1, z.2.1), z.2.2)) =
    some ((.normal, [rowB us], [(7, newS 0 k)], true), [], [(c56 77 [newS 0 k, Fc] (hW ws), (vU, (hW ws).put 0 (rowB us)))], []) := by kernel_rfl
theorem r56g0 : (execE Try.prog c56 [] [] [] 20 c56f (stOf 45 g [(7, newS 0 k)] [rowB ws])).map (fun z => (look2 2 [0, 1] [7, 10] (z.1, z.2.1), z.2.2)) =
    some ((.normal, [rowB ws, .dead], [(7, newS 0 k), (10, nilS)], true), [], [], []) := by kernel_rfl
theorem r56g : (execE Try.prog c56 [] [] [] 20 c56g (stOf 45 g [(7, newS 0 k), (10, nilS)] [rowB ws, .dead])).map (fun z => (look2 2 [0, 1] [10, 32, 33, 34] (z.1, z.2.1), z.2.2)) =
    some ((.normal, [rowB ws, .dead], [(10, nilS), (32, newS 0 k), (33, iN k), (34, iN 0)], true), [], [], []) := by kernel_rfl
abbrev K56 (ws : List ViewV) (I : Blk) (fi : Bool) (n q j : Nat) (g : Nat → Value) : St := (stOf 45 g [(10, vI fi 1 q), (32, newS 0 n), (33, iN n), (34, iN j)] [rowB ws, I])
theorem r56hx : (execE Try.prog c56 [(35, .bool false)] [] [] 20 c56h (K56 ws I fi n q j g)).map (fun z => (look2 1 [1] [10] (z.1, z.2.1), z.2.2)) =
    some ((.exit 2, [I], [(10, vI fi 0 q)], true), [ltO j n false], [], []) := by cases fi <;> kernel_rfl
def hK56 (ws : List ViewV) (I : Blk) : Hp := heapOf ([rowB ws, I] ++ [.dead]) hp0
theorem r56h : (execE Try.prog c56 [(35, .bool true), (36, pb 0 (j * 7)), (37, .agg ⟨vc x⟩), (43, iN (j + 1))] [] [(42, newI 5 (q + 1), effF fi 1 (iB ids))] 20 c56h (K56 ws I fi n q j g)).map (fun z => (look2 2 [0, 5] [10, 32, 33, 34] (z.1, z.2.1), z.2.2)) =
    some ((.normal, [rowB ws, iB ids], [(10, newI 1 (q + 1)), (32, newS 0 n), (33, iN n), (34, iN (j + 1))], true), [ltO j n true, ixO 0 n 22 j, ldO (hK56 ws I).get 81 0 (j * 7) (.agg ⟨vc x⟩), nxt29 j], [], [apI (((hK56 ws I).push (vB x)).push (.cells 3 [icell x.id] false)) 5 1 q 4 fi ids]) := by cases fi <;> kernel_rfl
theorem r56i : (execE Try.prog c56 [] [] [] 20 c56i (stOf 45 g [(10, vI fi 0 q)] [I])).map (fun z => (look2 1 [0] [6] (z.1, z.2.1), z.2.2)) =
    some ((.ret, [I], [(6, vI fi 0 q)], true), [], [], []) := by cases fi <;> kernel_rfl
end
end Go.Proofs.Ytgeoommlmddgpaa.LtL
namespace Go.Proofs.Ytgeoommlmddgpaa.LtL
open Go Go.Proofs Go.Proofs.Ytgeoommlmddgpaa.AI Go.RowKit Go.Proofs.Ytgeoommlmddgpaa.Sort Go.Proofs.Ytgeoommlmddgpaa.LtA
def idsD (d : Int) (own : ViewV) (vs : List ViewV) : List Int := (ssort ltV (vs.filter (pD d own))).map fun x => x.id
theorem idsD_len (d : Int) (own : ViewV) (vs : List ViewV) : (idsD d own vs).length = (vs.filter (pD d own)).length := by unfold idsD; rw [List.length_map, len_ssort]
def ofR (vs : List ViewV) : Ans := fun rest => match rest with
  | [v, .int .i64 d] => if d = 1 ∨ d = 2 then (unH v).map fun own => (rowIv (idsD d own vs) 0, rowIO (idsD d own vs)) else none
  | _ => none
theorem vI_row (ids : List Int) (b : Nat) : vI (!ids.isEmpty) b ids.length = rowIv ids b := by cases ids <;> rfl
theorem fin_row {fn : Func} {N t : Nat} (q : ∀ (v : Value) (O : List Blk) (g : Nat → Value), retVal Try.prog fn (stOf N g [(t, v)] O) = some v) (ids : List Int) (g : Nat → Value) : FinR fn (rowIv ids 0) (rowIO ids) .ret (stOf N g [(t, rowIv ids 0)] [ownI ids]) := by
  refine ⟨.inr rfl, rfl, q _ _ g, fun B hB => ?_⟩
  cases ids with
  | nil => cases hB
  | cons i ids => cases hB; show (heapOf _ hp0).get 0 = _; rw [heapOf0_get]; rfl
theorem run56 (vs : List ViewV) (hn : vs.length < 1000000) : ∀ rest v0 O, ofR vs rest = some (v0, O) → RowRun Try.f42 code56 45 vs rest v0 O := fun rest v0 O h => by
  unfold ofR at h
  split at h
  case h_2 => cases h
  rename_i v d
  split at h
  case isFalse => cases h
  rename_i hd
  obtain ⟨own, hown, h2⟩ := Option.map_eq_some_iff.1 h
  obtain rfl := unH_some hown
  cases h2
  refine ⟨rowI_out _, rowI_ok _, (by intro r hr; have e : r = hcA own ∨ r = .int .i64 d := (by simpa using hr); rcases e with e | e <;> rw [e]; exact stay_h _; exact stay_int _ _), by simp, fun f o c W ho hrow hfl => ?_⟩
  have hkk := kk_len hfl
  have fx2 : ∀ us : List ViewV, ∀ r : List Blk, ∀ i, i < 2 → ∀ o', (o :: ownB us :: r)[i]? = some o' → Fixed 0 o' := fun us => fixOO ho (ownB_inert us)
  refine FRwp.seq (Q1 := fun e st => e = .normal ∧ ∃ g, st = stOf 45 g [(0, vS f 0 vs.length c), (2, .int .i64 d), (4, pb 1 0)] [o, hB own]) ?_ ?_ (fun x st hne hq => absurd hq.1 hne)
  · cases f with
    | true => exact FRwp.pieceY c56_ok follows 1 _ _ _ _ (r56a o vs.length c d own) Met.nil MetH.nil MetE.nil s56a rfl rfl (fix11 ho _) fun g => ⟨rfl, g, rfl⟩
    | false =>
      obtain ⟨rfl, rfl⟩ := hfl rfl
      exact FRwp.pieceY c56_ok follows 1 _ _ _ _ (n56a d own) Met.nil MetH.nil MetE.nil s56a rfl rfl (fix11 rfl _) fun g => ⟨rfl, g, rfl⟩
  rintro st ⟨-, g, rfl⟩
  refine FRwp.seq (Q1 := fun e st => e = .normal ∧ ∃ g, st = stOf 45 g [(0, vS f 0 vs.length c), (2, .int .i64 d), (4, pb 2 0), (7, nilS)] [o, .dead, hB own]) (FRwp.pieceY c56_ok follows 2 _ _ _ _ (r56b f o vs.length c d own g) Met.nil MetH.nil MetE.nil s56b rfl rfl (fx2 [] _) fun g => ⟨rfl, g, rfl⟩) ?_ (fun x st hne hq => absurd hq.1 hne)
  rintro st ⟨-, g, rfl⟩
  refine FRwp.seq (Q1 := fun e st => e = .normal ∧ ∃ g, st = stOf 45 g [(7, vS (!(vs.filter (pD d own)).isEmpty) 0 (vs.filter (pD d own)).length 22)] [ownB (vs.filter (pD d own))]) ?_ ?_ (fun x st hne hq => absurd hq.1 hne)
  · refine FRwp.seq (Q1 := fun e st => e = .normal ∧ ∃ g, st = L56 f o vs.length c d own .dead false 0 0 g) (FRwp.pieceY c56_ok follows 2 _ _ _ _ (r56c f o vs.length c d own g) Met.nil MetH.nil MetE.nil s56c rfl rfl (fx2 [] _) fun g => ⟨rfl, g, rfl⟩) ?_ (fun x st hne hq => absurd hq.1 hne)
    rintro st ⟨-, g, rfl⟩
    refine FRwp.mono (fold_loop' (filS (pD d own)) [] (fun us i g => L56 f o vs.length c d own (ownB us) (!us.isEmpty) us.length i g) (fun us st => ∃ g, st = stOf 45 g [(7, vS (!us.isEmpty) 0 us.length 22)] [ownB us]) (fun us g hf => ?_) (fun i x us g hx hlt hf => ?_) g) fun e st q => by rw [fil_fold] at q; exact q
    · exact FRwp.pieceY c56_ok follows 1 _ _ _ _ (r56x f (!us.isEmpty) o (ownB us) vs.length c us.length vs.length d own g) (Met.cons (ltO_ok (by rw [hkk]; simp)) Met.nil) MetH.nil MetE.nil s56d rfl rfl (fix11 (ownB_inert us) []) fun g' => ⟨rfl, g', rfl⟩
    · have hft : f = true := by cases f with
        | true => rfl
        | false => rw [(hfl rfl).1] at hlt; simp at hlt
      subst hft
      have hr : ∃ ty ro, o = .cells ty (vrow vs) ro := by
        rcases hrow with h | h
        · rw [h] at hlt; simp at hlt
        · exact h
      have hul : us.length ≤ i := by
        rw [← hf, fil_fold]
        have := List.length_filter_le (pD d own) (vs.take i)
        rw [List.length_take] at this
        simp; omega
      have b0 : RowAt (h56 o (ownB us) own) 0 vs := rowAt0 hr
      have met : ∀ {l : List Obl}, Met l → Met (ltO i vs.length true :: LtA.ixO 0 vs.length c i :: ldO (h56 o (ownB us) own).get 45 0 (i * 7) (.agg ⟨vc x⟩) :: l) := fun hl => Met.cons (ltO_ok (decide_eq_true hlt)) (Met.cons (LtA.vidx_ok hlt) (Met.cons (LtA.vload_ok b0 hx) hl))
      have hnx : Met [nxt29 i] := Met.cons (wrap_up (by omega)) Met.nil
      have dok : ∀ {b : Bool}, pD d own x = b → (diO own x d b).1 = some (diO own x d b).2 := fun h => by show some (Value.bool (dirV own x == d)) = _; unfold pD at h; rw [h]; rfl
      cases h24 : pD d own x with
      | false =>
        refine FRwp.pieceY c56_ok follows 2 _ _ _ _ (r56f (!us.isEmpty) o (ownB us) vs.length c us.length i d x own g) (met (Met.cons (dok h24) hnx)) MetH.nil MetE.nil s56d rfl rfl (fx2 us _) fun g' => ⟨rfl, g', ?_⟩
        unfold filS; rw [h24]; rfl
      | true =>
        have g1 : (((h56 o (ownB us) own).push (LtA.vB x)).push (vB x)).get 1 = some (ownB us) := by rw [Hp.get_push, if_neg (by show (1 : Nat) ≠ 5; omega), Hp.get_push, if_neg (by show (1 : Nat) ≠ 4; omega)]; unfold h56; rw [heapOf0_get]; rfl
        have g5 : (((h56 o (ownB us) own).push (LtA.vB x)).push (vB x)).get 5 = some (vB x) := by rw [Hp.get_push, if_pos (by show (5 : Nat) = 5; rfl)]
        refine FRwp.pieceY c56_ok follows 2 _ _ _ _ (r56t (!us.isEmpty) o (ownB us) vs.length c us.length i d x own (us ++ [x]) g) (met (Met.cons (dok h24) hnx)) MetH.nil (MetE.cons (app_any rfl g1 g5 rfl (by omega)) MetE.nil) s56d rfl rfl
          (by rw [← ownB_ne (ne_app us x)]; exact fx2 _ _) fun g' => ⟨rfl, g', ?_⟩
        unfold filS; rw [h24, cond_true, isE_app, ownB_ne (ne_app us x)]
        have e1 : (us ++ [x]).length = us.length + 1 := by simp
        rw [e1]; rfl
  rintro st ⟨-, g, rfl⟩
  have hfl' : (vs.filter (pD d own)).length < 1000000 := by have := List.length_filter_le (pD d own) vs; omega
  have hfk : ∀ z ∈ vs.filter (pD d own), Kn z := fun z hz => pD_kn hd (List.mem_filter.1 hz).2
  unfold idsD
  generalize vs.filter (pD d own) = us at *
  cases us with
  | nil => exact FRwp.piece c56n_ok follows 0 _ _ _ _ (n56r g) Met.nil s56r rfl rfl rfl (noFix _) fun g => ⟨.inr rfl, rfl, q56 _ _ g, (fun B hB => by cases hB)⟩
  | cons w ws =>
    have hun : w :: ws ≠ [] := by simp
    generalize w :: ws = us at *
    rw [ownB_ne hun, isE_false hun]
    have hsl : (ssort ltV us).length = us.length := len_ssort
    have hcall : c56 77 [newS 0 us.length, Fc] (hW us) = some (vU, (hW us).put 0 (rowB (ssort ltV us))) := by rw [c56_76]; exact G76_of rfl (by omega) hfk (hW_get us)
    refine FRwp.seq (Q1 := fun e st => e = .normal ∧ ∃ g, st = stOf 45 g [(7, newS 0 us.length)] [rowB (ssort ltV us)]) (FRwp.pieceY c56_ok follows 1 _ _ _ _ (r56e us.length (ssort ltV us) us g) Met.nil (MetH.cons hcall MetH.nil) MetE.nil s56e rfl rfl (fix1 _ []) fun g => ⟨rfl, g, rfl⟩) ?_ (fun x st hne hq => absurd hq.1 hne)
    rintro st ⟨-, g, rfl⟩
    generalize ssort ltV us = ss at *
    rw [← hsl]
    have fx : ∀ r : List Blk, ∀ i, i < 2 → ∀ o', (rowB ss :: .dead :: r)[i]? = some o' → Fixed 0 o' := fixOO (row_block ss) rfl
    refine FRwp.seq (Q1 := fun e st => e = .normal ∧ ∃ g, st = stOf 45 g [(7, newS 0 ss.length), (10, nilS)] [rowB ss, .dead]) (FRwp.pieceY c56_ok follows 2 _ _ _ _ (r56g0 ss.length ss g) Met.nil MetH.nil MetE.nil s56f rfl rfl (fx []) fun g => ⟨rfl, g, rfl⟩) ?_ (fun x st hne hq => absurd hq.1 hne)
    rintro st ⟨-, g, rfl⟩
    refine FRwp.seq (Q1 := fun e st => e = .normal ∧ ∃ g, st = stOf 45 g [(10, rowIv (ss.map fun x => x.id) 0)] [ownI (ss.map fun x => x.id)]) ?_ ?_ (fun x st hne hq => absurd hq.1 hne)
    · refine FRwp.seq (Q1 := fun e st => e = .normal ∧ ∃ g, st = K56 ss .dead false ss.length 0 0 g) (FRwp.pieceY c56_ok follows 2 _ _ _ _ (r56g ss.length ss g) Met.nil MetH.nil MetE.nil s56g rfl rfl (fx []) fun g => ⟨rfl, g, rfl⟩) ?_ (fun x st hne hq => absurd hq.1 hne)
      rintro st ⟨-, g, rfl⟩
      refine FRwp.mono (fold_loop' (fun ids (x : ViewV) => ids ++ [x.id]) [] (fun ids i g => K56 ss (ownI ids) (!ids.isEmpty) ss.length ids.length i g) (fun ids st => ∃ g, st = stOf 45 g [(10, rowIv ids 0)] [ownI ids]) (fun ids g hf => ?_) (fun i x ids g hx hlt hf => ?_) g) fun e st q => by rw [map_fold] at q; exact q
      · rw [← vI_row]
        exact FRwp.pieceY c56_ok follows 1 _ _ _ _ (r56hx (!ids.isEmpty) (ownI ids) ss.length ids.length ss.length ss g) (Met.cons (ltO_ok (by simp)) Met.nil) MetH.nil MetE.nil s56h rfl rfl (fix11 (ownI_inert ids) []) fun g' => ⟨rfl, g', rfl⟩
      · have hil : ids.length ≤ i := by rw [← hf, map_fold]; simp; omega
        have b0 : RowAt (hK56 ss (ownI ids)) 0 ss := .of (ty := 81) (ro := false) (by unfold hK56; rw [heapOf0_get]; rfl)
        have g1 : (((hK56 ss (ownI ids)).push (vB x)).push (.cells 3 [icell x.id] false)).get 1 = some (ownI ids) := by rw [Hp.get_push, if_neg (by show (1 : Nat) ≠ 4; omega), Hp.get_push, if_neg (by show (1 : Nat) ≠ 3; omega)]; unfold hK56; rw [heapOf0_get]; rfl
        have g4 : (((hK56 ss (ownI ids)).push (vB x)).push (.cells 3 [icell x.id] false)).get 4 = some (.cells 3 [icell x.id] false) := by rw [Hp.get_push, if_pos (by show (4 : Nat) = 4; rfl)]
        refine FRwp.pieceY c56_ok follows 2 _ _ _ _ (r56h (!ids.isEmpty) (ownI ids) ss.length ids.length i x ss (ids ++ [x.id]) g) (Met.cons (ltO_ok (decide_eq_true hlt)) (Met.cons (vidx_ok hlt) (Met.cons (vload_ok b0 hx) (Met.cons (wrap_up (by omega)) Met.nil)))) MetH.nil (MetE.cons (app_anyI rfl g1 g4 rfl (by omega)) MetE.nil) s56h rfl rfl
          (by rw [← ownI_ne (ne_app ids x.id)]; exact fixOO (row_block ss) (ownI_inert _) []) fun g' => ⟨rfl, g', ?_⟩
        rw [isE_app, ownI_ne (ne_app ids x.id)]
        have e1 : (ids ++ [x.id]).length = ids.length + 1 := by simp
        rw [e1]; rfl
    · rintro st ⟨-, g, rfl⟩
      generalize ss.map (fun x => x.id) = ids at *
      have hr := r56i (!ids.isEmpty) (ownI ids) ids.length g
      rw [vI_row] at hr
      exact FRwp.pieceY c56_ok follows 1 _ _ _ _ hr Met.nil MetH.nil MetE.nil s56i rfl rfl (fix11 (ownI_inert ids) []) fun g => fin_row q56 ids g
noncomputable def G56 : HeapFn := padF (toldR ofR)
theorem hkG56 : CallGoal Try.prog 42 G56 := pad_goal (toldR_goal Try.func42 body56 (by kernel_rfl) ntmps56 fun vs hn => run56 vs hn)
theorem G56_of {vs : List ViewV} {s : Value} {hp : Hp} {d : Int} (own : ViewV) (hd : d = 1 ∨ d = 2) (h : TN vs s hp) (hn : vs.length < 1000000) : G56 [s, hcA own, .int .i64 d] hp = some (rowIv (idsD d own vs) hp.sz, heapOf [ownI (idsD d own vs), .dead] hp) := toldR_ids h hn (by show (if d = 1 ∨ d = 2 then _ else _) = _; rw [if_pos hd]; rfl)
noncomputable def E19 : Ext := extG (extH Try.prog []) [(42, G56)]
theorem E19_ok : ExtOk Try.prog E19 := extG_ok (extH_ok (.nil)) (.cons hkG56 (.nil))
noncomputable def c19 : CallF := aCall Try.prog E19 5
theorem c19_ok : CallOk Try.prog c19 := aCall_sound E19_ok follows 5
theorem c19_56 (args : List Value) (hp : Hp) : c19 42 args hp = G56 args hp := by
  show aCall Try.prog E19 5 42 _ _ = _
  rw [aCall]; rfl
noncomputable def fb19 : Code := (Try.f15.body).getD .skip
theorem body19 : Try.f15.body = some fb19 := by kernel_rfl
theorem ntmps19 : Try.f15.ntmps = 8 := by kernel_rfl
theorem s19 : codeSafe Try.prog 8 fb19 = true := by kernel_rfl
theorem q19 (v : Value) (O : List Blk) (g : Nat → Value) : retVal Try.prog Try.f15 (stOf 8 g [(4, v)] O) = some v := by kernel_rfl
section
variable (fi : Bool) (o I : Blk) (own : ViewV) (n c k : Nat)
theorem r19t : (execE Try.prog c19 [] [(7, vI fi 3 k, [I, .dead])] [] 20 fb19 ⟨tmsOf [rowS 0 n c, hcA own] 0 .leaf, heapOf [o, .dead] hp0, []⟩).map (fun z => (look2 1 [3] [4] (z.1, z.2.1), z.2.2)) =
    some ((.ret, [I], [(4, vI fi 0 k)], true), [], [(c19 42 [rowS 0 n c, hcA own, .int .i64 1] (heapOf [o, .dead, hB own] hp0), (vI fi 3 k, heapOf [I, .dead] (heapOf [o, .dead, hB own] hp0)))], []) := by cases fi <;> kernel_rfl
theorem r19n : (execE Try.prog c19 [] [(7, vI fi 2 k, [I, .dead])] [] 20 fb19 ⟨tmsOf [nilS, hcA own] 0 .leaf, heapOf [.dead] hp0, []⟩).map (fun z => (look2 1 [2] [4] (z.1, z.2.1), z.2.2)) =
    some ((.ret, [I], [(4, vI fi 0 k)], true), [], [(c19 42 [nilS, hcA own, .int .i64 1] (heapOf [.dead, hB own] hp0), (vI fi 2 k, heapOf [I, .dead] (heapOf [.dead, hB own] hp0)))], []) := by cases fi <;> kernel_rfl
end
def wayR19 (vs : List ViewV) : Ans := fun rest => match rest with
  | [v] => (unH v).map fun own => (rowIv (idsD 1 own vs) 0, rowIO (idsD 1 own vs))
  | _ => none
theorem run19 (vs : List ViewV) (hn : vs.length < 1000000) : ∀ rest v0 O, wayR19 vs rest = some (v0, O) → RowRun Try.f15 fb19 8 vs rest v0 O := fun rest v0 O h => by
  unfold wayR19 at h
  split at h
  case h_2 => cases h
  rename_i v
  obtain ⟨own, hown, h2⟩ := Option.map_eq_some_iff.1 h
  obtain rfl := unH_some hown
  cases h2
  refine ⟨rowI_out _, rowI_ok _, (by intro r hr; have e : r = hcA own := (by simpa using hr); rw [e]; exact stay_h _), by simp, fun f o c W ho hrow hfl => ?_⟩
  cases f with
  | true =>
    have h := (c19_56 [rowS 0 vs.length c, hcA own, .int .i64 1] (heapOf [o, .dead, hB own] hp0)).trans (G56_of (d := 1) own (by simp) (.inr ⟨0, c, o, rfl, by rw [heapOf0_get]; rfl, ho, hrow⟩) hn)
    generalize idsD 1 own vs = ids at *
    have hr := r19t (!ids.isEmpty) o (ownI ids) own vs.length c ids.length
    rw [vI_row, vI_row] at hr
    exact FRwp.pieceY c19_ok follows 1 _ _ _ _ hr Met.nil (MetH.cons h MetH.nil) MetE.nil s19 rfl rfl (fix11 (ownI_inert ids) []) fun g => fin_row q19 ids g
  | false =>
    obtain ⟨rfl, rfl⟩ := hfl rfl
    have h := (c19_56 [nilS, hcA own, .int .i64 1] (heapOf [.dead, hB own] hp0)).trans (G56_of (vs := []) (d := 1) own (by simp) (.inl ⟨rfl, rfl⟩) (by simp))
    generalize idsD 1 own [] = ids at *
    have hr := r19n (!ids.isEmpty) (ownI ids) own ids.length
    rw [vI_row, vI_row] at hr
    exact FRwp.pieceY c19_ok follows 1 _ _ _ _ hr Met.nil (MetH.cons h MetH.nil) MetE.nil s19 rfl rfl (fix11 (ownI_inert ids) []) fun g => fin_row q19 ids g
noncomputable def G19 : HeapFn := padF (toldR wayR19)
theorem hkG19 : CallGoal Try.prog 15 G19 := pad_goal (toldR_goal Try.func15 body19 (by kernel_rfl) ntmps19 fun vs hn => run19 vs hn)
theorem G19_of {vs : List ViewV} {s : Value} {hp : Hp} (own : ViewV) (h : TN vs s hp) (hn : vs.length < 1000000) : G19 [s, hcA own] hp = some (rowIv (idsD 1 own vs) hp.sz, heapOf [ownI (idsD 1 own vs), .dead] hp) := toldR_ids h hn rfl
noncomputable def E20 : Ext := extG (extH Try.prog []) [(42, G56)]
theorem E20_ok : ExtOk Try.prog E20 := extG_ok (extH_ok (.nil)) (.cons hkG56 (.nil))
noncomputable def c20 : CallF := aCall Try.prog E20 5
theorem c20_ok : CallOk Try.prog c20 := aCall_sound E20_ok follows 5
theorem c20_56 (args : List Value) (hp : Hp) : c20 42 args hp = G56 args hp := by
  show aCall Try.prog E20 5 42 _ _ = _
  rw [aCall]; rfl
noncomputable def fb20 : Code := (Try.f17.body).getD .skip
theorem body20 : Try.f17.body = some fb20 := by kernel_rfl
theorem ntmps20 : Try.f17.ntmps = 8 := by kernel_rfl
theorem s20 : codeSafe Try.prog 8 fb20 = true := by kernel_rfl
theorem q20 (v : Value) (O : List Blk) (g : Nat → Value) : retVal Try.prog Try.f17 (stOf 8 g [(4, v)] O) = some v := by kernel_rfl
section
variable (fi : Bool) (o I : Blk) (own : ViewV) (n c k : Nat)
theorem r20t : (execE Try.prog c20 [] [(7, vI fi 3 k, [I, .dead])] [] 20 fb20 ⟨tmsOf [rowS 0 n c, hcA own] 0 .leaf, heapOf [o, .dead] hp0, []⟩).map (fun z => (look2 1 [3] [4] (z.1, z.2.1), z.2.2)) =
    some ((.ret, [I], [(4, vI fi 0 k)], true), [], [(c20 42 [rowS 0 n c, hcA own, .int .i64 2] (heapOf [o, .dead, hB own] hp0), (vI fi 3 k, heapOf [I, .dead] (heapOf [o, .dead, hB own] hp0)))], []) := by cases fi <;> kernel_rfl
theorem r20n : (execE Try.prog c20 [] [(7, vI fi 2 k, [I, .dead])] [] 20 fb20 ⟨tmsOf [nilS, hcA own] 0 .leaf, heapOf [.dead] hp0, []⟩).map (fun z => (look2 1 [2] [4] (z.1, z.2.1), z.2.2)) =
    some ((.ret, [I], [(4, vI fi 0 k)], true), [], [(c20 42 [nilS, hcA own, .int .i64 2] (heapOf [.dead, hB own] hp0), (vI fi 2 k, heapOf [I, .dead] (heapOf [.dead, hB own] hp0)))], []) := by cases fi <;> kernel_rfl
end
def wayR20 (vs : List ViewV) : Ans := fun rest => match rest with
  | [v] => (unH v).map fun own => (rowIv (idsD 2 own vs) 0, rowIO (idsD 2 own vs))
  | _ => none
theorem run20 (vs : List ViewV) (hn : vs.length < 1000000) : ∀ rest v0 O, wayR20 vs rest = some (v0, O) → RowRun Try.f17 fb20 8 vs rest v0 O := fun rest v0 O h => by
  unfold wayR20 at h
  split at h
  case h_2 => cases h
  rename_i v
  obtain ⟨own, hown, h2⟩ := Option.map_eq_some_iff.1 h
  obtain rfl := unH_some hown
  cases h2
  refine ⟨rowI_out _, rowI_ok _, (by intro r hr; have e : r = hcA own := (by simpa using hr); rw [e]; exact stay_h _), by simp, fun f o c W ho hrow hfl => ?_⟩
  cases f with
  | true =>
    have h := (c20_56 [rowS 0 vs.length c, hcA own, .int .i64 2] (heapOf [o, .dead, hB own] hp0)).trans (G56_of (d := 2) own (by simp) (.inr ⟨0, c, o, rfl, by rw [heapOf0_get]; rfl, ho, hrow⟩) hn)
    generalize idsD 2 own vs = ids at *
    have hr := r20t (!ids.isEmpty) o (ownI ids) own vs.length c ids.length
    rw [vI_row, vI_row] at hr
    exact FRwp.pieceY c20_ok follows 1 _ _ _ _ hr Met.nil (MetH.cons h MetH.nil) MetE.nil s20 rfl rfl (fix11 (ownI_inert ids) []) fun g => fin_row q20 ids g
  | false =>
    obtain ⟨rfl, rfl⟩ := hfl rfl
    have h := (c20_56 [nilS, hcA own, .int .i64 2] (heapOf [.dead, hB own] hp0)).trans (G56_of (vs := []) (d := 2) own (by simp) (.inl ⟨rfl, rfl⟩) (by simp))
    generalize idsD 2 own [] = ids at *
    have hr := r20n (!ids.isEmpty) (ownI ids) own ids.length
    rw [vI_row, vI_row] at hr
    exact FRwp.pieceY c20_ok follows 1 _ _ _ _ hr Met.nil (MetH.cons h MetH.nil) MetE.nil s20 rfl rfl (fix11 (ownI_inert ids) []) fun g => fin_row q20 ids g
noncomputable def G20 : HeapFn := padF (toldR wayR20)
theorem hkG20 : CallGoal Try.prog 17 G20 := pad_goal (toldR_goal Try.func17 body20 (by kernel_rfl) ntmps20 fun vs hn => run20 vs hn)
noncomputable def E22 : Ext := extG (extH Try.prog []) [(15, G19)]
theorem E22_ok : ExtOk Try.prog E22 := extG_ok (extH_ok (.nil)) (.cons hkG19 (.nil))
noncomputable def c22 : CallF := aCall Try.prog E22 5
theorem c22_ok : CallOk Try.prog c22 := aCall_sound E22_ok follows 5
theorem c22_19 (args : List Value) (hp : Hp) : c22 15 args hp = G19 args hp := by
  show aCall Try.prog E22 5 15 _ _ = _
  rw [aCall]; rfl
noncomputable def fb22 : Code := (Try.f10.body).getD .skip
theorem body22 : Try.f10.body = some fb22 := by kernel_rfl
theorem ntmps22 : Try.f10.ntmps = 16 := by kernel_rfl
theorem s22 : codeSafe Try.prog 16 fb22 = true := by kernel_rfl
theorem q22 (v u : Value) (O : List Blk) (g : Nat → Value) : retVal Try.prog Try.f10 (stOf 16 g [(4, v), (5, u)] O) = some (.tuple #[v, u]) := by kernel_rfl
section
variable (o I : Blk) (own : ViewV) (n c k : Nat) (z : Int)
theorem r22t : (execE Try.prog c22 [(12, .bool true), (14, pb 3 0), (15, .int .i64 z)] [(9, newI 3 k, [I, .dead])] [] 20 fb22 ⟨tmsOf [rowS 0 n c, hcA own] 0 .leaf, heapOf [o, .dead] hp0, []⟩).map (fun z => (look2 0 [] [4, 5] (z.1, z.2.1), z.2.2)) =
    some ((.ret, [], [(4, .int .i64 z), (5, .bool true)], true), [gtO k 0 true, ixI 3 k 0, ldO (heapOf [I, .dead] (heapOf [o, .dead, hB own] hp0)).get 3 3 0 (.int .i64 z)], [(c22 15 [rowS 0 n c, hcA own] (heapOf [o, .dead, hB own] hp0), (newI 3 k, heapOf [I, .dead] (heapOf [o, .dead, hB own] hp0)))], []) := by kernel_rfl
theorem r22te : (execE Try.prog c22 [] [(9, nilS, [I, .dead])] [] 20 fb22 ⟨tmsOf [rowS 0 n c, hcA own] 0 .leaf, heapOf [o, .dead] hp0, []⟩).map (fun z => (look2 0 [] [4, 5] (z.1, z.2.1), z.2.2)) =
    some ((.ret, [], [(4, .int .i64 0), (5, .bool false)], true), [], [(c22 15 [rowS 0 n c, hcA own] (heapOf [o, .dead, hB own] hp0), (nilS, heapOf [I, .dead] (heapOf [o, .dead, hB own] hp0)))], []) := by kernel_rfl
theorem r22n : (execE Try.prog c22 [(12, .bool true), (14, pb 2 0), (15, .int .i64 z)] [(9, newI 2 k, [I, .dead])] [] 20 fb22 ⟨tmsOf [nilS, hcA own] 0 .leaf, heapOf [.dead] hp0, []⟩).map (fun z => (look2 0 [] [4, 5] (z.1, z.2.1), z.2.2)) =
    some ((.ret, [], [(4, .int .i64 z), (5, .bool true)], true), [gtO k 0 true, ixI 2 k 0, ldO (heapOf [I, .dead] (heapOf [.dead, hB own] hp0)).get 3 2 0 (.int .i64 z)], [(c22 15 [nilS, hcA own] (heapOf [.dead, hB own] hp0), (newI 2 k, heapOf [I, .dead] (heapOf [.dead, hB own] hp0)))], []) := by kernel_rfl
theorem r22ne : (execE Try.prog c22 [] [(9, nilS, [I, .dead])] [] 20 fb22 ⟨tmsOf [nilS, hcA own] 0 .leaf, heapOf [.dead] hp0, []⟩).map (fun z => (look2 0 [] [4, 5] (z.1, z.2.1), z.2.2)) =
    some ((.ret, [], [(4, .int .i64 0), (5, .bool false)], true), [], [(c22 15 [nilS, hcA own] (heapOf [.dead, hB own] hp0), (nilS, heapOf [I, .dead] (heapOf [.dead, hB own] hp0)))], []) := by kernel_rfl
end
def nxtA (own : ViewV) (vs : List ViewV) : Value := match idsD 1 own vs with
  | [] => .tuple #[.int .i64 0, .bool false]
  | z :: _ => .tuple #[.int .i64 z, .bool true]
def nxtR (vs : List ViewV) : Ans := fun rest => match rest with
  | [v] => (unH v).map fun own => (nxtA own vs, [])
  | _ => none
theorem nxtA_ok (own : ViewV) (vs : List ViewV) : ok3 (nxtA own vs) = true := by unfold nxtA; split <;> rfl
theorem run22 (vs : List ViewV) (hn : vs.length < 1000000) : ∀ rest v0 O, nxtR vs rest = some (v0, O) → RowRun Try.f10 fb22 16 vs rest v0 O := fun rest v0 O h => by
  unfold nxtR at h
  split at h
  case h_2 => cases h
  rename_i v
  obtain ⟨own, hown, h2⟩ := Option.map_eq_some_iff.1 h
  obtain rfl := unH_some hown
  cases h2
  refine ⟨.inl rfl, nxtA_ok _ _, (by intro r hr; have e : r = hcA own := (by simpa using hr); rw [e]; exact stay_h _), by simp, fun f o c W ho hrow hfl => ?_⟩
  have hg : ∀ {k : Nat}, (gtO (k + 1) 0 true).1 = some (gtO (k + 1) 0 true).2 := fun {k} => gtO_ok (by simp)
  cases f with
  | true =>
    have h := (c22_19 [rowS 0 vs.length c, hcA own] (heapOf [o, .dead, hB own] hp0)).trans (G19_of own (.inr ⟨0, c, o, rfl, by rw [heapOf0_get]; rfl, ho, hrow⟩) hn)
    unfold nxtA
    generalize idsD 1 own vs = ids at *
    cases ids with
    | nil => exact FRwp.pieceY c22_ok follows 0 _ _ _ _ (r22te o .dead own vs.length c) Met.nil (MetH.cons h MetH.nil) MetE.nil s22 rfl rfl (noFix _) fun g => ⟨.inr rfl, rfl, q22 _ _ _ g, (fun B hB => by cases hB)⟩
    | cons z ids => exact FRwp.pieceY c22_ok follows 0 _ _ _ _ (r22t o (iB (z :: ids)) own vs.length c (ids.length + 1) z) (Met.cons hg (Met.cons (ixI_ok (by omega)) (Met.cons (ldA_ok (isI (z :: ids)) (by rw [heapOf_get]; rfl) rfl) Met.nil))) (MetH.cons h MetH.nil) MetE.nil s22 rfl rfl (noFix _) fun g => ⟨.inr rfl, rfl, q22 _ _ _ g, (fun B hB => by cases hB)⟩
  | false =>
    obtain ⟨rfl, rfl⟩ := hfl rfl
    have h := (c22_19 [nilS, hcA own] (heapOf [.dead, hB own] hp0)).trans (G19_of (vs := []) own (.inl ⟨rfl, rfl⟩) (by simp))
    unfold nxtA
    generalize idsD 1 own [] = ids at *
    cases ids with
    | nil => exact FRwp.pieceY c22_ok follows 0 _ _ _ _ (r22ne .dead own) Met.nil (MetH.cons h MetH.nil) MetE.nil s22 rfl rfl (noFix _) fun g => ⟨.inr rfl, rfl, q22 _ _ _ g, (fun B hB => by cases hB)⟩
    | cons z ids => exact FRwp.pieceY c22_ok follows 0 _ _ _ _ (r22n (iB (z :: ids)) own (ids.length + 1) z) (Met.cons hg (Met.cons (ixI_ok (by omega)) (Met.cons (ldA_ok (isI (z :: ids)) (by rw [heapOf_get]; rfl) rfl) Met.nil))) (MetH.cons h MetH.nil) MetE.nil s22 rfl rfl (noFix _) fun g => ⟨.inr rfl, rfl, q22 _ _ _ g, (fun B hB => by cases hB)⟩
noncomputable def G22 : HeapFn := toldR nxtR
theorem hkG22 : CallGoal Try.prog 10 G22 := toldR_goal Try.func10 body22 (by kernel_rfl) ntmps22 fun vs hn => run22 vs hn
end Go.Proofs.Ytgeoommlmddgpaa.LtL
namespace Go.Proofs.Ytgeoommlmddgpaa.LtL
open Go Go.Proofs Go.Proofs.Ytgeoommlmddgpaa.AI Go.RowKit Go.Proofs.Ytgeoommlmddgpaa.Sort Go.Proofs.Ytgeoommlmddgpaa.LtA
def g16 : List Value → Option Value
  | [] => some (.bool true)
  | _ => none
theorem awake_run : (aCall Try.prog (extOf Try.prog) 4000 19 [] hp0).map (fun r => r.1) = some (.bool true) := by kernel_rfl
theorem hk16 : HookGoal Try.prog 19 g16 := hook_of (ext := extOf Try.prog) (extOf_ok _) follows Try.func19 (by kernel_rfl) fun args v h => by
  unfold g16 at h
  split at h
  · cases h
    obtain ⟨⟨u, hp⟩, h1, h2⟩ := Option.map_eq_some_iff.1 awake_run
    simp only at h2
    subst h2
    exact ⟨rfl, rfl, _, hp, h1⟩
  · cases h
section
variable (f fa fb b lb : Bool) (o A B B1 B2 : Blk) (n c i q ka kb : Nat) (z : Int) (x y own : ViewV) (w1 w2 : Value) (g : Nat → Value)
def h4 (o : Blk) (own : ViewV) : Hp := heapOf ([o, hB own] ++ [.dead]) hp0
end
end Go.Proofs.Ytgeoommlmddgpaa.LtL
namespace Go.Proofs.Ytgeoommlmddgpaa.LtL
open Go Go.Proofs Go.Proofs.Ytgeoommlmddgpaa.AI Go.RowKit Go.Proofs.Ytgeoommlmddgpaa.Sort Go.Proofs.Ytgeoommlmddgpaa.LtA
theorem tn_vS {f : Bool} {vs : List ViewV} {o : Blk} {c : Nat} {hp : Hp} (ho : inertB o = true) (hrow : vs = [] ∨ ∃ ty ro, o = .cells ty (vrow vs) ro) (hfl : f = false → vs = [] ∧ o = .dead) (hg : hp.get 0 = some o) : TN vs (vS f 0 vs.length c) hp := by
  cases f with
  | true => exact .inr ⟨0, c, o, rfl, hg, ho, hrow⟩
  | false => exact .inl ⟨rfl, (hfl rfl).1⟩
end Go.Proofs.Ytgeoommlmddgpaa.LtL
namespace Go.Proofs.Ytgeoommlmddgpaa.LtL
open Go Go.Proofs Go.Proofs.Ytgeoommlmddgpaa.AI Go.RowKit Go.ChangeShapes Go.Proofs.Ytgeoommlmddgpaa.LtA
theorem valw_max {w : World} {r : Reach} {base : Nat} {a : Addr} {n c : Nat} (h : Value.okWide Try.prog w r base 22 (.slice (some a) n c)) : n ≤ 9223372036854775807 := by
  unfold Value.okWide at h
  rw [Try.underlying22] at h
  have h' : Cell.okWide Try.prog w r base 22 (.slice (some a) n c) := h
  unfold Cell.okWide at h'
  rw [Try.underlying22] at h'
  have h2 : Cell.ok Try.prog w r base 22 (.slice (some a) n c) := h'
  unfold Cell.ok at h2
  rw [Try.underlying22] at h2
  obtain ⟨h1, h3, -⟩ := h2
  have h4 : (c : Int) ≤ 9223372036854775807 := h3
  omega
theorem row_argF {H : Type} {enc : TypeId × Value → H} {W : World} {base : Nat} {v : Value} {d : DataW H} {p : List MemPlace} (hval : Value.okWide Try.prog W .any base 22 v) (hT : ∃ fuel, DataW.trod enc Try.prog W 0 (fun _ => true) true fuel 22 v.cells.toList = some (d, p)) :
    ∃ (f : Bool) (o : Blk) (vs : List ViewV) (m : BM), inertB o = true ∧ Sim m (heapOf [o, .dead] hp0).get W ∧ (∀ b, rw? (heapOf [o, .dead] hp0).get b = false) ∧ VRel m (heapOf [o, .dead] hp0).get (vS f 0 vs.length 2) v ∧
      vs.length ≤ 9223372036854775807 ∧ (vs = [] ∨ ∃ ty ro, o = .cells ty (vrow vs) ro) ∧ (f = false → vs = [] ∧ o = .dead) := by
  rcases valw_slice Try.underlying22 hval with rfl | ⟨r, off, n, c, rfl, hn⟩
  · exact ⟨false, .dead, [], bm0, rfl, sim_bm0, ro2_dead, .flat rfl, by simp, .inl rfl, fun _ => ⟨rfl, rfl⟩⟩
  · have hmax := valw_max hval
    by_cases hd : n = 0
    · subst hd
      exact ⟨true, .dead, [], bm0, rfl, sim_bm0, ro2_dead, .slice (.of hn (by decide)) (.inl (by rw [heapOf0_get]; rfl)), by simp, .inl rfl, fun h => by cases h⟩
    · obtain ⟨fuel, hT⟩ := hT
      have hT' : DataW.trod enc Try.prog W 0 (fun _ => true) true fuel 22 [.slice (some ⟨r, off, none⟩) n c] = some (d, p) := by simpa [Value.cells] using hT
      obtain ⟨ps, arr, ty, fr, hl, hcell, hlen, hv⟩ := vrow_of hT' (by omega)
      have hin := vrow_inert ps
      refine ⟨true, .cells ty (vrow ps) true, ps, _, hin, sim_dead (row_sim (k := 7) (n := n) hcell hlen hin hv), ro2_cells, ?_, by omega, .inr ⟨ty, true, rfl⟩, fun h => by cases h⟩
      rw [hl]
      refine .slice (.of hn (by decide)) (.inr ⟨off, arr.size, rfl, .inl rfl, ?_⟩)
      constructor <;> intro h <;> simp at h
end Go.Proofs.Ytgeoommlmddgpaa.LtL
namespace Go.Proofs.Ytgeoommlmddgpaa.LtL
open Go Go.Proofs Go.Proofs.Ytgeoommlmddgpaa.AI Go.RowKit Go.Proofs.Ytgeoommlmddgpaa.Sort Go.Proofs.Ytgeoommlmddgpaa.LtA
theorem wrap_dnM {i : Nat} (h : i + 1 ≤ 9223372036854775807) : (some (Value.int .i64 (wrapF .i64 (Int.ofNat (i + 1) - 1)))) = some (iN i) := by
  have e : Int.ofNat (i + 1) - 1 = Int.ofNat i := by simp only [Int.ofNat_eq_natCast]; omega
  rw [e, wrap64 (by have := Int.natCast_nonneg i; simp only [Int.ofNat_eq_natCast]; omega) (by simp only [Int.ofNat_eq_natCast]; omega)]
  rfl
theorem check_frM (o : Blk) (ho : inertB o = true) (vs : List ViewV) (hn : vs.length ≤ 9223372036854775807) (hrow : vs = [] ∨ ∃ ty ro, o = .cells ty (vrow vs) ro) (c : Nat) (W : Base) :
    FRwp Try.prog 34 W (.seq c18a (.seq (.seq c18b (.block 0 (.loop c18c))) c18d)) (B18 o vs.length c) (fun e st => (e = .normal ∨ e = .ret) ∧ st.df = [] ∧ retVal Try.prog Try.f24 st = some (errI (rightB vs))) := by
  have hO := fixO ho
  refine FRwp.seq (Q1 := fun x st => x = .normal ∧ ∃ g, st = A18 o vs.length c g) (FRwp.piece cE_ok follows 1 _ _ _ _ (r18a o vs.length c) Met.nil s18a rfl rfl rfl (hO _) fun g => ⟨rfl, g, rfl⟩) ?_ (fun x st hne hq => absurd hq.1 hne)
  rintro st ⟨-, g, rfl⟩
  let Q2 : Exit → St → Prop := fun x st => (x = .normal ∧ ∃ g, st = A18 o vs.length c g ∧ rightB vs = true) ∨ (x = .ret ∧ ∃ g, st = R18 o (iN 1) g ∧ rightB vs = false)
  refine FRwp.seq (Q1 := Q2) ?_ ?_ ?_
  · refine FRwp.seq (Q1 := fun x st => x = .normal ∧ ∃ g, st = L18 o vs.length c 0 g) (FRwp.piece cE_ok follows 1 _ _ _ _ (r18b o vs.length c g) Met.nil s18b rfl rfl rfl (hO _) fun g => ⟨rfl, g, rfl⟩) ?_ (fun x st hne hq => absurd hq.1 hne)
    rintro st ⟨-, g, rfl⟩
    refine FRwp.block ?_
    refine FRwp.loop (fun k st => ∃ i g, i ≤ vs.length ∧ k = vs.length - i ∧ (∀ j, j < i → rightAt vs j = true) ∧ st = L18 o vs.length c i g) ?_ (k := vs.length) ⟨0, g, Nat.zero_le _, rfl, fun j hj => absurd hj (Nat.not_lt_zero _), rfl⟩
    rintro k st ⟨i, g, hi, hk, hgood, rfl⟩
    cases h8 : decide (Int.ofNat i < Int.ofNat vs.length) with
    | false =>
      refine FRwp.piece cE_ok follows 1 _ _ _ _ (r18x o vs.length c i g) (Met.cons (met_bool h8) Met.nil) s18c rfl rfl rfl (hO _) fun g' => .inr ⟨by simp, ?_⟩
      show (if (0 : Nat) = 0 then Q2 .normal _ else Q2 (.exit 0) _)
      rw [if_pos rfl]
      have hii : i = vs.length := by simp at h8; omega
      exact .inl ⟨rfl, g', rfl, rightB_of fun j hj => hgood j (by omega)⟩
    | true =>
      have hlt : i < vs.length := by simpa using h8
      obtain ⟨v, hv⟩ : ∃ v, vs[i]? = some v := ⟨_, List.getElem?_eq_getElem hlt⟩
      have hvm : v ∈ vs := List.mem_of_getElem? hv
      have hr : ∃ ty ro, o = .cells ty (vrow vs) ro := by
        rcases hrow with h | h
        · subst h; cases hvm
        · exact h
      have hmet : Met (owe18 o vs.length c i v) := Met.cons (met_bool h8) (Met.cons (LtA.vidx_ok hlt) (Met.cons (LtA.vload_ok (rowAt0 hr) hv) Met.nil))
      have hret : ∀ g', rightAt vs i = false → (Exit.ret = Exit.normal ∧ ∃ k', k' < k ∧ ∃ i g, i ≤ vs.length ∧ k' = vs.length - i ∧ (∀ j, j < i → rightAt vs j = true) ∧ R18 o (iN 1) g' = L18 o vs.length c i g) ∨ (Exit.ret ≠ Exit.normal ∧ Q2 .ret (R18 o (iN 1) g')) := fun g' h => .inr ⟨by simp, .inr ⟨rfl, g', rfl, rightB_not hlt h⟩⟩
      have hnext : rightAt vs i = true → ∀ j, j < i + 1 → rightAt vs j = true := fun h j hj => by
        rcases Nat.lt_succ_iff_lt_or_eq.1 hj with h' | h'
        · exact hgood j h'
        · subst h'; exact h
      cases h16 : oneV v with
      | false => exact FRwp.piece cE_ok follows 1 _ _ _ _ (r18f o vs.length c i v g) (met_app hmet (Met.cons (met_bool h16) Met.nil)) s18c rfl rfl rfl (hO _) fun g' => hret g' (by simp only [rightAt, hv, h16, Bool.false_and])
      | true =>
        match i, hi, hk, hgood, h8, hlt, hv, hmet, hret, hnext with
        | 0, hi, hk, hgood, h8, hlt, hv, hmet, hret, hnext =>
          refine FRwp.piece cE_ok follows 1 _ _ _ _ (r18g o vs.length c v g) (met_app hmet (Met.cons (met_bool h16) (Met.cons (wrap_max (by omega)) Met.nil))) s18c rfl rfl rfl (hO _) fun g' => .inl ⟨rfl, vs.length - 1, by omega, 1, g', by omega, rfl, hnext (by simp only [rightAt, hv, h16, Bool.true_and]), rfl⟩
        | j + 1, hi, hk, hgood, h8, hlt, hv, hmet, hret, hnext =>
          obtain ⟨u, hu⟩ : ∃ u, vs[j]? = some u := ⟨_, List.getElem?_eq_getElem (by omega)⟩
          have hpre : Met (pre18 o vs.length c j u v) := met_app hmet (Met.cons (met_bool h16) (Met.cons (met_bool (decide_eq_true (by simp only [Int.ofNat_eq_natCast]; omega))) (Met.cons (wrap_dnM (by omega)) (Met.cons (LtA.vidx_ok (by omega)) (Met.cons (vcell_ok (rowAt0 hr) hu) Met.nil)))))
          cases h30 : decide (u.id ≥ v.id) with
          | true => exact FRwp.piece cE_ok follows 1 _ _ _ _ (r18h o vs.length c j u v g) (met_app hpre (Met.cons (met_bool h30) Met.nil)) s18c rfl rfl rfl (hO _) fun g' => hret g' (by simp only [rightAt, hv, hu, h16, Bool.true_and]; have := of_decide_eq_true h30; exact decide_eq_false (by omega))
          | false =>
            refine FRwp.piece cE_ok follows 1 _ _ _ _ (r18i o vs.length c j u v g) (met_app hpre (Met.cons (met_bool h30) (Met.cons (wrap_max (by omega)) Met.nil))) s18c rfl rfl rfl (hO _) fun g' => .inl ⟨rfl, vs.length - (j + 1 + 1), by omega, j + 1 + 1, g', by omega, rfl, hnext (by simp only [rightAt, hv, hu, h16, Bool.true_and]; have := of_decide_eq_false h30; exact decide_eq_true (by omega)), rfl⟩
  · rintro st (⟨-, g, rfl, hf⟩ | ⟨h, -⟩)
    · refine FRwp.piece cE_ok follows 1 _ _ _ _ (r18d o vs.length c g) Met.nil s18d rfl rfl rfl (hO _) fun g' => ⟨.inr rfl, rfl, ?_⟩
      rw [hf]
      exact q18 o _ g'
    · cases h
  · rintro x st hne (⟨h, -⟩ | ⟨rfl, g, rfl, hf⟩)
    · exact absurd h hne
    · refine ⟨.inr rfl, rfl, ?_⟩
      rw [hf]
      exact q18 o _ g
open Classical in
noncomputable def toldQ (P : List ViewV → Prop) (A : List ViewV → Ans) : HeapFn := fun args hp => match args with
  | s :: _ => if h : ∃ vs, TN vs s hp ∧ P vs then rowG h.choose (A h.choose) args hp else none
  | _ => none
theorem toldQ_goal {P : List ViewV → Prop} {f : FuncId} {fn : Func} {code : Code} {N : Nat} {A : List ViewV → Ans} (hf : Try.prog.funcs[f]? = some fn) (hb : fn.body = some code) (hnm : (fn.name == "runtime.NumGoroutine") = false) (hN : fn.ntmps = N)
    (H : ∀ vs, P vs → ∀ rest v0 O, A vs rest = some (v0, O) → RowRun fn code N vs rest v0 O) : CallGoal Try.prog f (toldQ P A) := by
  intro args hp v hp' he hk
  unfold toldQ at he
  split at he
  case h_2 => cases he
  split at he
  · rename_i hx
    exact row_told hf hb hnm hN (H _ hx.choose_spec.2) _ _ _ _ he hk
  · cases he
def ckR (vs : List ViewV) : Ans := fun rest => match rest with
  | [] => some (errI (rightB vs), [])
  | _ => none
def Long (vs : List ViewV) : Prop := vs.length ≤ 9223372036854775807
noncomputable def G18M : HeapFn := toldQ Long ckR
theorem hkG18M : CallGoal Try.prog 24 G18M := toldQ_goal Try.func24 body18 (by kernel_rfl) ntmps18 fun vs hn rest v0 O h => by
  unfold ckR at h
  split at h
  case h_2 => cases h
  cases h
  refine ⟨.inl rfl, (errI_ok _).1, (fun r hr => by cases hr), by simp, fun f o c W ho hrow hfl => ?_⟩
  cases f with
  | true => exact FRwp.mono (check_frM o ho vs hn hrow c W) fun e st q => ⟨q.1, q.2.1, q.2.2, (fun B hB => by cases hB)⟩
  | false =>
    obtain ⟨rfl, rfl⟩ := hfl rfl
    exact FRwp.mono (check_nil W) fun e st q => ⟨q.1, q.2.1, q.2.2, (fun B hB => by cases hB)⟩
section
variable (o : Blk) (n c : Nat) (y : ViewV)
end
end Go.Proofs.Ytgeoommlmddgpaa.LtL
