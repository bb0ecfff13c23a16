/- Soundness, 7: append, copy, clear; maps; all operations that write. -/
import Derived.Test.YtjecepaaalfilaaAi10
set_option linter.unusedVariables false
set_option linter.unusedSimpArgs false
namespace Go.Proofs.Ytjecepaaalfilaa.AI
open Go

/-- The heap behind effects. -/
def effG (h : HG) (sz : Nat) : List Eff → HG
  | [] => h
  | .put b o :: es => effG (updH h b o) sz es
  | .push o :: es => effG (updH h sz o) (sz + 1) es

section
variable {P : Program} {w : World} {m : BM} {h : HG}

/-- What an operation that writes comes to. -/
def Writes (P : Program) (m : BM) (h : HG) (w : World) (sz : Nat) (es : List Eff) (v : Value) (r : Result Value) : Prop :=
  ∃ v' w' m', r = .ok v' w' ∧ Go1 m h w m' (effG h sz es) w' ∧ VRel m' (effG h sz es) v v'

theorem run_zeroW {t : TypeId} {z : List Value} (hz : tzero P t = some z) : ∃ v, (∀ w, (zeroValue t).run P w = .ok v w) ∧ cellsL v = z ∧ z.all AI.flat = true := by
  unfold tzero at hz
  cases hi : P.info? t with
  | none => simp [hi] at hz
  | some i =>
    simp only [hi, Option.bind_some] at hz
    cases hv : i.zero with
    | none => simp [hv] at hz
    | some v =>
      simp only [hv] at hz
      split at hz
      · rename_i ha; cases hz
        exact ⟨v, fun w => by simp [zeroValue, run_info hi, hv], rfl, ha⟩
      · cases hz

theorem aSrc_sound (s : Sim m h w) {elem : TypeId} {size n : Nat} {zero : List Value} {zv : Value} {xd : TypeDesc} {x x' : Value} {ns : List Value} (he : aSrc P h size zero xd x = some (ns, n)) (rx : VRel m h x x')
    (hz : ∀ w, (zeroValue elem).run P w = .ok zv w) (hzc : cellsL zv = zero) (hzf : zero.all AI.flat = true) (hzs : zero.length = size) (h0 : 0 < size) :
    ∃ c, AppSrc P w elem size xd x' n c ∧ VRelL m h ns c.toList := by
  unfold aSrc at he
  split at he
  · rename_i k
    split at he
    · rename_i kk q
      obtain rfl := rx.of_int
      split at he
      · rename_i hq
        cases he
        have hzz : zv.cells.size = size := by
          have : zv.cells.toList.length = size := by rw [cells_toList, hzc]; exact hzs
          simpa using this
        refine ⟨if q.toNat * size = 0 then #[] else Builtin.zeroCells zv.cells q.toNat, ⟨fun hk => absurd rfl (hk k), fun k' _ => ⟨kk, q, zv, rfl, hq.1, hq.2, rfl, h0, hz, rfl⟩⟩, ?_⟩
        have e : (if q.toNat * size = 0 then #[] else Builtin.zeroCells zv.cells q.toNat : Array Value).toList = repL zero q.toNat := by
          by_cases h00 : q.toNat * size = 0
          · have : q.toNat = 0 := by
              rcases Nat.mul_eq_zero.1 h00 with h1 | h1
              · exact h1
              · omega
            simp [this, repL]
          · rw [if_neg h00, zeroCells_eq _ _ (by omega), cells_toList, hzc]
        rw [e]
        exact VRelL.flats (repL_flat hzf _)
      · cases he
    · cases he
  · rename_i hk
    split at he
    · cases he
    · rename_i m' hm
      obtain ⟨ns', hns, e⟩ := Option.map_eq_some_iff.1 he
      cases e
      obtain ⟨c, h1, h2⟩ := srcCells_sound (P := P) s hns rx
      exact ⟨c, ⟨fun _ => ⟨srcLen_sound hm rx, h1⟩, fun k e => absurd e (hk k)⟩, h2⟩

/-- A slice's own cells. -/
theorem own_cells (s : Sim m h w) {b off r off' len cap size δ E : Nat} {ty : TypeId} {cs old : List Value} {ro : Bool} (hb : h b = some (.cells ty cs ro)) (hm : m b = some (r, δ, E)) (ho : getR cs off (len * size) = some old) (h2 : off' = δ + off ∨ cap = 0) (hlc : len ≤ cap) :
    ∃ cc : Array Value, (∀ w', w'.heap = w.heap → (Builtin.firstCells size len (.slice (some ⟨r, off', none⟩) len cap)).run P w' = .ok cc w') ∧ VRelL m h old cc.toList := by
  obtain ⟨c, fr, g1, g2, g3, g4, _⟩ := Sim.row (s := s) hb hm
  dsimp only at g1 g2 g3 g4
  obtain ⟨h5, h6, h7⟩ := range_rel ho (by omega) g4
  by_cases h0 : len * size = 0
  · refine ⟨#[], fun w' _ => ?_, ?_⟩
    · simp [Builtin.firstCells, loadCells, loadCellsFrom, h0]
    · have : old = [] := by apply List.eq_nil_of_length_eq_zero; omega
      rw [this]; exact .nil
  · have hl : 0 < len := by
      rcases Nat.eq_zero_or_pos len with h | h
      · subst h; simp at h0
      · exact h
    refine ⟨c.extract (δ + off) (δ + off + len * size), fun w' e => ?_, by rw [ext_toList]; exact h5⟩
    simp only [Builtin.firstCells]
    rcases h2 with rfl | h2
    · exact run_loadCells (by rw [e]; exact g1) (by rcases h6 with h6 | h6; exact .inl h6; exact .inr (by omega))
    · omega

/-- A new row behind a draw. -/
theorem grown_go (s : Sim m h w) {sz : Nat} (hs : h sz = none) {ty : TypeId} {cs : List Value} {c : Array Value} (hc : VRelL m h cs (c.toList.take cs.length)) (hl : cs.length ≤ c.size) :
    Go1 m h w (updM m sz (w.heap.size, 0, c.size)) (updH h sz (.cells ty cs false)) (w.drew.alloc (.cells c ty)) := by
  have s' : Sim m h w.drew := s.heap rfl
  have := push_go (o := .cells ty cs false) (obj := .cells c ty) (E := c.size) s' hs (cells_new (fr := (0, 0)) hc hl (fun j _ => by simp))
  exact this.heap rfl rfl rfl rfl

/-- A row that is never looked at again. -/
theorem kill_go (s : Sim m h w) {b : Nat} {o : Blk} {x : Nat × Nat × Nat} (hb : h b = some o) (hm : m b = some x) : Go1 m h w m (updH h b .dead) w := by
  have hl : Le m h m (updH h b .dead) := by
    refine ⟨fun c hc => ?_, fun c y hy => .inr hy⟩
    by_cases e : c = b
    · subst e; exact updH_self
    · rw [updH_ne e]; exact hc
  have hlive : ∀ c, live? (updH h b .dead) c = true → c ≠ b ∧ live? h c = true := by
    intro c hc
    by_cases e : c = b
    · subst e; simp [live?, updH_self] at hc
    · exact ⟨e, by unfold live? at hc ⊢; rwa [updH_ne e] at hc⟩
  have hrw : ∀ c, rw? (updH h b .dead) c = true → rw? h c = true := by
    intro c hc
    have := (hlive c (live_of_rw hc)).1
    unfold rw? at hc ⊢; rwa [updH_ne this] at hc
  refine ⟨hl, ⟨?_, ?_⟩, Nat.le_refl _, fun _ _ hx => .inl hx, fun _ _ _ => rfl, fun _ _ _ hm => hm, fun c oc hc hcm => by
    have e : c ≠ b := by intro e; subst e; rw [hm] at hcm; cases hcm
    rw [updH_ne e]; exact hc, ?_, fun c y _ hc => hrw c hc, rfl, rfl, rfl⟩
  · intro c y hy
    by_cases e : c = b
    · subst e; exact ⟨.dead, updH_self, trivial⟩
    · obtain ⟨oc, hoc, hrc⟩ := s.dom c y hy
      exact ⟨oc, by rw [updH_ne e]; exact hoc, hrc.mono hl rfl⟩
  · intro c c' y y' hy hy' hrc hlc e
    exact s.inj c c' y y' hy hy' (hrw c hrc) (hlive c' hlc).2 e
  · intro c oc hoc
    by_cases e : c = b
    · subst e; exact ⟨.dead, updH_self⟩
    · exact ⟨oc, by rw [updH_ne e]; exact hoc⟩

/-- A row that goes on in its own room, under another number. -/
theorem take_go (s : Sim m h w) {b sz r δ E δ' : Nat} {o o' : Blk} {obj : Obj} (hb : h b = some o) (hr : rw? h b = true) (hm : m b = some (r, δ, E)) (hs : h sz = none)
    (hw : ∀ m' h', Le m h m' h' → BRel m' h' (wput w r obj) (r, δ', E) o') : Go1 m h w (updM m sz (r, δ', E)) (updH (updH h b .dead) sz o') (wput w r obj) := by
  have hms : m sz = none := by
    cases e : m sz with
    | none => rfl
    | some x => obtain ⟨o, ho, _⟩ := s.dom _ _ e; rw [hs] at ho; cases ho
  have hbs : b ≠ sz := by intro e; subst e; rw [hb] at hs; cases hs
  have k := kill_go s hb hm
  have hs2 : (updH h b .dead) sz = none := by rw [updH_ne (Ne.symm hbs)]; exact hs
  have l : Le m h (updM m sz (r, δ', E)) (updH (updH h b .dead) sz o') := k.le.trans (Le.push hs2 hms)
  have hget : ∀ c, c ≠ sz → c ≠ b → (updH (updH h b .dead) sz o') c = h c := fun c e1 e2 => by rw [updH_ne e1, updH_ne e2]
  have hdead : (updH (updH h b .dead) sz o') b = some .dead := by rw [updH_ne hbs]; exact updH_self
  have hlive : ∀ c, c ≠ sz → live? (updH (updH h b .dead) sz o') c = true → c ≠ b ∧ live? h c = true := by
    intro c e hc
    by_cases e2 : c = b
    · subst e2; simp [live?, hdead] at hc
    · exact ⟨e2, by unfold live? at hc ⊢; rwa [hget c e e2] at hc⟩
  have hrwv : ∀ c, c ≠ sz → rw? (updH (updH h b .dead) sz o') c = true → rw? h c = true := by
    intro c e hc
    have e2 := (hlive c e (live_of_rw hc)).1
    unfold rw? at hc ⊢; rwa [hget c e e2] at hc
  have hmn : ∀ c y, c ≠ sz → updM m sz (r, δ', E) c = some y → m c = some y := fun c y e hy => by simpa [updM, e] using hy
  refine ⟨l, ⟨?_, ?_⟩, by rw [wput_size]; exact Nat.le_refl _, ?_, ?_, ?_, fun c oc hc hcm => by
    have e : c ≠ sz := by intro e; subst e; rw [hc] at hs; cases hs
    have e2 : c ≠ b := by intro e; subst e; rw [hm] at hcm; cases hcm
    rw [hget c e e2]; exact hc, ?_, ?_, rfl, rfl, rfl⟩
  · intro c y hy
    by_cases e : c = sz
    · subst e; simp [updM] at hy; subst hy
      exact ⟨o', updH_self, hw _ _ l⟩
    · have hy' := hmn c y e hy
      by_cases e2 : c = b
      · subst e2; exact ⟨.dead, hdead, trivial⟩
      · obtain ⟨oc, hoc, hrc⟩ := s.dom c y hy'
        refine ⟨oc, by rw [hget c e e2]; exact hoc, ?_⟩
        by_cases hd : oc = .dead
        · subst hd; trivial
        · refine hrc.mono l (wput_ne ?_)
          intro exx
          refine e2 (s.inj b c (r, δ, E) y hm hy' hr ?_ exx.symm).symm
          unfold live?; rw [hoc]; cases oc <;> simp_all
  · intro c c' y y' hy hy' hrc hlc e
    by_cases e1 : c = sz <;> by_cases e2 : c' = sz
    · rw [e1, e2]
    · subst e1; simp [updM] at hy; subst hy
      have hy2 := hmn c' y' e2 hy'
      obtain ⟨e3, hl3⟩ := hlive c' e2 hlc
      exact absurd (s.inj b c' (r, δ, E) y' hm hy2 hr hl3 e).symm e3
    · subst e2; simp [updM] at hy'; subst hy'
      have hy2 := hmn c y e1 hy
      obtain ⟨e3, hl3⟩ := hlive c e1 (live_of_rw hrc)
      exact absurd (s.inj b c (r, δ, E) y hm hy2 hr hl3 e.symm).symm e3
    · exact s.inj c c' y y' (hmn c y e1 hy) (hmn c' y' e2 hy') (hrwv c e1 hrc) (hlive c' e2 hlc).2 e
  · intro c y hy
    by_cases e : c = sz
    · subst e; simp [updM] at hy; subst hy
      exact .inr (.inr ⟨b, (r, δ, E), hm, hr, rfl⟩)
    · exact .inl (hmn c y e hy)
  · intro q hq hh
    exact wput_ne (Ne.symm (hh b _ hm hr))
  · intro c oc hoc hmc
    have e : c ≠ sz := by intro e; subst e; rw [hoc] at hs; cases hs
    unfold updM; rw [if_neg e]; exact hmc
  · intro c oc hoc
    have e : c ≠ sz := by intro e; subst e; rw [hoc] at hs; cases hs
    by_cases e2 : c = b
    · subst e2; exact ⟨.dead, hdead⟩
    · exact ⟨oc, by rw [hget c e e2]; exact hoc⟩
  · intro c y hy hc
    have e : c ≠ sz := by intro e; subst e; rw [hms] at hy; cases hy
    exact hrwv c e hc

theorem aAppend_sound (s : Sim m h w) {sz : Nat} {ts : Array TypeId} {ty : TypeId} {xs : List Value} {xs' : Array Value} {v : Value} {es : List Eff} (hsz : (∃ o, Eff.push o ∈ es) → h sz = none) (he : aAppend P h sz ts.toList xs = some (v, es)) (rs : VRelL m h xs xs'.toList) :
    Writes P m h w sz es v ((Builtin.append_ ts ty xs').run P w) := by
  unfold aAppend at he
  split at he
  · rename_i st xt tr sv x xr hts
    obtain ⟨s', xr', e1, rsv, rs'⟩ := rs.of_cons
    obtain ⟨x', xr'', e2, rx, rs''⟩ := rs'.of_cons
    subst e2
    have h0 : ts[0]? = some st := by
      have : ts.toList[0]? = some st := by rw [hts]; rfl
      simpa using this
    have h1 : ts[1]? = some xt := by
      have : ts.toList[1]? = some xt := by rw [hts]; rfl
      simpa using this
    have a0 : xs'[0]? = some s' := by
      have : xs'.toList[0]? = some s' := by rw [e1]; rfl
      simpa using this
    have a1 : xs'[1]? = some x' := by
      have : xs'.toList[1]? = some x' := by rw [e1]; rfl
      simpa using this
    split at he
    · rename_i elem xd hs hx
      split at he
      · cases he
      · rename_i i hi
        split at he
        · cases he
        · rename_i zero hz
          split at he
          · cases he
          · rename_i hc
            simp only [not_or, Decidable.not_not, Nat.not_lt] at hc
            obtain ⟨hne, hzl, hc2⟩ := hc
            have hpos : 0 < i.size := Nat.pos_of_ne_zero hne
            obtain ⟨zv, hzv, hzc, hzf⟩ := run_zeroW hz
            have hzcl : ∀ k, (Builtin.zeroCells zv.cells k).toList = repL zero k := by
              intro k
              rw [zeroCells_eq _ _ (by have : zv.cells.toList.length = i.size := by rw [cells_toList, hzc]; exact hzl
                                       simp at this; omega), cells_toList, hzc]
            split at he
            · cases he
            · rename_i ns mm hsrc
              obtain ⟨c, happ, hcr⟩ := aSrc_sound s hsrc rx hzv hzc hzf hzl hpos
              split at he
              · cases he
              · rename_i hns
                simp only [not_or, Bool.not_eq_false, Decidable.not_not] at hns
                obtain ⟨hns1, hnsl⟩ := hns
                have hcl : c.toList.length = mm * i.size := by rw [← hcr.1, hnsl]
                have same : ∀ (base : Option Addr) (len cap : Nat), s' = .slice base len cap → VRel m h sv s' → mm = 0 → len ≤ cap → Writes P m h w sz [] sv ((Builtin.append_ ts ty xs').run P w) := by
                  intro base len cap e rv h00 hlc
                  subst h00
                  have hc0 : c.toList = [] := by apply List.eq_nil_of_length_eq_zero; omega
                  refine ⟨s', w, m, ?_, Go1.refl s, rv⟩
                  rw [append_room (i := i) (c := c) (n := 0) (sLen := len) (sCap := cap) (base := base) h0 h1 (by rw [a0, e]) a1 hs hx hi hc2 happ (by omega) (w' := w) (by rw [hc0]; cases base <;> rfl), e]
                  rfl
                split at he
                · obtain rfl := rsv.of_flat rfl
                  split at he
                  · rename_i h00
                    cases he
                    exact same none 0 0 rfl rsv h00 (Nat.le_refl _)
                  · rename_i h00
                    split at he
                    · cases he
                    · rename_i hmx
                      cases he
                      have hsz := hsz (by simp)
                      obtain ⟨nc, hnc, hrun⟩ := append_grow (P := P) (w := w) (ty := ty) (sLen := 0) (sCap := 0) (base := none) (n := mm) (c := c) (old := #[]) h0 h1 a0 a1 hs hx hi hc2 happ (by omega) (by omega) (fun _ _ => rfl) hzv
                      have hl2 : ns.length ≤ (#[] ++ c ++ Builtin.zeroCells zv.cells (nc - (0 + mm))).size := by
                        have := hcr.1; simp at this; simp; omega
                      have hg := grown_go (ty := elem) (cs := ns) (c := #[] ++ c ++ Builtin.zeroCells zv.cells (nc - (0 + mm))) s hsz (by
                        have : (#[] ++ c ++ Builtin.zeroCells zv.cells (nc - (0 + mm))).toList.take ns.length = c.toList := by
                          rw [hcr.1]; simp
                        rw [this]; exact hcr) hl2
                      refine ⟨_, _, _, hrun, hg, ?_⟩
                      rw [Nat.zero_add] at hnc ⊢
                      refine .slice hnc (.inr ⟨0, _, updM_self, .inl rfl, fun hh => by omega, fun _ => ?_⟩)
                      rw [show (3 * i.size + 1) / 3 = i.size from by omega]
                      have hz2 : (Builtin.zeroCells zv.cells (nc - mm)).size = (nc - mm) * i.size := by
                        have := congrArg List.length (hzcl (nc - mm))
                        rw [repL_length, hzl] at this
                        simpa using this
                      have hcs : c.size = mm * i.size := by simpa using hcl
                      simp [hz2, hcs]
                      rw [← Nat.add_mul]; congr 1; omega
                · rename_i a len cf
                  obtain ⟨b, off, r, off', cap, rfl, e3, hlc, hh⟩ := rsv.of_slice
                  split at he
                  · rename_i h00
                    cases he
                    exact same _ len cap e3 rsv h00 hlc
                  · rename_i h00
                    split at he
                    · cases he
                    · rename_i hmx
                      split at he
                      · rename_i ty' cs ro hb
                        dsimp only at hb he
                        split at he
                        · cases he
                        · rename_i old hold
                          rcases hh with hh | ⟨δ, E, hm, h2, h3, h4⟩
                          · rw [hb] at hh; cases hh
                          · subst e3
                            obtain ⟨cc, hcc, hco⟩ := own_cells (P := P) s hb hm hold h2 hlc
                            have holdl : old.length = len * i.size := by
                              unfold getR at hold
                              split at hold
                              · rename_i hq; cases hold; exact hq
                              · cases hold
                            have hz2 : ∀ k, (Builtin.zeroCells zv.cells k).size = k * i.size := by
                              intro k
                              have := congrArg List.length (hzcl k)
                              rw [repL_length, hzl] at this
                              simpa using this
                            have hcs : c.size = mm * i.size := by simpa using hcl
                            have hccs : cc.size = len * i.size := by
                              have := hco.1; simp at this; omega
                            have big : ∀ nc, len + mm ≤ nc → VRelL m h (old ++ ns) ((cc ++ c ++ Builtin.zeroCells zv.cells (nc - (len + mm))).toList.take (old ++ ns).length) ∧
                                (old ++ ns).length ≤ (cc ++ c ++ Builtin.zeroCells zv.cells (nc - (len + mm))).size ∧ (cc ++ c ++ Builtin.zeroCells zv.cells (nc - (len + mm))).size = nc * i.size := by
                              intro nc hnc
                              have e5 : (old ++ ns).length = (cc.toList ++ c.toList).length := by simp; omega
                              refine ⟨?_, ?_, ?_⟩
                              · rw [e5, Array.toList_append, Array.toList_append, List.take_left]
                                exact hco.append hcr
                              · simp; omega
                              · simp [hz2, hcs, hccs]
                                rw [← Nat.add_mul, ← Nat.add_mul]; congr 1; omega
                            split at he
                            · rename_i hcl3
                              cases he
                              have hsz := hsz (by simp)
                              have hce : cap = len := h3 (by omega)
                              obtain ⟨nc, hnc, hrun⟩ := append_grow (P := P) (w := w) (ty := ty) (n := mm) (c := c) (old := cc) h0 h1 a0 a1 hs hx hi hc2 happ (by omega) (by omega) hcc hzv
                              obtain ⟨b1, b2, b3⟩ := big nc hnc
                              refine ⟨_, _, _, hrun, grown_go (ty := elem) s hsz b1 b2, ?_⟩
                              refine .slice hnc (.inr ⟨0, _, updM_self, .inl rfl, fun hh => by omega, fun _ => ?_⟩)
                              rw [show (3 * i.size + 1) / 3 = i.size from by omega, b3]
                              omega
                            · split at he
                              · rename_i hop
                                obtain ⟨hop1, hop2, hop3⟩ := hop
                                subst hop2
                                subst hop3
                                have hE : δ + off + cap * i.size = E := by
                                  have := h4 (by omega)
                                  rwa [show cf / 3 = i.size from by omega] at this
                                obtain ⟨carr, fr, g1, g2, g3, g4, g5⟩ := Sim.row (s := s) hb hm
                                dsimp only at g1 g2 g3 g4 g5
                                have hmul : (len + mm) * i.size = len * i.size + mm * i.size := Nat.add_mul _ _ _
                                have hmm0 : 0 < mm * i.size := Nat.mul_pos (Nat.pos_of_ne_zero h00) hpos
                                split at he
                                · rename_i hfit
                                  cases he
                                  have hcap : len + mm ≤ cap := by
                                    have h6 : (len + mm) * i.size ≤ cap * i.size := by omega
                                    exact Nat.le_of_mul_le_mul_right h6 hpos
                                  have hoff : off' = δ + off := by
                                    rcases h2 with h2 | h2
                                    · exact h2
                                    · omega
                                  subst hoff
                                  obtain ⟨w', hst, hgo⟩ := put_cells (P := P) (off := off + len * i.size) s hb hm hcr hns1 (by omega)
                                  refine ⟨.slice (some ⟨r, δ + off, none⟩) (len + mm) cap, w', m, ?_, hgo, ?_⟩
                                  · refine append_room (i := i) (c := c) (n := mm) h0 h1 a0 a1 hs hx hi hc2 happ hcap ?_
                                    simp only [addr_add]
                                    rw [show δ + off + len * i.size = δ + (off + len * i.size) from by omega]
                                    exact hst
                                  · exact .slice hcap (.inr ⟨δ, E, hm, .inl rfl, fun hq => by omega, fun _ => by rw [show cf / 3 = i.size from by omega]; exact hE⟩)
                                · rename_i hfit
                                  cases he
                                  have hsz := hsz (by simp)
                                  have hbs : b ≠ sz := by intro e; subst e; rw [hb] at hsz; cases hsz
                                  by_cases hcap : len + mm ≤ cap
                                  · have hoff : off' = δ + off := by
                                      rcases h2 with h2 | h2
                                      · exact h2
                                      · omega
                                    subst hoff
                                    have hroomE : (len + mm) * i.size ≤ cap * i.size := Nat.mul_le_mul_right _ hcap
                                    have hone := ones_rel hcr hns1
                                    have hst := run_storeCells (P := P) (r := r) (off := δ + off + len * i.size) (ty := ty') (fr := fr) c.toList 0 carr w g1 (g5.1 rfl) (by omega) hone
                                    refine ⟨.slice (some ⟨r, δ + off, none⟩) (len + mm) cap, _, updM m sz (r, δ + off, E), append_room (i := i) (c := c) (n := mm) h0 h1 a0 a1 hs hx hi hc2 happ hcap (by simp only [addr_add]; exact hst), ?_, ?_⟩
                                    · refine take_go (δ' := δ + off) s hb (by simp [rw?, hb]) hm hsz ?_
                                      intro m' h' l
                                      refine ⟨_, fr, wput_at g1, by simp; omega, by simp [putL_length]; omega, ?_, fun _ j hj => g5.1 rfl j (by simpa [putL_length] using hj), fun h => by cases h⟩
                                      intro j v v' q1 q2
                                      have q2' : (putL carr.toList (δ + off + len * i.size + 0) c.toList)[δ + off + j]? = some v' := by simpa using q2
                                      rw [putL_get] at q2'
                                      by_cases hj : j < old.length
                                      · rw [List.getElem?_append_left hj] at q1
                                        rw [if_neg (by omega)] at q2'
                                        have hold' := hold
                                        unfold getR at hold'
                                        split at hold'
                                        · cases hold'
                                          rw [List.getElem?_take, if_pos (by omega), List.getElem?_drop] at q1
                                          exact (g4 (off + j) v v' q1 (by rw [show δ + (off + j) = δ + off + j from by omega]; simpa using q2')).mono l
                                        · cases hold'
                                      · have hj2 : j < (old ++ ns).length := (List.getElem?_eq_some_iff.1 q1).1
                                        have hj3 : j < old.length + ns.length := by simpa using hj2
                                        rw [List.getElem?_append_right (by omega)] at q1
                                        rw [if_pos (by simp; omega)] at q2'
                                        rw [show δ + off + j - (δ + off + len * i.size + 0) = j - old.length from by omega] at q2'
                                        exact (hcr.2 _ _ _ q1 q2').mono l
                                    · refine .slice hcap (.inr ⟨δ + off, E, updM_self, .inl rfl, fun hq => by omega, fun _ => ?_⟩)
                                      rw [show (3 * i.size + 1) / 3 = i.size from by omega]
                                      omega
                                  · obtain ⟨nc, hnc, hrun⟩ := append_grow (P := P) (w := w) (ty := ty) (n := mm) (c := c) (old := cc) h0 h1 a0 a1 hs hx hi hc2 happ (by omega) (by omega) hcc hzv
                                    obtain ⟨b1, b2, b3⟩ := big nc hnc
                                    have k := kill_go s hb hm
                                    refine ⟨_, _, _, hrun, k.trans (grown_go (ty := ty') k.sim (by rw [updH_ne (Ne.symm hbs)]; exact hsz) (b1.mono k.le) b2), ?_⟩
                                    refine .slice hnc (.inr ⟨0, _, updM_self, .inl rfl, fun hh => by omega, fun _ => ?_⟩)
                                    rw [show (3 * i.size + 1) / 3 = i.size from by omega, b3]
                                    omega
                              · cases he
                      · cases he
                · cases he
    · cases he
  · cases he
end
end Go.Proofs.Ytjecepaaalfilaa.AI
