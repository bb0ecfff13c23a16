/- Soundness, 6: operations that write memory. -/
import Derived.Test.YtjecepaaalfilaaAi9
set_option linter.unusedVariables false
set_option linter.unusedSimpArgs false
namespace Go.Proofs.Ytjecepaaalfilaa.AI
open Go

/-! ### 1. A block put anew -/
def wput (w : World) (r : Nat) (o : Obj) : World := { w with heap := w.heap.setIfInBounds r o }
theorem wput_at {w : World} {r : Nat} {o o' : Obj} (h : w.heap[r]? = some o') : (wput w r o).heap[r]? = some o := by
  have hr : r < w.heap.size := (Array.getElem?_eq_some_iff.1 h).1
  show (w.heap.setIfInBounds r o)[r]? = _
  simp [hr]
theorem wput_ne {w : World} {r k : Nat} {o : Obj} (h : k ≠ r) : (wput w r o).heap[k]? = w.heap[k]? := by
  show (w.heap.setIfInBounds r o)[k]? = _
  rw [Array.getElem?_setIfInBounds_ne (Ne.symm h)]
theorem wput_size {w : World} {r : Nat} {o : Obj} : (wput w r o).heap.size = w.heap.size := by
  show (w.heap.setIfInBounds r o).size = _
  simp
theorem wput_same {w : World} {r : Nat} {o : Obj} (h : w.heap[r]? = some o) : wput w r o = w := by
  have : w.heap.setIfInBounds r o = w.heap := by
    apply Array.ext'
    apply List.ext_getElem?
    intro i
    simp only [Array.toList_setIfInBounds]
    by_cases e : i = r
    · subst e
      have hr : i < w.heap.size := (Array.getElem?_eq_some_iff.1 h).1
      rw [List.getElem?_set_self (by simpa using hr)]
      simpa using h.symm
    · rw [List.getElem?_set_ne (Ne.symm e)]
  unfold wput
  rw [this]
theorem wput_wput {w : World} {r : Nat} {o o' : Obj} : wput (wput w r o) r o' = wput w r o' := by
  unfold wput
  simp
theorem setCell_wput {w : World} {r off : Nat} {c : Array Value} {ty : TypeId} {fr : Nat × Nat} {v : Value} (h : w.heap[r]? = some (.cells c ty fr)) :
    w.setCell ⟨r, off, none⟩ v = wput w r (.cells (c.setIfInBounds off v) ty fr) := by
  unfold World.setCell wput
  congr 1
  apply Array.ext'
  apply List.ext_getElem?
  intro i
  simp only [Array.toList_modify, Array.toList_setIfInBounds, List.getElem?_modify]
  have hr : r < w.heap.size := (Array.getElem?_eq_some_iff.1 h).1
  by_cases e : r = i
  · subst e
    rw [List.getElem?_set_self (by simpa using hr)]
    have h' : w.heap.toList[r]? = some (.cells c ty fr) := by simpa using h
    simp [h']
  · rw [List.getElem?_set_ne e]
    simp [e]

section
variable {P : Program} {w : World} {m : BM} {h : HG}

theorem run_store1 {r off : Nat} {c : Array Value} {ty : TypeId} {fr : Nat × Nat} {v : Value} {md : Mode} (hc : w.heap[r]? = some (.cells c ty fr)) (ho : off < c.size) (hf : ¬ (fr.1 ≤ off ∧ off < fr.2)) (h1 : v.oneCell' = true) :
    (store ⟨r, off, none⟩ v md).run P w = .ok () (wput w r (.cells (c.setIfInBounds off v) ty fr)) := by
  rw [run_store P w _ v md h1, cell_of hc, Array.getElem?_eq_getElem ho]
  simp only [frozen_of hc hf, Bool.false_eq_true, if_false]
  rw [setCell_wput hc]
theorem run_storeCells {r off : Nat} {ty : TypeId} {fr : Nat × Nat} : ∀ (vs : List Value) (i : Nat) (c : Array Value) (w : World), w.heap[r]? = some (.cells c ty fr) → (∀ j, j < c.size → ¬ (fr.1 ≤ j ∧ j < fr.2)) →
    off + i + vs.length ≤ c.size → (∀ v ∈ vs, v.oneCell' = true) → (storeCells ⟨r, off, none⟩ vs i).run P w = .ok () (wput w r (.cells (putL c.toList (off + i) vs).toArray ty fr))
  | [], i, c, w, hc, hf, hb, h1 => by
    simp only [storeCells, Sem.run_pure, putL_nil]
    rw [show c.toList.toArray = c from by simp, wput_same hc]
  | v :: vs, i, c, w, hc, hf, hb, h1 => by
    have hlen : (v :: vs).length = vs.length + 1 := rfl
    simp only [storeCells, addr_add, Sem.run_bind]
    rw [run_store1 hc (by omega) (hf _ (by omega)) (h1 v (.head _)), Result.andThen_ok]
    rw [run_storeCells vs (i + 1) (c.setIfInBounds (off + i) v) _ (wput_at hc) (by simpa using hf) (by simp; omega) (fun u hu => h1 u (.tail _ hu)), wput_wput, putL_cons]
    simp [Nat.add_assoc]

theorem updH_self {b : Nat} {o : Blk} : updH h b o b = some o := by simp [updH]
theorem updH_ne {b b' : Nat} {o : Blk} (e : b' ≠ b) : updH h b o b' = h b' := by simp [updH, e]

/-- A row that may be written is written. -/
theorem put_go (s : Sim m h w) {b : Nat} {x : Nat × Nat × Nat} {o o' : Blk} {obj : Obj} (hb : h b = some o) (hm : m b = some x) (hr : rw? h b = true) (hr' : rw? (updH h b o') b = true)
    (hw : BRel m (updH h b o') (wput w x.1 obj) x o') : Go1 m h w m (updH h b o') (wput w x.1 obj) := by
  have hl : Le m h m (updH h b o') := by
    refine ⟨fun c hc => ?_, fun c y hy => .inr hy⟩
    by_cases e : c = b
    · subst e; unfold rw? at hr; rw [hc] at hr; simp at hr
    · rw [updH_ne e]; exact hc
  refine ⟨hl, ⟨?_, ?_⟩, by rw [wput_size]; exact Nat.le_refl _, fun _ _ hx => .inl hx, ?_, fun _ _ _ hm => hm, fun c oc hc hcm => by
    have e : c ≠ b := by intro e; subst e; rw [hm] at hcm; cases hcm
    rw [updH_ne e]; exact hc, ?_, ?_, rfl, rfl, rfl⟩
  · intro c y hy
    by_cases e : c = b
    · subst e; rw [hm] at hy; cases hy
      exact ⟨o', updH_self, hw⟩
    · obtain ⟨oc, hoc, hrc⟩ := s.dom c y hy
      refine ⟨oc, by rw [updH_ne e]; exact hoc, ?_⟩
      by_cases hd : oc = .dead
      · subst hd; trivial
      · refine hrc.mono hl (wput_ne ?_)
        intro exx
        refine e (s.inj b c x y hm hy hr ?_ exx.symm).symm
        unfold live?; rw [hoc]; cases oc <;> simp_all
  · intro c c' y y' hy hy' hrc hlc e
    have hrc' : rw? h c = true := by
      by_cases ec : c = b
      · subst ec; exact hr
      · unfold rw? at hrc ⊢; rwa [updH_ne ec] at hrc
    have hlc' : live? h c' = true := by
      by_cases ec : c' = b
      · subst ec; exact live_of_rw hr
      · unfold live? at hlc ⊢; rwa [updH_ne ec] at hlc
    exact s.inj c c' y y' hy hy' hrc' hlc' e
  · intro r hrr hh
    exact wput_ne (Ne.symm (hh b x hm hr))
  · intro c oc hoc
    by_cases e : c = b
    · subst e; exact ⟨o', updH_self⟩
    · exact ⟨oc, by rw [updH_ne e]; exact hoc⟩
  · intro c y hy hrc
    by_cases e : c = b
    · subst e; exact hr
    · unfold rw? at hrc ⊢; rwa [updH_ne e] at hrc

theorem le_put {b : Nat} {o o' : Blk} (hb : h b = some o) (hd : o ≠ .dead) : Le m h m (updH h b o') := by
  refine ⟨fun c hc => ?_, fun c y hy => .inr hy⟩
  by_cases e : c = b
  · subst e; rw [hb] at hc; cases hc; exact absurd rfl hd
  · rw [updH_ne e]; exact hc

/-- The cells of a row that is written in one stretch. -/
theorem put_cells (s : Sim m h w) {b off : Nat} {ty : TypeId} {cs ns : List Value} {us : List Value} {x : Nat × Nat × Nat} (hb : h b = some (.cells ty cs false)) (hm : m b = some x)
    (hn : VRelL m h ns us) (ho : ns.all isOne = true) (hl : off + ns.length ≤ cs.length) :
    ∃ w', (storeCells ⟨x.1, x.2.1 + off, none⟩ us).run P w = .ok () w' ∧ Go1 m h w m (updH h b (.cells ty (putL cs off ns) false)) w' := by
  obtain ⟨c, fr, h1, h2, h3, h4, h5⟩ := Sim.row (s := s) hb hm
  have hone : ∀ v ∈ us, v.oneCell' = true := by
    intro v hv
    obtain ⟨i, hi, rfl⟩ := List.getElem_of_mem hv
    have hi' : i < ns.length := by rw [hn.1]; exact hi
    have := hn.2 i ns[i] us[i] (List.getElem?_eq_getElem hi') (List.getElem?_eq_getElem hi)
    exact this.isOne (List.all_eq_true.1 ho _ (List.getElem_mem hi'))
  have hlen : us.length = ns.length := hn.1.symm
  refine ⟨_, run_storeCells us 0 c w h1 (h5.1 rfl) (by omega) hone, ?_⟩
  refine put_go s hb hm (by simp [rw?, hb]) (by simp [rw?, updH_self]) ?_
  have hle : Le m h m (updH h b (.cells ty (putL cs off ns) false)) := le_put hb (by simp)
  refine ⟨_, fr, wput_at h1, by rw [putL_length]; exact h2, by simpa [putL_length] using h3, ?_, fun _ j hj => h5.1 rfl j (by simpa [putL_length] using hj), fun h => by cases h⟩
  intro i v v' g1 g2
  have g2' : (putL c.toList (x.2.1 + off + 0) us)[x.2.1 + i]? = some v' := by simpa using g2
  rw [putL_get] at g1 g2'
  by_cases hc : off ≤ i ∧ i < off + ns.length ∧ i < cs.length
  · rw [if_pos hc] at g1
    rw [if_pos (by simp; omega)] at g2'
    rw [show x.2.1 + i - (x.2.1 + off + 0) = i - off from by omega] at g2'
    exact (hn.2 _ _ _ g1 g2').mono hle
  · rw [if_neg hc] at g1
    have hi : i < cs.length := (List.getElem?_eq_some_iff.1 g1).1
    rw [if_neg (by simp; omega)] at g2'
    exact (h4 i v v' g1 (by simpa using g2')).mono hle

theorem cellsL_all {v : Value} : cellsL v = v.cells.toList := (cells_toList v).symm

theorem aStore_sound (s : Sim m h w) {t : TypeId} {x x' v v' : Value} {es : List Eff} (he : aStore P h t x v = some es) (rx : VRel m h x x') (rv : VRel m h v v') :
    ∃ b o w', es = [.put b o] ∧ (Instr.storeAt t x' v').run P w = .ok () w' ∧ Go1 m h w m (updH h b o) w' := by
  unfold aStore at he
  split at he
  · rename_i a
    obtain ⟨b, off, r, off', rfl, rfl, hh⟩ := rx.of_ptr
    split at he
    · rename_i ty cs hb
      split at he
      · rename_i n hn
        split at he
        · rename_i hc
          cases he
          simp only [Bool.and_eq_true, decide_eq_true_eq] at hc
          obtain ⟨⟨hc1, hc2⟩, hc3⟩ := hc
          dsimp only at hb hc3 ⊢
          rcases hh with hh | ⟨δ, E, hm, rfl⟩
          · rw [hb] at hh; cases hh
          · have hcells := rv.cells
            obtain ⟨w', h1, h2⟩ := put_cells (P := P) (off := off) s hb hm hcells hc2 (by omega)
            refine ⟨_, _, w', rfl, ?_, h2⟩
            simp only [Instr.storeAt, Instr.sureAddr, Sem.run_bind, Sem.run_pure, Result.andThen_ok, storeVar, run_size hn]
            have hsz : v'.cells.size = n := by
              have := hcells.1
              rw [hc1, cellsL_all] at this
              simpa using this.symm
            rw [if_neg (by simp [hsz]), cells_toList]
            exact h1
        · cases he
      · cases he
    · cases he
  · cases he

/-! ### 2. append, copy, clear -/
theorem map_u8_flat : ∀ l : List UInt8, (l.map fun b => (Value.int .u8 b.toNat)).all AI.flat = true
  | [] => rfl
  | b :: l => by simp only [List.map_cons, List.all_cons, map_u8_flat l, Bool.and_true]; rfl
theorem srcCells_sound (s : Sim m h w) {size n : Nat} {x x' : Value} {ns : List Value} (he : srcCells h size n x = some ns) (rx : VRel m h x x') :
    ∃ c : Array Value, (∀ w', w'.heap = w.heap → (Builtin.firstCells size n x').run P w' = .ok c w') ∧ VRelL m h ns c.toList := by
  unfold srcCells at he
  split at he
  · obtain rfl := rx.of_flat rfl
    split at he
    · cases he; exact ⟨#[], fun _ _ => rfl, .nil⟩
    · cases he
  · rename_i a len c
    obtain ⟨b, off, r, off', cap, rfl, rfl, hlc, hh⟩ := rx.of_slice
    split at he
    · rename_i h0
      cases he; subst h0
      refine ⟨#[], fun w' _ => ?_, .nil⟩
      simp [Builtin.firstCells, loadCells, loadCellsFrom]
    · rename_i hn
      split at he
      · cases he
      · rename_i hln
        split at he
        · rename_i ty cs ro hb
          dsimp only at hb he
          rcases hh with hh | ⟨δ, E, hm, h2, _⟩
          · rw [hb] at hh; cases hh
          · obtain ⟨cc, fr, g1, g2, g3, g4, _⟩ := Sim.row (s := s) hb hm
            dsimp only at g1 g2 g3 g4
            obtain ⟨h5, h6, h7⟩ := range_rel he (by omega) g4
            rcases h2 with rfl | h2
            · refine ⟨cc.extract (δ + off) (δ + off + n * size), fun w' e => ?_, by rw [ext_toList]; exact h5⟩
              simp only [Builtin.firstCells]
              exact run_loadCells (by rw [e]; exact g1) (by rcases h6 with h6 | h6; exact .inl h6; exact .inr (by omega))
            · omega
        · cases he
  · rename_i str
    obtain rfl := rx.of_string
    cases he
    refine ⟨(str.extract 0 n).data.map fun b => .int .u8 b.toNat, fun _ _ => rfl, ?_⟩
    have e : ((str.extract 0 n).data.map fun b => (Value.int .u8 b.toNat)).toList = (str.data.toList.take n).map fun b => .int .u8 b.toNat := by
      rw [Array.toList_map, Lib.extract_data]; simp
    rw [e]
    exact VRelL.flats (map_u8_flat _)
  · cases he
theorem srcLen_sound {x x' : Value} {n : Nat} (he : srcLen x = some n) (rx : VRel m h x x') : ∀ w', (Builtin.lenOf x').run P w' = .ok n w' := by
  intro w'
  unfold srcLen at he
  split at he
  · rename_i a len c
    cases he
    cases a with
    | none => obtain ⟨rfl, _, rfl⟩ := rx.of_nilslice; rfl
    | some a => obtain ⟨_, _, _, _, _, _, rfl, _⟩ := rx.of_slice; rfl
  · obtain rfl := rx.of_string; cases he; rfl
  · cases he

theorem ones_rel {ns us : List Value} (hn : VRelL m h ns us) (ho : ns.all isOne = true) : ∀ v ∈ us, v.oneCell' = true := by
  intro v hv
  obtain ⟨i, hi, rfl⟩ := List.getElem_of_mem hv
  have hi' : i < ns.length := by rw [hn.1]; exact hi
  exact (hn.2 i ns[i] us[i] (List.getElem?_eq_getElem hi') (List.getElem?_eq_getElem hi)).isOne (List.all_eq_true.1 ho _ (List.getElem_mem hi'))

theorem zeroCells_eq (z : Array Value) (n : Nat) (h0 : 0 < z.size) : (Builtin.zeroCells z n).toList = repL z.toList n := by
  unfold Builtin.zeroCells
  exact range_zero z n (.inr h0)

theorem growBy_le (n : Nat) : ∀ (r c : Nat), c ≤ n + (n + 768) / 4 → Builtin.growBy n r c ≤ n + (n + 768) / 4
  | 0, c, hc => hc
  | r + 1, c, hc => by
    unfold Builtin.growBy
    split
    · exact hc
    · exact growBy_le n r _ (by omega)
theorem nextcap_le {n c : Nat} (h1 : c < n) (h2 : n ≤ 2147483647) : Builtin.nextslicecap n c ≤ 4294967296 := by
  unfold Builtin.nextslicecap
  split
  · omega
  · split
    · omega
    · have := growBy_le n 4 c (by omega)
      omega

/-- What is appended, as the model has it: the same in whatever world of this heap. -/
structure AppSrc (P : Program) (w : World) (elem : TypeId) (size : Nat) (xd : TypeDesc) (x : Value) (n : Nat) (c : Array Value) : Prop where
  other : (∀ k, xd ≠ .int k) → (∀ w', (Builtin.lenOf x).run P w' = .ok n w') ∧ ∀ w', w'.heap = w.heap → (Builtin.firstCells size n x).run P w' = .ok c w'
  nums : ∀ k, xd = .int k → ∃ kk q z, x = .int kk q ∧ 0 ≤ q ∧ q ≤ 2147483647 ∧ n = q.toNat ∧ 0 < size ∧ (∀ w', (zeroValue elem).run P w' = .ok z w') ∧ c = if n * size = 0 then #[] else Builtin.zeroCells z.cells n

section
variable {st xt elem : TypeId} {xd : TypeDesc} {ts : Array TypeId} {ty : TypeId} {args : Array Value} {base : Option Addr} {sLen sCap n size : Nat} {i : TypeInfo} {x : Value} {c : Array Value}
theorem append_room (h0 : ts[0]? = some st) (h1 : ts[1]? = some xt) (a0 : args[0]? = some (.slice base sLen sCap)) (a1 : args[1]? = some x) (hs : P.underlying st = some (.slice elem)) (hx : P.underlying xt = some xd) (hi : P.info? elem = some i)
    (hb : i.bytes ≤ 32768) (ha : AppSrc P w elem i.size xd x n c) (hroom : sLen + n ≤ sCap) {w' : World}
    (hst : (match base with | some a => storeCells (a.add (sLen * i.size)) c.toList | none => pure () : Sem Unit).run P w = .ok () w') :
    (Builtin.append_ ts ty args).run P w = .ok (.slice base (sLen + n) sCap) w' := by
  have hsize : ∀ w', (sizeOf elem).run P w' = .ok i.size w' := fun w' => run_size (by simp [tsize, hi])
  cases xd with
  | int k =>
    obtain ⟨kk, q, z, rfl, q0, q1, rfl, hs0, hz, rfl⟩ := ha.nums k rfl
    have hb2 : ¬ (q * (i.bytes : Int) > 2 ^ 48) := by
      have : q * (i.bytes : Int) ≤ 2147483647 * 32768 := Int.mul_le_mul q1 (by omega) (by omega) (by omega)
      omega
    unfold Builtin.append_
    simp only [h0, h1, a0, a1, Sem.run_bind, run_under hs, run_under hx, Result.andThen_ok, hsize, Sem.run_pure, if_true, asInt, asIntOf, wrap_small q0 q1, if_neg (show ¬ q < 0 by omega), run_info hi, if_neg hb2, if_pos hroom]
    cases base with
    | none =>
      simp at hst; subst hst
      by_cases h00 : q.toNat * i.size = 0
      · simp [h00]
      · simp [h00, hz]
    | some a =>
      simp only at hst
      by_cases h00 : q.toNat * i.size = 0
      · rw [if_pos h00] at hst
        simp [h00, hst]
      · rw [if_neg h00] at hst
        simp [h00, hz, hst]
  | _ =>
    obtain ⟨hn, hc⟩ := ha.other (by simp)
    unfold Builtin.append_
    simp only [h0, h1, a0, a1, Sem.run_bind, run_under hs, run_under hx, Result.andThen_ok, hsize, Sem.run_pure, Bool.false_eq_true, if_false, hn, hc w rfl, if_pos hroom, Bool.not_false, if_true]
    cases base with
    | none => simp at hst; subst hst; simp
    | some a => simp only at hst; simp [hst]
theorem append_grow (h0 : ts[0]? = some st) (h1 : ts[1]? = some xt) (a0 : args[0]? = some (.slice base sLen sCap)) (a1 : args[1]? = some x) (hs : P.underlying st = some (.slice elem)) (hx : P.underlying xt = some xd) (hi : P.info? elem = some i)
    (hb : i.bytes ≤ 32768) (ha : AppSrc P w elem i.size xd x n c) (hroom : sCap < sLen + n) (hmax : sLen + n ≤ 2147483647) {old : Array Value} {zv : Value} (hold : ∀ w', w'.heap = w.heap → (Builtin.firstCells i.size sLen (.slice base sLen sCap)).run P w' = .ok old w')
    (hz : ∀ w', (zeroValue elem).run P w' = .ok zv w') :
    ∃ nc, sLen + n ≤ nc ∧ (Builtin.append_ ts ty args).run P w = .ok (.slice (some ⟨w.heap.size, 0, none⟩) (sLen + n) nc)
      (w.drew.alloc (.cells (old ++ c ++ Builtin.zeroCells zv.cells (nc - (sLen + n))) elem)) := by
  have hsize : ∀ w', (sizeOf elem).run P w' = .ok i.size w' := fun w' => run_size (by simp [tsize, hi])
  have hbig : ¬ (((sLen + n : Nat) : Int) > IntKind.i64.max) := by simp only [IntKind.max, IntKind.signed, IntKind.bits]; simp; omega
  have hcap : ¬ (Builtin.nextslicecap (sLen + n) sCap * i.bytes > 2 ^ 48) := by
    have h3 := nextcap_le hroom hmax
    have : Builtin.nextslicecap (sLen + n) sCap * i.bytes ≤ 4294967296 * 32768 := Nat.mul_le_mul h3 hb
    omega
  have hforced : (Question.appendCap (sLen + n) sCap elem).forced = false := rfl
  refine ⟨(Question.appendCap (sLen + n) sCap elem).cut (w.tape w.drawn (.appendCap (sLen + n) sCap elem)), by simp [Question.cut], ?_⟩
  generalize hnc : (Question.appendCap (sLen + n) sCap elem).cut (w.tape w.drawn (.appendCap (sLen + n) sCap elem)) = nc
  cases xd with
  | int k =>
    obtain ⟨kk, q, z, rfl, q0, q1, rfl, hs0, hzz, rfl⟩ := ha.nums k rfl
    have hb2 : ¬ (q * (i.bytes : Int) > 2 ^ 48) := by
      have : q * (i.bytes : Int) ≤ 2147483647 * 32768 := Int.mul_le_mul q1 (by omega) (by omega) (by omega)
      omega
    have hz1 : z = zv := by have h5 := hzz w; rw [hz w] at h5; cases h5; rfl
    subst hz1
    unfold Builtin.append_
    simp only [h0, h1, a0, a1, Sem.run_bind, run_under hs, run_under hx, Result.andThen_ok, hsize, Sem.run_pure, if_true, asInt, asIntOf, wrap_small q0 q1, if_neg (show ¬ q < 0 by omega), run_info hi, if_neg hb2, if_neg (show ¬ sLen + q.toNat ≤ sCap by omega)]
    rw [if_neg (by simp only [not_and]; intro h; exact absurd h hbig)]
    simp only [Sem.run_bind, run_info hi, Result.andThen_ok, if_neg hcap, run_choose, hforced, Bool.false_eq_true, if_false, hnc, run_askRoom]
    have hold2 := hold w.drew rfl
    by_cases h00 : q.toNat * i.size = 0
    · simp [h00, hold2, hz, newRow]
    · simp [h00, hold2, hz, newRow]
  | _ =>
    obtain ⟨hn, hc⟩ := ha.other (by simp)
    unfold Builtin.append_
    simp only [h0, h1, a0, a1, Sem.run_bind, run_under hs, run_under hx, Result.andThen_ok, hsize, Sem.run_pure, Bool.false_eq_true, if_false, hn, if_neg (show ¬ sLen + n ≤ sCap by omega), run_info hi]
    rw [if_neg (by simp only [not_and]; intro h; exact absurd h hbig)]
    simp only [Sem.run_bind, run_info hi, Result.andThen_ok, if_neg hcap, run_choose, hforced, Bool.false_eq_true, if_false, hnc, run_askRoom]
    have hold2 := hold w.drew rfl
    have hc2 := hc w.drew rfl
    simp [hold2, hz, hc2, newRow]
end
end
end Go.Proofs.Ytjecepaaalfilaa.AI
