/- Soundness, 8: copy, clear; maps; bytes of a string; all operations that write. -/
import Derived.Test.YtjecepaaalfilaaAi11
import Derived.Lib.ConvBytes
set_option linter.unusedVariables false
set_option linter.unusedSimpArgs false
namespace Go.Proofs.Ytjecepaaalfilaa.AI
open Go

section
variable {P : Program} {w : World} {m : BM} {h : HG}

theorem arr0 {xs' : Array Value} {x : Value} {r : List Value} (rs : VRelL m h (x :: r) xs'.toList) : ∃ x', xs'[0]? = some x' ∧ VRel m h x x' := by
  obtain ⟨b, bs', e, h1, h2⟩ := rs.of_cons
  exact ⟨b, by have : xs'.toList[0]? = some b := by rw [e]; rfl
               simpa using this, h1⟩
theorem arr1 {xs' : Array Value} {x y : Value} {r : List Value} (rs : VRelL m h (x :: y :: r) xs'.toList) : ∃ x' y', xs'[0]? = some x' ∧ VRel m h x x' ∧ xs'[1]? = some y' ∧ VRel m h y y' := by
  obtain ⟨b, bs', e, h1, h2⟩ := rs.of_cons
  obtain ⟨c, cs', e2, h3, h4⟩ := h2.of_cons
  subst e2
  exact ⟨b, c, by have : xs'.toList[0]? = some b := by rw [e]; rfl
                  simpa using this, h1, by have : xs'.toList[1]? = some c := by rw [e]; rfl
                                           simpa using this, h3⟩
theorem typ0 {ts : Array TypeId} {t : TypeId} {r : List TypeId} (e : ts.toList = t :: r) : ts[0]? = some t := by
  have : ts.toList[0]? = some t := by rw [e]; rfl
  simpa using this

/-- The worlds behind differ in what no block tells. -/
theorem Go1.other {m' : BM} {h' : HG} {w' w'' : World} (g : Go1 m h w m' h' w') (e : w''.heap = w'.heap) (e1 : w''.os = w'.os) (e2 : w''.tape = w'.tape) (e3 : w''.output = w'.output) : Go1 m h w m' h' w'' :=
  ⟨g.le, g.sim.heap e, by rw [e]; exact g.size, g.new, fun r hr hb => by rw [e]; exact g.frame r hr hb, g.un, g.idle, g.ex, g.rwb, e1.trans g.os, e2.trans g.tape, e3.trans g.output⟩

theorem writes_same (s : Sim m h w) {sz : Nat} {v v' : Value} {r : Result Value} (hr : r = .ok v' w) (rv : VRel m h v v') : Writes P m h w sz [] v r :=
  ⟨v', w, m, hr, Go1.refl s, rv⟩
theorem writes_put {sz b : Nat} {o : Blk} {w' : World} {v v' : Value} {r : Result Value} (hr : r = .ok v' w') (g : Go1 m h w m (updH h b o) w') (rv : VRel m (updH h b o) v v') : Writes P m h w sz [.put b o] v r :=
  ⟨v', w', m, hr, g, rv⟩

theorem aCopy_sound (s : Sim m h w) {sz : Nat} {ts : Array TypeId} {ty : TypeId} {xs : List Value} {xs' : Array Value} {v : Value} {es : List Eff} (he : aCopy P h ts.toList xs = some (v, es)) (rs : VRelL m h xs xs'.toList) :
    Writes P m h w sz es v ((Builtin.copy_ ts ty xs').run P w) := by
  unfold aCopy at he
  split at he
  · rename_i dt tr d x xr hts
    have h0 := typ0 hts
    obtain ⟨d', x', a0, rd, a1, rx⟩ := arr1 rs
    split at he
    · rename_i elem hd
      split at he
      · rename_i size d0 dm base dlen c mm hsz hsl
        have hlen := fun w' => srcLen_sound (P := P) hsl rx w'
        split at he
        · cases he
        · rename_i ns hns
          obtain ⟨cc, hcc, hcr⟩ := srcCells_sound (P := P) s hns rx
          split at he
          · cases he
          · rename_i hc
            simp only [Bool.or_eq_true, Bool.not_eq_true', decide_eq_true_eq, not_or, Bool.not_eq_false, Decidable.not_not, bne_iff_ne, ne_eq, decide_not, decide_eq_false_iff_not] at hc
            obtain ⟨hc1, hc2⟩ := hc
            have hrun : ∀ (b' : Option Addr) (cap : Nat) (w' : World), d' = .slice b' dlen cap →
                (match b' with | some a => storeCells a cc.toList | none => pure () : Sem Unit).run P w = .ok () w' → (Builtin.copy_ ts ty xs').run P w = .ok (goInt (min mm dlen : Nat)) w' := by
              intro b' cap w' e hst
              have hmin : Nat.min mm dlen = min mm dlen := rfl
              unfold Builtin.copy_
              simp only [h0, a0, a1, Sem.run_bind, run_under hd, Result.andThen_ok, e, hlen, run_size hsz, hcc w rfl, hmin]
              cases b' with
              | none => simp at hst; subst hst; simp
              | some a => simp only at hst; simp [hst]
            split at he
            · obtain ⟨rfl, rfl, rfl⟩ := rd.of_nilslice
              split at he
              · rename_i hz
                cases he
                refine writes_same s (hrun none 0 w rfl rfl) ?_
                rw [hz]; exact .flat rfl
              · cases he
            · rename_i a
              obtain ⟨b, off, r, off', cap, rfl, rfl, hlc, hh⟩ := rd.of_slice
              split at he
              · rename_i hz
                cases he
                refine writes_same s (hrun _ cap w rfl ?_) (by rw [hz]; exact .flat rfl)
                have : cc.toList = [] := by apply List.eq_nil_of_length_eq_zero; rw [← hcr.1, hc2, hz, Nat.zero_mul]
                simp only [this, storeCells, Sem.run_pure]
              · rename_i hz
                split at he
                · rename_i ty' cs hb
                  dsimp only at hb he
                  split at he
                  · rename_i hfit
                    cases he
                    rcases hh with hh | ⟨δ, E, hm, h2, _⟩
                    · rw [hb] at hh; cases hh
                    · have hoff : off' = δ + off := by
                        rcases h2 with h2 | h2
                        · exact h2
                        · omega
                      subst hoff
                      obtain ⟨w', hst, hgo⟩ := put_cells (P := P) (off := off) s hb hm hcr hc1 hfit
                      exact writes_put (hrun _ cap w' rfl hst) hgo (.flat rfl)
                  · cases he
                · cases he
      · cases he
    · cases he
  · cases he

theorem aClear_sound (s : Sim m h w) {sz : Nat} {ts : Array TypeId} {ty : TypeId} {xs : List Value} {xs' : Array Value} {v : Value} {es : List Eff} (he : aClear P h ts.toList xs = some (v, es)) (rs : VRelL m h xs xs'.toList) :
    Writes P m h w sz es v ((Builtin.clear_ ts ty xs').run P w) := by
  unfold aClear at he
  split at he
  · rename_i t tr x xr hts
    have h0 := typ0 hts
    obtain ⟨x', a0, rx⟩ := arr0 rs
    split at he
    · rename_i elem hu
      cases he
      obtain rfl := rx.of_flat rfl
      refine writes_same s ?_ VRel.undef
      simp only [Builtin.clear_, h0, a0, Sem.run_bind, run_under hu, Result.andThen_ok, Sem.run_pure]
      rfl
    · rename_i elem a len c hu
      obtain ⟨b, off, r, off', cap, rfl, rfl, hlc, hh⟩ := rx.of_slice
      split at he
      · rename_i hz
        cases he
        subst hz
        refine writes_same s ?_ VRel.undef
        simp only [Builtin.clear_, h0, a0, Sem.run_bind, run_under hu, Result.andThen_ok, Sem.run_pure]
        rfl
      · rename_i hz
        split at he
        · rename_i zero ty' cs hzt hb
          dsimp only at hb he
          split at he
          · rename_i hfit
            cases he
            rcases hh with hh | ⟨δ, E, hm, h2, _⟩
            · rw [hb] at hh; cases hh
            · have hoff : off' = δ + off := by
                rcases h2 with h2 | h2
                · exact h2
                · omega
              subst hoff
              obtain ⟨zv, hzv, hzc, hzf⟩ := run_zeroW (P := P) hzt
              have hcz : VRelL m h (repL zero len) (Builtin.zeroCells zv.cells len).toList := by
                have : (Builtin.zeroCells zv.cells len).toList = repL zero len := by
                  unfold Builtin.zeroCells
                  by_cases h00 : 0 < zv.cells.size
                  · rw [range_zero _ _ (.inr h00), cells_toList, hzc]
                  · have e0 : zv.cells.size = 0 := by omega
                    rw [range_zero _ _ (.inl (by rw [e0, Nat.mul_zero])), cells_toList, hzc]
                rw [this]; exact VRelL.flats (repL_flat hzf _)
              have hones : (repL zero len).all isOne = true := by
                have h3 := repL_flat hzf len
                rw [List.all_eq_true] at h3 ⊢
                intro q hq
                have := h3 q hq
                cases q <;> first | rfl | (simp [AI.flat] at this)
              obtain ⟨w', hst, hgo⟩ := put_cells (P := P) (off := off) s hb hm hcz hones hfit
              refine writes_put (v' := .tuple #[]) ?_ hgo VRel.undef
              obtain ⟨n, rfl⟩ : ∃ n, len = n + 1 := ⟨len - 1, by omega⟩
              simp only [Builtin.clear_, h0, a0, Sem.run_bind, run_under hu, Result.andThen_ok, hzv, hst, Sem.run_pure]
          · cases he
        · cases he
    · cases he
  · cases he

/-! ### Maps -/
theorem setE_set : ∀ (es : List (Value × Value × Nat)) (i : Nat) (x : Value × Value × Nat), setE es i x = es.set i x
  | [], _, _ => rfl
  | _ :: _, 0, _ => rfl
  | e :: es, i + 1, x => by simp [setE, setE_set es i x]
theorem dropE_erase : ∀ (es : List (Value × Value × Nat)) (i : Nat), dropE es i = es.eraseIdx i
  | [], _ => rfl
  | _ :: _, 0 => rfl
  | e :: es, i + 1 => by simp [dropE, dropE_erase es i]
theorem bornE_get : ∀ (es : List (Value × Value × Nat)) (i : Nat) (e : Value × Value × Nat), es[i]? = some e → bornE es i = e.2.2
  | [], _, _, he => by simp at he
  | _ :: _, 0, _, he => by simp at he; subst he; rfl
  | _ :: es, i + 1, e, he => by simpa [bornE] using bornE_get es i e (by simpa using he)

theorem ERel.set {es : List (Value × Value × Nat)} {fs : Array MapEntry} (r : ERel m h es fs) {i : Nat} {x : Value × Value × Nat} {f : MapEntry → MapEntry}
    (hx : ∀ e g, es[i]? = some e → fs[i]? = some g → AI.flat x.1 = true ∧ (f g).key = x.1 ∧ VRel m h x.2.1 (f g).val ∧ (f g).born = x.2.2) : ERel m h (setE es i x) (fs.modify i f) := by
  rw [setE_set]
  refine ⟨by simp [r.1], fun j e g h1 h2 => ?_⟩
  rw [Array.getElem?_modify] at h2
  by_cases hij : i = j
  · subst hij
    simp only [if_true, Option.map_eq_some_iff] at h2
    obtain ⟨g0, hg0, rfl⟩ := h2
    have hi : i < es.length := by
      rcases Nat.lt_or_ge i es.length with q | q
      · exact q
      · rw [List.getElem?_eq_none (by simpa using q)] at h1; cases h1
    rw [List.getElem?_set_self hi] at h1
    cases h1
    exact hx es[i] g0 (List.getElem?_eq_getElem hi) hg0
  · rw [if_neg hij] at h2
    rw [List.getElem?_set_ne hij] at h1
    exact r.2 j e g h1 h2
theorem ERel.push {es : List (Value × Value × Nat)} {fs : Array MapEntry} (r : ERel m h es fs) {x : Value × Value × Nat} {f : MapEntry}
    (hx : AI.flat x.1 = true ∧ f.key = x.1 ∧ VRel m h x.2.1 f.val ∧ f.born = x.2.2) : ERel m h (es ++ [x]) (fs.push f) := by
  refine ⟨by simp [r.1], fun j e g h1 h2 => ?_⟩
  rw [Array.getElem?_push] at h2
  by_cases hj : j = fs.size
  · subst hj
    rw [if_pos rfl] at h2
    cases h2
    rw [← r.1] at h1
    simp at h1
    subst h1
    exact hx
  · rw [if_neg hj] at h2
    have hlt : j < fs.size := (Array.getElem?_eq_some_iff.1 h2).1
    rw [List.getElem?_append_left (by rw [r.1]; exact hlt)] at h1
    exact r.2 j e g h1 h2
theorem ERel.drop {es : List (Value × Value × Nat)} {fs : Array MapEntry} (r : ERel m h es fs) (i : Nat) (hi : i < es.length) : ERel m h (dropE es i) (fs.eraseIdxIfInBounds i) := by
  rw [dropE_erase]
  have hi' : i < fs.size := by rw [← r.1]; exact hi
  have e : (fs.eraseIdxIfInBounds i).toList = fs.toList.eraseIdx i := by
    unfold Array.eraseIdxIfInBounds
    rw [dif_pos hi', Array.toList_eraseIdx]
  refine ⟨?_, fun j x g h1 h2 => ?_⟩
  · have := congrArg List.length e
    rw [Array.length_toList] at this
    rw [this, List.length_eraseIdx_of_lt hi, List.length_eraseIdx_of_lt (by simpa using hi')]
    have := r.1
    simp only [Array.length_toList]; omega
  · have h2' : (fs.eraseIdxIfInBounds i).toList[j]? = some g := by rw [Array.getElem?_toList]; exact h2
    rw [e, List.getElem?_eraseIdx] at h2'
    rw [List.getElem?_eraseIdx] at h1
    split at h1
    · rename_i hj; rw [if_pos hj] at h2'; exact r.2 j x g h1 (by simpa using h2')
    · rename_i hj; rw [if_neg hj] at h2'; exact r.2 (j + 1) x g h1 (by simpa using h2')
theorem ERel.mono {m' : BM} {h' : HG} (l : Le m h m' h') {es : List (Value × Value × Nat)} {fs : Array MapEntry} (r : ERel m h es fs) : ERel m' h' es fs :=
  ⟨r.1, fun i e f h1 h2 => by
    obtain ⟨a, b, c, d⟩ := r.2 i e f h1 h2
    exact ⟨a, b, c.mono l, d⟩⟩

/-- A map that may be written is written. -/
theorem put_map (s : Sim m h w) {b r : Nat} {y : Nat × Nat} {es es' : List (Value × Value × Nat)} {cl cl' : Nat} {fs' : Array MapEntry} (hb : h b = some (.map es cl false)) (hm : m b = some (r, y))
    (hr : ERel m (updH h b (.map es' cl' false)) es' fs') :
    Go1 m h w m (updH h b (.map es' cl' false)) (wput w r (.map fs' cl')) := by
  obtain ⟨fs, h1, h2⟩ := s.maps hb hm
  exact put_go (x := (r, y)) s hb hm (by simp [rw?, hb]) (by simp [rw?, updH_self]) ⟨fs', wput_at h1, hr⟩
theorem run_setMap {r : Nat} {fs fs' : Array MapEntry} {cl cl' : Nat} (hf : w.heap[r]? = some (.map fs cl)) : (setObj r (.map fs' cl')).run P w = .ok () (wput w r (.map fs' cl')) := by
  simp [setObj, Sem.run, hf]; rfl
theorem keyEq_eq {d : TypeDesc} {a b : Value} (hk : keyEq d a b = some true) : a = b ∧ AI.flat a = true := by
  unfold keyEq at hk
  split at hk
  · split at hk
    · rename_i e; subst e; simp at hk; subst hk; exact ⟨rfl, rfl⟩
    · cases hk
  · rename_i a b
    have e : a = b := by
      simp [strEq] at hk
      cases a; cases b; simp_all
    subst e; exact ⟨rfl, rfl⟩
  · simp at hk; subst hk; exact ⟨rfl, rfl⟩
  · cases hk
theorem run_keyStays {d : TypeDesc} {k e : Value} (hk : keyEq d k e = some true) (w' : World) : (Instr.keyThatStays e k).run P w' = .ok k w' := by
  have he := (keyEq_eq hk).1
  subst he
  unfold keyEq at hk
  have : Instr.sameBits 10000 k k = true := by
    split at hk
    · simp [Instr.sameBits]
    · rw [Instr.sameBits, ← strEq_beq]; simp [strEq]
    · simp [Instr.sameBits]
    · cases hk
  simp [Instr.keyThatStays, this]

/-- The entry that a key finds, in the model. -/
theorem hit_entry {d : TypeDesc} {k v : Value} {es : List (Value × Value × Nat)} {fs : Array MapEntry} {i : Nat} (r : ERel m h es fs) (hf : findE d k es 0 = some (some (i, v))) :
    ∃ e f, es[i]? = some e ∧ fs[i]? = some f ∧ keyEq d k e.1 = some true ∧ v = e.2.1 ∧ f.key = e.1 ∧ VRel m h v f.val ∧ f.born = e.2.2 ∧ Instr.findNow d k fs.toList 0 = some (some (i, f.val)) := by
  obtain ⟨v', g1, g2, g3, g4, e, g5, g6, g7⟩ := findE_now hf r.list.1 r.list.2
  rw [Nat.sub_zero] at g5
  have hi : i < fs.size := by rw [← r.1]; omega
  obtain ⟨q1, q2, q3, q4⟩ := r.2 i e fs[i] g5 (Array.getElem?_eq_getElem hi)
  refine ⟨e, fs[i], g5, Array.getElem?_eq_getElem hi, g7, g6, q2, by rw [g6]; exact q3, q4, ?_⟩
  rw [g1]
  congr 2
  have hv : fs[i].val = v' := by
    have := findNow_val g1
    rw [Nat.sub_zero, Array.getElem?_toList, Array.getElem?_eq_getElem hi] at this
    simpa using this
  rw [hv]
where
  findNow_val : ∀ {d : TypeDesc} {k : Value} {fs : List MapEntry} {j i : Nat} {v : Value}, Instr.findNow d k fs j = some (some (i, v)) → (fs[i - j]?).map (·.val) = some v := by
    intro d k fs
    induction fs with
    | nil => intro j i v hh; simp [Instr.findNow] at hh
    | cons f fs ih =>
      intro j i v hh
      simp only [Instr.findNow] at hh
      split at hh
      · cases hh; simp
      · have h5 := ih hh
        have hle : j + 1 ≤ i := by
          rcases Nat.lt_or_ge i (j + 1) with q | q
          · exfalso
            have : ∀ {fs : List MapEntry} {j i : Nat} {v : Value}, Instr.findNow d k fs j = some (some (i, v)) → j ≤ i := by
              intro fs
              induction fs with
              | nil => intro j i v hh; simp [Instr.findNow] at hh
              | cons f fs ih2 =>
                intro j i v hh
                simp only [Instr.findNow] at hh
                split at hh
                · cases hh; exact Nat.le_refl _
                · have := ih2 hh; omega
                · cases hh
            have := this hh
            omega
          · exact q
        rw [show i - j = (i - (j + 1)) + 1 from by omega]
        simpa using h5
      · cases hh

theorem aUpdate_sound (s : Sim m h w) {t : TypeId} {x k v x' k' v' : Value} {es : List Eff} (he : aUpdate P h t x k v = some es) (rx : VRel m h x x') (rk : VRel m h k k') (rv : VRel m h v v') :
    ∃ b o w', es = [.put b o] ∧ (Instr.mapUpdate t x' k' v').run P w = .ok () w' ∧ Go1 m h w m (updH h b o) w' := by
  unfold aUpdate at he
  split at he
  · rename_i key elem b hu
    obtain ⟨r, rfl, hh⟩ := rx.of_map
    split at he
    · rename_i d es0 clock hk hb
      obtain ⟨hku, hck⟩ := keyKind_under hk
      rcases hh with hh | ⟨y, hm⟩
      · rw [hb] at hh; cases hh
      · obtain ⟨fs, h1, h2⟩ := s.maps hb hm
        split at he
        · cases he
        · rename_i i u hf
          cases he
          obtain ⟨e, f, g1, g2, g3, g4, g5, g6, g7, g8⟩ := hit_entry h2 hf
          obtain ⟨hke, hkf⟩ := keyEq_eq g3
          obtain rfl := rk.of_flat hkf
          refine ⟨_, _, _, rfl, ?_, put_map (fs' := fs.modify i fun e => { e with key := k', val := v' }) s hb hm ?_⟩
          · simp only [Instr.mapUpdate, Sem.run_bind, run_under hu, Result.andThen_ok, run_getMap h1, hck, run_findKey hku g8, g2, Option.map_some, Option.getD_some, g5, run_keyStays g3, run_setMap h1]
          · refine (h2.mono (le_put hb (by simp))).set fun e' g' q1 q2 => ⟨hkf, rfl, rv.mono (le_put hb (by simp)), ?_⟩
            rw [g1] at q1; cases q1
            rw [g2] at q2; cases q2
            rw [bornE_get _ _ _ g1]; exact g7
        · rename_i hf
          split at he
          · rename_i hkf
            cases he
            obtain rfl := rk.of_flat hkf
            have g1 := findE_now hf h2.list.1 h2.list.2
            refine ⟨_, _, _, rfl, ?_, put_map (fs' := fs.push { key := k', val := v', born := clock }) s hb hm ?_⟩
            · simp only [Instr.mapUpdate, Sem.run_bind, run_under hu, Result.andThen_ok, run_getMap h1, hck, run_findKey hku g1, run_setMap h1]
            · exact (h2.mono (le_put hb (by simp))).push ⟨hkf, rfl, rv.mono (le_put hb (by simp)), rfl⟩
          · cases he
    · cases he
  · cases he

theorem pair_rel {a b a' b' : Value} (r1 : VRel m h a a') (r2 : VRel m h b b') : VRel m h (.tuple #[a, b]) (.tuple #[a', b']) :=
  .tuple rfl (VRelL.toArray (as := [a, b]) (bs := [a', b']) (.cons r1 (.cons r2 .nil))).2

theorem aEntry_sound (s : Sim m h w) {sz : Nat} {t : TypeId} {x k x' k' v : Value} {es : List Eff} (he : aEntry P h t x k = some (v, es)) (rx : VRel m h x x') (rk : VRel m h k k') :
    Writes P m h w sz es v ((Instr.mapEntry t x' k').run P w) := by
  unfold aEntry at he
  split at he
  · rename_i key elem b hu
    obtain ⟨r, rfl, hh⟩ := rx.of_map
    split at he
    · rename_i d es0 clock hk hb
      obtain ⟨hku, hck⟩ := keyKind_under hk
      rcases hh with hh | ⟨y, hm⟩
      · rw [hb] at hh; cases hh
      · obtain ⟨fs, h1, h2⟩ := s.maps hb hm
        split at he
        · cases he
        · rename_i i u hf
          cases he
          obtain ⟨e, f, g1, g2, g3, g4, g5, g6, g7, g8⟩ := hit_entry h2 hf
          obtain ⟨hke, hkf⟩ := keyEq_eq g3
          obtain rfl := rk.of_flat hkf
          have hle := le_put (m := m) (o' := .map (setE es0 i (k', u, bornE es0 i)) clock false) hb (by simp)
          refine writes_put ?_ (put_map (fs' := fs.modify i fun e => { e with key := k' }) s hb hm ?_) (pair_rel (g6.mono hle) (b' := goInt f.born) ?_)
          · simp only [Instr.mapEntry, Sem.run_bind, run_under hu, Result.andThen_ok, run_getMap h1, hck, run_findKey hku g8, g2, Option.map_some, Option.getD_some, g5, run_keyStays g3, run_setMap h1, Sem.run_pure]
          · refine (h2.mono hle).set fun e' g' q1 q2 => ?_
            rw [g1] at q1; cases q1
            rw [g2] at q2; cases q2
            exact ⟨hkf, rfl, g6.mono hle, by rw [bornE_get _ _ _ g1]; exact g7⟩
          · rw [bornE_get _ _ _ g1, g7]; exact .flat rfl
        · rename_i hf
          split at he
          · rename_i z hz
            split at he
            · rename_i hp
              cases he
              simp only [Bool.and_eq_true] at hp
              obtain rfl := rk.of_flat hp.1
              have g1 := findE_now hf h2.list.1 h2.list.2
              have hzz : VRel m h z z := VRel.plain hp.2
              have hle := le_put (m := m) (o' := .map (es0 ++ [(k', z, clock)]) (clock + 1) false) hb (by simp)
              refine writes_put ?_ (put_map (fs' := fs.push { key := k', val := z, born := clock }) s hb hm ?_) (pair_rel (hzz.mono hle) (b' := goInt clock) (.flat rfl))
              · simp only [Instr.mapEntry, Sem.run_bind, run_under hu, Result.andThen_ok, run_getMap h1, hck, run_findKey hku g1, run_zeroP hz, run_setMap h1, Sem.run_pure]
              · exact (h2.mono hle).push ⟨hp.1, rfl, hzz.mono hle, rfl⟩
            · cases he
          · cases he
    · cases he
  · cases he

theorem stampE_find {b : Int} : ∀ {es : List (Value × Value × Nat)} {fs : List MapEntry} {i j : Nat} {k : Value}, stampE b es i = some (j, k) → es.length = fs.length →
    (∀ (i : Nat) (e : Value × Value × Nat) (f : MapEntry), es[i]? = some e → fs[i]? = some f → AI.flat e.1 = true ∧ f.key = e.1 ∧ VRel m h e.2.1 f.val ∧ f.born = e.2.2) →
    ∃ j', j = i + j' ∧ fs.findIdx? (fun e => (e.born : Int) == b) = some j' ∧ ∃ e, es[j']? = some e ∧ k = e.1
  | [], fs, i, j, k, he, hl, hr => by simp [stampE] at he
  | e :: es, [], i, j, k, he, hl, hr => by simp at hl
  | e :: es, f :: fs, i, j, k, he, hl, hr => by
    obtain ⟨h1, h2, h3, h4⟩ := hr 0 e f rfl rfl
    simp only [stampE] at he
    split at he
    · rename_i hq
      cases he
      refine ⟨0, rfl, ?_, e, rfl, rfl⟩
      simp only [List.findIdx?_cons, h4, hq, if_true]
    · rename_i hq
      obtain ⟨j', g1, g2, e', g3, g4⟩ := stampE_find he (by simpa using hl) (fun i e f a b => hr (i + 1) e f (by simpa using a) (by simpa using b))
      refine ⟨j' + 1, by omega, ?_, e', by simpa using g3, g4⟩
      simp only [List.findIdx?_cons, h4]
      simp only [hq, g2]
      rfl

theorem aEntryStore_sound (s : Sim m h w) {t : TypeId} {x k v x' k' v' : Value} {es : List Eff} (he : aEntryStore h x k v = some es) (rx : VRel m h x x') (rk : VRel m h k k') (rv : VRel m h v v') :
    ∃ b o w', es = [.put b o] ∧ (Instr.entryStore t x' k' v').run P w = .ok () w' ∧ Go1 m h w m (updH h b o) w' := by
  unfold aEntryStore at he
  split at he
  · rename_i b kd st
    obtain ⟨r, rfl, hh⟩ := rx.of_map
    obtain rfl := rk.of_int
    split at he
    · rename_i es0 clock hb
      rcases hh with hh | ⟨y, hm⟩
      · rw [hb] at hh; cases hh
      · obtain ⟨fs, h1, h2⟩ := s.maps hb hm
        split at he
        · rename_i i key hst
          cases he
          obtain ⟨j', g1, g2, e, g3, g4⟩ := stampE_find hst h2.list.1 h2.list.2
          rw [Nat.zero_add] at g1; subst g1
          refine ⟨_, _, _, rfl, ?_, put_map (fs' := fs.modify i fun e => { e with val := v' }) s hb hm ?_⟩
          · have g2' : fs.findIdx? (fun e => (e.born : Int) == st) = some i := by
              rw [← g2]
              cases fs; simp
            simp only [Instr.entryStore, Sem.run_bind, Sem.run_pure, run_getMap h1, Result.andThen_ok, asInt, asIntOf, g2', run_setMap h1]
          · have hle := le_put (m := m) (o' := .map (setE es0 i (key, v, bornE es0 i)) clock false) hb (by simp)
            refine (h2.mono hle).set fun e' g' q1 q2 => ?_
            obtain ⟨p1, p2, p3, p4⟩ := h2.2 i e' g' q1 q2
            rw [g3] at q1; cases q1
            subst g4
            exact ⟨p1, p2, rv.mono hle, by rw [bornE_get _ _ _ g3]; exact p4⟩
        · cases he
    · cases he
  · cases he

theorem aDelete_sound (s : Sim m h w) {sz : Nat} {ts : Array TypeId} {ty : TypeId} {xs : List Value} {xs' : Array Value} {v : Value} {es : List Eff} (he : aDelete P h ts.toList xs = some (v, es)) (rs : VRelL m h xs xs'.toList) :
    Writes P m h w sz es v ((Builtin.delete_ ts ty xs').run P w) := by
  unfold aDelete at he
  split at he
  · rename_i t tr x k xr hts
    have h0 := typ0 hts
    obtain ⟨x', k', a0, rx, a1, rk⟩ := arr1 rs
    split at he
    · rename_i key elem hu
      split at he
      · rename_i d hk
        split at he
        · rename_i hkf
          cases he
          obtain ⟨hku, hck⟩ := keyKind_under hk
          obtain rfl := rx.of_flat rfl
          refine writes_same s ?_ VRel.undef
          simp only [Builtin.delete_, h0, a0, a1, Sem.run_bind, run_under hu, Result.andThen_ok, hck, Sem.run_pure]
          rfl
        · cases he
      · rename_i d b hk
        obtain ⟨hku, hck⟩ := keyKind_under hk
        obtain ⟨r, rfl, hh⟩ := rx.of_map
        split at he
        · rename_i es0 clock hb
          rcases hh with hh | ⟨y, hm⟩
          · rw [hb] at hh; cases hh
          · obtain ⟨fs, h1, h2⟩ := s.maps hb hm
            split at he
            · cases he
            · rename_i i u hf
              cases he
              obtain ⟨e, f, g1, g2, g3, g4, g5, g6, g7, g8⟩ := hit_entry h2 hf
              obtain ⟨hke, hkf⟩ := keyEq_eq g3
              obtain rfl := rk.of_flat hkf
              refine writes_put (v' := .tuple #[]) ?_ (put_map (fs' := fs.eraseIdxIfInBounds i) s hb hm ?_) VRel.undef
              · simp only [Builtin.delete_, h0, a0, a1, Sem.run_bind, run_under hu, Result.andThen_ok, run_getMap h1, hck, run_findKey hku g8, run_setMap h1, Sem.run_pure]
              · exact (h2.mono (le_put hb (by simp))).drop i (List.getElem?_eq_some_iff.1 g1).1
            · rename_i hf
              split at he
              · rename_i hkf
                cases he
                obtain rfl := rk.of_flat hkf
                have g1 := findE_now hf h2.list.1 h2.list.2
                refine writes_same s ?_ VRel.undef
                simp only [Builtin.delete_, h0, a0, a1, Sem.run_bind, run_under hu, Result.andThen_ok, run_getMap h1, hck, run_findKey hku g1, run_setMap h1, Sem.run_pure, wput_same h1]
                rfl
              · cases he
        · cases he
      · cases he
    · cases he
  · cases he

theorem aStringToBytes_sound (s : Sim m h w) {sz : Nat} {src dst : TypeId} {x x' v : Value} {es : List Eff} (hsz : (∃ o, Eff.push o ∈ es) → h sz = none) (he : aStringToBytes P sz src dst x = some (v, es)) (rx : VRel m h x x') :
    Writes P m h w sz es v ((convert src dst x').run P w) := by
  unfold aStringToBytes at he
  split at he
  · rename_i u e str hs hd
    obtain rfl := rx.of_string
    split at he
    · rename_i hu1 hu2
      split at he
      · rename_i hmx
        cases he
        have hsz := hsz (by simp)
        have hrun := Lib.run_convert_string_bytes (P := P) w src dst e str hs hd hu1
        have hcap : str.size ≤ grownCap w str.size 0 e := by simp [grownCap, Question.cut]
        have hsize : (Lib.bytesCells w e str).size = grownCap w str.size 0 e := by
          have : str.data.size = str.size := rfl
          simp [Lib.bytesCells]; omega
        have hlen : (str.data.toList.map fun b => (Value.int .u8 b.toNat)).length = str.size := by simp
        -- the new row, its mark beyond its end
        have hgo : Go1 m h w (updM m sz (w.heap.size, 0, (Lib.bytesCells w e str).size)) (updH h sz (.cells e (str.data.toList.map fun b => .int .u8 b.toNat) false)) (Lib.bytesWorld w e str) := by
          have hb : ∀ m' h', Le m h m' h' → BRel m' h' (w.alloc (.cells (Lib.bytesCells w e str) e ((Lib.bytesCells w e str).size, (Lib.bytesCells w e str).size + 1))) (w.heap.size, 0, (Lib.bytesCells w e str).size) (.cells e (str.data.toList.map fun b => .int .u8 b.toNat) false) := by
            refine cells_new ?_ (by rw [hlen, hsize]; exact hcap) (fun j hj => by simp; omega)
            have : (Lib.bytesCells w e str).toList.take (str.data.toList.map fun b => (Value.int .u8 b.toNat)).length = str.data.toList.map fun b => .int .u8 b.toNat := by
              rw [Lib.bytesCells, Array.toList_append, Array.toList_map]
              rw [List.take_left' rfl]
            rw [this]
            exact VRelL.flats (map_u8_flat _)
          have g := push_go (o := .cells e (str.data.toList.map fun b => .int .u8 b.toNat) false) s hsz hb
          refine Go1.other g ?_ rfl rfl rfl
          apply Array.ext'
          apply List.ext_getElem?
          intro i
          have h1 : (w.alloc (.cells (Lib.bytesCells w e str) e ((Lib.bytesCells w e str).size, (Lib.bytesCells w e str).size + 1))).heap = w.heap.push (.cells (Lib.bytesCells w e str) e ((Lib.bytesCells w e str).size, (Lib.bytesCells w e str).size + 1)) := rfl
          rw [Array.getElem?_toList, Array.getElem?_toList, h1, Array.getElem?_push]
          by_cases hi : i = w.heap.size
          · subst hi
            rw [if_pos rfl, Lib.bytesWorld_at_new]
          · rw [if_neg hi]
            by_cases hi2 : i < w.heap.size
            · rw [Lib.bytesWorld_at_old w e str i hi2]
            · rw [Array.getElem?_eq_none (by rw [Lib.bytesWorld_size]; omega), Array.getElem?_eq_none (by omega)]
        refine ⟨_, _, _, hrun, hgo, ?_⟩
        refine .slice hcap (.inr ⟨0, _, updM_self, .inl rfl, fun hq => by omega, fun _ => ?_⟩)
        rw [hsize]; omega
      · cases he
    · cases he
  · cases he

/-! ### All operations that write -/
/-- What an operation of a text comes to, if it writes. -/
def WritesN (P : Program) (m : BM) (h : HG) (w : World) (sz : Nat) (es : List Eff) (v : Value) (r : Result Next) : Prop :=
  ∃ w' m', Go1 m h w m' (effG h sz es) w' ∧ ((∃ v', r = .ok (.value v') w' ∧ VRel m' (effG h sz es) v v') ∨ (r = .ok .skip w' ∧ v = undef))
theorem Writes.next {sz : Nat} {es : List Eff} {v : Value} {s : Sem Value} (hl : Writes P m h w sz es v (s.run P w)) : WritesN P m h w sz es v ((do pure (.value (← s)) : Sem Next).run P w) := by
  obtain ⟨v', w', m', h1, h2, h3⟩ := hl
  exact ⟨w', m', h2, .inl ⟨v', by simp [h1], h3⟩⟩
theorem unit_next {sz b : Nat} {o : Blk} {w' : World} {s : Sem Unit} (h1 : s.run P w = .ok () w') (h2 : Go1 m h w m (updH h b o) w') : WritesN P m h w sz [.put b o] undef ((do s; pure .skip : Sem Next).run P w) :=
  ⟨w', m, h2, .inr ⟨by simp [h1], rfl⟩⟩

theorem opB_sound (s : Sim m h w) {ρ ρ' : Operand → Value} {o : Oper} {sz : Nat} {v : Value} {es : List Eff} (hsz : (∃ o, Eff.push o ∈ es) → h sz = none) (he : opB P ρ sz h o = some (v, es)) (hr : ∀ x ∈ o.op.operands.toList, VRel m h (ρ x) (ρ' x)) :
    WritesN P m h w sz es v ((execOp ρ' o).run P w) := by
  obtain ⟨dst, op, type, pos, after, guard⟩ := o
  unfold opB at he
  simp only at he hr
  split at he
  · rename_i t a x
    obtain ⟨z, hz, hvo⟩ := Option.map_eq_some_iff.1 he
    cases hvo
    obtain ⟨b, o, w', rfl, h1, h2⟩ := aStore_sound (P := P) s hz (hr a (by simp [Op.operands])) (hr x (by simp [Op.operands]))
    exact unit_next (s := Instr.storeAt t (ρ' a) (ρ' x)) h1 h2
  · rename_i t a k x
    obtain ⟨z, hz, hvo⟩ := Option.map_eq_some_iff.1 he
    cases hvo
    obtain ⟨b, o, w', rfl, h1, h2⟩ := aUpdate_sound (P := P) s hz (hr a (by simp [Op.operands])) (hr k (by simp [Op.operands])) (hr x (by simp [Op.operands]))
    exact unit_next (s := Instr.mapUpdate t (ρ' a) (ρ' k) (ρ' x)) h1 h2
  · rename_i t a k x
    obtain ⟨z, hz, hvo⟩ := Option.map_eq_some_iff.1 he
    cases hvo
    obtain ⟨b, o, w', rfl, h1, h2⟩ := aUpdate_sound (P := P) s hz (hr a (by simp [Op.operands])) (hr k (by simp [Op.operands])) (hr x (by simp [Op.operands]))
    exact unit_next (s := Instr.mapUpdate t (ρ' a) (ρ' k) (ρ' x)) h1 h2
  · rename_i t a k
    exact (aEntry_sound (P := P) s he (hr a (by simp [Op.operands])) (hr k (by simp [Op.operands]))).next
  · rename_i t a k x
    obtain ⟨z, hz, hvo⟩ := Option.map_eq_some_iff.1 he
    cases hvo
    obtain ⟨b, o, w', rfl, h1, h2⟩ := aEntryStore_sound (P := P) (t := t) s hz (hr a (by simp [Op.operands])) (hr k (by simp [Op.operands])) (hr x (by simp [Op.operands]))
    exact unit_next (s := Instr.entryStore t (ρ' a) (ρ' k) (ρ' x)) h1 h2
  · rename_i src dst x
    exact (aStringToBytes_sound (P := P) s hsz he (hr x (by simp [Op.operands]))).next
  · rename_i c
    have hargs : ∀ b, c.callee = .builtin b → VRelL m h (c.args.toList.map ρ) (c.args.map ρ').toList := by
      intro b hcal
      rw [Array.toList_map]
      exact VRelL.map fun x hx => hr x (by simp only [Op.operands, Call.operands, hcal, Array.toList_append, List.mem_append]; exact .inr hx)
    split at he
    · rename_i hcal
      have := (aAppend_sound (P := P) (ty := type) s hsz he (hargs _ hcal)).next
      simp only [execOp, resolve, hcal, Sem.run_bind, Sem.run_pure, Result.andThen_ok, invoke, builtin]
      simpa using this
    · rename_i hcal
      have := (aCopy_sound (P := P) (sz := sz) (ty := type) s he (hargs _ hcal)).next
      simp only [execOp, resolve, hcal, Sem.run_bind, Sem.run_pure, Result.andThen_ok, invoke, builtin]
      simpa using this
    · rename_i hcal
      have := (aClear_sound (P := P) (sz := sz) (ty := type) s he (hargs _ hcal)).next
      simp only [execOp, resolve, hcal, Sem.run_bind, Sem.run_pure, Result.andThen_ok, invoke, builtin]
      simpa using this
    · rename_i hcal
      have := (aDelete_sound (P := P) (sz := sz) (ty := type) s he (hargs _ hcal)).next
      simp only [execOp, resolve, hcal, Sem.run_bind, Sem.run_pure, Result.andThen_ok, invoke, builtin]
      simpa using this
    · cases he
  · cases he

/-- Effects on a heap, as a map from numbers. -/
theorem eff_get : ∀ (es : List Eff) (hp : Hp), (hp.eff es).get = effG hp.get hp.sz es
  | [], hp => rfl
  | .put b o :: es, hp => by
    have e : (hp.put b o).get = updH hp.get b o := by funext x; rw [Hp.get_put]; rfl
    show ((hp.put b o).eff es).get = _
    rw [eff_get es, e]; rfl
  | .push o :: es, hp => by
    have e : (hp.push o).get = updH hp.get hp.sz o := by funext x; rw [Hp.get_push]; rfl
    show ((hp.push o).eff es).get = _
    rw [eff_get es, e]; rfl
end
end Go.Proofs.Ytjecepaaalfilaa.AI
