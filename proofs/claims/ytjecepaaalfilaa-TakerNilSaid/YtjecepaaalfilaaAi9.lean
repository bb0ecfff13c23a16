/- Soundness, 5: operations that only read memory. -/
import Derived.Test.YtjecepaaalfilaaAi8
import Derived.Laws.BytesArg
set_option linter.unusedVariables false
set_option linter.unusedSimpArgs false
namespace Go.Proofs.Ytjecepaaalfilaa.AI
open Go
section
variable {P : Program} {w : World} {m : BM} {h : HG}

theorem cell_of {r off : Nat} {c : Array Value} {ty : TypeId} {fr : Nat × Nat} (hc : w.heap[r]? = some (.cells c ty fr)) : w.cell? ⟨r, off, none⟩ = c[off]? := by
  simp [World.cell?, hc]
theorem frozen_of {r off : Nat} {c : Array Value} {ty : TypeId} {fr : Nat × Nat} (hc : w.heap[r]? = some (.cells c ty fr)) (hf : ¬ (fr.1 ≤ off ∧ off < fr.2)) : w.frozen? ⟨r, off, none⟩ = false := by
  obtain ⟨lo, hi⟩ := fr
  simp only [World.frozen?, hc]
  simp at hf ⊢
  omega
theorem run_load1 {r off : Nat} {c : Array Value} {ty : TypeId} {fr : Nat × Nat} {v : Value} {md : Mode} (hc : w.heap[r]? = some (.cells c ty fr)) (hv : c[off]? = some v) : (load ⟨r, off, none⟩ md).run P w = .ok v w := by
  simp [cell_of hc, hv]
theorem run_loadFrom {r : Nat} {c : Array Value} {ty : TypeId} {fr : Nat × Nat} (hc : w.heap[r]? = some (.cells c ty fr)) (off : Nat) : ∀ (n i : Nat) (acc : Array Value), off + i + n ≤ c.size →
    (loadCellsFrom ⟨r, off, none⟩ i n acc).run P w = .ok (acc ++ c.extract (off + i) (off + i + n)) w
  | 0, i, acc, hb => by simp [loadCellsFrom]; omega
  | n + 1, i, acc, hb => by
    have hv : c[off + i]? = some c[off + i] := Array.getElem?_eq_getElem (by omega)
    simp only [loadCellsFrom, addr_add, Sem.run_bind, run_load1 hc hv, Result.andThen_ok]
    rw [run_loadFrom hc off n (i + 1) _ (by omega)]
    congr 1
    apply Array.ext'
    simp only [Array.toList_append, Array.toList_push, Array.toList_extract, List.append_assoc, List.extract_eq_take_drop]
    congr 1
    have hl : off + i < c.toList.length := by simp; omega
    rw [show off + i + (n + 1) - (off + i) = n + 1 from by omega, show off + (i + 1) + n - (off + (i + 1)) = n from by omega]
    rw [List.drop_eq_getElem_cons hl, List.take_succ_cons]
    simp [Nat.add_assoc]
theorem run_loadCells {r off n : Nat} {c : Array Value} {ty : TypeId} {fr : Nat × Nat} (hc : w.heap[r]? = some (.cells c ty fr)) (hb : n = 0 ∨ off + n ≤ c.size) :
    (loadCells ⟨r, off, none⟩ n).run P w = .ok (c.extract off (off + n)) w := by
  unfold loadCells
  rcases hb with rfl | hb
  · simp [loadCellsFrom]; omega
  · rw [run_loadFrom hc off n 0 #[] (by omega)]
    simp

theorem ext_toList (c : Array Value) (a n : Nat) : (c.extract a (a + n)).toList = (c.toList.drop a).take n := by simp
theorem ext_toArray (c : Array Value) (a n : Nat) : ((c.toList.drop a).take n).toArray = c.extract a (a + n) := by
  apply Array.ext'; simp

/-- A live row: where it lies. -/
theorem Sim.row {s : Sim m h w} {b : Nat} {ty : TypeId} {cs : List Value} {ro : Bool} (hb : h b = some (.cells ty cs ro)) {x : Nat × Nat × Nat} (hx : m b = some x) :
    ∃ c fr, w.heap[x.1]? = some (.cells c ty fr) ∧ x.2.1 + cs.length ≤ x.2.2 ∧ x.2.2 ≤ c.size ∧
      (∀ (i : Nat) (v v' : Value), cs[i]? = some v → c[x.2.1 + i]? = some v' → VRel m h v v') ∧ ((ro = false → ∀ j, j < c.size → ¬ (fr.1 ≤ j ∧ j < fr.2)) ∧ (ro = true → keysBox cs = true → x.2.1 = 0)) := by
  obtain ⟨o, ho, hr⟩ := s.dom b x hx
  rw [hb] at ho; cases ho
  exact hr
/-- Cells that are read together. -/
theorem range_rel {cs : List Value} {c : Array Value} {δ off n : Nat} {r : List Value} (hr : getR cs off n = some r) (hl : δ + cs.length ≤ c.size)
    (hc : ∀ (i : Nat) (v v' : Value), cs[i]? = some v → c[δ + i]? = some v' → VRel m h v v') : VRelL m h r ((c.toList.drop (δ + off)).take n) ∧ (n = 0 ∨ off + n ≤ cs.length) ∧ r.length = n := by
  unfold getR at hr
  split at hr
  · rename_i hn
    cases hr
    have hb : n ≤ cs.length - off := by simp at hn; omega
    by_cases h0 : n = 0
    · subst h0
      exact ⟨⟨by simp, fun i v v' h1 h2 => by simp at h1⟩, .inl rfl, hn⟩
    · have hb2 : off + n ≤ cs.length := by omega
      refine ⟨⟨by simp; omega, ?_⟩, .inr hb2, hn⟩
      intro i v v' h1 h2
      rw [List.getElem?_take] at h1 h2
      split at h1
      · rename_i hi
        rw [if_pos hi] at h2
        rw [List.getElem?_drop] at h1 h2
        refine hc (off + i) v v' h1 ?_
        rw [← h2]; simp [Nat.add_assoc]
      · cases h1
  · cases hr

theorem aLoad_sound (s : Sim m h w) {t : TypeId} {x x' v : Value} (he : aLoad P h t x = some v) (rx : VRel m h x x') :
    ∃ v', (Instr.loadAt t x').run P w = .ok v' w ∧ VRel m h v v' := by
  unfold aLoad at he
  split at he
  · rename_i a
    obtain ⟨b, off, r, off', rfl, rfl, hh⟩ := rx.of_ptr
    split at he
    · rename_i ty cs ro hb
      rcases hh with hh | ⟨δ, E, hm, rfl⟩
      · dsimp only at hb; rw [hb] at hh; cases hh
      · obtain ⟨c, fr, h1, h2, h3, h4, _⟩ := Sim.row (s := s) hb hm
        dsimp only at h1 h2 h3 h4
        split at he
        · rename_i n ha hn
          obtain ⟨rr, hr, rfl⟩ := Option.map_eq_some_iff.1 he
          dsimp only at hr
          obtain ⟨h5, h6, _⟩ := range_rel hr (by omega) h4
          refine ⟨.agg (c.extract (δ + off) (δ + off + n)), ?_, by have := VRel.agg' h5; rwa [ext_toArray] at this⟩
          simp only [Instr.loadAt, Instr.sureAddr, Sem.run_bind, Sem.run_pure, Result.andThen_ok, loadVar, run_agg ha, if_true, run_size hn]
          rw [run_loadCells h1 (by rcases h6 with h6 | h6; exact .inl h6; exact .inr (by omega))]
          rfl
        · rename_i n ha hn
          dsimp only at he
          have hlt : off < cs.length := (List.getElem?_eq_some_iff.1 he).1
          have hv : c[δ + off]? = some c[δ + off] := Array.getElem?_eq_getElem (by omega)
          refine ⟨_, ?_, h4 off v _ he hv⟩
          simp only [Instr.loadAt, Instr.sureAddr, Sem.run_bind, Sem.run_pure, Result.andThen_ok, loadVar, run_agg ha, Bool.false_eq_true, if_false]
          exact run_load1 h1 hv
        · cases he
    · cases he
  · cases he

/-! ### Maps -/
theorem keyEq_same (d : TypeDesc) (a b : Value) : keyEq d a b = Instr.sameNow d a b ∨ keyEq d a b = none := by
  unfold keyEq
  split
  · left; rfl
  · left; simp [Instr.sameNow, strEq_beq]
  · left; rfl
  · right; rfl
theorem run_checkKey {t : TypeId} {d : TypeDesc} (hu : P.underlying t = some d) (hd : (∃ k, d = .int k) ∨ d = .string ∨ d = .bool) (n : Nat) (e : Bool) (k : Value) (w' : World) :
    (Instr.checkKey e (n + 1) t k).run P w' = .ok () w' := by
  rw [Instr.checkKey]
  simp only [Sem.run_bind, run_under hu, Result.andThen_ok]
  rcases hd with ⟨kk, rfl⟩ | rfl | rfl <;> rfl
theorem keyKind_under {t : TypeId} {d : TypeDesc} (hk : keyKind P t = some d) : P.underlying t = some d ∧ (∀ e k w', (Instr.checkKey e 10000 t k).run P w' = .ok () w') := by
  unfold keyKind at hk
  split at hk
  · rename_i k hu; cases hk
    exact ⟨hu, run_checkKey hu (by simp) 9999⟩
  · rename_i hu; cases hk
    exact ⟨hu, run_checkKey hu (by simp) 9999⟩
  · rename_i hu; cases hk
    exact ⟨hu, run_checkKey hu (by simp) 9999⟩
  · cases hk
theorem ERel.list {es : List (Value × Value × Nat)} {fs : Array MapEntry} (r : ERel m h es fs) : es.length = fs.toList.length ∧
    ∀ (i : Nat) (e : Value × Value × Nat) (f : MapEntry), es[i]? = some e → fs.toList[i]? = some f → AI.flat e.1 = true ∧ f.key = e.1 ∧ VRel m h e.2.1 f.val ∧ f.born = e.2.2 :=
  ⟨by simpa using r.1, fun i e f h1 h2 => r.2 i e f h1 (by simpa using h2)⟩
theorem findE_now {d : TypeDesc} {k : Value} : ∀ {es : List (Value × Value × Nat)} {fs : List MapEntry} {i : Nat} {r : Option (Nat × Value)}, findE d k es i = some r → es.length = fs.length →
    (∀ (i : Nat) (e : Value × Value × Nat) (f : MapEntry), es[i]? = some e → fs[i]? = some f → AI.flat e.1 = true ∧ f.key = e.1 ∧ VRel m h e.2.1 f.val ∧ f.born = e.2.2) →
    match r with
    | none => Instr.findNow d k fs i = some none
    | some (j, v) => ∃ v', Instr.findNow d k fs i = some (some (j, v')) ∧ VRel m h v v' ∧ i ≤ j ∧ j < i + es.length ∧ ∃ e, es[j - i]? = some e ∧ v = e.2.1 ∧ keyEq d k e.1 = some true
  | [], fs, i, r, he, hl, hr => by
    simp [findE] at he; subst he
    cases fs with
    | nil => rfl
    | cons f fs => simp at hl
  | e :: es, [], i, r, he, hl, hr => by simp at hl
  | e :: es, f :: fs, i, r, he, hl, hr => by
    obtain ⟨h1, h2, h3, h4⟩ := hr 0 e f rfl rfl
    simp only [findE] at he
    split at he
    · rename_i hk
      cases he
      refine ⟨f.val, ?_, h3, Nat.le_refl _, by simp, e, by simp, rfl, hk⟩
      rcases keyEq_same d k e.1 with hs | hs
      · simp only [Instr.findNow, h2, ← hs, hk]
      · rw [hk] at hs; cases hs
    · rename_i hk
      have ih := findE_now (i := i + 1) he (by simpa using hl) (fun i e f a b => hr (i + 1) e f (by simpa using a) (by simpa using b))
      have hs : Instr.sameNow d k f.key = some false := by
        rcases keyEq_same d k e.1 with hs | hs
        · rw [h2, ← hs, hk]
        · rw [hk] at hs; cases hs
      cases r with
      | none => simp only [Instr.findNow, hs]; exact ih
      | some p =>
        obtain ⟨j, v⟩ := p
        obtain ⟨v', g1, g2, g3, g4, x, g5, g6⟩ := ih
        refine ⟨v', by simp only [Instr.findNow, hs]; exact g1, g2, by omega, by simp; omega, x, ?_, g6⟩
        rw [show j - i = (j - (i + 1)) + 1 from by omega]
        simpa using g5
    · cases he
theorem Sim.maps (s : Sim m h w) {b : Nat} {es : List (Value × Value × Nat)} {cl : Nat} {ro : Bool} (hb : h b = some (.map es cl ro)) {x : Nat × Nat × Nat} (hx : m b = some x) :
    ∃ fs, w.heap[x.1]? = some (.map fs cl) ∧ ERel m h es fs := by
  obtain ⟨o, ho, hr⟩ := s.dom b x hx
  rw [hb] at ho; cases ho
  exact hr
theorem run_getMap {r : Nat} {fs : Array MapEntry} {cl : Nat} (hf : w.heap[r]? = some (.map fs cl)) : (getObj r).run P w = .ok (.map fs cl) w := by
  simp [getObj, Sem.run, hf]
theorem run_findKey {key : TypeId} {d : TypeDesc} {k : Value} {es : List MapEntry} {r : Option (Nat × Value)} (hu : P.underlying key = some d) (hn : Instr.findNow d k es 0 = some r) : (Instr.findKey key k es).run P w = .ok r w := by
  simp [Instr.findKey, run_under hu, hn]
theorem run_zeroP {t : TypeId} {z : Value} (hz : (P.info? t).bind (·.zero) = some z) : (zeroValue t).run P w = .ok z w := by
  cases hi : P.info? t with
  | none => simp [hi] at hz
  | some i => simp [hi] at hz; simp [zeroValue, run_info hi, hz]

/-- What a map's value is read as. -/
def MapAt (w : World) (x : Value) (fs : Array MapEntry) : Prop := (x = .map none ∧ fs = #[]) ∨ ∃ r cl, x = .map (some r) ∧ w.heap[r]? = some (.map fs cl)
theorem lookup_hit {t key elem : TypeId} {x k : Value} {ok : Bool} {fs : Array MapEntry} {j : Nat} {v : Value} (hu : P.underlying t = some (.map key elem)) (hr : MapAt w x fs)
    (hck : ∀ e k w', (Instr.checkKey e 10000 key k).run P w' = .ok () w') (hf : (Instr.findKey key k fs.toList).run P w = .ok (some (j, v)) w) :
    (Instr.lookup t x k ok).run P w = .ok (if ok then .tuple #[v, .bool true] else v) w := by
  rcases hr with ⟨rfl, rfl⟩ | ⟨r, cl, rfl, hr⟩
  · simp only [Instr.lookup, Sem.run_bind, run_under hu, Result.andThen_ok, Sem.run_pure, hck, hf]
  · simp only [Instr.lookup, Sem.run_bind, run_under hu, Result.andThen_ok, Sem.run_pure, hck, hf, run_getMap hr]
theorem lookup_miss {t key elem : TypeId} {x k z : Value} {ok : Bool} {fs : Array MapEntry} (hu : P.underlying t = some (.map key elem)) (hr : MapAt w x fs)
    (hck : ∀ e k w', (Instr.checkKey e 10000 key k).run P w' = .ok () w') (hf : (Instr.findKey key k fs.toList).run P w = .ok none w) (hz : (zeroValue elem).run P w = .ok z w) :
    (Instr.lookup t x k ok).run P w = .ok (if ok then .tuple #[z, .bool false] else z) w := by
  rcases hr with ⟨rfl, rfl⟩ | ⟨r, cl, rfl, hr⟩
  · simp only [Instr.lookup, Sem.run_bind, run_under hu, Result.andThen_ok, Sem.run_pure, hck, hf, hz]
  · simp only [Instr.lookup, Sem.run_bind, run_under hu, Result.andThen_ok, Sem.run_pure, hck, hf, run_getMap hr, hz]

theorem aLookup_sound (s : Sim m h w) {t : TypeId} {x x' k k' v : Value} {ok : Bool} (he : aLookup P h t x k ok = some v) (rx : VRel m h x x') (rk : VRel m h k k') :
    ∃ v', (Instr.lookup t x' k' ok).run P w = .ok v' w ∧ VRel m h v v' := by
  unfold aLookup at he
  split at he
  · rename_i key elem hu
    split at he
    · rename_i d z hk hz
      split at he
      · rename_i hp
        simp only [Bool.and_eq_true] at hp
        obtain rfl := rk.of_flat hp.2
        obtain ⟨hku, hck⟩ := keyKind_under hk
        have pair : ∀ (a b : Value) (c : Bool), VRel m h a b → VRel m h (if ok then .tuple #[a, .bool c] else a) (if ok then .tuple #[b, .bool c] else b) := by
          intro a b c r
          cases ok
          · exact r
          · refine .tuple rfl fun i v v' h1 h2 => ?_
            cases i with
            | zero => simp at h1 h2; subst h1; subst h2; exact r
            | succ i => cases i with
              | zero => simp at h1 h2; subst h1; subst h2; exact .flat rfl
              | succ i => simp at h1
        split at he
        · cases he
        · rename_i es hes
          have hread : ∃ fs : Array MapEntry, MapAt w x' fs ∧ ERel m h es fs := by
            split at hes
            · cases hes
              obtain rfl := rx.of_flat rfl
              exact ⟨#[], .inl ⟨rfl, rfl⟩, rfl, fun i e f h1 _ => by simp at h1⟩
            · rename_i b
              obtain ⟨r, rfl, hh⟩ := rx.of_map
              split at hes
              · rename_i es' cl ro hb
                cases hes
                rcases hh with hh | ⟨y, hm⟩
                · rw [hb] at hh; cases hh
                · obtain ⟨fs, h1, h2⟩ := s.maps hb hm
                  exact ⟨fs, .inr ⟨r, cl, rfl, h1⟩, h2⟩
              · cases hes
            · cases hes
          obtain ⟨fs, hfs, hrel⟩ := hread
          have hlist := hrel.list
          split at he
          · cases he
          · rename_i j u hfd
            cases he
            obtain ⟨v', g1, g2, _⟩ := findE_now hfd hlist.1 hlist.2
            refine ⟨_, ?_, pair _ _ true g2⟩
            exact lookup_hit hu hfs hck (run_findKey hku g1)
          · rename_i hfd
            cases he
            have g1 := findE_now hfd hlist.1 hlist.2
            refine ⟨_, ?_, pair _ _ false (VRel.plain hp.1)⟩
            exact lookup_miss hu hfs hck (run_findKey hku g1) (run_zeroP hz)
      · cases he
    · cases he
  · cases he

/-! ### Bytes, lengths, raw pointer -/
theorem bytesOf_nums : ∀ {cs : List Value} {bs : List UInt8}, bytesOf cs = some bs → ∃ xs : List Int, cs = xs.map (Value.int .u8) ∧ bs = xs.map fun n => UInt8.ofNat n.toNat
  | [], bs, he => by simp [bytesOf] at he; subst he; exact ⟨[], rfl, rfl⟩
  | c :: cs, bs, he => by
    unfold bytesOf at he
    split at he
    · rename_i hc; cases hc
    · rename_i n r hc
      cases hc
      obtain ⟨bs', h1, rfl⟩ := Option.map_eq_some_iff.1 he
      obtain ⟨xs, rfl, rfl⟩ := bytesOf_nums h1
      exact ⟨n :: xs, rfl, rfl⟩
    · cases he
theorem aBytesToString_sound (s : Sim m h w) {src dst : TypeId} {x x' v : Value} (he : aBytesToString P h src dst x = some v) (rx : VRel m h x x') :
    (convert src dst x').run P w = .ok v w ∧ AI.flat v = true := by
  unfold aBytesToString at he
  split at he
  · rename_i e hs hd
    obtain rfl := rx.of_flat rfl
    split at he
    · rename_i hu; cases he
      exact ⟨run_convert_bytes_nil w src e hs hu 0 0 dst hd, rfl⟩
    · cases he
  · rename_i e a len c hs hd
    obtain ⟨b, off, r, off', cap, rfl, rfl, hlc, hh⟩ := rx.of_slice
    split at he
    · rename_i ty cs ro hu hb
      split at he
      · rename_i rr hr
        obtain ⟨bs, h1, rfl⟩ := Option.map_eq_some_iff.1 he
        obtain ⟨xs, rfl, rfl⟩ := bytesOf_nums h1
        rcases hh with hh | ⟨δ, E, hm, h2, h3⟩
        · dsimp only at hb; rw [hb] at hh; cases hh
        · obtain ⟨cc, fr, g1, g2, g3, g4, _⟩ := Sim.row (s := s) hb hm
          dsimp only at g1 g2 g3 g4 hr
          obtain ⟨h5, h6, h7⟩ := range_rel hr (by omega) g4
          have hf : (xs.map (Value.int .u8)).all AI.flat = true := by simp [AI.flat]
          have h8 := h5.of_flats hf
          refine ⟨?_, rfl⟩
          have := run_convert_bytes_arg (P := P) w src e hs hu r off' len cap xs (by simpa using h7) (fun i hi => ?_) dst hd
          · exact this
          · rcases h2 with rfl | h2
            · rw [cell_of g1]
              have h9 : ((cc.toList.drop (δ + off)).take len)[i]? = some (.int .u8 (xs.getD i 0)) := by
                rw [h8]
                have hx : i < xs.length := by simp at h7; omega
                simp [List.getElem?_map, List.getElem?_eq_getElem hx, List.getD_eq_getElem?_getD]
              rw [List.getElem?_take, if_pos hi, List.getElem?_drop] at h9
              simpa using h9
            · omega
      · cases he
    · cases he
  · cases he
theorem aUnsafe_sound (s : Sim m h w) {src dst : TypeId} {x x' v : Value} (he : aUnsafe P h src dst x = some v) (rx : VRel m h x x') :
    ∃ v', (convert src dst x').run P w = .ok v' w ∧ VRel m h v v' := by
  unfold aUnsafe at he
  split at he
  · rename_i t hs hd
    obtain rfl := rx.of_flat rfl
    cases he
    exact ⟨_, by simp [convert, run_under hs, run_under hd, Conv.unsafePointer], .flat rfl⟩
  · rename_i t a hs hd
    obtain ⟨b, off, r, off', rfl, rfl, hh⟩ := rx.of_ptr
    split at he
    · rename_i ty cs ro n hb hn
      split at he
      · cases he
      · rename_i hc
        cases he
        rcases hh with hh | ⟨δ, E, hm, rfl⟩
        · dsimp only at hb; rw [hb] at hh; cases hh
        · obtain ⟨cc, fr, g1, g2, g3, g4, _⟩ := Sim.row (s := s) hb hm
          dsimp only at g1 g2 g3 g4 hc
          refine ⟨_, ?_, .ptr (.inr ⟨δ, E, hm, rfl⟩)⟩
          have hsh : w.shape? r = some (ty, cc.size) := by simp [World.shape?, g1]
          have hnc : ¬ cc.size ≤ δ + off := by omega
          have hn0 : n ≠ 0 := by omega
          simp [convert, run_under hs, run_under hd, Conv.unsafePointer, Conv.seenAt, viewAt, hsh, cellsIn, run_size hn, hnc, hn0]
    · cases he
  · rename_i t hs hd
    obtain rfl := rx.of_flat rfl
    cases he
    exact ⟨_, by simp [convert, run_under hs, run_under hd, Conv.unsafePointer], .flat rfl⟩
  · cases he
theorem aLenMap_sound (s : Sim m h w) {t : TypeId} {x x' v : Value} {ts : Array TypeId} {ty : TypeId} {xs : Array Value} (he : aLenMap P h t x = some v) (rx : VRel m h x x') (ht : ts[0]? = some t) (hx : xs[0]? = some x') :
    (Builtin.len_ ts ty xs).run P w = .ok v w ∧ AI.flat v = true := by
  unfold aLenMap at he
  split at he
  · rename_i b hu
    obtain ⟨r, rfl, hh⟩ := rx.of_map
    split at he
    · rename_i es cl ro hb
      cases he
      rcases hh with hh | ⟨y, hm⟩
      · rw [hb] at hh; cases hh
      · obtain ⟨fs, h1, h2⟩ := s.maps hb hm
        exact ⟨by simp [Builtin.len_, ht, hx, run_under hu, run_getMap h1, h2.1], rfl⟩
    · cases he
  · cases he

theorem opR_sound (s : Sim m h w) {ρ ρ' : Operand → Value} {o : Oper} {v : Value} (he : opR P ρ h o = some v) (hr : ∀ x ∈ o.op.operands.toList, VRel m h (ρ x) (ρ' x)) :
    ∃ v', (execOp ρ' o).run P w = .ok (.value v') w ∧ VRel m h v v' := by
  obtain ⟨dst, op, type, pos, after, guard⟩ := o
  unfold opR at he
  simp only at he hr
  split at he
  · obtain ⟨v', h1, h2⟩ := aLoad_sound (P := P) s he (hr _ (by simp [Op.operands]))
    exact ⟨v', by simp [execOp, h1], h2⟩
  · rename_i t x k ok
    obtain ⟨v', h1, h2⟩ := aLookup_sound (P := P) s he (hr x (by simp [Op.operands])) (hr k (by simp [Op.operands]))
    exact ⟨v', by simp [execOp, h1], h2⟩
  · rename_i src dst x
    split at he
    · rename_i u hu
      cases he
      obtain ⟨h1, h2⟩ := aBytesToString_sound (P := P) s hu (hr x (by simp [Op.operands]))
      exact ⟨v, by simp [execOp, h1], .flat h2⟩
    · obtain ⟨v', h1, h2⟩ := aUnsafe_sound (P := P) s he (hr x (by simp [Op.operands]))
      exact ⟨v', by simp [execOp, h1], h2⟩
  · rename_i c
    split at he
    · rename_i t tr x xr hcal hts hxs
      have hx : VRel m h (ρ x) (ρ' x) := hr x (by
        simp only [Op.operands, Call.operands, hcal, Array.toList_append, List.mem_append]
        exact .inr (by rw [hxs]; exact .head _))
      have ht0 : c.argTypes[0]? = some t := by
        have : c.argTypes.toList[0]? = some t := by rw [hts]; rfl
        simpa using this
      have hx0 : (c.args.map ρ')[0]? = some (ρ' x) := by
        have : c.args.toList[0]? = some x := by rw [hxs]; rfl
        have : c.args[0]? = some x := by simpa using this
        simp [this]
      obtain ⟨h1, h2⟩ := aLenMap_sound (P := P) (ty := type) s he hx ht0 hx0
      refine ⟨v, ?_, .flat h2⟩
      simp only [execOp, resolve, hcal, Sem.run_bind, Sem.run_pure, Result.andThen_ok, invoke, builtin, h1]
    · cases he
  · cases he
end
end Go.Proofs.Ytjecepaaalfilaa.AI
