/- Soundness, 3: aggregates, rows, places; operations that look at no memory. -/
import Derived.Test.YtjecepaaalfilaaAi6
set_option linter.unusedVariables false
set_option linter.unusedSimpArgs false
namespace Go.Proofs.Ytjecepaaalfilaa.AI
open Go

/-! ### 1. putL -/
theorem putL_nil (cs : List Value) (n : Nat) : putL cs n [] = cs := by
  induction cs generalizing n with
  | nil => rfl
  | cons c cs ih => cases n with
    | zero => rfl
    | succ n => simp [putL, ih]
theorem putL_cons (v : Value) (vs : List Value) : ∀ (cs : List Value) (n : Nat), putL cs n (v :: vs) = putL (cs.set n v) (n + 1) vs
  | [], n => by simp [putL]
  | c :: cs, 0 => by
    simp only [putL, List.set_cons_zero]
  | c :: cs, n + 1 => by
    simp only [putL, List.set_cons_succ]
    rw [putL_cons v vs cs n]
theorem putL_length : ∀ (cs : List Value) (n : Nat) (vs : List Value), (putL cs n vs).length = cs.length
  | [], n, vs => by simp [putL]
  | c :: cs, 0, [] => rfl
  | c :: cs, 0, v :: vs => by simp [putL, putL_length cs 0 vs]
  | c :: cs, n + 1, vs => by simp [putL, putL_length cs n vs]
theorem putL_get : ∀ (cs : List Value) (n : Nat) (vs : List Value) (i : Nat), (putL cs n vs)[i]? = if n ≤ i ∧ i < n + vs.length ∧ i < cs.length then vs[i - n]? else cs[i]?
  | [], n, vs, i => by simp [putL]
  | c :: cs, 0, [], i => by simp [putL]
  | c :: cs, 0, v :: vs, i => by
    cases i with
    | zero => simp [putL]
    | succ i =>
      simp only [putL, List.getElem?_cons_succ, putL_get cs 0 vs i, List.length_cons]
      by_cases hc : 0 ≤ i ∧ i < 0 + vs.length ∧ i < cs.length
      · rw [if_pos hc, if_pos ⟨by omega, by omega, by omega⟩]; simp
      · rw [if_neg hc, if_neg (by omega)]
  | c :: cs, n + 1, vs, i => by
    cases i with
    | zero => simp [putL]
    | succ i =>
      simp only [putL, List.getElem?_cons_succ, putL_get cs n vs i, List.length_cons]
      by_cases hc : n ≤ i ∧ i < n + vs.length ∧ i < cs.length
      · rw [if_pos hc, if_pos ⟨by omega, by omega, by omega⟩, show i + 1 - (n + 1) = i - n from by omega]
      · rw [if_neg hc, if_neg (by omega)]

section
variable {P : Program} {w : World} {m : BM} {h : HG}

theorem VRelL.put {as bs vs us : List Value} (r : VRelL m h as bs) (s : VRelL m h vs us) (n : Nat) : VRelL m h (putL as n vs) (putL bs n us) := by
  refine ⟨by rw [putL_length, putL_length, r.1], fun i v v' h1 h2 => ?_⟩
  rw [putL_get] at h1 h2
  by_cases hc : n ≤ i ∧ i < n + vs.length ∧ i < as.length
  · rw [if_pos hc] at h1
    rw [if_pos ⟨hc.1, by rw [← s.1]; exact hc.2.1, by rw [← r.1]; exact hc.2.2⟩] at h2
    exact s.2 _ _ _ h1 h2
  · rw [if_neg hc] at h1
    rw [if_neg (by rw [← s.1, ← r.1]; exact hc)] at h2
    exact r.2 _ _ _ h1 h2

theorem foldl_put (off : Nat) : ∀ (vs : List Value) (k : Nat) (cs : Array Value),
    ((vs.zipIdx k).foldl (fun (cs : Array Value) (x : Value × Nat) => cs.setIfInBounds (off + x.2) x.1) cs).toList = putL cs.toList (off + k) vs
  | [], k, cs => by simp [putL_nil]
  | v :: vs, k, cs => by
    rw [List.zipIdx_cons, List.foldl_cons, foldl_put off vs (k + 1), putL_cons]
    simp [Nat.add_assoc]

/-- The parts of a literal. -/
def PRel (m : BM) (h : HG) : List (Nat × Value) → List (Nat × Value) → Prop
  | [], [] => True
  | p :: ps, q :: qs => p.1 = q.1 ∧ VRel m h p.2 q.2 ∧ PRel m h ps qs
  | _, _ => False

theorem aFill_sound {place : Nat → Option (Nat × Nat)} : ∀ {ps qs : List (Nat × Value)} {cs : List Value} {ds : Array Value} {r : List Value}, aFill place cs ps = some r → PRel m h ps qs →
    VRelL m h cs ds.toList → ∃ r', Instr.fill place ds qs = some r' ∧ VRelL m h r r'.toList ∧ r.length = cs.length
  | [], [], cs, ds, r, he, _, rc => by simp [aFill] at he; subst he; exact ⟨ds, rfl, rc, rfl⟩
  | [], q :: qs, _, _, _, _, hp, _ => hp.elim
  | p :: ps, [], _, _, _, _, hp, _ => hp.elim
  | (i, v) :: ps, (j, u) :: qs, cs, ds, r, he, hp, rc => by
    obtain ⟨h1, h2, h3⟩ := hp
    simp only at h1 h2
    subst h1
    have hc := h2.cells
    have hl : u.cells.size = (cellsL v).length := by rw [hc.1, ← cells_toList]; simp
    have hd : cs.length = ds.size := by simpa using rc.1
    simp only [aFill] at he
    split at he
    · cases he
    · rename_i off size hpl
      split at he
      · cases he
      · rename_i hb
        have hb' : ¬ (u.cells.size ≠ size || decide (off + u.cells.size > ds.size)) = true := by rw [hl, ← hd]; simpa using hb
        have e : (u.cells.zipIdx.foldl (fun (cs : Array Value) (x : Value × Nat) => cs.setIfInBounds (off + x.2) x.1) ds).toList = putL ds.toList off (cellsL u) := by
          rw [← cells_toList, ← Array.foldl_toList, Array.toList_zipIdx]
          exact foldl_put off _ 0 _
        obtain ⟨r', hr', hrr, hlen⟩ := aFill_sound (ds := u.cells.zipIdx.foldl (fun (cs : Array Value) (x : Value × Nat) => cs.setIfInBounds (off + x.2) x.1) ds) he h3 (by rw [e]; exact rc.put hc off)
        refine ⟨r', ?_, hrr, by rw [hlen, putL_length]⟩
        simp only [Instr.fill, hpl]
        rw [if_neg (by simpa using hb')]
        exact hr'

theorem run_places : ∀ {fs : List Field} {ps : List (Nat × Nat)}, placesOf P fs = some ps →
    (fs.mapM fun f => do pure (f.offset, ← sizeOf f.type) : Sem (List (Nat × Nat))).run P w = .ok ps w
  | [], ps, he => by simp [placesOf] at he; subst he; simp
  | f :: fs, ps, he => by
    simp only [placesOf] at he
    split at he
    · rename_i n r hn hr
      cases he
      have ih := run_places hr
      rw [List.mapM_cons]
      simp only [Sem.run_bind, Sem.run_pure, run_size hn, Result.andThen_ok, ih]
    · cases he

theorem aBuild_sound {t : TypeId} {ps : List (Nat × Value)} {qs : Array (Nat × Value)} {v : Value} (he : aBuild P t ps = some v) (hp : PRel m h ps qs.toList) :
    ∃ v', (Instr.build t qs).run P w = .ok v' w ∧ VRel m h v v' := by
  unfold aBuild at he
  split at he
  · cases he
  · rename_i zero hz
    obtain ⟨z, hz1, hz2, hz3⟩ := run_zero (w := w) hz
    have hzr : VRelL m h zero z.cells.toList := by rw [cells_toList, hz2]; exact VRelL.flats hz3
    split at he
    · rename_i fields hu
      split at he
      · cases he
      · rename_i places hpl
        obtain ⟨cs, hc, rfl⟩ := Option.map_eq_some_iff.1 he
        obtain ⟨r', hr', hrr, _⟩ := aFill_sound hc hp hzr
        refine ⟨.agg r', ?_, by have := VRel.agg' hrr; simpa using this⟩
        have hm := run_places (P := P) (w := w) hpl
        simp only [Instr.build, Sem.run_bind, hz1, Result.andThen_ok, run_under hu]
        rw [Array.mapM_eq_mapM_toList]
        simp only [Sem.run_map, hm, Result.andThen_ok]
        have e : (fun x : Nat => (places.toArray)[x]?) = fun x => places[x]? := by funext x; simp
        rw [e, hr']
        rfl
    · rename_i n elem hu
      split at he
      · cases he
      · rename_i size hs
        obtain ⟨cs, hc, rfl⟩ := Option.map_eq_some_iff.1 he
        obtain ⟨r', hr', hrr, _⟩ := aFill_sound hc hp hzr
        refine ⟨.agg r', ?_, by have := VRel.agg' hrr; simpa using this⟩
        simp only [Instr.build, Sem.run_bind, hz1, Result.andThen_ok, run_under hu, run_size hs, hr']
        rfl
    · cases he

/-! ### 2. A row of noughts -/
theorem repL_length (z : List Value) : ∀ n, (repL z n).length = n * z.length
  | 0 => by simp [repL]
  | n + 1 => by simp [repL, repL_length z n, Nat.succ_mul]; omega
theorem repL_get (z : List Value) : ∀ n i, i < n * z.length → (repL z n)[i]? = z[i % z.length]?
  | 0, i, hi => by simp at hi
  | n + 1, i, hi => by
    simp only [repL]
    by_cases hz : i < z.length
    · rw [List.getElem?_append_left hz, Nat.mod_eq_of_lt hz]
    · rw [List.getElem?_append_right (by omega), repL_get z n (i - z.length) (by rw [Nat.succ_mul] at hi; omega)]
      congr 1
      rw [← Nat.mod_eq_sub_mod (by omega)]
theorem range_zero (z : Array Value) (n : Nat) (hz : n * z.size = 0 ∨ 0 < z.size) : ((Array.range (n * z.size)).map (z[· % z.size]!)).toList = repL z.toList n := by
  apply List.ext_getElem?
  intro i
  by_cases hi : i < n * z.size
  · rw [repL_get _ _ _ (by simpa using hi)]
    have h0 : 0 < z.size := by
      rcases hz with hz | hz
      · omega
      · exact hz
    have hm : i % z.size < z.size := Nat.mod_lt _ h0
    simp only [Array.toList_map, Array.toList_range, List.getElem?_map, Array.length_toList]
    rw [List.getElem?_range hi]
    simp [hm]
  · rw [List.getElem?_eq_none (by simp; omega), List.getElem?_eq_none (by rw [repL_length]; simpa using hi)]
theorem repL_flat {z : List Value} (hz : z.all AI.flat = true) : ∀ n, (repL z n).all AI.flat = true
  | 0 => rfl
  | n + 1 => by simp only [repL, List.all_append, hz, repL_flat hz n, Bool.and_self]

/-! ### 3. A new block -/
def updH (h : HG) (b : Nat) (o : Blk) : HG := fun x => if x = b then some o else h x
def updM (m : BM) (b : Nat) (x : Nat × Nat × Nat) : BM := fun y => if y = b then some x else m y

theorem Le.push {sz : Nat} {o : Blk} {x : Nat × Nat × Nat} (hs : h sz = none) (hm : m sz = none) : Le m h (updM m sz x) (updH h sz o) := by
  constructor
  · intro b hb
    unfold updH
    by_cases e : b = sz
    · subst e; rw [hs] at hb; cases hb
    · rw [if_neg e]; exact hb
  · intro b y hb
    refine .inr ?_
    unfold updM
    by_cases e : b = sz
    · subst e; rw [hm] at hb; cases hb
    · rw [if_neg e]; exact hb

theorem BRel.mono {m' : BM} {h' : HG} {w' : World} (l : Le m h m' h') {x : Nat × Nat × Nat} {o : Blk} (r : BRel m h w x o) (hw : w'.heap[x.1]? = w.heap[x.1]?) : BRel m' h' w' x o := by
  cases o with
  | cells ty cs ro =>
    obtain ⟨c, fr, h1, h2, h3, h4, h5⟩ := r
    exact ⟨c, fr, by rw [hw]; exact h1, h2, h3, fun i v v' a b => (h4 i v v' a b).mono l, h5⟩
  | map es cl ro =>
    obtain ⟨fs, h1, h2, h3⟩ := r
    exact ⟨fs, by rw [hw]; exact h1, h2, fun i e f a b => by
      obtain ⟨p, q, r, s⟩ := h3 i e f a b
      exact ⟨p, q, r.mono l, s⟩⟩
  | dead => trivial

theorem push_go (s : Sim m h w) {sz : Nat} (hs : h sz = none) {o : Blk} {obj : Obj} {E : Nat}
    (hb : ∀ m' h', Le m h m' h' → BRel m' h' (w.alloc obj) (w.heap.size, 0, E) o) :
    Go1 m h w (updM m sz (w.heap.size, 0, E)) (updH h sz o) (w.alloc obj) := by
  have hm : m sz = none := by
    cases e : m sz with
    | none => rfl
    | some x => obtain ⟨o, ho, _⟩ := s.dom _ _ e; rw [hs] at ho; cases ho
  have l := Le.push (m := m) (h := h) (o := o) (x := (w.heap.size, 0, E)) hs hm
  have hold : ∀ k, k < w.heap.size → (w.alloc obj).heap[k]? = w.heap[k]? := fun k hk => by
    show (w.heap.push obj)[k]? = _
    rw [Array.getElem?_push, if_neg (by omega)]
  have hrw : ∀ b, b ≠ sz → updH h sz o b = h b := fun b e => by unfold updH; rw [if_neg e]
  refine ⟨l, ⟨?_, ?_⟩, by show _ ≤ (w.heap.push obj).size; simp, ?_, ?_, ?_, fun c oc hc _ => by
    have e : c ≠ sz := by intro e; subst e; rw [hc] at hs; cases hs
    rw [hrw c e]; exact hc, ?_, ?_, rfl, rfl, rfl⟩
  · intro b x hx
    by_cases e : b = sz
    · subst e
      simp [updM] at hx
      subst hx
      exact ⟨o, by simp [updH], hb _ _ l⟩
    · have hx' : m b = some x := by simpa [updM, e] using hx
      obtain ⟨o', ho', hr⟩ := s.dom b x hx'
      refine ⟨o', by rw [hrw b e]; exact ho', ?_⟩
      by_cases hd : o' = .dead
      · subst hd; trivial
      · refine hr.mono l (hold _ (s.lt hx' ?_))
        unfold live?
        rw [ho']
        cases o' <;> simp_all
  · intro b b' x x' hx hx' hr hl hxx
    by_cases e : b = sz <;> by_cases e' : b' = sz
    · rw [e, e']
    · subst e
      simp [updM] at hx
      subst hx
      have hx2 : m b' = some x' := by simpa [updM, e'] using hx'
      have hl2 : live? h b' = true := by unfold live? at hl ⊢; rwa [hrw b' e'] at hl
      have := s.lt hx2 hl2
      simp at hxx; omega
    · subst e'
      simp [updM] at hx'
      subst hx'
      have hx2 : m b = some x := by simpa [updM, e] using hx
      have hr2 : rw? h b = true := by unfold rw? at hr ⊢; rwa [hrw b e] at hr
      have := s.lt hx2 (live_of_rw hr2)
      simp at hxx; omega
    · have hx2 : m b = some x := by simpa [updM, e] using hx
      have hx3 : m b' = some x' := by simpa [updM, e'] using hx'
      exact s.inj b b' x x' hx2 hx3 (by unfold rw? at hr ⊢; rwa [hrw b e] at hr) (by unfold live? at hl ⊢; rwa [hrw b' e'] at hl) hxx
  · intro b x hx
    by_cases e : b = sz
    · subst e
      simp [updM] at hx
      subst hx
      exact .inr (.inl (Nat.le_refl _))
    · exact .inl (by simpa [updM, e] using hx)
  · intro r hr _
    exact hold r hr
  · intro b o' hb' hm'
    unfold updM
    by_cases e : b = sz
    · subst e; rw [hs] at hb'; cases hb'
    · rw [if_neg e]; exact hm'
  · intro b o' hb'
    by_cases e : b = sz
    · subst e; exact ⟨o, by simp [updH]⟩
    · exact ⟨o', by rw [hrw b e]; exact hb'⟩
  · intro b x hx hr
    by_cases e : b = sz
    · subst e; rw [hm] at hx; cases hx
    · unfold rw? at hr ⊢; rwa [hrw b e] at hr

/-- A new row: all of it is told, or its beginning. -/
theorem cells_new {cs : List Value} {c : Array Value} {ty : TypeId} {fr : Nat × Nat} (hc : VRelL m h cs (c.toList.take cs.length)) (hl : cs.length ≤ c.size) (hf : ∀ j, j < c.size → ¬ (fr.1 ≤ j ∧ j < fr.2)) :
    ∀ m' h', Le m h m' h' → BRel m' h' (w.alloc (.cells c ty fr)) (w.heap.size, 0, c.size) (.cells ty cs false) := by
  intro m' h' l
  refine ⟨c, fr, by show (w.heap.push _)[_]? = _; simp, by simpa using hl, Nat.le_refl _, ?_, fun _ => hf, fun h => by cases h⟩
  intro i v v' h1 h2
  have hi : i < cs.length := (List.getElem?_eq_some_iff.1 h1).1
  refine (hc.2 i v v' h1 ?_).mono l
  rw [List.getElem?_take, if_pos hi]
  simpa using h2
theorem cells_new_all {cs : List Value} {c : Array Value} {ty : TypeId} (hc : VRelL m h cs c.toList) :
    ∀ m' h', Le m h m' h' → BRel m' h' (w.alloc (.cells c ty)) (w.heap.size, 0, c.size) (.cells ty cs false) := by
  have hl : cs.length = c.size := by simpa using hc.1
  refine cells_new (fr := (0, 0)) ?_ (by omega) (fun j _ => by simp)
  rw [List.take_of_length_le (by simp; omega)]
  exact hc
theorem updM_self {sz : Nat} {x : Nat × Nat × Nat} : updM m sz x sz = some x := by simp [updM]
end
end Go.Proofs.Ytjecepaaalfilaa.AI
