/- Soundness, 1: how the abstract interpreter's values and heaps stand to the model's. -/
import Derived.Test.YtjecepaaalfilaaAi4
import Derived.Laws.Sem
import Derived.Laws.Strings
import Derived.Lib.Strings
set_option linter.unusedVariables false
set_option linter.unusedSimpArgs false
namespace Go.Proofs.Ytjecepaaalfilaa.AI
open Go

/-- Where a block lies: its block in the model, where it begins there, where its room ends. -/
abbrev BM := Nat → Option (Nat × Nat × Nat)
abbrev HG := Nat → Option Blk

/-- What is known of a capacity. -/
def CapOk (c len cap base E : Nat) : Prop := (c % 3 = 0 → cap = len) ∧ (c % 3 = 1 → base + cap * (c / 3) = E)

inductive VRel (m : BM) (h : HG) : Value → Value → Prop where
  | flat {v : Value} : flat v = true → VRel m h v v
  | ptr {b off r off' : Nat} : (h b = some .dead ∨ ∃ δ E, m b = some (r, δ, E) ∧ off' = δ + off) →
      VRel m h (.pointer (some ⟨b, off, none⟩)) (.pointer (some ⟨r, off', none⟩))
  | slice {b off len c r off' cap : Nat} : len ≤ cap →
      (h b = some .dead ∨ ∃ δ E, m b = some (r, δ, E) ∧ (off' = δ + off ∨ cap = 0) ∧ CapOk c len cap (δ + off) E) →
      VRel m h (.slice (some ⟨b, off, none⟩) len c) (.slice (some ⟨r, off', none⟩) len cap)
  | map {b r : Nat} : (h b = some .dead ∨ ∃ x, m b = some (r, x)) → VRel m h (.map (some b)) (.map (some r))
  | func {f : FuncId} {a a' c c' : Array Value} : a.size = a'.size → (∀ (i : Nat) (v v' : Value), a[i]? = some v → a'[i]? = some v' → VRel m h v v') →
      c.size = c'.size → (∀ (i : Nat) (v v' : Value), c[i]? = some v → c'[i]? = some v' → VRel m h v v') → VRel m h (.func (.func f) a c) (.func (.func f) a' c')
  | agg {a a' : Array Value} : a.size = a'.size → (∀ (i : Nat) (v v' : Value), a[i]? = some v → a'[i]? = some v' → VRel m h v v') → VRel m h (.agg a) (.agg a')
  | tuple {a a' : Array Value} : a.size = a'.size → (∀ (i : Nat) (v v' : Value), a[i]? = some v → a'[i]? = some v' → VRel m h v v') → VRel m h (.tuple a) (.tuple a')

def VRelL (m : BM) (h : HG) (as bs : List Value) : Prop := as.length = bs.length ∧ ∀ (i : Nat) (v v' : Value), as[i]? = some v → bs[i]? = some v' → VRel m h v v'
def VRelA (m : BM) (h : HG) (as bs : Array Value) : Prop := as.size = bs.size ∧ ∀ (i : Nat) (v v' : Value), as[i]? = some v → bs[i]? = some v' → VRel m h v v'

theorem VRelA.toList {m : BM} {h : HG} {as bs : Array Value} (r : VRelA m h as bs) : VRelL m h as.toList bs.toList :=
  ⟨by simpa using r.1, fun i v v' h1 h2 => r.2 i v v' (by simpa using h1) (by simpa using h2)⟩
theorem VRelL.toArray {m : BM} {h : HG} {as bs : List Value} (r : VRelL m h as bs) : VRelA m h as.toArray bs.toArray :=
  ⟨by simpa using r.1, fun i v v' h1 h2 => r.2 i v v' (by simpa using h1) (by simpa using h2)⟩
theorem VRelL.nil {m : BM} {h : HG} : VRelL m h [] [] := ⟨rfl, fun i v v' h1 _ => by simp at h1⟩
theorem VRelL.cons {m : BM} {h : HG} {a b : Value} {as bs : List Value} (r : VRel m h a b) (rs : VRelL m h as bs) : VRelL m h (a :: as) (b :: bs) :=
  ⟨by simp [rs.1], fun i v v' h1 h2 => by
    cases i with
    | zero => simp at h1 h2; subst h1; subst h2; exact r
    | succ i => exact rs.2 i v v' (by simpa using h1) (by simpa using h2)⟩
theorem VRelL.of_cons {m : BM} {h : HG} {a : Value} {as bs : List Value} (r : VRelL m h (a :: as) bs) : ∃ b bs', bs = b :: bs' ∧ VRel m h a b ∧ VRelL m h as bs' := by
  cases bs with
  | nil => simp [VRelL] at r
  | cons b bs =>
    refine ⟨b, bs, rfl, r.2 0 a b rfl rfl, by simpa using r.1, fun i v v' h1 h2 => r.2 (i + 1) v v' (by simpa using h1) (by simpa using h2)⟩
theorem VRelL.of_nil {m : BM} {h : HG} {bs : List Value} (r : VRelL m h [] bs) : bs = [] := by
  have := r.1; simp at this; exact List.eq_nil_of_length_eq_zero this.symm
theorem VRelL.append {m : BM} {h : HG} {as bs cs ds : List Value} (r : VRelL m h as bs) (s : VRelL m h cs ds) : VRelL m h (as ++ cs) (bs ++ ds) := by
  induction as generalizing bs with
  | nil => rw [r.of_nil]; exact s
  | cons a as ih =>
    obtain ⟨b, bs', rfl, h1, h2⟩ := r.of_cons
    exact VRelL.cons h1 (ih h2)
theorem VRelL.drop {m : BM} {h : HG} {as bs : List Value} (r : VRelL m h as bs) (n : Nat) : VRelL m h (as.drop n) (bs.drop n) :=
  ⟨by simp [r.1], fun i v v' h1 h2 => r.2 (n + i) v v' (by simpa using h1) (by simpa using h2)⟩
theorem VRelL.take {m : BM} {h : HG} {as bs : List Value} (r : VRelL m h as bs) (n : Nat) : VRelL m h (as.take n) (bs.take n) :=
  ⟨by simp [r.1], fun i v v' h1 h2 => by
    rw [List.getElem?_take] at h1 h2
    split at h1
    · rename_i hi; rw [if_pos hi] at h2; exact r.2 i v v' h1 h2
    · cases h1⟩

/-- A flat value is related to itself alone. -/
theorem VRel.of_flat {m : BM} {h : HG} {v v' : Value} (hf : AI.flat v = true) (r : VRel m h v v') : v' = v := by
  cases r <;> first | rfl | (simp [AI.flat] at hf)
theorem VRelL.of_flats {m : BM} {h : HG} : ∀ {as bs : List Value}, as.all AI.flat = true → VRelL m h as bs → bs = as
  | [], bs, _, r => r.of_nil
  | a :: as, bs, hf, r => by
    obtain ⟨b, bs', rfl, h1, h2⟩ := r.of_cons
    simp only [List.all_cons, Bool.and_eq_true] at hf
    rw [h1.of_flat hf.1, VRelL.of_flats hf.2 h2]
theorem VRelL.flats {m : BM} {h : HG} : ∀ {as : List Value}, as.all AI.flat = true → VRelL m h as as
  | [], _ => VRelL.nil
  | a :: as, hf => by
    simp only [List.all_cons, Bool.and_eq_true] at hf
    exact VRelL.cons (.flat hf.1) (VRelL.flats hf.2)
theorem VRel.agg' {m : BM} {h : HG} {as bs : List Value} (r : VRelL m h as bs) : VRel m h (.agg as.toArray) (.agg bs.toArray) := .agg r.toArray.1 r.toArray.2
theorem VRel.plain {m : BM} {h : HG} {v : Value} (hp : AI.plain v = true) : VRel m h v v := by
  cases v with
  | agg cs =>
    have := VRelL.flats (m := m) (h := h) (as := cs.toList) (by simpa [AI.plain] using hp)
    simpa using VRel.agg' this
  | func fn a b =>
    cases fn <;> simp [AI.plain, AI.flat] at hp
    obtain ⟨rfl, rfl⟩ := hp
    exact .func rfl (fun i v v' h1 _ => by simp at h1) rfl (fun i v v' h1 _ => by simp at h1)
  | _ => exact .flat (by simpa [AI.plain] using hp)
theorem VRel.undef {m : BM} {h : HG} : VRel m h Go.undef Go.undef := .tuple rfl fun i v v' h1 _ => by simp at h1
theorem VRel.fn {m : BM} {h : HG} (f : FuncId) : VRel m h (.func (.func f) #[] #[]) (.func (.func f) #[] #[]) :=
  .func rfl (fun i v v' h1 _ => by simp at h1) rfl (fun i v v' h1 _ => by simp at h1)

/-! what shape is related to what shape -/
theorem VRel.of_bool {m : BM} {h : HG} {b : Bool} {v : Value} (r : VRel m h (.bool b) v) : v = .bool b := r.of_flat rfl
theorem VRel.of_int {m : BM} {h : HG} {k : IntKind} {n : Int} {v : Value} (r : VRel m h (.int k n) v) : v = .int k n := r.of_flat rfl
theorem VRel.of_string {m : BM} {h : HG} {s : ByteArray} {v : Value} (r : VRel m h (.string s) v) : v = .string s := r.of_flat rfl
theorem VRel.of_agg {m : BM} {h : HG} {a : Array Value} {v : Value} (r : VRel m h (.agg a) v) : ∃ a', v = .agg a' ∧ VRelA m h a a' := by
  cases r with
  | flat hf => simp [AI.flat] at hf
  | agg h1 h2 => exact ⟨_, rfl, h1, h2⟩
theorem VRel.of_tuple {m : BM} {h : HG} {a : Array Value} {v : Value} (r : VRel m h (.tuple a) v) : ∃ a', v = .tuple a' ∧ VRelA m h a a' := by
  cases r with
  | flat hf => simp [AI.flat] at hf
  | tuple h1 h2 => exact ⟨_, rfl, h1, h2⟩
theorem VRel.of_ptr {m : BM} {h : HG} {a : Addr} {v : Value} (r : VRel m h (.pointer (some a)) v) : ∃ b off r off', a = ⟨b, off, none⟩ ∧ v = .pointer (some ⟨r, off', none⟩) ∧
    (h b = some .dead ∨ ∃ δ E, m b = some (r, δ, E) ∧ off' = δ + off) := by
  cases r with
  | flat hf => simp [AI.flat] at hf
  | ptr h1 => exact ⟨_, _, _, _, rfl, rfl, h1⟩
theorem VRel.of_slice {m : BM} {h : HG} {a : Addr} {len c : Nat} {v : Value} (r : VRel m h (.slice (some a) len c) v) : ∃ b off r off' cap, a = ⟨b, off, none⟩ ∧
    v = .slice (some ⟨r, off', none⟩) len cap ∧ len ≤ cap ∧ (h b = some .dead ∨ ∃ δ E, m b = some (r, δ, E) ∧ (off' = δ + off ∨ cap = 0) ∧ CapOk c len cap (δ + off) E) := by
  cases r with
  | flat hf => simp [AI.flat] at hf
  | slice h0 h1 => exact ⟨_, _, _, _, _, rfl, rfl, h0, h1⟩
theorem VRel.of_nilslice {m : BM} {h : HG} {len c : Nat} {v : Value} (r : VRel m h (.slice none len c) v) : len = 0 ∧ c = 0 ∧ v = .slice none 0 0 := by
  cases r with
  | flat hf =>
    cases len with
    | succ n => simp [AI.flat] at hf
    | zero => cases c with
      | succ n => simp [AI.flat] at hf
      | zero => exact ⟨rfl, rfl, rfl⟩
theorem VRel.of_map {m : BM} {h : HG} {b : Nat} {v : Value} (r : VRel m h (.map (some b)) v) : ∃ r, v = .map (some r) ∧ (h b = some .dead ∨ ∃ x, m b = some (r, x)) := by
  cases r with
  | flat hf => simp [AI.flat] at hf
  | map h1 => exact ⟨_, rfl, h1⟩
theorem VRel.of_func {m : BM} {h : HG} {f : FuncId} {a c : Array Value} {v : Value} (r : VRel m h (.func (.func f) a c) v) :
    ∃ a' c', v = .func (.func f) a' c' ∧ VRelA m h a a' ∧ VRelA m h c c' := by
  cases r with
  | flat hf => simp [AI.flat] at hf
  | func h1 h2 h3 h4 => exact ⟨_, _, rfl, ⟨h1, h2⟩, ⟨h3, h4⟩⟩

/-- The cells of related values are related. -/
theorem cells_toList (v : Value) : v.cells.toList = cellsL v := by cases v <;> rfl
theorem VRel.cells {m : BM} {h : HG} {v v' : Value} (r : VRel m h v v') : VRelL m h (cellsL v) (cellsL v') := by
  cases r with
  | agg h1 h2 => exact VRelA.toList ⟨h1, h2⟩
  | flat hf =>
    have : cellsL v = [v] := by cases v <;> first | rfl | (simp [AI.flat] at hf)
    rw [this]; exact .cons (.flat hf) .nil
  | ptr h1 => exact .cons (.ptr h1) .nil
  | slice h0 h1 => exact .cons (.slice h0 h1) .nil
  | map h1 => exact .cons (.map h1) .nil
  | func h1 h2 h3 h4 => exact .cons (.func h1 h2 h3 h4) .nil
  | tuple h1 h2 => exact .cons (.tuple h1 h2) .nil
theorem VRel.isOne {m : BM} {h : HG} {v v' : Value} (r : VRel m h v v') (ho : AI.isOne v = true) : v'.oneCell' = true := by
  cases r with
  | agg h1 h2 => simp [AI.isOne] at ho
  | tuple h1 h2 => simp [AI.isOne] at ho
  | flat hf => cases v <;> first | rfl | (simp [AI.flat] at hf)
  | _ => rfl

/-! ### Later heaps -/
structure Le (m : BM) (h : HG) (m' : BM) (h' : HG) : Prop where
  dead : ∀ b, h b = some .dead → h' b = some .dead
  keep : ∀ b x, m b = some x → h' b = some .dead ∨ m' b = some x
theorem Le.refl (m : BM) (h : HG) : Le m h m h := ⟨fun _ h => h, fun _ _ h => .inr h⟩
theorem Le.trans {m1 m2 m3 : BM} {h1 h2 h3 : HG} (a : Le m1 h1 m2 h2) (b : Le m2 h2 m3 h3) : Le m1 h1 m3 h3 :=
  ⟨fun x hx => b.dead x (a.dead x hx), fun x y hx => by
    rcases a.keep x y hx with h | h
    · exact .inl (b.dead x h)
    · exact b.keep x y h⟩
theorem VRel.mono {m m' : BM} {h h' : HG} (l : Le m h m' h') {v v' : Value} (r : VRel m h v v') : VRel m' h' v v' := by
  induction r with
  | flat hf => exact .flat hf
  | ptr h1 =>
    refine .ptr ?_
    rcases h1 with h1 | ⟨δ, E, h1, h2⟩
    · exact .inl (l.dead _ h1)
    · rcases l.keep _ _ h1 with h3 | h3
      · exact .inl h3
      · exact .inr ⟨δ, E, h3, h2⟩
  | slice h0 h1 =>
    refine .slice h0 ?_
    rcases h1 with h1 | ⟨δ, E, h1, h2⟩
    · exact .inl (l.dead _ h1)
    · rcases l.keep _ _ h1 with h3 | h3
      · exact .inl h3
      · exact .inr ⟨δ, E, h3, h2⟩
  | map h1 =>
    refine .map ?_
    rcases h1 with h1 | ⟨x, h1⟩
    · exact .inl (l.dead _ h1)
    · rcases l.keep _ _ h1 with h3 | h3
      · exact .inl h3
      · exact .inr ⟨x, h3⟩
  | func h1 _ h3 _ ih1 ih2 => exact .func h1 ih1 h3 ih2
  | agg h1 _ ih => exact .agg h1 ih
  | tuple h1 _ ih => exact .tuple h1 ih
theorem VRelL.mono {m m' : BM} {h h' : HG} (l : Le m h m' h') {as bs : List Value} (r : VRelL m h as bs) : VRelL m' h' as bs :=
  ⟨r.1, fun i v v' h1 h2 => (r.2 i v v' h1 h2).mono l⟩

/-! ### Heaps -/
def rw? (h : HG) (b : Nat) : Bool :=
  match h b with
  | some (.cells _ _ ro) => !ro
  | some (.map _ _ ro) => !ro
  | _ => false
def live? (h : HG) (b : Nat) : Bool :=
  match h b with
  | some .dead | none => false
  | _ => true

/-- The entries of a map. -/
def ERel (m : BM) (h : HG) (es : List (Value × Value × Nat)) (fs : Array MapEntry) : Prop :=
  es.length = fs.size ∧ ∀ (i : Nat) (e : Value × Value × Nat) (f : MapEntry), es[i]? = some e → fs[i]? = some f → AI.flat e.1 = true ∧ f.key = e.1 ∧ VRel m h e.2.1 f.val ∧ f.born = e.2.2

/-- A block that holds a map alone: where it is read-only, it is all of its row. -/
def keysBox : List Value → Bool
  | [.map (some _)] => true
  | _ => false
def BRel (m : BM) (h : HG) (w : World) (x : Nat × Nat × Nat) : Blk → Prop
  | .cells ty cs ro => ∃ c fr, w.heap[x.1]? = some (.cells c ty fr) ∧ x.2.1 + cs.length ≤ x.2.2 ∧ x.2.2 ≤ c.size ∧
      (∀ (i : Nat) (v v' : Value), cs[i]? = some v → c[x.2.1 + i]? = some v' → VRel m h v v') ∧ ((ro = false → ∀ j, j < c.size → ¬ (fr.1 ≤ j ∧ j < fr.2)) ∧ (ro = true → keysBox cs = true → x.2.1 = 0))
  | .map es clock ro => ∃ fs, w.heap[x.1]? = some (.map fs clock) ∧ ERel m h es fs
  | .dead => True

structure Sim (m : BM) (h : HG) (w : World) : Prop where
  dom : ∀ b x, m b = some x → ∃ o, h b = some o ∧ BRel m h w x o
  inj : ∀ b b' x x', m b = some x → m b' = some x' → rw? h b = true → live? h b' = true → x.1 = x'.1 → b = b'

theorem Sim.lt {m : BM} {h : HG} {w : World} (s : Sim m h w) {b : Nat} {x : Nat × Nat × Nat} (hb : m b = some x) (hl : live? h b = true) : x.1 < w.heap.size := by
  obtain ⟨o, ho, hr⟩ := s.dom b x hb
  cases o with
  | cells ty cs ro => obtain ⟨c, fr, hc, _⟩ := hr; exact (Array.getElem?_eq_some_iff.1 hc).1
  | map es cl ro => obtain ⟨fs, hc, _⟩ := hr; exact (Array.getElem?_eq_some_iff.1 hc).1
  | dead => simp [live?, ho] at hl

/-- What a piece of a run does. -/
structure Go1 (m : BM) (h : HG) (w : World) (m' : BM) (h' : HG) (w' : World) : Prop where
  le : Le m h m' h'
  sim : Sim m' h' w'
  size : w.heap.size ≤ w'.heap.size
  new : ∀ b x, m' b = some x → m b = some x ∨ w.heap.size ≤ x.1 ∨ ∃ b0 x0, m b0 = some x0 ∧ rw? h b0 = true ∧ x0.1 = x.1
  frame : ∀ r, r < w.heap.size → (∀ b x, m b = some x → rw? h b = true → x.1 ≠ r) → w'.heap[r]? = w.heap[r]?
  un : ∀ b o, h b = some o → m b = none → m' b = none
  idle : ∀ b o, h b = some o → m b = none → h' b = some o
  ex : ∀ b o, h b = some o → ∃ o', h' b = some o'
  rwb : ∀ b x, m b = some x → rw? h' b = true → rw? h b = true
  os : w'.os = w.os
  tape : w'.tape = w.tape
  output : w'.output = w.output

theorem Sim.heap {m : BM} {h : HG} {w w' : World} (s : Sim m h w) (e : w'.heap = w.heap) : Sim m h w' := by
  refine ⟨fun b x hx => ?_, s.inj⟩
  obtain ⟨o, ho, hr⟩ := s.dom b x hx
  refine ⟨o, ho, ?_⟩
  cases o <;> simp only [BRel, e] at hr ⊢ <;> exact hr

theorem Go1.refl {m : BM} {h : HG} {w : World} (s : Sim m h w) : Go1 m h w m h w :=
  ⟨Le.refl _ _, s, Nat.le_refl _, fun _ _ hx => .inl hx, fun _ _ _ => rfl, fun _ _ _ hm => hm, fun _ _ ho _ => ho, fun _ o ho => ⟨o, ho⟩, fun _ _ _ hr => hr, rfl, rfl, rfl⟩
/-- The worlds differ in what no block tells. -/
theorem Go1.heap {m m' : BM} {h h' : HG} {w w0 w' : World} (g : Go1 m h w0 m' h' w') (e : w0.heap = w.heap) (e1 : w0.os = w.os) (e2 : w0.tape = w.tape) (e3 : w0.output = w.output) : Go1 m h w m' h' w' :=
  ⟨g.le, g.sim, by rw [← e]; exact g.size, fun b x hx => by rw [← e]; exact g.new b x hx, fun r hr hb => by rw [← e] at hr ⊢; exact g.frame r hr hb, g.un, g.idle, g.ex, g.rwb, g.os.trans e1, g.tape.trans e2, g.output.trans e3⟩

theorem Go1.trans {m m1 m2 : BM} {h h1 h2 : HG} {w w1 w2 : World} (a : Go1 m h w m1 h1 w1) (b : Go1 m1 h1 w1 m2 h2 w2) : Go1 m h w m2 h2 w2 := by
  refine ⟨a.le.trans b.le, b.sim, Nat.le_trans a.size b.size, ?_, ?_, ?_, fun c o ho hm => b.idle c o (a.idle c o ho hm) (a.un c o ho hm), ?_, ?_, b.os.trans a.os, b.tape.trans a.tape, b.output.trans a.output⟩
  · intro c x hx
    rcases b.new c x hx with hx | hx | ⟨b0, x0, hx0, hr0, e0⟩
    · exact a.new c x hx
    · exact .inr (.inl (Nat.le_trans a.size hx))
    · rcases a.new b0 x0 hx0 with h3 | h3 | ⟨b1, x1, hx1, hr1, e1⟩
      · exact .inr (.inr ⟨b0, x0, h3, a.rwb b0 x0 h3 hr0, e0⟩)
      · exact .inr (.inl (by rw [← e0]; exact h3))
      · exact .inr (.inr ⟨b1, x1, hx1, hr1, e1.trans e0⟩)
  · intro r hr hh
    rw [b.frame r (Nat.lt_of_lt_of_le hr a.size) ?_, a.frame r hr hh]
    intro c x hx hrw e
    rcases a.new c x hx with h3 | h3 | ⟨b1, x1, hx1, hr1, e1⟩
    · exact hh c x h3 (a.rwb c x h3 hrw) e
    · omega
    · exact hh b1 x1 hx1 hr1 (e1.trans e)
  · intro c o ho hm
    obtain ⟨o', ho'⟩ := a.ex c o ho
    exact b.un c o' ho' (a.un c o ho hm)
  · intro c o ho
    obtain ⟨o', ho'⟩ := a.ex c o ho
    exact b.ex c o' ho'
  · intro c x hx hrw
    rcases a.le.keep c x hx with hd | hk
    · have := b.le.dead c hd
      unfold rw? at hrw
      rw [this] at hrw
      simp at hrw
    · exact a.rwb c x hx (b.rwb c x hk hrw)

theorem live_of_rw {h : HG} {b : Nat} (hr : rw? h b = true) : live? h b = true := by
  unfold rw? at hr; unfold live?
  split at hr <;> simp_all
end Go.Proofs.Ytjecepaaalfilaa.AI
