/- Arguments opened: what reads as data lies in memory so. -/
import Derived.Test.YtgeoommlmddgpaaAi35
import Derived.Deep.Slices
set_option linter.unusedVariables false
set_option linter.unusedSimpArgs false
namespace Go.Proofs.Ytgeoommlmddgpaa.AI
open Go Go.RowKit Go.ChangeShapes

section
variable {H : Type} {enc : TypeId × Value → H} {P : Program} {w : World} {base : Nat} {spare : Nat → Bool} {held : Bool} {fuel : Nat} {t : TypeId} {cs : List Value} {x : DataW H × List MemPlace}
theorem trod_int {k : IntKind} (ht : P.underlying t = some (.int k)) (h : DataW.trod enc P w base spare held fuel t cs = some x) : ∃ n, cs = [.int k n] := by
  cases fuel with
  | zero => cases h
  | succ fuel =>
    unfold DataW.trod at h
    rw [ht] at h
    split at h <;> first
      | (rename_i heq; cases heq; split at h
         · rename_i hk; obtain ⟨rfl, _⟩ := hk; exact ⟨_, rfl⟩
         · cases h)
      | (rename_i heq; cases heq)
      | cases h
theorem trod_bool (ht : P.underlying t = some .bool) (h : DataW.trod enc P w base spare held fuel t cs = some x) : ∃ b, cs = [.bool b] := by
  cases fuel with
  | zero => cases h
  | succ fuel =>
    unfold DataW.trod at h
    rw [ht] at h
    split at h <;> first
      | exact ⟨_, rfl⟩
      | (rename_i heq; cases heq)
      | cases h
theorem trod_str (ht : P.underlying t = some .string) (h : DataW.trod enc P w base spare held fuel t cs = some x) : ∃ s, cs = [.string s] := by
  cases fuel with
  | zero => cases h
  | succ fuel =>
    unfold DataW.trod at h
    rw [ht] at h
    split at h <;> first
      | exact ⟨_, rfl⟩
      | (rename_i heq; cases heq)
      | cases h
/-- A row's cell, of which only the length is told. -/
def lenV (v : Value) : Nat := match v with
  | .slice _ n _ => n
  | _ => 0
theorem trod_len {e : TypeId} (ht : P.underlying t = some (.slice e)) (h : DataW.trod enc P w base spare held fuel t cs = some x) : ∃ v, cs = [v] ∧ ∀ (m : BM) (g : HG), VRel m g (.chan (some (lenV v))) v := by
  rcases DataW.trod_slice ht h with ⟨rfl, _⟩ | ⟨a, n, c, _, _, _, _, rfl, _, _, hn, _⟩
  · exact ⟨_, rfl, fun _ _ => .blind0⟩
  · exact ⟨_, rfl, fun _ _ => .blind hn⟩
theorem trod_field {fs : Array Field} (ht : P.underlying t = some (.struct fs)) (h : DataW.trod enc P w base spare held fuel t cs = some x) :
    cs.length = P.cellsOf t ∧ ∀ (i : Nat) (f : Field), fs[i]? = some f → ∃ n y, DataW.trod enc P w base spare held n f.type ((cs.drop f.offset).take (P.cellsOf f.type)) = some y := by
  obtain ⟨xs, n, _, _, h1, h2, h3⟩ := DataW.trod_struct ht h
  refine ⟨h1, fun i f hf => ?_⟩
  have hi : i < fs.size := (Array.getElem?_eq_some_iff.1 hf).1
  have := h3 i f hf
  rw [List.getElem?_eq_getElem (by omega)] at this
  exact ⟨n, _, this⟩
end

/-! ### Blocks that stay what they are -/
def inert : Value → Bool
  | .bool _ | .int _ _ | .string _ | .chan _ => true
  | v => flat v
theorem inert_sh {v : Value} (h : inert v = true) (K : List Nat) (B : Nat) : sh2 K B v = v := by
  cases v with
  | pointer a => cases a with
    | none => rfl
    | some a => simp [inert, AI.flat] at h
  | slice a n c => cases a with
    | none => rfl
    | some a => simp [inert, AI.flat] at h
  | map a => cases a with
    | none => rfl
    | some a => simp [inert, AI.flat] at h
  | func f a b => simp [inert, AI.flat] at h
  | agg cs => simp [inert, AI.flat] at h
  | tuple cs => simp [inert, AI.flat] at h
  | _ => rfl
theorem inert_ren {v : Value} (h : inert v = true) (K : List Nat) : ren2 K v = v := by
  cases v with
  | pointer a => cases a with
    | none => rfl
    | some a => simp [inert, AI.flat] at h
  | slice a n c => cases a with
    | none => rfl
    | some a => simp [inert, AI.flat] at h
  | map a => cases a with
    | none => rfl
    | some a => simp [inert, AI.flat] at h
  | func f a b => simp [inert, AI.flat] at h
  | agg cs => simp [inert, AI.flat] at h
  | tuple cs => simp [inert, AI.flat] at h
  | _ => rfl
theorem inert_ok {v : Value} (h : inert v = true) : ok2 v = true ∧ nice2 v = true := by
  cases v <;> first
    | exact ⟨rfl, rfl⟩
    | (simp [inert, AI.flat] at h)
def inertB : Blk → Bool
  | .cells _ cs _ => cs.all inert
  | .map .. => false
  | .dead => true
theorem inert_fixed {o : Blk} (h : inertB o = true) (p : Nat) : Fixed p o := by
  cases o with
  | cells ty cs ro =>
    have h' : ∀ v ∈ cs, inert v = true := fun v hv => List.all_eq_true.1 h v hv
    refine ⟨List.all_eq_true.2 fun v hv => (inert_ok (h' v hv)).2, fun K _ => ?_⟩
    show Blk.cells ty (cs.map (ren2 K)) ro = _
    rw [List.map_congr_left (fun v hv => inert_ren (h' v hv) K)]; simp
  | map => cases h
  | dead => exact ⟨rfl, fun K _ => rfl⟩
theorem inert_shBlk {o : Blk} (h : inertB o = true) (K : List Nat) (B : Nat) : shBlk K B o = o := by
  cases o with
  | cells ty cs ro =>
    have h' : ∀ v ∈ cs, inert v = true := fun v hv => List.all_eq_true.1 h v hv
    show Blk.cells ty (cs.map (sh2 K B)) ro = _
    rw [List.map_congr_left (fun v hv => inert_sh (h' v hv) K B)]; simp
  | map => cases h
  | dead => rfl
theorem inert_start {o : Blk} (h : inertB o = true) : startOk o = true := by
  cases o with
  | cells ty cs ro =>
    have h' : ∀ v ∈ cs, inert v = true := fun v hv => List.all_eq_true.1 h v hv
    refine Bool.and_eq_true_iff.2 ⟨List.all_eq_true.2 fun v hv => (inert_ok (h' v hv)).1, ?_⟩
    cases hk : keysBox cs with
    | false => simp
    | true =>
      unfold keysBox at hk
      split at hk
      · have := h' _ (.head _); simp [inert, AI.flat] at this
      · cases hk
  | map => cases h
  | dead => rfl

/-! ### A row of elements of k cells -/
theorem flat_get {α β : Type} (f : α → List β) (k : Nat) : ∀ (ps : List α), (∀ p ∈ ps, (f p).length = k) → ∀ (i j : Nat) (p : α), ps[i]? = some p → j < k → (ps.flatMap f)[i * k + j]? = (f p)[j]?
  | [], _, i, j, p, h, _ => by cases h
  | q :: ps, hk, 0, j, p, h, hj => by
    simp only [List.getElem?_cons_zero, Option.some.injEq] at h
    subst h
    rw [List.flatMap_cons, Nat.zero_mul, Nat.zero_add, List.getElem?_append_left (by rw [hk q (.head _)]; exact hj)]
  | q :: ps, hk, i + 1, j, p, h, hj => by
    rw [List.flatMap_cons, List.getElem?_append_right (by rw [hk q (.head _), Nat.succ_mul]; omega), hk q (.head _)]
    rw [show (i + 1) * k + j - k = i * k + j by rw [Nat.succ_mul]; omega]
    exact flat_get f k ps (fun x hx => hk x (.tail _ hx)) i j p (by simpa using h) hj
theorem flat_len {α β : Type} (f : α → List β) (k : Nat) : ∀ (ps : List α), (∀ p ∈ ps, (f p).length = k) → (ps.flatMap f).length = ps.length * k
  | [], _ => by simp
  | q :: ps, hk => by
    rw [List.flatMap_cons, List.length_append, hk q (.head _), flat_len f k ps (fun x hx => hk x (.tail _ hx)), List.length_cons, Nat.succ_mul]; omega
theorem flat_getR {α : Type} {f : α → List Value} {k : Nat} {ps : List α} (hk : ∀ p ∈ ps, (f p).length = k) {i : Nat} {p : α} (h : ps[i]? = some p) : getR (ps.flatMap f) (i * k) k = some (f p) := by
  have hl := flat_len f k ps hk
  have hi : i < ps.length := (List.getElem?_eq_some_iff.1 h).1
  have hp := hk p (List.mem_of_getElem? h)
  have hle : (i + 1) * k ≤ ps.length * k := Nat.mul_le_mul_right _ hi
  rw [Nat.succ_mul] at hle
  have e : ((ps.flatMap f).drop (i * k)).take k = f p := by
    apply List.ext_getElem?
    intro j
    rw [List.getElem?_take]
    by_cases hj : j < k
    · rw [if_pos hj, List.getElem?_drop]
      exact flat_get f k ps hk i j p h hj
    · rw [if_neg hj, List.getElem?_eq_none (by omega)]
  unfold getR
  rw [e, if_pos hp]

/-- The rows of a caller, as blocks that are only read. -/
theorem row_sim {w : World} {r off n k : Nat} {c : Array Value} {ty : TypeId} {fr : Nat × Nat} {L : List Value} (hc : w.heap[r]? = some (.cells c ty fr)) (hl : off + L.length ≤ c.size) (hi : L.all inert = true)
    (hv : ∀ (i : Nat) (v v' : Value), L[i]? = some v → c[off + i]? = some v' → VRel bm0 (fun _ => none) v v') :
    Sim (fun b => if b = 0 then some (r, off, c.size) else none) (heapOf [.cells ty L true] hp0).get w := by
  have hget : (heapOf [Blk.cells ty L true] hp0).get 0 = some (.cells ty L true) := by rw [heapOf0_get]; rfl
  refine ⟨fun b x hx => ?_, fun b b' x x' hx hx' _ _ _ => ?_⟩
  · split at hx
    · rename_i hb
      subst hb
      cases hx
      refine ⟨_, hget, c, fr, hc, hl, Nat.le_refl _, fun i v v' h1 h2 => ?_, (fun h => by cases h), fun _ hk => ?_⟩
      · exact (hv i v v' h1 h2).mono ⟨(fun _ h => by cases h), (fun _ _ h => by cases h)⟩
      · unfold keysBox at hk
        split at hk
        · have := List.all_eq_true.1 hi _ (.head _); simp [inert, AI.flat] at this
        · cases hk
    · cases hx
  · split at hx <;> split at hx' <;> simp_all
end Go.Proofs.Ytgeoommlmddgpaa.AI
