/- Views: one view, told, Null; what is told of a row of views. -/
import Derived.Test.YtiogdklmhpllfaaVeA
import Derived.Test.YtiogdklmhpllfaaAi37
set_option linter.unusedVariables false
set_option linter.unusedSimpArgs false
set_option maxRecDepth 100000
namespace Go.Proofs.Ytiogdklmhpllfaa.LtA
open Go Go.Proofs Go.Proofs.Ytiogdklmhpllfaa.AI Go.RowKit

/-- thalweg/views.one -/
def tOne (id : Int) (hNull : Bool) (hTau : Int) (hOid : Int) (hR : Int) (hDelta : Int) (hId : Int) : Value := (bif hNull then (bif (decide (id ≥ 0)) then (bif (decide (id < 64)) then (bif (hId == id) then (bif ((chk (true) (hTau) (hOid) (hR) (hDelta) (hId)) == 0) then (.bool true) else (.bool false)) else (.bool false)) else (.bool false)) else (.bool false)) else (bif (decide (id ≥ 0)) then (bif (decide (id < 64)) then (bif (hId == id) then (bif ((chk (false) (hTau) (hOid) (hR) (hDelta) (hId)) == 0) then (.bool true) else (.bool false)) else (.bool false)) else (.bool false)) else (.bool false)))
theorem tOne_run (id : Int) (hNull : Bool) (hTau : Int) (hOid : Int) (hR : Int) (hDelta : Int) (hId : Int) : ∃ hp, aCall Try.prog E1 61 55 [.int .i64 id, .agg #[.bool hNull, .int .i64 hTau, .int .i64 hOid, .int .i64 hR, .int .i64 hDelta, .int .i64 hId]] hp0 = some (tOne id hNull hTau hOid hR hDelta hId, hp) := by
  cases hNull with
  | true =>
    cases h0 : (decide (id ≥ 0)) with
    | true =>
      cases h1 : (decide (id < 64)) with
      | true =>
        cases h2 : (hId == id) with
        | true =>
          cases h3 : ((chk (true) (hTau) (hOid) (hR) (hDelta) (hId)) == 0) with
          | true =>
            have e : tOne id true hTau hOid hR hDelta hId = (.bool true) := by simp only [tOne, h0, h1, h2, h3, cond_true, cond_false]
            rw [e]
            exact callQ_run [(6, .bool true), (9, .bool true), (15, .bool true), (20, .bool true)] (q := [(some (.bool (decide (id ≥ 0))), .bool true), (some (.bool (decide (id < 64))), .bool true), (some (.bool (hId == id)), .bool true), (some (.bool ((chk (true) (hTau) (hOid) (hR) (hDelta) (hId)) == 0)), .bool true)]) (by kernel_rfl) (Met.cons (met_bool h0) (Met.cons (met_bool h1) (Met.cons (met_bool h2) (Met.cons (met_bool h3) (Met.nil)))))
          | false =>
            have e : tOne id true hTau hOid hR hDelta hId = (.bool false) := by simp only [tOne, h0, h1, h2, h3, cond_true, cond_false]
            rw [e]
            exact callQ_run [(6, .bool true), (9, .bool true), (15, .bool true), (20, .bool false)] (q := [(some (.bool (decide (id ≥ 0))), .bool true), (some (.bool (decide (id < 64))), .bool true), (some (.bool (hId == id)), .bool true), (some (.bool ((chk (true) (hTau) (hOid) (hR) (hDelta) (hId)) == 0)), .bool false)]) (by kernel_rfl) (Met.cons (met_bool h0) (Met.cons (met_bool h1) (Met.cons (met_bool h2) (Met.cons (met_bool h3) (Met.nil)))))
        | false =>
          have e : tOne id true hTau hOid hR hDelta hId = (.bool false) := by simp only [tOne, h0, h1, h2, cond_true, cond_false]
          rw [e]
          exact callQ_run [(6, .bool true), (9, .bool true), (15, .bool false)] (q := [(some (.bool (decide (id ≥ 0))), .bool true), (some (.bool (decide (id < 64))), .bool true), (some (.bool (hId == id)), .bool false)]) (by kernel_rfl) (Met.cons (met_bool h0) (Met.cons (met_bool h1) (Met.cons (met_bool h2) (Met.nil))))
      | false =>
        have e : tOne id true hTau hOid hR hDelta hId = (.bool false) := by simp only [tOne, h0, h1, cond_true, cond_false]
        rw [e]
        exact callQ_run [(6, .bool true), (9, .bool false)] (q := [(some (.bool (decide (id ≥ 0))), .bool true), (some (.bool (decide (id < 64))), .bool false)]) (by kernel_rfl) (Met.cons (met_bool h0) (Met.cons (met_bool h1) (Met.nil)))
    | false =>
      have e : tOne id true hTau hOid hR hDelta hId = (.bool false) := by simp only [tOne, h0, cond_true, cond_false]
      rw [e]
      exact callQ_run [(6, .bool false)] (q := [(some (.bool (decide (id ≥ 0))), .bool false)]) (by kernel_rfl) (Met.cons (met_bool h0) (Met.nil))
  | false =>
    cases h0 : (decide (id ≥ 0)) with
    | true =>
      cases h1 : (decide (id < 64)) with
      | true =>
        cases h2 : (hId == id) with
        | true =>
          cases h3 : ((chk (false) (hTau) (hOid) (hR) (hDelta) (hId)) == 0) with
          | true =>
            have e : tOne id false hTau hOid hR hDelta hId = (.bool true) := by simp only [tOne, h0, h1, h2, h3, cond_true, cond_false]
            rw [e]
            exact callQ_run [(6, .bool true), (9, .bool true), (15, .bool true), (20, .bool true)] (q := [(some (.bool (decide (id ≥ 0))), .bool true), (some (.bool (decide (id < 64))), .bool true), (some (.bool (hId == id)), .bool true), (some (.bool ((chk (false) (hTau) (hOid) (hR) (hDelta) (hId)) == 0)), .bool true)]) (by kernel_rfl) (Met.cons (met_bool h0) (Met.cons (met_bool h1) (Met.cons (met_bool h2) (Met.cons (met_bool h3) (Met.nil)))))
          | false =>
            have e : tOne id false hTau hOid hR hDelta hId = (.bool false) := by simp only [tOne, h0, h1, h2, h3, cond_true, cond_false]
            rw [e]
            exact callQ_run [(6, .bool true), (9, .bool true), (15, .bool true), (20, .bool false)] (q := [(some (.bool (decide (id ≥ 0))), .bool true), (some (.bool (decide (id < 64))), .bool true), (some (.bool (hId == id)), .bool true), (some (.bool ((chk (false) (hTau) (hOid) (hR) (hDelta) (hId)) == 0)), .bool false)]) (by kernel_rfl) (Met.cons (met_bool h0) (Met.cons (met_bool h1) (Met.cons (met_bool h2) (Met.cons (met_bool h3) (Met.nil)))))
        | false =>
          have e : tOne id false hTau hOid hR hDelta hId = (.bool false) := by simp only [tOne, h0, h1, h2, cond_true, cond_false]
          rw [e]
          exact callQ_run [(6, .bool true), (9, .bool true), (15, .bool false)] (q := [(some (.bool (decide (id ≥ 0))), .bool true), (some (.bool (decide (id < 64))), .bool true), (some (.bool (hId == id)), .bool false)]) (by kernel_rfl) (Met.cons (met_bool h0) (Met.cons (met_bool h1) (Met.cons (met_bool h2) (Met.nil))))
      | false =>
        have e : tOne id false hTau hOid hR hDelta hId = (.bool false) := by simp only [tOne, h0, h1, cond_true, cond_false]
        rw [e]
        exact callQ_run [(6, .bool true), (9, .bool false)] (q := [(some (.bool (decide (id ≥ 0))), .bool true), (some (.bool (decide (id < 64))), .bool false)]) (by kernel_rfl) (Met.cons (met_bool h0) (Met.cons (met_bool h1) (Met.nil)))
    | false =>
      have e : tOne id false hTau hOid hR hDelta hId = (.bool false) := by simp only [tOne, h0, cond_true, cond_false]
      rw [e]
      exact callQ_run [(6, .bool false)] (q := [(some (.bool (decide (id ≥ 0))), .bool false)]) (by kernel_rfl) (Met.cons (met_bool h0) (Met.nil))

/-- thalweg/views.told -/
def tVTold (hNull : Bool) (hTau : Int) (hOid : Int) (hR : Int) (hDelta : Int) (hId : Int) : Value := (bif hNull then (.bool false) else (bif ((chk (false) (hTau) (hOid) (hR) (hDelta) (hId)) == 0) then (.bool true) else (.bool false)))
theorem tVTold_run (hNull : Bool) (hTau : Int) (hOid : Int) (hR : Int) (hDelta : Int) (hId : Int) : ∃ hp, aCall Try.prog E1 61 57 [.agg #[.bool hNull, .int .i64 hTau, .int .i64 hOid, .int .i64 hR, .int .i64 hDelta, .int .i64 hId]] hp0 = some (tVTold hNull hTau hOid hR hDelta hId, hp) := by
  cases hNull with
  | true =>
    have e : tVTold true hTau hOid hR hDelta hId = (.bool false) := by simp only [tVTold, cond_true, cond_false]
    rw [e]
    exact callQ_run [] (q := []) (by kernel_rfl) (Met.nil)
  | false =>
    cases h0 : ((chk (false) (hTau) (hOid) (hR) (hDelta) (hId)) == 0) with
    | true =>
      have e : tVTold false hTau hOid hR hDelta hId = (.bool true) := by simp only [tVTold, h0, cond_true, cond_false]
      rw [e]
      exact callQ_run [(9, .bool true)] (q := [(some (.bool ((chk (false) (hTau) (hOid) (hR) (hDelta) (hId)) == 0)), .bool true)]) (by kernel_rfl) (Met.cons (met_bool h0) (Met.nil))
    | false =>
      have e : tVTold false hTau hOid hR hDelta hId = (.bool false) := by simp only [tVTold, h0, cond_true, cond_false]
      rw [e]
      exact callQ_run [(9, .bool false)] (q := [(some (.bool ((chk (false) (hTau) (hOid) (hR) (hDelta) (hId)) == 0)), .bool false)]) (by kernel_rfl) (Met.cons (met_bool h0) (Met.nil))

/-- thalweg/height.Null -/
def tNull (id : Int) : Value := (.agg #[.bool true, .int .i64 0, .int .i64 0, .int .i64 0, .int .i64 0, .int .i64 id])
theorem tNull_run (id : Int) : ∃ hp, aCall Try.prog E1 61 32 [.int .i64 id] hp0 = some (tNull id, hp) := by
  have e : tNull id = (.agg #[.bool true, .int .i64 0, .int .i64 0, .int .i64 0, .int .i64 0, .int .i64 id]) := by simp only [tNull, cond_true, cond_false]
  rw [e]
  exact callQ_run [] (q := []) (by kernel_rfl) (Met.nil)


def oneB (id : Int) (n : Bool) (t o r d i : Int) : Bool := decide (id ≥ 0) && (decide (id < 64) && ((i == id) && (chk n t o r d i == 0)))
theorem bif4 (a b c d : Bool) : (bif a then (bif b then (bif c then (bif d then Value.bool true else .bool false) else .bool false) else .bool false) else .bool false) = .bool (a && (b && (c && d))) := by
  cases a <;> cases b <;> cases c <;> cases d <;> rfl
theorem tOne_eq (id : Int) (n : Bool) (t o r d i : Int) : tOne id n t o r d i = .bool (oneB id n t o r d i) := by
  unfold tOne oneB
  cases n
  · exact bif4 _ _ _ _
  · exact bif4 _ _ _ _
theorem tVTold_eq (n : Bool) (t o r d i : Int) : tVTold n t o r d i = .bool (told n t o r d i) := tTold_eq n t o r d i
def g55 : List Value → Option Value
  | [.int .i64 id, .agg c0] => match c0.toList with
    | [.bool hn, .int .i64 ht, .int .i64 ho, .int .i64 hr, .int .i64 hd, .int .i64 hi] => some (.bool (oneB id hn ht ho hr hd hi))
    | _ => none
  | _ => none
theorem hk55 : HookGoal Try.prog 55 g55 := hook_of (ext := E1) E1_ok follows Try.func55 (by kernel_rfl) fun args v h => by
  unfold g55 at h
  split at h
  · rename_i id c0
    split at h
    · rename_i ec0
      cases h
      obtain rfl := arr_of ec0
      refine ⟨rfl, rfl, ?_⟩
      obtain ⟨hp, q⟩ := tOne_run _ _ _ _ _ _ _
      rw [tOne_eq] at q
      exact ⟨_, hp, q⟩
    · cases h
  · cases h
def g57 : List Value → Option Value
  | [.agg c0] => match c0.toList with
    | [.bool hn, .int .i64 ht, .int .i64 ho, .int .i64 hr, .int .i64 hd, .int .i64 hi] => some (.bool (told hn ht ho hr hd hi))
    | _ => none
  | _ => none
theorem hk57 : HookGoal Try.prog 57 g57 := hook_of (ext := E1) E1_ok follows Try.func57 (by kernel_rfl) fun args v h => by
  unfold g57 at h
  split at h
  · rename_i c0
    split at h
    · rename_i ec0
      cases h
      obtain rfl := arr_of ec0
      refine ⟨rfl, rfl, ?_⟩
      obtain ⟨hp, q⟩ := tVTold_run _ _ _ _ _ _
      rw [tVTold_eq] at q
      exact ⟨_, hp, q⟩
    · cases h
  · cases h
def g32 : List Value → Option Value
  | [.int .i64 id] => some (tNull id)
  | _ => none
theorem hk32 : HookGoal Try.prog 32 g32 := hook_of (ext := E1) E1_ok follows Try.func32 (by kernel_rfl) fun args v h => by
  unfold g32 at h
  split at h
  · cases h
    obtain ⟨hp, q⟩ := tNull_run _
    exact ⟨rfl, rfl, _, hp, q⟩
  · cases h
noncomputable def E5 : Ext := extH Try.prog [(55, g55), (57, g57), (32, g32), (31, g31), (30, g30), (17, g17), (15, g15)]
theorem E5_ok : ExtOk Try.prog E5 := by unfold E5; exact extH_ok (.cons hk55 (.cons hk57 (.cons hk32 (.cons hk31 (.cons hk30 (.cons hk17 (.cons hk15 .nil)))))))
noncomputable def cE : CallF := aCall Try.prog E5 5
theorem cE_ok : CallOk Try.prog cE := aCall_sound E5_ok follows 5

/-! ### A row of views -/
structure ViewV where
  (id : Int) (n : Bool) (t o r d i : Int)
def vc (v : ViewV) : List Value := [.int .i64 v.id, .bool v.n, .int .i64 v.t, .int .i64 v.o, .int .i64 v.r, .int .i64 v.d, .int .i64 v.i]
def vrow (vs : List ViewV) : List Value := vs.flatMap vc
def oneV (v : ViewV) : Bool := oneB v.id v.n v.t v.o v.r v.d v.i
theorem vrow_inert (vs : List ViewV) : (vrow vs).all inert = true := by
  unfold vrow
  rw [List.all_flatMap]
  exact List.all_eq_true.2 fun p _ => rfl
def sL : Code → Code
  | .seq a _ => a
  | c => c
def sR : Code → Code
  | .seq _ b => b
  | c => c
def unB : Code → Code
  | .block _ b => b
  | c => c
def unL : Code → Code
  | .loop b => b
  | c => c
def rowS (b n c : Nat) : Value := .slice (some ⟨b, 0, none⟩) n c
def iN (n : Nat) : Value := .int .i64 (Int.ofNat n)
theorem met_app {x y : List Obl} (h1 : Met x) (h2 : Met y) : Met (x ++ y) := fun o ho => by
  rcases List.mem_append.1 ho with h | h
  · exact h1 o h
  · exact h2 o h
theorem size34 : tsize Try.prog 34 = some 7 := by kernel_rfl
theorem agg34 : tagg Try.prog 34 = some true := by kernel_rfl
theorem size3 : tsize Try.prog 3 = some 1 := by kernel_rfl
theorem agg3 : tagg Try.prog 3 = some false := by kernel_rfl
theorem vidx_ok {b n i c : Nat} (h : i < n) : fstV ((aIndexAddr Try.prog 29 (rowS b n c) (iN i)).map fun v => (v, none)) = some (.pointer (some ⟨b, i * 7, none⟩)) := by
  have h1 : (0 : Int) ≤ Int.ofNat i ∧ Int.ofNat i < (n : Int) := ⟨Int.natCast_nonneg i, by simpa using h⟩
  simp only [aIndexAddr, rowS, iN, Try.underlying29, size34]
  rw [if_pos h1]
  simp [fstV]
/-- A row that stands at block b. -/
def RowAt (hp : Hp) (b : Nat) (vs : List ViewV) : Prop := ∃ ty ro rest, hp.get b = some (.cells ty (vrow vs ++ rest) ro)
theorem RowAt.of {hp : Hp} {b : Nat} {vs : List ViewV} {ty : TypeId} {ro : Bool} (h : hp.get b = some (.cells ty (vrow vs) ro)) : RowAt hp b vs := ⟨ty, ro, [], by rw [List.append_nil]; exact h⟩
/-- A row begins a block. -/
def Holds (vs : List ViewV) (o : Blk) : Prop := vs = [] ∨ ∃ ty ro rest, o = .cells ty (vrow vs ++ rest) ro
theorem Holds.of {vs : List ViewV} {o : Blk} (h : vs = [] ∨ ∃ ty ro, o = .cells ty (vrow vs) ro) : Holds vs o := by
  rcases h with h | ⟨ty, ro, h⟩
  · exact .inl h
  · exact .inr ⟨ty, ro, [], by rw [List.append_nil]; exact h⟩
theorem getR_app {cs rest : List Value} {off n : Nat} {r : List Value} (h : getR cs off n = some r) : getR (cs ++ rest) off n = some r := by
  unfold getR at h ⊢
  by_cases hl : ((cs.drop off).take n).length = n
  · rw [if_pos hl] at h
    have hle : n ≤ (cs.drop off).length := by rw [List.length_take] at hl; omega
    have e : ((cs ++ rest).drop off).take n = (cs.drop off).take n := by
      by_cases ho : off ≤ cs.length
      · rw [List.drop_append_of_le_length ho, List.take_append_of_le_length hle]
      · have : n = 0 := by rw [List.length_drop] at hle; omega
        subst this; simp
    rw [e, if_pos hl]; exact h
  · rw [if_neg hl] at h; cases h
theorem get_app {cs rest : List Value} {i : Nat} {v : Value} (h : cs[i]? = some v) : (cs ++ rest)[i]? = some v := by
  rw [List.getElem?_append_left (List.getElem?_eq_some_iff.1 h).1, h]
theorem vload_ok {hp : Hp} {b : Nat} {vs : List ViewV} {i : Nat} {p : ViewV} (ho : RowAt hp b vs) (h : vs[i]? = some p) : aLoad Try.prog hp.get 34 (.pointer (some ⟨b, i * 7, none⟩)) = some (.agg ⟨vc p⟩) := by
  obtain ⟨ty, ro, rest, hg⟩ := ho
  simp only [aLoad, hg, agg34, size34]
  have := flat_getR (f := vc) (k := 7) (ps := vs) (fun _ _ => rfl) h
  unfold vrow
  rw [getR_app this]
  rfl
theorem vcell_ok {hp : Hp} {b : Nat} {vs : List ViewV} {i : Nat} {p : ViewV} (ho : RowAt hp b vs) (h : vs[i]? = some p) : aLoad Try.prog hp.get 3 (.pointer (some ⟨b, i * 7, none⟩)) = some (.int .i64 p.id) := by
  obtain ⟨ty, ro, rest, hg⟩ := ho
  simp only [aLoad, hg, agg3, size3]
  have := flat_get vc 7 vs (fun _ _ => rfl) i 0 p h (by omega)
  rw [Nat.add_zero] at this
  unfold vrow
  rw [get_app this]
theorem inR64 {x : Int} (h1 : -9223372036854775808 ≤ x) (h2 : x ≤ 9223372036854775807) : inR .i64 x = true := Bool.and_eq_true_iff.2 ⟨decide_eq_true h1, decide_eq_true h2⟩
theorem wrap64 {x : Int} (h1 : -9223372036854775808 ≤ x) (h2 : x ≤ 9223372036854775807) : wrapF .i64 x = x := by
  unfold wrapF
  rw [inR64 h1 h2]
theorem wrap_up {i : Nat} (h : i < 1000000) : (some (Value.int .i64 (wrapF .i64 (Int.ofNat i + 1)))) = some (iN (i + 1)) := by
  have e : Int.ofNat i + 1 = Int.ofNat (i + 1) := rfl
  rw [e, wrap64 (by have := Int.natCast_nonneg (i + 1); simp only [Int.ofNat_eq_natCast]; omega) (by simp only [Int.ofNat_eq_natCast]; omega)]
  rfl
theorem wrap_down {i : Nat} (h : i < 1000000) : (some (Value.int .i64 (wrapF .i64 (Int.ofNat (i + 1) - 1)))) = some (iN i) := by
  have e : Int.ofNat (i + 1) - 1 = Int.ofNat i := by simp only [Int.ofNat_eq_natCast]; omega
  rw [e, wrap64 (by have := Int.natCast_nonneg i; simp only [Int.ofNat_eq_natCast]; omega) (by simp only [Int.ofNat_eq_natCast]; omega)]
  rfl
end Go.Proofs.Ytiogdklmhpllfaa.LtA
namespace Go.Proofs.Ytiogdklmhpllfaa.LtA
open Go Go.Proofs Go.Proofs.Ytiogdklmhpllfaa.AI Go.RowKit

section
variable (o : Blk) (n c : Nat)
end
def rightAt (vs : List ViewV) (i : Nat) : Bool := match vs[i]? with
  | none => true
  | some v => oneV v && (match i with
    | 0 => true
    | j + 1 => match vs[j]? with
      | some u => decide (u.id < v.id)
      | none => true)
/-- Are views right? -/
def rightB (vs : List ViewV) : Bool := (List.range vs.length).all (rightAt vs)
def errI (b : Bool) : Value := match b with
  | true => iN 0
  | false => iN 1
theorem rowAt0 {o : Blk} {vs : List ViewV} {r : List Blk} (h : ∃ ty ro, o = .cells ty (vrow vs) ro) : RowAt (heapOf (o :: r) hp0) 0 vs := by
  obtain ⟨ty, ro, rfl⟩ := h
  exact .of (ty := ty) (ro := ro) (by rw [heapOf0_get]; rfl)
end Go.Proofs.Ytiogdklmhpllfaa.LtA
namespace Go.Proofs.Ytiogdklmhpllfaa.LtA
open Go Go.Proofs Go.Proofs.Ytiogdklmhpllfaa.AI Go.RowKit

def bindE (r acc : Option Bool) : Option Bool := match r with
  | some true => acc
  | some false => some false
  | none => none
def sameV (u v : ViewV) : Bool := u.id == v.id && (same23 u.n u.t u.o u.r u.d u.i v.n v.t v.o v.r v.d v.i && true)
theorem neq34 (u v : ViewV) : fstV ((aBin Try.prog .neq 34 (.agg ⟨vc u⟩) (.agg ⟨vc v⟩)).map fun v => (v, none)) = some (.bool (!sameV u v)) := by
  have h : aBin Try.prog .neq 34 (.agg ⟨vc u⟩) (.agg ⟨vc v⟩) =
      (andE (u.id == v.id) (bindE (andE (u.n == v.n) (andE (u.t == v.t) (andE (u.o == v.o) (andE (u.r == v.r) (andE (u.d == v.d) (andE (u.i == v.i) (some true))))))) (some true))).map fun b => .bool (!b) := by kernel_rfl
  rw [h]
  simp only [andE_some]
  unfold sameV same23
  generalize (u.n == v.n && (u.t == v.t && (u.o == v.o && (u.r == v.r && (u.d == v.d && (u.i == v.i && true)))))) = x
  generalize (u.id == v.id) = y
  cases x <;> cases y <;> rfl
noncomputable def fb28 : Code := (Try.f28.body).getD .skip
noncomputable def c28a : Code := sL fb28
noncomputable def c28b : Code := sL (sR fb28)
noncomputable def c28c : Code := sL (sL (sR (sR fb28)))
noncomputable def c28d : Code := unL (unB (sR (sL (sR (sR fb28)))))
noncomputable def c28e : Code := sR (sR (sR fb28))
theorem body28 : Try.f28.body = some (.seq c28a (.seq c28b (.seq (.seq c28c (.block 0 (.loop c28d))) c28e))) := by kernel_rfl
section
variable (o1 o2 : Blk) (n1 c1 n2 c2 : Nat)
abbrev B28 : St := ⟨tmsOf [rowS 0 n1 c1, rowS 1 n2 c2] 0 .leaf, heapOf [o1, o2, .dead] hp0, []⟩
abbrev A28 (g : Nat → Value) : St := stOf 26 g [(0, rowS 0 n1 c1), (1, rowS 1 n2 c2), (4, .bool false)] [o1, o2]
abbrev L28 (i : Nat) (g : Nat → Value) : St := stOf 26 g [(0, rowS 0 n1 c1), (1, rowS 1 n2 c2), (4, .bool false), (5, iN i)] [o1, o2]
abbrev R28 (v : Value) (g : Nat → Value) : St := stOf 26 g [(4, v)] [o1, o2]
theorem r28a : (execQ Try.prog cE [] 10 c28a (B28 o1 o2 n1 c1 n2 c2)).map (fun r => (look2 2 [0, 1] [0, 1, 4] (r.1, r.2.1), r.2.2)) = some ((.normal, [o1, o2], [(0, rowS 0 n1 c1), (1, rowS 1 n2 c2), (4, .bool false)], true), []) := by kernel_rfl
theorem r28b (g : Nat → Value) : (execQ Try.prog cE [(10, .bool true)] 10 c28b (A28 o1 o2 n1 c1 n2 c2 g)).map (fun r => (look2 2 [0, 1] [4] (r.1, r.2.1), r.2.2)) = some ((.ret, [o1, o2], [(4, .bool false)], true), [(some (.bool (Int.ofNat n1 != Int.ofNat n2)), .bool true)]) := by kernel_rfl
theorem r28c (g : Nat → Value) : (execQ Try.prog cE [(10, .bool false)] 10 c28b (A28 o1 o2 n1 c1 n2 c2 g)).map (fun r => (look2 2 [0, 1] [0, 1, 4] (r.1, r.2.1), r.2.2)) = some ((.normal, [o1, o2], [(0, rowS 0 n1 c1), (1, rowS 1 n2 c2), (4, .bool false)], true), [(some (.bool (Int.ofNat n1 != Int.ofNat n2)), .bool false)]) := by kernel_rfl
theorem r28d (g : Nat → Value) : (execQ Try.prog cE [] 10 c28c (A28 o1 o2 n1 c1 n2 c2 g)).map (fun r => (look2 2 [0, 1] [0, 1, 4, 5] (r.1, r.2.1), r.2.2)) = some ((.normal, [o1, o2], [(0, rowS 0 n1 c1), (1, rowS 1 n2 c2), (4, .bool false), (5, iN 0)], true), []) := by kernel_rfl
theorem r28e (g : Nat → Value) : (execQ Try.prog cE [] 10 c28e (A28 o1 o2 n1 c1 n2 c2 g)).map (fun r => (look2 2 [0, 1] [4] (r.1, r.2.1), r.2.2)) = some ((.ret, [o1, o2], [(4, .bool true)], true), []) := by kernel_rfl
theorem r28x (i : Nat) (g : Nat → Value) : (execQ Try.prog cE [(14, .bool false)] 20 c28d (L28 o1 o2 n1 c1 n2 c2 i g)).map (fun r => (look2 2 [0, 1] [0, 1, 4] (r.1, r.2.1), r.2.2)) = some ((.exit 0, [o1, o2], [(0, rowS 0 n1 c1), (1, rowS 1 n2 c2), (4, .bool false)], true), [(some (.bool (decide (Int.ofNat i < Int.ofNat n1))), .bool false)]) := by kernel_rfl
noncomputable def owe28 (i : Nat) (u v : ViewV) : List Obl :=
  [(some (.bool (decide (Int.ofNat i < Int.ofNat n1))), .bool true),
   (fstV ((aIndexAddr Try.prog 29 (rowS 0 n1 c1) (iN i)).map fun v => (v, none)), .pointer (some ⟨0, i * 7, none⟩)),
   (aLoad Try.prog (heapOf ([o1, o2] ++ [.dead]) hp0).get 34 (.pointer (some ⟨0, i * 7, none⟩)), .agg ⟨vc u⟩),
   (fstV ((aIndexAddr Try.prog 29 (rowS 1 n2 c2) (iN i)).map fun v => (v, none)), .pointer (some ⟨1, i * 7, none⟩)),
   (aLoad Try.prog (heapOf ([o1, o2] ++ [.dead]) hp0).get 34 (.pointer (some ⟨1, i * 7, none⟩)), .agg ⟨vc v⟩)]
def see28 (i : Nat) (u v : ViewV) : List (Tmp × Value) := [(14, .bool true), (19, .pointer (some ⟨0, i * 7, none⟩)), (20, .agg ⟨vc u⟩), (23, .pointer (some ⟨1, i * 7, none⟩)), (24, .agg ⟨vc v⟩)]
theorem r28f (i : Nat) (u v : ViewV) (g : Nat → Value) : (execQ Try.prog cE (see28 i u v ++ [(25, .bool true)]) 20 c28d (L28 o1 o2 n1 c1 n2 c2 i g)).map (fun r => (look2 2 [0, 1] [4] (r.1, r.2.1), r.2.2)) =
    some ((.ret, [o1, o2], [(4, .bool false)], true), owe28 o1 o2 n1 c1 n2 c2 i u v ++ [(fstV ((aBin Try.prog .neq 34 (.agg ⟨vc u⟩) (.agg ⟨vc v⟩)).map fun v => (v, none)), .bool true)]) := by kernel_rfl
theorem r28g (i : Nat) (u v : ViewV) (g : Nat → Value) : (execQ Try.prog cE (see28 i u v ++ [(25, .bool false), (16, iN (i + 1))]) 20 c28d (L28 o1 o2 n1 c1 n2 c2 i g)).map (fun r => (look2 2 [0, 1] [0, 1, 4, 5] (r.1, r.2.1), r.2.2)) =
    some ((.normal, [o1, o2], [(0, rowS 0 n1 c1), (1, rowS 1 n2 c2), (4, .bool false), (5, iN (i + 1))], true),
      owe28 o1 o2 n1 c1 n2 c2 i u v ++ [(fstV ((aBin Try.prog .neq 34 (.agg ⟨vc u⟩) (.agg ⟨vc v⟩)).map fun v => (v, none)), .bool false), (some (.int .i64 (wrapF .i64 (Int.ofNat i + 1))), iN (i + 1))]) := by kernel_rfl
theorem q28 (v : Value) (g : Nat → Value) : retVal Try.prog Try.f28 (R28 o1 o2 v g) = some v := by kernel_rfl
end
theorem s28a : codeSafe Try.prog 26 c28a = true := by kernel_rfl
theorem s28b : codeSafe Try.prog 26 c28b = true := by kernel_rfl
theorem s28c : codeSafe Try.prog 26 c28c = true := by kernel_rfl
theorem s28d : codeSafe Try.prog 26 c28d = true := by kernel_rfl
theorem s28e : codeSafe Try.prog 26 c28e = true := by kernel_rfl

def alikeAt (us vs : List ViewV) (i : Nat) : Bool := match us[i]?, vs[i]? with
  | some u, some v => sameV u v
  | _, _ => true
/-- Are two rows alike? -/
def sameRow (us vs : List ViewV) : Bool := decide (us.length = vs.length) && (List.range us.length).all (alikeAt us vs)
theorem fixO2 {o1 o2 : Blk} (h1 : inertB o1 = true) (h2 : inertB o2 = true) : ∀ r : List Blk, ∀ i, i < 2 → ∀ o', (o1 :: o2 :: r)[i]? = some o' → Fixed 2 o' := by
  intro r i hi o' h
  match i, hi with
  | 0, _ => simp at h; subst h; exact inert_fixed h1 2
  | 1, _ => simp at h; subst h; exact inert_fixed h2 2
theorem rowAt0' {o : Blk} {vs : List ViewV} {r : List Blk} (h : ∃ ty ro rest, o = .cells ty (vrow vs ++ rest) ro) : RowAt (heapOf (o :: r) hp0) 0 vs := by
  obtain ⟨ty, ro, rest, rfl⟩ := h
  exact ⟨ty, ro, rest, by rw [heapOf0_get]; rfl⟩
theorem rowAt1 {o1 o2 : Blk} {vs : List ViewV} {r : List Blk} (h : ∃ ty ro rest, o2 = .cells ty (vrow vs ++ rest) ro) : RowAt (heapOf (o1 :: o2 :: r) hp0) 1 vs := by
  obtain ⟨ty, ro, rest, rfl⟩ := h
  exact ⟨ty, ro, rest, by rw [heapOf0_get]; rfl⟩
theorem row_of_mem {o : Blk} {vs : List ViewV} {v : ViewV} (h : Holds vs o) (hv : v ∈ vs) : ∃ ty ro rest, o = .cells ty (vrow vs ++ rest) ro := by
  rcases h with h | h
  · subst h; cases hv
  · exact h
theorem same_fr (o1 o2 : Blk) (h1 : inertB o1 = true) (h2 : inertB o2 = true) (us vs : List ViewV) (hn : us.length < 1000000) (hr1 : Holds us o1) (hr2 : Holds vs o2) (c1 c2 : Nat) (W : Base) :
    FRwp Try.prog 26 W (.seq c28a (.seq c28b (.seq (.seq c28c (.block 0 (.loop c28d))) c28e))) (B28 o1 o2 us.length c1 vs.length c2) (fun e st => (e = .normal ∨ e = .ret) ∧ st.df = [] ∧ retVal Try.prog Try.f28 st = some (.bool (sameRow us vs))) := by
  have hO := fixO2 h1 h2
  refine FRwp.seq (Q1 := fun x st => x = .normal ∧ ∃ g, st = A28 o1 o2 us.length c1 vs.length c2 g) (FRwp.piece cE_ok follows 2 _ _ _ _ (r28a o1 o2 us.length c1 vs.length c2) Met.nil s28a rfl rfl rfl (hO _) fun g => ⟨rfl, g, rfl⟩) ?_ (fun x st hne hq => absurd hq.1 hne)
  rintro st ⟨-, g, rfl⟩
  cases h10 : (Int.ofNat us.length != Int.ofNat vs.length) with
  | true =>
    have hne : us.length ≠ vs.length := by intro h; rw [h] at h10; simp at h10
    refine FRwp.seq (Q1 := fun x st => x = .ret ∧ ∃ g, st = R28 o1 o2 (.bool false) g) (FRwp.piece cE_ok follows 2 _ _ _ _ (r28b o1 o2 us.length c1 vs.length c2 g) (Met.cons (met_bool h10) Met.nil) s28b rfl rfl rfl (hO _) fun g => ⟨rfl, g, rfl⟩) (fun st hq => by cases hq.1) ?_
    rintro x st hx ⟨rfl, g, rfl⟩
    refine ⟨.inr rfl, rfl, ?_⟩
    have : sameRow us vs = false := by unfold sameRow; rw [decide_eq_false hne]; rfl
    rw [this]
    exact q28 o1 o2 _ g
  | false =>
    have heq : us.length = vs.length := by
      simp only [bne_eq_false_iff_eq, Int.ofNat_eq_natCast] at h10; omega
    refine FRwp.seq (Q1 := fun x st => x = .normal ∧ ∃ g, st = A28 o1 o2 us.length c1 vs.length c2 g) (FRwp.piece cE_ok follows 2 _ _ _ _ (r28c o1 o2 us.length c1 vs.length c2 g) (Met.cons (met_bool h10) Met.nil) s28b rfl rfl rfl (hO _) fun g => ⟨rfl, g, rfl⟩) ?_ (fun x st hne hq => absurd hq.1 hne)
    rintro st ⟨-, g, rfl⟩
    let Q2 : Exit → St → Prop := fun x st => (x = .normal ∧ ∃ g, st = A28 o1 o2 us.length c1 vs.length c2 g ∧ sameRow us vs = true) ∨ (x = .ret ∧ ∃ g, st = R28 o1 o2 (.bool false) g ∧ sameRow us vs = false)
    refine FRwp.seq (Q1 := Q2) ?_ ?_ ?_
    · refine FRwp.seq (Q1 := fun x st => x = .normal ∧ ∃ g, st = L28 o1 o2 us.length c1 vs.length c2 0 g) (FRwp.piece cE_ok follows 2 _ _ _ _ (r28d o1 o2 us.length c1 vs.length c2 g) Met.nil s28c rfl rfl rfl (hO _) fun g => ⟨rfl, g, rfl⟩) ?_ (fun x st hne hq => absurd hq.1 hne)
      rintro st ⟨-, g, rfl⟩
      refine FRwp.block ?_
      refine FRwp.loop (fun k st => ∃ i g, i ≤ us.length ∧ k = us.length - i ∧ (∀ j, j < i → alikeAt us vs j = true) ∧ st = L28 o1 o2 us.length c1 vs.length c2 i g) ?_ (k := us.length) ⟨0, g, Nat.zero_le _, rfl, fun j hj => absurd hj (Nat.not_lt_zero _), rfl⟩
      rintro k st ⟨i, g, hi, hk, hgood, rfl⟩
      cases h14 : decide (Int.ofNat i < Int.ofNat us.length) with
      | false =>
        refine FRwp.piece cE_ok follows 2 _ _ _ _ (r28x o1 o2 us.length c1 vs.length c2 i g) (Met.cons (met_bool h14) Met.nil) s28d rfl rfl rfl (hO _) fun g' => .inr ⟨by simp, ?_⟩
        show (if (0 : Nat) = 0 then Q2 .normal _ else Q2 (.exit 0) _)
        rw [if_pos rfl]
        have hii : i = us.length := by simp at h14; omega
        refine .inl ⟨rfl, g', rfl, ?_⟩
        unfold sameRow
        rw [decide_eq_true heq, Bool.true_and]
        exact List.all_eq_true.2 fun j hj => hgood j (by have := List.mem_range.1 hj; omega)
      | true =>
        have hlt : i < us.length := by simpa using h14
        obtain ⟨u, hu⟩ : ∃ u, us[i]? = some u := ⟨_, List.getElem?_eq_getElem hlt⟩
        obtain ⟨v, hv⟩ : ∃ v, vs[i]? = some v := ⟨_, List.getElem?_eq_getElem (by omega)⟩
        have hru := row_of_mem hr1 (List.mem_of_getElem? hu)
        have hrv := row_of_mem hr2 (List.mem_of_getElem? hv)
        have hmet : Met (owe28 o1 o2 us.length c1 vs.length c2 i u v) := Met.cons (met_bool h14) (Met.cons (vidx_ok hlt) (Met.cons (vload_ok (rowAt0' hru) hu) (Met.cons (vidx_ok (by omega)) (Met.cons (vload_ok (rowAt1 hrv) hv) Met.nil))))
        have hal : alikeAt us vs i = sameV u v := by simp only [alikeAt, hu, hv]
        cases h25 : sameV u v with
        | false =>
          refine FRwp.piece cE_ok follows 2 _ _ _ _ (r28f o1 o2 us.length c1 vs.length c2 i u v g) (met_app hmet (Met.cons (by rw [neq34, h25]; rfl) Met.nil)) s28d rfl rfl rfl (hO _) fun g' => .inr ⟨by simp, .inr ⟨rfl, g', rfl, ?_⟩⟩
          unfold sameRow
          cases e : (List.range us.length).all (alikeAt us vs) with
          | false => simp
          | true =>
            have := List.all_eq_true.1 e i (List.mem_range.2 hlt)
            rw [hal, h25] at this; cases this
        | true =>
          refine FRwp.piece cE_ok follows 2 _ _ _ _ (r28g o1 o2 us.length c1 vs.length c2 i u v g) (met_app hmet (Met.cons (by rw [neq34, h25]; rfl) (Met.cons (wrap_up (by omega)) Met.nil))) s28d rfl rfl rfl (hO _) fun g' => .inl ⟨rfl, us.length - (i + 1), by omega, i + 1, g', by omega, rfl, fun j hj => ?_, rfl⟩
          rcases Nat.lt_succ_iff_lt_or_eq.1 hj with h' | h'
          · exact hgood j h'
          · subst h'; rw [hal, h25]
    · rintro st (⟨-, g, rfl, hf⟩ | ⟨h, -⟩)
      · refine FRwp.piece cE_ok follows 2 _ _ _ _ (r28e o1 o2 us.length c1 vs.length c2 g) Met.nil s28e rfl rfl rfl (hO _) fun g' => ⟨.inr rfl, rfl, ?_⟩
        rw [hf]
        exact q28 o1 o2 _ g'
      · cases h
    · rintro x st hne (⟨h, -⟩ | ⟨rfl, g, rfl, hf⟩)
      · exact absurd h hne
      · refine ⟨.inr rfl, rfl, ?_⟩
        rw [hf]
        exact q28 o1 o2 _ g
end Go.Proofs.Ytiogdklmhpllfaa.LtA
namespace Go.Proofs.Ytiogdklmhpllfaa.LtA
open Go Go.Proofs Go.Proofs.Ytiogdklmhpllfaa.AI Go.RowKit

noncomputable def fb61 : Code := (Try.f61.body).getD .skip
theorem body61 : Try.f61.body = some fb61 := by kernel_rfl
theorem s61 : codeSafe Try.prog 8 fb61 = true := by kernel_rfl
def newS (b n : Nat) : Value := .slice (some ⟨b, 0, none⟩) n 22
section
variable (o : Blk) (n c : Nat) (vs : List ViewV)
abbrev B61 : St := ⟨tmsOf [rowS 0 n c] 0 .leaf, heapOf [o, .dead] hp0, []⟩
theorem r61 : (execE Try.prog cE [] [] [(7, newS 3 n, [.put 2 .dead, .push (.cells 34 (vrow vs) false)])] 20 fb61 (B61 o n c)).map (fun y => (look2 1 [3] [2] (y.1, y.2.1), y.2.2)) =
    some ((.ret, [.cells 34 (vrow vs) false], [(2, newS 0 n)], true), [], [], [(aAppend Try.prog (heapOf [o, .dead, .cells 34 [] false] hp0).get 3 [29, 29] [newS 2 0, rowS 0 n c], (newS 3 n, [.put 2 .dead, .push (.cells 34 (vrow vs) false)]))]) := by kernel_rfl
theorem r61e : (execE Try.prog cE [] [] [] 20 fb61 (B61 o 0 c)).map (fun y => (look2 0 [2] [2] (y.1, y.2.1), y.2.2)) =
    some ((.ret, [.cells 34 [] false], [(2, newS 0 0)], true), [], [], []) := by kernel_rfl
theorem r61n : (execE Try.prog cE [] [] [] 20 fb61 ⟨tmsOf [.slice none 0 0] 0 .leaf, heapOf [.dead] hp0, []⟩).map (fun y => (look2 0 [] [2] (y.1, y.2.1), y.2.2)) =
    some ((.ret, [], [(2, .slice none 0 0)], true), [], [], []) := by kernel_rfl
end
theorem q61 (v : Value) (O : List Blk) (g : Nat → Value) : retVal Try.prog Try.f61 (stOf 8 g [(2, v)] O) = some v := by kernel_rfl

theorem info34 : ∃ i, Try.prog.info? 34 = some i ∧ i.size = 7 ∧ i.bytes = 56 := by
  have h : (Try.prog.info? 34).map (fun i => (i.size, i.bytes)) = some (7, 56) := by kernel_rfl
  obtain ⟨i, h1, h2⟩ := Option.map_eq_some_iff.1 h
  simp only [Prod.mk.injEq] at h2
  exact ⟨i, h1, h2.1, h2.2⟩
theorem zero34 : ∃ z, tzero Try.prog 34 = some z ∧ z.length = 7 := by
  have h : (tzero Try.prog 34).map (fun z => z.length) = some 7 := by kernel_rfl
  obtain ⟨z, h1, h2⟩ := Option.map_eq_some_iff.1 h
  exact ⟨z, h1, h2⟩
theorem vrow_len (vs : List ViewV) : (vrow vs).length = vs.length * 7 := flat_len vc 7 vs (fun _ _ => rfl)
theorem vrow_one (vs : List ViewV) : (vrow vs).all isOne = true := by
  unfold vrow
  rw [List.all_flatMap]
  exact List.all_eq_true.2 fun p _ => rfl
theorem getR_all {cs : List Value} {n : Nat} (h : cs.length = n) : getR cs 0 n = some cs := by
  unfold getR
  simp [← h]
theorem clone_app {get : Nat → Option Blk} {sz b n c : Nat} {vs : List ViewV} {a : Nat} {ty : TypeId} {ro : Bool} (hb : get b = some (.cells 34 [] false)) (ha : get a = some (.cells ty (vrow vs) ro)) (hn : n = vs.length) (h0 : 0 < n) (hm : n < 1000000) :
    aAppend Try.prog get sz [29, 29] [newS b 0, rowS a n c] = some (newS sz n, [.put b .dead, .push (.cells 34 (vrow vs) false)]) := by
  obtain ⟨i, hi, h7, h56⟩ := info34
  obtain ⟨z, hz, hzl⟩ := zero34
  have hlen : (vrow vs).length = n * 7 := by rw [vrow_len, hn]
  have hg : getR (vrow vs) 0 (n * 7) = some (vrow vs) := getR_all hlen
  have hsrc : aSrc Try.prog get 7 z (.slice 34) (rowS a n c) = some (vrow vs, n) := by
    unfold aSrc
    simp only [rowS, srcLen, srcCells, ha]
    rw [if_neg (by omega), if_neg (by omega), hg]
    rfl
  have hg0 : getR [] 0 (0 * 7) = some [] := rfl
  unfold aAppend
  simp only [Try.underlying29, hi, hz, h7, h56, hzl]
  rw [if_neg (by decide)]
  simp only [hsrc, vrow_one, hlen]
  rw [if_neg (by simp)]
  simp only [newS]
  rw [if_neg (by omega), if_neg (by omega)]
  simp only [hb, hg0]
  rw [if_neg (by omega), if_pos (by decide), if_neg (by simp; omega)]
  simp

/-- A slice of views, as a caller's heap has it. -/
inductive TRow (hp : Hp) (vs : List ViewV) : Value → Prop where
  | none : vs = [] → TRow hp vs (.slice none 0 0)
  | some {b c : Nat} {o : Blk} : hp.get b = some o → inertB o = true → (vs = [] ∨ ∃ ty ro, o = .cells ty (vrow vs) ro) → TRow hp vs (rowS b vs.length c)
theorem ro_row {o : Blk} {vs : List ViewV} (h : vs = [] ∨ ∃ ty ro, o = .cells ty (vrow vs) ro) : vs = [] ∨ ∃ ty ro, roBlk o = .cells ty (vrow vs) ro := by
  rcases h with h | ⟨ty, ro, rfl⟩
  · exact .inl h
  · exact .inr ⟨ty, true, rfl⟩
theorem ro_inert {o : Blk} (h : inertB o = true) : inertB (roBlk o) = true := by cases o <;> exact h
theorem start1 {hp : Hp} {b : Nat} {o : Blk} (hb : hp.get b = some o) (hi : inertB o = true) : startHp [b] hp = heapOf [roBlk o, .dead] hp0 := by
  unfold startHp
  simp [hb, inert_shBlk hi]
theorem sh_row {b n c : Nat} : sh3 [b] 0 (rowS b n c) = rowS 0 n c := by simp [sh3, sh2, sh1, rho, idxOf, rowS]
theorem row_block (vs : List ViewV) : inertB (.cells 34 (vrow vs) false) = true := vrow_inert vs
open Classical in
noncomputable def g61 (vs : List ViewV) : HeapFn := fun args hp =>
  if args = [.slice none 0 0] ∧ vs = [] then some (.slice none 0 0, heapOf ([] ++ [.dead]) hp)
  else if ∃ b c o, args = [rowS b vs.length c] ∧ hp.get b = some o ∧ inertB o = true ∧ (vs = [] ∨ ∃ ty ro, o = .cells ty (vrow vs) ro) then some (newS hp.sz vs.length, heapOf ([.cells 34 (vrow vs) false] ++ [.dead]) hp)
  else none
theorem g61_row {vs : List ViewV} {hp : Hp} {b c : Nat} {o : Blk} (hb : hp.get b = some o) (hi : inertB o = true) (hr : vs = [] ∨ ∃ ty ro, o = .cells ty (vrow vs) ro) : g61 vs [rowS b vs.length c] hp = some (newS hp.sz vs.length, heapOf ([.cells 34 (vrow vs) false] ++ [.dead]) hp) := by
  unfold g61
  rw [if_neg (by intro h; simp [rowS] at h), if_pos ⟨b, c, o, rfl, hb, hi, hr⟩]
theorem ntmps61 : Try.f61.ntmps = 8 := by kernel_rfl
theorem ok2_inert {o : Blk} (h : inertB o = true) : okBlk o = true := by
  cases o with
  | cells ty cs ro => exact List.all_eq_true.2 fun v hv => (inert_ok (List.all_eq_true.1 h v hv)).1
  | map => cases h
  | dead => rfl
theorem hk61 (vs : List ViewV) (hn : vs.length < 1000000) : CallGoal Try.prog 61 (g61 vs) := scan_goal follows Try.func61 body61 (by kernel_rfl) fun args hp v hp' h hk => by
  unfold g61 at h
  rw [ntmps61]
  split at h
  · rename_i hN
    obtain ⟨rfl, rfl⟩ := hN
    cases h
    refine ⟨[], [], [], rfl, rfl, rfl, rfl, (fun b hb => by cases hb), rfl, (by simp), fun W => ?_⟩
    exact FRwp.pieceY cE_ok follows 0 _ _ _ _ r61n Met.nil MetH.nil MetE.nil s61 rfl rfl (fun i hi => absurd hi (Nat.not_lt_zero _)) fun g => ⟨.inr rfl, rfl, _, q61 _ _ g, rfl, (fun b hb => by cases hb), rfl, rfl⟩
  · split at h
    · rename_i hT
      obtain ⟨b, c, o, rfl, hb, hi, hr⟩ := hT
      cases h
      refine ⟨[b], [0], [.cells 34 (vrow vs) false], rfl, rfl, rfl, rfl, fun b' hb' => ?_, rfl, (by simp), fun W => ?_⟩
      · have : b' = b := by simpa using hb'
        subst this
        exact ⟨o, hb, inert_start hi⟩
      · rw [start1 hb hi, show [rowS b vs.length c].map (sh3 [b] 0) = [rowS 0 vs.length c] from by simp [sh_row]]
        have fin : ∀ g, (Exit.ret = Exit.normal ∨ Exit.ret = Exit.ret) ∧ (stOf 8 g [(2, newS 0 vs.length)] [.cells 34 (vrow vs) false]).df = [] ∧ ∃ v0, retVal Try.prog Try.f61 (stOf 8 g [(2, newS 0 vs.length)] [.cells 34 (vrow vs) false]) = some v0 ∧ ok3 v0 = true ∧
            (∀ b ∈ [0], ∃ o, (stOf 8 g [(2, newS 0 vs.length)] [.cells 34 (vrow vs) false]).hp.get b = some o ∧ okBlk o = true ∧ rwB o = true) ∧ newS hp.sz vs.length = sh3 [0] hp.sz v0 ∧ [.cells 34 (vrow vs) false] = outOf [0] hp.sz (stOf 8 g [(2, newS 0 vs.length)] [.cells 34 (vrow vs) false]).hp := by
          intro g
          have hget : (stOf 8 g [(2, newS 0 vs.length)] [.cells 34 (vrow vs) false]).hp.get 0 = some (.cells 34 (vrow vs) false) := by
            show (heapOf _ hp0).get 0 = _
            rw [heapOf0_get]; rfl
          refine ⟨.inr rfl, rfl, _, q61 _ _ g, rfl, fun b' hb' => ?_, by simp [sh3, sh2, sh1, rho, idxOf, newS], ?_⟩
          · have : b' = 0 := by simpa using hb'
            subst this
            exact ⟨_, hget, ok2_inert (row_block vs), rfl⟩
          · simp only [outOf, List.map_cons, List.map_nil, hget, Option.getD_some, inert_shBlk (row_block vs)]
        cases hl : vs with
        | nil =>
          rw [hl] at fin
          exact FRwp.pieceY cE_ok follows 0 _ _ _ _ (r61e (roBlk o) c) Met.nil MetH.nil MetE.nil s61 rfl rfl (fun i hi => absurd hi (Nat.not_lt_zero _)) fin
        | cons v0 vs0 =>
          have hr' : ∃ ty ro, roBlk o = .cells ty (vrow vs) ro := by
            rcases ro_row hr with h | h
            · rw [hl] at h; cases h
            · exact h
          rw [← hl]
          obtain ⟨ty, ro, hro⟩ := hr'
          refine FRwp.pieceY cE_ok follows 1 _ _ _ _ (r61 (roBlk o) vs.length c vs) Met.nil MetH.nil (MetE.cons (clone_app (by rw [heapOf0_get]; rfl) (ty := ty) (ro := ro) (by rw [heapOf0_get, hro]; rfl) rfl (by rw [hl]; simp) hn) MetE.nil) s61 rfl rfl (fun i hi o' ho' => ?_) fin
          have : i = 0 := by omega
          subst this
          simp at ho'
          subst ho'
          exact inert_fixed (row_block vs) 0
    · cases h
end Go.Proofs.Ytiogdklmhpllfaa.LtA
