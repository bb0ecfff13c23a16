/- Views: one view, told, Null; what is told of a row of views. -/
import Derived.Test.YtgeoommlmddgpaaXaA
import Derived.Test.YtgeoommlmddgpaaAi37
import Derived.Lib.Overlaps
import Derived.Laws.Externs
set_option linter.unusedVariables false
set_option linter.unusedSimpArgs false
set_option maxRecDepth 100000
namespace Go.Proofs.Ytgeoommlmddgpaa.LtA
open Go Go.Proofs Go.Proofs.Ytgeoommlmddgpaa.AI Go.RowKit

/-- thalweg/views.one -/
def tOne (id : Int) (hNull : Bool) (hTau : Int) (hOid : Int) (hR : Int) (hDelta : Int) (hId : Int) : Value := (bif hNull then (bif (decide (id ≥ 0)) then (bif (decide (id < 64)) then (bif (hId == id) then (bif ((chk (true) (hTau) (hOid) (hR) (hDelta) (hId)) == 0) then (.bool true) else (.bool false)) else (.bool false)) else (.bool false)) else (.bool false)) else (bif (decide (id ≥ 0)) then (bif (decide (id < 64)) then (bif (hId == id) then (bif ((chk (false) (hTau) (hOid) (hR) (hDelta) (hId)) == 0) then (.bool true) else (.bool false)) else (.bool false)) else (.bool false)) else (.bool false)))
theorem tOne_run (id : Int) (hNull : Bool) (hTau : Int) (hOid : Int) (hR : Int) (hDelta : Int) (hId : Int) : ∃ hp, aCall Try.prog E1 61 48 [.int .i64 id, .agg #[.bool hNull, .int .i64 hTau, .int .i64 hOid, .int .i64 hR, .int .i64 hDelta, .int .i64 hId]] hp0 = some (tOne id hNull hTau hOid hR hDelta hId, hp) := by
  cases hNull with
  | true =>
    cases h0 : (decide (id ≥ 0)) with
    | true =>
      cases h1 : (decide (id < 64)) with
      | true =>
        cases h2 : (hId == id) with
        | true =>
          cases h3 : ((chk (true) (hTau) (hOid) (hR) (hDelta) (hId)) == 0) with
          | true =>
            have e : tOne id true hTau hOid hR hDelta hId = (.bool true) := by simp only [tOne, h0, h1, h2, h3, cond_true, cond_false]
            rw [e]
            exact callQ_run [(6, .bool true), (9, .bool true), (15, .bool true), (20, .bool true)] (q := [(some (.bool (decide (id ≥ 0))), .bool true), (some (.bool (decide (id < 64))), .bool true), (some (.bool (hId == id)), .bool true), (some (.bool ((chk (true) (hTau) (hOid) (hR) (hDelta) (hId)) == 0)), .bool true)]) (by kernel_rfl) (Met.cons (met_bool h0) (Met.cons (met_bool h1) (Met.cons (met_bool h2) (Met.cons (met_bool h3) (Met.nil)))))
          | false =>
            have e : tOne id true hTau hOid hR hDelta hId = (.bool false) := by simp only [tOne, h0, h1, h2, h3, cond_true, cond_false]
            rw [e]
            exact callQ_run [(6, .bool true), (9, .bool true), (15, .bool true), (20, .bool false)] (q := [(some (.bool (decide (id ≥ 0))), .bool true), (some (.bool (decide (id < 64))), .bool true), (some (.bool (hId == id)), .bool true), (some (.bool ((chk (true) (hTau) (hOid) (hR) (hDelta) (hId)) == 0)), .bool false)]) (by kernel_rfl) (Met.cons (met_bool h0) (Met.cons (met_bool h1) (Met.cons (met_bool h2) (Met.cons (met_bool h3) (Met.nil)))))
        | false =>
          have e : tOne id true hTau hOid hR hDelta hId = (.bool false) := by simp only [tOne, h0, h1, h2, cond_true, cond_false]
          rw [e]
          exact callQ_run [(6, .bool true), (9, .bool true), (15, .bool false)] (q := [(some (.bool (decide (id ≥ 0))), .bool true), (some (.bool (decide (id < 64))), .bool true), (some (.bool (hId == id)), .bool false)]) (by kernel_rfl) (Met.cons (met_bool h0) (Met.cons (met_bool h1) (Met.cons (met_bool h2) (Met.nil))))
      | false =>
        have e : tOne id true hTau hOid hR hDelta hId = (.bool false) := by simp only [tOne, h0, h1, cond_true, cond_false]
        rw [e]
        exact callQ_run [(6, .bool true), (9, .bool false)] (q := [(some (.bool (decide (id ≥ 0))), .bool true), (some (.bool (decide (id < 64))), .bool false)]) (by kernel_rfl) (Met.cons (met_bool h0) (Met.cons (met_bool h1) (Met.nil)))
    | false =>
      have e : tOne id true hTau hOid hR hDelta hId = (.bool false) := by simp only [tOne, h0, cond_true, cond_false]
      rw [e]
      exact callQ_run [(6, .bool false)] (q := [(some (.bool (decide (id ≥ 0))), .bool false)]) (by kernel_rfl) (Met.cons (met_bool h0) (Met.nil))
  | false =>
    cases h0 : (decide (id ≥ 0)) with
    | true =>
      cases h1 : (decide (id < 64)) with
      | true =>
        cases h2 : (hId == id) with
        | true =>
          cases h3 : ((chk (false) (hTau) (hOid) (hR) (hDelta) (hId)) == 0) with
          | true =>
            have e : tOne id false hTau hOid hR hDelta hId = (.bool true) := by simp only [tOne, h0, h1, h2, h3, cond_true, cond_false]
            rw [e]
            exact callQ_run [(6, .bool true), (9, .bool true), (15, .bool true), (20, .bool true)] (q := [(some (.bool (decide (id ≥ 0))), .bool true), (some (.bool (decide (id < 64))), .bool true), (some (.bool (hId == id)), .bool true), (some (.bool ((chk (false) (hTau) (hOid) (hR) (hDelta) (hId)) == 0)), .bool true)]) (by kernel_rfl) (Met.cons (met_bool h0) (Met.cons (met_bool h1) (Met.cons (met_bool h2) (Met.cons (met_bool h3) (Met.nil)))))
          | false =>
            have e : tOne id false hTau hOid hR hDelta hId = (.bool false) := by simp only [tOne, h0, h1, h2, h3, cond_true, cond_false]
            rw [e]
            exact callQ_run [(6, .bool true), (9, .bool true), (15, .bool true), (20, .bool false)] (q := [(some (.bool (decide (id ≥ 0))), .bool true), (some (.bool (decide (id < 64))), .bool true), (some (.bool (hId == id)), .bool true), (some (.bool ((chk (false) (hTau) (hOid) (hR) (hDelta) (hId)) == 0)), .bool false)]) (by kernel_rfl) (Met.cons (met_bool h0) (Met.cons (met_bool h1) (Met.cons (met_bool h2) (Met.cons (met_bool h3) (Met.nil)))))
        | false =>
          have e : tOne id false hTau hOid hR hDelta hId = (.bool false) := by simp only [tOne, h0, h1, h2, cond_true, cond_false]
          rw [e]
          exact callQ_run [(6, .bool true), (9, .bool true), (15, .bool false)] (q := [(some (.bool (decide (id ≥ 0))), .bool true), (some (.bool (decide (id < 64))), .bool true), (some (.bool (hId == id)), .bool false)]) (by kernel_rfl) (Met.cons (met_bool h0) (Met.cons (met_bool h1) (Met.cons (met_bool h2) (Met.nil))))
      | false =>
        have e : tOne id false hTau hOid hR hDelta hId = (.bool false) := by simp only [tOne, h0, h1, cond_true, cond_false]
        rw [e]
        exact callQ_run [(6, .bool true), (9, .bool false)] (q := [(some (.bool (decide (id ≥ 0))), .bool true), (some (.bool (decide (id < 64))), .bool false)]) (by kernel_rfl) (Met.cons (met_bool h0) (Met.cons (met_bool h1) (Met.nil)))
    | false =>
      have e : tOne id false hTau hOid hR hDelta hId = (.bool false) := by simp only [tOne, h0, cond_true, cond_false]
      rw [e]
      exact callQ_run [(6, .bool false)] (q := [(some (.bool (decide (id ≥ 0))), .bool false)]) (by kernel_rfl) (Met.cons (met_bool h0) (Met.nil))

/-- thalweg/views.told -/
def tVTold (hNull : Bool) (hTau : Int) (hOid : Int) (hR : Int) (hDelta : Int) (hId : Int) : Value := (bif hNull then (.bool false) else (bif ((chk (false) (hTau) (hOid) (hR) (hDelta) (hId)) == 0) then (.bool true) else (.bool false)))
theorem tVTold_run (hNull : Bool) (hTau : Int) (hOid : Int) (hR : Int) (hDelta : Int) (hId : Int) : ∃ hp, aCall Try.prog E1 61 74 [.agg #[.bool hNull, .int .i64 hTau, .int .i64 hOid, .int .i64 hR, .int .i64 hDelta, .int .i64 hId]] hp0 = some (tVTold hNull hTau hOid hR hDelta hId, hp) := by
  cases hNull with
  | true =>
    have e : tVTold true hTau hOid hR hDelta hId = (.bool false) := by simp only [tVTold, cond_true, cond_false]
    rw [e]
    exact callQ_run [] (q := []) (by kernel_rfl) (Met.nil)
  | false =>
    cases h0 : ((chk (false) (hTau) (hOid) (hR) (hDelta) (hId)) == 0) with
    | true =>
      have e : tVTold false hTau hOid hR hDelta hId = (.bool true) := by simp only [tVTold, h0, cond_true, cond_false]
      rw [e]
      exact callQ_run [(9, .bool true)] (q := [(some (.bool ((chk (false) (hTau) (hOid) (hR) (hDelta) (hId)) == 0)), .bool true)]) (by kernel_rfl) (Met.cons (met_bool h0) (Met.nil))
    | false =>
      have e : tVTold false hTau hOid hR hDelta hId = (.bool false) := by simp only [tVTold, h0, cond_true, cond_false]
      rw [e]
      exact callQ_run [(9, .bool false)] (q := [(some (.bool ((chk (false) (hTau) (hOid) (hR) (hDelta) (hId)) == 0)), .bool false)]) (by kernel_rfl) (Met.cons (met_bool h0) (Met.nil))

/-- thalweg/height.Null -/
def tNull (id : Int) : Value := (.agg #[.bool true, .int .i64 0, .int .i64 0, .int .i64 0, .int .i64 0, .int .i64 id])
theorem tNull_run (id : Int) : ∃ hp, aCall Try.prog E1 61 38 [.int .i64 id] hp0 = some (tNull id, hp) := by
  have e : tNull id = (.agg #[.bool true, .int .i64 0, .int .i64 0, .int .i64 0, .int .i64 0, .int .i64 id]) := by simp only [tNull, cond_true, cond_false]
  rw [e]
  exact callQ_run [] (q := []) (by kernel_rfl) (Met.nil)


def oneB (id : Int) (n : Bool) (t o r d i : Int) : Bool := decide (id ≥ 0) && (decide (id < 64) && ((i == id) && (chk n t o r d i == 0)))
theorem bif4 (a b c d : Bool) : (bif a then (bif b then (bif c then (bif d then Value.bool true else .bool false) else .bool false) else .bool false) else .bool false) = .bool (a && (b && (c && d))) := by
  cases a <;> cases b <;> cases c <;> cases d <;> rfl
theorem tOne_eq (id : Int) (n : Bool) (t o r d i : Int) : tOne id n t o r d i = .bool (oneB id n t o r d i) := by
  unfold tOne oneB
  cases n
  · exact bif4 _ _ _ _
  · exact bif4 _ _ _ _
theorem tVTold_eq (n : Bool) (t o r d i : Int) : tVTold n t o r d i = .bool (told n t o r d i) := tTold_eq n t o r d i
def g55 : List Value → Option Value
  | [.int .i64 id, .agg c0] => match c0.toList with
    | [.bool hn, .int .i64 ht, .int .i64 ho, .int .i64 hr, .int .i64 hd, .int .i64 hi] => some (.bool (oneB id hn ht ho hr hd hi))
    | _ => none
  | _ => none
theorem hk55 : HookGoal Try.prog 48 g55 := hook_of (ext := E1) E1_ok follows Try.func48 (by kernel_rfl) fun args v h => by
  unfold g55 at h
  split at h
  · rename_i id c0
    split at h
    · rename_i ec0
      cases h
      obtain rfl := arr_of ec0
      refine ⟨rfl, rfl, ?_⟩
      obtain ⟨hp, q⟩ := tOne_run _ _ _ _ _ _ _
      rw [tOne_eq] at q
      exact ⟨_, hp, q⟩
    · cases h
  · cases h
def g57 : List Value → Option Value
  | [.agg c0] => match c0.toList with
    | [.bool hn, .int .i64 ht, .int .i64 ho, .int .i64 hr, .int .i64 hd, .int .i64 hi] => some (.bool (told hn ht ho hr hd hi))
    | _ => none
  | _ => none
theorem hk57 : HookGoal Try.prog 74 g57 := hook_of (ext := E1) E1_ok follows Try.func74 (by kernel_rfl) fun args v h => by
  unfold g57 at h
  split at h
  · rename_i c0
    split at h
    · rename_i ec0
      cases h
      obtain rfl := arr_of ec0
      refine ⟨rfl, rfl, ?_⟩
      obtain ⟨hp, q⟩ := tVTold_run _ _ _ _ _ _
      rw [tVTold_eq] at q
      exact ⟨_, hp, q⟩
    · cases h
  · cases h
def g32 : List Value → Option Value
  | [.int .i64 id] => some (tNull id)
  | _ => none
theorem hk32 : HookGoal Try.prog 38 g32 := hook_of (ext := E1) E1_ok follows Try.func38 (by kernel_rfl) fun args v h => by
  unfold g32 at h
  split at h
  · cases h
    obtain ⟨hp, q⟩ := tNull_run _
    exact ⟨rfl, rfl, _, hp, q⟩
  · cases h
noncomputable def E5 : Ext := extH Try.prog [(48, g55), (74, g57), (38, g32), (26, g31), (25, g30), (35, g17), (52, g15)]
theorem E5_ok : ExtOk Try.prog E5 := by unfold E5; exact extH_ok (.cons hk55 (.cons hk57 (.cons hk32 (.cons hk31 (.cons hk30 (.cons hk17 (.cons hk15 .nil)))))))
noncomputable def cE : CallF := aCall Try.prog E5 5
theorem cE_ok : CallOk Try.prog cE := aCall_sound E5_ok follows 5

/-! ### A row of views -/
structure ViewV where
  (id : Int) (n : Bool) (t o r d i : Int)
def vc (v : ViewV) : List Value := [.int .i64 v.id, .bool v.n, .int .i64 v.t, .int .i64 v.o, .int .i64 v.r, .int .i64 v.d, .int .i64 v.i]
def vrow (vs : List ViewV) : List Value := vs.flatMap vc
def oneV (v : ViewV) : Bool := oneB v.id v.n v.t v.o v.r v.d v.i
theorem vrow_inert (vs : List ViewV) : (vrow vs).all inert = true := by
  unfold vrow
  rw [List.all_flatMap]
  exact List.all_eq_true.2 fun p _ => rfl
def sL : Code → Code
  | .seq a _ => a
  | c => c
def sR : Code → Code
  | .seq _ b => b
  | c => c
def unB : Code → Code
  | .block _ b => b
  | c => c
def unL : Code → Code
  | .loop b => b
  | c => c
def rowS (b n c : Nat) : Value := .slice (some ⟨b, 0, none⟩) n c
def iN (n : Nat) : Value := .int .i64 (Int.ofNat n)
theorem met_app {x y : List Obl} (h1 : Met x) (h2 : Met y) : Met (x ++ y) := fun o ho => by
  rcases List.mem_append.1 ho with h | h
  · exact h1 o h
  · exact h2 o h
theorem size34 : tsize Try.prog 45 = some 7 := by kernel_rfl
theorem agg34 : tagg Try.prog 45 = some true := by kernel_rfl
theorem size3 : tsize Try.prog 3 = some 1 := by kernel_rfl
theorem agg3 : tagg Try.prog 3 = some false := by kernel_rfl
theorem vidx_ok {b n i c : Nat} (h : i < n) : fstV ((aIndexAddr Try.prog 22 (rowS b n c) (iN i)).map fun v => (v, none)) = some (.pointer (some ⟨b, i * 7, none⟩)) := by
  have h1 : (0 : Int) ≤ Int.ofNat i ∧ Int.ofNat i < (n : Int) := ⟨Int.natCast_nonneg i, by simpa using h⟩
  simp only [aIndexAddr, rowS, iN, Try.underlying22, size34]
  rw [if_pos h1]
  simp [fstV]
/-- A row that stands at block b. -/
def RowAt (hp : Hp) (b : Nat) (vs : List ViewV) : Prop := ∃ ty ro rest, hp.get b = some (.cells ty (vrow vs ++ rest) ro)
theorem RowAt.of {hp : Hp} {b : Nat} {vs : List ViewV} {ty : TypeId} {ro : Bool} (h : hp.get b = some (.cells ty (vrow vs) ro)) : RowAt hp b vs := ⟨ty, ro, [], by rw [List.append_nil]; exact h⟩
/-- A row begins a block. -/
def Holds (vs : List ViewV) (o : Blk) : Prop := vs = [] ∨ ∃ ty ro rest, o = .cells ty (vrow vs ++ rest) ro
theorem Holds.of {vs : List ViewV} {o : Blk} (h : vs = [] ∨ ∃ ty ro, o = .cells ty (vrow vs) ro) : Holds vs o := by
  rcases h with h | ⟨ty, ro, h⟩
  · exact .inl h
  · exact .inr ⟨ty, ro, [], by rw [List.append_nil]; exact h⟩
theorem getR_app {cs rest : List Value} {off n : Nat} {r : List Value} (h : getR cs off n = some r) : getR (cs ++ rest) off n = some r := by
  unfold getR at h ⊢
  by_cases hl : ((cs.drop off).take n).length = n
  · rw [if_pos hl] at h
    have hle : n ≤ (cs.drop off).length := by rw [List.length_take] at hl; omega
    have e : ((cs ++ rest).drop off).take n = (cs.drop off).take n := by
      by_cases ho : off ≤ cs.length
      · rw [List.drop_append_of_le_length ho, List.take_append_of_le_length hle]
      · have : n = 0 := by rw [List.length_drop] at hle; omega
        subst this; simp
    rw [e, if_pos hl]; exact h
  · rw [if_neg hl] at h; cases h
theorem get_app {cs rest : List Value} {i : Nat} {v : Value} (h : cs[i]? = some v) : (cs ++ rest)[i]? = some v := by
  rw [List.getElem?_append_left (List.getElem?_eq_some_iff.1 h).1, h]
theorem vload_ok {hp : Hp} {b : Nat} {vs : List ViewV} {i : Nat} {p : ViewV} (ho : RowAt hp b vs) (h : vs[i]? = some p) : aLoad Try.prog hp.get 45 (.pointer (some ⟨b, i * 7, none⟩)) = some (.agg ⟨vc p⟩) := by
  obtain ⟨ty, ro, rest, hg⟩ := ho
  simp only [aLoad, hg, agg34, size34]
  have := flat_getR (f := vc) (k := 7) (ps := vs) (fun _ _ => rfl) h
  unfold vrow
  rw [getR_app this]
  rfl
theorem vcell_ok {hp : Hp} {b : Nat} {vs : List ViewV} {i : Nat} {p : ViewV} (ho : RowAt hp b vs) (h : vs[i]? = some p) : aLoad Try.prog hp.get 3 (.pointer (some ⟨b, i * 7, none⟩)) = some (.int .i64 p.id) := by
  obtain ⟨ty, ro, rest, hg⟩ := ho
  simp only [aLoad, hg, agg3, size3]
  have := flat_get vc 7 vs (fun _ _ => rfl) i 0 p h (by omega)
  rw [Nat.add_zero] at this
  unfold vrow
  rw [get_app this]
theorem inR64 {x : Int} (h1 : -9223372036854775808 ≤ x) (h2 : x ≤ 9223372036854775807) : inR .i64 x = true := Bool.and_eq_true_iff.2 ⟨decide_eq_true h1, decide_eq_true h2⟩
theorem wrap64 {x : Int} (h1 : -9223372036854775808 ≤ x) (h2 : x ≤ 9223372036854775807) : wrapF .i64 x = x := by
  unfold wrapF
  rw [inR64 h1 h2]
theorem wrap_up {i : Nat} (h : i < 1000000) : (some (Value.int .i64 (wrapF .i64 (Int.ofNat i + 1)))) = some (iN (i + 1)) := by
  have e : Int.ofNat i + 1 = Int.ofNat (i + 1) := rfl
  rw [e, wrap64 (by have := Int.natCast_nonneg (i + 1); simp only [Int.ofNat_eq_natCast]; omega) (by simp only [Int.ofNat_eq_natCast]; omega)]
  rfl
theorem wrap_down {i : Nat} (h : i < 1000000) : (some (Value.int .i64 (wrapF .i64 (Int.ofNat (i + 1) - 1)))) = some (iN i) := by
  have e : Int.ofNat (i + 1) - 1 = Int.ofNat i := by simp only [Int.ofNat_eq_natCast]; omega
  rw [e, wrap64 (by have := Int.natCast_nonneg i; simp only [Int.ofNat_eq_natCast]; omega) (by simp only [Int.ofNat_eq_natCast]; omega)]
  rfl
end Go.Proofs.Ytgeoommlmddgpaa.LtA
namespace Go.Proofs.Ytgeoommlmddgpaa.LtA
open Go Go.Proofs Go.Proofs.Ytgeoommlmddgpaa.AI Go.RowKit

noncomputable def fb18 : Code := (Try.f24.body).getD .skip
noncomputable def c18a : Code := sL fb18
noncomputable def c18b : Code := sL (sL (sR fb18))
noncomputable def c18c : Code := unL (unB (sR (sL (sR fb18))))
noncomputable def c18d : Code := sR (sR fb18)
theorem body18 : Try.f24.body = some (.seq c18a (.seq (.seq c18b (.block 0 (.loop c18c))) c18d)) := by kernel_rfl
section
variable (o : Blk) (n c : Nat)
abbrev A18 (g : Nat → Value) : St := stOf 34 g [(0, rowS 0 n c), (2, iN 0)] [o]
abbrev L18 (i : Nat) (g : Nat → Value) : St := stOf 34 g [(0, rowS 0 n c), (2, iN 0), (5, rowS 0 n c), (6, iN n), (7, iN i)] [o]
abbrev R18 (v : Value) (g : Nat → Value) : St := stOf 34 g [(2, v)] [o]
abbrev B18 : St := ⟨tmsOf [rowS 0 n c] 0 .leaf, heapOf [o, .dead] hp0, []⟩
theorem r18a : (execQ Try.prog cE [] 10 c18a (B18 o n c)).map (fun r => (look2 1 [0] [0, 2] (r.1, r.2.1), r.2.2)) = some ((.normal, [o], [(0, rowS 0 n c), (2, iN 0)], true), []) := by kernel_rfl
theorem r18b (g : Nat → Value) : (execQ Try.prog cE [] 10 c18b (A18 o n c g)).map (fun r => (look2 1 [0] [0, 2, 5, 6, 7] (r.1, r.2.1), r.2.2)) = some ((.normal, [o], [(0, rowS 0 n c), (2, iN 0), (5, rowS 0 n c), (6, iN n), (7, iN 0)], true), []) := by kernel_rfl
theorem r18d (g : Nat → Value) : (execQ Try.prog cE [] 10 c18d (A18 o n c g)).map (fun r => (look2 1 [0] [2] (r.1, r.2.1), r.2.2)) = some ((.ret, [o], [(2, iN 0)], true), []) := by kernel_rfl
theorem r18x (i : Nat) (g : Nat → Value) : (execQ Try.prog cE [(8, .bool false)] 20 c18c (L18 o n c i g)).map (fun r => (look2 1 [0] [0, 2] (r.1, r.2.1), r.2.2)) =
    some ((.exit 0, [o], [(0, rowS 0 n c), (2, iN 0)], true), [(some (.bool (decide (Int.ofNat i < Int.ofNat n))), .bool false)]) := by kernel_rfl
noncomputable def owe18 (i : Nat) (v : ViewV) : List Obl :=
  [(some (.bool (decide (Int.ofNat i < Int.ofNat n))), .bool true),
   (fstV ((aIndexAddr Try.prog 22 (rowS 0 n c) (iN i)).map fun v => (v, none)), .pointer (some ⟨0, i * 7, none⟩)),
   (aLoad Try.prog (heapOf ([o] ++ [.dead]) hp0).get 45 (.pointer (some ⟨0, i * 7, none⟩)), .agg ⟨vc v⟩)]
def see18 (i : Nat) (v : ViewV) : List (Tmp × Value) := [(8, .bool true), (10, .pointer (some ⟨0, i * 7, none⟩)), (11, .agg ⟨vc v⟩)]
/-- The view itself is not right. -/
theorem r18f (i : Nat) (v : ViewV) (g : Nat → Value) : (execQ Try.prog cE (see18 i v ++ [(16, .bool false)]) 20 c18c (L18 o n c i g)).map (fun r => (look2 1 [0] [2] (r.1, r.2.1), r.2.2)) =
    some ((.ret, [o], [(2, iN 1)], true), owe18 o n c i v ++ [(some (.bool (oneV v)), .bool false)]) := by kernel_rfl
/-- The first one is right. -/
theorem r18g (v : ViewV) (g : Nat → Value) : (execQ Try.prog cE (see18 0 v ++ [(16, .bool true), (33, iN 1)]) 20 c18c (L18 o n c 0 g)).map (fun r => (look2 1 [0] [0, 2, 5, 6, 7] (r.1, r.2.1), r.2.2)) =
    some ((.normal, [o], [(0, rowS 0 n c), (2, iN 0), (5, rowS 0 n c), (6, iN n), (7, iN 1)], true), owe18 o n c 0 v ++ [(some (.bool (oneV v)), .bool true), (some (.int .i64 (wrapF .i64 (Int.ofNat 0 + 1))), iN 1)]) := by kernel_rfl
noncomputable def pre18 (j : Nat) (u v : ViewV) : List Obl :=
  owe18 o n c (j + 1) v ++ [(some (.bool (oneV v)), .bool true), (some (.bool (decide (Int.ofNat (j + 1) > 0))), .bool true), (some (.int .i64 (wrapF .i64 (Int.ofNat (j + 1) - 1))), iN j),
   (fstV ((aIndexAddr Try.prog 22 (rowS 0 n c) (iN j)).map fun v => (v, none)), .pointer (some ⟨0, j * 7, none⟩)),
   (aLoad Try.prog (heapOf [o, .dead, .cells 45 (vc v) false] hp0).get 3 (.pointer (some ⟨0, j * 7, none⟩)), .int .i64 u.id)]
def sep18 (j : Nat) (u v : ViewV) : List (Tmp × Value) := see18 (j + 1) v ++ [(16, .bool true), (20, .bool true), (24, iN j), (25, .pointer (some ⟨0, j * 7, none⟩)), (27, .int .i64 u.id)]
/-- One behind another: not behind it. -/
theorem r18h (j : Nat) (u v : ViewV) (g : Nat → Value) : (execQ Try.prog cE (sep18 j u v ++ [(30, .bool true)]) 20 c18c (L18 o n c (j + 1) g)).map (fun r => (look2 1 [0] [2] (r.1, r.2.1), r.2.2)) =
    some ((.ret, [o], [(2, iN 1)], true), pre18 o n c j u v ++ [(some (.bool (decide (u.id ≥ v.id))), .bool true)]) := by kernel_rfl
/-- One behind another. -/
theorem r18i (j : Nat) (u v : ViewV) (g : Nat → Value) : (execQ Try.prog cE (sep18 j u v ++ [(30, .bool false), (33, iN (j + 1 + 1))]) 20 c18c (L18 o n c (j + 1) g)).map (fun r => (look2 1 [0] [0, 2, 5, 6, 7] (r.1, r.2.1), r.2.2)) =
    some ((.normal, [o], [(0, rowS 0 n c), (2, iN 0), (5, rowS 0 n c), (6, iN n), (7, iN (j + 1 + 1))], true),
      pre18 o n c j u v ++ [(some (.bool (decide (u.id ≥ v.id))), .bool false), (some (.int .i64 (wrapF .i64 (Int.ofNat (j + 1) + 1))), iN (j + 1 + 1))]) := by kernel_rfl
theorem q18 (v : Value) (g : Nat → Value) : retVal Try.prog Try.f24 (R18 o v g) = some v := by kernel_rfl
end
theorem s18a : codeSafe Try.prog 34 c18a = true := by kernel_rfl
theorem s18b : codeSafe Try.prog 34 c18b = true := by kernel_rfl
theorem s18c : codeSafe Try.prog 34 c18c = true := by kernel_rfl
theorem s18d : codeSafe Try.prog 34 c18d = true := by kernel_rfl

def rightAt (vs : List ViewV) (i : Nat) : Bool := match vs[i]? with
  | none => true
  | some v => oneV v && (match i with
    | 0 => true
    | j + 1 => match vs[j]? with
      | some u => decide (u.id < v.id)
      | none => true)
/-- Are views right? -/
def rightB (vs : List ViewV) : Bool := (List.range vs.length).all (rightAt vs)
theorem rightB_of {vs : List ViewV} (h : ∀ j, j < vs.length → rightAt vs j = true) : rightB vs = true := List.all_eq_true.2 fun j hj => h j (List.mem_range.1 hj)
theorem rightB_not {vs : List ViewV} {j : Nat} (hj : j < vs.length) (h : rightAt vs j = false) : rightB vs = false := by
  cases e : rightB vs with
  | false => rfl
  | true =>
    have := List.all_eq_true.1 e j (List.mem_range.2 hj)
    rw [h] at this; cases this
def errI (b : Bool) : Value := match b with
  | true => iN 0
  | false => iN 1
theorem fixO {o : Blk} (ho : inertB o = true) : ∀ r : List Blk, ∀ i, i < 1 → ∀ o', (o :: r)[i]? = some o' → Fixed 1 o' := by
  intro r i hi o' h
  have : i = 0 := by omega
  subst this
  simp at h
  subst h
  exact inert_fixed ho 1
theorem rowAt0 {o : Blk} {vs : List ViewV} {r : List Blk} (h : ∃ ty ro, o = .cells ty (vrow vs) ro) : RowAt (heapOf (o :: r) hp0) 0 vs := by
  obtain ⟨ty, ro, rfl⟩ := h
  exact .of (ty := ty) (ro := ro) (by rw [heapOf0_get]; rfl)
end Go.Proofs.Ytgeoommlmddgpaa.LtA
namespace Go.Proofs.Ytgeoommlmddgpaa.LtA
open Go Go.Proofs Go.Proofs.Ytgeoommlmddgpaa.AI Go.RowKit

def sameV (u v : ViewV) : Bool := u.id == v.id && (same23 u.n u.t u.o u.r u.d u.i v.n v.t v.o v.r v.d v.i && true)
section
variable (o1 o2 : Blk) (n1 c1 n2 c2 : Nat)
end
def alikeAt (us vs : List ViewV) (i : Nat) : Bool := match us[i]?, vs[i]? with
  | some u, some v => sameV u v
  | _, _ => true
/-- Are two rows alike? -/
def sameRow (us vs : List ViewV) : Bool := decide (us.length = vs.length) && (List.range us.length).all (alikeAt us vs)
end Go.Proofs.Ytgeoommlmddgpaa.LtA
namespace Go.Proofs.Ytgeoommlmddgpaa.LtA
open Go Go.Proofs Go.Proofs.Ytgeoommlmddgpaa.AI Go.RowKit

def newS (b n : Nat) : Value := .slice (some ⟨b, 0, none⟩) n 22
section
variable (o : Blk) (n c : Nat) (vs : List ViewV)
end
theorem vrow_len (vs : List ViewV) : (vrow vs).length = vs.length * 7 := flat_len vc 7 vs (fun _ _ => rfl)
theorem getR_all {cs : List Value} {n : Nat} (h : cs.length = n) : getR cs 0 n = some cs := by
  unfold getR
  simp [← h]
theorem ro_row {o : Blk} {vs : List ViewV} (h : vs = [] ∨ ∃ ty ro, o = .cells ty (vrow vs) ro) : vs = [] ∨ ∃ ty ro, roBlk o = .cells ty (vrow vs) ro := by
  rcases h with h | ⟨ty, ro, rfl⟩
  · exact .inl h
  · exact .inr ⟨ty, true, rfl⟩
theorem ro_inert {o : Blk} (h : inertB o = true) : inertB (roBlk o) = true := by cases o <;> exact h
theorem start1 {hp : Hp} {b : Nat} {o : Blk} (hb : hp.get b = some o) (hi : inertB o = true) : startHp [b] hp = heapOf [roBlk o, .dead] hp0 := by
  unfold startHp
  simp [hb, inert_shBlk hi]
theorem row_block (vs : List ViewV) : inertB (.cells 45 (vrow vs) false) = true := vrow_inert vs
open Classical in
noncomputable def g61 (vs : List ViewV) : HeapFn := fun args hp =>
  if args = [.slice none 0 0] ∧ vs = [] then some (.slice none 0 0, heapOf ([] ++ [.dead]) hp)
  else if ∃ b c o, args = [rowS b vs.length c] ∧ hp.get b = some o ∧ inertB o = true ∧ (vs = [] ∨ ∃ ty ro, o = .cells ty (vrow vs) ro) then some (newS hp.sz vs.length, heapOf ([.cells 45 (vrow vs) false] ++ [.dead]) hp)
  else none
theorem ok2_inert {o : Blk} (h : inertB o = true) : okBlk o = true := by
  cases o with
  | cells ty cs ro => exact List.all_eq_true.2 fun v hv => (inert_ok (List.all_eq_true.1 h v hv)).1
  | map => cases h
  | dead => rfl
end Go.Proofs.Ytgeoommlmddgpaa.LtA
namespace Go.Proofs.Ytgeoommlmddgpaa.LtA
open Go Go.Proofs Go.Proofs.Ytgeoommlmddgpaa.AI Go.RowKit

def levA (lt lo lr : Int) : Value := .agg #[.int .i64 lt, .int .i64 lo, .int .i64 lr]
def p1 : Value := .pointer (some ⟨1, 0, none⟩)
def rowB (us : List ViewV) : Blk := .cells 45 (vrow us) false
section
variable (o : Blk) (vs us : List ViewV) (n c : Nat) (lt lo lr keep : Int)
end
/-! ### What it does -/
section
variable {lt lo lr keep : Int} {vs : List ViewV}
end
theorem size23 : tsize Try.prog 24 = some 6 := by kernel_rfl
end Go.Proofs.Ytgeoommlmddgpaa.LtA
namespace Go.Proofs.Ytgeoommlmddgpaa.LtA
open Go Go.Proofs Go.Proofs.Ytgeoommlmddgpaa.AI Go.RowKit

section
variable (lt lo lr keep : Int)
def nilS : Value := .slice none 0 0
end

/-- A row of views in a caller's heap, not nil. -/
def TR (vs : List ViewV) (s : Value) (hp : Hp) : Prop := ∃ b c o, s = rowS b vs.length c ∧ hp.get b = some o ∧ inertB o = true ∧ (vs = [] ∨ ∃ ty ro, o = .cells ty (vrow vs) ro)
theorem TR.not_nil {vs : List ViewV} {hp : Hp} (h : TR vs nilS hp) : False := by
  obtain ⟨b, c, o, h, _⟩ := h
  simp [rowS, nilS] at h
end Go.Proofs.Ytgeoommlmddgpaa.LtA
namespace Go.Proofs.Ytgeoommlmddgpaa.LtA
open Go Go.Proofs Go.Proofs.Ytgeoommlmddgpaa.AI Go.RowKit

/-! ### Check -/
noncomputable abbrev code18 : Code := .seq c18a (.seq (.seq c18b (.block 0 (.loop c18c))) c18d)
theorem n18a : (execQ Try.prog cE [] 10 c18a ⟨tmsOf [nilS] 0 .leaf, heapOf [.dead] hp0, []⟩).map (fun r => (look2 0 [] [0, 2] (r.1, r.2.1), r.2.2)) = some ((.normal, [], [(0, nilS), (2, iN 0)], true), []) := by kernel_rfl
theorem n18b (g : Nat → Value) : (execQ Try.prog cE [] 10 c18b (stOf 34 g [(0, nilS), (2, iN 0)] [])).map (fun r => (look2 0 [] [0, 2, 5, 6, 7] (r.1, r.2.1), r.2.2)) = some ((.normal, [], [(0, nilS), (2, iN 0), (5, nilS), (6, iN 0), (7, iN 0)], true), []) := by kernel_rfl
theorem n18c (g : Nat → Value) : (execQ Try.prog cE [] 20 c18c (stOf 34 g [(0, nilS), (2, iN 0), (5, nilS), (6, iN 0), (7, iN 0)] [])).map (fun r => (look2 0 [] [0, 2] (r.1, r.2.1), r.2.2)) = some ((.exit 0, [], [(0, nilS), (2, iN 0)], true), []) := by kernel_rfl
theorem n18d (g : Nat → Value) : (execQ Try.prog cE [] 10 c18d (stOf 34 g [(0, nilS), (2, iN 0)] [])).map (fun r => (look2 0 [] [2] (r.1, r.2.1), r.2.2)) = some ((.ret, [], [(2, iN 0)], true), []) := by kernel_rfl
theorem q18' (v : Value) (O : List Blk) (g : Nat → Value) : retVal Try.prog Try.f24 (stOf 34 g [(2, v)] O) = some v := by kernel_rfl
theorem noFix (O : List Blk) : ∀ i, i < 0 → ∀ o, O[i]? = some o → Fixed 0 o := fun i hi => absurd hi (Nat.not_lt_zero _)
theorem check_nil (W : Base) : FRwp Try.prog 34 W code18 ⟨tmsOf [nilS] 0 .leaf, heapOf [.dead] hp0, []⟩ (fun e st => (e = .normal ∨ e = .ret) ∧ st.df = [] ∧ retVal Try.prog Try.f24 st = some (iN 0)) := by
  refine FRwp.seq (Q1 := fun x st => x = .normal ∧ ∃ g, st = stOf 34 g [(0, nilS), (2, iN 0)] []) (FRwp.piece cE_ok follows 0 _ _ _ _ n18a Met.nil s18a rfl rfl rfl (noFix _) fun g => ⟨rfl, g, rfl⟩) ?_ (fun x st hne hq => absurd hq.1 hne)
  rintro st ⟨-, g, rfl⟩
  refine FRwp.seq (Q1 := fun x st => x = .normal ∧ ∃ g, st = stOf 34 g [(0, nilS), (2, iN 0)] []) ?_ ?_ (fun x st hne hq => absurd hq.1 hne)
  · refine FRwp.seq (Q1 := fun x st => x = .normal ∧ ∃ g, st = stOf 34 g [(0, nilS), (2, iN 0), (5, nilS), (6, iN 0), (7, iN 0)] []) (FRwp.piece cE_ok follows 0 _ _ _ _ (n18b g) Met.nil s18b rfl rfl rfl (noFix _) fun g => ⟨rfl, g, rfl⟩) ?_ (fun x st hne hq => absurd hq.1 hne)
    rintro st ⟨-, g, rfl⟩
    refine FRwp.block ?_
    refine FRwp.loop (fun k st => ∃ g, st = stOf 34 g [(0, nilS), (2, iN 0), (5, nilS), (6, iN 0), (7, iN 0)] []) ?_ (k := 0) ⟨g, rfl⟩
    rintro k st ⟨g, rfl⟩
    refine FRwp.piece cE_ok follows 0 _ _ _ _ (n18c g) Met.nil s18c rfl rfl rfl (noFix _) fun g' => .inr ⟨by simp, ?_⟩
    show (if (0 : Nat) = 0 then _ else _)
    rw [if_pos rfl]
    exact ⟨rfl, g', rfl⟩
  · rintro st ⟨-, g, rfl⟩
    exact FRwp.piece cE_ok follows 0 _ _ _ _ (n18d g) Met.nil s18d rfl rfl rfl (noFix _) fun g' => ⟨.inr rfl, rfl, q18' _ _ g'⟩
theorem ntmps18 : Try.f24.ntmps = 34 := by kernel_rfl
theorem errI_ok (b : Bool) : ok3 (errI b) = true ∧ ∀ K B, sh3 K B (errI b) = errI b := by cases b <;> exact ⟨rfl, fun _ _ => rfl⟩
end Go.Proofs.Ytgeoommlmddgpaa.LtA
namespace Go.Proofs.Ytgeoommlmddgpaa.LtA
open Go Go.Proofs Go.Proofs.Ytgeoommlmddgpaa.AI Go.RowKit

end Go.Proofs.Ytgeoommlmddgpaa.LtA
namespace Go.Proofs.Ytgeoommlmddgpaa.LtA
open Go Go.Proofs Go.Proofs.Ytgeoommlmddgpaa.AI Go.RowKit

open Classical in
/-- Two rows, in two blocks, neither of them nil. -/
noncomputable def g28 (us vs : List ViewV) : HeapFn := fun args hp => match args with
  | [s, t] => if ∃ b1 c1 o1 b2 c2 o2, s = rowS b1 us.length c1 ∧ t = rowS b2 vs.length c2 ∧ b1 ≠ b2 ∧ hp.get b1 = some o1 ∧ hp.get b2 = some o2 ∧ inertB o1 = true ∧ inertB o2 = true ∧ (us = [] ∨ ∃ ty ro, o1 = .cells ty (vrow us) ro) ∧ (vs = [] ∨ ∃ ty ro, o2 = .cells ty (vrow vs) ro)
    then some (.bool (sameRow us vs), heapOf ([] ++ [.dead]) hp) else none
  | _ => none
end Go.Proofs.Ytgeoommlmddgpaa.LtA
