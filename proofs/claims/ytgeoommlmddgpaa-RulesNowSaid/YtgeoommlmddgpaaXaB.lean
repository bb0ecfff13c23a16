/- Views: one view, told, Null; what is told of a row of views. -/
import Derived.Test.YtgeoommlmddgpaaXaA
import Derived.Test.YtgeoommlmddgpaaAi37
import Derived.Lib.Overlaps
import Derived.Laws.Externs
import Derived.Test.YtgeoommlmddgpaaAi39
import Derived.Test.YtgeoommlmddgpaaRows
set_option linter.unusedVariables false
set_option linter.unusedSimpArgs false
set_option maxRecDepth 100000
namespace Go.Proofs.Ytgeoommlmddgpaa.LtA
open Go Go.Proofs Go.Proofs.Ytgeoommlmddgpaa.AI Go.RowKit

/-- thalweg/views.one -/
def tOne (id : Int) (hNull : Bool) (hTau : Int) (hOid : Int) (hR : Int) (hDelta : Int) (hId : Int) : Value := (bif hNull then (bif (decide (id ≥ 0)) then (bif (decide (id < 64)) then (bif (hId == id) then (bif ((chk (true) (hTau) (hOid) (hR) (hDelta) (hId)) == 0) then (.bool true) else (.bool false)) else (.bool false)) else (.bool false)) else (.bool false)) else (bif (decide (id ≥ 0)) then (bif (decide (id < 64)) then (bif (hId == id) then (bif ((chk (false) (hTau) (hOid) (hR) (hDelta) (hId)) == 0) then (.bool true) else (.bool false)) else (.bool false)) else (.bool false)) else (.bool false)))
theorem tOne_run (id : Int) (hNull : Bool) (hTau : Int) (hOid : Int) (hR : Int) (hDelta : Int) (hId : Int) : ∃ hp, aCall Try.prog E1 61 48 [.int .i64 id, .agg #[.bool hNull, .int .i64 hTau, .int .i64 hOid, .int .i64 hR, .int .i64 hDelta, .int .i64 hId]] hp0 = some (tOne id hNull hTau hOid hR hDelta hId, hp) := by
  cases hNull with
  | true =>
    cases h0 : (decide (id ≥ 0)) with
    | true =>
      cases h1 : (decide (id < 64)) with
      | true =>
        cases h2 : (hId == id) with
        | true =>
          cases h3 : ((chk (true) (hTau) (hOid) (hR) (hDelta) (hId)) == 0) with
          | true =>
            have e : tOne id true hTau hOid hR hDelta hId = (.bool true) := by simp only [tOne, h0, h1, h2, h3, cond_true, cond_false]
            rw [e]
            exact callQ_run [(6, .bool true), (9, .bool true), (15, .bool true), (20, .bool true)] (q := [(some (.bool (decide (id ≥ 0))), .bool true), (some (.bool (decide (id < 64))), .bool true), (some (.bool (hId == id)), .bool true), (some (.bool ((chk (true) (hTau) (hOid) (hR) (hDelta) (hId)) == 0)), .bool true)]) (by kernel_rfl) (Met.cons (met_bool h0) (Met.cons (met_bool h1) (Met.cons (met_bool h2) (Met.cons (met_bool h3) (Met.nil)))))
          | false =>
            have e : tOne id true hTau hOid hR hDelta hId = (.bool false) := by simp only [tOne, h0, h1, h2, h3, cond_true, cond_false]
            rw [e]
            exact callQ_run [(6, .bool true), (9, .bool true), (15, .bool true), (20, .bool false)] (q := [(some (.bool (decide (id ≥ 0))), .bool true), (some (.bool (decide (id < 64))), .bool true), (some (.bool (hId == id)), .bool true), (some (.bool ((chk (true) (hTau) (hOid) (hR) (hDelta) (hId)) == 0)), .bool false)]) (by kernel_rfl) (Met.cons (met_bool h0) (Met.cons (met_bool h1) (Met.cons (met_bool h2) (Met.cons (met_bool h3) (Met.nil)))))
        | false =>
          have e : tOne id true hTau hOid hR hDelta hId = (.bool false) := by simp only [tOne, h0, h1, h2, cond_true, cond_false]
          rw [e]
          exact callQ_run [(6, .bool true), (9, .bool true), (15, .bool false)] (q := [(some (.bool (decide (id ≥ 0))), .bool true), (some (.bool (decide (id < 64))), .bool true), (some (.bool (hId == id)), .bool false)]) (by kernel_rfl) (Met.cons (met_bool h0) (Met.cons (met_bool h1) (Met.cons (met_bool h2) (Met.nil))))
      | false =>
        have e : tOne id true hTau hOid hR hDelta hId = (.bool false) := by simp only [tOne, h0, h1, cond_true, cond_false]
        rw [e]
        exact callQ_run [(6, .bool true), (9, .bool false)] (q := [(some (.bool (decide (id ≥ 0))), .bool true), (some (.bool (decide (id < 64))), .bool false)]) (by kernel_rfl) (Met.cons (met_bool h0) (Met.cons (met_bool h1) (Met.nil)))
    | false =>
      have e : tOne id true hTau hOid hR hDelta hId = (.bool false) := by simp only [tOne, h0, cond_true, cond_false]
      rw [e]
      exact callQ_run [(6, .bool false)] (q := [(some (.bool (decide (id ≥ 0))), .bool false)]) (by kernel_rfl) (Met.cons (met_bool h0) (Met.nil))
  | false =>
    cases h0 : (decide (id ≥ 0)) with
    | true =>
      cases h1 : (decide (id < 64)) with
      | true =>
        cases h2 : (hId == id) with
        | true =>
          cases h3 : ((chk (false) (hTau) (hOid) (hR) (hDelta) (hId)) == 0) with
          | true =>
            have e : tOne id false hTau hOid hR hDelta hId = (.bool true) := by simp only [tOne, h0, h1, h2, h3, cond_true, cond_false]
            rw [e]
            exact callQ_run [(6, .bool true), (9, .bool true), (15, .bool true), (20, .bool true)] (q := [(some (.bool (decide (id ≥ 0))), .bool true), (some (.bool (decide (id < 64))), .bool true), (some (.bool (hId == id)), .bool true), (some (.bool ((chk (false) (hTau) (hOid) (hR) (hDelta) (hId)) == 0)), .bool true)]) (by kernel_rfl) (Met.cons (met_bool h0) (Met.cons (met_bool h1) (Met.cons (met_bool h2) (Met.cons (met_bool h3) (Met.nil)))))
          | false =>
            have e : tOne id false hTau hOid hR hDelta hId = (.bool false) := by simp only [tOne, h0, h1, h2, h3, cond_true, cond_false]
            rw [e]
            exact callQ_run [(6, .bool true), (9, .bool true), (15, .bool true), (20, .bool false)] (q := [(some (.bool (decide (id ≥ 0))), .bool true), (some (.bool (decide (id < 64))), .bool true), (some (.bool (hId == id)), .bool true), (some (.bool ((chk (false) (hTau) (hOid) (hR) (hDelta) (hId)) == 0)), .bool false)]) (by kernel_rfl) (Met.cons (met_bool h0) (Met.cons (met_bool h1) (Met.cons (met_bool h2) (Met.cons (met_bool h3) (Met.nil)))))
        | false =>
          have e : tOne id false hTau hOid hR hDelta hId = (.bool false) := by simp only [tOne, h0, h1, h2, cond_true, cond_false]
          rw [e]
          exact callQ_run [(6, .bool true), (9, .bool true), (15, .bool false)] (q := [(some (.bool (decide (id ≥ 0))), .bool true), (some (.bool (decide (id < 64))), .bool true), (some (.bool (hId == id)), .bool false)]) (by kernel_rfl) (Met.cons (met_bool h0) (Met.cons (met_bool h1) (Met.cons (met_bool h2) (Met.nil))))
      | false =>
        have e : tOne id false hTau hOid hR hDelta hId = (.bool false) := by simp only [tOne, h0, h1, cond_true, cond_false]
        rw [e]
        exact callQ_run [(6, .bool true), (9, .bool false)] (q := [(some (.bool (decide (id ≥ 0))), .bool true), (some (.bool (decide (id < 64))), .bool false)]) (by kernel_rfl) (Met.cons (met_bool h0) (Met.cons (met_bool h1) (Met.nil)))
    | false =>
      have e : tOne id false hTau hOid hR hDelta hId = (.bool false) := by simp only [tOne, h0, cond_true, cond_false]
      rw [e]
      exact callQ_run [(6, .bool false)] (q := [(some (.bool (decide (id ≥ 0))), .bool false)]) (by kernel_rfl) (Met.cons (met_bool h0) (Met.nil))

/-- thalweg/views.told -/
def tVTold (hNull : Bool) (hTau : Int) (hOid : Int) (hR : Int) (hDelta : Int) (hId : Int) : Value := (bif hNull then (.bool false) else (bif ((chk (false) (hTau) (hOid) (hR) (hDelta) (hId)) == 0) then (.bool true) else (.bool false)))
theorem tVTold_run (hNull : Bool) (hTau : Int) (hOid : Int) (hR : Int) (hDelta : Int) (hId : Int) : ∃ hp, aCall Try.prog E1 61 74 [.agg #[.bool hNull, .int .i64 hTau, .int .i64 hOid, .int .i64 hR, .int .i64 hDelta, .int .i64 hId]] hp0 = some (tVTold hNull hTau hOid hR hDelta hId, hp) := by
  cases hNull with
  | true =>
    have e : tVTold true hTau hOid hR hDelta hId = (.bool false) := by simp only [tVTold, cond_true, cond_false]
    rw [e]
    exact callQ_run [] (q := []) (by kernel_rfl) (Met.nil)
  | false =>
    cases h0 : ((chk (false) (hTau) (hOid) (hR) (hDelta) (hId)) == 0) with
    | true =>
      have e : tVTold false hTau hOid hR hDelta hId = (.bool true) := by simp only [tVTold, h0, cond_true, cond_false]
      rw [e]
      exact callQ_run [(9, .bool true)] (q := [(some (.bool ((chk (false) (hTau) (hOid) (hR) (hDelta) (hId)) == 0)), .bool true)]) (by kernel_rfl) (Met.cons (met_bool h0) (Met.nil))
    | false =>
      have e : tVTold false hTau hOid hR hDelta hId = (.bool false) := by simp only [tVTold, h0, cond_true, cond_false]
      rw [e]
      exact callQ_run [(9, .bool false)] (q := [(some (.bool ((chk (false) (hTau) (hOid) (hR) (hDelta) (hId)) == 0)), .bool false)]) (by kernel_rfl) (Met.cons (met_bool h0) (Met.nil))

/-- thalweg/height.Null -/
def tNull (id : Int) : Value := (.agg #[.bool true, .int .i64 0, .int .i64 0, .int .i64 0, .int .i64 0, .int .i64 id])
theorem tNull_run (id : Int) : ∃ hp, aCall Try.prog E1 61 38 [.int .i64 id] hp0 = some (tNull id, hp) := by
  have e : tNull id = (.agg #[.bool true, .int .i64 0, .int .i64 0, .int .i64 0, .int .i64 0, .int .i64 id]) := by simp only [tNull, cond_true, cond_false]
  rw [e]
  exact callQ_run [] (q := []) (by kernel_rfl) (Met.nil)


def oneB (id : Int) (n : Bool) (t o r d i : Int) : Bool := decide (id ≥ 0) && (decide (id < 64) && ((i == id) && (chk n t o r d i == 0)))
theorem bif4 (a b c d : Bool) : (bif a then (bif b then (bif c then (bif d then Value.bool true else .bool false) else .bool false) else .bool false) else .bool false) = .bool (a && (b && (c && d))) := by
  cases a <;> cases b <;> cases c <;> cases d <;> rfl
theorem tOne_eq (id : Int) (n : Bool) (t o r d i : Int) : tOne id n t o r d i = .bool (oneB id n t o r d i) := by
  unfold tOne oneB
  cases n
  · exact bif4 _ _ _ _
  · exact bif4 _ _ _ _
theorem tVTold_eq (n : Bool) (t o r d i : Int) : tVTold n t o r d i = .bool (told n t o r d i) := tTold_eq n t o r d i
def g55 : List Value → Option Value
  | [.int .i64 id, .agg c0] => match c0.toList with
    | [.bool hn, .int .i64 ht, .int .i64 ho, .int .i64 hr, .int .i64 hd, .int .i64 hi] => some (.bool (oneB id hn ht ho hr hd hi))
    | _ => none
  | _ => none
theorem hk55 : HookGoal Try.prog 48 g55 := hook_of (ext := E1) E1_ok follows Try.func48 (by kernel_rfl) fun args v h => by
  unfold g55 at h
  split at h
  · rename_i id c0
    split at h
    · rename_i ec0
      cases h
      obtain rfl := arr_of ec0
      refine ⟨rfl, rfl, ?_⟩
      obtain ⟨hp, q⟩ := tOne_run _ _ _ _ _ _ _
      rw [tOne_eq] at q
      exact ⟨_, hp, q⟩
    · cases h
  · cases h
def g57 : List Value → Option Value
  | [.agg c0] => match c0.toList with
    | [.bool hn, .int .i64 ht, .int .i64 ho, .int .i64 hr, .int .i64 hd, .int .i64 hi] => some (.bool (told hn ht ho hr hd hi))
    | _ => none
  | _ => none
theorem hk57 : HookGoal Try.prog 74 g57 := hook_of (ext := E1) E1_ok follows Try.func74 (by kernel_rfl) fun args v h => by
  unfold g57 at h
  split at h
  · rename_i c0
    split at h
    · rename_i ec0
      cases h
      obtain rfl := arr_of ec0
      refine ⟨rfl, rfl, ?_⟩
      obtain ⟨hp, q⟩ := tVTold_run _ _ _ _ _ _
      rw [tVTold_eq] at q
      exact ⟨_, hp, q⟩
    · cases h
  · cases h
def g32 : List Value → Option Value
  | [.int .i64 id] => some (tNull id)
  | _ => none
theorem hk32 : HookGoal Try.prog 38 g32 := hook_of (ext := E1) E1_ok follows Try.func38 (by kernel_rfl) fun args v h => by
  unfold g32 at h
  split at h
  · cases h
    obtain ⟨hp, q⟩ := tNull_run _
    exact ⟨rfl, rfl, _, hp, q⟩
  · cases h
noncomputable def E5 : Ext := extH Try.prog [(48, g55), (74, g57), (38, g32), (26, g31), (25, g30), (35, g17), (52, g15)]
theorem E5_ok : ExtOk Try.prog E5 := by unfold E5; exact extH_ok (.cons hk55 (.cons hk57 (.cons hk32 (.cons hk31 (.cons hk30 (.cons hk17 (.cons hk15 .nil)))))))
noncomputable def cE : CallF := aCall Try.prog E5 5
theorem cE_ok : CallOk Try.prog cE := aCall_sound E5_ok follows 5

/-! ### A row of views -/
structure ViewV where
  (id : Int) (n : Bool) (t o r d i : Int)
def vc (v : ViewV) : List Value := [.int .i64 v.id, .bool v.n, .int .i64 v.t, .int .i64 v.o, .int .i64 v.r, .int .i64 v.d, .int .i64 v.i]
def vrow (vs : List ViewV) : List Value := vs.flatMap vc
def oneV (v : ViewV) : Bool := oneB v.id v.n v.t v.o v.r v.d v.i
theorem vrow_inert (vs : List ViewV) : (vrow vs).all inert = true := by
  unfold vrow
  rw [List.all_flatMap]
  exact List.all_eq_true.2 fun p _ => rfl
def sL : Code → Code
  | .seq a _ => a
  | c => c
def sR : Code → Code
  | .seq _ b => b
  | c => c
def unB : Code → Code
  | .block _ b => b
  | c => c
def unL : Code → Code
  | .loop b => b
  | c => c
def rowS (b n c : Nat) : Value := .slice (some ⟨b, 0, none⟩) n c
def iN (n : Nat) : Value := .int .i64 (Int.ofNat n)
theorem met_app {x y : List Obl} (h1 : Met x) (h2 : Met y) : Met (x ++ y) := fun o ho => by
  rcases List.mem_append.1 ho with h | h
  · exact h1 o h
  · exact h2 o h
theorem size34 : tsize Try.prog 45 = some 7 := by kernel_rfl
theorem agg34 : tagg Try.prog 45 = some true := by kernel_rfl
theorem size3 : tsize Try.prog 3 = some 1 := by kernel_rfl
theorem agg3 : tagg Try.prog 3 = some false := by kernel_rfl
theorem vidx_ok {b n i c : Nat} (h : i < n) : fstV ((aIndexAddr Try.prog 22 (rowS b n c) (iN i)).map fun v => (v, none)) = some (.pointer (some ⟨b, i * 7, none⟩)) := by
  have h1 : (0 : Int) ≤ Int.ofNat i ∧ Int.ofNat i < (n : Int) := ⟨Int.natCast_nonneg i, by simpa using h⟩
  simp only [aIndexAddr, rowS, iN, Try.underlying22, size34]
  rw [if_pos h1]
  simp [fstV]
/-- A row that stands at block b. -/
def RowAt (hp : Hp) (b : Nat) (vs : List ViewV) : Prop := ∃ ty ro rest, hp.get b = some (.cells ty (vrow vs ++ rest) ro)
theorem RowAt.of {hp : Hp} {b : Nat} {vs : List ViewV} {ty : TypeId} {ro : Bool} (h : hp.get b = some (.cells ty (vrow vs) ro)) : RowAt hp b vs := ⟨ty, ro, [], by rw [List.append_nil]; exact h⟩
/-- A row begins a block. -/
def Holds (vs : List ViewV) (o : Blk) : Prop := vs = [] ∨ ∃ ty ro rest, o = .cells ty (vrow vs ++ rest) ro
theorem Holds.of {vs : List ViewV} {o : Blk} (h : vs = [] ∨ ∃ ty ro, o = .cells ty (vrow vs) ro) : Holds vs o := by
  rcases h with h | ⟨ty, ro, h⟩
  · exact .inl h
  · exact .inr ⟨ty, ro, [], by rw [List.append_nil]; exact h⟩
theorem getR_app {cs rest : List Value} {off n : Nat} {r : List Value} (h : getR cs off n = some r) : getR (cs ++ rest) off n = some r := by
  unfold getR at h ⊢
  by_cases hl : ((cs.drop off).take n).length = n
  · rw [if_pos hl] at h
    have hle : n ≤ (cs.drop off).length := by rw [List.length_take] at hl; omega
    have e : ((cs ++ rest).drop off).take n = (cs.drop off).take n := by
      by_cases ho : off ≤ cs.length
      · rw [List.drop_append_of_le_length ho, List.take_append_of_le_length hle]
      · have : n = 0 := by rw [List.length_drop] at hle; omega
        subst this; simp
    rw [e, if_pos hl]; exact h
  · rw [if_neg hl] at h; cases h
theorem get_app {cs rest : List Value} {i : Nat} {v : Value} (h : cs[i]? = some v) : (cs ++ rest)[i]? = some v := by
  rw [List.getElem?_append_left (List.getElem?_eq_some_iff.1 h).1, h]
theorem vload_ok {hp : Hp} {b : Nat} {vs : List ViewV} {i : Nat} {p : ViewV} (ho : RowAt hp b vs) (h : vs[i]? = some p) : aLoad Try.prog hp.get 45 (.pointer (some ⟨b, i * 7, none⟩)) = some (.agg ⟨vc p⟩) := by
  obtain ⟨ty, ro, rest, hg⟩ := ho
  simp only [aLoad, hg, agg34, size34]
  have := flat_getR (f := vc) (k := 7) (ps := vs) (fun _ _ => rfl) h
  unfold vrow
  rw [getR_app this]
  rfl
theorem vcell_ok {hp : Hp} {b : Nat} {vs : List ViewV} {i : Nat} {p : ViewV} (ho : RowAt hp b vs) (h : vs[i]? = some p) : aLoad Try.prog hp.get 3 (.pointer (some ⟨b, i * 7, none⟩)) = some (.int .i64 p.id) := by
  obtain ⟨ty, ro, rest, hg⟩ := ho
  simp only [aLoad, hg, agg3, size3]
  have := flat_get vc 7 vs (fun _ _ => rfl) i 0 p h (by omega)
  rw [Nat.add_zero] at this
  unfold vrow
  rw [get_app this]
theorem inR64 {x : Int} (h1 : -9223372036854775808 ≤ x) (h2 : x ≤ 9223372036854775807) : inR .i64 x = true := Bool.and_eq_true_iff.2 ⟨decide_eq_true h1, decide_eq_true h2⟩
theorem wrap64 {x : Int} (h1 : -9223372036854775808 ≤ x) (h2 : x ≤ 9223372036854775807) : wrapF .i64 x = x := by
  unfold wrapF
  rw [inR64 h1 h2]
theorem wrap_up {i : Nat} (h : i < 1000000) : (some (Value.int .i64 (wrapF .i64 (Int.ofNat i + 1)))) = some (iN (i + 1)) := by
  have e : Int.ofNat i + 1 = Int.ofNat (i + 1) := rfl
  rw [e, wrap64 (by have := Int.natCast_nonneg (i + 1); simp only [Int.ofNat_eq_natCast]; omega) (by simp only [Int.ofNat_eq_natCast]; omega)]
  rfl
theorem wrap_down {i : Nat} (h : i < 1000000) : (some (Value.int .i64 (wrapF .i64 (Int.ofNat (i + 1) - 1)))) = some (iN i) := by
  have e : Int.ofNat (i + 1) - 1 = Int.ofNat i := by simp only [Int.ofNat_eq_natCast]; omega
  rw [e, wrap64 (by have := Int.natCast_nonneg i; simp only [Int.ofNat_eq_natCast]; omega) (by simp only [Int.ofNat_eq_natCast]; omega)]
  rfl
end Go.Proofs.Ytgeoommlmddgpaa.LtA
namespace Go.Proofs.Ytgeoommlmddgpaa.LtA
open Go Go.Proofs Go.Proofs.Ytgeoommlmddgpaa.AI Go.RowKit

noncomputable def fb18 : Code := (Try.f24.body).getD .skip
noncomputable def c18a : Code := sL fb18
noncomputable def c18b : Code := sL (sL (sR fb18))
noncomputable def c18c : Code := unL (unB (sR (sL (sR fb18))))
noncomputable def c18d : Code := sR (sR fb18)
theorem body18 : Try.f24.body = some (.seq c18a (.seq (.seq c18b (.block 0 (.loop c18c))) c18d)) := by kernel_rfl
section
variable (o : Blk) (n c : Nat)
abbrev A18 (g : Nat → Value) : St := stOf 34 g [(0, rowS 0 n c), (2, iN 0)] [o]
abbrev L18 (i : Nat) (g : Nat → Value) : St := stOf 34 g [(0, rowS 0 n c), (2, iN 0), (5, rowS 0 n c), (6, iN n), (7, iN i)] [o]
abbrev R18 (v : Value) (g : Nat → Value) : St := stOf 34 g [(2, v)] [o]
abbrev B18 : St := ⟨tmsOf [rowS 0 n c] 0 .leaf, heapOf [o, .dead] hp0, []⟩
theorem r18a : (execQ Try.prog cE [] 10 c18a (B18 o n c)).map (fun r => (look2 1 [0] [0, 2] (r.1, r.2.1), r.2.2)) = some ((.normal, [o], [(0, rowS 0 n c), (2, iN 0)], true), []) := by kernel_rfl
theorem r18b (g : Nat → Value) : (execQ Try.prog cE [] 10 c18b (A18 o n c g)).map (fun r => (look2 1 [0] [0, 2, 5, 6, 7] (r.1, r.2.1), r.2.2)) = some ((.normal, [o], [(0, rowS 0 n c), (2, iN 0), (5, rowS 0 n c), (6, iN n), (7, iN 0)], true), []) := by kernel_rfl
theorem r18d (g : Nat → Value) : (execQ Try.prog cE [] 10 c18d (A18 o n c g)).map (fun r => (look2 1 [0] [2] (r.1, r.2.1), r.2.2)) = some ((.ret, [o], [(2, iN 0)], true), []) := by kernel_rfl
theorem r18x (i : Nat) (g : Nat → Value) : (execQ Try.prog cE [(8, .bool false)] 20 c18c (L18 o n c i g)).map (fun r => (look2 1 [0] [0, 2] (r.1, r.2.1), r.2.2)) =
    some ((.exit 0, [o], [(0, rowS 0 n c), (2, iN 0)], true), [(some (.bool (decide (Int.ofNat i < Int.ofNat n))), .bool false)]) := by kernel_rfl
noncomputable def owe18 (i : Nat) (v : ViewV) : List Obl :=
  [(some (.bool (decide (Int.ofNat i < Int.ofNat n))), .bool true),
   (fstV ((aIndexAddr Try.prog 22 (rowS 0 n c) (iN i)).map fun v => (v, none)), .pointer (some ⟨0, i * 7, none⟩)),
   (aLoad Try.prog (heapOf ([o] ++ [.dead]) hp0).get 45 (.pointer (some ⟨0, i * 7, none⟩)), .agg ⟨vc v⟩)]
def see18 (i : Nat) (v : ViewV) : List (Tmp × Value) := [(8, .bool true), (10, .pointer (some ⟨0, i * 7, none⟩)), (11, .agg ⟨vc v⟩)]
/-- The view itself is not right. -/
theorem r18f (i : Nat) (v : ViewV) (g : Nat → Value) : (execQ Try.prog cE (see18 i v ++ [(16, .bool false)]) 20 c18c (L18 o n c i g)).map (fun r => (look2 1 [0] [2] (r.1, r.2.1), r.2.2)) =
    some ((.ret, [o], [(2, iN 1)], true), owe18 o n c i v ++ [(some (.bool (oneV v)), .bool false)]) := by kernel_rfl
/-- The first one is right. -/
theorem r18g (v : ViewV) (g : Nat → Value) : (execQ Try.prog cE (see18 0 v ++ [(16, .bool true), (33, iN 1)]) 20 c18c (L18 o n c 0 g)).map (fun r => (look2 1 [0] [0, 2, 5, 6, 7] (r.1, r.2.1), r.2.2)) =
    some ((.normal, [o], [(0, rowS 0 n c), (2, iN 0), (5, rowS 0 n c), (6, iN n), (7, iN 1)], true), owe18 o n c 0 v ++ [(some (.bool (oneV v)), .bool true), (some (.int .i64 (wrapF .i64 (Int.ofNat 0 + 1))), iN 1)]) := by kernel_rfl
noncomputable def pre18 (j : Nat) (u v : ViewV) : List Obl :=
  owe18 o n c (j + 1) v ++ [(some (.bool (oneV v)), .bool true), (some (.bool (decide (Int.ofNat (j + 1) > 0))), .bool true), (some (.int .i64 (wrapF .i64 (Int.ofNat (j + 1) - 1))), iN j),
   (fstV ((aIndexAddr Try.prog 22 (rowS 0 n c) (iN j)).map fun v => (v, none)), .pointer (some ⟨0, j * 7, none⟩)),
   (aLoad Try.prog (heapOf [o, .dead, .cells 45 (vc v) false] hp0).get 3 (.pointer (some ⟨0, j * 7, none⟩)), .int .i64 u.id)]
def sep18 (j : Nat) (u v : ViewV) : List (Tmp × Value) := see18 (j + 1) v ++ [(16, .bool true), (20, .bool true), (24, iN j), (25, .pointer (some ⟨0, j * 7, none⟩)), (27, .int .i64 u.id)]
/-- One behind another: not behind it. -/
theorem r18h (j : Nat) (u v : ViewV) (g : Nat → Value) : (execQ Try.prog cE (sep18 j u v ++ [(30, .bool true)]) 20 c18c (L18 o n c (j + 1) g)).map (fun r => (look2 1 [0] [2] (r.1, r.2.1), r.2.2)) =
    some ((.ret, [o], [(2, iN 1)], true), pre18 o n c j u v ++ [(some (.bool (decide (u.id ≥ v.id))), .bool true)]) := by kernel_rfl
/-- One behind another. -/
theorem r18i (j : Nat) (u v : ViewV) (g : Nat → Value) : (execQ Try.prog cE (sep18 j u v ++ [(30, .bool false), (33, iN (j + 1 + 1))]) 20 c18c (L18 o n c (j + 1) g)).map (fun r => (look2 1 [0] [0, 2, 5, 6, 7] (r.1, r.2.1), r.2.2)) =
    some ((.normal, [o], [(0, rowS 0 n c), (2, iN 0), (5, rowS 0 n c), (6, iN n), (7, iN (j + 1 + 1))], true),
      pre18 o n c j u v ++ [(some (.bool (decide (u.id ≥ v.id))), .bool false), (some (.int .i64 (wrapF .i64 (Int.ofNat (j + 1) + 1))), iN (j + 1 + 1))]) := by kernel_rfl
theorem q18 (v : Value) (g : Nat → Value) : retVal Try.prog Try.f24 (R18 o v g) = some v := by kernel_rfl
end
theorem s18a : codeSafe Try.prog 34 c18a = true := by kernel_rfl
theorem s18b : codeSafe Try.prog 34 c18b = true := by kernel_rfl
theorem s18c : codeSafe Try.prog 34 c18c = true := by kernel_rfl
theorem s18d : codeSafe Try.prog 34 c18d = true := by kernel_rfl

def rightAt (vs : List ViewV) (i : Nat) : Bool := match vs[i]? with
  | none => true
  | some v => oneV v && (match i with
    | 0 => true
    | j + 1 => match vs[j]? with
      | some u => decide (u.id < v.id)
      | none => true)
/-- Are views right? -/
def rightB (vs : List ViewV) : Bool := (List.range vs.length).all (rightAt vs)
theorem rightB_of {vs : List ViewV} (h : ∀ j, j < vs.length → rightAt vs j = true) : rightB vs = true := List.all_eq_true.2 fun j hj => h j (List.mem_range.1 hj)
theorem rightB_not {vs : List ViewV} {j : Nat} (hj : j < vs.length) (h : rightAt vs j = false) : rightB vs = false := by
  cases e : rightB vs with
  | false => rfl
  | true =>
    have := List.all_eq_true.1 e j (List.mem_range.2 hj)
    rw [h] at this; cases this
def errI (b : Bool) : Value := match b with
  | true => iN 0
  | false => iN 1
theorem fixO {o : Blk} (ho : inertB o = true) : ∀ r : List Blk, ∀ i, i < 1 → ∀ o', (o :: r)[i]? = some o' → Fixed 1 o' := by
  intro r i hi o' h
  have : i = 0 := by omega
  subst this
  simp at h
  subst h
  exact inert_fixed ho 1
theorem rowAt0 {o : Blk} {vs : List ViewV} {r : List Blk} (h : ∃ ty ro, o = .cells ty (vrow vs) ro) : RowAt (heapOf (o :: r) hp0) 0 vs := by
  obtain ⟨ty, ro, rfl⟩ := h
  exact .of (ty := ty) (ro := ro) (by rw [heapOf0_get]; rfl)
end Go.Proofs.Ytgeoommlmddgpaa.LtA
namespace Go.Proofs.Ytgeoommlmddgpaa.LtA
open Go Go.Proofs Go.Proofs.Ytgeoommlmddgpaa.AI Go.RowKit

def sameV (u v : ViewV) : Bool := u.id == v.id && (same23 u.n u.t u.o u.r u.d u.i v.n v.t v.o v.r v.d v.i && true)
section
variable (o1 o2 : Blk) (n1 c1 n2 c2 : Nat)
end
def alikeAt (us vs : List ViewV) (i : Nat) : Bool := match us[i]?, vs[i]? with
  | some u, some v => sameV u v
  | _, _ => true
/-- Are two rows alike? -/
def sameRow (us vs : List ViewV) : Bool := decide (us.length = vs.length) && (List.range us.length).all (alikeAt us vs)
end Go.Proofs.Ytgeoommlmddgpaa.LtA
namespace Go.Proofs.Ytgeoommlmddgpaa.LtA
open Go Go.Proofs Go.Proofs.Ytgeoommlmddgpaa.AI Go.RowKit

def newS (b n : Nat) : Value := .slice (some ⟨b, 0, none⟩) n 22
section
variable (o : Blk) (n c : Nat) (vs : List ViewV)
end
theorem info34 : ∃ i, Try.prog.info? 45 = some i ∧ i.size = 7 ∧ i.bytes = 56 := by
  have h : (Try.prog.info? 45).map (fun i => (i.size, i.bytes)) = some (7, 56) := by kernel_rfl
  obtain ⟨i, h1, h2⟩ := Option.map_eq_some_iff.1 h
  simp only [Prod.mk.injEq] at h2
  exact ⟨i, h1, h2.1, h2.2⟩
theorem zero34 : ∃ z, tzero Try.prog 45 = some z ∧ z.length = 7 := by
  have h : (tzero Try.prog 45).map (fun z => z.length) = some 7 := by kernel_rfl
  obtain ⟨z, h1, h2⟩ := Option.map_eq_some_iff.1 h
  exact ⟨z, h1, h2⟩
theorem vrow_len (vs : List ViewV) : (vrow vs).length = vs.length * 7 := flat_len vc 7 vs (fun _ _ => rfl)
theorem getR_all {cs : List Value} {n : Nat} (h : cs.length = n) : getR cs 0 n = some cs := by
  unfold getR
  simp [← h]
theorem ro_row {o : Blk} {vs : List ViewV} (h : vs = [] ∨ ∃ ty ro, o = .cells ty (vrow vs) ro) : vs = [] ∨ ∃ ty ro, roBlk o = .cells ty (vrow vs) ro := by
  rcases h with h | ⟨ty, ro, rfl⟩
  · exact .inl h
  · exact .inr ⟨ty, true, rfl⟩
theorem ro_inert {o : Blk} (h : inertB o = true) : inertB (roBlk o) = true := by cases o <;> exact h
theorem start1 {hp : Hp} {b : Nat} {o : Blk} (hb : hp.get b = some o) (hi : inertB o = true) : startHp [b] hp = heapOf [roBlk o, .dead] hp0 := by
  unfold startHp
  simp [hb, inert_shBlk hi]
theorem row_block (vs : List ViewV) : inertB (.cells 45 (vrow vs) false) = true := vrow_inert vs
open Classical in
noncomputable def g61 (vs : List ViewV) : HeapFn := fun args hp =>
  if args = [.slice none 0 0] ∧ vs = [] then some (.slice none 0 0, heapOf ([] ++ [.dead]) hp)
  else if ∃ b c o, args = [rowS b vs.length c] ∧ hp.get b = some o ∧ inertB o = true ∧ (vs = [] ∨ ∃ ty ro, o = .cells ty (vrow vs) ro) then some (newS hp.sz vs.length, heapOf ([.cells 45 (vrow vs) false] ++ [.dead]) hp)
  else none
theorem ok2_inert {o : Blk} (h : inertB o = true) : okBlk o = true := by
  cases o with
  | cells ty cs ro => exact List.all_eq_true.2 fun v hv => (inert_ok (List.all_eq_true.1 h v hv)).1
  | map => cases h
  | dead => rfl
end Go.Proofs.Ytgeoommlmddgpaa.LtA
namespace Go.Proofs.Ytgeoommlmddgpaa.LtA
open Go Go.Proofs Go.Proofs.Ytgeoommlmddgpaa.AI Go.RowKit

def levA (lt lo lr : Int) : Value := .agg #[.int .i64 lt, .int .i64 lo, .int .i64 lr]
def p1 : Value := .pointer (some ⟨1, 0, none⟩)
def rowB (us : List ViewV) : Blk := .cells 45 (vrow us) false
section
variable (o : Blk) (vs us : List ViewV) (n c : Nat) (lt lo lr keep : Int)
def nxt29 (i : Nat) : Obl := (some (.int .i64 (wrapF .i64 (Int.ofNat i + 1))), iN (i + 1))
end
/-! ### What it does -/
section
variable {lt lo lr keep : Int} {vs : List ViewV}
end
theorem put_row {us : List ViewV} {i k : Nat} {x y : ViewV} {ns : List Value} (hx : us[i]? = some x) (hk : k + ns.length ≤ 7) (hy : ∀ j, j < 7 → (vc y)[j]? = if k ≤ j ∧ j < k + ns.length then ns[j - k]? else (vc x)[j]?) :
    putL (vrow us) (i * 7 + k) ns = vrow (us.set i y) := by
  have hi : i < us.length := (List.getElem?_eq_some_iff.1 hx).1
  have hl := vrow_len us
  apply List.ext_getElem?
  intro j
  rw [putL_get]
  by_cases hj : j < us.length * 7
  · have hq : j / 7 < us.length := Nat.div_lt_of_lt_mul (by rw [Nat.mul_comm]; exact hj)
    have hr : j % 7 < 7 := Nat.mod_lt _ (by omega)
    have hs : j / 7 * 7 + j % 7 = j := by omega
    obtain ⟨u, hu⟩ : ∃ u, us[j / 7]? = some u := ⟨_, List.getElem?_eq_getElem hq⟩
    have g1 : (vrow us)[j]? = (vc u)[j % 7]? := by
      have := flat_get vc 7 us (fun _ _ => rfl) (j / 7) (j % 7) u hu hr
      rw [hs] at this; exact this
    by_cases hqi : j / 7 = i
    · have hux : u = x := by rw [hqi, hx] at hu; exact (Option.some.inj hu).symm
      subst hux
      have hset : (us.set i y)[j / 7]? = some y := by rw [hqi]; simp [hi]
      have g2 : (vrow (us.set i y))[j]? = (vc y)[j % 7]? := by
        have := flat_get vc 7 (us.set i y) (fun _ _ => rfl) (j / 7) (j % 7) y hset hr
        rw [hs] at this; exact this
      rw [g2, hy _ hr, g1]
      by_cases hc : k ≤ j % 7 ∧ j % 7 < k + ns.length
      · rw [if_pos hc, if_pos (by rw [hl]; omega)]
        congr 1; omega
      · rw [if_neg hc, if_neg (by rw [hl]; omega)]
    · have hset : (us.set i y)[j / 7]? = some u := by rw [List.getElem?_set_ne (by omega)]; exact hu
      have g2 : (vrow (us.set i y))[j]? = (vc u)[j % 7]? := by
        have := flat_get vc 7 (us.set i y) (fun _ _ => rfl) (j / 7) (j % 7) u hset hr
        rw [hs] at this; exact this
      rw [g2, g1, if_neg]
      intro hc
      have : i * 7 ≤ j ∧ j < i * 7 + 7 := by omega
      omega
  · rw [if_neg (by rw [hl]; omega), List.getElem?_eq_none (by rw [hl]; omega), List.getElem?_eq_none (by rw [vrow_len]; simp; omega)]
theorem size23 : tsize Try.prog 24 = some 6 := by kernel_rfl
theorem fix1 (us : List ViewV) : ∀ r : List Blk, ∀ i, i < 1 → ∀ o', (rowB us :: r)[i]? = some o' → Fixed 0 o' := by
  intro r i hi o' h
  have : i = 0 := by omega
  subst this
  simp at h
  subst h
  exact inert_fixed (row_block us) 0
end Go.Proofs.Ytgeoommlmddgpaa.LtA
namespace Go.Proofs.Ytgeoommlmddgpaa.LtA
open Go Go.Proofs Go.Proofs.Ytgeoommlmddgpaa.AI Go.RowKit

section
variable (lt lo lr keep : Int)
def p0 : Value := .pointer (some ⟨0, 0, none⟩)
def nilS : Value := .slice none 0 0
end

/-- A row of views in a caller's heap, not nil. -/
def TR (vs : List ViewV) (s : Value) (hp : Hp) : Prop := ∃ b c o, s = rowS b vs.length c ∧ hp.get b = some o ∧ inertB o = true ∧ (vs = [] ∨ ∃ ty ro, o = .cells ty (vrow vs) ro)
theorem TR.not_nil {vs : List ViewV} {hp : Hp} (h : TR vs nilS hp) : False := by
  obtain ⟨b, c, o, h, _⟩ := h
  simp [rowS, nilS] at h
end Go.Proofs.Ytgeoommlmddgpaa.LtA
namespace Go.Proofs.Ytgeoommlmddgpaa.LtA
open Go Go.Proofs Go.Proofs.Ytgeoommlmddgpaa.AI Go.RowKit

/-! ### Check -/
noncomputable abbrev code18 : Code := .seq c18a (.seq (.seq c18b (.block 0 (.loop c18c))) c18d)
theorem n18a : (execQ Try.prog cE [] 10 c18a ⟨tmsOf [nilS] 0 .leaf, heapOf [.dead] hp0, []⟩).map (fun r => (look2 0 [] [0, 2] (r.1, r.2.1), r.2.2)) = some ((.normal, [], [(0, nilS), (2, iN 0)], true), []) := by kernel_rfl
theorem n18b (g : Nat → Value) : (execQ Try.prog cE [] 10 c18b (stOf 34 g [(0, nilS), (2, iN 0)] [])).map (fun r => (look2 0 [] [0, 2, 5, 6, 7] (r.1, r.2.1), r.2.2)) = some ((.normal, [], [(0, nilS), (2, iN 0), (5, nilS), (6, iN 0), (7, iN 0)], true), []) := by kernel_rfl
theorem n18c (g : Nat → Value) : (execQ Try.prog cE [] 20 c18c (stOf 34 g [(0, nilS), (2, iN 0), (5, nilS), (6, iN 0), (7, iN 0)] [])).map (fun r => (look2 0 [] [0, 2] (r.1, r.2.1), r.2.2)) = some ((.exit 0, [], [(0, nilS), (2, iN 0)], true), []) := by kernel_rfl
theorem n18d (g : Nat → Value) : (execQ Try.prog cE [] 10 c18d (stOf 34 g [(0, nilS), (2, iN 0)] [])).map (fun r => (look2 0 [] [2] (r.1, r.2.1), r.2.2)) = some ((.ret, [], [(2, iN 0)], true), []) := by kernel_rfl
theorem q18' (v : Value) (O : List Blk) (g : Nat → Value) : retVal Try.prog Try.f24 (stOf 34 g [(2, v)] O) = some v := by kernel_rfl
theorem noFix (O : List Blk) : ∀ i, i < 0 → ∀ o, O[i]? = some o → Fixed 0 o := fun i hi => absurd hi (Nat.not_lt_zero _)
theorem check_nil (W : Base) : FRwp Try.prog 34 W code18 ⟨tmsOf [nilS] 0 .leaf, heapOf [.dead] hp0, []⟩ (fun e st => (e = .normal ∨ e = .ret) ∧ st.df = [] ∧ retVal Try.prog Try.f24 st = some (iN 0)) := by
  refine FRwp.seq (Q1 := fun x st => x = .normal ∧ ∃ g, st = stOf 34 g [(0, nilS), (2, iN 0)] []) (FRwp.piece cE_ok follows 0 _ _ _ _ n18a Met.nil s18a rfl rfl rfl (noFix _) fun g => ⟨rfl, g, rfl⟩) ?_ (fun x st hne hq => absurd hq.1 hne)
  rintro st ⟨-, g, rfl⟩
  refine FRwp.seq (Q1 := fun x st => x = .normal ∧ ∃ g, st = stOf 34 g [(0, nilS), (2, iN 0)] []) ?_ ?_ (fun x st hne hq => absurd hq.1 hne)
  · refine FRwp.seq (Q1 := fun x st => x = .normal ∧ ∃ g, st = stOf 34 g [(0, nilS), (2, iN 0), (5, nilS), (6, iN 0), (7, iN 0)] []) (FRwp.piece cE_ok follows 0 _ _ _ _ (n18b g) Met.nil s18b rfl rfl rfl (noFix _) fun g => ⟨rfl, g, rfl⟩) ?_ (fun x st hne hq => absurd hq.1 hne)
    rintro st ⟨-, g, rfl⟩
    refine FRwp.block ?_
    refine FRwp.loop (fun k st => ∃ g, st = stOf 34 g [(0, nilS), (2, iN 0), (5, nilS), (6, iN 0), (7, iN 0)] []) ?_ (k := 0) ⟨g, rfl⟩
    rintro k st ⟨g, rfl⟩
    refine FRwp.piece cE_ok follows 0 _ _ _ _ (n18c g) Met.nil s18c rfl rfl rfl (noFix _) fun g' => .inr ⟨by simp, ?_⟩
    show (if (0 : Nat) = 0 then _ else _)
    rw [if_pos rfl]
    exact ⟨rfl, g', rfl⟩
  · rintro st ⟨-, g, rfl⟩
    exact FRwp.piece cE_ok follows 0 _ _ _ _ (n18d g) Met.nil s18d rfl rfl rfl (noFix _) fun g' => ⟨.inr rfl, rfl, q18' _ _ g'⟩
theorem ntmps18 : Try.f24.ntmps = 34 := by kernel_rfl
theorem errI_ok (b : Bool) : ok3 (errI b) = true ∧ ∀ K B, sh3 K B (errI b) = errI b := by cases b <;> exact ⟨rfl, fun _ _ => rfl⟩
end Go.Proofs.Ytgeoommlmddgpaa.LtA
namespace Go.Proofs.Ytgeoommlmddgpaa.LtA
open Go Go.Proofs Go.Proofs.Ytgeoommlmddgpaa.AI Go.RowKit

end Go.Proofs.Ytgeoommlmddgpaa.LtA
namespace Go.Proofs.Ytgeoommlmddgpaa.LtA
open Go Go.Proofs Go.Proofs.Ytgeoommlmddgpaa.AI Go.RowKit

open Classical in
/-- Two rows, in two blocks, neither of them nil. -/
noncomputable def g28 (us vs : List ViewV) : HeapFn := fun args hp => match args with
  | [s, t] => if ∃ b1 c1 o1 b2 c2 o2, s = rowS b1 us.length c1 ∧ t = rowS b2 vs.length c2 ∧ b1 ≠ b2 ∧ hp.get b1 = some o1 ∧ hp.get b2 = some o2 ∧ inertB o1 = true ∧ inertB o2 = true ∧ (us = [] ∨ ∃ ty ro, o1 = .cells ty (vrow us) ro) ∧ (vs = [] ∨ ∃ ty ro, o2 = .cells ty (vrow vs) ro)
    then some (.bool (sameRow us vs), heapOf ([] ++ [.dead]) hp) else none
  | _ => none
end Go.Proofs.Ytgeoommlmddgpaa.LtA
namespace Go.Proofs.Ytgeoommlmddgpaa.LtA
open Go Go.Proofs Go.Proofs.Ytgeoommlmddgpaa.AI Go.RowKit

def p2 : Value := .pointer (some ⟨2, 0, none⟩)
section
variable (o : Blk) (vs ms : List ViewV) (n c : Nat) (lt lo lr keep : Int)
abbrev B6 : St := ⟨tmsOf [rowS 0 n c, levA lt lo lr, .int .i64 keep] 0 .leaf, heapOf [o, .dead] hp0, []⟩
end
end Go.Proofs.Ytgeoommlmddgpaa.LtA
namespace Go.Proofs.Ytgeoommlmddgpaa.LtA
open Go Go.Proofs Go.Proofs.Ytgeoommlmddgpaa.AI Go.RowKit

section
variable (call : CallF) (L X : List Value) (t2 : TypeId) (n c c2 i x : Nat)
end
end Go.Proofs.Ytgeoommlmddgpaa.LtA
namespace Go.Proofs.Ytgeoommlmddgpaa.LtA
open Go Go.Proofs Go.Proofs.Ytgeoommlmddgpaa.AI Go.RowKit

section
variable {L X : List Value} {t2 : TypeId} {n c c2 i x : Nat} {W : Base}
end
end Go.Proofs.Ytgeoommlmddgpaa.LtA
namespace Go.Proofs.Ytgeoommlmddgpaa.LtA
open Go Go.Proofs Go.Proofs.Ytgeoommlmddgpaa.AI Go.RowKit

end Go.Proofs.Ytgeoommlmddgpaa.LtA
namespace Go.Proofs.Ytgeoommlmddgpaa.LtA
open Go Go.Proofs Go.Proofs.Ytgeoommlmddgpaa.AI Go.RowKit

end Go.Proofs.Ytgeoommlmddgpaa.LtA
namespace Go.Proofs.Ytgeoommlmddgpaa.LtA
open Go Go.Proofs Go.Proofs.Ytgeoommlmddgpaa.AI Go.RowKit

def hcA (x : ViewV) : Value := .agg #[.bool x.n, .int .i64 x.t, .int .i64 x.o, .int .i64 x.r, .int .i64 x.d, .int .i64 x.i]
def pb (b off : Nat) : Value := .pointer (some ⟨b, off, none⟩)
section
variable (o : Blk) (vs ms : List ViewV) (n c : Nat) (lt lo lr keep : Int) (i : Nat) (x y : ViewV) (g : Nat → Value)
noncomputable def ixO (b n c : Nat) (i : Nat) : Obl := (fstV ((aIndexAddr Try.prog 22 (rowS b n c) (iN i)).map fun v => (v, none)), pb b (i * 7))
noncomputable def ldO (G : Nat → Option Blk) (t : TypeId) (b off : Nat) (v : Value) : Obl := (aLoad Try.prog G t (pb b off), v)
end
end Go.Proofs.Ytgeoommlmddgpaa.LtA
namespace Go.Proofs.Ytgeoommlmddgpaa.LtA
open Go Go.Proofs Go.Proofs.Ytgeoommlmddgpaa.AI Go.RowKit

/-! ### Plain facts -/
theorem cmp3_zero (a b : Int) : (cmp3 a b == 0) = (a == b) := by
  unfold cmp3
  cases h1 : decide (a < b) with
  | true => simp at h1; rw [show (a == b) = false from beq_false_of_ne (by omega)]; rfl
  | false =>
    simp at h1
    cases h2 : decide (a > b) with
    | true => simp at h2; rw [show (a == b) = false from beq_false_of_ne (by omega)]; rfl
    | false => simp at h2; rw [show a = b by omega]; simp
section
variable {lt lo lr keep : Int} {vs : List ViewV}
end
/-! ### The law's frame -/
theorem agg23 : tagg Try.prog 24 = some true := by kernel_rfl
section
variable {hp : Hp} {b : Nat} {us : List ViewV} {i : Nat} {p : ViewV}
end
theorem fix11 {o : Blk} (ho : inertB o = true) : ∀ r : List Blk, ∀ i, i < 1 → ∀ o', (o :: r)[i]? = some o' → Fixed 0 o' := by
  intro r i hi o' h
  have : i = 0 := by omega
  subst this
  simp at h; subst h; exact inert_fixed ho 0
section
variable {vs ms : List ViewV} {hp : Hp} {s : Value}
end
end Go.Proofs.Ytgeoommlmddgpaa.LtA
namespace Go.Proofs.Ytgeoommlmddgpaa.LtA
open Go Go.Proofs Go.Proofs.Ytgeoommlmddgpaa.AI Go.RowKit Go.ChangeShapes

theorem cells3 : Try.prog.cellsOf 3 = 1 := by kernel_rfl
theorem cells4 : Try.prog.cellsOf 4 = 1 := by kernel_rfl
theorem cells23' : Try.prog.cellsOf 24 = 6 := by kernel_rfl
theorem cells34 : Try.prog.cellsOf 45 = 7 := by kernel_rfl
section
variable {H : Type} {enc : TypeId × Value → H} {W : World} {sp : Nat → Bool} {hd : Bool} {n : Nat} {cs : List Value} {x : DataW H × List MemPlace}
theorem view_of (h : DataW.trod enc Try.prog W 0 sp hd n 45 cs = some x) : ∃ p : ViewV, cs = vc p := by
  obtain ⟨hl, hf⟩ := trod_field Try.underlying45 h
  rw [cells34] at hl
  match cs, hl with
  | [v0, v1, v2, v3, v4, v5, v6], _ =>
    obtain ⟨_, _, k0⟩ := hf 0 _ rfl
    obtain ⟨_, _, k1⟩ := hf 1 _ rfl
    obtain ⟨i0, e0⟩ := trod_int Try.underlying3 k0
    obtain ⟨-, f1⟩ := trod_field Try.underlying24 k1
    obtain ⟨_, _, k10⟩ := f1 0 _ rfl
    obtain ⟨_, _, k11⟩ := f1 1 _ rfl
    obtain ⟨_, _, k12⟩ := f1 2 _ rfl
    obtain ⟨_, _, k13⟩ := f1 3 _ rfl
    obtain ⟨_, _, k14⟩ := f1 4 _ rfl
    obtain ⟨_, _, k15⟩ := f1 5 _ rfl
    obtain ⟨b, e1⟩ := trod_bool Try.underlying4 k10
    obtain ⟨i2, e2⟩ := trod_int Try.underlying3 k11
    obtain ⟨i3, e3⟩ := trod_int Try.underlying3 k12
    obtain ⟨i4, e4⟩ := trod_int Try.underlying3 k13
    obtain ⟨i5, e5⟩ := trod_int Try.underlying3 k14
    obtain ⟨i6, e6⟩ := trod_int Try.underlying3 k15
    simp [cells3, cells4, cells23'] at e0 e1 e2 e3 e4 e5 e6
    subst e0 e1 e2 e3 e4 e5 e6
    exact ⟨⟨i0, b, i2, i3, i4, i5, i6⟩, rfl⟩
end
theorem list_of {α : Type} {R : Nat → α → Prop} : ∀ n, (∀ i, i < n → ∃ p, R i p) → ∃ ps : List α, ps.length = n ∧ ∀ i p, ps[i]? = some p → R i p
  | 0, _ => ⟨[], rfl, fun i p h => by simp at h⟩
  | n + 1, h => by
    obtain ⟨ps, h1, h2⟩ := list_of n (fun i hi => h i (by omega))
    obtain ⟨q, hq⟩ := h n (by omega)
    refine ⟨ps ++ [q], by simp [h1], fun i p hp => ?_⟩
    by_cases hi : i < ps.length
    · rw [List.getElem?_append_left hi] at hp; exact h2 i p hp
    · rw [List.getElem?_append_right (by omega)] at hp
      have : i - ps.length = 0 := by
        have := (List.getElem?_eq_some_iff.1 hp).1
        simp at this; omega
      rw [this] at hp
      simp at hp
      subst hp
      have : i = n := by omega
      rw [this]; exact hq
/-- A row of views, as it lies. -/
theorem vrow_of {H : Type} {enc : TypeId × Value → H} {W : World} {sp : Nat → Bool} {hd : Bool} {fuel : Nat} {r off n c : Nat} {x : DataW H × List MemPlace} (h : DataW.trod enc Try.prog W 0 sp hd fuel 22 [.slice (some ⟨r, off, none⟩) n c] = some x) (hn : 0 < n) :
    ∃ (ps : List ViewV) (arr : Array Value) (ty : TypeId) (fr : Nat × Nat), ps.length = n ∧ W.heap[r]? = some (.cells arr ty fr) ∧ off + (vrow ps).length ≤ arr.size ∧
      ∀ (i : Nat) (v v' : Value), (vrow ps)[i]? = some v → arr[off + i]? = some v' → VRel bm0 (fun _ => none) v v' := by
  rcases Go.Deep.open_slice Try.underlying22 h with ⟨h0, _⟩ | ⟨a, len, cap, m, k, D, Pl, e0, _, hlc, _, hm, _, hel⟩
  · simp at h0
  simp only [List.cons.injEq, Value.slice.injEq, Option.some.injEq, and_true] at e0
  obtain ⟨rfl, rfl, rfl⟩ := e0
  have hmn : n ≤ m := by rw [hm]; split <;> omega
  rw [cells34] at hel
  have hw : ∀ i, i < n → ∃ p : ViewV, ∀ j, j < 7 → W.cell? ⟨r, off + (i * 7 + j), none⟩ = (vc p)[j]? := by
    intro i hi
    obtain ⟨cs, h1, h2⟩ := hel i (by omega)
    obtain ⟨p, rfl⟩ := view_of h2
    obtain ⟨_, h5, h6⟩ := World.cells?_some h1
    refine ⟨p, fun j hj => ?_⟩
    have := h6 j hj
    rw [Addr.add_lit, Addr.add_lit, Nat.add_assoc] at this
    exact this
  obtain ⟨ps, hl, hps⟩ := list_of (R := fun i (p : ViewV) => ∀ j, j < 7 → W.cell? ⟨r, off + (i * 7 + j), none⟩ = (vc p)[j]?) n hw
  have hcell : ∀ i j, i < n → j < 7 → ∃ v, W.cell? ⟨r, off + (i * 7 + j), none⟩ = some v := by
    intro i j hi hj
    obtain ⟨p, h1⟩ := hw i hi
    rw [h1 j hj]
    have : (vc p).length = 7 := rfl
    rw [List.getElem?_eq_getElem (by omega)]
    exact ⟨_, rfl⟩
  obtain ⟨arr, ty, fr, hc⟩ : ∃ arr ty fr, W.heap[r]? = some (.cells arr ty fr) := by
    obtain ⟨v, hv⟩ := hcell 0 0 hn (by omega)
    unfold World.cell? at hv
    split at hv
    · rename_i arr ty fr hc; exact ⟨arr, ty, fr, hc⟩
    · cases hv
  have hlen : (vrow ps).length = n * 7 := by rw [vrow_len, hl]
  refine ⟨ps, arr, ty, fr, hl, hc, ?_, fun i v v' q1 q2 => ?_⟩
  · obtain ⟨v, hv⟩ := hcell (n - 1) 6 (by omega) (by omega)
    rw [cell_of hc] at hv
    have := (Array.getElem?_eq_some_iff.1 hv).1
    rw [hlen]
    omega
  · have hi : i < n * 7 := by rw [← hlen]; exact (List.getElem?_eq_some_iff.1 q1).1
    have hq : i / 7 < ps.length := by rw [hl]; exact Nat.div_lt_of_lt_mul (by rw [Nat.mul_comm]; exact hi)
    have hp : ps[i / 7]? = some ps[i / 7] := List.getElem?_eq_getElem hq
    have hsplit : i = i / 7 * 7 + i % 7 := by omega
    have hj : i % 7 < 7 := Nat.mod_lt _ (by omega)
    have h1 := hps _ _ hp
    have g1 := flat_get vc 7 ps (fun _ _ => rfl) (i / 7) (i % 7) _ hp hj
    rw [← hsplit] at g1
    have g2 := h1 (i % 7) hj
    rw [← hsplit, cell_of hc, q2] at g2
    have hvrow : (vrow ps)[i]? = (ps.flatMap vc)[i]? := rfl
    rw [hvrow, g1, ← g2] at q1
    cases q1
    have hfl : AI.flat v = true := by
      have hm := List.mem_of_getElem? g2.symm
      unfold vc at hm
      simp only [List.mem_cons, List.not_mem_nil, or_false] at hm
      rcases hm with rfl | rfl | rfl | rfl | rfl | rfl | rfl <;> rfl
    exact .flat hfl
theorem sim_dead {m : BM} {o : Blk} {W : World} (s : Sim m (heapOf [o] hp0).get W) : Sim m (heapOf [o, .dead] hp0).get W := by
  have hsub : ∀ b o', (heapOf [o] hp0).get b = some o' → (heapOf [o, .dead] hp0).get b = some o' := by
    intro b o' h
    rw [heapOf0_get] at h ⊢
    match b with
    | 0 => exact h
    | b + 1 => simp at h
  have hle : Le m (heapOf [o] hp0).get m (heapOf [o, .dead] hp0).get := ⟨fun b h => hsub b _ h, fun b x h => .inr h⟩
  refine ⟨fun b x hx => ?_, fun b b' x x' hx hx' hr hl e => ?_⟩
  · obtain ⟨o', h1, h2⟩ := s.dom b x hx
    exact ⟨o', hsub _ _ h1, h2.mono hle rfl⟩
  · obtain ⟨o1, h1, _⟩ := s.dom b x hx
    obtain ⟨o2, h2, _⟩ := s.dom b' x' hx'
    refine s.inj b b' x x' hx hx' ?_ ?_ e
    · unfold rw? at hr ⊢; rw [hsub _ _ h1] at hr; rw [h1]; exact hr
    · unfold live? at hl ⊢; rw [hsub _ _ h2] at hl; rw [h2]; exact hl
theorem ro2_cells {ty : TypeId} {L : List Value} (b : Nat) : rw? (heapOf [Blk.cells ty L true, .dead] hp0).get b = false := by
  unfold rw?
  rw [heapOf0_get]
  match b with
  | 0 => rfl
  | 1 => rfl
  | b + 2 => rfl
theorem ro2_dead (b : Nat) : rw? (heapOf [Blk.dead, .dead] hp0).get b = false := by
  unfold rw?
  rw [heapOf0_get]
  match b with
  | 0 => rfl
  | 1 => rfl
  | b + 2 => rfl
theorem valw_slice {w : World} {r : Reach} {base : Nat} {t e : TypeId} {v : Value} (ht : Try.prog.underlying t = some (.slice e)) (h : Value.okWide Try.prog w r base t v) : v = .slice none 0 0 ∨ ∃ b off n c, v = .slice (some ⟨b, off, none⟩) n c ∧ n ≤ c := by
  unfold Value.okWide at h
  rw [ht] at h
  exact cellw_slice ht h
theorem sim_bm0 {h : HG} {W : World} : Sim bm0 h W := ⟨fun b x h => (by cases h), fun b b' x x' h => (by cases h)⟩
theorem own : ownKnob Try.prog.godebug = none := by kernel_rfl
end Go.Proofs.Ytgeoommlmddgpaa.LtA
namespace Go.Proofs.Ytgeoommlmddgpaa.LtA
open Go Go.Proofs Go.Proofs.Ytgeoommlmddgpaa.AI Go.RowKit

section
variable (o : Blk) (n c : Nat) (id : Int)
def uN (n : Nat) : Value := .int .u64 (Int.ofNat n)
end
end Go.Proofs.Ytgeoommlmddgpaa.LtA
namespace Go.Proofs.Ytgeoommlmddgpaa.LtA
open Go Go.Proofs Go.Proofs.Ytgeoommlmddgpaa.AI Go.RowKit

theorem cmp3_lt (a b : Int) : decide (cmp3 a b < 0) = decide (a < b) := by
  unfold cmp3
  cases h1 : decide (a < b) with
  | true => rfl
  | false => cases h2 : decide (a > b) <;> rfl
theorem half_ok {i j : Nat} : (some (Value.int .u64 (Int.fdiv (Int.ofNat (i + j)) (2 ^ (min (Int.toNat 1) 64))))) = some (uN ((i + j) / 2)) := by
  have e : Int.fdiv (Int.ofNat (i + j)) (2 ^ (min (Int.toNat 1) 64)) = Int.ofNat ((i + j) / 2) := by
    show Int.fdiv (Int.ofNat (i + j)) 2 = _
    rw [Int.fdiv_eq_ediv_of_nonneg _ (by decide)]
    simp only [Int.ofNat_eq_natCast]
    omega
  rw [e]; rfl
theorem u64_ok {n : Nat} (h : n < 3000000) : (some (Value.int .u64 (wrapF .u64 (Int.ofNat n)))) = some (uN n) := by
  have : wrapF .u64 (Int.ofNat n) = Int.ofNat n := by
    show IntKind.wrap .u64 (Int.ofNat n) = _
    simp only [IntKind.wrap, IntKind.bits, IntKind.signed, Int.ofNat_eq_natCast]
    simp
    omega
  rw [this]; rfl
theorem i64_ok {n : Nat} (h : n < 3000000) : (some (Value.int .i64 (wrapF .i64 (Int.ofNat n)))) = some (iN n) := by
  rw [wrap64 (by have := Int.natCast_nonneg n; simp only [Int.ofNat_eq_natCast]; omega) (by simp only [Int.ofNat_eq_natCast]; omega)]
  rfl
theorem add_ok {i j : Nat} (h : i + j < 3000000) : (some (Value.int .i64 (wrapF .i64 (Int.ofNat i + Int.ofNat j)))) = some (iN (i + j)) := by
  have e : Int.ofNat i + Int.ofNat j = Int.ofNat (i + j) := rfl
  rw [e, i64_ok h]
/-! ### Told -/
theorem TR.uniq {us vs : List ViewV} {s : Value} {hp : Hp} (h1 : TR us s hp) (h2 : TR vs s hp) : us = vs := by
  obtain ⟨b, c, o, rfl, hb, _, hr⟩ := h1
  obtain ⟨b', c', o', e, hb', _, hr'⟩ := h2
  unfold rowS at e
  simp only [Value.slice.injEq, Option.some.injEq, Addr.mk.injEq, and_true] at e
  obtain ⟨rfl, hl, -⟩ := e
  rw [hb] at hb'; cases hb'
  have inj : ∀ {us vs : List ViewV}, vrow us = vrow vs → us = vs := by
    intro us
    induction us with
    | nil => intro vs h; cases vs with
      | nil => rfl
      | cons v vs => simp [vrow, vc] at h
    | cons u us ih => intro vs h; cases vs with
      | nil => simp [vrow, vc] at h
      | cons v vs =>
        simp only [vrow, vc, List.flatMap_cons, List.cons_append, List.nil_append, List.cons.injEq, Value.int.injEq, Value.bool.injEq, true_and] at h
        obtain ⟨a1, a2, a3, a4, a5, a6, a7, h⟩ := h
        have := ih h
        subst this
        cases u; cases v
        simp_all
  rcases hr with h | ⟨ty, ro, h⟩
  · subst h
    exact (List.eq_nil_of_length_eq_zero hl.symm).symm
  · rcases hr' with h' | ⟨ty', ro', h'⟩
    · subst h'
      exact List.eq_nil_of_length_eq_zero hl
    · rw [h] at h'
      injection h' with _ h2 _
      exact inj h2
/-- A row of views in a caller's heap: nil, or not. -/
def TN (vs : List ViewV) (s : Value) (hp : Hp) : Prop := s = nilS ∧ vs = [] ∨ TR vs s hp
theorem TN.uniq {us vs : List ViewV} {s : Value} {hp : Hp} (h1 : TN us s hp) (h2 : TN vs s hp) : us = vs := by
  rcases h1 with ⟨rfl, rfl⟩ | h1
  · rcases h2 with ⟨-, rfl⟩ | h2
    · rfl
    · exact h2.not_nil.elim
  · rcases h2 with ⟨rfl, rfl⟩ | h2
    · exact h1.not_nil.elim
    · exact h1.uniq h2
open Classical in
/-- Told at whatever row. -/
noncomputable def atRow (P : List ViewV → Prop) (k : List ViewV → HeapFn) : HeapFn := fun args hp => match args with
  | s :: _ => if h : ∃ vs, TN vs s hp ∧ vs.length < 1000000 ∧ P vs then k h.choose args hp else none
  | _ => none
theorem atRow_goal {f : FuncId} {P : List ViewV → Prop} {k : List ViewV → HeapFn} (h : ∀ vs, vs.length < 1000000 → P vs → CallGoal Try.prog f (k vs)) : CallGoal Try.prog f (atRow P k) := by
  intro args hp v hp' he hk
  unfold atRow at he
  split at he
  case h_2 => cases he
  split at he
  · rename_i hx
    exact h _ hx.choose_spec.2.1 hx.choose_spec.2.2 _ _ _ _ he hk
  · cases he
theorem atRow_of {P : List ViewV → Prop} {k : List ViewV → HeapFn} {vs : List ViewV} {s : Value} {r : List Value} {hp : Hp} (h : TN vs s hp) (hn : vs.length < 1000000) (hp' : P vs) : atRow P k (s :: r) hp = k vs (s :: r) hp := by
  unfold atRow
  have hx : ∃ vs, TN vs s hp ∧ vs.length < 1000000 ∧ P vs := ⟨vs, h, hn, hp'⟩
  simp only
  rw [dif_pos hx]
  rw [hx.choose_spec.1.uniq h]
end Go.Proofs.Ytgeoommlmddgpaa.LtA
namespace Go.Proofs.Ytgeoommlmddgpaa.LtA
open Go Go.Proofs Go.Proofs.Ytgeoommlmddgpaa.AI Go.RowKit

def hcL (x : ViewV) : List Value := [.bool x.n, .int .i64 x.t, .int .i64 x.o, .int .i64 x.r, .int .i64 x.d, .int .i64 x.i]
def zeroV (id : Int) : ViewV := ⟨id, false, 0, 0, 0, 0, 0⟩
section
variable (vs ws us : List ViewV) (o : Blk) (n c p : Nat) (y : ViewV)
end
end Go.Proofs.Ytgeoommlmddgpaa.LtA
namespace Go.Proofs.Ytgeoommlmddgpaa.LtA
open Go Go.Proofs Go.Proofs.Ytgeoommlmddgpaa.AI Go.RowKit

theorem vrow_append (us vs : List ViewV) : vrow (us ++ vs) = vrow us ++ vrow vs := by unfold vrow; rw [List.flatMap_append]
section
variable {vs : List ViewV} {s : Value} {hp : Hp}
end
end Go.Proofs.Ytgeoommlmddgpaa.LtA
namespace Go.Proofs.Ytgeoommlmddgpaa.LtA
open Go Go.Proofs Go.Proofs.Ytgeoommlmddgpaa.AI Go.RowKit

/-! ### Plain facts -/
end Go.Proofs.Ytgeoommlmddgpaa.LtA
namespace Go.Proofs.Ytgeoommlmddgpaa.LtA
open Go Go.Proofs Go.Proofs.Ytgeoommlmddgpaa.AI Go.RowKit

section
variable (zs xs ys : List ViewV) (o : Blk) (s : Value) (n : Nat) (y z : ViewV) (O1 O2 : List Blk) (e f : Nat) (u1 u2 : Value)
abbrev B5 : St := ⟨tmsOf [s, .int .i64 y.id, .int .i64 z.id, hcA y, hcA z] 0 .leaf, heapOf [o, .dead] hp0, []⟩
def rw2 (us : List ViewV) : List Blk := [rowB us, .dead]
end
/-! ### What is owed -/
theorem TR.ext {vs : List ViewV} {s : Value} {hp : Hp} (h : TR vs s hp) (hk : hp.ok) (O : List Blk) : TR vs s (heapOf O hp) := by
  obtain ⟨b, c, o, rfl, hb, hi, hr⟩ := h
  exact ⟨b, c, o, rfl, by rw [heapOf_get, if_pos (lt_of_get hk hb), hb], hi, hr⟩
theorem TN.ext {vs : List ViewV} {s : Value} {hp : Hp} (h : TN vs s hp) (hk : hp.ok) (O : List Blk) : TN vs s (heapOf O hp) := by
  rcases h with h | h
  · exact .inl h
  · exact .inr (h.ext hk O)
theorem TN.new {vs : List ViewV} {hp : Hp} {b n c : Nat} (hn : n = vs.length) (hb : hp.get b = some (rowB vs)) : TN vs (rowS b n c) hp := by
  subst hn
  exact .inr ⟨b, c, rowB vs, rfl, hb, row_block vs, .inr ⟨45, false, rfl⟩⟩
end Go.Proofs.Ytgeoommlmddgpaa.LtA
namespace Go.Proofs.Ytgeoommlmddgpaa.LtA
open Go Go.Proofs Go.Proofs.Ytgeoommlmddgpaa.AI Go.RowKit Go.ChangeShapes

theorem types23' : Try.prog.cellTypes Try.prog.depth 24 = some [4, 3, 3, 3, 3, 3] := by kernel_rfl
theorem open_height' {w : World} {r : Reach} {base : Nat} {v : Value} (id : Int) (h : Value.okWide Try.prog w r base 24 v) : ∃ y : ViewV, y.id = id ∧ v = hcA y := by
  obtain ⟨cs, rfl, hs, hc⟩ := openw_cells Try.underlying24 types23' cells23' h
  obtain ⟨l⟩ := cs
  match l, hs with
  | [x0, x1, x2, x3, x4, x5], _ =>
    obtain ⟨b, rfl⟩ := cellw_bool Try.underlying4 (hc 0 4 x0 rfl rfl)
    obtain ⟨i1, rfl, _⟩ := cellw_int Try.underlying3 (hc 1 3 x1 rfl rfl)
    obtain ⟨i2, rfl, _⟩ := cellw_int Try.underlying3 (hc 2 3 x2 rfl rfl)
    obtain ⟨i3, rfl, _⟩ := cellw_int Try.underlying3 (hc 3 3 x3 rfl rfl)
    obtain ⟨i4, rfl, _⟩ := cellw_int Try.underlying3 (hc 4 3 x4 rfl rfl)
    obtain ⟨i5, rfl, _⟩ := cellw_int Try.underlying3 (hc 5 3 x5 rfl rfl)
    exact ⟨⟨id, b, i1, i2, i3, i4, i5⟩, rfl, rfl⟩
/-- From a frame of its own to a law's word. -/
theorem law_end {f : FuncId} {fn : Func} {c : Code} {N : Nat} (hf : Try.prog.funcs[f]? = some fn) (hb : fn.body = some c) (hN : fn.ntmps = N) (W : World) {args : Array Value} {args0 : List Value} {hp : Hp} {m : BM} (hl : args0.length ≤ N) (hk : hp.ok) (sim : Sim m hp.get W) (ro : ∀ b, rw? hp.get b = false)
    (ra : VRelL m hp.get args0 args.toList) (h : ∀ W, FRwp Try.prog N W c ⟨tmsOf args0 0 .leaf, hp, []⟩ (fun e st => (e = .normal ∨ e = .ret) ∧ st.df = [] ∧ retVal Try.prog fn st = some (.bool true))) :
    Calls Try.prog f args W fun e W' => e = .returned (.bool true) ∧ Below W.heap.size W W' := by
  have h' := h (Base.shut W)
  rw [← hN] at h'
  refine (fn_of (R := fun v _ => v = .bool true) hf hb (by rw [hN]; exact hl) hk sim ro ra (FRwp.mono h' fun e st q => ⟨q.1, q.2.1, _, q.2.2, rfl⟩)).mono fun e w' hh => ?_
  obtain ⟨v', v, st', m', rfl, rfl, rv, _, _, hb, _⟩ := hh
  exact ⟨by rw [rv.of_bool], hb.below⟩
end Go.Proofs.Ytgeoommlmddgpaa.LtA
namespace Go.Proofs.Ytgeoommlmddgpaa.LtA
open Go Go.Proofs Go.Proofs.Ytgeoommlmddgpaa.AI Go.RowKit

/-! ### Rows that begin a block -/
def TP (vs : List ViewV) (s : Value) (hp : Hp) : Prop := ∃ b c o, s = rowS b vs.length c ∧ hp.get b = some o ∧ inertB o = true ∧ Holds vs o
theorem vrow_inj {us : List ViewV} : ∀ {vs : List ViewV}, vrow us = vrow vs → us = vs := by
  induction us with
  | nil => intro vs h; cases vs with
    | nil => rfl
    | cons v vs => simp [vrow, vc] at h
  | cons u us ih => intro vs h; cases vs with
    | nil => simp [vrow, vc] at h
    | cons v vs =>
      simp only [vrow, vc, List.flatMap_cons, List.cons_append, List.nil_append, List.cons.injEq, Value.int.injEq, Value.bool.injEq, true_and] at h
      obtain ⟨a1, a2, a3, a4, a5, a6, a7, h⟩ := h
      have := ih h
      subst this
      cases u; cases v
      simp_all
theorem TP.not_nil {vs : List ViewV} {hp : Hp} (h : TP vs nilS hp) : False := by
  obtain ⟨b, c, o, h, _⟩ := h
  simp [rowS, nilS] at h
theorem TP.uniq {us vs : List ViewV} {s : Value} {hp : Hp} (h1 : TP us s hp) (h2 : TP vs s hp) : us = vs := by
  obtain ⟨b, c, o, rfl, hb, _, hr⟩ := h1
  obtain ⟨b', c', o', e, hb', _, hr'⟩ := h2
  unfold rowS at e
  simp only [Value.slice.injEq, Option.some.injEq, Addr.mk.injEq, and_true] at e
  obtain ⟨rfl, hl, -⟩ := e
  rw [hb] at hb'; cases hb'
  rcases hr with h | ⟨ty, ro, rest, h⟩
  · subst h
    exact (List.eq_nil_of_length_eq_zero hl.symm).symm
  · rcases hr' with h' | ⟨ty', ro', rest', h'⟩
    · subst h'
      exact List.eq_nil_of_length_eq_zero hl
    · rw [h] at h'
      injection h' with _ h2 _
      exact vrow_inj (List.append_inj h2 (by rw [vrow_len, vrow_len, hl])).1
def TQ (vs : List ViewV) (s : Value) (hp : Hp) : Prop := s = nilS ∧ vs = [] ∨ TP vs s hp
theorem TQ.uniq {us vs : List ViewV} {s : Value} {hp : Hp} (h1 : TQ us s hp) (h2 : TQ vs s hp) : us = vs := by
  rcases h1 with ⟨rfl, rfl⟩ | h1
  · rcases h2 with ⟨-, rfl⟩ | h2
    · rfl
    · exact h2.not_nil.elim
  · rcases h2 with ⟨rfl, rfl⟩ | h2
    · exact h1.not_nil.elim
    · exact h1.uniq h2
theorem TP.ext {vs : List ViewV} {s : Value} {hp : Hp} (h : TP vs s hp) (hk : hp.ok) (O : List Blk) : TP vs s (heapOf O hp) := by
  obtain ⟨b, c, o, rfl, hb, hi, hr⟩ := h
  exact ⟨b, c, o, rfl, by rw [heapOf_get, if_pos (lt_of_get hk hb), hb], hi, hr⟩
theorem TQ.ext {vs : List ViewV} {s : Value} {hp : Hp} (h : TQ vs s hp) (hk : hp.ok) (O : List Blk) : TQ vs s (heapOf O hp) := by
  rcases h with h | h
  · exact .inl h
  · exact .inr (h.ext hk O)
/-! ### Get -/
noncomputable def c0 : CallF := aCall Try.prog (extH Try.prog []) 5
theorem c0_ok : CallOk Try.prog c0 := aCall_sound (extH_ok .nil) follows 5
def hB (x : ViewV) : Blk := .cells 24 (hcL x) false
section
variable (o : Blk) (n c : Nat) (id : Int)
end
theorem wrap_max {i : Nat} (h : i + 1 ≤ 9223372036854775807) : (some (Value.int .i64 (wrapF .i64 (Int.ofNat i + 1)))) = some (iN (i + 1)) := by
  have e : Int.ofNat i + 1 = Int.ofNat (i + 1) := rfl
  rw [e, wrap64 (by have := Int.natCast_nonneg (i + 1); simp only [Int.ofNat_eq_natCast]; omega) (by simp only [Int.ofNat_eq_natCast]; omega)]
  rfl
end Go.Proofs.Ytgeoommlmddgpaa.LtA
namespace Go.Proofs.Ytgeoommlmddgpaa.LtA
open Go Go.Proofs Go.Proofs.Ytgeoommlmddgpaa.AI Go.RowKit

/-! ### What is told of a block may be less -/
/-! ### Delete -/
section
variable (L L1 L2 : List Value) (n c i : Nat)
end
end Go.Proofs.Ytgeoommlmddgpaa.LtA
namespace Go.Proofs.Ytgeoommlmddgpaa.LtA
open Go Go.Proofs Go.Proofs.Ytgeoommlmddgpaa.AI Go.RowKit

section
variable (vs us : List ViewV) (o : Blk) (n n1 c p : Nat) (id : Int)
end
section
variable {vs : List ViewV} {s : Value} {hp : Hp}
end
end Go.Proofs.Ytgeoommlmddgpaa.LtA
namespace Go.Proofs.Ytgeoommlmddgpaa.LtA
open Go Go.Proofs Go.Proofs.Ytgeoommlmddgpaa.AI Go.RowKit

def hk0 (o : Blk) (y : ViewV) : Hp := heapOf [o, .dead, .cells 24 (hcL y) false] hp0
section
variable (xs ds : List ViewV) (o : Blk) (s : Value) (n : Nat) (y : ViewV) (oth : Int)
noncomputable def hk1 (xs : List ViewV) (o : Blk) (y : ViewV) : Hp := heapOf (rw2 xs) (hk0 o y)
noncomputable def hk2 (ds xs : List ViewV) (o : Blk) (y : ViewV) : Hp := heapOf (rw2 ds) (hk1 xs o y)
/-- Behind a Get: its answer lies in a variable. -/
noncomputable def hkG (x : ViewV) (hp : Hp) : Hp := heapOf [.dead, hB x] hp
end
/-! ### Plain facts -/
/-! ### What is owed -/
section
variable {vs : List ViewV} {s : Value} {hp : Hp}
end
end Go.Proofs.Ytgeoommlmddgpaa.LtA
