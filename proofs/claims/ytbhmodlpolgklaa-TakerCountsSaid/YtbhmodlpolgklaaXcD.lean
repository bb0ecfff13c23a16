/- Part 4. -/
import Derived.Test.YtbhmodlpolgklaaXcC
import Derived.Test.YtbhmodlpolgklaaChecked
set_option linter.unusedVariables false
set_option linter.unusedSimpArgs false
set_option maxRecDepth 100000
namespace Go.Proofs.Ytbhmodlpolgklaa.Tk
open Go Go.Proofs Go.Proofs.Ytbhmodlpolgklaa.AI Go.RowKit
variable [Inhabited Prop]
omit [Inhabited Prop] in
theorem follows : Try.prog.follows .mixedOrders = true := by kernel_rfl
structure ObV where
  kind : Int
  dest : Int
  n : Bool
  t : Int
  o : Int
  r : Int
  d : Int
  i : Int
  a : Int
  b : Int
  c : Int
  k : Int
def iN (n : Nat) : Value := .int .i64 (Int.ofNat n)
def pb (b off : Nat) : Value := .pointer (some ⟨b, off, none⟩)
def nilS : Value := .slice none 0 0
def obL (x : ObV) : List Value := [.int .i64 x.kind, .int .i64 x.dest, .bool x.n, .int .i64 x.t, .int .i64 x.o, .int .i64 x.r, .int .i64 x.d, .int .i64 x.i, .int .i64 x.a, .int .i64 x.b, .int .i64 x.c, .int .i64 x.k]
def andE (b : Bool) (r : Option Bool) : Option Bool := match b with
  | true => r
  | false => some false
omit [Inhabited Prop] in
theorem andE_some (b c : Bool) : andE b (some c) = some (b && c) := by cases b <;> rfl
def bindE (r acc : Option Bool) : Option Bool := match r with
  | some true => acc
  | some false => some false
  | none => none
omit [Inhabited Prop] in
theorem bool_ok {a b : Bool} (h : a = b) : (some (Value.bool a)) = some (.bool b) := by rw [h]
omit [Inhabited Prop] in
theorem kne {k : Int} {a b : Nat} (h : a ≠ b) (e : (k == Int.ofNat a) = true) : (k == Int.ofNat b) = false := by
  have e := eq_of_beq e
  subst e
  exact beq_eq_false_iff_ne.2 fun h2 => h (Int.ofNat.inj h2)
def zO (n : Bool) (t o r d i a b c k : Int) : Bool := (n == false) && ((t == Int.ofNat 0) && ((o == Int.ofNat 0) && ((r == Int.ofNat 0) && ((d == Int.ofNat 0) && ((i == Int.ofNat 0) && ((a == Int.ofNat 0) && ((b == Int.ofNat 0) && ((c == Int.ofNat 0) && (k == Int.ofNat 0)))))))))
def same23 (n1 : Bool) (a1 b1 c1 d1 e1 : Int) (n2 : Bool) (a2 b2 c2 d2 e2 : Int) : Bool := n1 == n2 && (a1 == a2 && (b1 == b2 && (c1 == c2 && (d1 == d2 && (e1 == e2 && true)))))
omit [Inhabited Prop] in
theorem eqHt (n1 : Bool) (a1 b1 c1 d1 e1 : Int) (n2 : Bool) (a2 b2 c2 d2 e2 : Int) : fstV ((aBin Try.prog .eql 31 (.agg #[.bool n1, .int .i64 a1, .int .i64 b1, .int .i64 c1, .int .i64 d1, .int .i64 e1]) (.agg #[.bool n2, .int .i64 a2, .int .i64 b2, .int .i64 c2, .int .i64 d2, .int .i64 e2])).map fun v => (v, none)) = some (.bool (same23 n1 a1 b1 c1 d1 e1 n2 a2 b2 c2 d2 e2)) := by
  have h : aBin Try.prog .eql 31 (.agg #[.bool n1, .int .i64 a1, .int .i64 b1, .int .i64 c1, .int .i64 d1, .int .i64 e1]) (.agg #[.bool n2, .int .i64 a2, .int .i64 b2, .int .i64 c2, .int .i64 d2, .int .i64 e2]) =
      (andE (n1 == n2) (andE (a1 == a2) (andE (b1 == b2) (andE (c1 == c2) (andE (d1 == d2) (andE (e1 == e2) (some true))))))).map .bool := by kernel_rfl
  rw [h]
  simp only [andE_some, same23]
  rfl
omit [Inhabited Prop] in
theorem neO (n : Bool) (t o r d i a b c k : Int) : fstV ((aBin Try.prog .neq 35 (.agg #[iN 0, iN 0, .bool n, .int .i64 t, .int .i64 o, .int .i64 r, .int .i64 d, .int .i64 i, .int .i64 a, .int .i64 b, .int .i64 c, .int .i64 k]) (.agg #[iN 0, iN 0, .bool false, iN 0, iN 0, iN 0, iN 0, iN 0, iN 0, iN 0, iN 0, iN 0])).map fun v => (v, none)) = some (.bool (!zO n t o r d i a b c k)) := by
  have h : aBin Try.prog .neq 35 (.agg #[iN 0, iN 0, .bool n, .int .i64 t, .int .i64 o, .int .i64 r, .int .i64 d, .int .i64 i, .int .i64 a, .int .i64 b, .int .i64 c, .int .i64 k]) (.agg #[iN 0, iN 0, .bool false, iN 0, iN 0, iN 0, iN 0, iN 0, iN 0, iN 0, iN 0, iN 0]) =
      (bindE (andE (n == false) (andE (t == Int.ofNat 0) (andE (o == Int.ofNat 0) (andE (r == Int.ofNat 0) (andE (d == Int.ofNat 0) (andE (i == Int.ofNat 0) (some true))))))) (bindE (andE (a == Int.ofNat 0) (andE (b == Int.ofNat 0) (andE (c == Int.ofNat 0) (some true)))) (andE (k == Int.ofNat 0) (some true)))).map fun b => .bool (!b) := by kernel_rfl
  rw [h]
  unfold zO
  cases n <;> cases (t == Int.ofNat 0) <;> cases (o == Int.ofNat 0) <;> cases (r == Int.ofNat 0) <;> cases (d == Int.ofNat 0) <;> cases (i == Int.ofNat 0) <;> first | rfl | skip
  all_goals (cases (a == Int.ofNat 0) <;> cases (b == Int.ofNat 0) <;> cases (c == Int.ofNat 0) <;> cases (k == Int.ofNat 0) <;> rfl)
omit [Inhabited Prop] in
theorem shr1 (r : Int) : r.fdiv (2 ^ (min 1 (IntKind.bits .i64))) = r / 2 := by
  have : (min 1 (IntKind.bits .i64)) = 1 := by decide
  rw [this]
  exact Int.fdiv_eq_ediv_of_nonneg _ (by decide)
def okH (n : Bool) (t o r d i : Int) : Bool := decide (0 ≤ i ∧ i < 64 ∧ (n = true ∧ t = 0 ∧ o = 0 ∧ r = 0 ∧ d = 0 ∨ n = false ∧ 0 ≤ t ∧ t ≤ 4611686018427387903 ∧ 0 ≤ o ∧ o < 64 ∧ (r = 0 ∨ r = 1) ∧ -1099511627776 ≤ d ∧ d ≤ 1099511627776))
def okO (x : ObV) : Bool := decide (0 ≤ x.dest ∧ x.dest < 64) &&
  (decide (x.kind = 1) && zO x.n x.t x.o x.r x.d x.i x.a x.b x.c x.k ||
   decide (x.kind = 2) && (okH x.n x.t x.o x.r x.d x.i && zO false 0 0 0 0 0 x.a x.b x.c x.k) ||
   decide (x.kind = 3) && (okH false x.a x.b x.c 0 0 && zO x.n x.t x.o x.r x.d x.i 0 0 0 x.k) ||
   decide (x.kind = 4) && (!x.n && (decide (0 ≤ x.k ∧ x.k ≤ 65535) && (okH x.n x.t x.o x.r x.d x.i && zO false 0 0 0 0 0 x.a x.b x.c 0))))
def szO (x : ObV) : Nat := bif okO x then (bif decide (x.kind = 1) then 2 else bif decide (x.kind = 3) then 12 else (bif x.n then 4 else 22) + (bif decide (x.kind = 4) then 2 else 0)) else 0
noncomputable def E0 : Ext := extH Try.prog []
theorem E0_ok : ExtOk Try.prog E0 := extH_ok .nil
omit [Inhabited Prop] in
theorem tFar_e (a b : Int) (Q : Value → Prop) : (Q (.int .i64 (wrapF .i64 (wrapF .u16 ((wrapF .u16 b) - (wrapF .u16 a)))))) = CT Try.prog E0 61 19 [.int .i64 a, .int .i64 b] (.stop 0 [] []) Q := by kernel_rfl
def far (a b : Int) : Int := (wrapF .i64 (wrapF .u16 ((wrapF .u16 b) - (wrapF .u16 a))))
omit [Inhabited Prop] in
theorem tFar_run (a b : Int) : ∃ hp, aCall Try.prog E0 61 19 [.int .i64 a, .int .i64 b] hp0 = some (.int .i64 (far a b), hp) := CT_run (tFar_e a b _) rfl
def gFar : List Value → Option Value
  | [.int .i64 a, .int .i64 b] => some (.int .i64 (far a b))
  | _ => none
theorem hkFar : HookGoal Try.prog 19 gFar := hook_of (ext := E0) E0_ok follows Try.func19 (by kernel_rfl) fun args v h => by
  unfold gFar at h
  split at h
  case h_2 => cases h
  rename_i a b
  cases h
  obtain ⟨hp, q⟩ := tFar_run a b
  exact ⟨rfl, rfl, _, hp, q⟩
omit [Inhabited Prop] in
theorem tNext_e (a : Int) (Q : Value → Prop) : (Q (.int .i64 (wrapF .i64 (wrapF .u16 ((wrapF .u16 a) + (Int.ofNat 1)))))) = CT Try.prog E0 61 21 [.int .i64 a] (.stop 0 [] []) Q := by kernel_rfl
def nxt (a : Int) : Int := (wrapF .i64 (wrapF .u16 ((wrapF .u16 a) + (Int.ofNat 1))))
omit [Inhabited Prop] in
theorem tNext_run (a : Int) : ∃ hp, aCall Try.prog E0 61 21 [.int .i64 a] hp0 = some (.int .i64 (nxt a), hp) := CT_run (tNext_e a _) rfl
def gNext : List Value → Option Value
  | [.int .i64 a] => some (.int .i64 (nxt a))
  | _ => none
theorem hkNext : HookGoal Try.prog 21 gNext := hook_of (ext := E0) E0_ok follows Try.func21 (by kernel_rfl) fun args v h => by
  unfold gNext at h
  split at h
  case h_2 => cases h
  rename_i a
  cases h
  obtain ⟨hp, q⟩ := tNext_run a
  exact ⟨rfl, rfl, _, hp, q⟩
noncomputable def EHC : Ext := extH Try.prog []
theorem EHC_ok : ExtOk Try.prog EHC := extH_ok .nil
omit [Inhabited Prop] in
theorem tHC_e (n : Bool) (t o r d i : Int) (Q : Value → Prop) : (((decide (i ≥ (Int.ofNat 0))) = true → ((decide (i < (Int.ofNat 64))) = true → (n = true → (fstV ((aBin Try.prog .eql 31 (.agg #[.bool n, .int .i64 t, .int .i64 o, .int .i64 r, .int .i64 d, .int .i64 i]) (.agg #[.bool true, iN 0, iN 0, iN 0, iN 0, .int .i64 i])).map fun v => (v, none)) : Option Value) = some (.bool (same23 n t o r d i true (Int.ofNat 0) (Int.ofNat 0) (Int.ofNat 0) (Int.ofNat 0) i)) ∧ ((some (.agg #[.bool n, .int .i64 t, .int .i64 o, .int .i64 r, .int .i64 d, .int .i64 i]) : Option Value) = some (.agg #[.bool n, .int .i64 t, .int .i64 o, .int .i64 r, .int .i64 d, .int .i64 i]) ∧ (((!(same23 n t o r d i true (Int.ofNat 0) (Int.ofNat 0) (Int.ofNat 0) (Int.ofNat 0) i)) = true → Q (iN 1)) ∧ ((!(same23 n t o r d i true (Int.ofNat 0) (Int.ofNat 0) (Int.ofNat 0) (Int.ofNat 0) i)) = false → Q (iN 0))))) ∧ (n = false → ((decide (t ≥ (Int.ofNat 0))) = true → ((decide (t ≤ (Int.ofNat 4611686018427387903))) = true → ((decide (o ≥ (Int.ofNat 0))) = true → ((decide (o < (Int.ofNat 64))) = true → (((r.fdiv (2 ^ (min (Int.toNat (Int.ofNat 1)) (IntKind.bits .i64)))) == (Int.ofNat 0)) = true → ((decide (d ≥ (Int.negSucc 1099511627775))) = true → ((!(decide (d ≤ (Int.ofNat 1099511627776)))) = true → Q (iN 1)) ∧ ((!(decide (d ≤ (Int.ofNat 1099511627776)))) = false → Q (iN 0))) ∧ ((decide (d ≥ (Int.negSucc 1099511627775))) = false → Q (iN 1))) ∧ (((r.fdiv (2 ^ (min (Int.toNat (Int.ofNat 1)) (IntKind.bits .i64)))) == (Int.ofNat 0)) = false → Q (iN 1))) ∧ ((decide (o < (Int.ofNat 64))) = false → Q (iN 1))) ∧ ((decide (o ≥ (Int.ofNat 0))) = false → Q (iN 1))) ∧ ((decide (t ≤ (Int.ofNat 4611686018427387903))) = false → Q (iN 1))) ∧ ((decide (t ≥ (Int.ofNat 0))) = false → Q (iN 1)))) ∧ ((decide (i < (Int.ofNat 64))) = false → (n = true → Q (iN 1)) ∧ (n = false → Q (iN 1)))) ∧ ((decide (i ≥ (Int.ofNat 0))) = false → (n = true → Q (iN 1)) ∧ (n = false → Q (iN 1)))) = CT Try.prog EHC 90 52 [.agg #[.bool n, .int .i64 t, .int .i64 o, .int .i64 r, .int .i64 d, .int .i64 i]] (.b 4 (.b 8 (.b 12 (.v 23 (.bool (same23 n t o r d i true (Int.ofNat 0) (Int.ofNat 0) (Int.ofNat 0) (Int.ofNat 0) i)) (.b 27 (.stop 0 [] []) (.stop 0 [] []))) (.b 17 (.b 22 (.b 27 (.b 32 (.b 38 (.b 43 (.b 52 (.stop 0 [] []) (.stop 0 [] [])) (.stop 0 [] [])) (.stop 0 [] [])) (.stop 0 [] [])) (.stop 0 [] [])) (.stop 0 [] [])) (.stop 0 [] []))) (.b 12 (.stop 0 [] []) (.stop 0 [] []))) (.b 9 (.stop 0 [] []) (.stop 0 [] []))) Q := by kernel_rfl
def vHC (n : Bool) (t o r d i : Int) : Int := bif okH n t o r d i then 0 else 1
omit [Inhabited Prop] in
theorem tHC_run (n : Bool) (t o r d i : Int) : ∃ hp, aCall Try.prog EHC 90 52 [.agg #[.bool n, .int .i64 t, .int .i64 o, .int .i64 r, .int .i64 d, .int .i64 i]] hp0 = some (.int .i64 (vHC n t o r d i), hp) := by
  refine CT_run (tHC_e n t o r d i _) ?_
  refine ⟨fun h_4 => ⟨fun h_8 => ⟨fun h_12 => ⟨eqHt n t o r d i true (Int.ofNat 0) (Int.ofNat 0) (Int.ofNat 0) (Int.ofNat 0) i, ⟨rfl, ⟨fun h_27 => ?_, fun h_27 => ?_⟩⟩⟩, fun h_12 => ⟨fun h_17 => ⟨fun h_22 => ⟨fun h_27 => ⟨fun h_32 => ⟨fun h_38 => ⟨fun h_43 => ⟨fun h_52 => ?_, fun h_52 => ?_⟩, fun h_43 => ?_⟩, fun h_38 => ?_⟩, fun h_32 => ?_⟩, fun h_27 => ?_⟩, fun h_22 => ?_⟩, fun h_17 => ?_⟩⟩, fun h_8 => ⟨fun h_12 => ?_, fun h_12 => ?_⟩⟩, fun h_4 => ⟨fun h_9 => ?_, fun h_9 => ?_⟩⟩
  all_goals (refine congrArg (Value.int .i64) ?_; unfold vHC; rcases hq : okH n t o r d i with _ | _ <;> simp only [okH, same23, Int.ofNat_eq_natCast, Int.toNat_natCast, shr1, decide_eq_false_iff_not, decide_eq_true_eq] at * <;> simp_all <;> omega)
def gHC : List Value → Option Value
  | [.agg ⟨[.bool n, .int .i64 t, .int .i64 o, .int .i64 r, .int .i64 d, .int .i64 i]⟩] => some (.int .i64 (vHC n t o r d i))
  | _ => none
theorem hkHC : HookGoal Try.prog 52 gHC := hook_of (ext := EHC) EHC_ok follows Try.func52 (by kernel_rfl) fun args v h => by
  unfold gHC at h
  split at h
  case h_2 => cases h
  rename_i n t o r d i
  cases h
  obtain ⟨hp, q⟩ := tHC_run n t o r d i
  exact ⟨rfl, rfl, _, hp, q⟩
noncomputable def EOC : Ext := extH Try.prog [(52, gHC)]
theorem EOC_ok : ExtOk Try.prog EOC := extH_ok (.cons hkHC .nil)
omit [Inhabited Prop] in
theorem tOC_e (x : ObV) (Q : Value → Prop) : (((decide (x.dest ≥ (Int.ofNat 0))) = true → ((decide (x.dest < (Int.ofNat 64))) = true → ((x.kind == (Int.ofNat 1)) = true → (fstV ((aBin Try.prog .neq 35 (.agg #[iN 0, iN 0, .bool x.n, .int .i64 x.t, .int .i64 x.o, .int .i64 x.r, .int .i64 x.d, .int .i64 x.i, .int .i64 x.a, .int .i64 x.b, .int .i64 x.c, .int .i64 x.k]) (.agg #[iN 0, iN 0, .bool false, iN 0, iN 0, iN 0, iN 0, iN 0, iN 0, iN 0, iN 0, iN 0])).map fun v => (v, none)) : Option Value) = some (.bool (!(zO x.n x.t x.o x.r x.d x.i x.a x.b x.c x.k))) ∧ ((!(zO x.n x.t x.o x.r x.d x.i x.a x.b x.c x.k)) = true → Q (iN 1)) ∧ ((!(zO x.n x.t x.o x.r x.d x.i x.a x.b x.c x.k)) = false → Q (iN 0))) ∧ ((x.kind == (Int.ofNat 1)) = false → ((x.kind == (Int.ofNat 4)) = true → ((!x.n) = true → ((decide (x.k ≥ (Int.ofNat 0))) = true → ((decide (x.k ≤ (Int.ofNat 65535))) = true → ((!((vHC x.n x.t x.o x.r x.d x.i) == (Int.ofNat 0))) = true → Q (iN 1)) ∧ ((!((vHC x.n x.t x.o x.r x.d x.i) == (Int.ofNat 0))) = false → (fstV ((aBin Try.prog .neq 35 (.agg #[iN 0, iN 0, .bool false, iN 0, iN 0, iN 0, iN 0, iN 0, .int .i64 x.a, .int .i64 x.b, .int .i64 x.c, iN 0]) (.agg #[iN 0, iN 0, .bool false, iN 0, iN 0, iN 0, iN 0, iN 0, iN 0, iN 0, iN 0, iN 0])).map fun v => (v, none)) : Option Value) = some (.bool (!(zO false (Int.ofNat 0) (Int.ofNat 0) (Int.ofNat 0) (Int.ofNat 0) (Int.ofNat 0) x.a x.b x.c (Int.ofNat 0)))) ∧ ((!(zO false (Int.ofNat 0) (Int.ofNat 0) (Int.ofNat 0) (Int.ofNat 0) (Int.ofNat 0) x.a x.b x.c (Int.ofNat 0))) = true → Q (iN 1)) ∧ ((!(zO false (Int.ofNat 0) (Int.ofNat 0) (Int.ofNat 0) (Int.ofNat 0) (Int.ofNat 0) x.a x.b x.c (Int.ofNat 0))) = false → Q (iN 0)))) ∧ ((decide (x.k ≤ (Int.ofNat 65535))) = false → Q (iN 1))) ∧ ((decide (x.k ≥ (Int.ofNat 0))) = false → Q (iN 1))) ∧ ((!x.n) = false → Q (iN 1))) ∧ ((x.kind == (Int.ofNat 4)) = false → ((x.kind == (Int.ofNat 2)) = true → ((!((vHC x.n x.t x.o x.r x.d x.i) == (Int.ofNat 0))) = true → Q (iN 1)) ∧ ((!((vHC x.n x.t x.o x.r x.d x.i) == (Int.ofNat 0))) = false → (fstV ((aBin Try.prog .neq 35 (.agg #[iN 0, iN 0, .bool false, iN 0, iN 0, iN 0, iN 0, iN 0, .int .i64 x.a, .int .i64 x.b, .int .i64 x.c, .int .i64 x.k]) (.agg #[iN 0, iN 0, .bool false, iN 0, iN 0, iN 0, iN 0, iN 0, iN 0, iN 0, iN 0, iN 0])).map fun v => (v, none)) : Option Value) = some (.bool (!(zO false (Int.ofNat 0) (Int.ofNat 0) (Int.ofNat 0) (Int.ofNat 0) (Int.ofNat 0) x.a x.b x.c x.k))) ∧ ((!(zO false (Int.ofNat 0) (Int.ofNat 0) (Int.ofNat 0) (Int.ofNat 0) (Int.ofNat 0) x.a x.b x.c x.k)) = true → Q (iN 1)) ∧ ((!(zO false (Int.ofNat 0) (Int.ofNat 0) (Int.ofNat 0) (Int.ofNat 0) (Int.ofNat 0) x.a x.b x.c x.k)) = false → Q (iN 0)))) ∧ ((x.kind == (Int.ofNat 2)) = false → ((x.kind == (Int.ofNat 3)) = true → (((vHC false x.a x.b x.c (Int.ofNat 0) (Int.ofNat 0)) != (Int.ofNat 0)) = true → ((!((vHC false x.a x.b x.c (Int.ofNat 0) (Int.ofNat 0)) == (Int.ofNat 0))) = true → Q (iN 1)) ∧ ((!((vHC false x.a x.b x.c (Int.ofNat 0) (Int.ofNat 0)) == (Int.ofNat 0))) = false → (fstV ((aBin Try.prog .neq 35 (.agg #[iN 0, iN 0, .bool x.n, .int .i64 x.t, .int .i64 x.o, .int .i64 x.r, .int .i64 x.d, .int .i64 x.i, iN 0, iN 0, iN 0, .int .i64 x.k]) (.agg #[iN 0, iN 0, .bool false, iN 0, iN 0, iN 0, iN 0, iN 0, iN 0, iN 0, iN 0, iN 0])).map fun v => (v, none)) : Option Value) = some (.bool (!(zO x.n x.t x.o x.r x.d x.i (Int.ofNat 0) (Int.ofNat 0) (Int.ofNat 0) x.k))) ∧ ((!(zO x.n x.t x.o x.r x.d x.i (Int.ofNat 0) (Int.ofNat 0) (Int.ofNat 0) x.k)) = true → Q (iN 1)) ∧ ((!(zO x.n x.t x.o x.r x.d x.i (Int.ofNat 0) (Int.ofNat 0) (Int.ofNat 0) x.k)) = false → Q (iN 0)))) ∧ (((vHC false x.a x.b x.c (Int.ofNat 0) (Int.ofNat 0)) != (Int.ofNat 0)) = false → (fstV ((aBin Try.prog .neq 35 (.agg #[iN 0, iN 0, .bool x.n, .int .i64 x.t, .int .i64 x.o, .int .i64 x.r, .int .i64 x.d, .int .i64 x.i, iN 0, iN 0, iN 0, .int .i64 x.k]) (.agg #[iN 0, iN 0, .bool false, iN 0, iN 0, iN 0, iN 0, iN 0, iN 0, iN 0, iN 0, iN 0])).map fun v => (v, none)) : Option Value) = some (.bool (!(zO x.n x.t x.o x.r x.d x.i (Int.ofNat 0) (Int.ofNat 0) (Int.ofNat 0) x.k))) ∧ ((!(zO x.n x.t x.o x.r x.d x.i (Int.ofNat 0) (Int.ofNat 0) (Int.ofNat 0) x.k)) = true → Q (iN 1)) ∧ ((!(zO x.n x.t x.o x.r x.d x.i (Int.ofNat 0) (Int.ofNat 0) (Int.ofNat 0) x.k)) = false → Q (iN 0)))) ∧ ((x.kind == (Int.ofNat 3)) = false → Q (iN 1)))))) ∧ ((decide (x.dest < (Int.ofNat 64))) = false → ((x.kind == (Int.ofNat 1)) = true → Q (iN 1)) ∧ ((x.kind == (Int.ofNat 1)) = false → ((x.kind == (Int.ofNat 4)) = true → Q (iN 1)) ∧ ((x.kind == (Int.ofNat 4)) = false → ((x.kind == (Int.ofNat 2)) = true → Q (iN 1)) ∧ ((x.kind == (Int.ofNat 2)) = false → ((x.kind == (Int.ofNat 3)) = true → (((vHC false x.a x.b x.c (Int.ofNat 0) (Int.ofNat 0)) != (Int.ofNat 0)) = true → Q (iN 1)) ∧ (((vHC false x.a x.b x.c (Int.ofNat 0) (Int.ofNat 0)) != (Int.ofNat 0)) = false → Q (iN 1))) ∧ ((x.kind == (Int.ofNat 3)) = false → Q (iN 1))))))) ∧ ((decide (x.dest ≥ (Int.ofNat 0))) = false → ((x.kind == (Int.ofNat 1)) = true → Q (iN 1)) ∧ ((x.kind == (Int.ofNat 1)) = false → ((x.kind == (Int.ofNat 4)) = true → Q (iN 1)) ∧ ((x.kind == (Int.ofNat 4)) = false → ((x.kind == (Int.ofNat 2)) = true → Q (iN 1)) ∧ ((x.kind == (Int.ofNat 2)) = false → ((x.kind == (Int.ofNat 3)) = true → (((vHC false x.a x.b x.c (Int.ofNat 0) (Int.ofNat 0)) != (Int.ofNat 0)) = true → Q (iN 1)) ∧ (((vHC false x.a x.b x.c (Int.ofNat 0) (Int.ofNat 0)) != (Int.ofNat 0)) = false → Q (iN 1))) ∧ ((x.kind == (Int.ofNat 3)) = false → Q (iN 1))))))) = CT Try.prog EOC 90 43 [.agg #[.int .i64 x.kind, .int .i64 x.dest, .bool x.n, .int .i64 x.t, .int .i64 x.o, .int .i64 x.r, .int .i64 x.d, .int .i64 x.i, .int .i64 x.a, .int .i64 x.b, .int .i64 x.c, .int .i64 x.k]] (.b 11 (.b 15 (.b 20 (.w 27 (!(zO x.n x.t x.o x.r x.d x.i x.a x.b x.c x.k)) (.stop 0 [] []) (.stop 0 [] [])) (.b 22 (.b 29 (.b 34 (.b 39 (.b 56 (.stop 0 [] []) (.w 60 (!(zO false (Int.ofNat 0) (Int.ofNat 0) (Int.ofNat 0) (Int.ofNat 0) (Int.ofNat 0) x.a x.b x.c (Int.ofNat 0))) (.stop 0 [] []) (.stop 0 [] []))) (.stop 0 [] [])) (.stop 0 [] [])) (.stop 0 [] [])) (.b 24 (.b 38 (.stop 0 [] []) (.w 42 (!(zO false (Int.ofNat 0) (Int.ofNat 0) (Int.ofNat 0) (Int.ofNat 0) (Int.ofNat 0) x.a x.b x.c x.k)) (.stop 0 [] []) (.stop 0 [] []))) (.b 26 (.b 49 (.b 70 (.stop 0 [] []) (.w 74 (!(zO x.n x.t x.o x.r x.d x.i (Int.ofNat 0) (Int.ofNat 0) (Int.ofNat 0) x.k)) (.stop 0 [] []) (.stop 0 [] []))) (.w 73 (!(zO x.n x.t x.o x.r x.d x.i (Int.ofNat 0) (Int.ofNat 0) (Int.ofNat 0) x.k)) (.stop 0 [] []) (.stop 0 [] []))) (.stop 0 [] []))))) (.b 20 (.stop 0 [] []) (.b 22 (.stop 0 [] []) (.b 24 (.stop 0 [] []) (.b 26 (.b 49 (.stop 0 [] []) (.stop 0 [] [])) (.stop 0 [] [])))))) (.b 17 (.stop 0 [] []) (.b 19 (.stop 0 [] []) (.b 21 (.stop 0 [] []) (.b 23 (.b 46 (.stop 0 [] []) (.stop 0 [] [])) (.stop 0 [] [])))))) Q := by kernel_rfl
def vOC (x : ObV) : Int := bif okO x then 0 else 1
omit [Inhabited Prop] in
theorem tOC_run (x : ObV) : ∃ hp, aCall Try.prog EOC 90 43 [.agg #[.int .i64 x.kind, .int .i64 x.dest, .bool x.n, .int .i64 x.t, .int .i64 x.o, .int .i64 x.r, .int .i64 x.d, .int .i64 x.i, .int .i64 x.a, .int .i64 x.b, .int .i64 x.c, .int .i64 x.k]] hp0 = some (.int .i64 (vOC x), hp) := by
  refine CT_run (tOC_e x _) ?_
  refine ⟨fun h_11 => ⟨fun h_15 => ⟨fun h_20 => ⟨neO x.n x.t x.o x.r x.d x.i x.a x.b x.c x.k, ⟨fun h_27 => ?_, fun h_27 => ?_⟩⟩, fun h_20 => ⟨fun h_22 => ⟨fun h_29 => ⟨fun h_34 => ⟨fun h_39 => ⟨fun h_56 => ?_, fun h_56 => ⟨neO false (Int.ofNat 0) (Int.ofNat 0) (Int.ofNat 0) (Int.ofNat 0) (Int.ofNat 0) x.a x.b x.c (Int.ofNat 0), ⟨fun h_60 => ?_, fun h_60 => ?_⟩⟩⟩, fun h_39 => ?_⟩, fun h_34 => ?_⟩, fun h_29 => ?_⟩, fun h_22 => ⟨fun h_24 => ⟨fun h_38 => ?_, fun h_38 => ⟨neO false (Int.ofNat 0) (Int.ofNat 0) (Int.ofNat 0) (Int.ofNat 0) (Int.ofNat 0) x.a x.b x.c x.k, ⟨fun h_42 => ?_, fun h_42 => ?_⟩⟩⟩, fun h_24 => ⟨fun h_26 => ⟨fun h_49 => ⟨fun h_70 => ?_, fun h_70 => ⟨neO x.n x.t x.o x.r x.d x.i (Int.ofNat 0) (Int.ofNat 0) (Int.ofNat 0) x.k, ⟨fun h_74 => ?_, fun h_74 => ?_⟩⟩⟩, fun h_49 => ⟨neO x.n x.t x.o x.r x.d x.i (Int.ofNat 0) (Int.ofNat 0) (Int.ofNat 0) x.k, ⟨fun h_73 => ?_, fun h_73 => ?_⟩⟩⟩, fun h_26 => ?_⟩⟩⟩⟩, fun h_15 => ⟨fun h_20 => ?_, fun h_20 => ⟨fun h_22 => ?_, fun h_22 => ⟨fun h_24 => ?_, fun h_24 => ⟨fun h_26 => ⟨fun h_49 => ?_, fun h_49 => ?_⟩, fun h_26 => ?_⟩⟩⟩⟩⟩, fun h_11 => ⟨fun h_17 => ?_, fun h_17 => ⟨fun h_19 => ?_, fun h_19 => ⟨fun h_21 => ?_, fun h_21 => ⟨fun h_23 => ⟨fun h_46 => ?_, fun h_46 => ?_⟩, fun h_23 => ?_⟩⟩⟩⟩⟩
  all_goals (refine congrArg (Value.int .i64) ?_; unfold vOC; rcases hq : okO x with _ | _ <;> simp only [okO, zO, vHC, Int.ofNat_eq_natCast] at * <;> simp_all <;> omega)
def gOC : List Value → Option Value
  | [.agg ⟨[.int .i64 k, .int .i64 dd, .bool n, .int .i64 t, .int .i64 o, .int .i64 r, .int .i64 d, .int .i64 i, .int .i64 a, .int .i64 b, .int .i64 c, .int .i64 q]⟩] => some (.int .i64 (vOC ⟨k, dd, n, t, o, r, d, i, a, b, c, q⟩))
  | _ => none
theorem hkOC : HookGoal Try.prog 43 gOC := hook_of (ext := EOC) EOC_ok follows Try.func43 (by kernel_rfl) fun args v h => by
  unfold gOC at h
  split at h
  case h_2 => cases h
  rename_i k dd n t o r d i a b c q
  cases h
  obtain ⟨hp, q⟩ := tOC_run ⟨k, dd, n, t, o, r, d, i, a, b, c, q⟩
  exact ⟨rfl, rfl, _, hp, q⟩
omit [Inhabited Prop] in
theorem vOC_ne (x : ObV) : (vOC x != Int.ofNat 0) = !okO x := by unfold vOC; cases okO x <;> rfl
omit [Inhabited Prop] in
theorem vHC_ne (n : Bool) (t o r d i : Int) : (vHC n t o r d i != Int.ofNat 0) = !okH n t o r d i := by unfold vHC; cases okH n t o r d i <;> rfl
omit [Inhabited Prop] in
theorem okO_k {x : ObV} (h : okO x = true) : x.kind = 1 ∨ (x.kind = 2 ∧ okH x.n x.t x.o x.r x.d x.i = true) ∨ x.kind = 3 ∨ (x.kind = 4 ∧ okH x.n x.t x.o x.r x.d x.i = true ∧ x.n = false) := by
  unfold okO at h
  simp only [Bool.and_eq_true, Bool.or_eq_true, decide_eq_true_eq, Bool.not_eq_true'] at h
  rcases h.2 with ((h | h) | h) | h
  · exact .inl h.1
  · exact .inr (.inl ⟨h.1, h.2.1⟩)
  · exact .inr (.inr (.inl h.1))
  · exact .inr (.inr (.inr ⟨h.1, h.2.2.2.1, h.2.1⟩))
noncomputable def EOS : Ext := extH Try.prog [(43, gOC), (52, gHC)]
theorem EOS_ok : ExtOk Try.prog EOS := extH_ok (.cons hkOC (.cons hkHC .nil))
omit [Inhabited Prop] in
theorem tOS_e (x : ObV) (Q : Value → Prop) : ((((vOC x) != (Int.ofNat 0)) = true → Q (iN 0)) ∧ (((vOC x) != (Int.ofNat 0)) = false → ((x.kind == (Int.ofNat 2)) = true → (((vHC x.n x.t x.o x.r x.d x.i) != (Int.ofNat 0)) = true → (some (.bool ((vHC x.n x.t x.o x.r x.d x.i) != (Int.ofNat 0))) : Option Value) = some (.bool true) ∧ (Q (iN 0))) ∧ (((vHC x.n x.t x.o x.r x.d x.i) != (Int.ofNat 0)) = false → (x.n = true → (some (.bool (x.kind == (Int.ofNat 4))) : Option Value) = some (.bool false) ∧ (Q (iN 4))) ∧ (x.n = false → (some (.int .i64 x.t) : Option Value) = some (.int .i64 x.t) ∧ ((some (.int .i64 x.d) : Option Value) = some (.int .i64 x.d) ∧ ((some (.bool (x.kind == (Int.ofNat 4))) : Option Value) = some (.bool false) ∧ (Q (iN 22))))))) ∧ ((x.kind == (Int.ofNat 2)) = false → ((x.kind == (Int.ofNat 4)) = true → (((vHC x.n x.t x.o x.r x.d x.i) != (Int.ofNat 0)) = true → (some (.bool ((vHC x.n x.t x.o x.r x.d x.i) != (Int.ofNat 0))) : Option Value) = some (.bool true) ∧ (Q (iN 0))) ∧ (((vHC x.n x.t x.o x.r x.d x.i) != (Int.ofNat 0)) = false → (x.n = true → (some (.bool (x.kind == (Int.ofNat 4))) : Option Value) = some (.bool true) ∧ (Q (iN 6))) ∧ (x.n = false → (some (.int .i64 x.t) : Option Value) = some (.int .i64 x.t) ∧ ((some (.int .i64 x.d) : Option Value) = some (.int .i64 x.d) ∧ ((some (.bool (x.kind == (Int.ofNat 4))) : Option Value) = some (.bool true) ∧ (Q (iN 24))))))) ∧ ((x.kind == (Int.ofNat 4)) = false → ((x.kind == (Int.ofNat 3)) = true → (some (.int .i64 x.b) : Option Value) = some (.int .i64 x.b) ∧ ((some (.int .i64 x.b) : Option Value) = some (.int .i64 x.b) ∧ ((some (.int .i64 x.c) : Option Value) = some (.int .i64 x.c) ∧ ((some (.int .i64 x.c) : Option Value) = some (.int .i64 x.c) ∧ ((some (.bool (x.kind == (Int.ofNat 4))) : Option Value) = some (.bool false) ∧ (Q (iN 12))))))) ∧ ((x.kind == (Int.ofNat 3)) = false → (some (.bool (x.kind == (Int.ofNat 4))) : Option Value) = some (.bool false) ∧ (Q (iN 2))))))) = CT Try.prog EOS 90 44 [.agg #[.int .i64 x.kind, .int .i64 x.dest, .bool x.n, .int .i64 x.t, .int .i64 x.o, .int .i64 x.r, .int .i64 x.d, .int .i64 x.i, .int .i64 x.a, .int .i64 x.b, .int .i64 x.c, .int .i64 x.k]] (.b 11 (.stop 0 [] []) (.b 22 (.b 34 (.v 44 (.bool true) (.stop 0 [] [])) (.b 37 (.v 63 (.bool false) (.stop 0 [] [])) (.v 777 (.bool false) (.stop 0 [] [])))) (.b 24 (.b 36 (.v 46 (.bool true) (.stop 0 [] [])) (.b 39 (.v 65 (.bool true) (.stop 0 [] [])) (.v 779 (.bool true) (.stop 0 [] [])))) (.b 26 (.v 395 (.bool false) (.stop 0 [] [])) (.v 30 (.bool false) (.stop 0 [] [])))))) Q := by kernel_rfl
def vOS (x : ObV) : Int := (szO x : Int)
omit [Inhabited Prop] in
theorem tOS_run (x : ObV) : ∃ hp, aCall Try.prog EOS 90 44 [.agg #[.int .i64 x.kind, .int .i64 x.dest, .bool x.n, .int .i64 x.t, .int .i64 x.o, .int .i64 x.r, .int .i64 x.d, .int .i64 x.i, .int .i64 x.a, .int .i64 x.b, .int .i64 x.c, .int .i64 x.k]] hp0 = some (.int .i64 (vOS x), hp) := by
  refine CT_run (tOS_e x _) ?_
  refine ⟨fun h_11 => ?_, fun h_11 => ⟨fun h_22 => ⟨fun h_34 => ⟨bool_ok h_34, ?_⟩, fun h_34 => ⟨fun h_37 => ⟨bool_ok (kne (by decide) h_22), ?_⟩, fun h_37 => ⟨rfl, ⟨rfl, ⟨bool_ok (kne (by decide) h_22), ?_⟩⟩⟩⟩⟩, fun h_22 => ⟨fun h_24 => ⟨fun h_36 => ⟨bool_ok h_36, ?_⟩, fun h_36 => ⟨fun h_39 => ⟨bool_ok h_24, ?_⟩, fun h_39 => ⟨rfl, ⟨rfl, ⟨bool_ok h_24, ?_⟩⟩⟩⟩⟩, fun h_24 => ⟨fun h_26 => ⟨rfl, ⟨rfl, ⟨rfl, ⟨rfl, ⟨bool_ok h_24, ?_⟩⟩⟩⟩⟩, fun h_26 => ⟨bool_ok h_24, ?_⟩⟩⟩⟩⟩
  all_goals (refine congrArg (Value.int .i64) ?_; have kk := okO_k (x := x); unfold vOS szO; cases hq : okO x <;> simp only [vOC_ne, vHC_ne, hq] at *; all_goals first | (exfalso; simp_all; done) | (simp_all; done) | (rcases kk rfl with h | ⟨h, h2⟩ | h | ⟨h, h2, h3⟩ <;> simp_all; done) | (rcases kk rfl with h | ⟨h, h2⟩ | h | ⟨h, h2, h3⟩ <;> simp_all <;> omega))
def gOS : List Value → Option Value
  | [.agg ⟨[.int .i64 k, .int .i64 dd, .bool n, .int .i64 t, .int .i64 o, .int .i64 r, .int .i64 d, .int .i64 i, .int .i64 a, .int .i64 b, .int .i64 c, .int .i64 q]⟩] => some (.int .i64 (vOS ⟨k, dd, n, t, o, r, d, i, a, b, c, q⟩))
  | _ => none
theorem hkOS : HookGoal Try.prog 44 gOS := hook_of (ext := EOS) EOS_ok follows Try.func44 (by kernel_rfl) fun args v h => by
  unfold gOS at h
  split at h
  case h_2 => cases h
  rename_i k dd n t o r d i a b c q
  cases h
  obtain ⟨hp, q⟩ := tOS_run ⟨k, dd, n, t, o, r, d, i, a, b, c, q⟩
  exact ⟨rfl, rfl, _, hp, q⟩
end Go.Proofs.Ytbhmodlpolgklaa.Tk
namespace Go.Proofs.Ytbhmodlpolgklaa.AI
open Go Go.Proofs Go.RowKit
variable [Inhabited Prop]
def stayV (v : Value) : Prop := ok3 v = true ∧ ∀ s, mv3 s v = v
omit [Inhabited Prop] in
theorem stayV_int (k : IntKind) (z : Int) : stayV (.int k z) := ⟨rfl, fun _ => rfl⟩
omit [Inhabited Prop] in
theorem stayV_bool (b : Bool) : stayV (.bool b) := ⟨rfl, fun _ => rfl⟩
omit [Inhabited Prop] in
theorem stayV_lit (n : Nat) (t : TypeId) (cs : List Value) : stayV (LIT n t cs) := ⟨rfl, fun _ => rfl⟩
omit [Inhabited Prop] in
theorem stayV_bag (n : Nat) (t : TypeId) (cs : List Value) : stayV (BAG n t cs) := ⟨rfl, fun _ => rfl⟩
omit [Inhabited Prop] in
theorem stayV_nil : stayV (.slice none 0 0) := ⟨rfl, fun _ => rfl⟩
omit [Inhabited Prop] in
theorem stayV_fn (f : FuncId) : stayV (.func (.func f) #[] #[]) := ⟨rfl, fun _ => by simp [mv3, mv2]⟩
omit [Inhabited Prop] in
theorem mv1_inert {v : Value} (h : inert v = true) (s : Nat → Nat) : mv1 s v = v ∧ nice1 v = true := by
  cases v with
  | pointer a => cases a <;> first | exact ⟨rfl, rfl⟩ | cases h
  | slice a l c => cases a <;> first | exact ⟨rfl, rfl⟩ | cases h
  | map a => cases a <;> first | exact ⟨rfl, rfl⟩ | cases h
  | agg _ => cases h
  | tuple _ => cases h
  | func _ _ _ => cases h
  | _ => exact ⟨rfl, rfl⟩
omit [Inhabited Prop] in
theorem stayV_agg {cs : List Value} (h : cs.all inert = true) : stayV (.agg ⟨cs⟩) := by
  have h' : ∀ v ∈ cs, inert v = true := fun v hv => List.all_eq_true.1 h v hv
  refine ⟨List.all_eq_true.2 fun v hv => (mv1_inert (h' v hv) id).2, fun s => ?_⟩
  show Value.agg (Array.map (mv1 s) ⟨cs⟩) = _
  have : cs.map (mv1 s) = cs.map id := List.map_congr_left fun v hv => (mv1_inert (h' v hv) s).1
  simp only [List.map_toArray, this, List.map_id]
omit [Inhabited Prop] in
theorem stay_map {asv : List Value} (h : ∀ x ∈ asv, stayV x) (s : Nat → Nat) : asv.map (mv3 s) = asv := by
  induction asv with
  | nil => rfl
  | cons a asv ih => rw [List.map_cons, (h a (.head _)).2, ih fun x hx => h x (.tail _ hx)]
omit [Inhabited Prop] in
theorem mvB_cells {ty : TypeId} {cs : List Value} {ro : Bool} (h : cs.all inert = true) (s : Nat → Nat) : mvB s (.cells ty cs ro) = .cells ty cs ro := by
  have h' : ∀ v ∈ cs, inert v = true := fun v hv => List.all_eq_true.1 h v hv
  show Blk.cells ty (cs.map (mv2 s)) ro = _
  have : cs.map (mv2 s) = cs.map id := List.map_congr_left fun v hv => by
    have := h' v hv
    cases v with
    | pointer a => cases a <;> first | rfl | cases this
    | slice a l c => cases a <;> first | rfl | cases this
    | map a => cases a <;> first | rfl | cases this
    | agg _ => cases this
    | func _ _ _ => cases this
    | _ => rfl
  rw [this]; simp
section
variable {P : Program}
theorem deepG (hm : P.follows .mixedOrders = true) {f : FuncId} {fn : Func} {c : Code} {G : Deep} (hf : P.funcs[f]? = some fn) (hb : fn.body = some c) (hnm : (fn.name == "runtime.NumGoroutine") = false)
    (H : ∀ args r, G args = some r → (∀ x ∈ args, stayV x) ∧ args.length ≤ fn.ntmps ∧
      ∀ B g W X, FRm P fn.ntmps W 0 X c ⟨tmsOf args 0 .leaf, heapOf [.dead] hp0, []⟩ (FinF P fn (EndQ [] B [] (r B).2 (r B).1 g))) : CallGoal P f (tellK G) := mem_goal hm hf hb hnm fun args hp v hp' h hk => by
  unfold tellK at h
  split at h
  case h_2 => cases h
  rename_i r hr
  cases h
  obtain ⟨h1, h2, h3⟩ := H args r hr
  refine ⟨[], [], (r hp.sz).2, rfl, (fun i j b wr wr' h => by simp at h), (fun i b wr h => by simp at h), List.all_eq_true.2 fun x hx => (h1 x hx).1, h2, fun W X => ?_⟩
  rw [stay_map h1]
  exact FRm.mono (h3 hp.sz hp.get W X) fun e st q => EndQ.fin q
omit [Inhabited Prop] in
theorem EndQ.pure {B : Nat} {g : HG} {v u : Value} (h : stayV v) (e : u = v) : EndQ [] B [] [] v g u [] [] [] := by
  subst e
  exact ⟨h.1, rfl, rfl, rfl, rfl, ⟨[], [], [], rfl, rfl, (h.2 _).symm, (fun i b h => by simp at h), rfl⟩, (fun i b h => by simp at h)⟩
omit [Inhabited Prop] in
theorem EndQ.row {B k n c : Nat} {g : HG} {ty : TypeId} {cs : List Value} (h : cs.all inert = true) : EndQ [] B [] [.cells ty cs false] (.slice (some ⟨B, 0, none⟩) n c) g (.slice (some ⟨k, 0, none⟩) n c) [] [k] [.cells ty cs false] := by
  have hok : okBlk (.cells ty cs false) = true := by
    show (cs.all ok2) = true
    exact List.all_eq_true.2 fun v hv => (inert_ok (List.all_eq_true.1 h v hv)).1
  refine ⟨rfl, rfl, ?_, by simp [nodupB], rfl, ⟨[some 0], [.cells ty cs false], [some k], rfl, rfl, ?_, (fun i b h => by simp at h), ?_⟩, (fun i b h => by simp at h)⟩
  · simp [hok, rwB]
  · simp [mv3, mv2, mv1, sgE, posN, Nat.beq_refl]
  · rw [List.map_cons, mvB_cells h]; rfl
omit [Inhabited Prop] in
theorem rload {t k : Nat} {α : Type} {f : α → List Value} (hA : tagg P t = some true) (hS : tsize P t = some k) (hf : ∀ x, (f x).length = k) {get : Nat → Option Blk} {b : Nat} {ty : TypeId} {ls : List α} {ro : Bool} {i : Nat} {x : α}
    (hg : get b = some (.cells ty (ls.flatMap f) ro)) (h : ls[i]? = some x) : aLoad P get t (.pointer (some ⟨b, i * k, none⟩)) = some (.agg ⟨f x⟩) := by
  simp only [aLoad, hg, hA, hS]
  rw [flat_getR (fun _ _ => hf _) h]
  rfl
omit [Inhabited Prop] in
theorem rload1 {t : Nat} {α : Type} {f : α → Value} (hA : tagg P t = some false) (hS : tsize P t = some 1) {get : Nat → Option Blk} {b : Nat} {ty : TypeId} {ls : List α} {ro : Bool} {i : Nat} {x : α}
    (hg : get b = some (.cells ty (ls.map f) ro)) (h : ls[i]? = some x) : aLoad P get t (.pointer (some ⟨b, i, none⟩)) = some (f x) := by
  simp only [aLoad, hg, hA, hS, List.getElem?_map, h]
  rfl
omit [Inhabited Prop] in
theorem ridx {t el k : Nat} (hu : P.underlying t = some (.slice el)) (hS : tsize P el = some k) {b n c i : Nat} (h : i < n) :
    fstV ((aIndexAddr P t (.slice (some ⟨b, 0, none⟩) n c) (.int .i64 (Int.ofNat i))).map fun v => (v, none)) = some (.pointer (some ⟨b, i * k, none⟩)) := by
  have h1 : (0 : Int) ≤ Int.ofNat i ∧ Int.ofNat i < (n : Int) := ⟨Int.natCast_nonneg i, by simpa using h⟩
  simp only [aIndexAddr, hu, hS]
  rw [if_pos h1]
  simp [fstV]
omit [Inhabited Prop] in
theorem wrapN {n : Nat} (h : n < 9223372036854775808) : wrapF .i64 (Int.ofNat n) = Int.ofNat n := by
  unfold wrapF inR
  have h1 : decide (-9223372036854775808 ≤ Int.ofNat n) = true := decide_eq_true (by simp only [Int.ofNat_eq_natCast]; omega)
  have h2 : decide (Int.ofNat n ≤ 9223372036854775807) = true := decide_eq_true (by simp only [Int.ofNat_eq_natCast]; omega)
  simp only [h1, h2, Bool.and_self]
omit [Inhabited Prop] in
theorem wrapI {n : Int} (h0 : -9223372036854775808 ≤ n) (h1 : n ≤ 9223372036854775807) : wrapF .i64 n = n := by
  unfold wrapF inR
  simp only [decide_eq_true h0, decide_eq_true h1, Bool.and_self]
omit [Inhabited Prop] in
theorem wup {i : Nat} (h : i < 1000000) : (some (Value.int .i64 (wrapF .i64 (Int.ofNat i + Int.ofNat 1)))) = some (.int .i64 (Int.ofNat (i + 1))) := by
  have e : Int.ofNat i + Int.ofNat 1 = Int.ofNat (i + 1) := rfl
  rw [e, wrapN (by omega)]
omit [Inhabited Prop] in
theorem hgn {O : List Blk} {b : Nat} {o : Blk} (h : O[b]? = some o) : (heapOf O hp0).get b = some o := by rw [heapOf0_get]; exact h
end
end Go.Proofs.Ytbhmodlpolgklaa.AI
namespace Go.Proofs.Ytbhmodlpolgklaa.Tk
open Go Go.Proofs Go.Proofs.Ytbhmodlpolgklaa.AI Go.RowKit
variable [Inhabited Prop]
noncomputable def EW : Ext := extH Try.prog [(43, gOC)]
theorem EW_ok : ExtOk Try.prog EW := extH_ok (.cons hkOC .nil)
omit [Inhabited Prop] in
theorem tW_e (x : ObV) (Q : Value → Prop) : (Q (.bool ((vOC x) != (Int.ofNat 0)))) = CT Try.prog EW 60 29 [.agg #[.int .i64 x.kind, .int .i64 x.dest, .bool x.n, .int .i64 x.t, .int .i64 x.o, .int .i64 x.r, .int .i64 x.d, .int .i64 x.i, .int .i64 x.a, .int .i64 x.b, .int .i64 x.c, .int .i64 x.k]] (.stop 0 [] []) Q := by kernel_rfl
omit [Inhabited Prop] in
theorem tW_run (x : ObV) : ∃ hp, aCall Try.prog EW 60 29 [.agg #[.int .i64 x.kind, .int .i64 x.dest, .bool x.n, .int .i64 x.t, .int .i64 x.o, .int .i64 x.r, .int .i64 x.d, .int .i64 x.i, .int .i64 x.a, .int .i64 x.b, .int .i64 x.c, .int .i64 x.k]] hp0 = some (.bool (!okO x), hp) := by
  refine CT_run (tW_e x _) ?_
  have e := vOC_ne x
  first | (exact congrArg Value.bool e) | (refine ?_ <;> simp_all)
def gW : List Value → Option Value
  | [.agg ⟨[.int .i64 k, .int .i64 dd, .bool n, .int .i64 t, .int .i64 o, .int .i64 r, .int .i64 d, .int .i64 i, .int .i64 a, .int .i64 b, .int .i64 c, .int .i64 q]⟩] => some (.bool (!okO ⟨k, dd, n, t, o, r, d, i, a, b, c, q⟩))
  | _ => none
theorem hkW : HookGoal Try.prog 29 gW := hook_of (ext := EW) EW_ok follows Try.func29 (by kernel_rfl) fun args v h => by
  unfold gW at h
  split at h
  case h_2 => cases h
  rename_i k dd n t o r d i a b c q
  cases h
  obtain ⟨hp, q⟩ := tW_run ⟨k, dd, n, t, o, r, d, i, a, b, c, q⟩
  exact ⟨rfl, rfl, _, hp, q⟩
omit [Inhabited Prop] in
theorem agg35 : tagg Try.prog 35 = some true := by kernel_rfl
omit [Inhabited Prop] in
theorem siz35 : tsize Try.prog 35 = some 12 := by kernel_rfl
omit [Inhabited Prop] in
theorem obL_len (x : ObV) : (obL x).length = 12 := rfl
omit [Inhabited Prop] in
theorem obR_inert (ls : List ObV) : (ls.flatMap obL).all inert = true := by
  refine List.all_eq_true.2 fun v hv => ?_
  obtain ⟨x, -, hx⟩ := List.mem_flatMap.1 hv
  simp only [obL, List.mem_cons, List.not_mem_nil, or_false] at hx
  rcases hx with rfl | rfl | rfl | rfl | rfl | rfl | rfl | rfl | rfl | rfl | rfl | rfl <;> rfl
def obB (ty : TypeId) (ls : List ObV) : Blk := .cells ty (ls.flatMap obL) true
omit [Inhabited Prop] in
theorem obB_inert (ty : TypeId) (ls : List ObV) : inertB (obB ty ls) = true := obR_inert ls
omit [Inhabited Prop] in
theorem oload {hp : Hp} {b : Nat} {ty : TypeId} {ls : List ObV} {i : Nat} {x : ObV} (hg : hp.get b = some (obB ty ls)) (h : ls[i]? = some x) : aLoad Try.prog hp.get 35 (pb b (i * 12)) = some (.agg #[.int .i64 x.kind, .int .i64 x.dest, .bool x.n, .int .i64 x.t, .int .i64 x.o, .int .i64 x.r, .int .i64 x.d, .int .i64 x.i, .int .i64 x.a, .int .i64 x.b, .int .i64 x.c, .int .i64 x.k]) := rload agg35 siz35 obL_len hg h
omit [Inhabited Prop] in
theorem oidx {b n c i : Nat} (h : i < n) : fstV ((aIndexAddr Try.prog 25 (.slice (some ⟨b, 0, none⟩) n c) (iN i)).map fun v => (v, none)) = some (pb b (i * 12)) := ridx Try.underlying25 siz35 h
def badI (ls : List ObV) : Nat := ls.findIdx fun x => !okO x
omit [Inhabited Prop] in
theorem badI_of {ls : List ObV} {i : Nat} {x : ObV} (hx : ls[i]? = some x) (hb : okO x = false) (hno : ∀ y ∈ ls.take i, okO y = true) : badI ls = i ∧ ls.all okO = false := by
  have hi : i < ls.length := (List.getElem?_eq_some_iff.1 hx).1
  have ex : ls[i] = x := (List.getElem?_eq_some_iff.1 hx).2
  refine ⟨?_, ?_⟩
  · unfold badI
    rw [List.findIdx_eq hi]
    refine ⟨by rw [ex, hb]; rfl, fun j hj => ?_⟩
    have := hno ls[j] (List.mem_of_getElem? (i := j) (by rw [List.getElem?_take, if_pos hj, List.getElem?_eq_getElem (by omega)]))
    rw [this]; rfl
  · refine List.all_eq_false.2 ⟨x, List.mem_of_getElem? hx, by rw [hb]; decide⟩
noncomputable def EIF : Ext := extH Try.prog [(29, gW)]
theorem EIF_ok : ExtOk Try.prog EIF := extH_ok (.cons hkW .nil)
noncomputable def fbIF : Code := (Try.f42.body).getD .skip
omit [Inhabited Prop] in
theorem bodyIF : Try.f42.body = some fbIF := by kernel_rfl
omit [Inhabited Prop] in
theorem ntIF : Try.f42.ntmps = 19 := by kernel_rfl
omit [Inhabited Prop] in
theorem sIF : codeSafe Try.prog 19 fbIF = true := by kernel_rfl
noncomputable def lpIF : Code := pB (pR (pL (pR (fbIF))))
noncomputable def lbIF : Code := pU lpIF
omit [Inhabited Prop] in
theorem lpIF_eq : lpIF = .loop lbIF := by kernel_rfl
omit [Inhabited Prop] in
theorem slIF : codeSafe Try.prog 19 lbIF = true := by kernel_rfl
abbrev IFT (ty : TypeId) (ls : List ObV) (W : Base) (X : Pins) (Q : Value → List Blk → List Nat → List Blk → Prop) : Prop := FixO 1 [(obB ty ls)] ∧ (∀ g, FRm Try.prog 19 W 0 X lpIF (stOf 19 g [(0, .slice (some ⟨0, 0, none⟩) ls.length 2), (1, .func (.func 29) #[] #[]), (7, iN ls.length), (8, iN 0)] [(obB ty ls)]) (LQ2 (fun (_ : Unit) g => (.exit 0, stOf 19 g [] [])) (fun (_ : Unit) => (ls.all okO) = true) (fun (_ : Unit) g => (.ret, stOf 19 g [(4, iN (badI ls))] [])) (fun (_ : Unit) => (ls.all okO) = false))) ∧ (∀ (_ : Unit) (g : Nat → Value), (ls.all okO) = true → Q (.int .i64 (Int.negSucc 0)) [] [] []) ∧ (∀ (_ : Unit) (g : Nat → Value), (ls.all okO) = false → Q (iN (badI ls)) [] [] [])
theorem IF_e (ty : TypeId) (ls : List ObV) (W : Base) (X : Pins) (Q : Value → List Blk → List Nat → List Blk → Prop) : IFT ty ls W X Q = WF Try.prog EIF Try.f42 19 W 0 X 60 fbIF ⟨tmsOf [.slice (some ⟨1, 0, none⟩) ls.length 2, .func (.func 29) #[] #[]] 0 .leaf, heapOf [.dead, obB ty ls] hp0, []⟩ (.m 4 1 [1] [0, 1, 7, 8] Unit (fun (_ : Unit) g => (.exit 0, stOf 19 g [] [])) (fun (_ : Unit) => (ls.all okO) = true) (.stop 0 [] []) Unit (fun (_ : Unit) g => (.ret, stOf 19 g [(4, iN (badI ls))] [])) (fun (_ : Unit) => (ls.all okO) = false) (.stop 0 [] [])) Q := by kernel_rfl
abbrev IFlT (ty : TypeId) (ls : List ObV) (i : Nat) (x : ObV) (g : Nat → Value) (Q : Exit → St → Prop) : Prop := ((decide ((Int.ofNat i) < (Int.ofNat ls.length))) = true → (fstV ((aIndexAddr Try.prog 25 (.slice (some ⟨0, 0, none⟩) ls.length 2) (iN i)).map fun v => (v, none)) : Option Value) = some (pb 0 (i * 12)) ∧ ((aLoad Try.prog (heapOf [(obB ty ls), .dead] hp0).get 35 (pb 0 (i * 12)) : Option Value) = some (.agg #[.int .i64 x.kind, .int .i64 x.dest, .bool x.n, .int .i64 x.t, .int .i64 x.o, .int .i64 x.r, .int .i64 x.d, .int .i64 x.i, .int .i64 x.a, .int .i64 x.b, .int .i64 x.c, .int .i64 x.k]) ∧ (((!okO x) = true → ∀ g, Q .ret (stOf 19 g [(4, iN i)] [])) ∧ ((!okO x) = false → (some (.int .i64 (wrapF .i64 (Int.ofNat i + Int.ofNat 1))) : Option Value) = some (iN (i + 1)) ∧ (FixO 1 [(obB ty ls)] ∧ ∀ g, Q .normal (stOf 19 g [(0, .slice (some ⟨0, 0, none⟩) ls.length 2), (1, .func (.func 29) #[] #[]), (7, iN ls.length), (8, iN (i + 1))] [(obB ty ls)])))))) ∧ ((decide ((Int.ofNat i) < (Int.ofNat ls.length))) = false → ∀ g, Q (.exit 0) (stOf 19 g [] []))
omit [Inhabited Prop] in
theorem IFl_e (ty : TypeId) (ls : List ObV) (i : Nat) (x : ObV) (g : Nat → Value) (Q : Exit → St → Prop) : IFlT ty ls i x g Q = RT Try.prog EIF 19 0 60 lbIF (stOf 19 g [(0, .slice (some ⟨0, 0, none⟩) ls.length 2), (1, .func (.func 29) #[] #[]), (7, iN ls.length), (8, iN i)] [(obB ty ls)]) (.b 0 (.v 6 (pb 0 (i * 12)) (.v 7 (.agg #[.int .i64 x.kind, .int .i64 x.dest, .bool x.n, .int .i64 x.t, .int .i64 x.o, .int .i64 x.r, .int .i64 x.d, .int .i64 x.i, .int .i64 x.a, .int .i64 x.b, .int .i64 x.c, .int .i64 x.k]) (.b 8 (.stop 0 [] [4]) (.v 9 (iN (i + 1)) (.stop 1 [0] [0, 1, 7, 8]))))) (.stop 0 [] [])) Q := by kernel_rfl
theorem loopIF (ty : TypeId) (ls : List ObV) (hn : ls.length < 1000000) (W : Base) (X : Pins) (g : Nat → Value) :
    FRm Try.prog 19 W 0 X lpIF (stOf 19 g [(0, .slice (some ⟨0, 0, none⟩) ls.length 2), (1, .func (.func 29) #[] #[]), (7, iN ls.length), (8, iN (0))] [(obB ty ls)]) (LQ2 (fun (_ : Unit) g => (.exit 0, stOf 19 g [] [])) (fun (_ : Unit) => (ls.all okO) = true) (fun (_ : Unit) g => (.ret, stOf 19 g [(4, iN (badI ls))] [])) (fun (_ : Unit) => (ls.all okO) = false)) := by
  rw [lpIF_eq]
  refine FRm.loop (fun k st => ∃ i g, k + i = ls.length ∧ (∀ x ∈ ls.take i, okO x = true) ∧ st = (stOf 19 g [(0, .slice (some ⟨0, 0, none⟩) ls.length 2), (1, .func (.func 29) #[] #[]), (7, iN ls.length), (8, iN (i))] [(obB ty ls)])) (fun k st => ?_) (k := ls.length) ⟨0, g, by omega, by simp, rfl⟩
  rintro ⟨i, g, hk, hno, rfl⟩
  rcases Nat.lt_or_ge i ls.length with hlt | hi
  · have hx : ls[i]? = some ls[i] := List.getElem?_eq_getElem hlt
    generalize ls[i] = x at hx
    have hw : (some (Value.int .i64 (wrapF .i64 (Int.ofNat i + Int.ofNat 1)))) = some (iN (i + 1)) := wup (by omega)
    refine FRm.pieceT EIF_ok follows slIF (IFl_e ty ls i x g _) ?_
    cases hp : okO x with
    | false =>
      obtain ⟨e1, e2⟩ := badI_of hx hp hno
      refine ⟨fun h_0 => ⟨oidx hlt, ⟨oload (hgn rfl) hx, ⟨fun h_8 => fun g => ?_, fun h_8 => Bool.noConfusion ((by rw [hp]; rfl : (!okO x) = true).symm.trans h_8)⟩⟩⟩, fun h_0 => Bool.noConfusion ((decide_eq_true (by simpa using hlt)).symm.trans h_0)⟩
      exact .inr ⟨by simp, .inr ⟨(), g, e2, rfl, by rw [e1]⟩⟩
    | true =>
      refine ⟨fun h_0 => ⟨oidx hlt, ⟨oload (hgn rfl) hx, ⟨fun h_8 => Bool.noConfusion ((by rw [hp]; rfl : (!okO x) = false).symm.trans h_8), fun h_8 => ⟨hw, ⟨fxO1 (obB_inert _ _), fun g => ?_⟩⟩⟩⟩⟩, fun h_0 => Bool.noConfusion ((decide_eq_true (by simpa using hlt)).symm.trans h_0)⟩
      refine .inl ⟨rfl, k - 1, by omega, i + 1, g, by omega, fun y hy => ?_, rfl⟩
      rw [List.take_add_one, hx] at hy
      rcases List.mem_append.1 hy with h | h
      · exact hno y h
      · simp at h; subst h; exact hp
  · obtain rfl : i = ls.length := by omega
    refine FRm.pieceT EIF_ok follows slIF (IFl_e ty ls ls.length ⟨0, 0, false, 0, 0, 0, 0, 0, 0, 0, 0, 0⟩ g _) ?_
    refine ⟨fun h_0 => Bool.noConfusion (h_0.symm.trans (decide_eq_false (by simp))), fun h_0 => fun g => ?_⟩
    exact .inr ⟨by simp, .inl ⟨(), g, List.all_eq_true.2 fun y hy => hno y (by simpa using hy), rfl, rfl⟩⟩
def vIF (ls : List ObV) : Int := bif ls.all okO then -1 else Int.ofNat (badI ls)
open Classical in
noncomputable def GIF : Deep := fun args => match args with
  | [.iface n (.iface ty (.agg cs)), .func (.func fn) a b] => if h : fn = 29 ∧ a = #[] ∧ b = #[] ∧ 0 < n ∧ ∃ ls : List ObV, ls.length < 1000000 ∧ n = ls.length ∧ cs = ⟨ls.flatMap obL⟩ then some fun _ => (.int .i64 (vIF h.2.2.2.2.choose), []) else none
  | _ => none
noncomputable def gIF : HeapFn := tellK GIF
theorem hkIF : CallGoal Try.prog 42 gIF := deepG follows Try.func42 bodyIF (by kernel_rfl) fun args r h => by
  unfold GIF at h
  split at h
  case h_2 => cases h
  rename_i n ty cs fn a b
  split at h
  case isFalse => cases h
  rename_i hx
  obtain ⟨rfl, rfl, rfl, hn0, hex⟩ := hx
  obtain ⟨hn, e1, e2⟩ := hex.choose_spec
  generalize hex.choose = ls at *
  subst e1; subst e2
  cases h
  rw [ntIF]
  refine ⟨fun x hx => ?_, by simp, fun B g' W X => ?_⟩
  · simp only [List.mem_cons, List.not_mem_nil, or_false] at hx
    rcases hx with rfl | rfl
    · exact stayV_lit _ _ _
    · exact stayV_fn _
  · refine FRm.mat (i := 0) (ty := ty) (cs := ls.flatMap obL) rfl (by simp) hn0 ?_
    have hloop := fun g => loopIF ty ls hn W X g
    refine FRm.pieceWF EIF_ok follows sIF (IF_e ty ls W X _) ?_
    refine ⟨fxO1 (obB_inert _ _), hloop, fun _ g hok => ?_, fun _ g hok => ?_⟩
    · exact EndQ.pure (stayV_int _ _) (by unfold vIF; rw [hok]; rfl)
    · exact EndQ.pure (stayV_int _ _) (by unfold vIF; rw [hok]; rfl)
end Go.Proofs.Ytbhmodlpolgklaa.Tk
namespace Go.Proofs.Ytbhmodlpolgklaa.Tk
open Go Go.Proofs Go.Proofs.Ytbhmodlpolgklaa.AI Go.RowKit
variable [Inhabited Prop]
omit [Inhabited Prop] in
theorem obL_inj : ∀ {us vs : List ObV}, us.flatMap obL = vs.flatMap obL → us = vs
  | [], [], _ => rfl
  | [], v :: vs, h => by simp [obL] at h
  | u :: us, [], h => by simp [obL] at h
  | u :: us, v :: vs, h => by
    simp only [List.flatMap_cons, obL, List.cons_append, List.nil_append, List.cons.injEq, Value.int.injEq, Value.bool.injEq, true_and] at h
    obtain ⟨h0, h1, h2, h3, h4, h5, h6, h7, h8, h9, h10, h11, h12⟩ := h
    rw [obL_inj (us := us) (vs := vs) h12]
    obtain ⟨a0, a1, a2, a3, a4, a5, a6, a7, a8, a9, a10, a11⟩ := u
    obtain ⟨b0, b1, b2, b3, b4, b5, b6, b7, b8, b9, b10, b11⟩ := v
    simp only at h0 h1 h2 h3 h4 h5 h6 h7 h8 h9 h10 h11
    rw [h0, h1, h2, h3, h4, h5, h6, h7, h8, h9, h10, h11]
noncomputable def obsOf (n : Nat) (cs : Array Value) : Option (List ObV) := by
  classical exact if h : ∃ ls : List ObV, n = ls.length ∧ cs = ⟨ls.flatMap obL⟩ then some h.choose else none
omit [Inhabited Prop] in
theorem obsOf_eq (ls : List ObV) : obsOf ls.length ⟨ls.flatMap obL⟩ = some ls := by
  unfold obsOf
  have hx : ∃ l : List ObV, ls.length = l.length ∧ (⟨ls.flatMap obL⟩ : Array Value) = ⟨l.flatMap obL⟩ := ⟨ls, rfl, rfl⟩
  rw [dif_pos hx]
  have h2 := hx.choose_spec.2
  generalize hx.choose = l at *
  exact congrArg some (obL_inj (by injection h2.symm))
omit [Inhabited Prop] in
theorem obsOf_some {n : Nat} {cs : Array Value} {ls : List ObV} (h : obsOf n cs = some ls) : n = ls.length ∧ cs = ⟨ls.flatMap obL⟩ := by
  unfold obsOf at h
  split at h
  · rename_i hx
    have := hx.choose_spec
    cases h
    exact this
  · cases h
omit [Inhabited Prop] in
theorem gIF_of {ty : TypeId} {ls : List ObV} {hp : Hp} (hn : ls.length < 1000000) (h0 : 0 < ls.length) : gIF [LIT ls.length ty (ls.flatMap obL), .func (.func 29) #[] #[]] hp = some (.int .i64 (vIF ls), heapOf [.dead] hp) := by
  have hx : (29 : Nat) = 29 ∧ (#[] : Array Value) = #[] ∧ (#[] : Array Value) = #[] ∧ 0 < ls.length ∧ ∃ l : List ObV, l.length < 1000000 ∧ ls.length = l.length ∧ (⟨ls.flatMap obL⟩ : Array Value) = ⟨l.flatMap obL⟩ := ⟨rfl, rfl, rfl, h0, ls, hn, rfl, rfl⟩
  have e : GIF [LIT ls.length ty (ls.flatMap obL), .func (.func 29) #[] #[]] = some fun _ => (.int .i64 (vIF ls), []) := by
    unfold GIF
    simp only
    rw [dif_pos hx]
    have h2 := hx.2.2.2.2.choose_spec.2.2
    generalize hx.2.2.2.2.choose = l at *
    have : l = ls := obL_inj (by injection h2.symm)
    rw [this]
  unfold gIF tellK
  rw [e]
  rfl
noncomputable def ECF : Ext := extG (extH Try.prog []) [(42, gIF)]
theorem ECF_ok : ExtOk Try.prog ECF := extG_ok (extH_ok .nil) (.cons hkIF .nil)
noncomputable def fbCF : Code := (Try.f28.body).getD .skip
omit [Inhabited Prop] in
theorem bodyCF : Try.f28.body = some fbCF := by kernel_rfl
omit [Inhabited Prop] in
theorem ntCF : Try.f28.ntmps = 9 := by kernel_rfl
omit [Inhabited Prop] in
theorem sCF : codeSafe Try.prog 9 fbCF = true := by kernel_rfl
abbrev CFT (ty : TypeId) (ls : List ObV) (Q : Value → List Blk → List Nat → List Blk → Prop) : Prop := HT (gIF [LIT ls.length ty (ls.flatMap obL), .func (.func 29) #[] #[]]) (heapOf [.dead] hp0) (.int .i64 (vIF ls)) [.dead] ∧ (Q (.bool (decide ((vIF ls) ≥ (Int.ofNat 0)))) [] [] [])
omit [Inhabited Prop] in
theorem CF_e (ty : TypeId) (ls : List ObV) (Q : Value → List Blk → List Nat → List Blk → Prop) : CFT ty ls Q = RF Try.prog ECF Try.f28 60 fbCF ⟨tmsOf [LIT ls.length ty (ls.flatMap obL), .func (.func 29) #[] #[]] 0 .leaf, heapOf [.dead] hp0, []⟩ (.h 3 (.int .i64 (vIF ls)) [.dead] (.stop 0 [] [])) Q := by kernel_rfl
omit [Inhabited Prop] in
theorem vIF_ge (ls : List ObV) : (decide (vIF ls ≥ Int.ofNat 0)) = (!ls.all okO) := by
  unfold vIF
  cases ls.all okO with
  | true => rfl
  | false => exact decide_eq_true (Int.natCast_nonneg _)
noncomputable def GCF : Deep := fun args => match args with
  | [.iface n (.iface ty (.agg cs)), .func (.func 29) ⟨[]⟩ ⟨[]⟩] => match obsOf n cs with
    | some ls => if ls.length < 1000000 ∧ 0 < ls.length then some fun _ => (.bool (!ls.all okO), []) else none
    | none => none
  | _ => none
noncomputable def gCF : HeapFn := tellK GCF
theorem hkCF : CallGoal Try.prog 28 gCF := deepG follows Try.func28 bodyCF (by kernel_rfl) fun args r h => by
  unfold GCF at h
  split at h
  case h_2 => cases h
  rename_i n ty cs
  split at h
  case h_2 => cases h
  rename_i ls hls
  obtain ⟨rfl, rfl⟩ := obsOf_some hls
  split at h
  case isFalse => cases h
  rename_i hx
  obtain ⟨hn, h0⟩ := hx
  cases h
  rw [ntCF]
  refine ⟨fun x hx => ?_, by simp, fun B g' W X => ?_⟩
  · simp only [List.mem_cons, List.not_mem_nil, or_false] at hx
    rcases hx with rfl | rfl
    · exact stayV_lit _ _ _
    · exact stayV_fn _
  · refine FRm.pieceF ECF_ok follows sCF (CF_e ty ls _) ?_
    refine ⟨gIF_of hn h0, ?_⟩
    exact EndQ.pure (stayV_bool _) (by rw [vIF_ge])
omit [Inhabited Prop] in
theorem gCF_of {ty : TypeId} {ls : List ObV} {hp : Hp} (hn : ls.length < 1000000) (h0 : 0 < ls.length) : gCF [LIT ls.length ty (ls.flatMap obL), .func (.func 29) #[] #[]] hp = some (.bool (!ls.all okO), heapOf [.dead] hp) := by
  unfold gCF tellK GCF
  simp only [obsOf_eq]
  rw [if_pos ⟨hn, h0⟩]
  rfl
noncomputable def ESZ : Ext := extH Try.prog [(44, gOS)]
theorem ESZ_ok : ExtOk Try.prog ESZ := extH_ok (.cons hkOS .nil)
noncomputable def fbSZ : Code := (Try.f30.body).getD .skip
omit [Inhabited Prop] in
theorem bodySZ : Try.f30.body = some fbSZ := by kernel_rfl
omit [Inhabited Prop] in
theorem ntSZ : Try.f30.ntmps = 18 := by kernel_rfl
omit [Inhabited Prop] in
theorem sSZ : codeSafe Try.prog 18 fbSZ = true := by kernel_rfl
noncomputable def lpSZ : Code := pB (pR (pL (pR (pR (fbSZ)))))
noncomputable def lbSZ : Code := pU lpSZ
omit [Inhabited Prop] in
theorem lpSZ_eq : lpSZ = .loop lbSZ := by kernel_rfl
omit [Inhabited Prop] in
theorem slSZ : codeSafe Try.prog 18 lbSZ = true := by kernel_rfl
def addS (a : Int) (x : ObV) : Int := wrapF .i64 (a + vOS x)
def vSZ (ls : List ObV) : Int := ls.foldl addS (Int.ofNat 3)
abbrev SZT (ty : TypeId) (ls : List ObV) (W : Base) (X : Pins) (Q : Value → List Blk → List Nat → List Blk → Prop) : Prop := FixO 1 [(obB ty ls)] ∧ (∀ g, FRm Try.prog 18 W 0 X lpSZ (stOf 18 g [(2, iN 0), (3, iN 3), (6, .slice (some ⟨0, 0, none⟩) ls.length 2), (7, iN ls.length), (8, iN 0)] [(obB ty ls)]) (LQ (fun (_ : Unit) g => (.exit 0, stOf 18 g [(3, .int .i64 (vSZ ls))] [])) (fun (_ : Unit) => True))) ∧ (∀ (_ : Unit) (g : Nat → Value), True → Q (.int .i64 (vSZ ls)) [] [] [])
theorem SZ_e (ty : TypeId) (ls : List ObV) (W : Base) (X : Pins) (Q : Value → List Blk → List Nat → List Blk → Prop) : SZT ty ls W X Q = WF Try.prog ESZ Try.f30 18 W 0 X 60 fbSZ ⟨tmsOf [.slice (some ⟨1, 0, none⟩) ls.length 2] 0 .leaf, heapOf [.dead, obB ty ls] hp0, []⟩ (.l 5 1 [1] [2, 3, 6, 7, 8] Unit (fun (_ : Unit) g => (.exit 0, stOf 18 g [(3, .int .i64 (vSZ ls))] [])) (fun (_ : Unit) => True) (.stop 0 [] [])) Q := by kernel_rfl
abbrev SZlT (ty : TypeId) (ls : List ObV) (i : Nat) (a : Int) (x : ObV) (g : Nat → Value) (Q : Exit → St → Prop) : Prop := ((decide ((Int.ofNat i) < (Int.ofNat ls.length))) = true → (fstV ((aIndexAddr Try.prog 25 (.slice (some ⟨0, 0, none⟩) ls.length 2) (iN i)).map fun v => (v, none)) : Option Value) = some (pb 0 (i * 12)) ∧ ((aLoad Try.prog (heapOf [(obB ty ls), .dead] hp0).get 35 (pb 0 (i * 12)) : Option Value) = some (.agg #[.int .i64 x.kind, .int .i64 x.dest, .bool x.n, .int .i64 x.t, .int .i64 x.o, .int .i64 x.r, .int .i64 x.d, .int .i64 x.i, .int .i64 x.a, .int .i64 x.b, .int .i64 x.c, .int .i64 x.k]) ∧ ((some (.int .i64 (wrapF .i64 (Int.ofNat i + Int.ofNat 1))) : Option Value) = some (iN (i + 1)) ∧ (FixO 1 [(obB ty ls)] ∧ ∀ g, Q .normal (stOf 18 g [(2, iN 0), (3, .int .i64 (wrapF .i64 (a + (vOS x)))), (6, .slice (some ⟨0, 0, none⟩) ls.length 2), (7, iN ls.length), (8, iN (i + 1))] [(obB ty ls)]))))) ∧ ((decide ((Int.ofNat i) < (Int.ofNat ls.length))) = false → ∀ g, Q (.exit 0) (stOf 18 g [(3, .int .i64 a)] []))
omit [Inhabited Prop] in
theorem SZl_e (ty : TypeId) (ls : List ObV) (i : Nat) (a : Int) (x : ObV) (g : Nat → Value) (Q : Exit → St → Prop) : SZlT ty ls i a x g Q = RT Try.prog ESZ 18 0 60 lbSZ (stOf 18 g [(2, iN 0), (3, .int .i64 a), (6, .slice (some ⟨0, 0, none⟩) ls.length 2), (7, iN ls.length), (8, iN i)] [(obB ty ls)]) (.b 0 (.v 1 (pb 0 (i * 12)) (.v 2 (.agg #[.int .i64 x.kind, .int .i64 x.dest, .bool x.n, .int .i64 x.t, .int .i64 x.o, .int .i64 x.r, .int .i64 x.d, .int .i64 x.i, .int .i64 x.a, .int .i64 x.b, .int .i64 x.c, .int .i64 x.k]) (.v 10 (iN (i + 1)) (.stop 1 [0] [2, 3, 6, 7, 8])))) (.stop 0 [] [3])) Q := by kernel_rfl
theorem loopSZ (ty : TypeId) (ls : List ObV) (hn : ls.length < 1000000) (W : Base) (X : Pins) (g : Nat → Value) :
    FRm Try.prog 18 W 0 X lpSZ (stOf 18 g [(2, iN 0), (3, .int .i64 (Int.ofNat 3)), (6, .slice (some ⟨0, 0, none⟩) ls.length 2), (7, iN ls.length), (8, iN (0))] [(obB ty ls)]) (LQ (fun (_ : Unit) g => (.exit 0, stOf 18 g [(3, .int .i64 (vSZ ls))] [])) (fun (_ : Unit) => True)) := by
  rw [lpSZ_eq]
  refine FRm.fold (vs := ls) addS (Int.ofNat 3) (fun a i g => (stOf 18 g [(2, iN 0), (3, .int .i64 a), (6, .slice (some ⟨0, 0, none⟩) ls.length 2), (7, iN ls.length), (8, iN (i))] [(obB ty ls)])) (fun a g ha => ?_) (fun i x a g hx hlt ha => ?_) g
  · refine FRm.pieceT ESZ_ok follows slSZ (SZl_e ty ls ls.length a ⟨0, 0, false, 0, 0, 0, 0, 0, 0, 0, 0, 0⟩ g _) ?_
    refine ⟨fun h_0 => Bool.noConfusion (h_0.symm.trans (decide_eq_false (by simp))), fun h_0 => fun g => ?_⟩
    exact ⟨by simp, (), g, trivial, rfl, by rw [← ha]; rfl⟩
  · have hw : (some (Value.int .i64 (wrapF .i64 (Int.ofNat i + Int.ofNat 1)))) = some (iN (i + 1)) := wup (by omega)
    refine FRm.pieceT ESZ_ok follows slSZ (SZl_e ty ls i a x g _) ?_
    refine ⟨fun h_0 => ⟨oidx hlt, ⟨oload (hgn rfl) hx, ⟨hw, ⟨fxO1 (obB_inert _ _), fun g => ?_⟩⟩⟩⟩, fun h_0 => Bool.noConfusion ((decide_eq_true (by simpa using hlt)).symm.trans h_0)⟩
    exact .inl ⟨rfl, g, rfl⟩
noncomputable def GSZ : Deep := fun args => match args with
  | [.iface n (.iface ty (.agg cs))] => match obsOf n cs with
    | some ls => if ls.length < 1000000 ∧ 0 < ls.length then some fun _ => (.int .i64 (vSZ ls), []) else none
    | none => none
  | _ => none
noncomputable def gSZ : HeapFn := tellK GSZ
theorem hkSZ : CallGoal Try.prog 30 gSZ := deepG follows Try.func30 bodySZ (by kernel_rfl) fun args r h => by
  unfold GSZ at h
  split at h
  case h_2 => cases h
  rename_i n ty cs
  split at h
  case h_2 => cases h
  rename_i ls hls
  obtain ⟨rfl, rfl⟩ := obsOf_some hls
  split at h
  case isFalse => cases h
  rename_i hx
  obtain ⟨hn, h0⟩ := hx
  cases h
  rw [ntSZ]
  refine ⟨fun x hx => ?_, by simp, fun B g' W X => ?_⟩
  · simp only [List.mem_cons, List.not_mem_nil, or_false] at hx
    subst hx
    exact stayV_lit _ _ _
  · refine FRm.mat (i := 0) (ty := ty) (cs := ls.flatMap obL) rfl (by simp) h0 ?_
    have hloop := fun g => loopSZ ty ls hn W X g
    refine FRm.pieceWF ESZ_ok follows sSZ (SZ_e ty ls W X _) ?_
    refine ⟨fxO1 (obB_inert _ _), hloop, fun _ g hok => ?_⟩
    exact EndQ.pure (stayV_int _ _) rfl
omit [Inhabited Prop] in
theorem gSZ_of {ty : TypeId} {ls : List ObV} {hp : Hp} (hn : ls.length < 1000000) (h0 : 0 < ls.length) : gSZ [LIT ls.length ty (ls.flatMap obL)] hp = some (.int .i64 (vSZ ls), heapOf [.dead] hp) := by
  unfold gSZ tellK GSZ
  simp only [obsOf_eq]
  rw [if_pos ⟨hn, h0⟩]
  rfl
noncomputable def EBC : Ext := extG (extH Try.prog []) [(28, gCF), (30, gSZ)]
theorem EBC_ok : ExtOk Try.prog EBC := extG_ok (extH_ok .nil) (.cons hkCF (.cons hkSZ .nil))
noncomputable def fbBC : Code := (Try.f18.body).getD .skip
omit [Inhabited Prop] in
theorem bodyBC : Try.f18.body = some fbBC := by kernel_rfl
omit [Inhabited Prop] in
theorem ntBC : Try.f18.ntmps = 34 := by kernel_rfl
omit [Inhabited Prop] in
theorem sBC : codeSafe Try.prog 34 fbBC = true := by kernel_rfl
abbrev BCT (num : Int) (ty : TypeId) (ls : List ObV) (Q : Value → List Blk → List Nat → List Blk → Prop) : Prop := ((decide (num < (Int.ofNat 0))) = true → Q (iN 1) [] [] []) ∧ ((decide (num < (Int.ofNat 0))) = false → ((decide (num > (Int.ofNat 65535))) = true → Q (iN 1) [] [] []) ∧ ((decide (num > (Int.ofNat 65535))) = false → (((Int.ofNat ls.length) == (Int.ofNat 0)) = true → Q (iN 1) [] [] []) ∧ (((Int.ofNat ls.length) == (Int.ofNat 0)) = false → ((decide ((Int.ofNat ls.length) > (Int.ofNat 32))) = true → Q (iN 1) [] [] []) ∧ ((decide ((Int.ofNat ls.length) > (Int.ofNat 32))) = false → HT (gCF [LIT ls.length ty (ls.flatMap obL), .func (.func 29) #[] #[]]) (heapOf [.dead, .cells 27 [.int .i64 num, LIT ls.length ty (ls.flatMap obL)] false] hp0) (.bool (!ls.all okO)) [.dead] ∧ (((!ls.all okO) = true → Q (iN 1) [] [] []) ∧ ((!ls.all okO) = false → HT (gSZ [LIT ls.length ty (ls.flatMap obL)]) (heapOf [.dead, .cells 27 [.int .i64 num, LIT ls.length ty (ls.flatMap obL)] false, .dead] hp0) (.int .i64 (vSZ ls)) [.dead] ∧ (((decide ((vSZ ls) > (Int.ofNat 512))) = true → Q (iN 1) [] [] []) ∧ ((decide ((vSZ ls) > (Int.ofNat 512))) = false → Q (iN 0) [] [] []))))))))
omit [Inhabited Prop] in
theorem BC_e (num : Int) (ty : TypeId) (ls : List ObV) (Q : Value → List Blk → List Nat → List Blk → Prop) : BCT num ty ls Q = RF Try.prog EBC Try.f18 60 fbBC ⟨tmsOf [.agg #[.int .i64 num, LIT ls.length ty (ls.flatMap obL)]] 0 .leaf, heapOf [.dead] hp0, []⟩ (.b 4 (.stop 0 [] []) (.b 8 (.stop 0 [] []) (.b 14 (.stop 0 [] []) (.b 20 (.stop 0 [] []) (.h 25 (.bool (!ls.all okO)) [.dead] (.b 26 (.stop 0 [] []) (.h 30 (.int .i64 (vSZ ls)) [.dead] (.b 31 (.stop 0 [] []) (.stop 0 [] []))))))))) Q := by kernel_rfl
omit [Inhabited Prop] in
theorem len_pos {ls : List ObV} (h : (Int.ofNat ls.length == Int.ofNat 0) = false) : 0 < ls.length := by
  rcases Nat.eq_zero_or_pos ls.length with h0 | h0
  · rw [h0] at h; cases h
  · exact h0
omit [Inhabited Prop] in
theorem len_lt {ls : List ObV} (h : decide (Int.ofNat ls.length > Int.ofNat 32) = false) : ls.length < 1000000 := by
  have := of_decide_eq_false h
  simp only [Int.ofNat_eq_natCast] at this
  omega
def okB (num : Int) (ls : List ObV) : Bool := decide (0 ≤ num ∧ num ≤ 65535 ∧ 0 < ls.length ∧ ls.length ≤ 32) && (ls.all okO && decide (vSZ ls ≤ 512))
def vBC (num : Int) (ls : List ObV) : Int := bif okB num ls then 0 else 1
noncomputable def GBC : Deep := fun args => match args with
  | [.agg ⟨[.int .i64 num, .iface n (.iface ty (.agg cs))]⟩] => match obsOf n cs with
    | some ls => some fun _ => (.int .i64 (vBC num ls), [])
    | none => none
  | _ => none
noncomputable def gBC : HeapFn := tellK GBC
theorem hkBC : CallGoal Try.prog 18 gBC := deepG follows Try.func18 bodyBC (by kernel_rfl) fun args r h => by
  unfold GBC at h
  split at h
  case h_2 => cases h
  rename_i num n ty cs
  split at h
  case h_2 => cases h
  rename_i ls hls
  obtain ⟨rfl, rfl⟩ := obsOf_some hls
  cases h
  rw [ntBC]
  refine ⟨fun x hx => ?_, by simp, fun B g' W X => ?_⟩
  · simp only [List.mem_cons, List.not_mem_nil, or_false] at hx
    subst hx
    exact stayV_agg rfl
  · refine FRm.pieceF EBC_ok follows sBC (BC_e num ty ls _) ?_
    refine ⟨fun h_4 => ?_, fun h_4 => ⟨fun h_8 => ?_, fun h_8 => ⟨fun h_14 => ?_, fun h_14 => ⟨fun h_20 => ?_, fun h_20 => ⟨gCF_of (len_lt h_20) (len_pos h_14), ⟨fun h_26 => ?_, fun h_26 => ⟨gSZ_of (len_lt h_20) (len_pos h_14), ⟨fun h_31 => ?_, fun h_31 => ?_⟩⟩⟩⟩⟩⟩⟩⟩
    all_goals (refine EndQ.pure (stayV_int _ _) (congrArg (Value.int .i64) ?_); unfold vBC okB; generalize ls.all okO = A at *; generalize vSZ ls = z at *; generalize ls.length = n at *; generalize hq : (decide (0 ≤ num ∧ num ≤ 65535 ∧ 0 < n ∧ n ≤ 32) && (A && decide (z ≤ 512))) = q; cases A <;> cases q <;> simp only [Int.ofNat_eq_natCast] at * <;> simp_all <;> omega)
omit [Inhabited Prop] in
theorem gBC_of {num : Int} {ty : TypeId} {ls : List ObV} {hp : Hp} : gBC [.agg #[.int .i64 num, LIT ls.length ty (ls.flatMap obL)]] hp = some (.int .i64 (vBC num ls), heapOf [.dead] hp) := by
  unfold gBC tellK GBC
  simp only [obsOf_eq]
  rfl
end Go.Proofs.Ytbhmodlpolgklaa.Tk
namespace Go.Proofs.Ytbhmodlpolgklaa.AI
open Go Go.Proofs Go.RowKit
variable [Inhabited Prop]
structure ElT (P : Program) (st elem k : Nat) : Prop where
  sl : P.underlying st = some (.slice elem)
  inf : ∃ i, P.info? elem = some i ∧ i.size = k ∧ i.bytes ≤ 32768
  zer : ∃ z, tzero P elem = some z ∧ z.length = k
  pos : 0 < k
section
variable {P : Program} {get : Nat → Option Blk} {st elem k : Nat}
omit [Inhabited Prop] in
theorem src_lit {n ty : Nat} {cs : List Value} {zero : List Value} (h : cs.length = n * k) : aSrc P get k zero (.slice elem) (LIT n ty cs) = some (cs, n) := by
  simp only [aSrc, srcLen, srcCells]
  by_cases h0 : n = 0
  · subst h0
    have : cs = [] := List.eq_nil_of_length_eq_zero (by simpa using h)
    subst this; simp
  · rw [if_neg h0, if_neg (Nat.lt_irrefl _)]
    unfold getR
    rw [List.drop_zero, List.take_of_length_le (by omega), if_pos h]
    rfl
omit [Inhabited Prop] in
theorem src_row {n b c ty : Nat} {cs : List Value} {ro : Bool} {zero : List Value} (hg : get b = some (.cells ty cs ro)) (h : cs.length = n * k) : aSrc P get k zero (.slice elem) (.slice (some ⟨b, 0, none⟩) n c) = some (cs, n) := by
  simp only [aSrc, srcLen, srcCells]
  by_cases h0 : n = 0
  · subst h0
    have : cs = [] := List.eq_nil_of_length_eq_zero (by simpa using h)
    subst this; simp
  · rw [if_neg h0, if_neg (Nat.lt_irrefl _), hg]
    simp only
    unfold getR
    rw [List.drop_zero, List.take_of_length_le (by omega), if_pos h]
    rfl
omit [Inhabited Prop] in
theorem app_nil (T : ElT P st elem k) {sz m : Nat} {x : Value} {ns : List Value} (hs : ∀ zero, aSrc P get k zero (.slice elem) x = some (ns, m)) (h1 : ns.all isOne = true) (h2 : ns.length = m * k) (h0 : 0 < m) (hm : m ≤ 2147483647) :
    aAppend P get sz [st, st] [.slice none 0 0, x] = some (.slice (some ⟨sz, 0, none⟩) m (3 * k + 1), [.push (.cells elem ns false)]) := by
  obtain ⟨i, hi, rfl, hb⟩ := T.inf
  obtain ⟨z, hz, hzl⟩ := T.zer
  have := T.pos
  unfold aAppend
  simp only [T.sl, hi, hz, hs z]
  rw [if_neg (by omega), if_neg (by rw [h1]; simp [h2]), if_neg (by omega), if_neg (by omega)]
omit [Inhabited Prop] in
theorem app_row (T : ElT P st elem k) {sz len m b : Nat} {x : Value} {ns old : List Value} (hs : ∀ zero, aSrc P get k zero (.slice elem) x = some (ns, m)) (h1 : ns.all isOne = true) (h2 : ns.length = m * k) (h0 : 0 < m) (hm : len + m ≤ 2147483647)
    (hg : get b = some (.cells elem old false)) (hl : old.length = len * k) :
    aAppend P get sz [st, st] [.slice (some ⟨b, 0, none⟩) len (3 * k + 1), x] = some (.slice (some ⟨sz, 0, none⟩) (len + m) (3 * k + 1), [.put b .dead, .push (.cells elem (old ++ ns) false)]) := by
  obtain ⟨i, hi, rfl, hb⟩ := T.inf
  obtain ⟨z, hz, hzl⟩ := T.zer
  have := T.pos
  have hgr : getR old 0 (len * i.size) = some old := by
    unfold getR
    rw [List.drop_zero, List.take_of_length_le (by omega), if_pos hl]
  unfold aAppend
  simp only [T.sl, hi, hz, hs z]
  rw [if_neg (by omega), if_neg (by rw [h1]; simp [h2]), if_neg (by omega), if_neg (by omega)]
  simp only [hg, hgr]
  rw [if_neg (by omega)]
  simp only [and_self, if_true]
  rw [if_neg (by rw [Nat.add_mul, hl]; have := Nat.mul_pos h0 T.pos; omega)]
omit [Inhabited Prop] in
theorem app_room (T : ElT P st elem k) {sz len m b : Nat} {x : Value} {ns old rest : List Value} (hs : ∀ zero, aSrc P get k zero (.slice elem) x = some (ns, m)) (h1 : ns.all isOne = true) (h2 : ns.length = m * k) (h0 : 0 < m) (hm : len + m ≤ 2147483647)
    (hg : get b = some (.cells elem (old ++ rest) false)) (hl : old.length = len * k) (hr : m * k ≤ rest.length) :
    aAppend P get sz [st, st] [.slice (some ⟨b, 0, none⟩) len (3 * k + 1), x] = some (.slice (some ⟨b, 0, none⟩) (len + m) (3 * k + 1), [.put b (.cells elem (putL (old ++ rest) (len * k) ns) false)]) := by
  obtain ⟨i, hi, rfl, hb⟩ := T.inf
  obtain ⟨z, hz, hzl⟩ := T.zer
  have := T.pos
  have hgr : getR (old ++ rest) 0 (len * i.size) = some old := by
    unfold getR
    rw [List.drop_zero, ← hl, List.take_left, if_pos rfl]
  unfold aAppend
  simp only [T.sl, hi, hz, hs z]
  rw [if_neg (by omega), if_neg (by rw [h1]; simp [h2]), if_neg (by omega), if_neg (by omega)]
  simp only [hg, hgr]
  rw [if_neg (by omega)]
  simp only [and_self, if_true]
  rw [if_pos (by rw [List.length_append, Nat.add_mul, hl]; omega), Nat.zero_add]
omit [Inhabited Prop] in
theorem putL_app : ∀ (old rest ns : List Value), ns.length ≤ rest.length → putL (old ++ rest) old.length ns = old ++ (ns ++ rest.drop ns.length)
  | [], rest, ns, h => by
    simp only [List.nil_append, List.length_nil]
    induction ns generalizing rest with
    | nil => cases rest <;> simp [putL]
    | cons a ns ih =>
      cases rest with
      | nil => simp at h
      | cons r rest =>
        simp only [putL, List.cons_append, List.length_cons, List.drop_succ_cons]
        rw [ih rest (by simpa using h)]
  | o :: old, rest, ns, h => by
    simp only [List.cons_append, List.length_cons, putL]
    rw [putL_app old rest ns h]
end
end Go.Proofs.Ytbhmodlpolgklaa.AI
namespace Go.Proofs.Ytbhmodlpolgklaa.Tk
open Go Go.Proofs Go.Proofs.Ytbhmodlpolgklaa.AI Go.RowKit
variable [Inhabited Prop]
omit [Inhabited Prop] in
theorem elO : ElT Try.prog 25 35 12 := ⟨Try.underlying25, by
  have h : ((Try.prog.info? 35).map fun i => (i.size == 12 && decide (i.bytes ≤ 32768))) = some true := by kernel_rfl
  cases e : Try.prog.info? 35 with
  | none => rw [e] at h; cases h
  | some i => rw [e] at h; simp at h; exact ⟨i, rfl, h.1, h.2⟩, by
  have h : ((tzero Try.prog 35).map fun z => z.length) = some 12 := by kernel_rfl
  cases e : tzero Try.prog 35 with
  | none => rw [e] at h; cases h
  | some i => rw [e] at h; simp at h; exact ⟨i, rfl, h⟩, by decide⟩
omit [Inhabited Prop] in
theorem elN : ElT Try.prog 82 85 1 := ⟨Try.underlying82, by
  have h : ((Try.prog.info? 85).map fun i => (i.size == 1 && decide (i.bytes ≤ 32768))) = some true := by kernel_rfl
  cases e : Try.prog.info? 85 with
  | none => rw [e] at h; cases h
  | some i => rw [e] at h; simp at h; exact ⟨i, rfl, h.1, h.2⟩, by
  have h : ((tzero Try.prog 85).map fun z => z.length) = some 1 := by kernel_rfl
  cases e : tzero Try.prog 85 with
  | none => rw [e] at h; cases h
  | some i => rw [e] at h; simp at h; exact ⟨i, rfl, h⟩, by decide⟩
omit [Inhabited Prop] in
theorem elI : ElT Try.prog 23 3 1 := ⟨Try.underlying23, by
  have h : ((Try.prog.info? 3).map fun i => (i.size == 1 && decide (i.bytes ≤ 32768))) = some true := by kernel_rfl
  cases e : Try.prog.info? 3 with
  | none => rw [e] at h; cases h
  | some i => rw [e] at h; simp at h; exact ⟨i, rfl, h.1, h.2⟩, by
  have h : ((tzero Try.prog 3).map fun z => z.length) = some 1 := by kernel_rfl
  cases e : tzero Try.prog 3 with
  | none => rw [e] at h; cases h
  | some i => rw [e] at h; simp at h; exact ⟨i, rfl, h⟩, by decide⟩
omit [Inhabited Prop] in
theorem obR_len (ls : List ObV) : (ls.flatMap obL).length = ls.length * 12 := flat_len obL 12 ls fun _ _ => rfl
omit [Inhabited Prop] in
theorem obR_one (ls : List ObV) : (ls.flatMap obL).all isOne = true := by
  refine List.all_eq_true.2 fun v hv => ?_
  obtain ⟨x, -, hx⟩ := List.mem_flatMap.1 hv
  simp only [obL, List.mem_cons, List.not_mem_nil, or_false] at hx
  rcases hx with rfl | rfl | rfl | rfl | rfl | rfl | rfl | rfl | rfl | rfl | rfl | rfl <;> rfl
noncomputable def ECL : Ext := extH Try.prog []
theorem ECL_ok : ExtOk Try.prog ECL := extH_ok .nil
noncomputable def fbCL : Code := (Try.f20.body).getD .skip
omit [Inhabited Prop] in
theorem bodyCL : Try.f20.body = some fbCL := by kernel_rfl
omit [Inhabited Prop] in
theorem ntCL : Try.f20.ntmps = 8 := by kernel_rfl
omit [Inhabited Prop] in
theorem sCL : codeSafe Try.prog 8 fbCL = true := by kernel_rfl
end Go.Proofs.Ytbhmodlpolgklaa.Tk
namespace Go.Proofs.Ytbhmodlpolgklaa.AI
open Go Go.Proofs Go.RowKit
variable [Inhabited Prop]
abbrev RowF := Nat → List Value → List Value → Option (Nat → Nat → Nat → Value × List Blk)
def rowK (G : RowF) : HeapFn := fun args hp => match args with
  | .slice (some ⟨b, 0, none⟩) n c :: rest => match hp.get b with
    | some (.cells _ cs _) => match G n cs rest with
      | some r => some ((r b c hp.sz).1, heapOf ((r b c hp.sz).2 ++ [.dead]) hp)
      | none => none
    | _ => none
  | _ => none
omit [Inhabited Prop] in
theorem rowK_of {G : RowF} {b n c : Nat} {rest : List Value} {hp : Hp} {ty : TypeId} {cs : List Value} {ro : Bool} {r : Nat → Nat → Nat → Value × List Blk} (hg : hp.get b = some (.cells ty cs ro)) (h : G n cs rest = some r) :
    rowK G (.slice (some ⟨b, 0, none⟩) n c :: rest) hp = some ((r b c hp.sz).1, heapOf ((r b c hp.sz).2 ++ [.dead]) hp) := by
  unfold rowK
  simp only [hg, h]
def rowK1 (G : Value → RowF) : HeapFn := fun args hp => match args with
  | u :: .slice (some ⟨b, 0, none⟩) n c :: rest => match hp.get b with
    | some (.cells _ cs _) => match G u n cs rest with
      | some r => some ((r b c hp.sz).1, heapOf ((r b c hp.sz).2 ++ [.dead]) hp)
      | none => none
    | _ => none
  | _ => none
omit [Inhabited Prop] in
theorem rowK1_of {G : Value → RowF} {u : Value} {b n c : Nat} {rest : List Value} {hp : Hp} {ty : TypeId} {cs : List Value} {ro : Bool} {r : Nat → Nat → Nat → Value × List Blk} (hg : hp.get b = some (.cells ty cs ro)) (h : G u n cs rest = some r) :
    rowK1 G (u :: .slice (some ⟨b, 0, none⟩) n c :: rest) hp = some ((r b c hp.sz).1, heapOf ((r b c hp.sz).2 ++ [.dead]) hp) := by
  unfold rowK1
  simp only [hg, h]
omit [Inhabited Prop] in
theorem EndQ.pureR {K0 : Ks} {B : Nat} {O O' : List Blk} {g : HG} {v u : Value} (hK : ∀ (i b : Nat), K0[i]? ≠ some (some (b, true))) (hl : O.length = K0.length) (ok : O.all okBlk = true) (hd : ∀ o ∈ O, o ≠ .dead) (h : stayV v) (e : u = v) : EndQ K0 B O' [] v g u O [] [] := by
  subst e
  exact ⟨h.1, ok, rfl, rfl, hl, ⟨[], [], [], rfl, rfl, (h.2 _).symm, (fun i b h => absurd h (hK i b)), rfl⟩, fun i b _ h => absurd rfl (hd _ (List.mem_of_getElem? h))⟩
omit [Inhabited Prop] in
theorem EndQ.rowR {K0 : Ks} {B k n c : Nat} {O O' : List Blk} {g : HG} {ty : TypeId} {cs : List Value} (hK : ∀ (i b : Nat), K0[i]? ≠ some (some (b, true))) (hl : O.length = K0.length) (ok : O.all okBlk = true) (hd : ∀ o ∈ O, o ≠ .dead) (hk : K0.length ≤ k) (h : cs.all inert = true) :
    EndQ K0 B O' [.cells ty cs false] (.slice (some ⟨B, 0, none⟩) n c) g (.slice (some ⟨k, 0, none⟩) n c) O [k] [.cells ty cs false] := by
  have hok : okBlk (.cells ty cs false) = true := by
    show (cs.all ok2) = true
    exact List.all_eq_true.2 fun v hv => (inert_ok (List.all_eq_true.1 h v hv)).1
  refine ⟨rfl, ok, ?_, by simp [nodupB, hk], hl, ⟨[some 0], [.cells ty cs false], [some k], rfl, rfl, ?_, (fun i b h => absurd h (hK i b)), ?_⟩, fun i b _ h => absurd rfl (hd _ (List.mem_of_getElem? h))⟩
  · simp [hok, rwB]
  · simp [mv3, mv2, mv1, sgE, posN, Nat.beq_refl]
  · rw [List.map_cons, mvB_cells h]; rfl
omit [Inhabited Prop] in
theorem EndQ.same {B b n c : Nat} {o : Blk} {g : HG} (ok : okBlk o = true) (hd : o ≠ .dead) : EndQ [some (b, false)] B [] [] (.slice (some ⟨b, 0, none⟩) n c) g (.slice (some ⟨0, 0, none⟩) n c) [o] [] [] := by
  refine ⟨rfl, by simp [ok], rfl, rfl, rfl, ⟨[], [], [], rfl, rfl, ?_, (fun i b' h => ?_), rfl⟩, fun i b' _ h => ?_⟩
  · simp [mv3, mv2, mv1, sgE, posN]
  · match i with
    | 0 => simp at h
    | i + 1 => simp at h
  · match i with
    | 0 => simp at h; exact absurd h hd
    | i + 1 => simp at h
omit [Inhabited Prop] in
theorem one_ro {b : Nat} : ∀ (i b' : Nat), ([some (b, false)] : Ks)[i]? ≠ some (some (b', true)) := by
  intro i b' h
  match i with
  | 0 => simp at h
  | i + 1 => simp at h
omit [Inhabited Prop] in
theorem okBlk_inert {ty : TypeId} {cs : List Value} {ro : Bool} (h : cs.all inert = true) : okBlk (.cells ty cs ro) = true := by
  show (cs.all ok2) = true
  exact List.all_eq_true.2 fun v hv => (inert_ok (List.all_eq_true.1 h v hv)).1
section
variable {P : Program}
theorem rowG (hm : P.follows .mixedOrders = true) {f : FuncId} {fn : Func} {code : Code} {G : RowF} (hf : P.funcs[f]? = some fn) (hb : fn.body = some code) (hnm : (fn.name == "runtime.NumGoroutine") = false)
    (H : ∀ n cs rest r, G n cs rest = some r → cs.all inert = true ∧ (∀ x ∈ rest, stayV x) ∧ rest.length + 1 ≤ fn.ntmps ∧
      ∀ ty c b B g W X, FRm P fn.ntmps W 1 X code ⟨tmsOf (.slice (some ⟨0, 0, none⟩) n c :: rest) 0 .leaf, heapOf [.cells ty cs true, .dead] hp0, []⟩ (FinF P fn (EndQ [some (b, false)] B [] (r b c B).2 (r b c B).1 g))) : CallGoal P f (rowK G) := mem_goal hm hf hb hnm fun args hp v hp' h hk => by
  unfold rowK at h
  split at h
  case h_2 => cases h
  rename_i b n c rest
  split at h
  case h_2 => cases h
  rename_i ty cs ro hg
  split at h
  case h_2 => cases h
  rename_i r hr
  cases h
  obtain ⟨hi, h1, h2, h3⟩ := H n cs rest r hr
  have hin : inertB (.cells ty cs ro) = true := hi
  have e1 : sg0 [some (b, false)] b = 0 := by simp [sg0, posO, Nat.beq_refl]
  refine ⟨[some (b, false)], [], (r b c hp.sz).2, rfl, (fun i j b' wr wr' h1 h2 => ?_), (fun i b' wr h => ?_), List.all_eq_true.2 fun x hx => ?_, by simpa using h2, fun W X => ?_⟩
  · have q1 := (List.getElem?_eq_some_iff.1 h1).1
    have q2 := (List.getElem?_eq_some_iff.1 h2).1
    simp at q1 q2; omega
  · have h0 : i = 0 := by have := (List.getElem?_eq_some_iff.1 h).1; simpa using this
    subst h0
    simp at h
    obtain ⟨rfl, rfl⟩ := h
    exact ⟨⟨_, hg, (fun h => by cases h), inert_start hin⟩, .arg (.head _) (by simp [nam2, nam1])⟩
  · rcases List.mem_cons.1 hx with rfl | hx
    · rfl
    · exact (h1 x hx).1
  · have ea : (Value.slice (some ⟨b, 0, none⟩) n c :: rest).map (mv3 (sg0 [some (b, false)])) = .slice (some ⟨0, 0, none⟩) n c :: rest := by
      rw [List.map_cons, stay_map h1]
      simp [mv3, mv2, mv1, e1]
    have ep : pinHp [some (b, false)] hp = heapOf [.cells ty cs true, .dead] hp0 := by
      unfold pinHp
      simp [pinB, hg, mvB_cells hi, startB, roBlk]
    rw [ea, ep]
    exact FRm.mono (h3 ty c b hp.sz hp.get W X) fun e st q => EndQ.fin q
theorem rowG1 (hm : P.follows .mixedOrders = true) {f : FuncId} {fn : Func} {code : Code} {G : Value → RowF} (hf : P.funcs[f]? = some fn) (hb : fn.body = some code) (hnm : (fn.name == "runtime.NumGoroutine") = false)
    (H : ∀ u n cs rest r, G u n cs rest = some r → cs.all inert = true ∧ stayV u ∧ (∀ x ∈ rest, stayV x) ∧ rest.length + 2 ≤ fn.ntmps ∧
      ∀ ty c b B g W X, FRm P fn.ntmps W 1 X code ⟨tmsOf (u :: .slice (some ⟨0, 0, none⟩) n c :: rest) 0 .leaf, heapOf [.cells ty cs true, .dead] hp0, []⟩ (FinF P fn (EndQ [some (b, false)] B [] (r b c B).2 (r b c B).1 g))) : CallGoal P f (rowK1 G) := mem_goal hm hf hb hnm fun args hp v hp' h hk => by
  unfold rowK1 at h
  split at h
  case h_2 => cases h
  rename_i u b n c rest
  split at h
  case h_2 => cases h
  rename_i ty cs ro hg
  split at h
  case h_2 => cases h
  rename_i r hr
  cases h
  obtain ⟨hi, hu, h1, h2, h3⟩ := H u n cs rest r hr
  have hin : inertB (.cells ty cs ro) = true := hi
  have e1 : sg0 [some (b, false)] b = 0 := by simp [sg0, posO, Nat.beq_refl]
  refine ⟨[some (b, false)], [], (r b c hp.sz).2, rfl, (fun i j b' wr wr' h1 h2 => ?_), (fun i b' wr h => ?_), List.all_eq_true.2 fun x hx => ?_, by simpa using h2, fun W X => ?_⟩
  · have q1 := (List.getElem?_eq_some_iff.1 h1).1
    have q2 := (List.getElem?_eq_some_iff.1 h2).1
    simp at q1 q2; omega
  · have h0 : i = 0 := by have := (List.getElem?_eq_some_iff.1 h).1; simpa using this
    subst h0
    simp at h
    obtain ⟨rfl, rfl⟩ := h
    exact ⟨⟨_, hg, (fun h => by cases h), inert_start hin⟩, .arg (.tail _ (.head _)) (by simp [nam2, nam1])⟩
  · rcases List.mem_cons.1 hx with rfl | hx
    · exact hu.1
    rcases List.mem_cons.1 hx with rfl | hx
    · rfl
    · exact (h1 x hx).1
  · have ea : (u :: Value.slice (some ⟨b, 0, none⟩) n c :: rest).map (mv3 (sg0 [some (b, false)])) = u :: .slice (some ⟨0, 0, none⟩) n c :: rest := by
      rw [List.map_cons, List.map_cons, stay_map h1, hu.2]
      simp [mv3, mv2, mv1, e1]
    have ep : pinHp [some (b, false)] hp = heapOf [.cells ty cs true, .dead] hp0 := by
      unfold pinHp
      simp [pinB, hg, mvB_cells hi, startB, roBlk]
    rw [ea, ep]
    exact FRm.mono (h3 ty c b hp.sz hp.get W X) fun e st q => EndQ.fin q
omit [Inhabited Prop] in
theorem repL_one (z : Value) : ∀ n, repL [z] n = List.replicate n z
  | 0 => rfl
  | n + 1 => by rw [repL, repL_one z n, List.replicate_succ]; rfl
omit [Inhabited Prop] in
theorem make_one {st elem : Nat} (T : ElT P st elem 1) {z : Value} (hz : tzero P elem = some [z]) {sz n : Nat} (hn : n ≤ 2147483647) :
    ((aMakeSlice P sz st (.int .i64 (Int.ofNat 0)) (.int .i64 (Int.ofNat n))).map fun r => (r.1, some r.2)) = some (.slice (some ⟨sz, 0, none⟩) 0 4, some (.cells elem (List.replicate n z) false)) := by
  obtain ⟨i, hi, hs, hb⟩ := T.inf
  unfold aMakeSlice
  simp only [T.sl, hi, hz, hs]
  rw [if_neg (by simp only [Bool.or_eq_true, decide_eq_true_eq, List.length_cons, List.length_nil, Int.ofNat_eq_natCast, hs]; omega)]
  simp [repL_one]
omit [Inhabited Prop] in
theorem room_one {st elem : Nat} (T : ElT P st elem 1) {get : Nat → Option Blk} {sz n b b2 ty2 c2 : Nat} {v z : Value} {a : List Value} {ro : Bool} (h1 : isOne v = true) (hg2 : get b2 = some (.cells ty2 [v] ro)) (hl : a.length < n) (hn : n ≤ 2147483647)
    (hg : get b = some (.cells elem (a ++ List.replicate (n - a.length) z) false)) :
    aAppend P get sz [st, st] [.slice (some ⟨b, 0, none⟩) a.length 4, .slice (some ⟨b2, 0, none⟩) 1 c2] = some (.slice (some ⟨b, 0, none⟩) (a.length + 1) 4, [.put b (.cells elem ((a ++ [v]) ++ List.replicate (n - (a ++ [v]).length) z) false)]) := by
  have := app_room (P := P) (get := get) T (sz := sz) (len := a.length) (m := 1) (b := b) (x := .slice (some ⟨b2, 0, none⟩) 1 c2) (ns := [v]) (old := a) (rest := List.replicate (n - a.length) z)
    (fun _ => src_row hg2 rfl) (by simp [h1]) rfl (by decide) (by omega) hg (by simp) (by simp; omega)
  rw [show a.length * 1 = a.length from Nat.mul_one _, putL_app a _ [v] (by simp; omega)] at this
  rw [this]
  simp only [List.length_append, List.length_cons, List.length_nil, List.drop_replicate, List.append_assoc]
  rw [show n - a.length - (0 + 1) = n - (a.length + (0 + 1)) by omega]
end
end Go.Proofs.Ytbhmodlpolgklaa.AI
namespace Go.Proofs.Ytbhmodlpolgklaa.Tk
open Go Go.Proofs Go.Proofs.Ytbhmodlpolgklaa.AI Go.RowKit
variable [Inhabited Prop]
omit [Inhabited Prop] in
theorem agg3 : tagg Try.prog 3 = some false := by kernel_rfl
omit [Inhabited Prop] in
theorem siz3 : tsize Try.prog 3 = some 1 := by kernel_rfl
omit [Inhabited Prop] in
theorem agg85 : tagg Try.prog 85 = some false := by kernel_rfl
omit [Inhabited Prop] in
theorem siz85 : tsize Try.prog 85 = some 1 := by kernel_rfl
omit [Inhabited Prop] in
theorem zer85 : tzero Try.prog 85 = some [.int .u16 (Int.ofNat 0)] := by kernel_rfl
def iI (k : Int) : Value := .int .i64 k
def iU (k : Int) : Value := .int .u16 k
omit [Inhabited Prop] in
theorem iI_inert (ks : List Int) : (ks.map iI).all inert = true := List.all_eq_true.2 fun v hv => by obtain ⟨x, -, rfl⟩ := List.mem_map.1 hv; rfl
omit [Inhabited Prop] in
theorem iU_inert (ks : List Int) : (ks.map iU).all inert = true := List.all_eq_true.2 fun v hv => by obtain ⟨x, -, rfl⟩ := List.mem_map.1 hv; rfl
def inB (ty : TypeId) (ks : List Int) : Blk := .cells ty (ks.map iI) true
omit [Inhabited Prop] in
theorem inB_inert (ty : TypeId) (ks : List Int) : inertB (inB ty ks) = true := iI_inert ks
def nuB (a : List Value) (n : Nat) : Blk := .cells 85 (a ++ List.replicate (n - a.length) (.int .u16 (Int.ofNat 0))) false
omit [Inhabited Prop] in
theorem nuB_inert {a : List Value} {n : Nat} (h : a.all inert = true) : inertB (nuB a n) = true := by
  show (a ++ List.replicate _ _).all inert = true
  rw [List.all_append, h]
  refine List.all_eq_true.2 fun v hv => ?_
  rw [(List.mem_replicate.1 hv).2]; rfl
omit [Inhabited Prop] in
theorem iload {hp : Hp} {b : Nat} {ty : TypeId} {ks : List Int} {i : Nat} {x : Int} (hg : hp.get b = some (inB ty ks)) (h : ks[i]? = some x) : aLoad Try.prog hp.get 3 (pb b i) = some (.int .i64 x) := rload1 agg3 siz3 hg h
omit [Inhabited Prop] in
theorem iidx {b n i c : Nat} (h : i < n) : fstV ((aIndexAddr Try.prog 23 (.slice (some ⟨b, 0, none⟩) n c) (iN i)).map fun v => (v, none)) = some (pb b i) := by
  have := ridx (b := b) (c := c) Try.underlying23 siz3 h
  rwa [Nat.mul_one] at this
noncomputable def EOf : Ext := extH Try.prog []
theorem EOf_ok : ExtOk Try.prog EOf := extH_ok .nil
noncomputable def fbOf : Code := (Try.f31.body).getD .skip
omit [Inhabited Prop] in
theorem bodyOf : Try.f31.body = some fbOf := by kernel_rfl
omit [Inhabited Prop] in
theorem ntOf : Try.f31.ntmps = 22 := by kernel_rfl
omit [Inhabited Prop] in
theorem sOf : codeSafe Try.prog 22 fbOf = true := by kernel_rfl
noncomputable def lpOf : Code := pB (pR (pL (pR (pR (fbOf)))))
noncomputable def lbOf : Code := pU lpOf
omit [Inhabited Prop] in
theorem lpOf_eq : lpOf = .loop lbOf := by kernel_rfl
omit [Inhabited Prop] in
theorem slOf : codeSafe Try.prog 22 lbOf = true := by kernel_rfl
def cvU (k : Int) : Value := .int .u16 (wrapF .u16 k)
omit [Inhabited Prop] in
theorem cvU_inert (ks : List Int) : (ks.map cvU).all inert = true := List.all_eq_true.2 fun v hv => by obtain ⟨x, -, rfl⟩ := List.mem_map.1 hv; rfl
abbrev OfT (ty : TypeId) (ks : List Int) (c : Nat) (W : Base) (X : Pins) (Q : Value → List Blk → List Nat → List Blk → Prop) : Prop := ((aMakeSlice Try.prog 2 82 (iN 0) (iN ks.length)).map fun r => (r.1, some r.2)) = some (.slice (some ⟨2, 0, none⟩) (([] : List Value).length) 4, some ((nuB [] ks.length))) ∧ (FixO 2 [(inB ty ks), (nuB [] ks.length)] ∧ (∀ g, FRm Try.prog 22 W 1 X lpOf (stOf 22 g [(2, nilS), (3, .slice (some ⟨1, 0, none⟩) (([] : List Value).length) 4), (9, .slice (some ⟨0, 0, none⟩) ks.length c), (10, iN ks.length), (11, iN 0)] [(inB ty ks), (nuB [] ks.length)]) (LQ (fun (_ : Unit) g => (.exit 0, stOf 22 g [(3, .slice (some ⟨1, 0, none⟩) ks.length 4)] [(inB ty ks), (nuB (ks.map cvU) ks.length)])) (fun (_ : Unit) => True))) ∧ (∀ (_ : Unit) (g : Nat → Value), True → Q (.slice (some ⟨1, 0, none⟩) ks.length 4) [(inB ty ks)] [1] [(nuB (ks.map cvU) ks.length)]))
theorem Of_e (ty : TypeId) (ks : List Int) (c : Nat) (W : Base) (X : Pins) (Q : Value → List Blk → List Nat → List Blk → Prop) : OfT ty ks c W X Q = WF Try.prog EOf Try.f31 22 W 1 X 60 fbOf ⟨tmsOf [.slice (some ⟨0, 0, none⟩) ks.length c] 0 .leaf, heapOf [inB ty ks, .dead] hp0, []⟩ (.h 3 (.slice (some ⟨2, 0, none⟩) (([] : List Value).length) 4) [(nuB [] ks.length)] (.l 8 2 [0, 2] [2, 3, 9, 10, 11] Unit (fun (_ : Unit) g => (.exit 0, stOf 22 g [(3, .slice (some ⟨1, 0, none⟩) ks.length 4)] [(inB ty ks), (nuB (ks.map cvU) ks.length)])) (fun (_ : Unit) => True) (.stop 1 [1] []))) Q := by kernel_rfl
abbrev OflT (ty : TypeId) (ks : List Int) (c i : Nat) (a : List Value) (x : Int) (g : Nat → Value) (Q : Exit → St → Prop) : Prop := ((decide ((Int.ofNat i) < (Int.ofNat ks.length))) = true → (fstV ((aIndexAddr Try.prog 23 (.slice (some ⟨0, 0, none⟩) ks.length c) (iN i)).map fun v => (v, none)) : Option Value) = some (pb 0 i) ∧ ((aLoad Try.prog (heapOf [(inB ty ks), (nuB a ks.length), .dead] hp0).get 3 (pb 0 i) : Option Value) = some (.int .i64 x) ∧ (aAppend Try.prog (heapOf [(inB ty ks), (nuB a ks.length), .dead, .cells 85 [.int .u16 (wrapF .u16 x)] false] hp0).get 4 [82, 82] [.slice (some ⟨1, 0, none⟩) a.length 4, .slice (some ⟨3, 0, none⟩) 1 4] = some (.slice (some ⟨1, 0, none⟩) (a.length + 1) 4, [.put 1 ((nuB (a ++ [.int .u16 (wrapF .u16 x)]) ks.length))]) ∧ ((some (.int .i64 (wrapF .i64 (Int.ofNat i + Int.ofNat 1))) : Option Value) = some (iN (i + 1)) ∧ (FixO 2 [(inB ty ks), (nuB (a ++ [.int .u16 (wrapF .u16 x)]) ks.length)] ∧ ∀ g, Q .normal (stOf 22 g [(2, nilS), (3, .slice (some ⟨1, 0, none⟩) (a.length + 1) 4), (9, .slice (some ⟨0, 0, none⟩) ks.length c), (10, iN ks.length), (11, iN (i + 1))] [(inB ty ks), (nuB (a ++ [.int .u16 (wrapF .u16 x)]) ks.length)])))))) ∧ ((decide ((Int.ofNat i) < (Int.ofNat ks.length))) = false → FixO 2 [(inB ty ks), (nuB a ks.length)] ∧ ∀ g, Q (.exit 0) (stOf 22 g [(3, .slice (some ⟨1, 0, none⟩) a.length 4)] [(inB ty ks), (nuB a ks.length)]))
omit [Inhabited Prop] in
theorem Ofl_e (ty : TypeId) (ks : List Int) (c i : Nat) (a : List Value) (x : Int) (g : Nat → Value) (Q : Exit → St → Prop) : OflT ty ks c i a x g Q = RT Try.prog EOf 22 1 60 lbOf (stOf 22 g [(2, nilS), (3, .slice (some ⟨1, 0, none⟩) a.length 4), (9, .slice (some ⟨0, 0, none⟩) ks.length c), (10, iN ks.length), (11, iN i)] [(inB ty ks), (nuB a ks.length)]) (.b 0 (.v 1 (pb 0 i) (.v 2 (.int .i64 x) (.e 8 (.slice (some ⟨1, 0, none⟩) (a.length + 1) 4) [.put 1 ((nuB (a ++ [.int .u16 (wrapF .u16 x)]) ks.length))] (.v 10 (iN (i + 1)) (.stop 2 [0, 1] [2, 3, 9, 10, 11]))))) (.stop 2 [0, 1] [3])) Q := by kernel_rfl
theorem loopOf (ty : TypeId) (ks : List Int) (c : Nat) (hn : ks.length < 1000000) (W : Base) (X : Pins) (g : Nat → Value) :
    FRm Try.prog 22 W 1 X lpOf (stOf 22 g [(2, nilS), (3, .slice (some ⟨1, 0, none⟩) ([] : List Value).length 4), (9, .slice (some ⟨0, 0, none⟩) ks.length c), (10, iN ks.length), (11, iN (0))] [(inB ty ks), (nuB ([] : List Value) ks.length)]) (LQ (fun (_ : Unit) g => (.exit 0, stOf 22 g [(3, .slice (some ⟨1, 0, none⟩) ks.length 4)] [(inB ty ks), (nuB (ks.map cvU) ks.length)])) (fun (_ : Unit) => True)) := by
  rw [lpOf_eq]
  refine FRm.mono (FRm.count (Q := (LQ (fun (_ : Unit) g => (.exit 0, stOf 22 g [(3, .slice (some ⟨1, 0, none⟩) ks.length 4)] [(inB ty ks), (nuB (ks.map cvU) ks.length)])) (fun (_ : Unit) => True))) ks.length (fun i g => (stOf 22 g [(2, nilS), (3, .slice (some ⟨1, 0, none⟩) ((ks.take i).map cvU).length 4), (9, .slice (some ⟨0, 0, none⟩) ks.length c), (10, iN ks.length), (11, iN (i))] [(inB ty ks), (nuB ((ks.take i).map cvU) ks.length)])) (fun i hlt g => ?_) (fun g => ?_) g) fun e st q => q
  · have hx : ks[i]? = some ks[i] := List.getElem?_eq_getElem hlt
    generalize ks[i] = x at hx
    have hw : (some (Value.int .i64 (wrapF .i64 (Int.ofNat i + Int.ofNat 1)))) = some (iN (i + 1)) := wup (by omega)
    have ei : (ks.take (i + 1)).map cvU = (ks.take i).map cvU ++ [.int .u16 (wrapF .u16 x)] := by
      rw [List.take_add_one, hx]; simp [cvU]
    have hal : ((ks.take i).map cvU).length = i := by simp; omega
    have hia := cvU_inert (ks.take i)
    rw [ei]
    generalize (ks.take i).map cvU = a at *
    refine FRm.pieceT EOf_ok follows slOf (Ofl_e ty ks c i a x g _) ?_
    refine ⟨fun h_0 => ⟨iidx hlt, ⟨iload (hgn rfl) hx, ⟨room_one elN rfl (hgn rfl) (by omega) (by omega) (hgn rfl), ⟨hw, ⟨fxO2 (inB_inert _ _) (nuB_inert ?_), fun g => ?_⟩⟩⟩⟩⟩, fun h_0 => Bool.noConfusion ((decide_eq_true (by simpa using hlt)).symm.trans h_0)⟩
    · rw [List.all_append, hia]; rfl
    · exact .inl ⟨rfl, g, by rw [List.length_append]; rfl⟩
  · refine FRm.pieceT EOf_ok follows slOf (Ofl_e ty ks c ks.length ((ks.take ks.length).map cvU) 0 g _) ?_
    refine ⟨fun h_0 => Bool.noConfusion (h_0.symm.trans (decide_eq_false (by simp))), fun h_0 => ⟨fxO2 (inB_inert _ _) (nuB_inert ?_), fun g => ?_⟩⟩
    · exact cvU_inert _
    · refine ⟨by simp, (), g, trivial, rfl, ?_⟩
      rw [List.take_length, List.length_map]
noncomputable def GOf : RowF := fun n cs rest => match rest with
  | [] => match (Classical.propDecidable (∃ ks : List Int, n = ks.length ∧ cs = ks.map iI ∧ ks.length < 1000000)) with
    | .isTrue h => some fun _ _ B => (.slice (some ⟨B, 0, none⟩) n 4, [.cells 85 (h.choose.map cvU) false])
    | .isFalse _ => none
  | _ => none
noncomputable def gOf : HeapFn := rowK GOf
omit [Inhabited Prop] in
theorem iI_inj : ∀ {us vs : List Int}, us.map iI = vs.map iI → us = vs
  | [], [], _ => rfl
  | [], v :: vs, h => by simp at h
  | u :: us, [], h => by simp at h
  | u :: us, v :: vs, h => by
    simp only [List.map_cons, List.cons.injEq, iI, Value.int.injEq, true_and] at h
    rw [h.1, iI_inj (us := us) (vs := vs) h.2]
theorem hkOf : CallGoal Try.prog 31 gOf := rowG follows Try.func31 bodyOf (by kernel_rfl) fun n cs rest r h => by
  unfold GOf at h
  split at h
  case h_2 => cases h
  split at h
  case h_2 => cases h
  rename_i hx _
  obtain ⟨e1, e2, hn⟩ := hx.choose_spec
  generalize hx.choose = ks at *
  subst e1; subst e2
  cases h
  rw [ntOf]
  refine ⟨iI_inert ks, (fun x hx => by cases hx), by simp, fun ty c b B g' W X => ?_⟩
  have hloop := fun g => loopOf ty ks c hn W X g
  refine FRm.pieceWF EOf_ok follows sOf (Of_e ty ks c W X _) ?_
  refine ⟨make_one elN zer85 (by omega), ⟨fxO2 (inB_inert _ _) (nuB_inert rfl), hloop, fun _ g hok => ?_⟩⟩
  have e : nuB (ks.map cvU) ks.length = .cells 85 (ks.map cvU) false := by unfold nuB; simp
  rw [e]
  exact EndQ.rowR one_ro rfl (by simp [okBlk_inert (iI_inert ks), inB]) (by simp [inB]) (Nat.le_refl _) (cvU_inert ks)
omit [Inhabited Prop] in
theorem gOf_of {b c ty : Nat} {ks : List Int} {ro : Bool} {hp : Hp} (hg : hp.get b = some (.cells ty (ks.map iI) ro)) (hn : ks.length < 1000000) :
    gOf [.slice (some ⟨b, 0, none⟩) ks.length c] hp = some (.slice (some ⟨hp.sz, 0, none⟩) ks.length 4, heapOf [.cells 85 (ks.map cvU) false, .dead] hp) := by
  have e : GOf ks.length (ks.map iI) [] = some fun _ _ B => (.slice (some ⟨B, 0, none⟩) ks.length 4, [.cells 85 (ks.map cvU) false]) := by
    unfold GOf
    simp only
    split
    · rename_i h _
      have h2 := h.choose_spec.2.1
      generalize h.choose = l at *
      rw [← iI_inj h2]
    · rename_i h _
      exact absurd ⟨ks, rfl, rfl, hn⟩ h
  exact rowK_of hg e
end Go.Proofs.Ytbhmodlpolgklaa.Tk
namespace Go.Proofs.Ytbhmodlpolgklaa.Tk
open Go Go.Proofs Go.Proofs.Ytbhmodlpolgklaa.AI Go.RowKit
variable [Inhabited Prop]
noncomputable def ECo : Ext := extH Try.prog []
theorem ECo_ok : ExtOk Try.prog ECo := extH_ok .nil
noncomputable def fbCo : Code := (Try.f35.body).getD .skip
omit [Inhabited Prop] in
theorem bodyCo : Try.f35.body = some fbCo := by kernel_rfl
omit [Inhabited Prop] in
theorem ntCo : Try.f35.ntmps = 61 := by kernel_rfl
omit [Inhabited Prop] in
theorem sCo : codeSafe Try.prog 61 fbCo = true := by kernel_rfl
noncomputable def lpCo : Code := pB (pR (pL (pR (pR (fbCo)))))
noncomputable def lbCo : Code := pU lpCo
omit [Inhabited Prop] in
theorem lpCo_eq : lpCo = .loop lbCo := by kernel_rfl
omit [Inhabited Prop] in
theorem slCo : codeSafe Try.prog 61 lbCo = true := by kernel_rfl
def nmB (ty : TypeId) (us : List Int) : Blk := .cells ty (us.map iU) true
omit [Inhabited Prop] in
theorem nmB_inert (ty : TypeId) (us : List Int) : inertB (nmB ty us) = true := iU_inert us
omit [Inhabited Prop] in
theorem nload {hp : Hp} {b : Nat} {ty : TypeId} {us : List Int} {i : Nat} {x : Int} (hg : hp.get b = some (nmB ty us)) (h : us[i]? = some x) : aLoad Try.prog hp.get 85 (pb b i) = some (.int .u16 x) := rload1 agg85 siz85 hg h
omit [Inhabited Prop] in
theorem nidx {b n i c : Nat} (h : i < n) : fstV ((aIndexAddr Try.prog 82 (.slice (some ⟨b, 0, none⟩) n c) (iN i)).map fun v => (v, none)) = some (pb b i) := by
  have := ridx (b := b) (c := c) Try.underlying82 siz85 h
  rwa [Nat.mul_one] at this
omit [Inhabited Prop] in
theorem wdn {i : Nat} (h : i < 1000000) : (some (Value.int .i64 (wrapF .i64 (Int.ofNat (i + 1) - Int.ofNat 1)))) = some (iN i) := by
  have e : Int.ofNat (i + 1) - Int.ofNat 1 = Int.ofNat i := by simp only [Int.ofNat_eq_natCast]; omega
  rw [e, wrapN (by omega)]
  rfl
abbrev CoT (ty : TypeId) (us : List Int) (c : Nat) (W : Base) (X : Pins) (Q : Value → List Blk → List Nat → List Blk → Prop) : Prop := ((decide ((Int.ofNat us.length) < (Int.ofNat 2))) = true → Q (.slice (some ⟨0, 0, none⟩) us.length c) [(nmB ty us)] [] []) ∧ ((decide ((Int.ofNat us.length) < (Int.ofNat 2))) = false → FixO 1 [(nmB ty us)] ∧ (∀ g, FRm Try.prog 61 W 1 X lpCo (stOf 61 g [(0, .slice (some ⟨0, 0, none⟩) us.length c), (3, iN 1)] [(nmB ty us)]) (LQ (fun (_ : Unit) g => (.exit 0, stOf 61 g [(0, .slice (some ⟨0, 0, none⟩) us.length c)] [(nmB ty us)])) (fun (_ : Unit) => True))) ∧ (∀ (_ : Unit) (g : Nat → Value), True → Q (.slice (some ⟨0, 0, none⟩) us.length c) [(nmB ty us)] [] []))
theorem Co_e (ty : TypeId) (us : List Int) (c : Nat) (W : Base) (X : Pins) (Q : Value → List Blk → List Nat → List Blk → Prop) : CoT ty us c W X Q = WF Try.prog ECo Try.f35 61 W 1 X 60 fbCo ⟨tmsOf [.slice (some ⟨0, 0, none⟩) us.length c] 0 .leaf, heapOf [nmB ty us, .dead] hp0, []⟩ (.b 3 (.stop 1 [] []) (.l 5 1 [0] [0, 3] Unit (fun (_ : Unit) g => (.exit 0, stOf 61 g [(0, .slice (some ⟨0, 0, none⟩) us.length c)] [(nmB ty us)])) (fun (_ : Unit) => True) (.stop 1 [] []))) Q := by kernel_rfl
abbrev ColT (ty : TypeId) (us : List Int) (c j : Nat) (x y : Int) (g : Nat → Value) (Q : Exit → St → Prop) : Prop := ((decide ((Int.ofNat (j + 1)) < (Int.ofNat us.length))) = true → (fstV ((aIndexAddr Try.prog 82 (.slice (some ⟨0, 0, none⟩) us.length c) (iN (j + 1))).map fun v => (v, none)) : Option Value) = some (pb 0 (j + 1)) ∧ ((aLoad Try.prog (heapOf [(nmB ty us), .dead] hp0).get 85 (pb 0 (j + 1)) : Option Value) = some (.int .u16 x) ∧ ((some (.int .i64 (wrapF .i64 (Int.ofNat (j + 1) - Int.ofNat 1))) : Option Value) = some (iN j) ∧ ((fstV ((aIndexAddr Try.prog 82 (.slice (some ⟨0, 0, none⟩) us.length c) (iN j)).map fun v => (v, none)) : Option Value) = some (pb 0 j) ∧ ((aLoad Try.prog (heapOf [(nmB ty us), .dead] hp0).get 85 (pb 0 j) : Option Value) = some (.int .u16 y) ∧ ((some (.bool (x == y)) : Option Value) = some (.bool false) ∧ ((some (.int .i64 (wrapF .i64 (Int.ofNat (j + 1) + Int.ofNat 1))) : Option Value) = some (iN ((j + 1) + 1)) ∧ (FixO 1 [(nmB ty us)] ∧ ∀ g, Q .normal (stOf 61 g [(0, .slice (some ⟨0, 0, none⟩) us.length c), (3, iN ((j + 1) + 1))] [(nmB ty us)]))))))))) ∧ ((decide ((Int.ofNat (j + 1)) < (Int.ofNat us.length))) = false → FixO 1 [(nmB ty us)] ∧ ∀ g, Q (.exit 0) (stOf 61 g [(0, .slice (some ⟨0, 0, none⟩) us.length c)] [(nmB ty us)]))
omit [Inhabited Prop] in
theorem Col_e (ty : TypeId) (us : List Int) (c j : Nat) (x y : Int) (g : Nat → Value) (Q : Exit → St → Prop) : ColT ty us c j x y g Q = RT Try.prog ECo 61 1 60 lbCo (stOf 61 g [(0, .slice (some ⟨0, 0, none⟩) us.length c), (3, iN (j + 1))] [(nmB ty us)]) (.b 3 (.v 6 (pb 0 (j + 1)) (.v 7 (.int .u16 x) (.v 10 (iN j) (.v 11 (pb 0 j) (.v 12 (.int .u16 y) (.v 13 (.bool false) (.v 15 (iN ((j + 1) + 1)) (.stop 1 [0] [0, 3])))))))) (.stop 1 [0] [0])) Q := by kernel_rfl
theorem loopCo (ty : TypeId) (us : List Int) (c : Nat) (hn : us.length < 1000000) (h0 : 0 < us.length) (hd : us.Nodup) (W : Base) (X : Pins) (g : Nat → Value) :
    FRm Try.prog 61 W 1 X lpCo (stOf 61 g [(0, .slice (some ⟨0, 0, none⟩) us.length c), (3, iN (0 + 1))] [(nmB ty us)]) (LQ (fun (_ : Unit) g => (.exit 0, stOf 61 g [(0, .slice (some ⟨0, 0, none⟩) us.length c)] [(nmB ty us)])) (fun (_ : Unit) => True)) := by
  rw [lpCo_eq]
  refine FRm.count (Q := (LQ (fun (_ : Unit) g => (.exit 0, stOf 61 g [(0, .slice (some ⟨0, 0, none⟩) us.length c)] [(nmB ty us)])) (fun (_ : Unit) => True))) (us.length - 1) (fun j g => (stOf 61 g [(0, .slice (some ⟨0, 0, none⟩) us.length c), (3, iN (j + 1))] [(nmB ty us)])) (fun j hj g => ?_) (fun g => ?_) g
  · have hlt : j + 1 < us.length := by omega
    have hx : us[j + 1]? = some us[j + 1] := List.getElem?_eq_getElem hlt
    have hy : us[j]? = some us[j] := List.getElem?_eq_getElem (by omega)
    have hxy : (us[j + 1] == us[j]) = false := by
      refine beq_eq_false_iff_ne.2 fun e => ?_
      have := (List.pairwise_iff_getElem.1 hd) j (j + 1) (by omega) hlt (by omega)
      exact this e.symm
    generalize us[j + 1] = x at *
    generalize us[j] = y at *
    have hw : (some (Value.int .i64 (wrapF .i64 (Int.ofNat (j + 1) + Int.ofNat 1)))) = some (iN ((j + 1) + 1)) := wup (by omega)
    have hd : (some (Value.int .i64 (wrapF .i64 (Int.ofNat (j + 1) - Int.ofNat 1)))) = some (iN j) := wdn (by omega)
    refine FRm.pieceT ECo_ok follows slCo (Col_e ty us c j x y g _) ?_
    refine ⟨fun h_3 => ⟨nidx hlt, ⟨nload (hgn rfl) hx, ⟨hd, ⟨nidx (by omega), ⟨nload (hgn rfl) hy, ⟨bool_ok hxy, ⟨hw, ⟨fxO1 (nmB_inert _ _), fun g => ?_⟩⟩⟩⟩⟩⟩⟩⟩, fun h_3 => Bool.noConfusion ((decide_eq_true (by simp only [Int.ofNat_eq_natCast]; omega)).symm.trans h_3)⟩
    exact .inl ⟨rfl, g, rfl⟩
  · refine FRm.pieceT ECo_ok follows slCo (Col_e ty us c (us.length - 1) 0 0 g _) ?_
    refine ⟨fun h_3 => Bool.noConfusion (h_3.symm.trans (decide_eq_false (by simp only [Int.ofNat_eq_natCast]; omega))), fun h_3 => ⟨fxO1 (nmB_inert _ _), fun g => ?_⟩⟩
    exact ⟨by simp, (), g, trivial, rfl, rfl⟩
noncomputable def GCo : RowF := fun n cs rest => match rest with
  | [] => match (Classical.propDecidable (∃ us : List Int, n = us.length ∧ cs = us.map iU ∧ us.length < 1000000 ∧ 0 < us.length ∧ us.Nodup)) with
    | .isTrue _ => some fun b c _ => (.slice (some ⟨b, 0, none⟩) n c, [])
    | .isFalse _ => none
  | _ => none
noncomputable def gCo : HeapFn := rowK GCo
theorem hkCo : CallGoal Try.prog 35 gCo := rowG follows Try.func35 bodyCo (by kernel_rfl) fun n cs rest r h => by
  unfold GCo at h
  split at h
  case h_2 => cases h
  split at h
  case h_2 => cases h
  rename_i hx _
  obtain ⟨us, e1, e2, hn, h0, hd⟩ := hx
  subst e1; subst e2
  cases h
  rw [ntCo]
  refine ⟨iU_inert us, (fun x hx => by cases hx), by simp, fun ty c b B g' W X => ?_⟩
  have hloop := fun g => loopCo ty us c hn h0 hd W X g
  refine FRm.pieceWF ECo_ok follows sCo (Co_e ty us c W X _) ?_
  refine ⟨fun h_3 => ?_, fun h_3 => ⟨fxO1 (nmB_inert _ _), hloop, fun _ g hok => ?_⟩⟩
  all_goals exact EndQ.same (okBlk_inert (iU_inert us)) (by simp [nmB])
omit [Inhabited Prop] in
theorem gCo_of {b c ty : Nat} {us : List Int} {ro : Bool} {hp : Hp} (hg : hp.get b = some (.cells ty (us.map iU) ro)) (hn : us.length < 1000000) (h0 : 0 < us.length) (hd : us.Nodup) :
    gCo [.slice (some ⟨b, 0, none⟩) us.length c] hp = some (.slice (some ⟨b, 0, none⟩) us.length c, heapOf [.dead] hp) := by
  have e : GCo us.length (us.map iU) [] = some fun b c _ => (.slice (some ⟨b, 0, none⟩) us.length c, []) := by
    unfold GCo
    simp only
    split
    · rfl
    · rename_i h _
      exact absurd ⟨us, rfl, rfl, hn, h0, hd⟩ h
  exact rowK_of hg e
end Go.Proofs.Ytbhmodlpolgklaa.Tk
namespace Go.Proofs.Ytbhmodlpolgklaa.Tk
open Go Go.Proofs Go.Proofs.Ytbhmodlpolgklaa.AI Go.RowKit
variable [Inhabited Prop]
noncomputable def EAO : Ext := extH Try.prog [(19, gFar)]
theorem EAO_ok : ExtOk Try.prog EAO := extH_ok (.cons hkFar .nil)
noncomputable def fbAO : Code := (Try.f22.body).getD .skip
omit [Inhabited Prop] in
theorem bodyAO : Try.f22.body = some fbAO := by kernel_rfl
omit [Inhabited Prop] in
theorem ntAO : Try.f22.ntmps = 43 := by kernel_rfl
omit [Inhabited Prop] in
theorem sAO : codeSafe Try.prog 43 fbAO = true := by kernel_rfl
noncomputable def lpAO : Code := pB (pR (pL (pR (pR (pR (fbAO))))))
noncomputable def lbAO : Code := pU lpAO
omit [Inhabited Prop] in
theorem lpAO_eq : lpAO = .loop lbAO := by kernel_rfl
omit [Inhabited Prop] in
theorem slAO : codeSafe Try.prog 43 lbAO = true := by kernel_rfl
def orI (a b : Int) : Int := IntKind.i64.wrap (BitVec.ofInt IntKind.i64.bits a ||| BitVec.ofInt IntKind.i64.bits b).toNat
def sh1 (b : Int) : Int := wrapF .i64 (1 * 2 ^ (min b.toNat IntKind.i64.bits))
def mskF (nx m x : Int) : Int := bif decide (far nx x ≥ Int.ofNat 1) && decide (far nx x ≤ Int.ofNat 16) then orI m (sh1 (wrapF .i64 (far nx x - Int.ofNat 1))) else m
def mskA (nx : Int) (ks : List Int) : Int := ks.foldl (mskF nx) (Int.ofNat 0)
omit [Inhabited Prop] in
theorem hshl {a : Int} (h : decide (a ≥ Int.ofNat 1) = true) (h2 : decide (a ≤ Int.ofNat 16) = true) : fstV ((aBin Try.prog .shl 3 (iN 1) (.int .i64 (wrapF .i64 (a - Int.ofNat 1)))).map fun v => (v, none)) = some (.int .i64 (sh1 (wrapF .i64 (a - Int.ofNat 1)))) := by
  have h1 := of_decide_eq_true h
  have h3 := of_decide_eq_true h2
  simp only [Int.ofNat_eq_natCast] at h1 h3
  have hb : ¬ wrapF .i64 (a - Int.ofNat 1) < 0 := by rw [wrapI (by simp only [Int.ofNat_eq_natCast]; omega) (by simp only [Int.ofNat_eq_natCast]; omega)]; simp only [Int.ofNat_eq_natCast]; omega
  show fstV ((aShift .shl .i64 (Int.ofNat 1) (wrapF .i64 (a - Int.ofNat 1))).map fun v => (v, none)) = _
  unfold aShift
  rw [if_neg hb]
  rfl
def akV (nx m : Int) : Value := .tuple #[.agg #[iN 0, iN 0, .int .i64 nx, .int .i64 m], iN 0]
def akZ : Value := .tuple #[.agg #[iN 0, iN 0, iN 0, iN 0], iN 1]
def vAO (nx : Int) (ks : List Int) : Value := bif decide (0 ≤ nx ∧ nx ≤ 65535) then akV nx (mskA nx ks) else akZ
omit [Inhabited Prop] in
theorem stay_ak (nx m : Int) : stayV (akV nx m) := ⟨rfl, fun _ => by simp [mv3, mv2, mv1, akV, iN]⟩
omit [Inhabited Prop] in
theorem stay_akZ : stayV akZ := ⟨rfl, fun _ => by simp [mv3, mv2, mv1, akZ, iN]⟩
omit [Inhabited Prop] in
theorem stay_vAO (nx : Int) (ks : List Int) : stayV (vAO nx ks) := by
  unfold vAO
  cases decide (0 ≤ nx ∧ nx ≤ 65535)
  · exact stay_akZ
  · exact stay_ak _ _
abbrev AOT (nx : Int) (ty : TypeId) (ks : List Int) (c : Nat) (W : Base) (X : Pins) (Q : Value → List Blk → List Nat → List Blk → Prop) : Prop := ((decide (nx < (Int.ofNat 0))) = true → Q (.tuple #[.agg #[iN 0, iN 0, iN 0, iN 0], iN 1]) [(inB ty ks)] [] []) ∧ ((decide (nx < (Int.ofNat 0))) = false → ((decide (nx > (Int.ofNat 65535))) = true → Q (.tuple #[.agg #[iN 0, iN 0, iN 0, iN 0], iN 1]) [(inB ty ks)] [] []) ∧ ((decide (nx > (Int.ofNat 65535))) = false → FixO 1 [(inB ty ks), .cells 44 [iN 0, iN 0, iN 0, iN 0] false, .cells 44 [iN 0, iN 0, .int .i64 nx, iN 0] false] ∧ (∀ g, FRm Try.prog 43 W 1 X lpAO (stOf 43 g [(0, .int .i64 nx), (4, pb 1 0), (5, iN 0), (6, pb 2 0), (19, .slice (some ⟨0, 0, none⟩) ks.length c), (20, iN ks.length), (21, iN 0)] [(inB ty ks), .cells 44 [iN 0, iN 0, iN 0, iN 0] false, .cells 44 [iN 0, iN 0, .int .i64 nx, iN 0] false]) (LQ (fun (_ : Unit) g => (.exit 0, stOf 43 g [(4, pb 1 0), (6, pb 2 0)] [(inB ty ks), .cells 44 [iN 0, iN 0, iN 0, iN 0] false, .cells 44 [iN 0, iN 0, .int .i64 nx, .int .i64 (mskA nx ks)] false])) (fun (_ : Unit) => True))) ∧ (∀ (_ : Unit) (g : Nat → Value), True → Q (.tuple #[.agg #[iN 0, iN 0, .int .i64 nx, .int .i64 (mskA nx ks)], iN 0]) [(inB ty ks)] [] [])))
theorem AO_e (nx : Int) (ty : TypeId) (ks : List Int) (c : Nat) (W : Base) (X : Pins) (Q : Value → List Blk → List Nat → List Blk → Prop) : AOT nx ty ks c W X Q = WF Try.prog EAO Try.f22 43 W 1 X 60 fbAO ⟨tmsOf [.int .i64 nx, .slice (some ⟨0, 0, none⟩) ks.length c] 0 .leaf, heapOf [inB ty ks, .dead] hp0, []⟩ (.b 3 (.stop 1 [] []) (.b 6 (.stop 1 [] []) (.l 15 1 [0, 2, 3] [0, 4, 5, 6, 19, 20, 21] Unit (fun (_ : Unit) g => (.exit 0, stOf 43 g [(4, pb 1 0), (6, pb 2 0)] [(inB ty ks), .cells 44 [iN 0, iN 0, iN 0, iN 0] false, .cells 44 [iN 0, iN 0, .int .i64 nx, .int .i64 (mskA nx ks)] false])) (fun (_ : Unit) => True) (.stop 1 [] [])))) Q := by kernel_rfl
abbrev AOlT (nx : Int) (ty : TypeId) (ks : List Int) (c i : Nat) (m x : Int) (g : Nat → Value) (Q : Exit → St → Prop) : Prop := ((decide ((Int.ofNat i) < (Int.ofNat ks.length))) = true → (fstV ((aIndexAddr Try.prog 23 (.slice (some ⟨0, 0, none⟩) ks.length c) (iN i)).map fun v => (v, none)) : Option Value) = some (pb 0 i) ∧ ((aLoad Try.prog (heapOf [(inB ty ks), .cells 44 [iN 0, iN 0, iN 0, iN 0] false, .cells 44 [iN 0, iN 0, .int .i64 nx, .int .i64 m] false, .dead] hp0).get 3 (pb 0 i) : Option Value) = some (.int .i64 x) ∧ (((decide ((far nx x) ≥ (Int.ofNat 1))) = true → ((decide ((far nx x) ≤ (Int.ofNat 16))) = true → (fstV ((aBin Try.prog .shl 3 (iN 1) (.int .i64 (wrapF .i64 ((far nx x) - (Int.ofNat 1))))).map fun v => (v, none)) : Option Value) = some (.int .i64 (sh1 (wrapF .i64 ((far nx x) - (Int.ofNat 1))))) ∧ ((fstV ((aBin Try.prog .or 3 (.int .i64 m) (.int .i64 (sh1 (wrapF .i64 ((far nx x) - (Int.ofNat 1)))))).map fun v => (v, none)) : Option Value) = some (.int .i64 (orI m (sh1 (wrapF .i64 ((far nx x) - (Int.ofNat 1)))))) ∧ ((some (.int .i64 (wrapF .i64 (Int.ofNat i + Int.ofNat 1))) : Option Value) = some (iN (i + 1)) ∧ (FixO 1 [(inB ty ks), .cells 44 [iN 0, iN 0, iN 0, iN 0] false, .cells 44 [iN 0, iN 0, .int .i64 nx, .int .i64 (orI m (sh1 (wrapF .i64 ((far nx x) - (Int.ofNat 1)))))] false] ∧ ∀ g, Q .normal (stOf 43 g [(0, .int .i64 nx), (4, pb 1 0), (5, iN 0), (6, pb 2 0), (19, .slice (some ⟨0, 0, none⟩) ks.length c), (20, iN ks.length), (21, iN (i + 1))] [(inB ty ks), .cells 44 [iN 0, iN 0, iN 0, iN 0] false, .cells 44 [iN 0, iN 0, .int .i64 nx, .int .i64 (orI m (sh1 (wrapF .i64 ((far nx x) - (Int.ofNat 1)))))] false]))))) ∧ ((decide ((far nx x) ≤ (Int.ofNat 16))) = false → (some (.int .i64 (wrapF .i64 (Int.ofNat i + Int.ofNat 1))) : Option Value) = some (iN (i + 1)) ∧ (FixO 1 [(inB ty ks), .cells 44 [iN 0, iN 0, iN 0, iN 0] false, .cells 44 [iN 0, iN 0, .int .i64 nx, .int .i64 m] false] ∧ ∀ g, Q .normal (stOf 43 g [(0, .int .i64 nx), (4, pb 1 0), (5, iN 0), (6, pb 2 0), (19, .slice (some ⟨0, 0, none⟩) ks.length c), (20, iN ks.length), (21, iN (i + 1))] [(inB ty ks), .cells 44 [iN 0, iN 0, iN 0, iN 0] false, .cells 44 [iN 0, iN 0, .int .i64 nx, .int .i64 m] false])))) ∧ ((decide ((far nx x) ≥ (Int.ofNat 1))) = false → (some (.int .i64 (wrapF .i64 (Int.ofNat i + Int.ofNat 1))) : Option Value) = some (iN (i + 1)) ∧ (FixO 1 [(inB ty ks), .cells 44 [iN 0, iN 0, iN 0, iN 0] false, .cells 44 [iN 0, iN 0, .int .i64 nx, .int .i64 m] false] ∧ ∀ g, Q .normal (stOf 43 g [(0, .int .i64 nx), (4, pb 1 0), (5, iN 0), (6, pb 2 0), (19, .slice (some ⟨0, 0, none⟩) ks.length c), (20, iN ks.length), (21, iN (i + 1))] [(inB ty ks), .cells 44 [iN 0, iN 0, iN 0, iN 0] false, .cells 44 [iN 0, iN 0, .int .i64 nx, .int .i64 m] false])))))) ∧ ((decide ((Int.ofNat i) < (Int.ofNat ks.length))) = false → FixO 1 [(inB ty ks), .cells 44 [iN 0, iN 0, iN 0, iN 0] false, .cells 44 [iN 0, iN 0, .int .i64 nx, .int .i64 m] false] ∧ ∀ g, Q (.exit 0) (stOf 43 g [(4, pb 1 0), (6, pb 2 0)] [(inB ty ks), .cells 44 [iN 0, iN 0, iN 0, iN 0] false, .cells 44 [iN 0, iN 0, .int .i64 nx, .int .i64 m] false]))
omit [Inhabited Prop] in
theorem AOl_e (nx : Int) (ty : TypeId) (ks : List Int) (c i : Nat) (m x : Int) (g : Nat → Value) (Q : Exit → St → Prop) : AOlT nx ty ks c i m x g Q = RT Try.prog EAO 43 1 60 lbAO (stOf 43 g [(0, .int .i64 nx), (4, pb 1 0), (5, iN 0), (6, pb 2 0), (19, .slice (some ⟨0, 0, none⟩) ks.length c), (20, iN ks.length), (21, iN i)] [(inB ty ks), .cells 44 [iN 0, iN 0, iN 0, iN 0] false, .cells 44 [iN 0, iN 0, .int .i64 nx, .int .i64 m] false]) (.b 0 (.v 1 (pb 0 i) (.v 2 (.int .i64 x) (.b 9 (.b 12 (.v 18 (.int .i64 (sh1 (wrapF .i64 ((far nx x) - (Int.ofNat 1))))) (.v 19 (.int .i64 (orI m (sh1 (wrapF .i64 ((far nx x) - (Int.ofNat 1)))))) (.v 22 (iN (i + 1)) (.stop 1 [0, 1, 2] [0, 4, 5, 6, 19, 20, 21])))) (.v 14 (iN (i + 1)) (.stop 1 [0, 1, 2] [0, 4, 5, 6, 19, 20, 21]))) (.v 12 (iN (i + 1)) (.stop 1 [0, 1, 2] [0, 4, 5, 6, 19, 20, 21]))))) (.stop 1 [0, 1, 2] [4, 6])) Q := by kernel_rfl
abbrev AOnT (nx : Int) (Q : Value → List Blk → List Nat → List Blk → Prop) : Prop := ((decide (nx < (Int.ofNat 0))) = true → Q (.tuple #[.agg #[iN 0, iN 0, iN 0, iN 0], iN 1]) [] [] []) ∧ ((decide (nx < (Int.ofNat 0))) = false → ((decide (nx > (Int.ofNat 65535))) = true → Q (.tuple #[.agg #[iN 0, iN 0, iN 0, iN 0], iN 1]) [] [] []) ∧ ((decide (nx > (Int.ofNat 65535))) = false → Q (.tuple #[.agg #[iN 0, iN 0, .int .i64 nx, iN 0], iN 0]) [] [] []))
omit [Inhabited Prop] in
theorem AOn_e (nx : Int) (Q : Value → List Blk → List Nat → List Blk → Prop) : AOnT nx Q = RF Try.prog EAO Try.f22 60 fbAO ⟨tmsOf [.int .i64 nx, nilS] 0 .leaf, heapOf [.dead] hp0, []⟩ (.b 3 (.stop 0 [] []) (.b 6 (.stop 0 [] []) (.stop 0 [] []))) Q := by kernel_rfl
theorem loopAO (nx : Int) (ty : TypeId) (ks : List Int) (c : Nat) (hn : ks.length < 1000000) (W : Base) (X : Pins) (g : Nat → Value) :
    FRm Try.prog 43 W 1 X lpAO (stOf 43 g [(0, .int .i64 nx), (4, pb 1 0), (5, iN 0), (6, pb 2 0), (19, .slice (some ⟨0, 0, none⟩) ks.length c), (20, iN ks.length), (21, iN (0))] [(inB ty ks), .cells 44 [iN 0, iN 0, iN 0, iN 0] false, .cells 44 [iN 0, iN 0, .int .i64 nx, .int .i64 (Int.ofNat 0)] false]) (LQ (fun (_ : Unit) g => (.exit 0, stOf 43 g [(4, pb 1 0), (6, pb 2 0)] [(inB ty ks), .cells 44 [iN 0, iN 0, iN 0, iN 0] false, .cells 44 [iN 0, iN 0, .int .i64 nx, .int .i64 (mskA nx ks)] false])) (fun (_ : Unit) => True)) := by
  rw [lpAO_eq]
  refine FRm.fold (vs := ks) (mskF nx) (Int.ofNat 0) (fun m i g => (stOf 43 g [(0, .int .i64 nx), (4, pb 1 0), (5, iN 0), (6, pb 2 0), (19, .slice (some ⟨0, 0, none⟩) ks.length c), (20, iN ks.length), (21, iN (i))] [(inB ty ks), .cells 44 [iN 0, iN 0, iN 0, iN 0] false, .cells 44 [iN 0, iN 0, .int .i64 nx, .int .i64 m] false])) (fun m g hm => ?_) (fun i x m g hx hlt hm => ?_) g
  · refine FRm.pieceT EAO_ok follows slAO (AOl_e nx ty ks c ks.length m 0 g _) ?_
    refine ⟨fun h_0 => Bool.noConfusion (h_0.symm.trans (decide_eq_false (by simp))), fun h_0 => ⟨fxO1 (inB_inert _ _), fun g => ?_⟩⟩
    exact ⟨by simp, (), g, trivial, rfl, by rw [← hm]; rfl⟩
  · have hw : (some (Value.int .i64 (wrapF .i64 (Int.ofNat i + Int.ofNat 1)))) = some (iN (i + 1)) := wup (by omega)
    refine FRm.pieceT EAO_ok follows slAO (AOl_e nx ty ks c i m x g _) ?_
    refine ⟨fun h_0 => ⟨iidx hlt, ⟨iload (hgn rfl) hx, ⟨fun h_9 => ⟨fun h_12 => ⟨hshl (by assumption) (by assumption), ⟨rfl, ⟨hw, ⟨fxO1 (inB_inert _ _), fun g => ?_⟩⟩⟩⟩, fun h_12 => ⟨hw, ⟨fxO1 (inB_inert _ _), fun g => ?_⟩⟩⟩, fun h_9 => ⟨hw, ⟨fxO1 (inB_inert _ _), fun g => ?_⟩⟩⟩⟩⟩, fun h_0 => Bool.noConfusion ((decide_eq_true (by simpa using hlt)).symm.trans h_0)⟩
    all_goals (refine .inl ⟨rfl, g, ?_⟩; unfold mskF; clear hx hm hw; simp only [*, Bool.and_self, Bool.and_false, Bool.false_and, cond_true, cond_false])
noncomputable def GAO (u : Value) : RowF := fun n cs rest => match u, rest with
  | .int .i64 nx, [] => match (Classical.propDecidable (∃ ks : List Int, n = ks.length ∧ cs = ks.map iI ∧ ks.length < 1000000)) with
    | .isTrue h => some fun _ _ _ => (vAO nx h.choose, [])
    | .isFalse _ => none
  | _, _ => none
noncomputable def GAOn : Deep := fun args => match args with
  | [.int .i64 nx, .slice none 0 0] => some fun _ => (vAO nx [], [])
  | _ => none
noncomputable def gAO : HeapFn := fun args hp => match args with
  | [u, .slice none 0 0] => tellK GAOn [u, .slice none 0 0] hp
  | _ => rowK1 GAO args hp
omit [Inhabited Prop] in
theorem vAO_T {nx : Int} {ks : List Int} (h : decide (nx < Int.ofNat 0) = false) (h2 : decide (nx > Int.ofNat 65535) = false) : akV nx (mskA nx ks) = vAO nx ks := by
  have h1 := of_decide_eq_false h
  have h3 := of_decide_eq_false h2
  simp only [Int.ofNat_eq_natCast] at h1 h3
  unfold vAO
  rw [decide_eq_true (by omega)]; rfl
omit [Inhabited Prop] in
theorem vAO_F1 {nx : Int} {ks : List Int} (h : decide (nx < Int.ofNat 0) = true) : akZ = vAO nx ks := by
  have h1 := of_decide_eq_true h
  simp only [Int.ofNat_eq_natCast] at h1
  unfold vAO
  rw [decide_eq_false (by omega)]; rfl
omit [Inhabited Prop] in
theorem vAO_F2 {nx : Int} {ks : List Int} (h : decide (nx > Int.ofNat 65535) = true) : akZ = vAO nx ks := by
  have h1 := of_decide_eq_true h
  simp only [Int.ofNat_eq_natCast] at h1
  unfold vAO
  rw [decide_eq_false (by omega)]; rfl
theorem hkAOr : CallGoal Try.prog 22 (rowK1 GAO) := rowG1 follows Try.func22 bodyAO (by kernel_rfl) fun u n cs rest r h => by
  unfold GAO at h
  split at h
  case h_2 => cases h
  rename_i nx
  split at h
  case h_2 => cases h
  rename_i hx _
  obtain ⟨e1, e2, hn⟩ := hx.choose_spec
  generalize hx.choose = ks at *
  subst e1; subst e2
  cases h
  rw [ntAO]
  refine ⟨iI_inert ks, stayV_int _ _, (fun x hx => by cases hx), by simp, fun ty c b B g' W X => ?_⟩
  have hloop := fun g => loopAO nx ty ks c hn W X g
  refine FRm.pieceWF EAO_ok follows sAO (AO_e nx ty ks c W X _) ?_
  have hO : ([inB ty ks] : List Blk).all okBlk = true := by simp [okBlk_inert (iI_inert ks), inB]
  refine ⟨fun h_3 => ?_, fun h_3 => ⟨fun h_6 => ?_, fun h_6 => ⟨fxO1 (inB_inert _ _), hloop, fun _ g hok => ?_⟩⟩⟩
  all_goals first
    | exact EndQ.pureR one_ro rfl hO (by simp [inB]) (stay_vAO _ _) (vAO_T (by assumption) (by assumption))
    | exact EndQ.pureR one_ro rfl hO (by simp [inB]) (stay_vAO _ _) (vAO_F1 (by assumption))
    | exact EndQ.pureR one_ro rfl hO (by simp [inB]) (stay_vAO _ _) (vAO_F2 (by assumption))
theorem hkAOn : CallGoal Try.prog 22 (tellK GAOn) := deepG follows Try.func22 bodyAO (by kernel_rfl) fun args r h => by
  unfold GAOn at h
  split at h
  case h_2 => cases h
  rename_i nx
  cases h
  rw [ntAO]
  refine ⟨fun x hx => ?_, by simp, fun B g' W X => ?_⟩
  · simp only [List.mem_cons, List.not_mem_nil, or_false] at hx
    rcases hx with rfl | rfl
    · exact stayV_int _ _
    · exact stayV_nil
  · refine FRm.pieceF EAO_ok follows sAO (AOn_e nx _) ?_
    refine ⟨fun h_3 => ?_, fun h_3 => ⟨fun h_6 => ?_, fun h_6 => ?_⟩⟩
    all_goals first
      | exact EndQ.pure (stay_vAO _ _) (vAO_T (ks := []) (by assumption) (by assumption))
      | exact EndQ.pure (stay_vAO _ _) (vAO_F1 (by assumption))
      | exact EndQ.pure (stay_vAO _ _) (vAO_F2 (by assumption))
theorem hkAO : CallGoal Try.prog 22 gAO := fun args hp v hp' h hk => by
  unfold gAO at h
  split at h
  · exact hkAOn _ _ _ _ h hk
  · exact hkAOr _ _ _ _ h hk
omit [Inhabited Prop] in
theorem gAO_row {b c ty : Nat} {nx : Int} {ks : List Int} {ro : Bool} {hp : Hp} (hg : hp.get b = some (.cells ty (ks.map iI) ro)) (hn : ks.length < 1000000) :
    gAO [.int .i64 nx, .slice (some ⟨b, 0, none⟩) ks.length c] hp = some (vAO nx ks, heapOf [.dead] hp) := by
  have e : GAO (.int .i64 nx) ks.length (ks.map iI) [] = some fun _ _ _ => (vAO nx ks, []) := by
    unfold GAO
    simp only
    split
    · rename_i h _
      have h2 := h.choose_spec.2.1
      generalize h.choose = l at *
      rw [← iI_inj h2]
    · rename_i h _
      exact absurd ⟨ks, rfl, rfl, hn⟩ h
  show rowK1 GAO [.int .i64 nx, .slice (some ⟨b, 0, none⟩) ks.length c] hp = some (vAO nx ks, heapOf [.dead] hp)
  exact rowK1_of hg e
omit [Inhabited Prop] in
theorem gAO_nil {nx : Int} {hp : Hp} : gAO [.int .i64 nx, nilS] hp = some (vAO nx [], heapOf [.dead] hp) := rfl
end Go.Proofs.Ytbhmodlpolgklaa.Tk
