/- Soundness, 2: numbers, strings, equality, parts. -/
import Derived.Test.YtjecepaaalfilaaAi5
import Derived.Laws.StructEq
import Derived.Laws.Entries
set_option linter.unusedVariables false
set_option linter.unusedSimpArgs false
namespace Go.Proofs.Ytjecepaaalfilaa.AI
open Go

section
variable {P : Program} {w : World} {m : BM} {h : HG}

/-! ### 1. Types -/
theorem run_info {t : TypeId} {i : TypeInfo} (hi : P.info? t = some i) : (typeInfo t).run P w = .ok i w := by simp [typeInfo, hi]
theorem run_size {t : TypeId} {n : Nat} (hn : tsize P t = some n) : (sizeOf t).run P w = .ok n w := by
  unfold tsize at hn
  cases hi : P.info? t with
  | none => simp [hi] at hn
  | some i => simp [hi] at hn; subst hn; simp [sizeOf, run_info hi]
theorem run_under {t : TypeId} {d : TypeDesc} (hd : P.underlying t = some d) : (underlying t).run P w = .ok d w := run_underlying hd w
theorem run_agg {t : TypeId} {b : Bool} (hb : tagg P t = some b) : (isAgg t).run P w = .ok b w := by
  unfold tagg at hb
  cases hd : P.underlying t with
  | none => simp [hd] at hb
  | some d =>
    simp only [hd] at hb
    simp only [isAgg, Sem.run_bind, run_under hd, Result.andThen_ok]
    cases d <;> simp at hb <;> subst hb <;> rfl
theorem run_zero {t : TypeId} {z : List Value} (hz : tzero P t = some z) : ∃ v, (zeroValue t).run P w = .ok v w ∧ cellsL v = z ∧ z.all AI.flat = true := by
  unfold tzero at hz
  cases hi : P.info? t with
  | none => simp [hi] at hz
  | some i =>
    simp only [hi, Option.bind_some] at hz
    cases hv : i.zero with
    | none => simp [hv] at hz
    | some v =>
      simp only [hv] at hz
      split at hz
      · rename_i ha; cases hz
        exact ⟨v, by simp [zeroValue, run_info hi, hv], rfl, ha⟩
      · cases hz

theorem run_part {t : TypeId} {cs cs' : Array Value} {off : Nat} {v : Value} (hp : partA P t cs off = some v) (r : VRelA m h cs cs') :
    ∃ v', (part t cs' off).run P w = .ok v' w ∧ VRel m h v v' := by
  unfold partA at hp
  split at hp
  · rename_i n ha hn
    cases hp
    refine ⟨.agg (cs'.extract off (off + n)), by simp [part, run_agg ha, run_size hn], ?_⟩
    have h1 := (r.toList.drop off).take n
    have h2 := VRel.agg' h1
    have e : ∀ x : Array Value, ((x.toList.drop off).take n).toArray = x.extract off (off + n) := by
      intro x
      apply Array.ext'
      simp
    rwa [e, e] at h2
  · rename_i n ha hn
    have hs : off < cs.size := (Array.getElem?_eq_some_iff.1 hp).1
    have hs' : off < cs'.size := r.1 ▸ hs
    refine ⟨cs'[off], ?_, r.2 off v cs'[off] hp (Array.getElem?_eq_getElem hs')⟩
    simp [part, run_agg ha, Array.getElem?_eq_getElem hs']
  · cases hp

/-! ### 2. Numbers and strings -/
theorem wrapF_eq (k : IntKind) (n : Int) : wrapF k n = k.wrap n := by
  unfold wrapF
  split
  · rename_i hr
    cases k <;> simp [inR] at hr <;> simp only [IntKind.wrap, IntKind.signed, IntKind.bits] <;> (try simp only [Bool.true_and, Bool.false_and]) 
    · split <;> simp_all <;> omega
    · split <;> simp_all <;> omega
  · rfl
theorem strEq_eq (x y : ByteArray) : strEq x y = (x.toList == y.toList) := by unfold strEq; rw [Lib.toList_data, Lib.toList_data]
theorem strEq_beq (x y : ByteArray) : strEq x y = (x == y) := by rw [strEq_eq, beq_toListBytes]
theorem strCat_eq (x y : ByteArray) : strCat x y = x ++ y := by
  unfold strCat
  apply ByteArray.ext
  simp

theorem aBinI_sound {op : BinOp} {t : TypeId} {k : IntKind} {a b : Int} {v : Value} (hv : aBinI op k a b = some v) :
    (binOp op t (.int k a) (.int k b)).run P w = .ok v w ∧ AI.flat v = true := by
  cases op <;> simp only [aBinI] at hv <;> (try split at hv) <;> (try cases hv) <;> (try contradiction) <;>
    refine ⟨?_, rfl⟩ <;> simp_all [binOp, Op.intArith, Op.intDiv, Op.intBits, Op.intCmp, wrapF_eq]
theorem aShift_sound {op : BinOp} {t : TypeId} {k k' : IntKind} {a b : Int} {v : Value} (ho : op = .shl ∨ op = .shr) (hv : aShift op k a b = some v) :
    (binOp op t (.int k a) (.int k' b)).run P w = .ok v w ∧ AI.flat v = true := by
  unfold aShift at hv
  split at hv
  · cases hv
  · rename_i hb
    rcases ho with rfl | rfl <;> simp only at hv <;> cases hv <;> refine ⟨?_, rfl⟩ <;> simp [binOp, Op.shift, hb, wrapF_eq]
theorem aBinS_sound {op : BinOp} {t : TypeId} {x y : ByteArray} {v : Value} (hv : aBinS op x y = some v) :
    (binOp op t (.string x) (.string y)).run P w = .ok v w ∧ AI.flat v = true := by
  cases op <;> simp only [aBinS] at hv <;> (try split at hv) <;> (try cases hv) <;> (try contradiction) <;>
    refine ⟨?_, rfl⟩ <;> simp [binOp, Op.stringOp, strEq_eq, strCat_eq, Lib.toList_data]
  rename_i hs
  omega

/-! ### 3. '==' -/
theorem aEq_sound : ∀ (d : Nat) {t : TypeId} {x y x' y' : Value} {r : Bool}, aEq P d t x y = some r → VRel m h x x' → VRel m h y y' →
    ∀ D, d ≤ D → (Op.equalIn D t x' y').run P w = .ok r w
  | 0, t, x, y, x', y', r, he, rx, ry, D, hD => by simp [aEq] at he
  | d + 1, t, x, y, x', y', r, he, rx, ry, D, hD => by
    obtain ⟨D, rfl⟩ : ∃ k, D = k + 1 := ⟨D - 1, by omega⟩
    have ih := fun {t : TypeId} {x y x' y' : Value} {r : Bool} => aEq_sound d (t := t) (x := x) (y := y) (x' := x') (y' := y') (r := r)
    unfold aEq at he
    split at he
    · rename_i hu; cases he; rw [rx.of_bool, ry.of_bool]; simp [Op.equalIn, run_under hu]
    · rename_i hu
      split at he
      · rename_i hk; cases he; rw [rx.of_int, ry.of_int]; simp [Op.equalIn, run_under hu, hk]
      · cases he
    · rename_i hu; cases he; rw [rx.of_string, ry.of_string]; simp [Op.equalIn, run_under hu, strEq_beq]
    · rename_i hu; cases he
      obtain rfl := rx.of_flat rfl
      rename_i b
      cases b with
      | none => obtain rfl := ry.of_flat rfl; simp [Op.equalIn, run_under hu]
      | some a => obtain ⟨_, _, _, _, _, rfl, _⟩ := ry.of_ptr; simp [Op.equalIn, run_under hu]
    · rename_i hu; cases he
      obtain ⟨_, _, _, _, _, rfl, _⟩ := rx.of_ptr
      obtain rfl := ry.of_flat rfl
      simp [Op.equalIn, run_under hu]
    · rename_i hu; cases he
      obtain ⟨_, _, rfl⟩ := rx.of_nilslice
      rename_i b _ _ _ _
      cases b with
      | none => obtain ⟨_, _, rfl⟩ := ry.of_nilslice; simp [Op.equalIn, run_under hu]
      | some a => obtain ⟨_, _, _, _, _, _, rfl, _, _⟩ := ry.of_slice; simp [Op.equalIn, run_under hu]
    · rename_i hu; cases he
      obtain ⟨_, _, _, _, _, _, rfl, _, _⟩ := rx.of_slice
      obtain ⟨_, _, rfl⟩ := ry.of_nilslice
      simp [Op.equalIn, run_under hu]
    · rename_i hu; cases he
      obtain rfl := rx.of_flat rfl
      rename_i b
      cases b with
      | none => obtain rfl := ry.of_flat rfl; simp [Op.equalIn, run_under hu]
      | some a => obtain ⟨_, rfl, _⟩ := ry.of_map; simp [Op.equalIn, run_under hu]
    · rename_i hu; cases he
      obtain ⟨_, rfl, _⟩ := rx.of_map
      obtain rfl := ry.of_flat rfl
      simp [Op.equalIn, run_under hu]
    · rename_i hu; cases he; obtain rfl := rx.of_flat rfl; obtain rfl := ry.of_flat rfl; simp [Op.equalIn, run_under hu]
    · rename_i fn _ _ hu; cases he; obtain rfl := rx.of_flat rfl
      cases ry with
      | flat hf => simp [AI.flat] at hf
      | func => simp [Op.equalIn, run_under hu]
    · rename_i fn _ _ hu; cases he; obtain rfl := ry.of_flat rfl
      cases rx with
      | flat hf => simp [AI.flat] at hf
      | func => simp [Op.equalIn, run_under hu]
    · rename_i fs xs ys hu
      obtain ⟨xs', rfl, rx'⟩ := rx.of_agg
      obtain ⟨ys', rfl, ry'⟩ := ry.of_agg
      split at he
      · cases he
      · rename_i hp
        have hf : P.fieldsOf t = fs := by simp [Program.fieldsOf, hu]
        rw [run_equalIn_struct (P := P) w D t xs' ys' (by rw [hf]; exact hu) hp, hf]
        clear hf hp hu
        generalize fs.toList = l at he
        induction l generalizing r with
        | nil => simp at he; subst he; simp [Op.eqFields]
        | cons f l ihl =>
          simp only [List.foldr_cons] at he
          split at he
          · rename_i hn
            have hn' : ¬ (f.name ≠ "_") := by simpa using hn
            rw [Op.eqFields, if_neg hn']
            exact ihl _ he
          · rename_i hn
            have hn' : f.name ≠ "_" := by simpa using hn
            split at he
            · rename_i a b ha hb
              obtain ⟨a', ha', ra⟩ := run_part (P := P) (w := w) ha rx'
              obtain ⟨b', hb', rb⟩ := run_part (P := P) (w := w) hb ry'
              rw [Op.eqFields, if_pos hn']
              simp only [Sem.run_bind, ha', hb', Result.andThen_ok]
              split at he
              · rename_i hab
                rw [ih hab ra rb D (by omega)]
                simpa using ihl _ he
              · rename_i hab
                rw [ih hab ra rb D (by omega)]
                cases he
                simp
              · cases he
            · cases he
    · cases he

/-! ### 4. The binary operations, with the look at two nil values ahead -/
theorem run_guard_of {op : BinOp} {t : TypeId} {ox oy : Operand} {a b : Value} (ha : eqKind a = true ∨ (∃ k n, a = .int k n) ∨ ∃ s, a = .string s) : (eqGuard op t ox oy a b).run P w = .ok () w := by
  unfold eqGuard
  rcases ha with ha | ⟨k, n, rfl⟩ | ⟨s, rfl⟩
  · cases op <;> simp <;> (cases a <;> simp_all [eqKind])
  · cases op <;> simp
  · cases op <;> simp
theorem run_guard_agg {op : BinOp} {t : TypeId} {ox oy : Operand} {xs ys : Array Value} (hg : P.eqGuardType P.depth t = false) : (eqGuard op t ox oy (.agg xs) (.agg ys)).run P w = .ok () w := by
  unfold eqGuard
  cases op <;> simp [hg]
theorem VRel.eqKind {x x' : Value} (r : VRel m h x x') (hk : AI.eqKind x = true) : AI.eqKind x' = true := by
  cases r with
  | flat hf => exact hk
  | agg => simp [AI.eqKind] at hk
  | tuple => simp [AI.eqKind] at hk
  | _ => rfl
theorem binOp_eql {t : TypeId} {x y : Value} (hx : eqKind x = true) (hy : eqKind y = true) : binOp .eql t x y = (do pure (.bool (← Op.equal t x y))) := by
  cases x <;> simp [eqKind] at hx <;> cases y <;> simp [eqKind] at hy <;> rfl
theorem binOp_neq {t : TypeId} {x y : Value} (hx : eqKind x = true) (hy : eqKind y = true) : binOp .neq t x y = (do pure (.bool (!(← Op.equal t x y)))) := by
  cases x <;> simp [eqKind] at hx <;> cases y <;> simp [eqKind] at hy <;> rfl

theorem aBin_sound {op : BinOp} {t : TypeId} {x y x' y' v : Value} {ox oy : Operand} (hv : aBin P op t x y = some v) (rx : VRel m h x x') (ry : VRel m h y y') :
    (do eqGuard op t ox oy x' y'; binOp op t x' y').run P w = .ok v w ∧ AI.flat v = true := by
  unfold aBin at hv
  split at hv
  · rename_i k a k' b
    obtain rfl := rx.of_int
    obtain rfl := ry.of_int
    rw [Sem.run_bind, run_guard_of (.inr (.inl ⟨_, _, rfl⟩)), Result.andThen_ok]
    split at hv
    · exact aShift_sound (.inl rfl) hv
    · exact aShift_sound (.inr rfl) hv
    · split at hv
      · rename_i hk; subst hk; exact aBinI_sound hv
      · cases hv
  · obtain rfl := rx.of_string
    obtain rfl := ry.of_string
    rw [Sem.run_bind, run_guard_of (.inr (.inr ⟨_, rfl⟩)), Result.andThen_ok]
    exact aBinS_sound hv
  · rename_i xs ys
    obtain ⟨xs', rfl, rx'⟩ := rx.of_agg
    obtain ⟨ys', rfl, ry'⟩ := ry.of_agg
    split at hv
    · cases hv
    · rename_i hg
      rw [Sem.run_bind, run_guard_agg hg, Result.andThen_ok]
      split at hv
      · obtain ⟨r, hr, rfl⟩ := Option.map_eq_some_iff.1 hv
        have := aEq_sound (w := w) 30 hr rx ry Op.maxDepth (by decide)
        refine ⟨?_, rfl⟩
        simp [binOp, Op.equal, this]
      · obtain ⟨r, hr, rfl⟩ := Option.map_eq_some_iff.1 hv
        have := aEq_sound (w := w) 30 hr rx ry Op.maxDepth (by decide)
        refine ⟨?_, rfl⟩
        simp [binOp, Op.equal, this]
      · cases hv
  · split at hv
    · cases hv
    · rename_i hk
      simp only [Bool.and_eq_true] at hk
      have hx := rx.eqKind hk.1
      have hy := ry.eqKind hk.2
      rw [Sem.run_bind, run_guard_of (.inl hx), Result.andThen_ok]
      split at hv
      · obtain ⟨r, hr, rfl⟩ := Option.map_eq_some_iff.1 hv
        have := aEq_sound (w := w) 30 hr rx ry Op.maxDepth (by decide)
        refine ⟨?_, rfl⟩
        simp [binOp_eql hx hy, Op.equal, this]
      · obtain ⟨r, hr, rfl⟩ := Option.map_eq_some_iff.1 hv
        have := aEq_sound (w := w) 30 hr rx ry Op.maxDepth (by decide)
        refine ⟨?_, rfl⟩
        simp [binOp_neq hx hy, Op.equal, this]
      · cases hv

theorem aUn_sound {op : UnOp} {x x' v : Value} (hv : aUn op x = some v) (rx : VRel m h x x') : (Op.unary op x').run P w = .ok v w ∧ AI.flat v = true := by
  unfold aUn at hv
  split at hv
  · obtain rfl := rx.of_bool; cases hv; exact ⟨rfl, rfl⟩
  · obtain rfl := rx.of_int; cases hv; exact ⟨by simp [Op.unary, Op.intArith, wrapF_eq], rfl⟩
  · cases hv
theorem aConv_sound {src dst : TypeId} {x x' v : Value} (hv : aConv P src dst x = some v) (rx : VRel m h x x') : (convert src dst x').run P w = .ok v w ∧ AI.flat v = true := by
  unfold aConv at hv
  split at hv
  · rename_i hs hd; obtain rfl := rx.of_int; cases hv
    exact ⟨by simp [convert, run_under hs, run_under hd, Conv.intToInt, wrapF_eq], rfl⟩
  · rename_i hs hd; obtain rfl := rx.of_string; cases hv
    exact ⟨by simp [convert, run_under hs, run_under hd], rfl⟩
  · cases hv
end
end Go.Proofs.Ytjecepaaalfilaa.AI
