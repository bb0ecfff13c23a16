/- links.of: its runs. -/
import Derived.Test.YtgeoommlmddgpaaXaI
import Derived.Test.YtgeoommlmddgpaaRows
set_option linter.unusedVariables false
set_option linter.unusedSimpArgs false
set_option maxRecDepth 100000
namespace Go.Proofs.Ytgeoommlmddgpaa.LtL
open Go Go.Proofs Go.Proofs.Ytgeoommlmddgpaa.AI Go.RowKit Go.Proofs.Ytgeoommlmddgpaa.Sort Go.Proofs.Ytgeoommlmddgpaa.LtA

section
variable (f fu fi : Bool) (o U I : Blk) (n c u i k q j : Nat) (d : Int) (x own : ViewV) (us ws zs : List ViewV) (ids : List Int) (g : Nat → Value)
end
end Go.Proofs.Ytgeoommlmddgpaa.LtL
namespace Go.Proofs.Ytgeoommlmddgpaa.LtL
open Go Go.Proofs Go.Proofs.Ytgeoommlmddgpaa.AI Go.RowKit Go.Proofs.Ytgeoommlmddgpaa.Sort Go.Proofs.Ytgeoommlmddgpaa.LtA

/-! ### F19 -/
section
variable (fi : Bool) (o I : Blk) (own : ViewV) (n c k : Nat)
end
/-! ### F20 -/
section
variable (fi : Bool) (o I : Blk) (own : ViewV) (n c k : Nat)
end
/-! ### Next -/
section
variable (o I : Blk) (own : ViewV) (n c k : Nat) (z : Int)
end
end Go.Proofs.Ytgeoommlmddgpaa.LtL
namespace Go.Proofs.Ytgeoommlmddgpaa.LtL
open Go Go.Proofs Go.Proofs.Ytgeoommlmddgpaa.AI Go.RowKit Go.Proofs.Ytgeoommlmddgpaa.Sort Go.Proofs.Ytgeoommlmddgpaa.LtA

def g16 : List Value → Option Value
  | [] => some (.bool true)
  | _ => none
theorem awake_run : (aCall Try.prog (extOf Try.prog) 4000 19 [] hp0).map (fun r => r.1) = some (.bool true) := by kernel_rfl
theorem hk16 : HookGoal Try.prog 19 g16 := hook_of (ext := extOf Try.prog) (extOf_ok _) follows Try.func19 (by kernel_rfl) fun args v h => by
  unfold g16 at h
  split at h
  · cases h
    obtain ⟨⟨u, hp⟩, h1, h2⟩ := Option.map_eq_some_iff.1 awake_run
    simp only at h2
    subst h2
    exact ⟨rfl, rfl, _, hp, h1⟩
  · cases h
section
variable (f fa fb b lb : Bool) (o A B B1 B2 : Blk) (n c i q ka kb : Nat) (z : Int) (x y own : ViewV) (w1 w2 : Value) (g : Nat → Value)
def h4 (o : Blk) (own : ViewV) : Hp := heapOf ([o, hB own] ++ [.dead]) hp0
end
end Go.Proofs.Ytgeoommlmddgpaa.LtL
namespace Go.Proofs.Ytgeoommlmddgpaa.LtL
open Go Go.Proofs Go.Proofs.Ytgeoommlmddgpaa.AI Go.RowKit Go.Proofs.Ytgeoommlmddgpaa.Sort Go.Proofs.Ytgeoommlmddgpaa.LtA

theorem tn_vS {f : Bool} {vs : List ViewV} {o : Blk} {c : Nat} {hp : Hp} (ho : inertB o = true) (hrow : vs = [] ∨ ∃ ty ro, o = .cells ty (vrow vs) ro) (hfl : f = false → vs = [] ∧ o = .dead) (hg : hp.get 0 = some o) : TN vs (vS f 0 vs.length c) hp := by
  cases f with
  | true => exact .inr ⟨0, c, o, rfl, hg, ho, hrow⟩
  | false => exact .inl ⟨rfl, (hfl rfl).1⟩
end Go.Proofs.Ytgeoommlmddgpaa.LtL
namespace Go.Proofs.Ytgeoommlmddgpaa.LtL
open Go Go.Proofs Go.Proofs.Ytgeoommlmddgpaa.AI Go.RowKit Go.ChangeShapes Go.Proofs.Ytgeoommlmddgpaa.LtA

theorem valw_max {w : World} {r : Reach} {base : Nat} {a : Addr} {n c : Nat} (h : Value.okWide Try.prog w r base 22 (.slice (some a) n c)) : n ≤ 9223372036854775807 := by
  unfold Value.okWide at h
  rw [Try.underlying22] at h
  have h' : Cell.okWide Try.prog w r base 22 (.slice (some a) n c) := h
  unfold Cell.okWide at h'
  rw [Try.underlying22] at h'
  have h2 : Cell.ok Try.prog w r base 22 (.slice (some a) n c) := h'
  unfold Cell.ok at h2
  rw [Try.underlying22] at h2
  obtain ⟨h1, h3, -⟩ := h2
  have h4 : (c : Int) ≤ 9223372036854775807 := h3
  omega
/-- A row of whatever length, opened. -/
theorem row_argF {H : Type} {enc : TypeId × Value → H} {W : World} {base : Nat} {v : Value} {d : DataW H} {p : List MemPlace} (hval : Value.okWide Try.prog W .any base 22 v) (hT : ∃ fuel, DataW.trod enc Try.prog W 0 (fun _ => true) true fuel 22 v.cells.toList = some (d, p)) :
    ∃ (f : Bool) (o : Blk) (vs : List ViewV) (m : BM), inertB o = true ∧ Sim m (heapOf [o, .dead] hp0).get W ∧ (∀ b, rw? (heapOf [o, .dead] hp0).get b = false) ∧ VRel m (heapOf [o, .dead] hp0).get (vS f 0 vs.length 2) v ∧
      vs.length ≤ 9223372036854775807 ∧ (vs = [] ∨ ∃ ty ro, o = .cells ty (vrow vs) ro) ∧ (f = false → vs = [] ∧ o = .dead) := by
  rcases valw_slice Try.underlying22 hval with rfl | ⟨r, off, n, c, rfl, hn⟩
  · exact ⟨false, .dead, [], bm0, rfl, sim_bm0, ro2_dead, .flat rfl, by simp, .inl rfl, fun _ => ⟨rfl, rfl⟩⟩
  · have hmax := valw_max hval
    by_cases hd : n = 0
    · subst hd
      exact ⟨true, .dead, [], bm0, rfl, sim_bm0, ro2_dead, .slice (.of hn (by decide)) (.inl (by rw [heapOf0_get]; rfl)), by simp, .inl rfl, fun h => by cases h⟩
    · obtain ⟨fuel, hT⟩ := hT
      have hT' : DataW.trod enc Try.prog W 0 (fun _ => true) true fuel 22 [.slice (some ⟨r, off, none⟩) n c] = some (d, p) := by simpa [Value.cells] using hT
      obtain ⟨ps, arr, ty, fr, hl, hcell, hlen, hv⟩ := vrow_of hT' (by omega)
      have hin := vrow_inert ps
      refine ⟨true, .cells ty (vrow ps) true, ps, _, hin, sim_dead (row_sim (k := 7) (n := n) hcell hlen hin hv), ro2_cells, ?_, by omega, .inr ⟨ty, true, rfl⟩, fun h => by cases h⟩
      rw [hl]
      refine .slice (.of hn (by decide)) (.inr ⟨off, arr.size, rfl, .inl rfl, ?_⟩)
      constructor <;> intro h <;> simp at h
end Go.Proofs.Ytgeoommlmddgpaa.LtL
namespace Go.Proofs.Ytgeoommlmddgpaa.LtL
open Go Go.Proofs Go.Proofs.Ytgeoommlmddgpaa.AI Go.RowKit Go.Proofs.Ytgeoommlmddgpaa.Sort Go.Proofs.Ytgeoommlmddgpaa.LtA

theorem wrap_dnM {i : Nat} (h : i + 1 ≤ 9223372036854775807) : (some (Value.int .i64 (wrapF .i64 (Int.ofNat (i + 1) - 1)))) = some (iN i) := by
  have e : Int.ofNat (i + 1) - 1 = Int.ofNat i := by simp only [Int.ofNat_eq_natCast]; omega
  rw [e, wrap64 (by have := Int.natCast_nonneg i; simp only [Int.ofNat_eq_natCast]; omega) (by simp only [Int.ofNat_eq_natCast]; omega)]
  rfl
theorem check_frM (o : Blk) (ho : inertB o = true) (vs : List ViewV) (hn : vs.length ≤ 9223372036854775807) (hrow : vs = [] ∨ ∃ ty ro, o = .cells ty (vrow vs) ro) (c : Nat) (W : Base) :
    FRwp Try.prog 34 W (.seq c18a (.seq (.seq c18b (.block 0 (.loop c18c))) c18d)) (B18 o vs.length c) (fun e st => (e = .normal ∨ e = .ret) ∧ st.df = [] ∧ retVal Try.prog Try.f24 st = some (errI (rightB vs))) := by
  have hO := fixO ho
  refine FRwp.seq (Q1 := fun x st => x = .normal ∧ ∃ g, st = A18 o vs.length c g) (FRwp.piece cE_ok follows 1 _ _ _ _ (r18a o vs.length c) Met.nil s18a rfl rfl rfl (hO _) fun g => ⟨rfl, g, rfl⟩) ?_ (fun x st hne hq => absurd hq.1 hne)
  rintro st ⟨-, g, rfl⟩
  let Q2 : Exit → St → Prop := fun x st => (x = .normal ∧ ∃ g, st = A18 o vs.length c g ∧ rightB vs = true) ∨ (x = .ret ∧ ∃ g, st = R18 o (iN 1) g ∧ rightB vs = false)
  refine FRwp.seq (Q1 := Q2) ?_ ?_ ?_
  · refine FRwp.seq (Q1 := fun x st => x = .normal ∧ ∃ g, st = L18 o vs.length c 0 g) (FRwp.piece cE_ok follows 1 _ _ _ _ (r18b o vs.length c g) Met.nil s18b rfl rfl rfl (hO _) fun g => ⟨rfl, g, rfl⟩) ?_ (fun x st hne hq => absurd hq.1 hne)
    rintro st ⟨-, g, rfl⟩
    refine FRwp.block ?_
    refine FRwp.loop (fun k st => ∃ i g, i ≤ vs.length ∧ k = vs.length - i ∧ (∀ j, j < i → rightAt vs j = true) ∧ st = L18 o vs.length c i g) ?_ (k := vs.length) ⟨0, g, Nat.zero_le _, rfl, fun j hj => absurd hj (Nat.not_lt_zero _), rfl⟩
    rintro k st ⟨i, g, hi, hk, hgood, rfl⟩
    cases h8 : decide (Int.ofNat i < Int.ofNat vs.length) with
    | false =>
      refine FRwp.piece cE_ok follows 1 _ _ _ _ (r18x o vs.length c i g) (Met.cons (met_bool h8) Met.nil) s18c rfl rfl rfl (hO _) fun g' => .inr ⟨by simp, ?_⟩
      show (if (0 : Nat) = 0 then Q2 .normal _ else Q2 (.exit 0) _)
      rw [if_pos rfl]
      have hii : i = vs.length := by simp at h8; omega
      exact .inl ⟨rfl, g', rfl, rightB_of fun j hj => hgood j (by omega)⟩
    | true =>
      have hlt : i < vs.length := by simpa using h8
      obtain ⟨v, hv⟩ : ∃ v, vs[i]? = some v := ⟨_, List.getElem?_eq_getElem hlt⟩
      have hvm : v ∈ vs := List.mem_of_getElem? hv
      have hr : ∃ ty ro, o = .cells ty (vrow vs) ro := by
        rcases hrow with h | h
        · subst h; cases hvm
        · exact h
      have hmet : Met (owe18 o vs.length c i v) := Met.cons (met_bool h8) (Met.cons (LtA.vidx_ok hlt) (Met.cons (LtA.vload_ok (rowAt0 hr) hv) Met.nil))
      have hret : ∀ g', rightAt vs i = false → (Exit.ret = Exit.normal ∧ ∃ k', k' < k ∧ ∃ i g, i ≤ vs.length ∧ k' = vs.length - i ∧ (∀ j, j < i → rightAt vs j = true) ∧ R18 o (iN 1) g' = L18 o vs.length c i g) ∨ (Exit.ret ≠ Exit.normal ∧ Q2 .ret (R18 o (iN 1) g')) := fun g' h => .inr ⟨by simp, .inr ⟨rfl, g', rfl, rightB_not hlt h⟩⟩
      have hnext : rightAt vs i = true → ∀ j, j < i + 1 → rightAt vs j = true := fun h j hj => by
        rcases Nat.lt_succ_iff_lt_or_eq.1 hj with h' | h'
        · exact hgood j h'
        · subst h'; exact h
      cases h16 : oneV v with
      | false => exact FRwp.piece cE_ok follows 1 _ _ _ _ (r18f o vs.length c i v g) (met_app hmet (Met.cons (met_bool h16) Met.nil)) s18c rfl rfl rfl (hO _) fun g' => hret g' (by simp only [rightAt, hv, h16, Bool.false_and])
      | true =>
        match i, hi, hk, hgood, h8, hlt, hv, hmet, hret, hnext with
        | 0, hi, hk, hgood, h8, hlt, hv, hmet, hret, hnext =>
          refine FRwp.piece cE_ok follows 1 _ _ _ _ (r18g o vs.length c v g) (met_app hmet (Met.cons (met_bool h16) (Met.cons (wrap_max (by omega)) Met.nil))) s18c rfl rfl rfl (hO _) fun g' => .inl ⟨rfl, vs.length - 1, by omega, 1, g', by omega, rfl, hnext (by simp only [rightAt, hv, h16, Bool.true_and]), rfl⟩
        | j + 1, hi, hk, hgood, h8, hlt, hv, hmet, hret, hnext =>
          obtain ⟨u, hu⟩ : ∃ u, vs[j]? = some u := ⟨_, List.getElem?_eq_getElem (by omega)⟩
          have hpre : Met (pre18 o vs.length c j u v) := met_app hmet (Met.cons (met_bool h16) (Met.cons (met_bool (decide_eq_true (by simp only [Int.ofNat_eq_natCast]; omega))) (Met.cons (wrap_dnM (by omega)) (Met.cons (LtA.vidx_ok (by omega)) (Met.cons (vcell_ok (rowAt0 hr) hu) Met.nil)))))
          cases h30 : decide (u.id ≥ v.id) with
          | true => exact FRwp.piece cE_ok follows 1 _ _ _ _ (r18h o vs.length c j u v g) (met_app hpre (Met.cons (met_bool h30) Met.nil)) s18c rfl rfl rfl (hO _) fun g' => hret g' (by simp only [rightAt, hv, hu, h16, Bool.true_and]; have := of_decide_eq_true h30; exact decide_eq_false (by omega))
          | false =>
            refine FRwp.piece cE_ok follows 1 _ _ _ _ (r18i o vs.length c j u v g) (met_app hpre (Met.cons (met_bool h30) (Met.cons (wrap_max (by omega)) Met.nil))) s18c rfl rfl rfl (hO _) fun g' => .inl ⟨rfl, vs.length - (j + 1 + 1), by omega, j + 1 + 1, g', by omega, rfl, hnext (by simp only [rightAt, hv, hu, h16, Bool.true_and]; have := of_decide_eq_false h30; exact decide_eq_true (by omega)), rfl⟩
  · rintro st (⟨-, g, rfl, hf⟩ | ⟨h, -⟩)
    · refine FRwp.piece cE_ok follows 1 _ _ _ _ (r18d o vs.length c g) Met.nil s18d rfl rfl rfl (hO _) fun g' => ⟨.inr rfl, rfl, ?_⟩
      rw [hf]
      exact q18 o _ g'
    · cases h
  · rintro x st hne (⟨h, -⟩ | ⟨rfl, g, rfl, hf⟩)
    · exact absurd h hne
    · refine ⟨.inr rfl, rfl, ?_⟩
      rw [hf]
      exact q18 o _ g
open Classical in
/-- Told at whatever row that P is true of. -/
noncomputable def toldQ (P : List ViewV → Prop) (A : List ViewV → Ans) : HeapFn := fun args hp => match args with
  | s :: _ => if h : ∃ vs, TN vs s hp ∧ P vs then rowG h.choose (A h.choose) args hp else none
  | _ => none
theorem toldQ_goal {P : List ViewV → Prop} {f : FuncId} {fn : Func} {code : Code} {N : Nat} {A : List ViewV → Ans} (hf : Try.prog.funcs[f]? = some fn) (hb : fn.body = some code) (hnm : (fn.name == "runtime.NumGoroutine") = false) (hN : fn.ntmps = N)
    (H : ∀ vs, P vs → ∀ rest v0 O, A vs rest = some (v0, O) → RowRun fn code N vs rest v0 O) : CallGoal Try.prog f (toldQ P A) := by
  intro args hp v hp' he hk
  unfold toldQ at he
  split at he
  case h_2 => cases he
  split at he
  · rename_i hx
    exact row_told hf hb hnm hN (H _ hx.choose_spec.2) _ _ _ _ he hk
  · cases he
def ckR (vs : List ViewV) : Ans := fun rest => match rest with
  | [] => some (errI (rightB vs), [])
  | _ => none
def Long (vs : List ViewV) : Prop := vs.length ≤ 9223372036854775807
noncomputable def G18M : HeapFn := toldQ Long ckR
theorem hkG18M : CallGoal Try.prog 24 G18M := toldQ_goal Try.func24 body18 (by kernel_rfl) ntmps18 fun vs hn rest v0 O h => by
  unfold ckR at h
  split at h
  case h_2 => cases h
  cases h
  refine ⟨.inl rfl, (errI_ok _).1, (fun r hr => by cases hr), by simp, fun f o c W ho hrow hfl => ?_⟩
  cases f with
  | true => exact FRwp.mono (check_frM o ho vs hn hrow c W) fun e st q => ⟨q.1, q.2.1, q.2.2, (fun B hB => by cases hB)⟩
  | false =>
    obtain ⟨rfl, rfl⟩ := hfl rfl
    exact FRwp.mono (check_nil W) fun e st q => ⟨q.1, q.2.1, q.2.2, (fun B hB => by cases hB)⟩
/-! ### Set, at a row that is not right -/
section
variable (o : Blk) (n c : Nat) (y : ViewV)
end
end Go.Proofs.Ytgeoommlmddgpaa.LtL
namespace Go.Proofs.Ytgeoommlmddgpaa.LtL
open Go Go.Proofs Go.Proofs.Ytgeoommlmddgpaa.AI Go.RowKit Go.Proofs.Ytgeoommlmddgpaa.Sort Go.Proofs.Ytgeoommlmddgpaa.LtA

section
variable (f fa fb fm fr b b1 dn lb : Bool) (o A B C R : Blk) (n c i j q m cm ka kb kr e : Nat) (z zz : Int) (x y own yl : ViewV) (ids : List Int) (g : Nat → Value)
end
end Go.Proofs.Ytgeoommlmddgpaa.LtL
namespace Go.Proofs.Ytgeoommlmddgpaa.LtL
open Go Go.Proofs Go.Proofs.Ytgeoommlmddgpaa.AI Go.RowKit Go.Proofs.Ytgeoommlmddgpaa.Sort Go.Proofs.Ytgeoommlmddgpaa.LtA

end Go.Proofs.Ytgeoommlmddgpaa.LtL
