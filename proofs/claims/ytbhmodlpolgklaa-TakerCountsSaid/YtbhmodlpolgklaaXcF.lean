/- TakerCounts: for every batches the law returns true, and the arguments read asv they did. No condition. -/
import Derived.Test.YtbhmodlpolgklaaXcE
import Derived.Shelf.SlIterI.Collect
import Derived.Test.YtbhmodlpolgklaaRows
set_option linter.unusedVariables false
set_option linter.unusedSimpArgs false
set_option maxRecDepth 100000
namespace Go.Proofs.Ytbhmodlpolgklaa.Tk
open Go Go.Proofs Go.Proofs.Ytbhmodlpolgklaa.AI Go.RowKit Go.Shelf
instance DF : Inhabited Prop := ⟨False⟩
def addL (m : BM) (g off : Nat) (ty : TypeId) (cs : List Value) : BM := ⟨m.loc, fun r o t c => m.lit r o t c ∨ (r = g ∧ o = off ∧ t = ty ∧ c = cs)⟩
theorem go_lit {m : BM} {h : HG} {w w' : World} (s : Sim m h w) (b : Bel w.heap.size w w') {g off : Nat} {ty : TypeId} {cs : List Value} (hg : w.heap.size ≤ g)
    (hl : ∃ c fr, w'.heap[g]? = some (.cells c ty fr) ∧ off + cs.length ≤ c.size ∧ ∀ (i : Nat) (v v' : Value), cs[i]? = some v → c[off + i]? = some v' → AI.flat v = true ∧ v' = v) :
    Go1 m h w (addL m g off ty cs) h w' := by
  have le : Le m h (addL m g off ty cs) h := ⟨fun _ hd => hd, fun _ _ hx => .inr hx, fun _ _ _ _ q => .inl q⟩
  have s' := (go_below s b).sim
  have hlt : ∀ r, m.lrow r → r < w.heap.size := fun r ⟨o, t, c, q⟩ => (s.lit r o t c q).lt
  refine ⟨le, ⟨⟨fun c x hx => ?_, s'.inj⟩, fun r o t c q => ?_, fun r q c x hx hr => ?_⟩, b.size, fun _ _ hx => .inl hx, fun r hr _ => b.block r hr, fun _ _ _ hm => hm, fun _ _ ho _ => ho, fun _ o ho => ⟨o, ho⟩, fun _ _ _ hr => hr, b.os, b.tape, b.output, fun r q => ?_⟩
  · obtain ⟨o, ho, hr⟩ := s'.dom c x hx
    exact ⟨o, ho, hr.mono le rfl⟩
  · rcases q with q | ⟨rfl, rfl, rfl, rfl⟩
    · exact (s'.lit r o t c q).mono le.lit rfl
    · obtain ⟨c', fr, h1, h2, h3⟩ := hl
      refine ⟨c', fr, h1, h2, fun i v v' q1 q2 => ?_⟩
      obtain ⟨q3, rfl⟩ := h3 i v v' q1 q2
      exact .flat q3
  · have hlv : live? h c = true := by
      unfold rw? at hr; unfold live?
      cases e : h c with
      | none => rw [e] at hr; cases hr
      | some o => cases o <;> simp_all
    have hx' := s.lt hx hlv
    rcases q with ⟨o, t, cc, q | ⟨rfl, -⟩⟩
    · exact s.ice r ⟨o, t, cc, q⟩ c x hx hr
    · omega
  · rcases q with ⟨o, t, cc, q | ⟨rfl, -⟩⟩
    · exact .inl ⟨o, t, cc, q⟩
    · exact .inr (.inl hg)
def kf : Nat → Nat
  | 7 => 25
  | 10 => 37
  | 8 => 24
  | 11 => 36
  | n => n
def kt : Nat → Nat
  | 23 => 63
  | 26 => 3
  | 3 => 25
  | 28 => 77
  | 24 => 23
  | 27 => 76
  | 33 => 90
  | n => n
def kR : Ren := ⟨kf, kt, fun n => n⟩
theorem L7 : SlLaysZI.n7 Try.prog kR where
  mixed := follows
  f7 := ⟨ "maps.Keys[map[int][]thalweg/api.Object,int,[]thalweg/api.Object]", by decide, by kernel_rfl⟩
  f10 := ⟨ "maps.Keys[map[int][]thalweg/api.Object,int,[]thalweg/api.Object]$1", by decide, by kernel_rfl⟩
  t0 := by kernel_rfl
  a0 := fun w => by kernel_rfl
  z0 := fun w => by kernel_rfl
  v0 := fun w => by kernel_rfl
  t4 := by kernel_rfl
  a4 := fun w => by kernel_rfl
  z4 := fun w => by kernel_rfl
  v4 := fun w => by kernel_rfl
  t23 := by kernel_rfl
  a23 := fun w => by kernel_rfl
  z23 := fun w => by kernel_rfl
  v23 := fun w => by kernel_rfl
  t26 := by kernel_rfl
  a26 := fun w => by kernel_rfl
  z26 := fun w => by kernel_rfl
  v26 := fun w => by kernel_rfl
  t27 := by kernel_rfl
  a27 := fun w => by kernel_rfl
  z27 := fun w => by kernel_rfl
  v27 := fun w => by kernel_rfl
  t28 := by kernel_rfl
  a28 := fun w => by kernel_rfl
  z28 := fun w => by kernel_rfl
  v28 := fun w => by kernel_rfl
  t33 := by kernel_rfl
  a33 := fun w => by kernel_rfl
  z33 := fun w => by kernel_rfl
  v33 := fun w => by kernel_rfl
theorem L8 : SlLaysZI.n8 Try.prog kR where
  mixed := follows
  f8 := ⟨ "slices.Collect[int]", by decide, by kernel_rfl⟩
  f11 := ⟨ "slices.AppendSeq[[]int,int]", by decide, by kernel_rfl⟩
  t0 := L7.t0
  a0 := L7.a0
  z0 := L7.z0
  v0 := L7.v0
  t26 := L7.t26
  a26 := L7.a26
  z26 := L7.z26
  v26 := L7.v26
  t28 := L7.t28
  a28 := L7.a28
  z28 := L7.z28
  v28 := L7.v28
  t24 := by kernel_rfl
  a24 := fun w => by kernel_rfl
  z24 := fun w => by kernel_rfl
  v24 := fun w => by kernel_rfl
  i26 := by kernel_rfl
def gKy : HeapFn
  | [.map (some mb)], hp => some (.func (.func 37) #[] #[.pointer (some ⟨hp.sz, 0, none⟩)], hp.push (.cells 63 [.map (some mb)] true))
  | _, _ => none
structure OkE (es : List (Value × Value × Nat)) (cl : Nat) : Prop where
  size : es.length ≤ 1000000
  born : ∀ e ∈ es, e.2.2 < cl
  bnd : (es.map (·.2.2)).Nodup
  knd : (es.map (·.1)).Nodup
  key : ∀ e ∈ es, ∃ k : Int, e.1 = .int .i64 k ∧ (Lit.int .i64 k).wf = true
open Classical in
noncomputable def gCe : HeapFn
  | [.func (.func f) a c], hp => match Nat.beq f 37, a.toList, c.toList with
    | true, [], [.pointer (some ⟨b, 0, none⟩)] => match hp.get b with
      | some (.cells _ [.map (some mb)] true) => match hp.get mb with
        | some (.map es cl _) => if OkE es cl then some (match es with
          | [] => nilS
          | _ => BAG es.length 3 (es.map (·.1)), hp) else none
        | _ => none
      | _ => none
    | _, _, _ => none
  | _, _ => none
theorem hkKy : CallGoal Try.prog 25 gKy := by
  intro args hp v hp' he hk
  unfold gKy at he
  split at he
  case h_2 => cases he
  rename_i mb
  cases he
  refine ⟨hk.push _, by rw [Hp.sz_push]; omega, fun m h w args' hfr s ra => .inr ⟨L7.f7.enters rfl _ _, ?_⟩⟩
  obtain ⟨v', bs, e1, r1, r2⟩ := ra.of_cons
  have e2 := r2.of_nil
  subst e2
  have hs : ovr hp h hp.sz = none := by
    unfold ovr; rw [if_neg (by omega)]
    exact hfr _ (Nat.le_refl _) (by rw [Hp.sz_push]; omega)
  cases r1 with
  | flat hf => cases hf
  | @map _ rm h1 =>
    have ea : args' = #[.map (some rm)] := by cases args'; simp_all
    subst ea
    refine (callsIn_wide.1 (AnyZI.keys_in L7 Fence.wide 5 trivial rfl (some rm) w)).mono fun e w' hh => ?_
    obtain ⟨rfl, rfl⟩ := hh
    refine ⟨_, rfl, updM m hp.sz (w.heap.size, 0, 1), ?_, ?_⟩
    · rw [← ovr_push]
      refine go_new s (Bel.of ((Below.refl _ w).alloc (Nat.le_refl _) _) (fun _ => Nat.le_refl _)) hs (Nat.le_refl _) fun m' h' l => ?_
      refine ⟨#[.map (some rm)], (0, 0), by show (w.heap.push _)[_]? = _; simp; rfl, by simp, by simp, fun i v v' q1 q2 => ?_, (fun hr => by cases hr), fun _ _ => rfl⟩
      have hi : i = 0 := by
        have := (List.getElem?_eq_some_iff.1 q1).1
        simp at this; exact this
      subst hi
      simp at q1 q2
      subst q1; subst q2
      exact (VRel.map h1).mono l
    · refine .func rfl (fun i v v' q1 _ => by simp at q1) rfl fun i v v' q1 q2 => ?_
      have hi : i = 0 := by
        have := (Array.getElem?_eq_some_iff.1 q1).1
        simp at this; exact this
      subst hi
      simp at q1 q2
      subst q1; subst q2
      exact .ptr (.inr ⟨0, 1, by simp [updM], rfl⟩)
theorem noDr {w w' : World} : Dr → w.drawn ≤ w'.drawn := fun d => (show False from d).elim
theorem keyOf_int {k : Int} (hw : (Lit.int .i64 k).wf = true) : keyOf Try.prog 3 (.int .i64 k) = some (.int .i64 k) := by
  have hk : Try.prog.underlying 3 = some (.int .i64) := L7.t26
  unfold keyOf
  rw [hk]
  simp [mapKey, hk, hw]
abbrev R0 : Value → Option (DataW Unit × List MemPlace) := fun _ => some (.nil, [])
theorem own_of {m : BM} {h : HG} {w : World} {rm cl : Nat} {es : List (Value × Value × Nat)} {fs : Array MapEntry} (hw : w.heap[rm]? = some (.map fs cl)) (hE : ERel m h es fs) (ok : OkE es cl) :
    ∃ D : DataW Unit, w.ownsMap Try.prog 3 R0 rm es.length D ∧ Maps.size D = es.length ∧ ((intKeys D).map encZ).Perm (es.map (·.1)) := by
  obtain ⟨h1, h2⟩ := hE
  have hfs : fs.toList.map (·.key) = es.map (·.1) := by
    apply List.ext_getElem?
    intro i
    rw [List.getElem?_map, List.getElem?_map]
    cases e : es[i]? with
    | none => rw [List.getElem?_eq_none (by have := List.getElem?_eq_none_iff.1 e; simpa [← h1] using this)]; rfl
    | some x =>
      have hi : i < fs.size := by have := (List.getElem?_eq_some_iff.1 e).1; omega
      have hf : fs[i]? = some fs[i] := Array.getElem?_eq_getElem hi
      rw [Array.getElem?_toList, hf]
      exact congrArg some (h2 i x fs[i] e hf).2.1
  have hfb : fs.toList.map (·.born) = es.map (·.2.2) := by
    apply List.ext_getElem?
    intro i
    rw [List.getElem?_map, List.getElem?_map]
    cases e : es[i]? with
    | none => rw [List.getElem?_eq_none (by have := List.getElem?_eq_none_iff.1 e; simpa [← h1] using this)]; rfl
    | some x =>
      have hi : i < fs.size := by have := (List.getElem?_eq_some_iff.1 e).1; omega
      have hf : fs[i]? = some fs[i] := Array.getElem?_eq_getElem hi
      rw [Array.getElem?_toList, hf]
      exact congrArg some (h2 i x fs[i] e hf).2.2.2
  have hrd : ∀ f ∈ fs.toList, ∃ k : Int, f.key = .int .i64 k ∧ WideElems.rd Try.prog 3 R0 f = some (.int .i64 k, .nil) := by
    intro f hf
    have hm : f.key ∈ es.map (·.1) := hfs ▸ List.mem_map_of_mem hf
    obtain ⟨e, he, hfe⟩ := List.mem_map.1 hm
    obtain ⟨k, hk, hwf⟩ := ok.key e he
    refine ⟨k, by rw [← hfe, hk], ?_⟩
    unfold WideElems.rd
    rw [← hfe, hk, keyOf_int hwf]
    rfl
  refine ⟨_, ⟨fs, cl, hw, ⟨by rw [← h1]; exact Nat.le_trans ok.size (by decide), (MapKept.stamped_iff _ _).2 ⟨fun x hx => ?_, by rw [hfb]; exact ok.bnd, ?_⟩, fun x hx => ?_⟩, by omega, rfl⟩, ?_, ?_⟩
  · have hm : x.born ∈ es.map (·.2.2) := hfb ▸ List.mem_map_of_mem hx
    obtain ⟨e, he, hfe⟩ := List.mem_map.1 hm
    rw [← hfe]; exact ok.born e he
  · have := ok.knd
    rw [← hfs] at this
    exact List.pairwise_map.1 this
  · obtain ⟨k, _, h⟩ := hrd x hx
    exact ⟨_, h⟩
  · show (List.foldr DataW.insert [] _).length = _
    rw [DataW.length_sorted, List.length_map, Array.length_toList, h1]
  · show (((List.foldr DataW.insert [] (fs.toList.map (WideElems.rg Try.prog 3 R0))).map fun (p : Lit × DataW Unit) => Go.intOf p.1).map encZ).Perm _
    refine ((((WideShapes.sorted_perm _).map _).map _)).trans ?_
    rw [← hfs, List.map_map, List.map_map]
    refine List.Perm.of_eq (List.map_congr_left fun f hf => ?_)
    obtain ⟨k, h1, h2⟩ := hrd f hf
    show encZ (Go.intOf (WideElems.rg Try.prog 3 R0 f).1) = f.key
    rw [WideElems.rg_of h2, h1]; rfl
theorem hkCe : CallGoal Try.prog 24 gCe := by
  intro args hp v hp' he hk
  unfold gCe at he
  split at he
  case h_2 => cases he
  rename_i f a c
  split at he
  case h_2 => cases he
  rename_i b hf0 ha0 hc0
  have hf := Nat.eq_of_beq_eq_true hf0
  subst hf
  split at he
  case h_2 => cases he
  rename_i ty mb hb
  split at he
  case h_2 => cases he
  rename_i es cl ro hmb
  split at he
  case isFalse => cases he
  rename_i ok
  cases he
  refine ⟨hk, Nat.le_refl _, fun m h w args' hfr s ra => .inr ⟨L8.f8.enters rfl _ _, ?_⟩⟩
  obtain ⟨v', bs, e1, r1, r2⟩ := ra.of_cons
  have e2 := r2.of_nil
  subst e2
  obtain ⟨a', c', rfl, ⟨q1, q2⟩, ⟨q3, q4⟩⟩ := r1.of_func
  have ea' : a' = #[] := by
    have : a.size = 0 := by rw [← Array.length_toList, ha0]; rfl
    exact Array.eq_empty_of_size_eq_zero (by omega)
  have hcs : c = #[.pointer (some ⟨b, 0, none⟩)] := Array.ext' hc0
  subst hcs
  obtain ⟨p, rfl⟩ : ∃ p, c' = #[p] := by
    obtain ⟨l⟩ := c'
    match l, q3 with
    | [p], _ => exact ⟨p, rfl⟩
  have hp1 := q4 0 _ p rfl rfl
  have hob := ovr_sub hk h b _ hb
  cases hp1 with
  | flat hf => cases hf
  | @ptr _ _ r off' h1 =>
    rcases h1 with h1 | ⟨δ, E, h1, h2⟩
    · rw [hob] at h1; cases h1
    · obtain ⟨cc, fr, g1, g2, g3, g4, g5⟩ := Sim.row (s := s) hob h1
      have hδ : δ = 0 := g5.2 rfl rfl
      subst hδ
      have g3' : E ≤ cc.size := g3
      have hlt : 0 < cc.size := by simp at g2; omega
      have hv := g4 0 (.map (some mb)) cc[0] rfl (by simp [hlt])
      cases hc : cc[0] with
      | map x =>
        rw [hc] at hv
        cases hv with
        | flat hf => cases hf
        | @map _ rm h3 =>
          have hom := ovr_sub hk h mb _ hmb
          rcases h3 with h3 | ⟨x, h3⟩
          · rw [hom] at h3; cases h3
          · obtain ⟨o, ho, hr⟩ := s.dom _ _ h3
            rw [hom] at ho; cases ho
            obtain ⟨fs, k1, k2⟩ := hr
            have hcell : w.cell? ⟨r, 0, none⟩ = some (.map (some rm)) := by rw [cell_of g1]; simp [hlt, hc]
            have hr : r < w.heap.size := (Array.getElem?_eq_some_iff.1 g1).1
            have ea : args' = #[.func (.func 37) #[] #[.pointer (some ⟨r, 0, none⟩)]] := by
              subst ea'; subst h2; exact Array.ext' e1
            subst ea
            obtain ⟨D, hown, hsz, hpm⟩ := own_of k1 k2 ok
            have hseq := AnyZI.keys_gives { L7 with } Fence.wide 3 trivial rfl (by omega) r rm es.length D w hr hcell hown
            have hmx : es.length ≤ maxLen := Nat.le_trans ok.size (by decide)
            refine (callsIn_wide.1 (AnyZI.collect_in L8 Fence.wide 5 trivial trivial rfl (by omega) 37 _ trivial (L7.f10.enters rfl) _ _ (by rw [hsz]; exact hmx) (by rw [hsz]; have := ok.size; omega) w hseq)).mono fun e w' hh => ?_
            obtain ⟨v, ss, rfl, hS, hrow, hnil, hbel⟩ := hh
            have hperm : (ss.map encZ).Perm (es.map (·.1)) := (hS.map encZ).trans hpm
            have hlen : ss.length = es.length := by simpa using hperm.length_eq
            refine ⟨v, rfl, ?_⟩
            cases es with
            | nil =>
              have : ss = [] := List.eq_nil_of_length_eq_zero hlen
              have hv := hnil.2 this
              subst hv
              exact ⟨m, go_below s (Bel.of hbel noDr), .flat rfl⟩
            | cons e0 es =>
              obtain ⟨-, hrow | ⟨g, cap, cur, rfl, hg, hcur, hcap, _, hsz', htake⟩⟩ := hrow
              · have := hnil.1 hrow.1
                subst this; simp at hlen
              · rw [Nat.mul_one] at htake
                refine ⟨addL m g 0 3 (ss.map encZ), go_lit s (Bel.of hbel noDr) hg ⟨cur, (0, 0), hcur, ?_, fun i v v' q1 q2 => ?_⟩, ?_⟩
                · have : (cur.toList.take ss.length).length = (ss.map encZ).length := by rw [htake]
                  simp at this ⊢; omega
                · have hi : i < ss.length := by have := (List.getElem?_eq_some_iff.1 q1).1; simpa using this
                  rw [← htake, List.getElem?_take, if_pos hi] at q1
                  rw [Nat.zero_add] at q2
                  rw [Array.getElem?_toList, q2] at q1
                  cases q1
                  have q3 : (ss.map encZ)[i]? = some v := by rw [← htake, List.getElem?_take, if_pos hi, Array.getElem?_toList, q2]
                  rw [List.getElem?_map] at q3
                  obtain ⟨z, _, rfl⟩ := Option.map_eq_some_iff.1 q3
                  exact ⟨rfl, rfl⟩
                · rw [hlen]
                  exact .bag (ds := ss.map encZ) (.inr ⟨rfl, rfl, rfl, rfl⟩) hperm.symm (by rw [← hlen]; simpa using hcap)
      | _ => rw [hc] at hv; cases hv
end Go.Proofs.Ytbhmodlpolgklaa.Tk
namespace Go.Proofs.Ytbhmodlpolgklaa.Tk
open Go Go.Proofs Go.Proofs.Ytbhmodlpolgklaa.AI Go.RowKit
def tkB (m : Nat) (nx : UN) (ro : Bool) : Blk := .cells 65 [.int .u32 (Int.ofNat 1), .int .i32 (Int.ofNat 0), .int .u32 (Int.ofNat 0), .map (some m), .int .i64 nx.1] ro
abbrev Ent := UN × List ObV × Nat
def enV (e : Ent) : Value × Value × Nat := (iZ e.1, LIT e.2.1.length 35 (e.2.1.flatMap obL), e.2.2)
abbrev esV (es : List Ent) : List (Value × Value × Nat) := es.map enV
theorem enV_inj {a b : Ent} (h : enV a = enV b) : a = b := by
  obtain ⟨a1, a2, a3⟩ := a
  obtain ⟨b1, b2, b3⟩ := b
  simp only [enV, iZ, LIT, Prod.mk.injEq, Value.int.injEq, true_and, Value.iface.injEq, Value.agg.injEq, Array.mk.injEq] at h
  obtain ⟨h1, ⟨h2, h3⟩, h4⟩ := h
  have e := obsOf_eq a2
  rw [h3, h2, obsOf_eq b2] at e
  cases e
  rw [Subtype.ext h1, h4]
theorem esV_inj : ∀ {a b : List Ent}, esV a = esV b → a = b
  | [], [], _ => rfl
  | [], _ :: _, h => by simp at h
  | _ :: _, [], h => by simp at h
  | x :: a, y :: b, h => by
    simp only [esV, List.map_cons, List.cons.injEq] at h
    rw [enV_inj h.1, esV_inj (a := a) (b := b) h.2]
theorem esV_inert (es : List Ent) : ((esV es).all fun e => inert e.2.1) = true := List.all_eq_true.2 fun e he => by
  obtain ⟨x, _, rfl⟩ := List.mem_map.1 he
  rfl
structure TkAt (hp : Hp) (b mb : Nat) (nx : UN) (es : List Ent) (cl : Nat) (ro ro' : Bool) : Prop where
  blk : hp.get b = some (tkB mb nx ro)
  map : hp.get mb = some (.map (esV es) cl ro')
theorem TkAt.ne {hp : Hp} {b mb : Nat} {nx : UN} {es : List Ent} {cl : Nat} {ro ro' : Bool} (h : TkAt hp b mb nx es cl ro ro') : b ≠ mb := by
  intro e; have := h.blk; rw [e, h.map] at this; cases this
abbrev TkF := List Value → UN → List Ent → Nat → Option (Nat → Value × List Blk)
noncomputable def theO {α : Type} (p : α → Prop) : Option α := by
  classical exact if h : ∃ a, p a then some h.choose else none
theorem theO_eq {α : Type} {p : α → Prop} {a : α} (h : p a) (u : ∀ b, p b → b = a) : theO p = some a := by
  unfold theO
  have hx : ∃ a, p a := ⟨a, h⟩
  rw [dif_pos hx]
  exact congrArg some (u _ hx.choose_spec)
theorem theO_some {α : Type} {p : α → Prop} {a : α} (h : theO p = some a) : p a := by
  unfold theO at h
  split at h
  · rename_i hx
    have := hx.choose_spec
    cases h
    exact this
  · cases h
def TkRoP (G : TkF) (b : Nat) (rest : List Value) (hp : Hp) (x : Value × Hp) : Prop := ∃ (mb : Nat) (nx : UN) (es : List Ent) (cl : Nat) (ro ro' : Bool) (r : Nat → Value × List Blk), TkAt hp b mb nx es cl ro ro' ∧ G rest nx es cl = some r ∧ x = ((r hp.sz).1, heapOf ((r hp.sz).2 ++ [.dead]) hp)
noncomputable def tkRo (G : TkF) : HeapFn := fun args hp => match args with
  | .pointer (some ⟨b, 0, none⟩) :: rest => theO (TkRoP G b rest hp)
  | _ => none
theorem TkAt.det {hp : Hp} {b mb mb2 : Nat} {nx nx2 : UN} {es es2 : List Ent} {cl cl2 : Nat} {ro ro' ro2 ro2' : Bool} (h : TkAt hp b mb nx es cl ro ro') (k : TkAt hp b mb2 nx2 es2 cl2 ro2 ro2') : mb = mb2 ∧ nx = nx2 ∧ es = es2 ∧ cl = cl2 := by
  have e := h.blk
  rw [k.blk] at e
  simp only [tkB, Option.some.injEq, Blk.cells.injEq, List.cons.injEq, Value.map.injEq, Value.int.injEq, true_and, and_true] at e
  obtain ⟨⟨rfl, hn⟩, rfl⟩ := e
  have e := h.map
  rw [k.map] at e
  simp only [Option.some.injEq, Blk.map.injEq] at e
  obtain ⟨he, rfl, -⟩ := e
  exact ⟨rfl, Subtype.ext hn.symm, (esV_inj he).symm, rfl⟩
theorem tkRo_of {G : TkF} {hp : Hp} {b mb : Nat} {rest : List Value} {nx : UN} {es : List Ent} {cl : Nat} {ro ro' : Bool} {r : Nat → Value × List Blk} (h : TkAt hp b mb nx es cl ro ro') (hr : G rest nx es cl = some r) :
    tkRo G (pb b 0 :: rest) hp = some ((r hp.sz).1, heapOf ((r hp.sz).2 ++ [.dead]) hp) := by
  refine theO_eq (p := TkRoP G b rest hp) ⟨_, _, _, _, _, _, _, h, hr, rfl⟩ ?_
  rintro x ⟨_, _, _, _, _, _, r2, h3, h4, rfl⟩
  obtain ⟨-, rfl, rfl, rfl⟩ := h.det h3
  rw [hr] at h4
  cases h4; rfl
theorem two_nodup {b mb : Nat} (wr : Bool) (h : b ≠ mb) : nodupO [some (b, wr), some (mb, wr)] := fun i j c w w' h1 h2 => by
  match i, j with
  | 0, 0 => rfl
  | 1, 1 => rfl
  | 0, 1 => simp at h1 h2; omega
  | 1, 0 => simp at h1 h2; omega
  | i + 2, _ => simp at h1
  | 0, j + 2 => simp at h2
  | 1, j + 2 => simp at h2
theorem tk_start {hp : Hp} {b mb : Nat} {nx : UN} {es : List Ent} {cl : Nat} {ro ro' : Bool} (h : TkAt hp b mb nx es cl ro ro') (wr : Bool) (rest : List Value) (hw : wr = true → ro = false ∧ ro' = false) :
    (∀ (i b' : Nat) (w : Bool), [some (b, wr), some (mb, wr)][i]? = some (some (b', w)) → (∃ o, hp.get b' = some o ∧ (w = true → o ≠ .dead) ∧ startOk o = true) ∧ Rch (pb b 0 :: rest) hp b') ∧
    pinHp [some (b, wr), some (mb, wr)] hp = heapOf [tkB 1 nx (!wr), .map (esV es) cl (!wr), .dead] hp0 := by
  have hne := h.ne
  refine ⟨fun i b' w h1 => ?_, ?_⟩
  · have r0 : Rch (pb b 0 :: rest) hp b := .arg (.head _) (by simp [nam2, nam1, pb])
    match i with
    | 0 =>
      simp at h1
      obtain ⟨rfl, rfl⟩ := h1
      exact ⟨⟨_, h.blk, fun _ => by simp [tkB], by cases ro <;> rfl⟩, r0⟩
    | 1 =>
      simp at h1
      obtain ⟨rfl, rfl⟩ := h1
      exact ⟨⟨_, h.map, fun _ => by simp, inert_start (esV_inert es)⟩, .blk r0 h.blk (by simp [tkB, namB, nam2, nam1])⟩
    | i + 2 => simp at h1
  · have e1 : sg0 [some (b, wr), some (mb, wr)] mb = 1 := by
      unfold sg0
      simp only [posO]
      have : Nat.beq b mb = false := by
        cases e : Nat.beq b mb with
        | false => rfl
        | true => exact absurd (Nat.eq_of_beq_eq_true e) hne
      simp [this, Nat.beq_refl]
    have e2 : mvB (sg0 [some (b, wr), some (mb, wr)]) (tkB mb nx ro) = tkB 1 nx ro := by
      simp only [tkB, mvB, List.map_cons, List.map_nil, mv2, mv1, e1]
    have e3 : mvB (sg0 [some (b, wr), some (mb, wr)]) (.map (esV es) cl ro') = .map (esV es) cl ro' := by
      show Blk.map ((esV es).map _) cl ro' = _
      rw [esV, List.map_map]
      rfl
    unfold pinHp
    simp only [List.map_cons, List.map_nil, pinB, h.blk, h.map, Option.getD_some, e2, e3]
    cases wr with
    | false => rfl
    | true => obtain ⟨rfl, rfl⟩ := hw rfl; rfl
theorem tkRoG {f : FuncId} {fn : Func} {code : Code} {G : TkF} (hf : Try.prog.funcs[f]? = some fn) (hb : fn.body = some code) (hnm : (fn.name == "runtime.NumGoroutine") = false)
    (H : ∀ rest nx es cl r, G rest nx es cl = some r → (∀ x ∈ rest, stayV x) ∧ rest.length + 1 ≤ fn.ntmps ∧
      ∀ b mb B g W X, FRm Try.prog fn.ntmps W 2 X code ⟨tmsOf (pb 0 0 :: rest) 0 .leaf, heapOf [tkB 1 nx true, .map (esV es) cl true, .dead] hp0, []⟩ (FinF Try.prog fn (EndQ [some (b, false), some (mb, false)] B [] (r B).2 (r B).1 g))) : CallGoal Try.prog f (tkRo G) := mem_goal follows hf hb hnm fun args hp v hp' h hk => by
  unfold tkRo at h
  split at h
  case h_2 => cases h
  rename_i b rest
  obtain ⟨mb, nx, es, cl, ro, ro', r, hat, hr, hx⟩ := theO_some h
  cases hx
  obtain ⟨h1, h2, h3⟩ := H rest nx es cl r hr
  obtain ⟨s1, s2⟩ := tk_start hat false rest (fun h => by cases h)
  refine ⟨[some (b, false), some (mb, false)], [], (r hp.sz).2, rfl, two_nodup _ hat.ne, s1, List.all_eq_true.2 fun x hx => ?_, by simpa using h2, fun W X => ?_⟩
  · rcases List.mem_cons.1 hx with rfl | hx
    · rfl
    · exact (h1 x hx).1
  · have e1 : sg0 [some (b, false), some (mb, false)] b = 0 := by simp [sg0, posO, Nat.beq_refl]
    have ea : (pb b 0 :: rest).map (mv3 (sg0 [some (b, false), some (mb, false)])) = pb 0 0 :: rest := by
      rw [List.map_cons, stay_map h1]
      simp [mv3, mv2, mv1, pb, e1]
    rw [show (Value.pointer (some ⟨b, 0, none⟩) :: rest) = pb b 0 :: rest from rfl, ea, s2]
    exact FRm.mono (h3 b mb hp.sz hp.get W X) fun e st q => EndQ.fin q
end Go.Proofs.Ytbhmodlpolgklaa.Tk
namespace Go.Proofs.Ytbhmodlpolgklaa.Tk
open Go Go.Proofs Go.Proofs.Ytbhmodlpolgklaa.AI Go.RowKit
structure OkN (es : List Ent) (cl : Nat) : Prop where
  size : es.length < 1000000
  born : ∀ e ∈ es, e.2.2 < cl
  bnd : (es.map (·.2.2)).Nodup
  knd : (es.map (·.1)).Nodup
theorem iZ_inj1 {a b : UN} (h : iZ a = iZ b) : a = b := by
  simp only [iZ, Value.int.injEq, true_and] at h
  exact Subtype.ext h
theorem esV_keys (es : List Ent) : (esV es).map (·.1) = (es.map (·.1)).map iZ := by rw [esV, List.map_map, List.map_map]; rfl
theorem OkN.ok {es : List Ent} {cl : Nat} (h : OkN es cl) : OkE (esV es) cl := by
  refine ⟨by rw [esV, List.length_map]; have := h.size; omega, fun e he => ?_, ?_, ?_, fun e he => ?_⟩
  · obtain ⟨x, hx, rfl⟩ := List.mem_map.1 he
    exact h.born x hx
  · rw [esV, List.map_map]; exact h.bnd
  · rw [esV_keys]
    exact List.pairwise_map.2 (h.knd.imp fun hne e => hne (iZ_inj1 e))
  · obtain ⟨x, hx, rfl⟩ := List.mem_map.1 he
    obtain ⟨⟨k, h1, h2⟩, _⟩ := x
    exact ⟨k, rfl, Bool.and_eq_true_iff.2 ⟨decide_eq_true (show (-9223372036854775808 : Int) ≤ k by omega), decide_eq_true (show k ≤ (9223372036854775807 : Int) by omega)⟩⟩
theorem gCe_of {b mb cl : Nat} {es : List Ent} {ty : TypeId} {ro : Bool} {hp : Hp} (hb : hp.get b = some (.cells ty [.map (some mb)] true)) (hm : hp.get mb = some (.map (esV es) cl ro)) (ho : OkE (esV es) cl) (h0 : 0 < es.length) :
    gCe [.func (.func 37) #[] #[pb b 0]] hp = some (BAG (es.map (·.1)).length 3 ((es.map (·.1)).map iZ), heapOf [] hp) := by
  unfold gCe
  simp only [pb, Nat.beq_refl, hb, hm, if_pos ho]
  cases es with
  | nil => simp at h0
  | cons e es =>
    show some (BAG (esV (e :: es)).length 3 ((esV (e :: es)).map (·.1)), hp) = _
    rw [esV_keys, esV, List.length_map, List.length_map]
    rfl
theorem gCe_nil {b mb cl : Nat} {ty : TypeId} {ro : Bool} {hp : Hp} (hb : hp.get b = some (.cells ty [.map (some mb)] true)) (hm : hp.get mb = some (.map [] cl ro)) :
    gCe [.func (.func 37) #[] #[pb b 0]] hp = some (nilS, heapOf [] hp) := by
  unfold gCe
  have ho : OkE [] cl := ⟨by simp, by simp, by simp, by simp, by simp⟩
  simp only [pb, Nat.beq_refl, hb, hm, if_pos ho]
  rfl
theorem tkO_ok (nx : UN) (es : List Ent) (cl : Nat) (ro : Bool) : ([tkB 1 nx ro, .map (esV es) cl ro].all okBlk) = true := by
  have h1 : okBlk (tkB 1 nx ro) = true := rfl
  have h2 : okBlk (.map (esV es) cl ro) = true := List.all_eq_true.2 fun e he => (inert_ok (List.all_eq_true.1 (esV_inert es) e he)).1
  rw [List.all_cons, h1, List.all_cons, h2]; rfl
theorem two_ro {b mb : Nat} : ∀ (i c : Nat), ([some (b, false), some (mb, false)] : Ks)[i]? ≠ some (some (c, true)) := fun i c h => by
  match i with
  | 0 => simp at h
  | 1 => simp at h
  | i + 2 => simp at h
theorem tkO_dead {nx : UN} {es : List Ent} {cl : Nat} {ro : Bool} : ∀ o ∈ [tkB 1 nx ro, .map (esV es) cl ro], o ≠ .dead := fun o ho => by
  simp only [List.mem_cons, List.not_mem_nil, or_false] at ho
  rcases ho with rfl | rfl
  · simp [tkB]
  · simp
noncomputable def EHe : Ext := extG (extH Try.prog []) [(25, gKy), (24, gCe), (23, gSo)]
theorem EHe_ok : ExtOk Try.prog EHe := extG_ok (extH_ok .nil) (.cons hkKy (.cons hkCe (.cons hkSo .nil)))
noncomputable def fbHe : Code := (Try.f12.body).getD .skip
theorem bodyHe : Try.f12.body = some fbHe := by kernel_rfl
theorem ntHe : Try.f12.ntmps = 16 := by kernel_rfl
theorem sHe : codeSafe Try.prog 16 fbHe = true := by kernel_rfl
abbrev HeT (nx : UN) (es : List Ent) (cl : Nat) (Q : Value → List Blk → List Nat → List Blk → Prop) : Prop := HT (gKy [.map (some 1)]) (heapOf [tkB 1 nx true, (.map (esV es) cl true), .dead] hp0) (.func (.func 37) #[] #[pb 3 0]) [.cells 63 [.map (some 1)] true] ∧ (HT (gCe [.func (.func 37) #[] #[pb 3 0]]) (heapOf [tkB 1 nx true, (.map (esV es) cl true), .dead, .cells 63 [.map (some 1)] true] hp0) (BAG ((es.map (·.1)).length) 3 ((es.map (·.1)).map iZ)) [] ∧ (HT (gSo [BAG ((es.map (·.1)).length) 3 ((es.map (·.1)).map iZ), .int .i64 nx.1]) (heapOf [tkB 1 nx true, (.map (esV es) cl true), .dead, .cells 63 [.map (some 1)] true] hp0) (.slice (some ⟨4, 0, none⟩) ((es.map (·.1)).length) 4) [(.cells 3 ((sortN nx.1 (es.map (·.1))).map iZ) false), .dead] ∧ ((some (.int .i64 nx.1) : Option Value) = some (.int .i64 nx.1) ∧ ((some (.int .i64 nx.1) : Option Value) = some (.int .i64 nx.1) ∧ (Q (.slice (some ⟨4, 0, none⟩) ((es.map (·.1)).length) 4) [tkB 1 nx true, (.map (esV es) cl true)] [4] [(.cells 3 ((sortN nx.1 (es.map (·.1))).map iZ) false)])))))
theorem He_e (nx : UN) (es : List Ent) (cl : Nat) (Q : Value → List Blk → List Nat → List Blk → Prop) : HeT nx es cl Q = RF Try.prog EHe Try.f12 60 fbHe ⟨tmsOf [pb 0 0] 0 .leaf, heapOf [tkB 1 nx true, .map (esV es) cl true, .dead] hp0, []⟩ (.h 7 (.func (.func 37) #[] #[pb 3 0]) [.cells 63 [.map (some 1)] true] (.h 8 (BAG ((es.map (·.1)).length) 3 ((es.map (·.1)).map iZ)) [] (.h 13 (.slice (some ⟨4, 0, none⟩) ((es.map (·.1)).length) 4) [(.cells 3 ((sortN nx.1 (es.map (·.1))).map iZ) false), .dead] (.stop 2 [4] [])))) Q := by kernel_rfl
abbrev HenT (nx : UN) (cl : Nat) (Q : Value → List Blk → List Nat → List Blk → Prop) : Prop := HT (gKy [.map (some 1)]) (heapOf [tkB 1 nx true, (.map [] cl true), .dead] hp0) (.func (.func 37) #[] #[pb 3 0]) [.cells 63 [.map (some 1)] true] ∧ (HT (gCe [.func (.func 37) #[] #[pb 3 0]]) (heapOf [tkB 1 nx true, (.map [] cl true), .dead, .cells 63 [.map (some 1)] true] hp0) (nilS) [] ∧ (HT (gSo [nilS, .int .i64 nx.1]) (heapOf [tkB 1 nx true, (.map [] cl true), .dead, .cells 63 [.map (some 1)] true] hp0) (nilS) [.dead] ∧ ((some (.int .i64 nx.1) : Option Value) = some (.int .i64 nx.1) ∧ ((some (.int .i64 nx.1) : Option Value) = some (.int .i64 nx.1) ∧ (Q (nilS) [tkB 1 nx true, (.map [] cl true)] [] [])))))
theorem Hen_e (nx : UN) (cl : Nat) (Q : Value → List Blk → List Nat → List Blk → Prop) : HenT nx cl Q = RF Try.prog EHe Try.f12 60 fbHe ⟨tmsOf [pb 0 0] 0 .leaf, heapOf [tkB 1 nx true, .map [] cl true, .dead] hp0, []⟩ (.h 7 (.func (.func 37) #[] #[pb 3 0]) [.cells 63 [.map (some 1)] true] (.h 8 (nilS) [] (.h 13 (nilS) [.dead] (.stop 2 [] [])))) Q := by kernel_rfl
noncomputable def rHe (nx : UN) (es : List Ent) : Nat → Value × List Blk := match es with
  | [] => fun _ => (nilS, [])
  | e :: es => fun B => (.slice (some ⟨B, 0, none⟩) ((e :: es).map (·.1)).length 4, [.cells 3 ((sortN nx.1 ((e :: es).map (·.1))).map iZ) false])
theorem rHe_pos {nx : UN} {es : List Ent} (h0 : 0 < es.length) (B : Nat) : rHe nx es B = (.slice (some ⟨B, 0, none⟩) (es.map (·.1)).length 4, [.cells 3 ((sortN nx.1 (es.map (·.1))).map iZ) false]) := by
  cases es with
  | nil => simp at h0
  | cons e es => rfl
open Classical in
noncomputable def GHe : TkF := fun rest nx es cl => match rest with
  | [] => if OkN es cl then some (rHe nx es) else none
  | _ => none
noncomputable def gHe : HeapFn := tkRo GHe
theorem hkHe : CallGoal Try.prog 12 gHe := tkRoG Try.func12 bodyHe (by kernel_rfl) fun rest nx es cl r h => by
  unfold GHe at h
  split at h
  case h_2 => cases h
  split at h
  case isFalse => cases h
  rename_i ho
  cases h
  rw [ntHe]
  refine ⟨fun x hx => (by cases hx), by decide, fun b mb B g W X => ?_⟩
  cases es with
  | nil =>
    refine FRm.pieceF EHe_ok follows sHe (Hen_e nx cl _) ?_
    refine ⟨rfl, ⟨gCe_nil (hgn rfl) (hgn rfl), ⟨rfl, ⟨rfl, ⟨rfl, ?_⟩⟩⟩⟩⟩
    exact EndQ.pureR two_ro rfl (tkO_ok nx [] cl true) (tkO_dead (es := [])) stayV_nil rfl
  | cons e es =>
    have h0 : 0 < (e :: es).length := by simp
    generalize hes : e :: es = l at *
    have hn : (l.map (·.1)).length < 1000000 := by rw [List.length_map]; exact ho.size
    have hd := ho.knd
    replace ho := ho.ok
    rw [rHe_pos h0]
    clear hes
    refine FRm.pieceF EHe_ok follows sHe (He_e nx l cl _) ?_
    refine ⟨rfl, ⟨gCe_of (hgn rfl) (hgn rfl) ho h0, ⟨gSo_of (by rw [List.length_map]; exact h0) hn hd, ⟨rfl, ⟨rfl, ?_⟩⟩⟩⟩⟩
    exact EndQ.rowR two_ro rfl (tkO_ok nx l cl true) tkO_dead (by simp) (iZ_inert _)
theorem gHe_of {hp : Hp} {b mb : Nat} {nx : UN} {es : List Ent} {cl : Nat} {ro ro' : Bool} (h : TkAt hp b mb nx es cl ro ro') (ho : OkN es cl) (h0 : 0 < es.length) :
    gHe [pb b 0] hp = some (.slice (some ⟨hp.sz, 0, none⟩) (es.map (·.1)).length 4, heapOf [.cells 3 ((sortN nx.1 (es.map (·.1))).map iZ) false, .dead] hp) := by
  have e := tkRo_of (G := GHe) (rest := []) (r := rHe nx es) h (by unfold GHe; rw [if_pos ho])
  rw [rHe_pos h0] at e
  exact e
theorem gHe_nil {hp : Hp} {b mb : Nat} {nx : UN} {cl : Nat} {ro ro' : Bool} (h : TkAt hp b mb nx [] cl ro ro') : gHe [pb b 0] hp = some (nilS, heapOf [.dead] hp) := by
  exact tkRo_of (G := GHe) (rest := []) (r := rHe nx []) h (by unfold GHe; rw [if_pos ⟨by simp, by simp, by simp, by simp⟩])
noncomputable def EAk : Ext := extG (extH Try.prog []) [(12, gHe), (22, gAO)]
theorem EAk_ok : ExtOk Try.prog EAk := extG_ok (extH_ok .nil) (.cons hkHe (.cons hkAO .nil))
noncomputable def fbAk : Code := (Try.f10.body).getD .skip
theorem bodyAk : Try.f10.body = some fbAk := by kernel_rfl
theorem ntAk : Try.f10.ntmps = 19 := by kernel_rfl
theorem sAk : codeSafe Try.prog 19 fbAk = true := by kernel_rfl
abbrev AkT (nx : UN) (es : List Ent) (cl : Nat) (Q : Value → List Blk → List Nat → List Blk → Prop) : Prop := HT (gHe [pb 0 0]) (heapOf [tkB 1 nx true, (.map (esV es) cl true), .dead, .cells 44 [iN 0, iN 0, iN 0, iN 0] false] hp0) (.slice (some ⟨4, 0, none⟩) ((es.map (·.1)).length) 4) [(.cells 3 ((sortN nx.1 (es.map (·.1))).map iZ) false), .dead] ∧ (HT (gAO [.int .i64 nx.1, .slice (some ⟨4, 0, none⟩) ((es.map (·.1)).length) 4]) (heapOf [tkB 1 nx true, (.map (esV es) cl true), .dead, .cells 44 [iN 0, iN 0, iN 0, iN 0] false, (.cells 3 ((sortN nx.1 (es.map (·.1))).map iZ) false), .dead] hp0) (.tuple #[.agg #[iN 0, iN 0, .int .i64 nx.1, .int .i64 (mskA nx.1 ((sortN nx.1 (es.map (·.1))).map (·.1)))], iN 0]) [.dead] ∧ ((some (.int .i64 nx.1) : Option Value) = some (.int .i64 nx.1) ∧ (Q (.agg #[iN 0, iN 0, .int .i64 nx.1, .int .i64 (mskA nx.1 ((sortN nx.1 (es.map (·.1))).map (·.1)))]) [tkB 1 nx true, (.map (esV es) cl true)] [] [])))
theorem Ak_e (nx : UN) (es : List Ent) (cl : Nat) (Q : Value → List Blk → List Nat → List Blk → Prop) : AkT nx es cl Q = RF Try.prog EAk Try.f10 60 fbAk ⟨tmsOf [pb 0 0] 0 .leaf, heapOf [tkB 1 nx true, .map (esV es) cl true, .dead] hp0, []⟩ (.h 8 (.slice (some ⟨4, 0, none⟩) ((es.map (·.1)).length) 4) [(.cells 3 ((sortN nx.1 (es.map (·.1))).map iZ) false), .dead] (.h 9 (.tuple #[.agg #[iN 0, iN 0, .int .i64 nx.1, .int .i64 (mskA nx.1 ((sortN nx.1 (es.map (·.1))).map (·.1)))], iN 0]) [.dead] (.stop 2 [] []))) Q := by kernel_rfl
abbrev AknT (nx : UN) (cl : Nat) (Q : Value → List Blk → List Nat → List Blk → Prop) : Prop := HT (gHe [pb 0 0]) (heapOf [tkB 1 nx true, (.map [] cl true), .dead, .cells 44 [iN 0, iN 0, iN 0, iN 0] false] hp0) (nilS) [.dead] ∧ (HT (gAO [.int .i64 nx.1, nilS]) (heapOf [tkB 1 nx true, (.map [] cl true), .dead, .cells 44 [iN 0, iN 0, iN 0, iN 0] false, .dead] hp0) (.tuple #[.agg #[iN 0, iN 0, .int .i64 nx.1, .int .i64 (mskA nx.1 [])], iN 0]) [.dead] ∧ ((some (.int .i64 nx.1) : Option Value) = some (.int .i64 nx.1) ∧ (Q (.agg #[iN 0, iN 0, .int .i64 nx.1, .int .i64 (mskA nx.1 [])]) [tkB 1 nx true, (.map [] cl true)] [] [])))
theorem Akn_e (nx : UN) (cl : Nat) (Q : Value → List Blk → List Nat → List Blk → Prop) : AknT nx cl Q = RF Try.prog EAk Try.f10 60 fbAk ⟨tmsOf [pb 0 0] 0 .leaf, heapOf [tkB 1 nx true, .map [] cl true, .dead] hp0, []⟩ (.h 8 (nilS) [.dead] (.h 9 (.tuple #[.agg #[iN 0, iN 0, .int .i64 nx.1, .int .i64 (mskA nx.1 [])], iN 0]) [.dead] (.stop 2 [] []))) Q := by kernel_rfl
theorem vAO_u (nx : UN) (ks : List Int) : vAO nx.1 ks = akV nx.1 (mskA nx.1 ks) := by
  unfold vAO
  have : decide (0 ≤ nx.1 ∧ nx.1 ≤ 65535) = true := decide_eq_true ⟨nx.2.1, by have := nx.2.2; omega⟩
  rw [this]; rfl
theorem gAO_u {b c ty : Nat} {nx : UN} {n : Nat} {us : List UN} {ro : Bool} {hp : Hp} (hg : hp.get b = some (.cells ty (us.map iZ) ro)) (hl : us.length = n) (hn : n < 1000000) :
    gAO [.int .i64 nx.1, .slice (some ⟨b, 0, none⟩) n c] hp = some (akV nx.1 (mskA nx.1 (us.map (·.1))), heapOf [.dead] hp) := by
  have e : us.map iZ = (us.map (·.1)).map iI := by rw [List.map_map]; rfl
  rw [e] at hg
  have := gAO_row (nx := nx.1) (c := c) hg (by rw [List.length_map, hl]; exact hn)
  rw [List.length_map, hl, vAO_u] at this
  exact this
theorem gAO_un {nx : UN} {hp : Hp} : gAO [.int .i64 nx.1, nilS] hp = some (akV nx.1 (mskA nx.1 []), heapOf [.dead] hp) := by
  rw [gAO_nil, vAO_u]
noncomputable def mskE (nx : UN) (es : List Ent) : Int := mskA nx.1 ((sortN nx.1 (es.map (·.1))).map (·.1))
noncomputable def akE (nx : UN) (es : List Ent) : Value := .agg #[iN 0, iN 0, .int .i64 nx.1, .int .i64 (mskE nx es)]
theorem mskE_nil (nx : UN) : mskE nx [] = mskA nx.1 [] := by simp [mskE, sortN]
theorem stay_akE (nx : UN) (es : List Ent) : stayV (akE nx es) := ⟨rfl, fun _ => by simp [mv3, mv2, mv1, akE, iN]⟩
open Classical in
noncomputable def GAk : TkF := fun rest nx es cl => match rest with
  | [] => if OkN es cl then some fun _ => (akE nx es, []) else none
  | _ => none
noncomputable def gAk : HeapFn := tkRo GAk
theorem hkAk : CallGoal Try.prog 10 gAk := tkRoG Try.func10 bodyAk (by kernel_rfl) fun rest nx es cl r h => by
  unfold GAk at h
  split at h
  case h_2 => cases h
  split at h
  case isFalse => cases h
  rename_i ho
  cases h
  rw [ntAk]
  refine ⟨fun x hx => (by cases hx), by decide, fun b mb B g W X => ?_⟩
  cases es with
  | nil =>
    refine FRm.pieceF EAk_ok follows sAk (Akn_e nx cl _) ?_
    refine ⟨gHe_nil ⟨hgn rfl, hgn rfl⟩, ⟨gAO_un, ⟨rfl, ?_⟩⟩⟩
    exact EndQ.pureR two_ro rfl (tkO_ok nx [] cl true) (tkO_dead (es := [])) (stay_akE _ _) (by simp only [akE, mskE_nil])
  | cons e es =>
    have h0 : 0 < (e :: es).length := by simp
    generalize hes : e :: es = l at *
    have hn : (l.map (·.1)).length < 1000000 := by rw [List.length_map]; exact ho.size
    have hs : (sortN nx.1 (l.map (·.1))).length = (l.map (·.1)).length := sortN_len _ _
    clear hes
    refine FRm.pieceF EAk_ok follows sAk (Ak_e nx l cl _) ?_
    refine ⟨gHe_of ⟨hgn rfl, hgn rfl⟩ ho h0, ⟨gAO_u (hgn rfl) hs hn, ⟨rfl, ?_⟩⟩⟩
    exact EndQ.pureR two_ro rfl (tkO_ok nx l cl true) tkO_dead (stay_akE _ _) rfl
theorem gAk_of {hp : Hp} {b mb : Nat} {nx : UN} {es : List Ent} {cl : Nat} {ro ro' : Bool} (h : TkAt hp b mb nx es cl ro ro') (ho : OkN es cl) :
    gAk [pb b 0] hp = some (akE nx es, heapOf [.dead] hp) :=
  tkRo_of (G := GAk) (rest := []) (r := fun _ => (akE nx es, [])) h (by unfold GAk; rw [if_pos ho])
end Go.Proofs.Ytbhmodlpolgklaa.Tk
namespace Go.Proofs.Ytbhmodlpolgklaa.Tk
open Go Go.Proofs Go.Proofs.Ytbhmodlpolgklaa.AI Go.RowKit
def lookE : List Ent → UN → Option (List ObV)
  | [], _ => none
  | e :: es, k => if e.1 = k then some e.2.1 else lookE es k
def delE : List Ent → UN → List Ent
  | [], _ => []
  | e :: es, k => if e.1 = k then es else e :: delE es k
theorem lookE_none {es : List Ent} {k : UN} : lookE es k = none ↔ ∀ e ∈ es, e.1 ≠ k := by
  induction es with
  | nil => simp [lookE]
  | cons e es ih =>
    unfold lookE
    by_cases h : e.1 = k
    · simp [h]
    · simp [h, ih]
theorem lookE_mem {es : List Ent} {k : UN} {l : List ObV} (h : lookE es k = some l) : ∃ e ∈ es, e.1 = k ∧ e.2.1 = l := by
  induction es with
  | nil => cases h
  | cons e es ih =>
    unfold lookE at h
    by_cases h2 : e.1 = k
    · rw [if_pos h2] at h
      cases h
      exact ⟨e, .head _, h2, rfl⟩
    · rw [if_neg h2] at h
      obtain ⟨x, hx, h3⟩ := ih h
      exact ⟨x, .tail _ hx, h3⟩
theorem delE_len {es : List Ent} {k : UN} {l : List ObV} (h : lookE es k = some l) : (delE es k).length + 1 = es.length := by
  induction es with
  | nil => cases h
  | cons e es ih =>
    unfold lookE at h
    unfold delE
    by_cases h2 : e.1 = k
    · rw [if_pos h2]; rfl
    · rw [if_neg h2] at h ⊢
      rw [List.length_cons, ih h]; rfl
theorem delE_sub (k : UN) : ∀ es : List Ent, (delE es k).Sublist es
  | [] => .slnil
  | e :: es => by
    unfold delE
    by_cases h : e.1 = k
    · rw [if_pos h]; exact .cons _ (.refl _)
    · rw [if_neg h]; exact .cons_cons _ (delE_sub k es)
theorem keyZ (a b : UN) : keyEq (.int .i64) (.int .i64 a.1) (iZ b) = some (decide (b = a)) := by
  show (if IntKind.i64 = IntKind.i64 then some (a.1 == b.1) else none) = _
  rw [if_pos rfl]
  by_cases h : b = a
  · subst h; simp
  · have : a.1 ≠ b.1 := fun e => h (Subtype.ext e.symm)
    rw [decide_eq_false h]
    simp [this]
theorem findE_hit {k : UN} {l : List ObV} : ∀ {es : List Ent} (i : Nat), lookE es k = some l → ∃ j, findE (.int .i64) (.int .i64 k.1) (esV es) i = some (some (j + i, LIT l.length 35 (l.flatMap obL))) ∧ dropE (esV es) j = esV (delE es k)
  | [], _, h => by cases h
  | e :: es, i, h => by
    unfold lookE at h
    show ∃ j, (match keyEq (.int .i64) (.int .i64 k.1) (iZ e.1) with | some true => some (some (i, (enV e).2.1)) | some false => findE (.int .i64) (.int .i64 k.1) (esV es) (i + 1) | none => none) = _ ∧ _
    rw [keyZ]
    unfold delE
    by_cases h2 : e.1 = k
    · rw [if_pos h2] at h ⊢
      cases h
      rw [decide_eq_true h2]
      exact ⟨0, by rw [Nat.zero_add]; rfl, rfl⟩
    · rw [if_neg h2] at h ⊢
      rw [decide_eq_false h2]
      obtain ⟨j, h3, h4⟩ := findE_hit (i + 1) h
      refine ⟨j + 1, ?_, ?_⟩
      · simp only [h3]
        rw [Nat.add_right_comm j 1 i, Nat.add_assoc]
      · show (enV e) :: dropE (esV es) j = _
        rw [h4]; rfl
theorem findE_miss {k : UN} : ∀ {es : List Ent} (i : Nat), lookE es k = none → findE (.int .i64) (.int .i64 k.1) (esV es) i = some none
  | [], _, _ => rfl
  | e :: es, i, h => by
    unfold lookE at h
    show (match keyEq (.int .i64) (.int .i64 k.1) (iZ e.1) with | some true => some (some (i, (enV e).2.1)) | some false => findE (.int .i64) (.int .i64 k.1) (esV es) (i + 1) | none => none) = _
    rw [keyZ]
    by_cases h2 : e.1 = k
    · rw [if_pos h2] at h; cases h
    · rw [if_neg h2] at h
      rw [decide_eq_false h2]
      exact findE_miss (i + 1) h
theorem und63 : Try.prog.underlying 63 = some (.map 3 25) := by kernel_rfl
theorem kk3 : keyKind Try.prog 3 = some (.int .i64) := by kernel_rfl
theorem z25 : (Try.prog.info? 25).bind (·.zero) = some nilS := by kernel_rfl
section
variable {get : Nat → Option Blk} {mb cl : Nat} {es : List Ent} {ro : Bool} {k : UN}
theorem alook_hit {l : List ObV} (hg : get mb = some (.map (esV es) cl ro)) (h : lookE es k = some l) :
    aLookup Try.prog get 63 (.map (some mb)) (.int .i64 k.1) true = some (.tuple #[LIT l.length 35 (l.flatMap obL), .bool true]) := by
  obtain ⟨j, h1, _⟩ := findE_hit 0 h
  unfold aLookup
  simp only [und63, kk3, z25, hg, h1]
  rfl
theorem alook_miss (hg : get mb = some (.map (esV es) cl ro)) (h : lookE es k = none) :
    aLookup Try.prog get 63 (.map (some mb)) (.int .i64 k.1) true = some (.tuple #[nilS, .bool false]) := by
  have h1 := findE_miss 0 h
  unfold aLookup
  simp only [und63, kk3, z25, hg, h1]
  rfl
theorem aupd {v : Value} (hg : get mb = some (.map (esV es) cl false)) (h : lookE es k = none) :
    (aUpdate Try.prog get 63 (.map (some mb)) (.int .i64 k.1) v).map (fun es => (undef, es)) = some (.tuple #[], [.put mb (.map (esV es ++ [(iZ k, v, cl)]) (cl + 1) false)]) := by
  have h1 := findE_miss 0 h
  unfold aUpdate
  simp only [und63, kk3, hg, h1]
  rfl
theorem adel {l : List ObV} (hg : get mb = some (.map (esV es) cl false)) (h : lookE es k = some l) :
    aDelete Try.prog get [63, 3] [.map (some mb), .int .i64 k.1] = some (.tuple #[], [.put mb (.map (esV (delE es k)) cl false)]) := by
  obtain ⟨j, h1, h2⟩ := findE_hit 0 h
  unfold aDelete
  simp only [und63, kk3, hg, h1, Nat.add_zero, h2]
end
theorem nxt_rng (a : Int) : 0 ≤ nxt a ∧ nxt a < 65536 := by
  unfold nxt
  simp only [wrapU]
  rw [wrapI (by omega) (by omega)]
  omega
def nxU (a : UN) : UN := ⟨nxt a.1, nxt_rng a.1⟩
theorem nxU_val (a : UN) : (nxU a).1 = (a.1 + 1) % 65536 := by
  have := a.2
  show nxt a.1 = _
  unfold nxt
  simp only [wrapU]
  rw [wrapI (by omega) (by omega)]
  simp only [Int.ofNat_eq_natCast]
  omega
def drain : Nat → UN → List Ent → List ObV × UN × List Ent
  | 0, nx, es => ([], nx, es)
  | n + 1, nx, es => match lookE es nx with
    | none => ([], nx, es)
    | some l => (l ++ (drain n (nxU nx) (delE es nx)).1, (drain n (nxU nx) (delE es nx)).2)
def drE (nx : UN) (es : List Ent) : List ObV × UN × List Ent := drain es.length nx es
theorem drE_none {nx : UN} {es : List Ent} (h : lookE es nx = none) : drE nx es = ([], nx, es) := by
  unfold drE
  cases es with
  | nil => rfl
  | cons e es => show drain (es.length + 1) nx (e :: es) = _; unfold drain; rw [h]
theorem drE_some {nx : UN} {es : List Ent} {l : List ObV} (h : lookE es nx = some l) : drE nx es = (l ++ (drE (nxU nx) (delE es nx)).1, (drE (nxU nx) (delE es nx)).2) := by
  unfold drE
  have := delE_len h
  rw [← this]
  show drain (_ + 1) nx es = _
  rw [drain, h]
structure OkT (es : List Ent) (cl : Nat) : Prop extends OkN es cl where
  len : ∀ e ∈ es, 0 < e.2.1.length ∧ e.2.1.length ≤ 32
theorem OkT.sub {es es' : List Ent} {cl cl' : Nat} (h : OkT es cl) (s : es'.Sublist es) (hc : cl ≤ cl') : OkT es' cl' :=
  ⟨⟨Nat.lt_of_le_of_lt s.length_le h.size, fun e he => Nat.lt_of_lt_of_le (h.born e (s.subset he)) hc, h.bnd.sublist (s.map _), h.knd.sublist (s.map _)⟩, fun e he => h.len e (s.subset he)⟩
theorem OkT.add {es : List Ent} {cl : Nat} {u : UN} {ls : List ObV} (h : OkT es cl) (hn : es.length + 1 < 1000000) (hu : lookE es u = none) (h0 : 0 < ls.length) (h1 : ls.length ≤ 32) : OkT (es ++ [(u, ls, cl)]) (cl + 1) := by
  refine ⟨⟨by rw [List.length_append]; exact hn, fun e he => ?_, ?_, ?_⟩, fun e he => ?_⟩
  · rcases List.mem_append.1 he with he | he
    · have := h.born e he; omega
    · simp at he; subst he; simp
  · rw [List.map_append, List.nodup_append]
    refine ⟨h.bnd, by simp, fun a ha b hb => ?_⟩
    obtain ⟨e, he, rfl⟩ := List.mem_map.1 ha
    simp at hb; subst hb
    have := h.born e he; omega
  · rw [List.map_append, List.nodup_append]
    refine ⟨h.knd, by simp, fun a ha b hb => ?_⟩
    obtain ⟨e, he, rfl⟩ := List.mem_map.1 ha
    simp at hb; subst hb
    exact lookE_none.1 hu e he
  · rcases List.mem_append.1 he with he | he
    · exact h.len e he
    · simp at he; subst he; exact ⟨h0, h1⟩
abbrev TkW := List Value → UN → List Ent → Nat → Option ((Nat → Value × List Blk) × UN × List Ent × Nat)
def TkRwP (G : TkW) (b : Nat) (rest : List Value) (hp : Hp) (x : Value × Hp) : Prop := ∃ (mb : Nat) (nx : UN) (es : List Ent) (cl : Nat) (r : (Nat → Value × List Blk) × UN × List Ent × Nat), TkAt hp b mb nx es cl false false ∧ G rest nx es cl = some r ∧
  x = ((r.1 hp.sz).1, heapOf ((r.1 hp.sz).2 ++ [.dead]) ((hp.put b (tkB mb r.2.1 false)).put mb (.map (esV r.2.2.1) r.2.2.2 false)))
noncomputable def tkRw (G : TkW) : HeapFn := fun args hp => match args with
  | .pointer (some ⟨b, 0, none⟩) :: rest => theO (TkRwP G b rest hp)
  | _ => none
theorem tkRw_of {G : TkW} {hp : Hp} {b mb : Nat} {rest : List Value} {nx : UN} {es : List Ent} {cl : Nat} {r : (Nat → Value × List Blk) × UN × List Ent × Nat} (h : TkAt hp b mb nx es cl false false) (hr : G rest nx es cl = some r) :
    tkRw G (pb b 0 :: rest) hp = some ((r.1 hp.sz).1, heapOf ((r.1 hp.sz).2 ++ [.dead]) ((hp.put b (tkB mb r.2.1 false)).put mb (.map (esV r.2.2.1) r.2.2.2 false))) := by
  refine theO_eq (p := TkRwP G b rest hp) ⟨_, _, _, _, _, h, hr, rfl⟩ ?_
  rintro x ⟨_, _, _, _, r2, h3, h4, rfl⟩
  obtain ⟨rfl, rfl, rfl, rfl⟩ := h.det h3
  rw [hr] at h4
  cases h4; rfl
theorem tkRwG {f : FuncId} {fn : Func} {code : Code} {G : TkW} (hf : Try.prog.funcs[f]? = some fn) (hb : fn.body = some code) (hnm : (fn.name == "runtime.NumGoroutine") = false)
    (H : ∀ rest nx es cl r, G rest nx es cl = some r → (∀ x ∈ rest, stayV x) ∧ rest.length + 1 ≤ fn.ntmps ∧
      ∀ b mb B g W X, FRm Try.prog fn.ntmps W 2 X code ⟨tmsOf (pb 0 0 :: rest) 0 .leaf, heapOf [tkB 1 nx false, .map (esV es) cl false, .dead] hp0, []⟩ (FinF Try.prog fn (EndQ [some (b, true), some (mb, true)] B [tkB mb r.2.1 false, .map (esV r.2.2.1) r.2.2.2 false] (r.1 B).2 (r.1 B).1 g))) : CallGoal Try.prog f (tkRw G) := mem_goal follows hf hb hnm fun args hp v hp' h hk => by
  unfold tkRw at h
  split at h
  case h_2 => cases h
  rename_i b rest
  obtain ⟨mb, nx, es, cl, r, hat, hr, hx⟩ := theO_some h
  cases hx
  obtain ⟨h1, h2, h3⟩ := H rest nx es cl r hr
  obtain ⟨s1, s2⟩ := tk_start hat true rest (fun _ => ⟨rfl, rfl⟩)
  refine ⟨[some (b, true), some (mb, true)], [tkB mb r.2.1 false, .map (esV r.2.2.1) r.2.2.2 false], (r.1 hp.sz).2, rfl, two_nodup _ hat.ne, s1, List.all_eq_true.2 fun x hx => ?_, by simpa using h2, fun W X => ?_⟩
  · rcases List.mem_cons.1 hx with rfl | hx
    · rfl
    · exact (h1 x hx).1
  · have e1 : sg0 [some (b, true), some (mb, true)] b = 0 := by simp [sg0, posO, Nat.beq_refl]
    have ea : (pb b 0 :: rest).map (mv3 (sg0 [some (b, true), some (mb, true)])) = pb 0 0 :: rest := by
      rw [List.map_cons, stay_map h1]
      simp [mv3, mv2, mv1, pb, e1]
    rw [show (Value.pointer (some ⟨b, 0, none⟩) :: rest) = pb b 0 :: rest from rfl, ea, s2]
    exact FRm.mono (h3 b mb hp.sz hp.get W X) fun e st q => EndQ.fin q
theorem tk_mv {b mb B : Nat} {nx : UN} {es : List Ent} {cl : Nat} (Kq : Kw) (hq : posN 1 Kq 0 = none) :
    ∀ (i c : Nat), [some (b, true), some (mb, true)][i]? = some (some (c, true)) → [tkB mb nx false, .map (esV es) cl false][i]? = ([tkB 1 nx false, .map (esV es) cl false][i]?).map (mvB (sgE [some (b, true), some (mb, true)] Kq B)) := fun i c h => by
  match i with
  | 0 =>
    show some _ = some _
    have : sgE [some (b, true), some (mb, true)] Kq B 1 = mb := by unfold sgE; rw [hq]; rfl
    simp only [tkB, mvB, List.map_cons, List.map_nil, mv2, mv1, this]
  | 1 =>
    show some _ = some (Blk.map ((esV es).map _) cl false)
    rw [esV, List.map_map]
    rfl
  | i + 2 => simp at h
theorem EndQ.tk0 {b mb B : Nat} {g : HG} {nx : UN} {es : List Ent} {cl : Nat} {v : Value} (h : stayV v) :
    EndQ [some (b, true), some (mb, true)] B [tkB mb nx false, .map (esV es) cl false] [] v g v [tkB 1 nx false, .map (esV es) cl false] [] [] := by
  refine ⟨h.1, tkO_ok nx es cl false, rfl, rfl, rfl, ⟨[], [], [], rfl, rfl, (h.2 _).symm, tk_mv [] rfl, rfl⟩, fun i c hi => ?_⟩
  match i with
  | 0 => simp at hi
  | 1 => simp at hi
  | i + 2 => simp at hi
theorem EndQ.tk1 {b mb B k n c e : Nat} {g : HG} {nx : UN} {es : List Ent} {cl ty : Nat} {cs : List Value} (hk : 2 ≤ k) (h : cs.all inert = true) :
    EndQ [some (b, true), some (mb, true)] B [tkB mb nx false, .map (esV es) cl false] [.cells ty cs false] (.tuple #[.slice (some ⟨B, 0, none⟩) n c, iN e]) g (.tuple #[.slice (some ⟨k, 0, none⟩) n c, iN e]) [tkB 1 nx false, .map (esV es) cl false] [k] [.cells ty cs false] := by
  have hok : okBlk (.cells ty cs false) = true := by
    show (cs.all ok2) = true
    exact List.all_eq_true.2 fun v hv => (inert_ok (List.all_eq_true.1 h v hv)).1
  refine ⟨rfl, tkO_ok nx es cl false, ?_, by simp [nodupB, hk], rfl, ⟨[some 0], [.cells ty cs false], [some k], rfl, rfl, ?_, tk_mv [some k] ?_, ?_⟩, fun i c hi => ?_⟩
  · simp [hok, rwB]
  · simp [mv3, mv2, mv1, sgE, posN, Nat.beq_refl, iN]
  · have : Nat.beq k 1 = false := by
      cases e : Nat.beq k 1 with
      | false => rfl
      | true => have := Nat.eq_of_beq_eq_true e; omega
    simp only [posN, this]
  · rw [List.map_cons, mvB_cells h]; rfl
  · match i with
    | 0 => simp at hi
    | 1 => simp at hi
    | i + 2 => simp at hi
theorem fxM2 {o p : Blk} {r : List Blk} (h : inertB p = true) : FixM 2 (o :: p :: r) := fun i hi x hx => by
  match i, hi with
  | 1, _ => cases hx; exact inert_fixed h 0
  | 0, hi => cases hi
  | i + 2, hi =>
    exfalso
    have : opq 2 (i + 2) = false := by
      have e : Nat.shiftRight 2 (i + 2) = 0 := by show 2 >>> (i + 2) = 0; rw [Nat.shiftRight_eq_div_pow, Nat.pow_add]; exact Nat.div_eq_of_lt (by have := Nat.two_pow_pos i; omega)
      unfold opq; rw [e]; rfl
    rw [this] at hi; cases hi
theorem fxM6 {o p q : Blk} {r : List Blk} (h : inertB p = true) (k : inertB q = true) : FixM 6 (o :: p :: q :: r) := fun i hi x hx => by
  match i, hi with
  | 1, _ => cases hx; exact inert_fixed h 0
  | 2, _ => cases hx; exact inert_fixed k 0
  | 0, hi => cases hi
  | i + 3, hi =>
    exfalso
    have : opq 6 (i + 3) = false := by
      have e : Nat.shiftRight 6 (i + 3) = 0 := by show 6 >>> (i + 3) = 0; rw [Nat.shiftRight_eq_div_pow, Nat.pow_add]; exact Nat.div_eq_of_lt (by have := Nat.two_pow_pos i; omega)
      unfold opq; rw [e]; rfl
    rw [this] at hi; cases hi
end Go.Proofs.Ytbhmodlpolgklaa.Tk
namespace Go.Proofs.Ytbhmodlpolgklaa.Tk
open Go Go.Proofs Go.Proofs.Ytbhmodlpolgklaa.AI Go.RowKit
abbrev CLlT (ty : TypeId) (ls : List ObV) (Q : Exit → St → Prop) : Prop := aAppend Try.prog (heapOf [.dead, (obB ty ls), .cells 35 [] false] hp0).get 3 [25, 25] [.slice (some ⟨2, 0, none⟩) 0 37, .slice (some ⟨1, 0, none⟩) ls.length 2] = some (.slice (some ⟨3, 0, none⟩) (0 + ls.length) 37, [.put 2 (.dead), .push (.cells 35 ([] ++ ls.flatMap obL) false)]) ∧ (FixO 1 [.cells 35 ([] ++ ls.flatMap obL) false] ∧ ∀ g, Q .ret (stOf 8 g [(2, .slice (some ⟨0, 0, none⟩) (0 + ls.length) 37)] [.cells 35 ([] ++ ls.flatMap obL) false]))
theorem CLl_e (ty : TypeId) (ls : List ObV) (Q : Exit → St → Prop) : CLlT ty ls Q = RT Try.prog ECL 8 0 60 fbCL ⟨tmsOf [.slice (some ⟨1, 0, none⟩) ls.length 2] 0 .leaf, heapOf [.dead, obB ty ls] hp0, []⟩ (.e 5 (.slice (some ⟨3, 0, none⟩) (0 + ls.length) 37) [.put 2 (.dead), .push (.cells 35 ([] ++ ls.flatMap obL) false)] (.stop 1 [3] [2])) Q := by kernel_rfl
theorem CLl_run (ty : TypeId) (ls : List ObV) (hn : ls.length < 1000000) (h0 : 0 < ls.length) (W : Base) (X : Pins) : FRm Try.prog 8 W 0 X fbCL ⟨tmsOf [.slice (some ⟨1, 0, none⟩) ls.length 2] 0 .leaf, heapOf [.dead, obB ty ls] hp0, []⟩ fun e st => e = .ret ∧ ∃ g, st = stOf 8 g [(2, .slice (some ⟨0, 0, none⟩) ls.length 37)] [.cells 35 (ls.flatMap obL) false] := by
  refine FRm.pieceT ECL_ok follows sCL (CLl_e ty ls _) ?_
  refine ⟨app_row elO (fun _ => src_row (hgn rfl) (obR_len ls)) (obR_one ls) (obR_len ls) h0 (by omega) (hgn rfl) rfl, ⟨fxO1 (obR_inert ls), fun g => ?_⟩⟩
  refine ⟨rfl, g, ?_⟩
  rw [Nat.zero_add]; rfl
noncomputable def GCl : Deep := fun args => match args with
  | [.iface n (.iface ty (.agg cs))] => match obsOf n cs with
    | some ls => if ls.length < 1000000 ∧ 0 < ls.length then some fun B => (LIT ls.length 35 (ls.flatMap obL), []) else none
    | none => none
  | _ => none
noncomputable def gCl : HeapFn := tellK GCl
theorem hkCl : CallGoal Try.prog 20 gCl := deepG follows Try.func20 bodyCL (by kernel_rfl) fun args r h => by
  unfold GCl at h
  split at h
  case h_2 => cases h
  rename_i n ty cs
  split at h
  case h_2 => cases h
  rename_i ls hls
  split at h
  case isFalse => cases h
  rename_i hc
  obtain ⟨hn, h0⟩ := hc
  cases h
  obtain ⟨rfl, rfl⟩ := obsOf_some hls
  rw [ntCL]
  refine ⟨fun x hx => ?_, by simp, fun B g W X => ?_⟩
  · simp only [List.mem_singleton] at hx
    subst hx
    exact stayV_lit _ _ _
  · refine FRm.mat (i := 0) (ty := ty) (cs := ls.flatMap obL) rfl (by simp) h0 ?_
    have h2 := FRm.post_lit (O' := [.dead]) (T' := [(2, LIT ls.length 35 (ls.flatMap obL))]) (k := 0) (CLl_run ty ls hn h0 W X) rfl ?_ rfl rfl (fun i o o' hi h1 h2 => ?_) (fun g t => ?_)
    · refine FRm.mono h2 fun e st q => ?_
      obtain ⟨rfl, g, rfl⟩ := q
      exact ⟨.inr rfl, rfl, _, 0, [], [], [], rfl, rfl, rfl, EndQ.pure (stayV_lit _ _ _) rfl⟩
    · refine List.all_eq_true.2 fun v hv => ?_
      obtain ⟨x, -, hx⟩ := List.mem_flatMap.1 hv
      simp only [obL, List.mem_cons, List.not_mem_nil, or_false] at hx
      rcases hx with rfl | rfl | rfl | rfl | rfl | rfl | rfl | rfl | rfl | rfl | rfl | rfl <;> rfl
    · match i with
      | 0 => exact absurd rfl hi
      | i + 1 => simp at h1
    · by_cases ht : t = 2
      · subst ht; exact .lit h0
      · have e : ∀ v : Value, frame g [(2, v)] t = g t := fun v => by
          unfold frame
          simp [List.lookup, ht]
          rw [if_neg (fun e => ht e.symm)]
        rw [e, e]; exact .same
theorem gCl_of {ty : TypeId} {ls : List ObV} {hp : Hp} (hn : ls.length < 1000000) (h0 : 0 < ls.length) : gCl [LIT ls.length ty (ls.flatMap obL)] hp = some (LIT ls.length 35 (ls.flatMap obL), heapOf [.dead] hp) := by
  unfold gCl tellK GCl
  simp only [obsOf_eq]
  rw [if_pos ⟨hn, h0⟩]
  rfl
end Go.Proofs.Ytbhmodlpolgklaa.Tk
namespace Go.Proofs.Ytbhmodlpolgklaa.Tk
open Go Go.Proofs Go.Proofs.Ytbhmodlpolgklaa.AI Go.RowKit
theorem esB_inert (es : List Ent) (cl : Nat) (ro : Bool) : inertB (.map (esV es) cl ro) = true := esV_inert es
theorem gBC_ok {num : Int} {ty : TypeId} {ls : List ObV} {hp : Hp} (h : okB num ls = true) : gBC [.agg #[.int .i64 num, LIT ls.length ty (ls.flatMap obL)]] hp = some (iN 0, heapOf [.dead] hp) := by
  rw [gBC_of]; unfold vBC; rw [h]; rfl
theorem gBC_no {num : Int} {ty : TypeId} {ls : List ObV} {hp : Hp} (h : okB num ls = false) : gBC [.agg #[.int .i64 num, LIT ls.length ty (ls.flatMap obL)]] hp = some (iN 1, heapOf [.dead] hp) := by
  rw [gBC_of]; unfold vBC; rw [h]; rfl
theorem aupdE {get : Nat → Option Blk} {mb cl : Nat} {es : List Ent} {k : UN} {ls : List ObV} (hg : get mb = some (.map (esV es) cl false)) (h : lookE es k = none) :
    (aUpdate Try.prog get 63 (.map (some mb)) (.int .i64 k.1) (LIT ls.length 35 (ls.flatMap obL))).map (fun es => (undef, es)) = some (.tuple #[], [.put mb (.map (esV (es ++ [(k, ls, cl)])) (cl + 1) false)]) := by
  have e : esV (es ++ [(k, ls, cl)]) = esV es ++ [(iZ k, LIT ls.length 35 (ls.flatMap obL), cl)] := by rw [esV, List.map_append]; rfl
  rw [e]; exact aupd hg h
noncomputable def ETa : Ext := extG (extH Try.prog [(19, gFar), (21, gNext)]) [(18, gBC), (20, gCl)]
theorem ETa_ok : ExtOk Try.prog ETa := extG_ok (extH_ok (.cons hkFar (.cons hkNext .nil))) (.cons hkBC (.cons hkCl .nil))
noncomputable def fbTa : Code := (Try.f8.body).getD .skip
theorem bodyTa : Try.f8.body = some fbTa := by kernel_rfl
theorem ntTa : Try.f8.ntmps = 99 := by kernel_rfl
theorem sTa : codeSafe Try.prog 99 fbTa = true := by kernel_rfl
noncomputable def lpTa : Code := pB (pR (pL (pR (pR (pR (pR (pR (pR (pR (fbTa))))))))))
noncomputable def lbTa : Code := pU lpTa
theorem lpTa_eq : lpTa = .loop lbTa := by kernel_rfl
theorem slTa : codeSafe Try.prog 99 lbTa = true := by kernel_rfl
abbrev TaaT (ty : TypeId) (nx : UN) (num : Int) (es : List Ent) (cl : Nat) (ls : List ObV) (W : Base) (X : Pins) (Q : Value → List Blk → List Nat → List Blk → Prop) : Prop := HT (gBC [.agg #[.int .i64 num, LIT ls.length ty (ls.flatMap obL)]]) (heapOf [tkB 1 nx false, (.map (esV es) cl false), .dead, .cells 27 [.int .i64 num, LIT ls.length ty (ls.flatMap obL)] false] hp0) (iN 1) [.dead] ∧ (Q (.tuple #[nilS, iN 1]) [tkB 1 nx false, (.map (esV es) cl false)] [] [])
theorem Taa_e (ty : TypeId) (nx : UN) (num : Int) (es : List Ent) (cl : Nat) (ls : List ObV) (W : Base) (X : Pins) (Q : Value → List Blk → List Nat → List Blk → Prop) : TaaT ty nx num es cl ls W X Q = WF Try.prog ETa Try.f8 99 W 2 X 200 fbTa ⟨tmsOf [pb 0 0, .agg #[.int .i64 num, LIT ls.length ty (ls.flatMap obL)]] 0 .leaf, heapOf [tkB 1 nx false, .map (esV es) cl false, .dead] hp0, []⟩ (.h 6 (iN 1) [.dead] (.stop 2 [] [])) Q := by kernel_rfl
abbrev TabT (ty : TypeId) (nx u : UN) (es : List Ent) (cl : Nat) (ls : List ObV) (l0 : List ObV) (W : Base) (X : Pins) (Q : Value → List Blk → List Nat → List Blk → Prop) : Prop := HT (gBC [.agg #[.int .i64 u.1, LIT ls.length ty (ls.flatMap obL)]]) (heapOf [tkB 1 nx false, (.map (esV es) cl false), .dead, .cells 27 [.int .i64 u.1, LIT ls.length ty (ls.flatMap obL)] false] hp0) (iN 0) [.dead] ∧ ((aLookup Try.prog (heapOf [tkB 1 nx false, (.map (esV es) cl false), .dead, .cells 27 [.int .i64 u.1, LIT ls.length ty (ls.flatMap obL)] false, .dead] hp0).get 63 (.map (some 1)) (.int .i64 u.1) true : Option Value) = some (.tuple #[LIT l0.length 35 (l0.flatMap obL), .bool true]) ∧ (((decide ((far nx.1 u.1) ≥ (Int.ofNat 32768))) = true → Q (.tuple #[nilS, iN 10]) [tkB 1 nx false, (.map (esV es) cl false)] [] []) ∧ ((decide ((far nx.1 u.1) ≥ (Int.ofNat 32768))) = false → ((decide ((far nx.1 u.1) > (Int.ofNat 16))) = true → Q (.tuple #[nilS, iN 1]) [tkB 1 nx false, (.map (esV es) cl false)] [] []) ∧ ((decide ((far nx.1 u.1) > (Int.ofNat 16))) = false → Q (.tuple #[nilS, iN 9]) [tkB 1 nx false, (.map (esV es) cl false)] [] []))))
theorem Tab_e (ty : TypeId) (nx u : UN) (es : List Ent) (cl : Nat) (ls : List ObV) (l0 : List ObV) (W : Base) (X : Pins) (Q : Value → List Blk → List Nat → List Blk → Prop) : TabT ty nx u es cl ls l0 W X Q = WF Try.prog ETa Try.f8 99 W 2 X 200 fbTa ⟨tmsOf [pb 0 0, .agg #[.int .i64 u.1, LIT ls.length ty (ls.flatMap obL)]] 0 .leaf, heapOf [tkB 1 nx false, .map (esV es) cl false, .dead] hp0, []⟩ (.h 6 (iN 0) [.dead] (.v 16 (.tuple #[LIT l0.length 35 (l0.flatMap obL), .bool true]) (.b 31 (.stop 2 [] []) (.b 34 (.stop 2 [] []) (.stop 2 [] []))))) Q := by kernel_rfl
abbrev TacT (ty : TypeId) (nx u : UN) (es : List Ent) (cl : Nat) (ls : List ObV) (W : Base) (X : Pins) (Q : Value → List Blk → List Nat → List Blk → Prop) : Prop := HT (gBC [.agg #[.int .i64 u.1, LIT ls.length ty (ls.flatMap obL)]]) (heapOf [tkB 1 nx false, (.map (esV es) cl false), .dead, .cells 27 [.int .i64 u.1, LIT ls.length ty (ls.flatMap obL)] false] hp0) (iN 0) [.dead] ∧ ((aLookup Try.prog (heapOf [tkB 1 nx false, (.map (esV es) cl false), .dead, .cells 27 [.int .i64 u.1, LIT ls.length ty (ls.flatMap obL)] false, .dead] hp0).get 63 (.map (some 1)) (.int .i64 u.1) true : Option Value) = some (.tuple #[nilS, .bool false]) ∧ (((decide ((far nx.1 u.1) ≥ (Int.ofNat 32768))) = true → Q (.tuple #[nilS, iN 10]) [tkB 1 nx false, (.map (esV es) cl false)] [] []) ∧ ((decide ((far nx.1 u.1) ≥ (Int.ofNat 32768))) = false → ((decide ((far nx.1 u.1) > (Int.ofNat 16))) = true → Q (.tuple #[nilS, iN 1]) [tkB 1 nx false, (.map (esV es) cl false)] [] []) ∧ ((decide ((far nx.1 u.1) > (Int.ofNat 16))) = false → HT (gCl [LIT ls.length ty (ls.flatMap obL)]) (heapOf [tkB 1 nx false, (.map (esV es) cl false), .dead, .cells 27 [.int .i64 u.1, LIT ls.length ty (ls.flatMap obL)] false, .dead] hp0) (LIT ls.length 35 (ls.flatMap obL)) [.dead] ∧ ((aUpdate Try.prog (heapOf [tkB 1 nx false, (.map (esV es) cl false), .dead, .cells 27 [.int .i64 u.1, LIT ls.length ty (ls.flatMap obL)] false, .dead, .dead] hp0).get 63 (.map (some 1)) (.int .i64 u.1) (LIT ls.length 35 (ls.flatMap obL))).map (fun es => (undef, es)) = some (.tuple #[], [.put 1 ((.map (esV (es ++ [(u, ls, cl)])) (cl + 1) false))]) ∧ ((some (.map (some 1)) : Option Value) = some (.map (some 1)) ∧ ((some (.int .i64 u.1) : Option Value) = some (.int .i64 u.1) ∧ ((aLookup Try.prog (heapOf [tkB 1 nx false, (.map (esV (es ++ [(u, ls, cl)])) (cl + 1) false), .dead, .cells 27 [.int .i64 u.1, LIT ls.length ty (ls.flatMap obL)] false, .dead, .dead] hp0).get 63 (.map (some 1)) (.int .i64 nx.1) true : Option Value) = some (.tuple #[nilS, .bool false]) ∧ (Q (.tuple #[nilS, iN 0]) [tkB 1 nx false, (.map (esV (es ++ [(u, ls, cl)])) (cl + 1) false)] [] [])))))))))
theorem Tac_e (ty : TypeId) (nx u : UN) (es : List Ent) (cl : Nat) (ls : List ObV) (W : Base) (X : Pins) (Q : Value → List Blk → List Nat → List Blk → Prop) : TacT ty nx u es cl ls W X Q = WF Try.prog ETa Try.f8 99 W 2 X 200 fbTa ⟨tmsOf [pb 0 0, .agg #[.int .i64 u.1, LIT ls.length ty (ls.flatMap obL)]] 0 .leaf, heapOf [tkB 1 nx false, .map (esV es) cl false, .dead] hp0, []⟩ (.h 6 (iN 0) [.dead] (.v 16 (.tuple #[nilS, .bool false]) (.b 31 (.stop 2 [] []) (.b 34 (.stop 2 [] []) (.h 46 (LIT ls.length 35 (ls.flatMap obL)) [.dead] (.e 47 (.tuple #[]) [.put 1 ((.map (esV (es ++ [(u, ls, cl)])) (cl + 1) false))] (.v 57 (.tuple #[nilS, .bool false]) (.stop 2 [] [])))))))) Q := by kernel_rfl
abbrev TadT (ty : TypeId) (nx u : UN) (es : List Ent) (cl : Nat) (ls : List ObV) (l os : List ObV) (ny : UN) (fs : List Ent) (W : Base) (X : Pins) (Q : Value → List Blk → List Nat → List Blk → Prop) : Prop := HT (gBC [.agg #[.int .i64 u.1, LIT ls.length ty (ls.flatMap obL)]]) (heapOf [tkB 1 nx false, (.map (esV es) cl false), .dead, .cells 27 [.int .i64 u.1, LIT ls.length ty (ls.flatMap obL)] false] hp0) (iN 0) [.dead] ∧ ((aLookup Try.prog (heapOf [tkB 1 nx false, (.map (esV es) cl false), .dead, .cells 27 [.int .i64 u.1, LIT ls.length ty (ls.flatMap obL)] false, .dead] hp0).get 63 (.map (some 1)) (.int .i64 u.1) true : Option Value) = some (.tuple #[nilS, .bool false]) ∧ (((decide ((far nx.1 u.1) ≥ (Int.ofNat 32768))) = true → Q (.tuple #[nilS, iN 10]) [tkB 1 nx false, (.map (esV es) cl false)] [] []) ∧ ((decide ((far nx.1 u.1) ≥ (Int.ofNat 32768))) = false → ((decide ((far nx.1 u.1) > (Int.ofNat 16))) = true → Q (.tuple #[nilS, iN 1]) [tkB 1 nx false, (.map (esV es) cl false)] [] []) ∧ ((decide ((far nx.1 u.1) > (Int.ofNat 16))) = false → HT (gCl [LIT ls.length ty (ls.flatMap obL)]) (heapOf [tkB 1 nx false, (.map (esV es) cl false), .dead, .cells 27 [.int .i64 u.1, LIT ls.length ty (ls.flatMap obL)] false, .dead] hp0) (LIT ls.length 35 (ls.flatMap obL)) [.dead] ∧ ((aUpdate Try.prog (heapOf [tkB 1 nx false, (.map (esV es) cl false), .dead, .cells 27 [.int .i64 u.1, LIT ls.length ty (ls.flatMap obL)] false, .dead, .dead] hp0).get 63 (.map (some 1)) (.int .i64 u.1) (LIT ls.length 35 (ls.flatMap obL))).map (fun es => (undef, es)) = some (.tuple #[], [.put 1 ((.map (esV (es ++ [(u, ls, cl)])) (cl + 1) false))]) ∧ ((some (.map (some 1)) : Option Value) = some (.map (some 1)) ∧ ((some (.int .i64 u.1) : Option Value) = some (.int .i64 u.1) ∧ ((aLookup Try.prog (heapOf [tkB 1 nx false, (.map (esV (es ++ [(u, ls, cl)])) (cl + 1) false), .dead, .cells 27 [.int .i64 u.1, LIT ls.length ty (ls.flatMap obL)] false, .dead, .dead] hp0).get 63 (.map (some 1)) (.int .i64 nx.1) true : Option Value) = some (.tuple #[LIT l.length 35 (l.flatMap obL), .bool true]) ∧ (FixM 2 [tkB 1 nx false, (.map (esV (es ++ [(u, ls, cl)])) (cl + 1) false)] ∧ (∀ g, FRm Try.prog 99 W 2 X lpTa (stOf 99 g [(0, pb 0 0), (4, nilS), (5, iN 0), (10, nilS), (11, LIT l.length 35 (l.flatMap obL)), (12, .bool true)] [tkB 1 nx false, (.map (esV (es ++ [(u, ls, cl)])) (cl + 1) false)]) (LQ (fun (_ : Unit) g => (.exit 1, stOf 99 g [(10, .slice (some ⟨2, 0, none⟩) os.length 37)] [tkB 1 ny false, (.map (esV fs) (cl + 1) false), (.cells 35 (os.flatMap obL) false)])) (fun (_ : Unit) => True))) ∧ (∀ (_ : Unit) (g : Nat → Value), True → Q (.tuple #[.slice (some ⟨2, 0, none⟩) os.length 37, iN 0]) [tkB 1 ny false, (.map (esV fs) (cl + 1) false)] [2] [(.cells 35 (os.flatMap obL) false)]))))))))))
theorem Tad_e (ty : TypeId) (nx u : UN) (es : List Ent) (cl : Nat) (ls : List ObV) (l os : List ObV) (ny : UN) (fs : List Ent) (W : Base) (X : Pins) (Q : Value → List Blk → List Nat → List Blk → Prop) : TadT ty nx u es cl ls l os ny fs W X Q = WF Try.prog ETa Try.f8 99 W 2 X 200 fbTa ⟨tmsOf [pb 0 0, .agg #[.int .i64 u.1, LIT ls.length ty (ls.flatMap obL)]] 0 .leaf, heapOf [tkB 1 nx false, .map (esV es) cl false, .dead] hp0, []⟩ (.h 6 (iN 0) [.dead] (.v 16 (.tuple #[nilS, .bool false]) (.b 31 (.stop 2 [] []) (.b 34 (.stop 2 [] []) (.h 46 (LIT ls.length 35 (ls.flatMap obL)) [.dead] (.e 47 (.tuple #[]) [.put 1 ((.map (esV (es ++ [(u, ls, cl)])) (cl + 1) false))] (.v 57 (.tuple #[LIT l.length 35 (l.flatMap obL), .bool true]) (.l 63 1002 [0, 1] [0, 4, 5, 10, 11, 12] Unit (fun (_ : Unit) g => (.exit 1, stOf 99 g [(10, .slice (some ⟨2, 0, none⟩) os.length 37)] [tkB 1 ny false, (.map (esV fs) (cl + 1) false), (.cells 35 (os.flatMap obL) false)])) (fun (_ : Unit) => True) (.stop 2 [2] []))))))))) Q := by kernel_rfl
abbrev Tl1T (nx : UN) (es : List Ent) (cl : Nat) (l : List ObV) (l' : List ObV) (g : Nat → Value) (Q : Exit → St → Prop) : Prop := aAppend Try.prog (heapOf [tkB 1 nx false, (.map (esV es) cl false), .dead] hp0).get 3 [25, 25] [nilS, LIT l.length 35 (l.flatMap obL)] = some (.slice (some ⟨3, 0, none⟩) l.length 37, [.push ((.cells 35 (l.flatMap obL) false))]) ∧ (aDelete Try.prog (heapOf [tkB 1 nx false, (.map (esV es) cl false), .dead, (.cells 35 (l.flatMap obL) false)] hp0).get [63, 3] [.map (some 1), .int .i64 nx.1] = some (.tuple #[], [.put 1 ((.map (esV (delE es nx)) cl false))]) ∧ ((aLookup Try.prog (heapOf [.cells 65 [.int .u32 (Int.ofNat 1), .int .i32 (Int.ofNat 0), .int .u32 (Int.ofNat 0), .map (some 1), .int .i64 (nxt nx.1)] false, (.map (esV (delE es nx)) cl false), .dead, (.cells 35 (l.flatMap obL) false)] hp0).get 63 (.map (some 1)) (.int .i64 (nxt nx.1)) true : Option Value) = some (.tuple #[LIT l'.length 35 (l'.flatMap obL), .bool true]) ∧ (FixM 6 [.cells 65 [.int .u32 (Int.ofNat 1), .int .i32 (Int.ofNat 0), .int .u32 (Int.ofNat 0), .map (some 1), .int .i64 (nxt nx.1)] false, (.map (esV (delE es nx)) cl false), (.cells 35 (l.flatMap obL) false)] ∧ ∀ g, Q .normal (stOf 99 g [(0, pb 0 0), (4, nilS), (5, iN 0), (10, .slice (some ⟨2, 0, none⟩) l.length 37), (11, LIT l'.length 35 (l'.flatMap obL)), (12, .bool true)] [.cells 65 [.int .u32 (Int.ofNat 1), .int .i32 (Int.ofNat 0), .int .u32 (Int.ofNat 0), .map (some 1), .int .i64 (nxt nx.1)] false, (.map (esV (delE es nx)) cl false), (.cells 35 (l.flatMap obL) false)]))))
theorem Tl1_e (nx : UN) (es : List Ent) (cl : Nat) (l : List ObV) (l' : List ObV) (g : Nat → Value) (Q : Exit → St → Prop) : Tl1T nx es cl l l' g Q = RM Try.prog ETa 99 2 200 lbTa (stOf 99 g [(0, pb 0 0), (4, nilS), (5, iN 0), (10, nilS), (11, LIT l.length 35 (l.flatMap obL)), (12, .bool true)] [tkB 1 nx false, (.map (esV es) cl false)]) (.e 3 (.slice (some ⟨3, 0, none⟩) l.length 37) [.push ((.cells 35 (l.flatMap obL) false))] (.e 13 (.tuple #[]) [.put 1 ((.map (esV (delE es nx)) cl false))] (.v 31 (.tuple #[LIT l'.length 35 (l'.flatMap obL), .bool true]) (.stop 6 [0, 1, 3] [0, 4, 5, 10, 11, 12])))) Q := by kernel_rfl
abbrev Tl2T (nx : UN) (es : List Ent) (cl : Nat) (l : List ObV) (g : Nat → Value) (Q : Exit → St → Prop) : Prop := aAppend Try.prog (heapOf [tkB 1 nx false, (.map (esV es) cl false), .dead] hp0).get 3 [25, 25] [nilS, LIT l.length 35 (l.flatMap obL)] = some (.slice (some ⟨3, 0, none⟩) l.length 37, [.push ((.cells 35 (l.flatMap obL) false))]) ∧ (aDelete Try.prog (heapOf [tkB 1 nx false, (.map (esV es) cl false), .dead, (.cells 35 (l.flatMap obL) false)] hp0).get [63, 3] [.map (some 1), .int .i64 nx.1] = some (.tuple #[], [.put 1 ((.map (esV (delE es nx)) cl false))]) ∧ ((aLookup Try.prog (heapOf [.cells 65 [.int .u32 (Int.ofNat 1), .int .i32 (Int.ofNat 0), .int .u32 (Int.ofNat 0), .map (some 1), .int .i64 (nxt nx.1)] false, (.map (esV (delE es nx)) cl false), .dead, (.cells 35 (l.flatMap obL) false)] hp0).get 63 (.map (some 1)) (.int .i64 (nxt nx.1)) true : Option Value) = some (.tuple #[nilS, .bool false]) ∧ (FixM 6 [.cells 65 [.int .u32 (Int.ofNat 1), .int .i32 (Int.ofNat 0), .int .u32 (Int.ofNat 0), .map (some 1), .int .i64 (nxt nx.1)] false, (.map (esV (delE es nx)) cl false), (.cells 35 (l.flatMap obL) false)] ∧ ∀ g, Q .normal (stOf 99 g [(0, pb 0 0), (4, nilS), (5, iN 0), (10, .slice (some ⟨2, 0, none⟩) l.length 37), (11, nilS), (12, .bool false)] [.cells 65 [.int .u32 (Int.ofNat 1), .int .i32 (Int.ofNat 0), .int .u32 (Int.ofNat 0), .map (some 1), .int .i64 (nxt nx.1)] false, (.map (esV (delE es nx)) cl false), (.cells 35 (l.flatMap obL) false)]))))
theorem Tl2_e (nx : UN) (es : List Ent) (cl : Nat) (l : List ObV) (g : Nat → Value) (Q : Exit → St → Prop) : Tl2T nx es cl l g Q = RM Try.prog ETa 99 2 200 lbTa (stOf 99 g [(0, pb 0 0), (4, nilS), (5, iN 0), (10, nilS), (11, LIT l.length 35 (l.flatMap obL)), (12, .bool true)] [tkB 1 nx false, (.map (esV es) cl false)]) (.e 3 (.slice (some ⟨3, 0, none⟩) l.length 37) [.push ((.cells 35 (l.flatMap obL) false))] (.e 13 (.tuple #[]) [.put 1 ((.map (esV (delE es nx)) cl false))] (.v 31 (.tuple #[nilS, .bool false]) (.stop 6 [0, 1, 3] [0, 4, 5, 10, 11, 12])))) Q := by kernel_rfl
abbrev Tl3T (nx : UN) (es : List Ent) (cl : Nat) (acc : List ObV) (l : List ObV) (l' : List ObV) (g : Nat → Value) (Q : Exit → St → Prop) : Prop := aAppend Try.prog (heapOf [tkB 1 nx false, (.map (esV es) cl false), (.cells 35 (acc.flatMap obL) false), .dead] hp0).get 4 [25, 25] [.slice (some ⟨2, 0, none⟩) acc.length 37, LIT l.length 35 (l.flatMap obL)] = some (.slice (some ⟨4, 0, none⟩) (acc.length + l.length) 37, [.put 2 (.dead), .push ((.cells 35 (acc.flatMap obL ++ l.flatMap obL) false))]) ∧ (aDelete Try.prog (heapOf [tkB 1 nx false, (.map (esV es) cl false), .dead, .dead, (.cells 35 (acc.flatMap obL ++ l.flatMap obL) false)] hp0).get [63, 3] [.map (some 1), .int .i64 nx.1] = some (.tuple #[], [.put 1 ((.map (esV (delE es nx)) cl false))]) ∧ ((aLookup Try.prog (heapOf [.cells 65 [.int .u32 (Int.ofNat 1), .int .i32 (Int.ofNat 0), .int .u32 (Int.ofNat 0), .map (some 1), .int .i64 (nxt nx.1)] false, (.map (esV (delE es nx)) cl false), .dead, .dead, (.cells 35 (acc.flatMap obL ++ l.flatMap obL) false)] hp0).get 63 (.map (some 1)) (.int .i64 (nxt nx.1)) true : Option Value) = some (.tuple #[LIT l'.length 35 (l'.flatMap obL), .bool true]) ∧ (FixM 6 [.cells 65 [.int .u32 (Int.ofNat 1), .int .i32 (Int.ofNat 0), .int .u32 (Int.ofNat 0), .map (some 1), .int .i64 (nxt nx.1)] false, (.map (esV (delE es nx)) cl false), (.cells 35 (acc.flatMap obL ++ l.flatMap obL) false)] ∧ ∀ g, Q .normal (stOf 99 g [(0, pb 0 0), (4, nilS), (5, iN 0), (10, .slice (some ⟨2, 0, none⟩) (acc.length + l.length) 37), (11, LIT l'.length 35 (l'.flatMap obL)), (12, .bool true)] [.cells 65 [.int .u32 (Int.ofNat 1), .int .i32 (Int.ofNat 0), .int .u32 (Int.ofNat 0), .map (some 1), .int .i64 (nxt nx.1)] false, (.map (esV (delE es nx)) cl false), (.cells 35 (acc.flatMap obL ++ l.flatMap obL) false)]))))
theorem Tl3_e (nx : UN) (es : List Ent) (cl : Nat) (acc : List ObV) (l : List ObV) (l' : List ObV) (g : Nat → Value) (Q : Exit → St → Prop) : Tl3T nx es cl acc l l' g Q = RM Try.prog ETa 99 2 200 lbTa (stOf 99 g [(0, pb 0 0), (4, nilS), (5, iN 0), (10, .slice (some ⟨2, 0, none⟩) acc.length 37), (11, LIT l.length 35 (l.flatMap obL)), (12, .bool true)] [tkB 1 nx false, (.map (esV es) cl false), (.cells 35 (acc.flatMap obL) false)]) (.e 3 (.slice (some ⟨4, 0, none⟩) (acc.length + l.length) 37) [.put 2 (.dead), .push ((.cells 35 (acc.flatMap obL ++ l.flatMap obL) false))] (.e 13 (.tuple #[]) [.put 1 ((.map (esV (delE es nx)) cl false))] (.v 31 (.tuple #[LIT l'.length 35 (l'.flatMap obL), .bool true]) (.stop 6 [0, 1, 4] [0, 4, 5, 10, 11, 12])))) Q := by kernel_rfl
abbrev Tl4T (nx : UN) (es : List Ent) (cl : Nat) (acc : List ObV) (l : List ObV) (g : Nat → Value) (Q : Exit → St → Prop) : Prop := aAppend Try.prog (heapOf [tkB 1 nx false, (.map (esV es) cl false), (.cells 35 (acc.flatMap obL) false), .dead] hp0).get 4 [25, 25] [.slice (some ⟨2, 0, none⟩) acc.length 37, LIT l.length 35 (l.flatMap obL)] = some (.slice (some ⟨4, 0, none⟩) (acc.length + l.length) 37, [.put 2 (.dead), .push ((.cells 35 (acc.flatMap obL ++ l.flatMap obL) false))]) ∧ (aDelete Try.prog (heapOf [tkB 1 nx false, (.map (esV es) cl false), .dead, .dead, (.cells 35 (acc.flatMap obL ++ l.flatMap obL) false)] hp0).get [63, 3] [.map (some 1), .int .i64 nx.1] = some (.tuple #[], [.put 1 ((.map (esV (delE es nx)) cl false))]) ∧ ((aLookup Try.prog (heapOf [.cells 65 [.int .u32 (Int.ofNat 1), .int .i32 (Int.ofNat 0), .int .u32 (Int.ofNat 0), .map (some 1), .int .i64 (nxt nx.1)] false, (.map (esV (delE es nx)) cl false), .dead, .dead, (.cells 35 (acc.flatMap obL ++ l.flatMap obL) false)] hp0).get 63 (.map (some 1)) (.int .i64 (nxt nx.1)) true : Option Value) = some (.tuple #[nilS, .bool false]) ∧ (FixM 6 [.cells 65 [.int .u32 (Int.ofNat 1), .int .i32 (Int.ofNat 0), .int .u32 (Int.ofNat 0), .map (some 1), .int .i64 (nxt nx.1)] false, (.map (esV (delE es nx)) cl false), (.cells 35 (acc.flatMap obL ++ l.flatMap obL) false)] ∧ ∀ g, Q .normal (stOf 99 g [(0, pb 0 0), (4, nilS), (5, iN 0), (10, .slice (some ⟨2, 0, none⟩) (acc.length + l.length) 37), (11, nilS), (12, .bool false)] [.cells 65 [.int .u32 (Int.ofNat 1), .int .i32 (Int.ofNat 0), .int .u32 (Int.ofNat 0), .map (some 1), .int .i64 (nxt nx.1)] false, (.map (esV (delE es nx)) cl false), (.cells 35 (acc.flatMap obL ++ l.flatMap obL) false)]))))
theorem Tl4_e (nx : UN) (es : List Ent) (cl : Nat) (acc : List ObV) (l : List ObV) (g : Nat → Value) (Q : Exit → St → Prop) : Tl4T nx es cl acc l g Q = RM Try.prog ETa 99 2 200 lbTa (stOf 99 g [(0, pb 0 0), (4, nilS), (5, iN 0), (10, .slice (some ⟨2, 0, none⟩) acc.length 37), (11, LIT l.length 35 (l.flatMap obL)), (12, .bool true)] [tkB 1 nx false, (.map (esV es) cl false), (.cells 35 (acc.flatMap obL) false)]) (.e 3 (.slice (some ⟨4, 0, none⟩) (acc.length + l.length) 37) [.put 2 (.dead), .push ((.cells 35 (acc.flatMap obL ++ l.flatMap obL) false))] (.e 13 (.tuple #[]) [.put 1 ((.map (esV (delE es nx)) cl false))] (.v 31 (.tuple #[nilS, .bool false]) (.stop 6 [0, 1, 4] [0, 4, 5, 10, 11, 12])))) Q := by kernel_rfl
abbrev Tl5T (nx : UN) (es : List Ent) (cl : Nat) (acc : List ObV) (g : Nat → Value) (Q : Exit → St → Prop) : Prop := FixM 6 [tkB 1 nx false, (.map (esV es) cl false), (.cells 35 (acc.flatMap obL) false)] ∧ ∀ g, Q (.exit 1) (stOf 99 g [(10, .slice (some ⟨2, 0, none⟩) acc.length 37)] [tkB 1 nx false, (.map (esV es) cl false), (.cells 35 (acc.flatMap obL) false)])
theorem Tl5_e (nx : UN) (es : List Ent) (cl : Nat) (acc : List ObV) (g : Nat → Value) (Q : Exit → St → Prop) : Tl5T nx es cl acc g Q = RM Try.prog ETa 99 2 200 lbTa (stOf 99 g [(0, pb 0 0), (4, nilS), (5, iN 0), (10, .slice (some ⟨2, 0, none⟩) acc.length 37), (11, nilS), (12, .bool false)] [tkB 1 nx false, (.map (esV es) cl false), (.cells 35 (acc.flatMap obL) false)]) (.stop 6 [0, 1, 2] [10]) Q := by kernel_rfl
theorem loopTa (nx : UN) (es : List Ent) (cl : Nat) (l os : List ObV) (ny : UN) (fs : List Ent) (hx : lookE es nx = some l) (ok : OkT es cl) (hr : drE nx es = (os, ny, fs)) (W : Base) (X : Pins) (g : Nat → Value) :
    FRm Try.prog 99 W 2 X lpTa (stOf 99 g [(0, pb 0 0), (4, nilS), (5, iN 0), (10, nilS), (11, LIT l.length 35 (l.flatMap obL)), (12, .bool true)] [tkB 1 nx false, (.map (esV es) cl false)]) (LQ (fun (_ : Unit) g => (.exit 1, stOf 99 g [(10, .slice (some ⟨2, 0, none⟩) os.length 37)] [tkB 1 ny false, (.map (esV fs) cl false), (.cells 35 (os.flatMap obL) false)])) (fun (_ : Unit) => True)) := by
  rw [lpTa_eq]
  have hn := ok.size
  refine FRm.loop (fun k st =>
    (∃ nx es l g, k = es.length + 1 ∧ st = (stOf 99 g [(0, pb 0 0), (4, nilS), (5, iN 0), (10, nilS), (11, LIT l.length 35 (l.flatMap obL)), (12, .bool true)] [tkB 1 nx false, (.map (esV es) cl false)]) ∧ lookE es nx = some l ∧ OkT es cl ∧ es.length < 1000000 ∧ drE nx es = (os, ny, fs)) ∨
    (∃ acc nx es l g, k = es.length + 1 ∧ st = (stOf 99 g [(0, pb 0 0), (4, nilS), (5, iN 0), (10, .slice (some ⟨2, 0, none⟩) acc.length 37), (11, LIT l.length 35 (l.flatMap obL)), (12, .bool true)] [tkB 1 nx false, (.map (esV es) cl false), (.cells 35 (acc.flatMap obL) false)]) ∧ lookE es nx = some l ∧ OkT es cl ∧ acc.length + 32 * es.length ≤ 32000000 ∧ acc ++ (drE nx es).1 = os ∧ (drE nx es).2 = (ny, fs)) ∨
    (∃ acc nx es g, k = es.length + 1 ∧ st = (stOf 99 g [(0, pb 0 0), (4, nilS), (5, iN 0), (10, .slice (some ⟨2, 0, none⟩) acc.length 37), (11, nilS), (12, .bool false)] [tkB 1 nx false, (.map (esV es) cl false), (.cells 35 (acc.flatMap obL) false)]) ∧ acc = os ∧ (nx, es) = (ny, fs))) (fun k st => ?_) (k := es.length + 1) (.inl ⟨nx, es, l, g, rfl, rfl, hx, ok, hn, hr⟩)
  rintro (⟨nx, es, l, g, rfl, rfl, hl, ok, hn, hr⟩ | ⟨acc, nx, es, l, g, rfl, rfl, hl, ok, hn, hr1, hr2⟩ | ⟨acc, nx, es, g, rfl, rfl, rfl, hq⟩)
  · obtain ⟨e0, he0, -, he1⟩ := lookE_mem hl
    obtain ⟨hl0, hl32⟩ := ok.len e0 he0
    rw [he1] at hl0 hl32
    have hd := delE_len hl
    have ok' : OkT (delE es nx) cl := ok.sub (delE_sub nx es) (Nat.le_refl _)
    have hr' := drE_some hl
    rw [hr] at hr'
    simp only [Prod.mk.injEq] at hr'
    obtain ⟨hr1, hr2⟩ := hr'
    cases hx : lookE (delE es nx) (nxU nx) with
    | some l' =>
      refine FRm.pieceM ETa_ok follows slTa (Tl1_e nx es cl l l' g _) ?_
      refine ⟨app_nil elO (fun _ => src_lit (obR_len l)) (obR_one l) (obR_len l) hl0 (by omega), ⟨adel (hgn rfl) hl, ⟨alook_hit (k := nxU nx) (hgn rfl) hx, ⟨fxM6 (esB_inert _ _ _) (obR_inert _), fun g => ?_⟩⟩⟩⟩
      exact .inl ⟨rfl, _, Nat.lt_of_lt_of_eq (Nat.lt_succ_self _) (congrArg (· + 1) hd), .inr (.inl ⟨l, nxU nx, delE es nx, l', g, rfl, rfl, hx, ok', by omega, hr1.symm, hr2.symm⟩)⟩
    | none =>
      refine FRm.pieceM ETa_ok follows slTa (Tl2_e nx es cl l g _) ?_
      refine ⟨app_nil elO (fun _ => src_lit (obR_len l)) (obR_one l) (obR_len l) hl0 (by omega), ⟨adel (hgn rfl) hl, ⟨alook_miss (k := nxU nx) (hgn rfl) hx, ⟨fxM6 (esB_inert _ _ _) (obR_inert _), fun g => ?_⟩⟩⟩⟩
      have e := drE_none hx
      rw [e] at hr1 hr2
      exact .inl ⟨rfl, _, Nat.lt_of_lt_of_eq (Nat.lt_succ_self _) (congrArg (· + 1) hd), .inr (.inr ⟨l, nxU nx, delE es nx, g, rfl, rfl, by rw [hr1, List.append_nil], hr2.symm⟩)⟩
  · obtain ⟨e0, he0, -, he1⟩ := lookE_mem hl
    obtain ⟨hl0, hl32⟩ := ok.len e0 he0
    rw [he1] at hl0 hl32
    have hd := delE_len hl
    have ok' : OkT (delE es nx) cl := ok.sub (delE_sub nx es) (Nat.le_refl _)
    have hr' := drE_some hl
    rw [hr'] at hr1 hr2
    simp only at hr1 hr2
    cases hx : lookE (delE es nx) (nxU nx) with
    | some l' =>
      refine FRm.pieceM ETa_ok follows slTa (Tl3_e nx es cl acc l l' g _) ?_
      refine ⟨app_row elO (fun _ => src_lit (obR_len l)) (obR_one l) (obR_len l) hl0 (by omega) (hgn rfl) (obR_len acc), ⟨adel (hgn rfl) hl, ⟨alook_hit (k := nxU nx) (hgn rfl) hx, ⟨fxM6 (esB_inert _ _ _) ?_, fun g => ?_⟩⟩⟩⟩
      · rw [← List.flatMap_append]; exact obR_inert _
      · exact .inl ⟨rfl, _, Nat.lt_of_lt_of_eq (Nat.lt_succ_self _) (congrArg (· + 1) hd), .inr (.inl ⟨acc ++ l, nxU nx, delE es nx, l', g, rfl, by rw [List.flatMap_append, List.length_append]; rfl, hx, ok', by rw [List.length_append]; omega, by rw [List.append_assoc]; exact hr1, hr2⟩)⟩
    | none =>
      refine FRm.pieceM ETa_ok follows slTa (Tl4_e nx es cl acc l g _) ?_
      refine ⟨app_row elO (fun _ => src_lit (obR_len l)) (obR_one l) (obR_len l) hl0 (by omega) (hgn rfl) (obR_len acc), ⟨adel (hgn rfl) hl, ⟨alook_miss (k := nxU nx) (hgn rfl) hx, ⟨fxM6 (esB_inert _ _ _) ?_, fun g => ?_⟩⟩⟩⟩
      · rw [← List.flatMap_append]; exact obR_inert _
      · have e := drE_none hx
        rw [e] at hr1 hr2
        exact .inl ⟨rfl, _, Nat.lt_of_lt_of_eq (Nat.lt_succ_self _) (congrArg (· + 1) hd), .inr (.inr ⟨acc ++ l, nxU nx, delE es nx, g, rfl, by rw [List.flatMap_append, List.length_append]; rfl, by rw [← hr1, List.append_nil], hr2⟩)⟩
  · refine FRm.pieceM ETa_ok follows slTa (Tl5_e nx es cl acc g _) ?_
    refine ⟨fxM6 (esB_inert _ _ _) (obR_inert _), fun g => ?_⟩
    cases hq
    exact .inr ⟨by simp, (), g, trivial, rfl, rfl⟩
theorem stayV_nilT (e : Nat) : stayV (.tuple #[nilS, iN e]) := ⟨rfl, fun _ => by simp [mv3, mv2, mv1, iN, nilS]⟩
def outR (os : List ObV) (e : Nat) : Nat → Value × List Blk := match os with
  | [] => fun _ => (.tuple #[nilS, iN e], [])
  | o :: os => fun B => (.tuple #[.slice (some ⟨B, 0, none⟩) (o :: os).length 37, iN e], [.cells 35 ((o :: os).flatMap obL) false])
theorem outR_pos {os : List ObV} {e : Nat} (h : 0 < os.length) (B : Nat) : outR os e B = (.tuple #[.slice (some ⟨B, 0, none⟩) os.length 37, iN e], [.cells 35 (os.flatMap obL) false]) := by
  cases os with
  | nil => simp at h
  | cons o os => rfl
theorem okB_rng {num : Int} {ls : List ObV} (h : okB num ls = true) : (0 ≤ num ∧ num < 65536) ∧ 0 < ls.length ∧ ls.length ≤ 32 := by
  unfold okB at h
  have := of_decide_eq_true (Bool.and_eq_true_iff.1 h).1
  omega
def takeF (nx : UN) (es : List Ent) (cl : Nat) (num : Int) (ls : List ObV) : (List ObV × Nat) × UN × List Ent × Nat :=
  if h : okB num ls = true then
    if far nx.1 num ≥ Int.ofNat 32768 then (([], 10), nx, es, cl)
    else if far nx.1 num > Int.ofNat 16 then (([], 1), nx, es, cl)
    else if (lookE es ⟨num, (okB_rng h).1⟩).isSome then (([], 9), nx, es, cl)
    else (((drE nx (es ++ [(⟨num, (okB_rng h).1⟩, ls, cl)])).1, 0), (drE nx (es ++ [(⟨num, (okB_rng h).1⟩, ls, cl)])).2.1, (drE nx (es ++ [(⟨num, (okB_rng h).1⟩, ls, cl)])).2.2, cl + 1)
  else (([], 1), nx, es, cl)
open Classical in
noncomputable def GTa : TkW := fun rest nx es cl => match rest with
  | [.agg ⟨[.int .i64 num, .iface n (.iface ty (.agg cs))]⟩] => match obsOf n cs with
    | some ls => if OkT es cl ∧ es.length + 1 < 1000000 then some (outR (takeF nx es cl num ls).1.1 (takeF nx es cl num ls).1.2, (takeF nx es cl num ls).2) else none
    | none => none
  | _ => none
noncomputable def gTa : HeapFn := tkRw GTa
theorem hkTa : CallGoal Try.prog 8 gTa := tkRwG Try.func8 bodyTa (by kernel_rfl) fun rest nx es cl r h => by
  unfold GTa at h
  split at h
  case h_2 => cases h
  rename_i num n ty cs
  split at h
  case h_2 => cases h
  rename_i ls hls
  split at h
  case isFalse => cases h
  rename_i hc
  obtain ⟨ok, hn⟩ := hc
  cases h
  obtain ⟨rfl, rfl⟩ := obsOf_some hls
  rw [ntTa]
  refine ⟨fun x hx => ?_, by simp, fun b mb B g W X => ?_⟩
  · simp only [List.mem_singleton] at hx
    subst hx
    exact ⟨rfl, fun _ => by simp [mv3, mv2, mv1]⟩
  show FRm Try.prog 99 W 2 X fbTa ⟨tmsOf [pb 0 0, .agg #[.int .i64 num, LIT ls.length ty (ls.flatMap obL)]] 0 .leaf, heapOf [tkB 1 nx false, .map (esV es) cl false, .dead] hp0, []⟩ _
  by_cases hok : okB num ls = true
  · obtain ⟨hnum, h0, h32⟩ := okB_rng hok
    have ht : takeF nx es cl num ls = if far nx.1 num ≥ Int.ofNat 32768 then (([], 10), nx, es, cl)
      else if far nx.1 num > Int.ofNat 16 then (([], 1), nx, es, cl)
      else if (lookE es ⟨num, hnum⟩).isSome then (([], 9), nx, es, cl)
      else (((drE nx (es ++ [(⟨num, hnum⟩, ls, cl)])).1, 0), (drE nx (es ++ [(⟨num, hnum⟩, ls, cl)])).2.1, (drE nx (es ++ [(⟨num, hnum⟩, ls, cl)])).2.2, cl + 1) := by
      unfold takeF; rw [dif_pos hok]
    rw [ht]
    generalize hu' : (⟨num, hnum⟩ : UN) = u
    have hun : num = u.1 := by rw [← hu']
    subst hun
    clear hu' ht hnum
    cases hu : lookE es u with
    | some l0 =>
      refine FRm.pieceWF ETa_ok follows sTa (Tab_e ty nx u es cl ls l0 W X _) ?_
      refine ⟨gBC_ok hok, ⟨alook_hit (hgn rfl) hu, ⟨fun h_31 => ?a, fun h_31 => ⟨fun h_34 => ?b, fun h_34 => ?c⟩⟩⟩⟩
      case a =>
        have := of_decide_eq_true h_31
        rw [if_pos this]; exact EndQ.tk0 (stayV_nilT _)
      case b =>
        have e1 := of_decide_eq_false h_31
        have e2 := of_decide_eq_true h_34
        rw [if_neg e1, if_pos e2]; exact EndQ.tk0 (stayV_nilT _)
      case c =>
        have e1 := of_decide_eq_false h_31
        have e2 := of_decide_eq_false h_34
        rw [if_neg e1, if_neg e2, if_pos (Option.isSome_some)]; exact EndQ.tk0 (stayV_nilT _)
    | none =>
      have ok2 := ok.add (u := u) (ls := ls) hn hu h0 h32
      cases hx : lookE (es ++ [(u, ls, cl)]) nx with
      | none =>
        have hd := drE_none hx
        refine FRm.pieceWF ETa_ok follows sTa (Tac_e ty nx u es cl ls W X _) ?_
        refine ⟨gBC_ok hok, ⟨alook_miss (hgn rfl) hu, ⟨fun h_31 => ?a, fun h_31 => ⟨fun h_34 => ?b, fun h_34 => ⟨gCl_of (by omega) h0, ⟨aupdE (hgn rfl) hu, ⟨rfl, ⟨rfl, ⟨alook_miss (hgn rfl) hx, ?c⟩⟩⟩⟩⟩⟩⟩⟩⟩
        case a =>
          have := of_decide_eq_true h_31
          rw [if_pos this]; exact EndQ.tk0 (stayV_nilT _)
        case b =>
          have e1 := of_decide_eq_false h_31
          have e2 := of_decide_eq_true h_34
          rw [if_neg e1, if_pos e2]; exact EndQ.tk0 (stayV_nilT _)
        case c =>
          have e1 := of_decide_eq_false h_31
          have e2 := of_decide_eq_false h_34
          rw [if_neg e1, if_neg e2, if_neg (by simp), hd]; exact EndQ.tk0 (stayV_nilT _)
      | some l =>
        obtain ⟨e0, he0, -, he1⟩ := lookE_mem hx
        obtain ⟨hl0, hl32⟩ := ok2.len e0 he0
        rw [he1] at hl0 hl32
        have hd := drE_some hx
        generalize hos : drE nx (es ++ [(u, ls, cl)]) = D at *
        obtain ⟨os, ny, fs⟩ := D
        have hos0 : 0 < os.length := by
          have : os = l ++ _ := congrArg Prod.fst hd
          rw [this, List.length_append]; omega
        have hloop := fun g => loopTa nx (es ++ [(u, ls, cl)]) (cl + 1) l os ny fs hx ok2 hos W X g
        refine FRm.pieceWF ETa_ok follows sTa (Tad_e ty nx u es cl ls l os ny fs W X _) ?_
        refine ⟨gBC_ok hok, ⟨alook_miss (hgn rfl) hu, ⟨fun h_31 => ?a, fun h_31 => ⟨fun h_34 => ?b, fun h_34 => ⟨gCl_of (by omega) h0, ⟨aupdE (hgn rfl) hu, ⟨rfl, ⟨rfl, ⟨alook_hit (hgn rfl) hx, ⟨fxM2 (esB_inert _ _ _), hloop, fun _ g hok => ?c⟩⟩⟩⟩⟩⟩⟩⟩⟩⟩
        case a =>
          have := of_decide_eq_true h_31
          rw [if_pos this]; exact EndQ.tk0 (stayV_nilT _)
        case b =>
          have e1 := of_decide_eq_false h_31
          have e2 := of_decide_eq_true h_34
          rw [if_neg e1, if_pos e2]; exact EndQ.tk0 (stayV_nilT _)
        case c =>
          have e1 := of_decide_eq_false h_31
          have e2 := of_decide_eq_false h_34
          rw [if_neg e1, if_neg e2, if_neg (by simp)]
          simp only
          rw [outR_pos hos0]
          exact EndQ.tk1 (by decide) (obR_inert _)
  · have ht : takeF nx es cl num ls = (([], 1), nx, es, cl) := by unfold takeF; rw [dif_neg hok]
    rw [ht]
    replace hok : okB num ls = false := by simpa using hok
    refine FRm.pieceWF ETa_ok follows sTa (Taa_e ty nx num es cl ls W X _) ?_
    refine ⟨gBC_no hok, ?_⟩
    exact EndQ.tk0 (stayV_nilT _)
theorem gTa_of {hp : Hp} {b mb : Nat} {nx : UN} {es : List Ent} {cl : Nat} {num : Int} {ty : TypeId} {ls : List ObV} (h : TkAt hp b mb nx es cl false false) (ok : OkT es cl) (hn : es.length + 1 < 1000000) :
    gTa [pb b 0, .agg #[.int .i64 num, LIT ls.length ty (ls.flatMap obL)]] hp = some ((outR (takeF nx es cl num ls).1.1 (takeF nx es cl num ls).1.2 hp.sz).1, heapOf ((outR (takeF nx es cl num ls).1.1 (takeF nx es cl num ls).1.2 hp.sz).2 ++ [.dead]) ((hp.put b (tkB mb (takeF nx es cl num ls).2.1 false)).put mb (.map (esV (takeF nx es cl num ls).2.2.1) (takeF nx es cl num ls).2.2.2 false))) := by
  refine tkRw_of (G := GTa) (rest := [.agg #[.int .i64 num, LIT ls.length ty (ls.flatMap obL)]]) (r := (outR (takeF nx es cl num ls).1.1 (takeF nx es cl num ls).1.2, (takeF nx es cl num ls).2)) h ?_
  unfold GTa
  simp only [obsOf_eq]
  rw [if_pos ⟨ok, hn⟩]
end Go.Proofs.Ytbhmodlpolgklaa.Tk
namespace Go.Proofs.Ytbhmodlpolgklaa.Tk
open Go Go.Proofs Go.Proofs.Ytbhmodlpolgklaa.AI Go.RowKit
noncomputable def fbNw : Code := (Try.f7.body).getD .skip
theorem bodyNw : Try.f7.body = some fbNw := by kernel_rfl
theorem ntNw : Try.f7.ntmps = 10 := by kernel_rfl
theorem sNw : codeSafe Try.prog 10 fbNw = true := by kernel_rfl
noncomputable def ENw : Ext := extOf Try.prog
theorem ENw_ok : ExtOk Try.prog ENw := extOf_ok _
theorem Nw_e (Q : Value → List Blk → List Nat → List Blk → Prop) : Q (pb 1 0) [] [1, 3] [.cells 65 [.int .u32 (Int.ofNat 1), .int .i32 (Int.ofNat 0), .int .u32 (Int.ofNat 0), .map (some 3), .int .i64 (Int.ofNat 0)] false, .map [] 0 false] = RF Try.prog ENw Try.f7 4000 fbNw ⟨tmsOf [] 0 .leaf, heapOf [.dead] hp0, []⟩ (.stop 0 [1, 3] []) Q := by kernel_rfl
def u0 : UN := ⟨0, by decide⟩
noncomputable def GNw : Deep := fun args => match args with
  | [] => some fun B => (pb B 0, [tkB (B + 1) u0 false, .map [] 0 false])
  | _ => none
noncomputable def gNw : HeapFn := tellK GNw
theorem hkNw : CallGoal Try.prog 7 gNw := deepG follows Try.func7 bodyNw (by kernel_rfl) fun args r h => by
  unfold GNw at h
  split at h
  case h_2 => cases h
  cases h
  rw [ntNw]
  refine ⟨fun x hx => (by cases hx), by decide, fun B g W X => ?_⟩
  refine FRm.pieceF ENw_ok follows sNw (Nw_e _) ?_
  refine ⟨rfl, rfl, rfl, rfl, rfl, ⟨[some 0, some 1], [.cells 65 [.int .u32 (Int.ofNat 1), .int .i32 (Int.ofNat 0), .int .u32 (Int.ofNat 0), .map (some 3), .int .i64 (Int.ofNat 0)] false, .map [] 0 false], [some 1, some 3], rfl, rfl, rfl, (fun i b h => by simp at h), rfl⟩, fun i b h => by simp at h⟩
theorem gNw_of {hp : Hp} : gNw [] hp = some (pb hp.sz 0, heapOf [tkB (hp.sz + 1) u0 false, .map [] 0 false, .dead] hp) := rfl
noncomputable def EOn : Ext := extH Try.prog []
theorem EOn_ok : ExtOk Try.prog EOn := extH_ok .nil
noncomputable def fbOn : Code := (Try.f13.body).getD .skip
theorem bodyOn : Try.f13.body = some fbOn := by kernel_rfl
theorem ntOn : Try.f13.ntmps = 10 := by kernel_rfl
theorem sOn : codeSafe Try.prog 10 fbOn = true := by kernel_rfl
abbrev OnlT (n dd : Int) (Q : Exit → St → Prop) : Prop := ∀ g, Q .ret (stOf 10 g [(4, pb 0 0)] [.cells 27 [.int .i64 n, .slice (some ⟨1, 0, none⟩) 1 37] false, .cells 35 [iN 1, .int .i64 dd, .bool false, iN 0, iN 0, iN 0, iN 0, iN 0, iN 0, iN 0, iN 0, iN 0] false])
theorem Onl_e (n dd : Int) (Q : Exit → St → Prop) : OnlT n dd Q = RT Try.prog EOn 10 0 60 fbOn ⟨tmsOf [.int .i64 n, .int .i64 dd] 0 .leaf, heapOf [.dead] hp0, []⟩ (.stop 0 [1, 2] [4]) Q := by kernel_rfl
def qry (dd : Int) : ObV := ⟨1, dd, false, 0, 0, 0, 0, 0, 0, 0, 0, 0⟩
theorem Onl_run (n dd : Int) (W : Base) (X : Pins) : FRm Try.prog 10 W 0 X fbOn ⟨tmsOf [.int .i64 n, .int .i64 dd] 0 .leaf, heapOf [.dead] hp0, []⟩ fun e st => e = .ret ∧ ∃ g, st = stOf 10 g [(4, pb 0 0)] [.cells 27 [.int .i64 n, .slice (some ⟨1, 0, none⟩) 1 37] false, .cells 35 [iN 1, .int .i64 dd, .bool false, iN 0, iN 0, iN 0, iN 0, iN 0, iN 0, iN 0, iN 0, iN 0] false] := by
  refine FRm.pieceT EOn_ok follows sOn (Onl_e n dd _) ?_
  refine fun g => ?_
  exact ⟨rfl, g, rfl⟩
noncomputable def GOn : Deep := fun args => match args with
  | [.int .i64 n, .int .i64 dd] => some fun _ => (.agg #[.int .i64 n, LIT 1 35 (obL (qry dd))], [])
  | _ => none
noncomputable def gOn : HeapFn := tellK GOn
theorem hkOn : CallGoal Try.prog 13 gOn := deepG follows Try.func13 bodyOn (by kernel_rfl) fun args r h => by
  unfold GOn at h
  split at h
  case h_2 => cases h
  rename_i n dd
  cases h
  rw [ntOn]
  refine ⟨fun x hx => ?_, by simp, fun B g W X => ?_⟩
  · simp only [List.mem_cons, List.not_mem_nil, or_false] at hx
    rcases hx with rfl | rfl <;> exact stayV_int _ _
  · have h2 := FRm.post_lit (O' := [.cells 27 [.int .i64 n, LIT 1 35 (obL (qry dd))] false, .dead]) (T' := [(4, pb 0 0)]) (k := 1) (L := obL (qry dd)) (ty := 35) (Onl_run n dd W X) rfl ?_ rfl rfl (fun i o o' hi h1 h2 => ?_) (fun g t => .same)
    · refine FRm.mono h2 fun e st q => ?_
      obtain ⟨rfl, g, rfl⟩ := q
      exact ⟨.inr rfl, rfl, _, 0, [], [], [], rfl, rfl, rfl, EndQ.pure ⟨rfl, fun _ => by simp [mv3, mv2, mv1]⟩ rfl⟩
    · rfl
    · match i with
      | 0 =>
        cases h1; cases h2
        refine .cells rfl (fun i v v' q1 q2 => ?_) rfl
        match i with
        | 0 => cases q1; cases q2; exact .same
        | 1 => cases q1; cases q2; exact .lit (by decide)
        | i + 2 => simp at q1
      | 1 => exact absurd rfl hi
      | i + 2 => simp at h1
theorem gOn_of {n dd : Int} {hp : Hp} : gOn [.int .i64 n, .int .i64 dd] hp = some (.agg #[.int .i64 n, LIT 1 35 (obL (qry dd))], heapOf [.dead] hp) := rfl
abbrev Bat := Int × List ObV × TypeId
def baL (x : Bat) : List Value := [.int .i64 x.1, LIT x.2.1.length x.2.2 (x.2.1.flatMap obL)]
def baB (ty : TypeId) (bs : List Bat) : Blk := .cells ty (bs.flatMap baL) true
theorem baR_inert (bs : List Bat) : ((bs.flatMap baL).all inert) = true := List.all_eq_true.2 fun v hv => by
  obtain ⟨x, -, hx⟩ := List.mem_flatMap.1 hv
  simp only [baL, List.mem_cons, List.not_mem_nil, or_false] at hx
  rcases hx with rfl | rfl <;> rfl
theorem baB_inert (ty : TypeId) (bs : List Bat) : inertB (baB ty bs) = true := baR_inert bs
theorem baL_len (x : Bat) : (baL x).length = 2 := rfl
theorem agg27 : tagg Try.prog 27 = some true := by kernel_rfl
theorem siz27 : tsize Try.prog 27 = some 2 := by kernel_rfl
theorem agg25 : tagg Try.prog 25 = some false := by kernel_rfl
theorem siz25 : tsize Try.prog 25 = some 1 := by kernel_rfl
theorem bidx {b n c i : Nat} (h : i < n) : fstV ((aIndexAddr Try.prog 24 (.slice (some ⟨b, 0, none⟩) n c) (iN i)).map fun v => (v, none)) = some (pb b (i * 2)) := ridx Try.underlying24 siz27 h
theorem bload {hp : Hp} {b : Nat} {ty : TypeId} {bs : List Bat} {i : Nat} {x : Bat} (hg : hp.get b = some (baB ty bs)) (h : bs[i]? = some x) : aLoad Try.prog hp.get 27 (pb b (i * 2)) = some (.agg #[.int .i64 x.1, LIT x.2.1.length x.2.2 (x.2.1.flatMap obL)]) := rload agg27 siz27 baL_len hg h
theorem bload1 {hp : Hp} {b : Nat} {ty : TypeId} {bs : List Bat} {i : Nat} {x : Bat} (hg : hp.get b = some (baB ty bs)) (h : bs[i]? = some x) : aLoad Try.prog hp.get 25 (pb b ((i * 2) + 1)) = some (LIT x.2.1.length x.2.2 (x.2.1.flatMap obL)) := by
  have e : (bs.flatMap baL)[i * 2 + 1]? = (baL x)[1]? := flat_get baL 2 bs (fun _ _ => rfl) i 1 x h (by decide)
  simp only [pb, aLoad, hg, baB, agg25, siz25, e]
  rfl
def okF (x : Bat) : Bool := decide (x.2.1.length ≤ 60)
theorem few_lt {i n : Nat} (h : i < n) (h7 : decide (Int.ofNat n ≤ Int.ofNat 100) = true) : i < 1000000 := by
  have := Int.ofNat_le.1 (of_decide_eq_true h7)
  omega
def fewB (bs : List Bat) : Bool := decide (bs.length ≤ 100) && bs.all okF
noncomputable def EFe : Ext := extH Try.prog []
theorem EFe_ok : ExtOk Try.prog EFe := extH_ok .nil
noncomputable def fbFe : Code := (Try.f11.body).getD .skip
theorem bodyFe : Try.f11.body = some fbFe := by kernel_rfl
theorem ntFe : Try.f11.ntmps = 25 := by kernel_rfl
theorem sFe : codeSafe Try.prog 25 fbFe = true := by kernel_rfl
noncomputable def lpFe : Code := pB (pR (pL (pR (fbFe))))
noncomputable def lbFe : Code := pU lpFe
theorem lpFe_eq : lpFe = .loop lbFe := by kernel_rfl
theorem slFe : codeSafe Try.prog 25 lbFe = true := by kernel_rfl
abbrev FeT (ty : TypeId) (bs : List Bat) (c : Nat) (W : Base) (X : Pins) (Q : Value → List Blk → List Nat → List Blk → Prop) : Prop := FixO 1 [(baB ty bs)] ∧ (∀ g, FRm Try.prog 25 W 1 X lpFe (stOf 25 g [(0, .slice (some ⟨0, 0, none⟩) bs.length c), (3, iN 0)] [(baB ty bs)]) (LQ2 (fun (_ : Unit) g => (.exit 0, stOf 25 g [(0, .slice (some ⟨0, 0, none⟩) bs.length c)] [(baB ty bs)])) (fun (_ : Unit) => (bs.length ≤ 100 → (bs.all okF) = true)) (fun (_ : Unit) g => (.ret, stOf 25 g [(2, .bool false)] [(baB ty bs)])) (fun (_ : Unit) => (bs.all okF) = false))) ∧ (∀ (_ : Unit) (g : Nat → Value), (bs.length ≤ 100 → (bs.all okF) = true) → Q (.bool (decide ((Int.ofNat bs.length) ≤ (Int.ofNat 100)))) [(baB ty bs)] [] []) ∧ (∀ (_ : Unit) (g : Nat → Value), (bs.all okF) = false → Q (.bool false) [(baB ty bs)] [] [])
theorem Fe_e (ty : TypeId) (bs : List Bat) (c : Nat) (W : Base) (X : Pins) (Q : Value → List Blk → List Nat → List Blk → Prop) : FeT ty bs c W X Q = WF Try.prog EFe Try.f11 25 W 1 X 60 fbFe ⟨tmsOf [.slice (some ⟨0, 0, none⟩) bs.length c] 0 .leaf, heapOf [baB ty bs, .dead] hp0, []⟩ (.m 2 1 [0] [0, 3] Unit (fun (_ : Unit) g => (.exit 0, stOf 25 g [(0, .slice (some ⟨0, 0, none⟩) bs.length c)] [(baB ty bs)])) (fun (_ : Unit) => (bs.length ≤ 100 → (bs.all okF) = true)) (.stop 1 [] []) Unit (fun (_ : Unit) g => (.ret, stOf 25 g [(2, .bool false)] [(baB ty bs)])) (fun (_ : Unit) => (bs.all okF) = false) (.stop 1 [] [])) Q := by kernel_rfl
abbrev FelT (ty : TypeId) (bs : List Bat) (c i : Nat) (x : Bat) (g : Nat → Value) (Q : Exit → St → Prop) : Prop := ((decide ((Int.ofNat i) < (Int.ofNat bs.length))) = true → ((decide ((Int.ofNat bs.length) ≤ (Int.ofNat 100))) = true → (fstV ((aIndexAddr Try.prog 24 (.slice (some ⟨0, 0, none⟩) bs.length c) (iN i)).map fun v => (v, none)) : Option Value) = some (pb 0 (i * 2)) ∧ ((aLoad Try.prog (heapOf [(baB ty bs), .dead] hp0).get 25 (pb 0 ((i * 2) + 1)) : Option Value) = some (LIT x.2.1.length x.2.2 (x.2.1.flatMap obL)) ∧ (((decide ((Int.ofNat x.2.1.length) > (Int.ofNat 60))) = true → FixO 1 [(baB ty bs)] ∧ ∀ g, Q .ret (stOf 25 g [(2, .bool false)] [(baB ty bs)])) ∧ ((decide ((Int.ofNat x.2.1.length) > (Int.ofNat 60))) = false → (some (.int .i64 (wrapF .i64 (Int.ofNat i + Int.ofNat 1))) : Option Value) = some (iN (i + 1)) ∧ (FixO 1 [(baB ty bs)] ∧ ∀ g, Q .normal (stOf 25 g [(0, .slice (some ⟨0, 0, none⟩) bs.length c), (3, iN (i + 1))] [(baB ty bs)])))))) ∧ ((decide ((Int.ofNat bs.length) ≤ (Int.ofNat 100))) = false → FixO 1 [(baB ty bs)] ∧ ∀ g, Q (.exit 0) (stOf 25 g [(0, .slice (some ⟨0, 0, none⟩) bs.length c)] [(baB ty bs)]))) ∧ ((decide ((Int.ofNat i) < (Int.ofNat bs.length))) = false → FixO 1 [(baB ty bs)] ∧ ∀ g, Q (.exit 0) (stOf 25 g [(0, .slice (some ⟨0, 0, none⟩) bs.length c)] [(baB ty bs)]))
theorem Fel_e (ty : TypeId) (bs : List Bat) (c i : Nat) (x : Bat) (g : Nat → Value) (Q : Exit → St → Prop) : FelT ty bs c i x g Q = RT Try.prog EFe 25 1 60 lbFe (stOf 25 g [(0, .slice (some ⟨0, 0, none⟩) bs.length c), (3, iN i)] [(baB ty bs)]) (.b 3 (.b 7 (.v 11 (pb 0 (i * 2)) (.v 13 (LIT x.2.1.length x.2.2 (x.2.1.flatMap obL)) (.b 15 (.stop 1 [0] [2]) (.v 17 (iN (i + 1)) (.stop 1 [0] [0, 3]))))) (.stop 1 [0] [0])) (.stop 1 [0] [0])) Q := by kernel_rfl
theorem loopFe (ty : TypeId) (bs : List Bat) (c : Nat) (W : Base) (X : Pins) (g : Nat → Value) :
    FRm Try.prog 25 W 1 X lpFe (stOf 25 g [(0, .slice (some ⟨0, 0, none⟩) bs.length c), (3, iN (0))] [(baB ty bs)]) (LQ2 (fun (_ : Unit) g => (.exit 0, stOf 25 g [(0, .slice (some ⟨0, 0, none⟩) bs.length c)] [(baB ty bs)])) (fun (_ : Unit) => (bs.length ≤ 100 → (bs.all okF) = true)) (fun (_ : Unit) g => (.ret, stOf 25 g [(2, .bool false)] [(baB ty bs)])) (fun (_ : Unit) => (bs.all okF) = false)) := by
  rw [lpFe_eq]
  refine FRm.loop (fun k st => ∃ i g, k + i = bs.length ∧ (∀ x ∈ bs.take i, okF x = true) ∧ st = (stOf 25 g [(0, .slice (some ⟨0, 0, none⟩) bs.length c), (3, iN (i))] [(baB ty bs)])) (fun k st => ?_) (k := bs.length) ⟨0, g, by omega, by simp, rfl⟩
  rintro ⟨i, g, hk, hno, rfl⟩
  have hend : i = bs.length → bs.all okF = true := fun e => by
    subst e
    exact List.all_eq_true.2 fun x hx => hno x (by rw [List.take_length]; exact hx)
  rcases Nat.lt_or_ge i bs.length with hlt | hi
  · have hx : bs[i]? = some bs[i] := List.getElem?_eq_getElem hlt
    generalize bs[i] = x at hx
    refine FRm.pieceT EFe_ok follows slFe (Fel_e ty bs c i x g _) ?_
    refine ⟨fun h_3 => ⟨fun h_7 => ⟨bidx hlt, ⟨bload1 (hgn rfl) hx, ⟨fun h_15 => ⟨fxO1 (baB_inert _ _), fun g => ?a⟩, fun h_15 => ⟨wup (few_lt hlt h_7), ⟨fxO1 (baB_inert _ _), fun g => ?b⟩⟩⟩⟩⟩, fun h_7 => ⟨fxO1 (baB_inert _ _), fun g => ?c⟩⟩, fun h_3 => ⟨fxO1 (baB_inert _ _), fun g => ?d⟩⟩
    case a =>
      have h1 := of_decide_eq_true h_15
      refine .inr ⟨by simp, .inr ⟨(), g, List.all_eq_false.2 ⟨x, List.mem_of_getElem? hx, ?_⟩, rfl, rfl⟩⟩
      unfold okF
      simp only [Int.ofNat_eq_natCast] at h1
      simp only [decide_eq_true_eq]; omega
    case b =>
      have h1 := of_decide_eq_false h_15
      refine .inl ⟨rfl, k - 1, by omega, i + 1, g, by omega, fun y hy => ?_, rfl⟩
      rw [List.take_add_one, hx] at hy
      rcases List.mem_append.1 hy with h | h
      · exact hno y h
      · simp at h; subst h
        unfold okF
        simp only [Int.ofNat_eq_natCast] at h1
        exact decide_eq_true (by omega)
    case c =>
      have h1 := of_decide_eq_false h_7
      exact .inr ⟨by simp, .inl ⟨(), g, fun h => absurd (Int.ofNat_le.2 h) h1, rfl, rfl⟩⟩
    case d =>
      have h1 := of_decide_eq_false h_3
      exact absurd (by simpa using hlt) h1
  · obtain rfl : i = bs.length := by omega
    refine FRm.pieceT EFe_ok follows slFe (Fel_e ty bs c bs.length (0, [], 0) g _) ?_
    refine ⟨fun h_3 => ⟨fun h_7 => absurd (of_decide_eq_true h_3) (by simp), fun h_7 => absurd (of_decide_eq_true h_3) (by simp)⟩, fun h_3 => ⟨fxO1 (baB_inert _ _), fun g => ?d⟩⟩
    exact .inr ⟨by simp, .inl ⟨(), g, fun _ => hend rfl, rfl, rfl⟩⟩
noncomputable def batOf (n : Nat) (cs : List Value) : Option (List Bat) := theO fun bs => n = bs.length ∧ cs = bs.flatMap baL
theorem baL_inj {a b : Bat} (h : baL a = baL b) : a = b := by
  obtain ⟨a1, a2, a3⟩ := a
  obtain ⟨b1, b2, b3⟩ := b
  simp only [baL, LIT, List.cons.injEq, Value.int.injEq, true_and, Value.iface.injEq, Value.agg.injEq, Array.mk.injEq, and_true] at h
  obtain ⟨h1, h2, h4, h3⟩ := h
  have e := obsOf_eq a2
  rw [h3, h2, obsOf_eq b2] at e
  cases e
  rw [h1, h4]
theorem baR_inj : ∀ {a b : List Bat}, a.flatMap baL = b.flatMap baL → a = b
  | [], [], _ => rfl
  | [], _ :: _, h => by simp [baL] at h
  | _ :: _, [], h => by simp [baL] at h
  | x :: a, y :: b, h => by
    rw [List.flatMap_cons, List.flatMap_cons] at h
    obtain ⟨h1, h2⟩ := List.append_inj h rfl
    rw [baL_inj h1, baR_inj h2]
theorem batOf_eq (bs : List Bat) : batOf bs.length (bs.flatMap baL) = some bs := theO_eq ⟨rfl, rfl⟩ fun b hb => (baR_inj hb.2).symm
noncomputable def GFe : RowF := fun n cs rest => match rest with
  | [] => match batOf n cs with
    | some bs => some fun _ _ _ => (.bool (fewB bs), [])
    | none => none
  | _ => none
noncomputable def GFe0 : Deep := fun args => match args with
  | [.iface 0 (.iface ty (.agg ⟨[]⟩))] => some fun _ => (.bool true, [])
  | _ => none
noncomputable def gFe : HeapFn := fun args hp => match args with
  | [.iface 0 (.iface ty (.agg ⟨[]⟩))] => tellK GFe0 [.iface 0 (.iface ty (.agg ⟨[]⟩))] hp
  | _ => rowK GFe args hp
theorem Fe0_e (ty : TypeId) (Q : Value → List Blk → List Nat → List Blk → Prop) : Q (.bool true) [] [] [] = RF Try.prog EFe Try.f11 60 fbFe ⟨tmsOf [LIT 0 ty []] 0 .leaf, heapOf [.dead] hp0, []⟩ (.stop 0 [] []) Q := by kernel_rfl
theorem hkFe0 : CallGoal Try.prog 11 (tellK GFe0) := deepG follows Try.func11 bodyFe (by kernel_rfl) fun args r h => by
  unfold GFe0 at h
  split at h
  case h_2 => cases h
  rename_i ty
  cases h
  rw [ntFe]
  refine ⟨fun x hx => ?_, by simp, fun B g W X => ?_⟩
  · simp only [List.mem_singleton] at hx
    subst hx
    exact stayV_lit _ _ _
  · refine FRm.pieceF EFe_ok follows sFe (Fe0_e ty _) ?_
    exact EndQ.pure (stayV_bool _) rfl
theorem hkFeR : CallGoal Try.prog 11 (rowK GFe) := rowG follows Try.func11 bodyFe (by kernel_rfl) fun n cs rest r h => by
  unfold GFe at h
  split at h
  case h_2 => cases h
  split at h
  case h_2 => cases h
  rename_i bs hbs
  obtain ⟨rfl, rfl⟩ := theO_some hbs
  cases h
  rw [ntFe]
  refine ⟨baR_inert bs, fun x hx => (by cases hx), by decide, fun ty c b B g W X => ?_⟩
  have hloop := fun g => loopFe ty bs c W X g
  refine FRm.pieceWF EFe_ok follows sFe (Fe_e ty bs c W X _) ?_
  have hO : ([baB ty bs].all okBlk) = true := by
    show (okBlk (.cells ty (bs.flatMap baL) true) && true) = true
    rw [okBlk_inert (baR_inert bs)]; rfl
  refine ⟨fxO1 (baB_inert _ _), hloop, fun _ g hok => ?a, fun _ g hok => ?b⟩
  case a =>
    refine EndQ.pureR one_ro rfl hO (by simp [baB]) (stayV_bool _) ?_
    unfold fewB
    by_cases h1 : bs.length ≤ 100
    · rw [hok h1, Bool.and_true]
      rw [decide_eq_true h1, decide_eq_true (show Int.ofNat bs.length ≤ Int.ofNat 100 from Int.ofNat_le.2 h1)]
    · have : ¬ Int.ofNat bs.length ≤ Int.ofNat 100 := fun h => h1 (Int.ofNat_le.1 h)
      rw [decide_eq_false this, decide_eq_false h1]; rfl
  case b =>
    refine EndQ.pureR one_ro rfl hO (by simp [baB]) (stayV_bool _) ?_
    unfold fewB; rw [hok, Bool.and_false]
theorem hkFe : CallGoal Try.prog 11 gFe := fun args hp v hp' h hk => by
  unfold gFe at h
  split at h
  · exact hkFe0 _ _ _ _ h hk
  · exact hkFeR _ _ _ _ h hk
theorem gFe_row {b c ty : Nat} {bs : List Bat} {ro : Bool} {hp : Hp} (hg : hp.get b = some (.cells ty (bs.flatMap baL) ro)) :
    gFe [.slice (some ⟨b, 0, none⟩) bs.length c] hp = some (.bool (fewB bs), heapOf [.dead] hp) := by
  show rowK GFe [.slice (some ⟨b, 0, none⟩) bs.length c] hp = _
  exact rowK_of (r := fun _ _ _ => (.bool (fewB bs), [])) hg (by unfold GFe; simp only [batOf_eq])
theorem gFe_0 {ty : TypeId} {hp : Hp} : gFe [LIT 0 ty []] hp = some (.bool true, heapOf [.dead] hp) := rfl
end Go.Proofs.Ytbhmodlpolgklaa.Tk
namespace Go.Proofs.Ytbhmodlpolgklaa.Tk
open Go Go.Proofs Go.Proofs.Ytbhmodlpolgklaa.AI Go.RowKit
theorem gTa_no {hp : Hp} {b mb : Nat} {nx ny : UN} {es fs : List Ent} {cl dl e : Nat} {num : Int} {ty : TypeId} {ls : List ObV} (h : TkAt hp b mb nx es cl false false) (ok : OkT es cl) (hn : es.length + 1 < 1000000) (ht : takeF nx es cl num ls = (([], e), ny, fs, dl)) :
    HE (gTa [pb b 0, .agg #[.int .i64 num, LIT ls.length ty (ls.flatMap obL)]]) hp (.tuple #[nilS, iN e]) [.put b (tkB mb ny false), .put mb (.map (esV fs) dl false), .push .dead] := by
  have := gTa_of (num := num) (ls := ls) (ty := ty) h ok hn
  rw [ht] at this
  exact this
theorem gTa_row {hp : Hp} {b mb : Nat} {nx ny : UN} {es fs : List Ent} {cl dl e : Nat} {num : Int} {ty : TypeId} {ls os : List ObV} (h : TkAt hp b mb nx es cl false false) (ok : OkT es cl) (hn : es.length + 1 < 1000000) (ht : takeF nx es cl num ls = ((os, e), ny, fs, dl)) (h0 : 0 < os.length) :
    HE (gTa [pb b 0, .agg #[.int .i64 num, LIT ls.length ty (ls.flatMap obL)]]) hp (.tuple #[.slice (some ⟨hp.sz, 0, none⟩) os.length 37, iN e]) [.put b (tkB mb ny false), .put mb (.map (esV fs) dl false), .push (.cells 35 (os.flatMap obL) false), .push .dead] := by
  have := gTa_of (num := num) (ls := ls) (ty := ty) h ok hn
  rw [ht] at this
  simp only at this
  rw [outR_pos h0] at this
  exact this
theorem gAk_eq {hp : Hp} {b mb : Nat} {nx : UN} {es : List Ent} {cl : Nat} {ro ro' : Bool} {v : Value} (h : TkAt hp b mb nx es cl ro ro') (ok : OkT es cl) (e : akE nx es = v) : gAk [pb b 0] hp = some (v, heapOf [.dead] hp) := by
  rw [gAk_of h ok.toOkN, e]
def u1 : UN := ⟨1, by decide⟩
def u2 : UN := ⟨2, by decide⟩
def e1 : List Ent := [(u1, [qry 6], 0)]
theorem ok0 : OkT [] 0 := ⟨⟨by decide, by simp, by simp, by simp⟩, by simp⟩
theorem ok1 : OkT e1 1 := ⟨⟨by decide, by simp [e1], by simp [e1], by simp [e1]⟩, by simp [e1]⟩
theorem ok2 : OkT [] 2 := ⟨⟨by decide, by simp, by simp, by simp⟩, by simp⟩
theorem t1 : takeF u0 [] 0 (Int.ofNat 1) [qry 6] = (([], 0), u0, e1, 1) := by kernel_rfl
theorem t2 : takeF u0 e1 1 (Int.ofNat 0) [qry 5] = (([qry 5, qry 6], 0), u2, [], 2) := by kernel_rfl
theorem t3 : takeF u2 [] 2 (Int.ofNat 0) [qry 5] = (([], 10), u2, [], 2) := by kernel_rfl
theorem a1 : akE u0 e1 = .agg #[iN 0, iN 0, iN 0, iN 1] := by
  have h : mskE u0 e1 = Int.ofNat 1 := by
    unfold mskE e1 sortN
    simp only [List.map_cons, List.map_nil, List.mergeSort_singleton]
    kernel_rfl
  unfold akE; rw [h]; rfl
theorem a2 : akE u2 [] = .agg #[iN 0, iN 0, iN 2, iN 0] := by
  unfold akE; rw [mskE_nil]; rfl
noncomputable def EAw : Ext := extG (extH Try.prog []) [(7, gNw), (13, gOn), (8, gTa), (10, gAk)]
theorem EAw_ok : ExtOk Try.prog EAw := extG_ok (extH_ok .nil) (.cons hkNw (.cons hkOn (.cons hkTa (.cons hkAk .nil))))
noncomputable def fbAw : Code := (Try.f5.body).getD .skip
theorem bodyAw : Try.f5.body = some fbAw := by kernel_rfl
theorem ntAw : Try.f5.ntmps = 80 := by kernel_rfl
theorem sAw : codeSafe Try.prog 80 fbAw = true := by kernel_rfl
abbrev AwT  (Q : Value → List Blk → List Nat → List Blk → Prop) : Prop := HT (gNw []) (heapOf [.dead] hp0) (pb 1 0) [tkB 2 u0 false, (.map (esV []) 0 false), .dead] ∧ (HT (gOn [iN 1, iN 6]) (heapOf [.dead, tkB 2 u0 false, (.map (esV []) 0 false), .dead] hp0) (.agg #[iN 1, LIT 1 35 (obL (qry (Int.ofNat 6)))]) [.dead] ∧ (HE (gTa [pb 1 0, .agg #[iN 1, LIT 1 35 (obL (qry (Int.ofNat 6)))]]) (heapOf [.dead, tkB 2 u0 false, (.map (esV []) 0 false), .dead, .dead] hp0) (.tuple #[nilS, iN 0]) [.put 1 (tkB 2 u0 false), .put 2 ((.map (esV e1) 1 false)), .push (.dead)] ∧ (HT (gAk [pb 1 0]) (heapOf [.dead, tkB 2 u0 false, (.map (esV e1) 1 false), .dead, .dead, .dead] hp0) (.agg #[iN 0, iN 0, iN 0, iN 1]) [.dead] ∧ (HT (gOn [iN 0, iN 5]) (heapOf [.dead, tkB 2 u0 false, (.map (esV e1) 1 false), .dead, .dead, .dead, .dead, .cells 44 [iN 0, iN 0, iN 0, iN 1] false] hp0) (.agg #[iN 0, LIT 1 35 (obL (qry (Int.ofNat 5)))]) [.dead] ∧ (HE (gTa [pb 1 0, .agg #[iN 0, LIT 1 35 (obL (qry (Int.ofNat 5)))]]) (heapOf [.dead, tkB 2 u0 false, (.map (esV e1) 1 false), .dead, .dead, .dead, .dead, .cells 44 [iN 0, iN 0, iN 0, iN 1] false, .dead] hp0) (.tuple #[.slice (some ⟨9, 0, none⟩) 2 37, iN 0]) [.put 1 (tkB 2 u2 false), .put 2 ((.map (esV []) 2 false)), .push (.cells 35 ([qry 5, qry 6].flatMap obL) false), .push (.dead)] ∧ (HT (gOn [iN 0, iN 5]) (heapOf [.dead, tkB 2 u2 false, (.map (esV []) 2 false), .dead, .dead, .dead, .dead, .cells 44 [iN 0, iN 0, iN 0, iN 1] false, .dead, .cells 35 ([qry 5, qry 6].flatMap obL) false, .dead] hp0) (.agg #[iN 0, LIT 1 35 (obL (qry (Int.ofNat 5)))]) [.dead] ∧ (HE (gTa [pb 1 0, .agg #[iN 0, LIT 1 35 (obL (qry (Int.ofNat 5)))]]) (heapOf [.dead, tkB 2 u2 false, (.map (esV []) 2 false), .dead, .dead, .dead, .dead, .cells 44 [iN 0, iN 0, iN 0, iN 1] false, .dead, .cells 35 ([qry 5, qry 6].flatMap obL) false, .dead, .dead] hp0) (.tuple #[nilS, iN 10]) [.put 1 (tkB 2 u2 false), .put 2 ((.map (esV []) 2 false)), .push (.dead)] ∧ (HT (gAk [pb 1 0]) (heapOf [.dead, tkB 2 u2 false, (.map (esV []) 2 false), .dead, .dead, .dead, .dead, .cells 44 [iN 0, iN 0, iN 0, iN 1] false, .dead, .cells 35 ([qry 5, qry 6].flatMap obL) false, .dead, .dead, .dead] hp0) (.agg #[iN 0, iN 0, iN 2, iN 0]) [.dead] ∧ (Q (.bool true) [] [] [])))))))))
theorem Aw_e  (Q : Value → List Blk → List Nat → List Blk → Prop) : AwT  Q = RF Try.prog EAw Try.f5 200 fbAw ⟨tmsOf [] 0 .leaf, heapOf [.dead] hp0, []⟩ (.h 1 (pb 1 0) [tkB 2 u0 false, (.map (esV []) 0 false), .dead] (.h 6 (.agg #[iN 1, LIT 1 35 (obL (qry (Int.ofNat 6)))]) [.dead] (.e 7 (.tuple #[nilS, iN 0]) [.put 1 (tkB 2 u0 false), .put 2 ((.map (esV e1) 1 false)), .push (.dead)] (.h 14 (.agg #[iN 0, iN 0, iN 0, iN 1]) [.dead] (.h 18 (.agg #[iN 0, LIT 1 35 (obL (qry (Int.ofNat 5)))]) [.dead] (.e 19 (.tuple #[.slice (some ⟨9, 0, none⟩) 2 37, iN 0]) [.put 1 (tkB 2 u2 false), .put 2 ((.map (esV []) 2 false)), .push (.cells 35 ([qry 5, qry 6].flatMap obL) false), .push (.dead)] (.h 26 (.agg #[iN 0, LIT 1 35 (obL (qry (Int.ofNat 5)))]) [.dead] (.e 27 (.tuple #[nilS, iN 10]) [.put 1 (tkB 2 u2 false), .put 2 ((.map (esV []) 2 false)), .push (.dead)] (.h 34 (.agg #[iN 0, iN 0, iN 2, iN 0]) [.dead] (.stop 0 [] [])))))))))) Q := by kernel_rfl
noncomputable def GAw : Deep := fun args => match args with
  | [] => some fun _ => (.bool true, [])
  | _ => none
noncomputable def gAw : HeapFn := tellK GAw
theorem hkAw : CallGoal Try.prog 5 gAw := deepG follows Try.func5 bodyAw (by kernel_rfl) fun args r h => by
  unfold GAw at h
  split at h
  case h_2 => cases h
  cases h
  rw [ntAw]
  refine ⟨fun x hx => (by cases hx), by decide, fun B g W X => ?_⟩
  refine FRm.pieceF EAw_ok follows sAw (Aw_e _) ?_
  refine ⟨gNw_of, ⟨gOn_of, ⟨gTa_no ⟨hgn rfl, hgn rfl⟩ ok0 (by decide) (ls := [qry 6]) t1, ⟨gAk_eq ⟨hgn rfl, hgn rfl⟩ ok1 a1, ⟨gOn_of, ⟨gTa_row ⟨hgn rfl, hgn rfl⟩ ok1 (by decide) (ls := [qry 5]) t2 (by decide), ⟨gOn_of, ⟨gTa_no ⟨hgn rfl, hgn rfl⟩ ok2 (by decide) (ls := [qry 5]) t3, ⟨gAk_eq ⟨hgn rfl, hgn rfl⟩ ok2 a2, ?_⟩⟩⟩⟩⟩⟩⟩⟩⟩
  exact EndQ.pure (stayV_bool _) rfl
theorem gAw_of {hp : Hp} : gAw [] hp = some (.bool true, heapOf [.dead] hp) := rfl
end Go.Proofs.Ytbhmodlpolgklaa.Tk
namespace Go.Proofs.Ytbhmodlpolgklaa.Tk
open Go Go.Proofs Go.Proofs.Ytbhmodlpolgklaa.AI Go.RowKit
def WM (P : Program) (ext : Ext) (N : Nat) (W : Base) (z : Nat) (X : Pins) (d : Nat) (c : Code) (st : St) (p : Plan) (Q : Exit → St → Prop) : Prop := execW P (aCall P ext d) (callT P ext d) N W z X d c st p 0 (leafM N z Q)
theorem pieceWM {P : Program} {N z : Nat} {W : Base} {X : Pins} {ext : Ext} (hx : ExtOk P ext) (hm : P.follows .mixedOrders = true) {d : Nat} {c : Code} {st : St} {p : Plan} {Q : Exit → St → Prop} (hs : codeSafe P N c = true) {Y : Prop} (e : Y = WM P ext N W z X d c st p Q) (h : Y) : FRm P N W z X c st Q := by
  rw [e] at h
  exact FRm.leafM (execW_ok (aCall_sound hx hm d) hm (callT_ok ext d) hs h)
theorem aggEq {a b : Int} : fstV ((aBin Try.prog .neq 44 (.agg #[iN 0, iN 0, .int .i64 a, .int .i64 b]) (.agg #[iN 0, iN 0, .int .i64 a, .int .i64 b])).map fun v => (v, none)) = some (.bool false) := by
  have key : ∀ p q : Bool, p = true → q = true → (match some p with
      | some true => (match some q with
        | some true => some true
        | some false => some false
        | none => none)
      | some false => some false
      | none => none) = some true := fun p q h1 h2 => by rw [h1, h2]
  have h : aBin Try.prog .neq 44 (.agg #[iN 0, iN 0, .int .i64 a, .int .i64 b]) (.agg #[iN 0, iN 0, .int .i64 a, .int .i64 b]) = (match some (a == a) with
      | some true => (match some (b == b) with
        | some true => some true
        | some false => some false
        | none => none)
      | some false => some false
      | none => none : Option Bool).map fun b => .bool !b := by kernel_rfl
  rw [h, key _ _ (by simp) (by simp)]; rfl
theorem fxM0 {O : List Blk} : FixM 0 O := fun i hi x hx => by
  exfalso
  have e : opq 0 i = false := by
    have : Nat.shiftRight 0 i = 0 := Nat.zero_shiftRight i
    unfold opq; rw [this]; rfl
  rw [e] at hi; cases hi
theorem fxM5 {o p q : Blk} (h : inertB o = true) (k : inertB q = true) : FixM 5 [o, p, q] := fun i hi x hx => by
  match i, hi with
  | 0, _ => cases hx; exact inert_fixed h 0
  | 1, hi => exact absurd hi (by decide)
  | 2, _ => cases hx; exact inert_fixed k 0
  | i + 3, _ => simp at hx
theorem fxI {o p q r : Blk} {t : TypeId} {cs : List Value} {ro : Bool} (h : inertB o = true) (k : inertB q = true) (l : cs.all inert = true) : FixM 21 [o, p, q, r, .cells t cs ro] := fun i hi x hx => by
  match i, hi with
  | 0, _ => cases hx; exact inert_fixed h 0
  | 1, hi => exact absurd hi (by decide)
  | 2, _ => cases hx; exact inert_fixed k 0
  | 3, hi => exact absurd hi (by decide)
  | 4, _ => cases hx; exact inert_fixed (o := .cells t cs ro) l 0
  | i + 5, _ => simp at hx
theorem hload {hp : Hp} {b : Nat} {ty : TypeId} {us : List UN} {ro : Bool} {i : Nat} {x : UN} (hg : hp.get b = some (.cells ty (us.map iZ) ro)) (h : us[i]? = some x) : aLoad Try.prog hp.get 3 (pb b i) = some (.int .i64 x.1) := rload1 (f := iZ) agg3 siz3 hg h
theorem drain_law : ∀ (n : Nat) (nx : UN) (es : List Ent), es.length = n → (∀ e ∈ es, 0 < e.2.1.length) → ∃ d : Nat, d ≤ es.length ∧ (drE nx es).2.1.1 = (nx.1 + d) % 65536 ∧ (drE nx es).2.2.length + d = es.length ∧ d ≤ (drE nx es).1.length ∧ (d = 0 → (drE nx es).1 = []) ∧ lookE (drE nx es).2.2 (drE nx es).2.1 = none ∧ (drE nx es).2.2.Sublist es
  | n, nx, es, hn, h0 => by
    cases hl : lookE es nx with
    | none =>
      rw [drE_none hl]
      have := nx.2
      exact ⟨0, Nat.zero_le _, by simp only; omega, by simp, by simp, fun _ => rfl, hl, .refl _⟩
    | some l =>
      have hd := delE_len hl
      obtain ⟨e0, he0, -, he1⟩ := lookE_mem hl
      have hl0 := h0 e0 he0
      rw [he1] at hl0
      have ih := drain_law (n - 1) (nxU nx) (delE es nx) (by omega) (fun e he => h0 e ((delE_sub nx es).subset he))
      obtain ⟨d, h1, h2, h3, h4, h5, h6, h7⟩ := ih
      rw [drE_some hl]
      refine ⟨d + 1, by omega, ?_, by simp only; omega, by simp only [List.length_append]; omega, fun h => by omega, h6, h7.trans (delE_sub nx es)⟩
      simp only [h2, nxU_val]
      omega
termination_by n _ es hn _ => es.length
decreasing_by omega
theorem take_law {nx ny : UN} {es fs : List Ent} {cl dl e : Nat} {num : Int} {ls os : List ObV} (ok : OkT es cl) (hn : es.length + 1 < 1000000) (hx : lookE es nx = none) (h : takeF nx es cl num ls = ((os, e), ny, fs, dl)) :
    (e ≠ 0 ∧ os = [] ∧ ny = nx ∧ fs = es ∧ dl = cl) ∨ (e = 0 ∧ ∃ d : Nat, d ≤ es.length + 1 ∧ ny.1 = (nx.1 + d) % 65536 ∧ fs.length + d = es.length + 1 ∧ d ≤ os.length ∧ (d = 0 → os = []) ∧ lookE fs ny = none ∧ OkT fs dl) := by
  unfold takeF at h
  split at h
  · rename_i hok
    obtain ⟨hnum, h0, h32⟩ := okB_rng hok
    split at h
    · cases h; exact .inl ⟨by decide, rfl, rfl, rfl, rfl⟩
    · split at h
      · cases h; exact .inl ⟨by decide, rfl, rfl, rfl, rfl⟩
      · split at h
        · cases h; exact .inl ⟨by decide, rfl, rfl, rfl, rfl⟩
        · rename_i hu
          cases h
          right
          have hu' : lookE es ⟨num, hnum⟩ = none := by
            cases e : lookE es ⟨num, hnum⟩ with
            | none => rfl
            | some l => rw [e] at hu; exact absurd rfl hu
          have ok2 := ok.add (ls := ls) hn hu' h0 h32
          obtain ⟨d, h1, h2, h3, h4, h5, h6, h7⟩ := drain_law _ nx (es ++ [(⟨num, hnum⟩, ls, cl)]) rfl (fun e he => (ok2.len e he).1)
          rw [List.length_append] at h1 h3
          exact ⟨rfl, d, h1, h2, h3, h4, h5, h6, ok2.sub h7 (Nat.le_refl _)⟩
  · cases h; exact .inl ⟨by decide, rfl, rfl, rfl, rfl⟩
theorem hM_of {a b : UN} {d : Nat} (h : b.1 = (a.1 + d) % 65536) (hd : d ≤ 1000) : Int.tmod (wrapF .i64 ((wrapF .i64 (b.1 - a.1)) + (Int.ofNat 65536))) (Int.ofNat 65536) = Int.ofNat d := by
  have h1 := a.2
  have h2 := b.2
  simp only [Int.ofNat_eq_natCast]
  rw [wrapI (n := b.1 - a.1) (by omega) (by omega), wrapI (by omega) (by omega), Int.tmod_eq_emod_of_nonneg (by omega)]
  omega
theorem kA_of {a b d : Nat} {M : Int} (hM : M = Int.ofNat d) (h : a + d = b) (hb : b < 1000000) : ¬ ((Int.ofNat a != wrapF .i64 (Int.ofNat b - M)) = true) := by
  rw [hM, wrapI (by simp only [Int.ofNat_eq_natCast]; omega) (by simp only [Int.ofNat_eq_natCast]; omega)]
  simp only [Int.ofNat_eq_natCast, bne_iff_ne, ne_eq, Decidable.not_not]
  omega
theorem kB_of {a d : Nat} {M : Int} (hM : M = Int.ofNat d) (h : d ≤ a) : ¬ (decide (Int.ofNat a < M) = true) := by
  rw [hM]
  simp only [Int.ofNat_eq_natCast, decide_eq_true_eq]
  omega
theorem kC_of {d : Nat} {M : Int} (hM : M = Int.ofNat d) (h : 0 < d) : ¬ ((M == Int.ofNat 0) = true) := by
  rw [hM]
  simp only [Int.ofNat_eq_natCast, beq_iff_eq]
  omega
theorem kD_of {M : Int} (hM : M = Int.ofNat 0) : ¬ ((M == Int.ofNat 0) = false) := by
  rw [hM]; decide
noncomputable def ETc : Ext := extG (extH Try.prog []) [(7, gNw), (11, gFe), (5, gAw), (10, gAk), (12, gHe), (8, gTa)]
theorem ETc_ok : ExtOk Try.prog ETc := extG_ok (extH_ok .nil) (.cons hkNw (.cons hkFe (.cons hkAw (.cons hkAk (.cons hkHe (.cons hkTa .nil))))))
noncomputable def fbTc : Code := (Try.f4.body).getD .skip
theorem bodyTc : Try.f4.body = some fbTc := by kernel_rfl
theorem ntTc : Try.f4.ntmps = 117 := by kernel_rfl
theorem sTc : codeSafe Try.prog 117 fbTc = true := by kernel_rfl
noncomputable def lpTc : Code := pB (pR (pL (pR (pR (pR (fbTc))))))
noncomputable def lbTc : Code := pU lpTc
theorem lpTc_eq : lpTc = .loop lbTc := by kernel_rfl
theorem slTc : codeSafe Try.prog 117 lbTc = true := by kernel_rfl
noncomputable def lpTi : Code := pB (pR (pR (pR (pR (pR (pR (pR (pR (pR (pB (pL (pR (pU (pB (pR (pL (pR (pR (pR (fbTc))))))))))))))))))))
noncomputable def lbTi : Code := pU lpTi
theorem lpTi_eq : lpTi = .loop lbTi := by kernel_rfl
theorem slTi : codeSafe Try.prog 117 lbTi = true := by kernel_rfl
abbrev TcT (ty : TypeId) (bs : List Bat) (W : Base) (X : Pins) (Q : Value → List Blk → List Nat → List Blk → Prop) : Prop := HT (gNw []) (heapOf [.dead, (baB ty bs)] hp0) (pb 2 0) [tkB 3 u0 false, (.map (esV []) 0 false), .dead] ∧ (HT (gFe [.slice (some ⟨1, 0, none⟩) bs.length 2]) (heapOf [.dead, (baB ty bs), tkB 3 u0 false, (.map (esV []) 0 false), .dead] hp0) (.bool (fewB bs)) [.dead] ∧ (((!(fewB bs)) = true → HT (gAw []) (heapOf [.dead, (baB ty bs), tkB 3 u0 false, (.map (esV []) 0 false), .dead, .dead] hp0) (.bool true) [.dead] ∧ (Q (.bool true) [] [] [])) ∧ ((!(fewB bs)) = false → FixM 5 [(baB ty bs), tkB 2 u0 false, (.map (esV []) 0 false)] ∧ (∀ g, FRm Try.prog 117 W 0 X lpTc (stOf 117 g [(0, .slice (some ⟨0, 0, none⟩) bs.length 2), (3, pb 1 0), (4, iN 0)] [(baB ty bs), tkB 2 u0 false, (.map (esV []) 0 false)]) (LQ (fun (_ : Unit) g => (.exit 0, stOf 117 g [] [])) (fun (_ : Unit) => True))) ∧ (∀ (_ : Unit) (g : Nat → Value), True → HT (gAw []) (heapOf [.dead] hp0) (.bool true) [.dead] ∧ (Q (.bool true) [] [] [])))))
theorem Tc_e (ty : TypeId) (bs : List Bat) (W : Base) (X : Pins) (Q : Value → List Blk → List Nat → List Blk → Prop) : TcT ty bs W X Q = WF Try.prog ETc Try.f4 117 W 0 X 200 fbTc ⟨tmsOf [.slice (some ⟨1, 0, none⟩) bs.length 2] 0 .leaf, heapOf [.dead, baB ty bs] hp0, []⟩ (.h 1 (pb 2 0) [tkB 3 u0 false, (.map (esV []) 0 false), .dead] (.h 7 (.bool (fewB bs)) [.dead] (.b 8 (.h 13 (.bool true) [.dead] (.stop 0 [] [])) (.l 11 1005 [1, 2, 3] [0, 3, 4] Unit (fun (_ : Unit) g => (.exit 0, stOf 117 g [] [])) (fun (_ : Unit) => True) (.h 11 (.bool true) [.dead] (.stop 0 [] [])))))) Q := by kernel_rfl
abbrev TczT (ty : TypeId) (Q : Value → List Blk → List Nat → List Blk → Prop) : Prop := HT (gNw []) (heapOf [.dead] hp0) (pb 1 0) [tkB 2 u0 false, (.map (esV []) 0 false), .dead] ∧ (HT (gFe [LIT 0 ty ([])]) (heapOf [.dead, tkB 2 u0 false, (.map (esV []) 0 false), .dead] hp0) (.bool true) [.dead] ∧ (HT (gAw []) (heapOf [.dead, tkB 2 u0 false, (.map (esV []) 0 false), .dead, .dead] hp0) (.bool true) [.dead] ∧ (Q (.bool true) [] [] [])))
theorem Tcz_e (ty : TypeId) (Q : Value → List Blk → List Nat → List Blk → Prop) : TczT ty Q = RF Try.prog ETc Try.f4 200 fbTc ⟨tmsOf [LIT 0 ty []] 0 .leaf, heapOf [.dead] hp0, []⟩ (.h 1 (pb 1 0) [tkB 2 u0 false, (.map (esV []) 0 false), .dead] (.h 7 (.bool true) [.dead] (.h 15 (.bool true) [.dead] (.stop 0 [] [])))) Q := by kernel_rfl
abbrev Tb0T (ty : TypeId) (bs : List Bat) (i : Nat) (x : Bat) (nx : UN) (cl : Nat) (e : Nat) (g : Nat → Value) (W : Base) (X : Pins) (Q : Exit → St → Prop) : Prop := ((decide ((Int.ofNat i) < (Int.ofNat bs.length))) = true → HT (gAk [pb 1 0]) (heapOf [(baB ty bs), tkB 2 nx false, (.map (esV []) cl false), .dead] hp0) (.agg #[iN 0, iN 0, .int .i64 nx.1, .int .i64 (mskE nx [])]) [.dead] ∧ (HT (gHe [pb 1 0]) (heapOf [(baB ty bs), tkB 2 nx false, (.map (esV []) cl false), .dead, .dead, .cells 44 [iN 0, iN 0, .int .i64 nx.1, .int .i64 (mskE nx [])] false] hp0) (nilS) [.dead] ∧ ((fstV ((aIndexAddr Try.prog 24 (.slice (some ⟨0, 0, none⟩) bs.length 2) (iN i)).map fun v => (v, none)) : Option Value) = some (pb 0 (i * 2)) ∧ ((aLoad Try.prog (heapOf [(baB ty bs), tkB 2 nx false, (.map (esV []) cl false), .dead, .dead, .cells 44 [iN 0, iN 0, .int .i64 nx.1, .int .i64 (mskE nx [])] false, .dead] hp0).get 27 (pb 0 (i * 2)) : Option Value) = some (.agg #[.int .i64 x.1, LIT x.2.1.length x.2.2 (x.2.1.flatMap obL)]) ∧ (HE (gTa [pb 1 0, .agg #[.int .i64 x.1, LIT x.2.1.length x.2.2 (x.2.1.flatMap obL)]]) (heapOf [(baB ty bs), tkB 2 nx false, (.map (esV []) cl false), .dead, .dead, .cells 44 [iN 0, iN 0, .int .i64 nx.1, .int .i64 (mskE nx [])] false, .dead] hp0) (.tuple #[nilS, iN e]) [.put 1 (tkB 2 nx false), .put 2 ((.map (esV []) cl false)), .push (.dead)] ∧ (HT (gAk [pb 1 0]) (heapOf [(baB ty bs), tkB 2 nx false, (.map (esV []) cl false), .dead, .dead, .cells 44 [iN 0, iN 0, .int .i64 nx.1, .int .i64 (mskE nx [])] false, .dead, .dead] hp0) (.agg #[iN 0, iN 0, .int .i64 nx.1, .int .i64 (mskE nx [])]) [.dead] ∧ ((((Int.ofNat e) != (Int.ofNat 0)) = true → (fstV ((aBin Try.prog .neq 44 (.agg #[iN 0, iN 0, .int .i64 nx.1, .int .i64 (mskE nx [])]) (.agg #[iN 0, iN 0, .int .i64 nx.1, .int .i64 (mskE nx [])])).map fun v => (v, none)) : Option Value) = some (.bool false) ∧ (HT (gHe [pb 1 0]) (heapOf [(baB ty bs), tkB 2 nx false, (.map (esV []) cl false), .dead, .dead, .cells 44 [iN 0, iN 0, .int .i64 nx.1, .int .i64 (mskE nx [])] false, .dead, .dead, .dead, .cells 44 [iN 0, iN 0, .int .i64 nx.1, .int .i64 (mskE nx [])] false] hp0) (nilS) [.dead] ∧ ((((Int.ofNat e) == (Int.ofNat 0)) = true → HT (gHe [pb 1 0]) (heapOf [(baB ty bs), tkB 2 nx false, (.map (esV []) cl false), .dead, .dead, .cells 44 [iN 0, iN 0, .int .i64 nx.1, .int .i64 (mskE nx [])] false, .dead, .dead, .dead, .cells 44 [iN 0, iN 0, .int .i64 nx.1, .int .i64 (mskE nx [])] false, .dead] hp0) (nilS) [.dead] ∧ ((((Int.ofNat 0) != (wrapF .i64 ((Int.ofNat 1) - (Int.tmod (wrapF .i64 ((wrapF .i64 (nx.1 - nx.1)) + (Int.ofNat 65536))) (Int.ofNat 65536))))) = true → FixM 0 [] ∧ ∀ g, Q .ret (stOf 117 g [(2, .bool false)] [])) ∧ (((Int.ofNat 0) != (wrapF .i64 ((Int.ofNat 1) - (Int.tmod (wrapF .i64 ((wrapF .i64 (nx.1 - nx.1)) + (Int.ofNat 65536))) (Int.ofNat 65536))))) = false → ((decide ((Int.ofNat 0) < (Int.tmod (wrapF .i64 ((wrapF .i64 (nx.1 - nx.1)) + (Int.ofNat 65536))) (Int.ofNat 65536)))) = true → FixM 0 [] ∧ ∀ g, Q .ret (stOf 117 g [(2, .bool false)] [])) ∧ ((decide ((Int.ofNat 0) < (Int.tmod (wrapF .i64 ((wrapF .i64 (nx.1 - nx.1)) + (Int.ofNat 65536))) (Int.ofNat 65536)))) = false → (((Int.tmod (wrapF .i64 ((wrapF .i64 (nx.1 - nx.1)) + (Int.ofNat 65536))) (Int.ofNat 65536)) == (Int.ofNat 0)) = true → HT (gHe [pb 1 0]) (heapOf [(baB ty bs), tkB 2 nx false, (.map (esV []) cl false), .dead, .dead, .cells 44 [iN 0, iN 0, .int .i64 nx.1, .int .i64 (mskE nx [])] false, .dead, .dead, .dead, .cells 44 [iN 0, iN 0, .int .i64 nx.1, .int .i64 (mskE nx [])] false, .dead, .dead] hp0) (nilS) [.dead] ∧ ((some (.int .i64 (wrapF .i64 (Int.ofNat i + Int.ofNat 1))) : Option Value) = some (iN (i + 1)) ∧ (FixM 5 [(baB ty bs), .cells 65 [.int .u32 (Int.ofNat 1), .int .i32 (Int.ofNat 0), .int .u32 (Int.ofNat 0), .map (some 2), .int .i64 nx.1] false, (.map (esV []) cl false)] ∧ ∀ g, Q .normal (stOf 117 g [(0, .slice (some ⟨0, 0, none⟩) bs.length 2), (3, pb 1 0), (4, iN (i + 1))] [(baB ty bs), .cells 65 [.int .u32 (Int.ofNat 1), .int .i32 (Int.ofNat 0), .int .u32 (Int.ofNat 0), .map (some 2), .int .i64 nx.1] false, (.map (esV []) cl false)])))) ∧ (((Int.tmod (wrapF .i64 ((wrapF .i64 (nx.1 - nx.1)) + (Int.ofNat 65536))) (Int.ofNat 65536)) == (Int.ofNat 0)) = false → HT (gHe [pb 1 0]) (heapOf [(baB ty bs), tkB 2 nx false, (.map (esV []) cl false), .dead, .dead, .cells 44 [iN 0, iN 0, .int .i64 nx.1, .int .i64 (mskE nx [])] false, .dead, .dead, .dead, .cells 44 [iN 0, iN 0, .int .i64 nx.1, .int .i64 (mskE nx [])] false, .dead, .dead] hp0) (nilS) [.dead] ∧ ((some (.int .i64 (wrapF .i64 (Int.ofNat i + Int.ofNat 1))) : Option Value) = some (iN (i + 1)) ∧ (FixM 5 [(baB ty bs), .cells 65 [.int .u32 (Int.ofNat 1), .int .i32 (Int.ofNat 0), .int .u32 (Int.ofNat 0), .map (some 2), .int .i64 nx.1] false, (.map (esV []) cl false)] ∧ ∀ g, Q .normal (stOf 117 g [(0, .slice (some ⟨0, 0, none⟩) bs.length 2), (3, pb 1 0), (4, iN (i + 1))] [(baB ty bs), .cells 65 [.int .u32 (Int.ofNat 1), .int .i32 (Int.ofNat 0), .int .u32 (Int.ofNat 0), .map (some 2), .int .i64 nx.1] false, (.map (esV []) cl false)])))))))) ∧ (((Int.ofNat e) == (Int.ofNat 0)) = false → HT (gHe [pb 1 0]) (heapOf [(baB ty bs), tkB 2 nx false, (.map (esV []) cl false), .dead, .dead, .cells 44 [iN 0, iN 0, .int .i64 nx.1, .int .i64 (mskE nx [])] false, .dead, .dead, .dead, .cells 44 [iN 0, iN 0, .int .i64 nx.1, .int .i64 (mskE nx [])] false, .dead] hp0) (nilS) [.dead] ∧ ((some (.int .i64 (wrapF .i64 (Int.ofNat i + Int.ofNat 1))) : Option Value) = some (iN (i + 1)) ∧ (FixM 5 [(baB ty bs), .cells 65 [.int .u32 (Int.ofNat 1), .int .i32 (Int.ofNat 0), .int .u32 (Int.ofNat 0), .map (some 2), .int .i64 nx.1] false, (.map (esV []) cl false)] ∧ ∀ g, Q .normal (stOf 117 g [(0, .slice (some ⟨0, 0, none⟩) bs.length 2), (3, pb 1 0), (4, iN (i + 1))] [(baB ty bs), .cells 65 [.int .u32 (Int.ofNat 1), .int .i32 (Int.ofNat 0), .int .u32 (Int.ofNat 0), .map (some 2), .int .i64 nx.1] false, (.map (esV []) cl false)]))))))) ∧ (((Int.ofNat e) != (Int.ofNat 0)) = false → (((Int.ofNat e) == (Int.ofNat 0)) = true → HT (gHe [pb 1 0]) (heapOf [(baB ty bs), tkB 2 nx false, (.map (esV []) cl false), .dead, .dead, .cells 44 [iN 0, iN 0, .int .i64 nx.1, .int .i64 (mskE nx [])] false, .dead, .dead, .dead, .cells 44 [iN 0, iN 0, .int .i64 nx.1, .int .i64 (mskE nx [])] false] hp0) (nilS) [.dead] ∧ ((((Int.ofNat 0) != (wrapF .i64 ((Int.ofNat 1) - (Int.tmod (wrapF .i64 ((wrapF .i64 (nx.1 - nx.1)) + (Int.ofNat 65536))) (Int.ofNat 65536))))) = true → FixM 0 [] ∧ ∀ g, Q .ret (stOf 117 g [(2, .bool false)] [])) ∧ (((Int.ofNat 0) != (wrapF .i64 ((Int.ofNat 1) - (Int.tmod (wrapF .i64 ((wrapF .i64 (nx.1 - nx.1)) + (Int.ofNat 65536))) (Int.ofNat 65536))))) = false → ((decide ((Int.ofNat 0) < (Int.tmod (wrapF .i64 ((wrapF .i64 (nx.1 - nx.1)) + (Int.ofNat 65536))) (Int.ofNat 65536)))) = true → FixM 0 [] ∧ ∀ g, Q .ret (stOf 117 g [(2, .bool false)] [])) ∧ ((decide ((Int.ofNat 0) < (Int.tmod (wrapF .i64 ((wrapF .i64 (nx.1 - nx.1)) + (Int.ofNat 65536))) (Int.ofNat 65536)))) = false → (((Int.tmod (wrapF .i64 ((wrapF .i64 (nx.1 - nx.1)) + (Int.ofNat 65536))) (Int.ofNat 65536)) == (Int.ofNat 0)) = true → HT (gHe [pb 1 0]) (heapOf [(baB ty bs), tkB 2 nx false, (.map (esV []) cl false), .dead, .dead, .cells 44 [iN 0, iN 0, .int .i64 nx.1, .int .i64 (mskE nx [])] false, .dead, .dead, .dead, .cells 44 [iN 0, iN 0, .int .i64 nx.1, .int .i64 (mskE nx [])] false, .dead] hp0) (nilS) [.dead] ∧ ((some (.int .i64 (wrapF .i64 (Int.ofNat i + Int.ofNat 1))) : Option Value) = some (iN (i + 1)) ∧ (FixM 5 [(baB ty bs), .cells 65 [.int .u32 (Int.ofNat 1), .int .i32 (Int.ofNat 0), .int .u32 (Int.ofNat 0), .map (some 2), .int .i64 nx.1] false, (.map (esV []) cl false)] ∧ ∀ g, Q .normal (stOf 117 g [(0, .slice (some ⟨0, 0, none⟩) bs.length 2), (3, pb 1 0), (4, iN (i + 1))] [(baB ty bs), .cells 65 [.int .u32 (Int.ofNat 1), .int .i32 (Int.ofNat 0), .int .u32 (Int.ofNat 0), .map (some 2), .int .i64 nx.1] false, (.map (esV []) cl false)])))) ∧ (((Int.tmod (wrapF .i64 ((wrapF .i64 (nx.1 - nx.1)) + (Int.ofNat 65536))) (Int.ofNat 65536)) == (Int.ofNat 0)) = false → HT (gHe [pb 1 0]) (heapOf [(baB ty bs), tkB 2 nx false, (.map (esV []) cl false), .dead, .dead, .cells 44 [iN 0, iN 0, .int .i64 nx.1, .int .i64 (mskE nx [])] false, .dead, .dead, .dead, .cells 44 [iN 0, iN 0, .int .i64 nx.1, .int .i64 (mskE nx [])] false, .dead] hp0) (nilS) [.dead] ∧ ((some (.int .i64 (wrapF .i64 (Int.ofNat i + Int.ofNat 1))) : Option Value) = some (iN (i + 1)) ∧ (FixM 5 [(baB ty bs), .cells 65 [.int .u32 (Int.ofNat 1), .int .i32 (Int.ofNat 0), .int .u32 (Int.ofNat 0), .map (some 2), .int .i64 nx.1] false, (.map (esV []) cl false)] ∧ ∀ g, Q .normal (stOf 117 g [(0, .slice (some ⟨0, 0, none⟩) bs.length 2), (3, pb 1 0), (4, iN (i + 1))] [(baB ty bs), .cells 65 [.int .u32 (Int.ofNat 1), .int .i32 (Int.ofNat 0), .int .u32 (Int.ofNat 0), .map (some 2), .int .i64 nx.1] false, (.map (esV []) cl false)])))))))) ∧ (((Int.ofNat e) == (Int.ofNat 0)) = false → HT (gHe [pb 1 0]) (heapOf [(baB ty bs), tkB 2 nx false, (.map (esV []) cl false), .dead, .dead, .cells 44 [iN 0, iN 0, .int .i64 nx.1, .int .i64 (mskE nx [])] false, .dead, .dead, .dead, .cells 44 [iN 0, iN 0, .int .i64 nx.1, .int .i64 (mskE nx [])] false] hp0) (nilS) [.dead] ∧ ((some (.int .i64 (wrapF .i64 (Int.ofNat i + Int.ofNat 1))) : Option Value) = some (iN (i + 1)) ∧ (FixM 5 [(baB ty bs), .cells 65 [.int .u32 (Int.ofNat 1), .int .i32 (Int.ofNat 0), .int .u32 (Int.ofNat 0), .map (some 2), .int .i64 nx.1] false, (.map (esV []) cl false)] ∧ ∀ g, Q .normal (stOf 117 g [(0, .slice (some ⟨0, 0, none⟩) bs.length 2), (3, pb 1 0), (4, iN (i + 1))] [(baB ty bs), .cells 65 [.int .u32 (Int.ofNat 1), .int .i32 (Int.ofNat 0), .int .u32 (Int.ofNat 0), .map (some 2), .int .i64 nx.1] false, (.map (esV []) cl false)])))))))))))) ∧ ((decide ((Int.ofNat i) < (Int.ofNat bs.length))) = false → FixM 0 [] ∧ ∀ g, Q (.exit 0) (stOf 117 g [] []))
theorem Tb0_e (ty : TypeId) (bs : List Bat) (i : Nat) (x : Bat) (nx : UN) (cl : Nat) (e : Nat) (g : Nat → Value) (W : Base) (X : Pins) (Q : Exit → St → Prop) : Tb0T ty bs i x nx cl e g W X Q = WM Try.prog ETc 117 W 0 X 200 lbTc (stOf 117 g [(0, .slice (some ⟨0, 0, none⟩) bs.length 2), (3, pb 1 0), (4, iN i)] [(baB ty bs), tkB 2 nx false, (.map (esV []) cl false)]) (.b 3 (.h 5 (.agg #[iN 0, iN 0, .int .i64 nx.1, .int .i64 (mskE nx [])]) [.dead] (.h 9 (nilS) [.dead] (.v 15 (pb 0 (i * 2)) (.v 16 (.agg #[.int .i64 x.1, LIT x.2.1.length x.2.2 (x.2.1.flatMap obL)]) (.e 17 (.tuple #[nilS, iN e]) [.put 1 (tkB 2 nx false), .put 2 ((.map (esV []) cl false)), .push (.dead)] (.h 24 (.agg #[iN 0, iN 0, .int .i64 nx.1, .int .i64 (mskE nx [])]) [.dead] (.b 36 (.v 44 (.bool false) (.h 48 (nilS) [.dead] (.b 55 (.h 58 (nilS) [.dead] (.b 64 (.stop 0 [] [2]) (.b 69 (.stop 0 [] [2]) (.b 73 (.h 82 (nilS) [.dead] (.v 90 (iN (i + 1)) (.stop 5 [0, 1, 2] [0, 3, 4]))) (.h 79 (nilS) [.dead] (.v 87 (iN (i + 1)) (.stop 5 [0, 1, 2] [0, 3, 4]))))))) (.h 59 (nilS) [.dead] (.v 67 (iN (i + 1)) (.stop 5 [0, 1, 2] [0, 3, 4])))))) (.b 40 (.h 43 (nilS) [.dead] (.b 49 (.stop 0 [] [2]) (.b 54 (.stop 0 [] [2]) (.b 58 (.h 67 (nilS) [.dead] (.v 75 (iN (i + 1)) (.stop 5 [0, 1, 2] [0, 3, 4]))) (.h 64 (nilS) [.dead] (.v 72 (iN (i + 1)) (.stop 5 [0, 1, 2] [0, 3, 4]))))))) (.h 44 (nilS) [.dead] (.v 52 (iN (i + 1)) (.stop 5 [0, 1, 2] [0, 3, 4]))))))))))) (.stop 0 [] [])) Q := by kernel_rfl
abbrev Tb1T (ty : TypeId) (bs : List Bat) (i : Nat) (x : Bat) (nx : UN) (es : List Ent) (cl : Nat) (e : Nat) (g : Nat → Value) (W : Base) (X : Pins) (Q : Exit → St → Prop) : Prop := ((decide ((Int.ofNat i) < (Int.ofNat bs.length))) = true → HT (gAk [pb 1 0]) (heapOf [(baB ty bs), tkB 2 nx false, (.map (esV es) cl false), .dead] hp0) (.agg #[iN 0, iN 0, .int .i64 nx.1, .int .i64 (mskE nx es)]) [.dead] ∧ (HT (gHe [pb 1 0]) (heapOf [(baB ty bs), tkB 2 nx false, (.map (esV es) cl false), .dead, .dead, .cells 44 [iN 0, iN 0, .int .i64 nx.1, .int .i64 (mskE nx es)] false] hp0) (.slice (some ⟨6, 0, none⟩) ((es.map (·.1)).length) 4) [(.cells 3 ((sortN nx.1 (es.map (·.1))).map iZ) false), .dead] ∧ ((fstV ((aIndexAddr Try.prog 24 (.slice (some ⟨0, 0, none⟩) bs.length 2) (iN i)).map fun v => (v, none)) : Option Value) = some (pb 0 (i * 2)) ∧ ((aLoad Try.prog (heapOf [(baB ty bs), tkB 2 nx false, (.map (esV es) cl false), .dead, .dead, .cells 44 [iN 0, iN 0, .int .i64 nx.1, .int .i64 (mskE nx es)] false, (.cells 3 ((sortN nx.1 (es.map (·.1))).map iZ) false), .dead] hp0).get 27 (pb 0 (i * 2)) : Option Value) = some (.agg #[.int .i64 x.1, LIT x.2.1.length x.2.2 (x.2.1.flatMap obL)]) ∧ (HE (gTa [pb 1 0, .agg #[.int .i64 x.1, LIT x.2.1.length x.2.2 (x.2.1.flatMap obL)]]) (heapOf [(baB ty bs), tkB 2 nx false, (.map (esV es) cl false), .dead, .dead, .cells 44 [iN 0, iN 0, .int .i64 nx.1, .int .i64 (mskE nx es)] false, (.cells 3 ((sortN nx.1 (es.map (·.1))).map iZ) false), .dead] hp0) (.tuple #[nilS, iN e]) [.put 1 (tkB 2 nx false), .put 2 ((.map (esV es) cl false)), .push (.dead)] ∧ (HT (gAk [pb 1 0]) (heapOf [(baB ty bs), tkB 2 nx false, (.map (esV es) cl false), .dead, .dead, .cells 44 [iN 0, iN 0, .int .i64 nx.1, .int .i64 (mskE nx es)] false, (.cells 3 ((sortN nx.1 (es.map (·.1))).map iZ) false), .dead, .dead] hp0) (.agg #[iN 0, iN 0, .int .i64 nx.1, .int .i64 (mskE nx es)]) [.dead] ∧ ((((Int.ofNat e) != (Int.ofNat 0)) = true → (fstV ((aBin Try.prog .neq 44 (.agg #[iN 0, iN 0, .int .i64 nx.1, .int .i64 (mskE nx es)]) (.agg #[iN 0, iN 0, .int .i64 nx.1, .int .i64 (mskE nx es)])).map fun v => (v, none)) : Option Value) = some (.bool false) ∧ (HT (gHe [pb 1 0]) (heapOf [(baB ty bs), tkB 2 nx false, (.map (esV es) cl false), .dead, .dead, .cells 44 [iN 0, iN 0, .int .i64 nx.1, .int .i64 (mskE nx es)] false, (.cells 3 ((sortN nx.1 (es.map (·.1))).map iZ) false), .dead, .dead, .dead, .cells 44 [iN 0, iN 0, .int .i64 nx.1, .int .i64 (mskE nx es)] false] hp0) (.slice (some ⟨11, 0, none⟩) ((es.map (·.1)).length) 4) [(.cells 3 ((sortN nx.1 (es.map (·.1))).map iZ) false), .dead] ∧ ((((Int.ofNat ((es.map (·.1)).length)) != (Int.ofNat ((es.map (·.1)).length))) = true → FixM 0 [] ∧ ∀ g, Q .ret (stOf 117 g [(2, .bool false)] [])) ∧ (((Int.ofNat ((es.map (·.1)).length)) != (Int.ofNat ((es.map (·.1)).length))) = false → (((Int.ofNat e) == (Int.ofNat 0)) = true → HT (gHe [pb 1 0]) (heapOf [(baB ty bs), tkB 2 nx false, (.map (esV es) cl false), .dead, .dead, .cells 44 [iN 0, iN 0, .int .i64 nx.1, .int .i64 (mskE nx es)] false, (.cells 3 ((sortN nx.1 (es.map (·.1))).map iZ) false), .dead, .dead, .dead, .cells 44 [iN 0, iN 0, .int .i64 nx.1, .int .i64 (mskE nx es)] false, (.cells 3 ((sortN nx.1 (es.map (·.1))).map iZ) false), .dead] hp0) (.slice (some ⟨13, 0, none⟩) ((es.map (·.1)).length) 4) [(.cells 3 ((sortN nx.1 (es.map (·.1))).map iZ) false), .dead] ∧ ((some (.int .i64 (wrapF .i64 (Int.ofNat ((es.map (·.1)).length) + Int.ofNat 1))) : Option Value) = some (iN ((es.map (·.1)).length + 1)) ∧ ((((Int.ofNat ((es.map (·.1)).length)) != (wrapF .i64 ((Int.ofNat ((es.map (·.1)).length + 1)) - (Int.tmod (wrapF .i64 ((wrapF .i64 (nx.1 - nx.1)) + (Int.ofNat 65536))) (Int.ofNat 65536))))) = true → FixM 0 [] ∧ ∀ g, Q .ret (stOf 117 g [(2, .bool false)] [])) ∧ (((Int.ofNat ((es.map (·.1)).length)) != (wrapF .i64 ((Int.ofNat ((es.map (·.1)).length + 1)) - (Int.tmod (wrapF .i64 ((wrapF .i64 (nx.1 - nx.1)) + (Int.ofNat 65536))) (Int.ofNat 65536))))) = false → ((decide ((Int.ofNat 0) < (Int.tmod (wrapF .i64 ((wrapF .i64 (nx.1 - nx.1)) + (Int.ofNat 65536))) (Int.ofNat 65536)))) = true → FixM 0 [] ∧ ∀ g, Q .ret (stOf 117 g [(2, .bool false)] [])) ∧ ((decide ((Int.ofNat 0) < (Int.tmod (wrapF .i64 ((wrapF .i64 (nx.1 - nx.1)) + (Int.ofNat 65536))) (Int.ofNat 65536)))) = false → (((Int.tmod (wrapF .i64 ((wrapF .i64 (nx.1 - nx.1)) + (Int.ofNat 65536))) (Int.ofNat 65536)) == (Int.ofNat 0)) = true → HT (gHe [pb 1 0]) (heapOf [(baB ty bs), tkB 2 nx false, (.map (esV es) cl false), .dead, .dead, .cells 44 [iN 0, iN 0, .int .i64 nx.1, .int .i64 (mskE nx es)] false, (.cells 3 ((sortN nx.1 (es.map (·.1))).map iZ) false), .dead, .dead, .dead, .cells 44 [iN 0, iN 0, .int .i64 nx.1, .int .i64 (mskE nx es)] false, (.cells 3 ((sortN nx.1 (es.map (·.1))).map iZ) false), .dead, (.cells 3 ((sortN nx.1 (es.map (·.1))).map iZ) false), .dead] hp0) (.slice (some ⟨15, 0, none⟩) ((es.map (·.1)).length) 4) [(.cells 3 ((sortN nx.1 (es.map (·.1))).map iZ) false), .dead] ∧ (FixM 21 [(baB ty bs), tkB 2 nx false, (.map (esV es) cl false), .cells 44 [iN 0, iN 0, .int .i64 nx.1, .int .i64 (mskE nx es)] false, (.cells 3 ((sortN nx.1 (es.map (·.1))).map iZ) false)] ∧ (∀ g, FRm Try.prog 117 W 0 X lpTi (stOf 117 g [(0, .slice (some ⟨0, 0, none⟩) bs.length 2), (3, pb 1 0), (4, iN i), (9, pb 3 0), (11, .slice (some ⟨4, 0, none⟩) ((es.map (·.1)).length) 4), (12, iN 0)] [(baB ty bs), tkB 2 nx false, (.map (esV es) cl false), .cells 44 [iN 0, iN 0, .int .i64 nx.1, .int .i64 (mskE nx es)] false, (.cells 3 ((sortN nx.1 (es.map (·.1))).map iZ) false)]) (LQ (fun (_ : Unit) g => (.exit 2, stOf 117 g [(0, .slice (some ⟨0, 0, none⟩) bs.length 2), (3, pb 1 0), (4, iN i)] [(baB ty bs), tkB 2 nx false, (.map (esV es) cl false)])) (fun (_ : Unit) => True))) ∧ (∀ (_ : Unit) (g : Nat → Value), True → (some (.int .i64 (wrapF .i64 (Int.ofNat i + Int.ofNat 1))) : Option Value) = some (iN (i + 1)) ∧ (FixM 5 [(baB ty bs), .cells 65 [.int .u32 (Int.ofNat 1), .int .i32 (Int.ofNat 0), .int .u32 (Int.ofNat 0), .map (some 2), .int .i64 nx.1] false, (.map (esV es) cl false)] ∧ ∀ g, Q .normal (stOf 117 g [(0, .slice (some ⟨0, 0, none⟩) bs.length 2), (3, pb 1 0), (4, iN (i + 1))] [(baB ty bs), .cells 65 [.int .u32 (Int.ofNat 1), .int .i32 (Int.ofNat 0), .int .u32 (Int.ofNat 0), .map (some 2), .int .i64 nx.1] false, (.map (esV es) cl false)]))))) ∧ (((Int.tmod (wrapF .i64 ((wrapF .i64 (nx.1 - nx.1)) + (Int.ofNat 65536))) (Int.ofNat 65536)) == (Int.ofNat 0)) = false → HT (gHe [pb 1 0]) (heapOf [(baB ty bs), tkB 2 nx false, (.map (esV es) cl false), .dead, .dead, .cells 44 [iN 0, iN 0, .int .i64 nx.1, .int .i64 (mskE nx es)] false, (.cells 3 ((sortN nx.1 (es.map (·.1))).map iZ) false), .dead, .dead, .dead, .cells 44 [iN 0, iN 0, .int .i64 nx.1, .int .i64 (mskE nx es)] false, (.cells 3 ((sortN nx.1 (es.map (·.1))).map iZ) false), .dead, (.cells 3 ((sortN nx.1 (es.map (·.1))).map iZ) false), .dead] hp0) (.slice (some ⟨15, 0, none⟩) ((es.map (·.1)).length) 4) [(.cells 3 ((sortN nx.1 (es.map (·.1))).map iZ) false), .dead] ∧ (FixM 21 [(baB ty bs), tkB 2 nx false, (.map (esV es) cl false), .cells 44 [iN 0, iN 0, .int .i64 nx.1, .int .i64 (mskE nx es)] false, (.cells 3 ((sortN nx.1 (es.map (·.1))).map iZ) false)] ∧ (∀ g, FRm Try.prog 117 W 0 X lpTi (stOf 117 g [(0, .slice (some ⟨0, 0, none⟩) bs.length 2), (3, pb 1 0), (4, iN i), (9, pb 3 0), (11, .slice (some ⟨4, 0, none⟩) ((es.map (·.1)).length) 4), (12, iN 0)] [(baB ty bs), tkB 2 nx false, (.map (esV es) cl false), .cells 44 [iN 0, iN 0, .int .i64 nx.1, .int .i64 (mskE nx es)] false, (.cells 3 ((sortN nx.1 (es.map (·.1))).map iZ) false)]) (LQ (fun (_ : Unit) g => (.exit 2, stOf 117 g [(0, .slice (some ⟨0, 0, none⟩) bs.length 2), (3, pb 1 0), (4, iN i)] [(baB ty bs), tkB 2 nx false, (.map (esV es) cl false)])) (fun (_ : Unit) => True))) ∧ (∀ (_ : Unit) (g : Nat → Value), True → (some (.int .i64 (wrapF .i64 (Int.ofNat i + Int.ofNat 1))) : Option Value) = some (iN (i + 1)) ∧ (FixM 5 [(baB ty bs), .cells 65 [.int .u32 (Int.ofNat 1), .int .i32 (Int.ofNat 0), .int .u32 (Int.ofNat 0), .map (some 2), .int .i64 nx.1] false, (.map (esV es) cl false)] ∧ ∀ g, Q .normal (stOf 117 g [(0, .slice (some ⟨0, 0, none⟩) bs.length 2), (3, pb 1 0), (4, iN (i + 1))] [(baB ty bs), .cells 65 [.int .u32 (Int.ofNat 1), .int .i32 (Int.ofNat 0), .int .u32 (Int.ofNat 0), .map (some 2), .int .i64 nx.1] false, (.map (esV es) cl false)])))))))))) ∧ (((Int.ofNat e) == (Int.ofNat 0)) = false → HT (gHe [pb 1 0]) (heapOf [(baB ty bs), tkB 2 nx false, (.map (esV es) cl false), .dead, .dead, .cells 44 [iN 0, iN 0, .int .i64 nx.1, .int .i64 (mskE nx es)] false, (.cells 3 ((sortN nx.1 (es.map (·.1))).map iZ) false), .dead, .dead, .dead, .cells 44 [iN 0, iN 0, .int .i64 nx.1, .int .i64 (mskE nx es)] false, (.cells 3 ((sortN nx.1 (es.map (·.1))).map iZ) false), .dead] hp0) (.slice (some ⟨13, 0, none⟩) ((es.map (·.1)).length) 4) [(.cells 3 ((sortN nx.1 (es.map (·.1))).map iZ) false), .dead] ∧ (FixM 21 [(baB ty bs), tkB 2 nx false, (.map (esV es) cl false), .cells 44 [iN 0, iN 0, .int .i64 nx.1, .int .i64 (mskE nx es)] false, (.cells 3 ((sortN nx.1 (es.map (·.1))).map iZ) false)] ∧ (∀ g, FRm Try.prog 117 W 0 X lpTi (stOf 117 g [(0, .slice (some ⟨0, 0, none⟩) bs.length 2), (3, pb 1 0), (4, iN i), (9, pb 3 0), (11, .slice (some ⟨4, 0, none⟩) ((es.map (·.1)).length) 4), (12, iN 0)] [(baB ty bs), tkB 2 nx false, (.map (esV es) cl false), .cells 44 [iN 0, iN 0, .int .i64 nx.1, .int .i64 (mskE nx es)] false, (.cells 3 ((sortN nx.1 (es.map (·.1))).map iZ) false)]) (LQ (fun (_ : Unit) g => (.exit 2, stOf 117 g [(0, .slice (some ⟨0, 0, none⟩) bs.length 2), (3, pb 1 0), (4, iN i)] [(baB ty bs), tkB 2 nx false, (.map (esV es) cl false)])) (fun (_ : Unit) => True))) ∧ (∀ (_ : Unit) (g : Nat → Value), True → (some (.int .i64 (wrapF .i64 (Int.ofNat i + Int.ofNat 1))) : Option Value) = some (iN (i + 1)) ∧ (FixM 5 [(baB ty bs), .cells 65 [.int .u32 (Int.ofNat 1), .int .i32 (Int.ofNat 0), .int .u32 (Int.ofNat 0), .map (some 2), .int .i64 nx.1] false, (.map (esV es) cl false)] ∧ ∀ g, Q .normal (stOf 117 g [(0, .slice (some ⟨0, 0, none⟩) bs.length 2), (3, pb 1 0), (4, iN (i + 1))] [(baB ty bs), .cells 65 [.int .u32 (Int.ofNat 1), .int .i32 (Int.ofNat 0), .int .u32 (Int.ofNat 0), .map (some 2), .int .i64 nx.1] false, (.map (esV es) cl false)]))))))))) ∧ (((Int.ofNat e) != (Int.ofNat 0)) = false → (((Int.ofNat e) == (Int.ofNat 0)) = true → HT (gHe [pb 1 0]) (heapOf [(baB ty bs), tkB 2 nx false, (.map (esV es) cl false), .dead, .dead, .cells 44 [iN 0, iN 0, .int .i64 nx.1, .int .i64 (mskE nx es)] false, (.cells 3 ((sortN nx.1 (es.map (·.1))).map iZ) false), .dead, .dead, .dead, .cells 44 [iN 0, iN 0, .int .i64 nx.1, .int .i64 (mskE nx es)] false] hp0) (.slice (some ⟨11, 0, none⟩) ((es.map (·.1)).length) 4) [(.cells 3 ((sortN nx.1 (es.map (·.1))).map iZ) false), .dead] ∧ ((some (.int .i64 (wrapF .i64 (Int.ofNat ((es.map (·.1)).length) + Int.ofNat 1))) : Option Value) = some (iN ((es.map (·.1)).length + 1)) ∧ ((((Int.ofNat ((es.map (·.1)).length)) != (wrapF .i64 ((Int.ofNat ((es.map (·.1)).length + 1)) - (Int.tmod (wrapF .i64 ((wrapF .i64 (nx.1 - nx.1)) + (Int.ofNat 65536))) (Int.ofNat 65536))))) = true → FixM 0 [] ∧ ∀ g, Q .ret (stOf 117 g [(2, .bool false)] [])) ∧ (((Int.ofNat ((es.map (·.1)).length)) != (wrapF .i64 ((Int.ofNat ((es.map (·.1)).length + 1)) - (Int.tmod (wrapF .i64 ((wrapF .i64 (nx.1 - nx.1)) + (Int.ofNat 65536))) (Int.ofNat 65536))))) = false → ((decide ((Int.ofNat 0) < (Int.tmod (wrapF .i64 ((wrapF .i64 (nx.1 - nx.1)) + (Int.ofNat 65536))) (Int.ofNat 65536)))) = true → FixM 0 [] ∧ ∀ g, Q .ret (stOf 117 g [(2, .bool false)] [])) ∧ ((decide ((Int.ofNat 0) < (Int.tmod (wrapF .i64 ((wrapF .i64 (nx.1 - nx.1)) + (Int.ofNat 65536))) (Int.ofNat 65536)))) = false → (((Int.tmod (wrapF .i64 ((wrapF .i64 (nx.1 - nx.1)) + (Int.ofNat 65536))) (Int.ofNat 65536)) == (Int.ofNat 0)) = true → HT (gHe [pb 1 0]) (heapOf [(baB ty bs), tkB 2 nx false, (.map (esV es) cl false), .dead, .dead, .cells 44 [iN 0, iN 0, .int .i64 nx.1, .int .i64 (mskE nx es)] false, (.cells 3 ((sortN nx.1 (es.map (·.1))).map iZ) false), .dead, .dead, .dead, .cells 44 [iN 0, iN 0, .int .i64 nx.1, .int .i64 (mskE nx es)] false, (.cells 3 ((sortN nx.1 (es.map (·.1))).map iZ) false), .dead] hp0) (.slice (some ⟨13, 0, none⟩) ((es.map (·.1)).length) 4) [(.cells 3 ((sortN nx.1 (es.map (·.1))).map iZ) false), .dead] ∧ (FixM 21 [(baB ty bs), tkB 2 nx false, (.map (esV es) cl false), .cells 44 [iN 0, iN 0, .int .i64 nx.1, .int .i64 (mskE nx es)] false, (.cells 3 ((sortN nx.1 (es.map (·.1))).map iZ) false)] ∧ (∀ g, FRm Try.prog 117 W 0 X lpTi (stOf 117 g [(0, .slice (some ⟨0, 0, none⟩) bs.length 2), (3, pb 1 0), (4, iN i), (9, pb 3 0), (11, .slice (some ⟨4, 0, none⟩) ((es.map (·.1)).length) 4), (12, iN 0)] [(baB ty bs), tkB 2 nx false, (.map (esV es) cl false), .cells 44 [iN 0, iN 0, .int .i64 nx.1, .int .i64 (mskE nx es)] false, (.cells 3 ((sortN nx.1 (es.map (·.1))).map iZ) false)]) (LQ (fun (_ : Unit) g => (.exit 2, stOf 117 g [(0, .slice (some ⟨0, 0, none⟩) bs.length 2), (3, pb 1 0), (4, iN i)] [(baB ty bs), tkB 2 nx false, (.map (esV es) cl false)])) (fun (_ : Unit) => True))) ∧ (∀ (_ : Unit) (g : Nat → Value), True → (some (.int .i64 (wrapF .i64 (Int.ofNat i + Int.ofNat 1))) : Option Value) = some (iN (i + 1)) ∧ (FixM 5 [(baB ty bs), .cells 65 [.int .u32 (Int.ofNat 1), .int .i32 (Int.ofNat 0), .int .u32 (Int.ofNat 0), .map (some 2), .int .i64 nx.1] false, (.map (esV es) cl false)] ∧ ∀ g, Q .normal (stOf 117 g [(0, .slice (some ⟨0, 0, none⟩) bs.length 2), (3, pb 1 0), (4, iN (i + 1))] [(baB ty bs), .cells 65 [.int .u32 (Int.ofNat 1), .int .i32 (Int.ofNat 0), .int .u32 (Int.ofNat 0), .map (some 2), .int .i64 nx.1] false, (.map (esV es) cl false)]))))) ∧ (((Int.tmod (wrapF .i64 ((wrapF .i64 (nx.1 - nx.1)) + (Int.ofNat 65536))) (Int.ofNat 65536)) == (Int.ofNat 0)) = false → HT (gHe [pb 1 0]) (heapOf [(baB ty bs), tkB 2 nx false, (.map (esV es) cl false), .dead, .dead, .cells 44 [iN 0, iN 0, .int .i64 nx.1, .int .i64 (mskE nx es)] false, (.cells 3 ((sortN nx.1 (es.map (·.1))).map iZ) false), .dead, .dead, .dead, .cells 44 [iN 0, iN 0, .int .i64 nx.1, .int .i64 (mskE nx es)] false, (.cells 3 ((sortN nx.1 (es.map (·.1))).map iZ) false), .dead] hp0) (.slice (some ⟨13, 0, none⟩) ((es.map (·.1)).length) 4) [(.cells 3 ((sortN nx.1 (es.map (·.1))).map iZ) false), .dead] ∧ (FixM 21 [(baB ty bs), tkB 2 nx false, (.map (esV es) cl false), .cells 44 [iN 0, iN 0, .int .i64 nx.1, .int .i64 (mskE nx es)] false, (.cells 3 ((sortN nx.1 (es.map (·.1))).map iZ) false)] ∧ (∀ g, FRm Try.prog 117 W 0 X lpTi (stOf 117 g [(0, .slice (some ⟨0, 0, none⟩) bs.length 2), (3, pb 1 0), (4, iN i), (9, pb 3 0), (11, .slice (some ⟨4, 0, none⟩) ((es.map (·.1)).length) 4), (12, iN 0)] [(baB ty bs), tkB 2 nx false, (.map (esV es) cl false), .cells 44 [iN 0, iN 0, .int .i64 nx.1, .int .i64 (mskE nx es)] false, (.cells 3 ((sortN nx.1 (es.map (·.1))).map iZ) false)]) (LQ (fun (_ : Unit) g => (.exit 2, stOf 117 g [(0, .slice (some ⟨0, 0, none⟩) bs.length 2), (3, pb 1 0), (4, iN i)] [(baB ty bs), tkB 2 nx false, (.map (esV es) cl false)])) (fun (_ : Unit) => True))) ∧ (∀ (_ : Unit) (g : Nat → Value), True → (some (.int .i64 (wrapF .i64 (Int.ofNat i + Int.ofNat 1))) : Option Value) = some (iN (i + 1)) ∧ (FixM 5 [(baB ty bs), .cells 65 [.int .u32 (Int.ofNat 1), .int .i32 (Int.ofNat 0), .int .u32 (Int.ofNat 0), .map (some 2), .int .i64 nx.1] false, (.map (esV es) cl false)] ∧ ∀ g, Q .normal (stOf 117 g [(0, .slice (some ⟨0, 0, none⟩) bs.length 2), (3, pb 1 0), (4, iN (i + 1))] [(baB ty bs), .cells 65 [.int .u32 (Int.ofNat 1), .int .i32 (Int.ofNat 0), .int .u32 (Int.ofNat 0), .map (some 2), .int .i64 nx.1] false, (.map (esV es) cl false)])))))))))) ∧ (((Int.ofNat e) == (Int.ofNat 0)) = false → HT (gHe [pb 1 0]) (heapOf [(baB ty bs), tkB 2 nx false, (.map (esV es) cl false), .dead, .dead, .cells 44 [iN 0, iN 0, .int .i64 nx.1, .int .i64 (mskE nx es)] false, (.cells 3 ((sortN nx.1 (es.map (·.1))).map iZ) false), .dead, .dead, .dead, .cells 44 [iN 0, iN 0, .int .i64 nx.1, .int .i64 (mskE nx es)] false] hp0) (.slice (some ⟨11, 0, none⟩) ((es.map (·.1)).length) 4) [(.cells 3 ((sortN nx.1 (es.map (·.1))).map iZ) false), .dead] ∧ (FixM 21 [(baB ty bs), tkB 2 nx false, (.map (esV es) cl false), .cells 44 [iN 0, iN 0, .int .i64 nx.1, .int .i64 (mskE nx es)] false, (.cells 3 ((sortN nx.1 (es.map (·.1))).map iZ) false)] ∧ (∀ g, FRm Try.prog 117 W 0 X lpTi (stOf 117 g [(0, .slice (some ⟨0, 0, none⟩) bs.length 2), (3, pb 1 0), (4, iN i), (9, pb 3 0), (11, .slice (some ⟨4, 0, none⟩) ((es.map (·.1)).length) 4), (12, iN 0)] [(baB ty bs), tkB 2 nx false, (.map (esV es) cl false), .cells 44 [iN 0, iN 0, .int .i64 nx.1, .int .i64 (mskE nx es)] false, (.cells 3 ((sortN nx.1 (es.map (·.1))).map iZ) false)]) (LQ (fun (_ : Unit) g => (.exit 2, stOf 117 g [(0, .slice (some ⟨0, 0, none⟩) bs.length 2), (3, pb 1 0), (4, iN i)] [(baB ty bs), tkB 2 nx false, (.map (esV es) cl false)])) (fun (_ : Unit) => True))) ∧ (∀ (_ : Unit) (g : Nat → Value), True → (some (.int .i64 (wrapF .i64 (Int.ofNat i + Int.ofNat 1))) : Option Value) = some (iN (i + 1)) ∧ (FixM 5 [(baB ty bs), .cells 65 [.int .u32 (Int.ofNat 1), .int .i32 (Int.ofNat 0), .int .u32 (Int.ofNat 0), .map (some 2), .int .i64 nx.1] false, (.map (esV es) cl false)] ∧ ∀ g, Q .normal (stOf 117 g [(0, .slice (some ⟨0, 0, none⟩) bs.length 2), (3, pb 1 0), (4, iN (i + 1))] [(baB ty bs), .cells 65 [.int .u32 (Int.ofNat 1), .int .i32 (Int.ofNat 0), .int .u32 (Int.ofNat 0), .map (some 2), .int .i64 nx.1] false, (.map (esV es) cl false)]))))))))))))) ∧ ((decide ((Int.ofNat i) < (Int.ofNat bs.length))) = false → FixM 0 [] ∧ ∀ g, Q (.exit 0) (stOf 117 g [] []))
theorem Tb1_e (ty : TypeId) (bs : List Bat) (i : Nat) (x : Bat) (nx : UN) (es : List Ent) (cl : Nat) (e : Nat) (g : Nat → Value) (W : Base) (X : Pins) (Q : Exit → St → Prop) : Tb1T ty bs i x nx es cl e g W X Q = WM Try.prog ETc 117 W 0 X 200 lbTc (stOf 117 g [(0, .slice (some ⟨0, 0, none⟩) bs.length 2), (3, pb 1 0), (4, iN i)] [(baB ty bs), tkB 2 nx false, (.map (esV es) cl false)]) (.b 3 (.h 5 (.agg #[iN 0, iN 0, .int .i64 nx.1, .int .i64 (mskE nx es)]) [.dead] (.h 9 (.slice (some ⟨6, 0, none⟩) ((es.map (·.1)).length) 4) [(.cells 3 ((sortN nx.1 (es.map (·.1))).map iZ) false), .dead] (.v 15 (pb 0 (i * 2)) (.v 16 (.agg #[.int .i64 x.1, LIT x.2.1.length x.2.2 (x.2.1.flatMap obL)]) (.e 17 (.tuple #[nilS, iN e]) [.put 1 (tkB 2 nx false), .put 2 ((.map (esV es) cl false)), .push (.dead)] (.h 24 (.agg #[iN 0, iN 0, .int .i64 nx.1, .int .i64 (mskE nx es)]) [.dead] (.b 36 (.v 44 (.bool false) (.h 48 (.slice (some ⟨11, 0, none⟩) ((es.map (·.1)).length) 4) [(.cells 3 ((sortN nx.1 (es.map (·.1))).map iZ) false), .dead] (.b 51 (.stop 0 [] [2]) (.b 55 (.h 58 (.slice (some ⟨13, 0, none⟩) ((es.map (·.1)).length) 4) [(.cells 3 ((sortN nx.1 (es.map (·.1))).map iZ) false), .dead] (.v 61 (iN ((es.map (·.1)).length + 1)) (.b 64 (.stop 0 [] [2]) (.b 69 (.stop 0 [] [2]) (.b 73 (.h 82 (.slice (some ⟨15, 0, none⟩) ((es.map (·.1)).length) 4) [(.cells 3 ((sortN nx.1 (es.map (·.1))).map iZ) false), .dead] (.l 85 1021 [0, 1, 2, 10, 15] [0, 3, 4, 9, 11, 12] Unit (fun (_ : Unit) g => (.exit 2, stOf 117 g [(0, .slice (some ⟨0, 0, none⟩) bs.length 2), (3, pb 1 0), (4, iN i)] [(baB ty bs), tkB 2 nx false, (.map (esV es) cl false)])) (fun (_ : Unit) => True) (.v 86 (iN (i + 1)) (.stop 5 [0, 1, 2] [0, 3, 4])))) (.h 79 (.slice (some ⟨15, 0, none⟩) ((es.map (·.1)).length) 4) [(.cells 3 ((sortN nx.1 (es.map (·.1))).map iZ) false), .dead] (.l 82 1021 [0, 1, 2, 10, 15] [0, 3, 4, 9, 11, 12] Unit (fun (_ : Unit) g => (.exit 2, stOf 117 g [(0, .slice (some ⟨0, 0, none⟩) bs.length 2), (3, pb 1 0), (4, iN i)] [(baB ty bs), tkB 2 nx false, (.map (esV es) cl false)])) (fun (_ : Unit) => True) (.v 83 (iN (i + 1)) (.stop 5 [0, 1, 2] [0, 3, 4]))))))))) (.h 59 (.slice (some ⟨13, 0, none⟩) ((es.map (·.1)).length) 4) [(.cells 3 ((sortN nx.1 (es.map (·.1))).map iZ) false), .dead] (.l 62 1021 [0, 1, 2, 10, 13] [0, 3, 4, 9, 11, 12] Unit (fun (_ : Unit) g => (.exit 2, stOf 117 g [(0, .slice (some ⟨0, 0, none⟩) bs.length 2), (3, pb 1 0), (4, iN i)] [(baB ty bs), tkB 2 nx false, (.map (esV es) cl false)])) (fun (_ : Unit) => True) (.v 63 (iN (i + 1)) (.stop 5 [0, 1, 2] [0, 3, 4])))))))) (.b 40 (.h 43 (.slice (some ⟨11, 0, none⟩) ((es.map (·.1)).length) 4) [(.cells 3 ((sortN nx.1 (es.map (·.1))).map iZ) false), .dead] (.v 46 (iN ((es.map (·.1)).length + 1)) (.b 49 (.stop 0 [] [2]) (.b 54 (.stop 0 [] [2]) (.b 58 (.h 67 (.slice (some ⟨13, 0, none⟩) ((es.map (·.1)).length) 4) [(.cells 3 ((sortN nx.1 (es.map (·.1))).map iZ) false), .dead] (.l 70 1021 [0, 1, 2, 10, 13] [0, 3, 4, 9, 11, 12] Unit (fun (_ : Unit) g => (.exit 2, stOf 117 g [(0, .slice (some ⟨0, 0, none⟩) bs.length 2), (3, pb 1 0), (4, iN i)] [(baB ty bs), tkB 2 nx false, (.map (esV es) cl false)])) (fun (_ : Unit) => True) (.v 71 (iN (i + 1)) (.stop 5 [0, 1, 2] [0, 3, 4])))) (.h 64 (.slice (some ⟨13, 0, none⟩) ((es.map (·.1)).length) 4) [(.cells 3 ((sortN nx.1 (es.map (·.1))).map iZ) false), .dead] (.l 67 1021 [0, 1, 2, 10, 13] [0, 3, 4, 9, 11, 12] Unit (fun (_ : Unit) g => (.exit 2, stOf 117 g [(0, .slice (some ⟨0, 0, none⟩) bs.length 2), (3, pb 1 0), (4, iN i)] [(baB ty bs), tkB 2 nx false, (.map (esV es) cl false)])) (fun (_ : Unit) => True) (.v 68 (iN (i + 1)) (.stop 5 [0, 1, 2] [0, 3, 4]))))))))) (.h 44 (.slice (some ⟨11, 0, none⟩) ((es.map (·.1)).length) 4) [(.cells 3 ((sortN nx.1 (es.map (·.1))).map iZ) false), .dead] (.l 47 1021 [0, 1, 2, 10, 11] [0, 3, 4, 9, 11, 12] Unit (fun (_ : Unit) g => (.exit 2, stOf 117 g [(0, .slice (some ⟨0, 0, none⟩) bs.length 2), (3, pb 1 0), (4, iN i)] [(baB ty bs), tkB 2 nx false, (.map (esV es) cl false)])) (fun (_ : Unit) => True) (.v 48 (iN (i + 1)) (.stop 5 [0, 1, 2] [0, 3, 4])))))))))))) (.stop 0 [] [])) Q := by kernel_rfl
abbrev Tb2T (ty : TypeId) (bs : List Bat) (i : Nat) (x : Bat) (nx : UN) (cl : Nat) (ny : UN) (fs : List Ent) (dl : Nat) (g : Nat → Value) (W : Base) (X : Pins) (Q : Exit → St → Prop) : Prop := ((decide ((Int.ofNat i) < (Int.ofNat bs.length))) = true → HT (gAk [pb 1 0]) (heapOf [(baB ty bs), tkB 2 nx false, (.map (esV []) cl false), .dead] hp0) (.agg #[iN 0, iN 0, .int .i64 nx.1, .int .i64 (mskE nx [])]) [.dead] ∧ (HT (gHe [pb 1 0]) (heapOf [(baB ty bs), tkB 2 nx false, (.map (esV []) cl false), .dead, .dead, .cells 44 [iN 0, iN 0, .int .i64 nx.1, .int .i64 (mskE nx [])] false] hp0) (nilS) [.dead] ∧ ((fstV ((aIndexAddr Try.prog 24 (.slice (some ⟨0, 0, none⟩) bs.length 2) (iN i)).map fun v => (v, none)) : Option Value) = some (pb 0 (i * 2)) ∧ ((aLoad Try.prog (heapOf [(baB ty bs), tkB 2 nx false, (.map (esV []) cl false), .dead, .dead, .cells 44 [iN 0, iN 0, .int .i64 nx.1, .int .i64 (mskE nx [])] false, .dead] hp0).get 27 (pb 0 (i * 2)) : Option Value) = some (.agg #[.int .i64 x.1, LIT x.2.1.length x.2.2 (x.2.1.flatMap obL)]) ∧ (HE (gTa [pb 1 0, .agg #[.int .i64 x.1, LIT x.2.1.length x.2.2 (x.2.1.flatMap obL)]]) (heapOf [(baB ty bs), tkB 2 nx false, (.map (esV []) cl false), .dead, .dead, .cells 44 [iN 0, iN 0, .int .i64 nx.1, .int .i64 (mskE nx [])] false, .dead] hp0) (.tuple #[nilS, iN 0]) [.put 1 (tkB 2 ny false), .put 2 ((.map (esV fs) dl false)), .push (.dead)] ∧ (HT (gAk [pb 1 0]) (heapOf [(baB ty bs), tkB 2 ny false, (.map (esV fs) dl false), .dead, .dead, .cells 44 [iN 0, iN 0, .int .i64 nx.1, .int .i64 (mskE nx [])] false, .dead, .dead] hp0) (.agg #[iN 0, iN 0, .int .i64 ny.1, .int .i64 (mskE ny fs)]) [.dead] ∧ (HT (gHe [pb 1 0]) (heapOf [(baB ty bs), tkB 2 ny false, (.map (esV fs) dl false), .dead, .dead, .cells 44 [iN 0, iN 0, .int .i64 nx.1, .int .i64 (mskE nx [])] false, .dead, .dead, .dead, .cells 44 [iN 0, iN 0, .int .i64 ny.1, .int .i64 (mskE ny fs)] false] hp0) (.slice (some ⟨10, 0, none⟩) ((fs.map (·.1)).length) 4) [(.cells 3 ((sortN ny.1 (fs.map (·.1))).map iZ) false), .dead] ∧ ((((Int.ofNat ((fs.map (·.1)).length)) != (wrapF .i64 ((Int.ofNat 1) - (Int.tmod (wrapF .i64 ((wrapF .i64 (ny.1 - nx.1)) + (Int.ofNat 65536))) (Int.ofNat 65536))))) = true → FixM 0 [] ∧ ∀ g, Q .ret (stOf 117 g [(2, .bool false)] [])) ∧ (((Int.ofNat ((fs.map (·.1)).length)) != (wrapF .i64 ((Int.ofNat 1) - (Int.tmod (wrapF .i64 ((wrapF .i64 (ny.1 - nx.1)) + (Int.ofNat 65536))) (Int.ofNat 65536))))) = false → ((decide ((Int.ofNat 0) < (Int.tmod (wrapF .i64 ((wrapF .i64 (ny.1 - nx.1)) + (Int.ofNat 65536))) (Int.ofNat 65536)))) = true → FixM 0 [] ∧ ∀ g, Q .ret (stOf 117 g [(2, .bool false)] [])) ∧ ((decide ((Int.ofNat 0) < (Int.tmod (wrapF .i64 ((wrapF .i64 (ny.1 - nx.1)) + (Int.ofNat 65536))) (Int.ofNat 65536)))) = false → (((Int.tmod (wrapF .i64 ((wrapF .i64 (ny.1 - nx.1)) + (Int.ofNat 65536))) (Int.ofNat 65536)) == (Int.ofNat 0)) = true → HT (gHe [pb 1 0]) (heapOf [(baB ty bs), tkB 2 ny false, (.map (esV fs) dl false), .dead, .dead, .cells 44 [iN 0, iN 0, .int .i64 nx.1, .int .i64 (mskE nx [])] false, .dead, .dead, .dead, .cells 44 [iN 0, iN 0, .int .i64 ny.1, .int .i64 (mskE ny fs)] false, (.cells 3 ((sortN ny.1 (fs.map (·.1))).map iZ) false), .dead] hp0) (.slice (some ⟨12, 0, none⟩) ((fs.map (·.1)).length) 4) [(.cells 3 ((sortN ny.1 (fs.map (·.1))).map iZ) false), .dead] ∧ (FixM 21 [(baB ty bs), tkB 2 ny false, (.map (esV fs) dl false), .cells 44 [iN 0, iN 0, .int .i64 ny.1, .int .i64 (mskE ny fs)] false, (.cells 3 ((sortN ny.1 (fs.map (·.1))).map iZ) false)] ∧ (∀ g, FRm Try.prog 117 W 0 X lpTi (stOf 117 g [(0, .slice (some ⟨0, 0, none⟩) bs.length 2), (3, pb 1 0), (4, iN i), (9, pb 3 0), (11, .slice (some ⟨4, 0, none⟩) ((fs.map (·.1)).length) 4), (12, iN 0)] [(baB ty bs), tkB 2 ny false, (.map (esV fs) dl false), .cells 44 [iN 0, iN 0, .int .i64 ny.1, .int .i64 (mskE ny fs)] false, (.cells 3 ((sortN ny.1 (fs.map (·.1))).map iZ) false)]) (LQ (fun (_ : Unit) g => (.exit 2, stOf 117 g [(0, .slice (some ⟨0, 0, none⟩) bs.length 2), (3, pb 1 0), (4, iN i)] [(baB ty bs), tkB 2 ny false, (.map (esV fs) dl false)])) (fun (_ : Unit) => True))) ∧ (∀ (_ : Unit) (g : Nat → Value), True → (some (.int .i64 (wrapF .i64 (Int.ofNat i + Int.ofNat 1))) : Option Value) = some (iN (i + 1)) ∧ (FixM 5 [(baB ty bs), .cells 65 [.int .u32 (Int.ofNat 1), .int .i32 (Int.ofNat 0), .int .u32 (Int.ofNat 0), .map (some 2), .int .i64 ny.1] false, (.map (esV fs) dl false)] ∧ ∀ g, Q .normal (stOf 117 g [(0, .slice (some ⟨0, 0, none⟩) bs.length 2), (3, pb 1 0), (4, iN (i + 1))] [(baB ty bs), .cells 65 [.int .u32 (Int.ofNat 1), .int .i32 (Int.ofNat 0), .int .u32 (Int.ofNat 0), .map (some 2), .int .i64 ny.1] false, (.map (esV fs) dl false)]))))) ∧ (((Int.tmod (wrapF .i64 ((wrapF .i64 (ny.1 - nx.1)) + (Int.ofNat 65536))) (Int.ofNat 65536)) == (Int.ofNat 0)) = false → HT (gHe [pb 1 0]) (heapOf [(baB ty bs), tkB 2 ny false, (.map (esV fs) dl false), .dead, .dead, .cells 44 [iN 0, iN 0, .int .i64 nx.1, .int .i64 (mskE nx [])] false, .dead, .dead, .dead, .cells 44 [iN 0, iN 0, .int .i64 ny.1, .int .i64 (mskE ny fs)] false, (.cells 3 ((sortN ny.1 (fs.map (·.1))).map iZ) false), .dead] hp0) (.slice (some ⟨12, 0, none⟩) ((fs.map (·.1)).length) 4) [(.cells 3 ((sortN ny.1 (fs.map (·.1))).map iZ) false), .dead] ∧ (FixM 21 [(baB ty bs), tkB 2 ny false, (.map (esV fs) dl false), .cells 44 [iN 0, iN 0, .int .i64 ny.1, .int .i64 (mskE ny fs)] false, (.cells 3 ((sortN ny.1 (fs.map (·.1))).map iZ) false)] ∧ (∀ g, FRm Try.prog 117 W 0 X lpTi (stOf 117 g [(0, .slice (some ⟨0, 0, none⟩) bs.length 2), (3, pb 1 0), (4, iN i), (9, pb 3 0), (11, .slice (some ⟨4, 0, none⟩) ((fs.map (·.1)).length) 4), (12, iN 0)] [(baB ty bs), tkB 2 ny false, (.map (esV fs) dl false), .cells 44 [iN 0, iN 0, .int .i64 ny.1, .int .i64 (mskE ny fs)] false, (.cells 3 ((sortN ny.1 (fs.map (·.1))).map iZ) false)]) (LQ (fun (_ : Unit) g => (.exit 2, stOf 117 g [(0, .slice (some ⟨0, 0, none⟩) bs.length 2), (3, pb 1 0), (4, iN i)] [(baB ty bs), tkB 2 ny false, (.map (esV fs) dl false)])) (fun (_ : Unit) => True))) ∧ (∀ (_ : Unit) (g : Nat → Value), True → (some (.int .i64 (wrapF .i64 (Int.ofNat i + Int.ofNat 1))) : Option Value) = some (iN (i + 1)) ∧ (FixM 5 [(baB ty bs), .cells 65 [.int .u32 (Int.ofNat 1), .int .i32 (Int.ofNat 0), .int .u32 (Int.ofNat 0), .map (some 2), .int .i64 ny.1] false, (.map (esV fs) dl false)] ∧ ∀ g, Q .normal (stOf 117 g [(0, .slice (some ⟨0, 0, none⟩) bs.length 2), (3, pb 1 0), (4, iN (i + 1))] [(baB ty bs), .cells 65 [.int .u32 (Int.ofNat 1), .int .i32 (Int.ofNat 0), .int .u32 (Int.ofNat 0), .map (some 2), .int .i64 ny.1] false, (.map (esV fs) dl false)]))))))))))))))) ∧ ((decide ((Int.ofNat i) < (Int.ofNat bs.length))) = false → FixM 0 [] ∧ ∀ g, Q (.exit 0) (stOf 117 g [] []))
theorem Tb2_e (ty : TypeId) (bs : List Bat) (i : Nat) (x : Bat) (nx : UN) (cl : Nat) (ny : UN) (fs : List Ent) (dl : Nat) (g : Nat → Value) (W : Base) (X : Pins) (Q : Exit → St → Prop) : Tb2T ty bs i x nx cl ny fs dl g W X Q = WM Try.prog ETc 117 W 0 X 200 lbTc (stOf 117 g [(0, .slice (some ⟨0, 0, none⟩) bs.length 2), (3, pb 1 0), (4, iN i)] [(baB ty bs), tkB 2 nx false, (.map (esV []) cl false)]) (.b 3 (.h 5 (.agg #[iN 0, iN 0, .int .i64 nx.1, .int .i64 (mskE nx [])]) [.dead] (.h 9 (nilS) [.dead] (.v 15 (pb 0 (i * 2)) (.v 16 (.agg #[.int .i64 x.1, LIT x.2.1.length x.2.2 (x.2.1.flatMap obL)]) (.e 17 (.tuple #[nilS, iN 0]) [.put 1 (tkB 2 ny false), .put 2 ((.map (esV fs) dl false)), .push (.dead)] (.h 24 (.agg #[iN 0, iN 0, .int .i64 ny.1, .int .i64 (mskE ny fs)]) [.dead] (.h 43 (.slice (some ⟨10, 0, none⟩) ((fs.map (·.1)).length) 4) [(.cells 3 ((sortN ny.1 (fs.map (·.1))).map iZ) false), .dead] (.b 49 (.stop 0 [] [2]) (.b 54 (.stop 0 [] [2]) (.b 58 (.h 67 (.slice (some ⟨12, 0, none⟩) ((fs.map (·.1)).length) 4) [(.cells 3 ((sortN ny.1 (fs.map (·.1))).map iZ) false), .dead] (.l 70 1021 [0, 1, 2, 9, 12] [0, 3, 4, 9, 11, 12] Unit (fun (_ : Unit) g => (.exit 2, stOf 117 g [(0, .slice (some ⟨0, 0, none⟩) bs.length 2), (3, pb 1 0), (4, iN i)] [(baB ty bs), tkB 2 ny false, (.map (esV fs) dl false)])) (fun (_ : Unit) => True) (.v 71 (iN (i + 1)) (.stop 5 [0, 1, 2] [0, 3, 4])))) (.h 64 (.slice (some ⟨12, 0, none⟩) ((fs.map (·.1)).length) 4) [(.cells 3 ((sortN ny.1 (fs.map (·.1))).map iZ) false), .dead] (.l 67 1021 [0, 1, 2, 9, 12] [0, 3, 4, 9, 11, 12] Unit (fun (_ : Unit) g => (.exit 2, stOf 117 g [(0, .slice (some ⟨0, 0, none⟩) bs.length 2), (3, pb 1 0), (4, iN i)] [(baB ty bs), tkB 2 ny false, (.map (esV fs) dl false)])) (fun (_ : Unit) => True) (.v 68 (iN (i + 1)) (.stop 5 [0, 1, 2] [0, 3, 4])))))))))))))) (.stop 0 [] [])) Q := by kernel_rfl
abbrev Tb3T (ty : TypeId) (bs : List Bat) (i : Nat) (x : Bat) (nx : UN) (es : List Ent) (cl : Nat) (ny : UN) (fs : List Ent) (dl : Nat) (g : Nat → Value) (W : Base) (X : Pins) (Q : Exit → St → Prop) : Prop := ((decide ((Int.ofNat i) < (Int.ofNat bs.length))) = true → HT (gAk [pb 1 0]) (heapOf [(baB ty bs), tkB 2 nx false, (.map (esV es) cl false), .dead] hp0) (.agg #[iN 0, iN 0, .int .i64 nx.1, .int .i64 (mskE nx es)]) [.dead] ∧ (HT (gHe [pb 1 0]) (heapOf [(baB ty bs), tkB 2 nx false, (.map (esV es) cl false), .dead, .dead, .cells 44 [iN 0, iN 0, .int .i64 nx.1, .int .i64 (mskE nx es)] false] hp0) (.slice (some ⟨6, 0, none⟩) ((es.map (·.1)).length) 4) [(.cells 3 ((sortN nx.1 (es.map (·.1))).map iZ) false), .dead] ∧ ((fstV ((aIndexAddr Try.prog 24 (.slice (some ⟨0, 0, none⟩) bs.length 2) (iN i)).map fun v => (v, none)) : Option Value) = some (pb 0 (i * 2)) ∧ ((aLoad Try.prog (heapOf [(baB ty bs), tkB 2 nx false, (.map (esV es) cl false), .dead, .dead, .cells 44 [iN 0, iN 0, .int .i64 nx.1, .int .i64 (mskE nx es)] false, (.cells 3 ((sortN nx.1 (es.map (·.1))).map iZ) false), .dead] hp0).get 27 (pb 0 (i * 2)) : Option Value) = some (.agg #[.int .i64 x.1, LIT x.2.1.length x.2.2 (x.2.1.flatMap obL)]) ∧ (HE (gTa [pb 1 0, .agg #[.int .i64 x.1, LIT x.2.1.length x.2.2 (x.2.1.flatMap obL)]]) (heapOf [(baB ty bs), tkB 2 nx false, (.map (esV es) cl false), .dead, .dead, .cells 44 [iN 0, iN 0, .int .i64 nx.1, .int .i64 (mskE nx es)] false, (.cells 3 ((sortN nx.1 (es.map (·.1))).map iZ) false), .dead] hp0) (.tuple #[nilS, iN 0]) [.put 1 (tkB 2 ny false), .put 2 ((.map (esV fs) dl false)), .push (.dead)] ∧ (HT (gAk [pb 1 0]) (heapOf [(baB ty bs), tkB 2 ny false, (.map (esV fs) dl false), .dead, .dead, .cells 44 [iN 0, iN 0, .int .i64 nx.1, .int .i64 (mskE nx es)] false, (.cells 3 ((sortN nx.1 (es.map (·.1))).map iZ) false), .dead, .dead] hp0) (.agg #[iN 0, iN 0, .int .i64 ny.1, .int .i64 (mskE ny fs)]) [.dead] ∧ (HT (gHe [pb 1 0]) (heapOf [(baB ty bs), tkB 2 ny false, (.map (esV fs) dl false), .dead, .dead, .cells 44 [iN 0, iN 0, .int .i64 nx.1, .int .i64 (mskE nx es)] false, (.cells 3 ((sortN nx.1 (es.map (·.1))).map iZ) false), .dead, .dead, .dead, .cells 44 [iN 0, iN 0, .int .i64 ny.1, .int .i64 (mskE ny fs)] false] hp0) (.slice (some ⟨11, 0, none⟩) ((fs.map (·.1)).length) 4) [(.cells 3 ((sortN ny.1 (fs.map (·.1))).map iZ) false), .dead] ∧ ((some (.int .i64 (wrapF .i64 (Int.ofNat ((es.map (·.1)).length) + Int.ofNat 1))) : Option Value) = some (iN ((es.map (·.1)).length + 1)) ∧ ((((Int.ofNat ((fs.map (·.1)).length)) != (wrapF .i64 ((Int.ofNat ((es.map (·.1)).length + 1)) - (Int.tmod (wrapF .i64 ((wrapF .i64 (ny.1 - nx.1)) + (Int.ofNat 65536))) (Int.ofNat 65536))))) = true → FixM 0 [] ∧ ∀ g, Q .ret (stOf 117 g [(2, .bool false)] [])) ∧ (((Int.ofNat ((fs.map (·.1)).length)) != (wrapF .i64 ((Int.ofNat ((es.map (·.1)).length + 1)) - (Int.tmod (wrapF .i64 ((wrapF .i64 (ny.1 - nx.1)) + (Int.ofNat 65536))) (Int.ofNat 65536))))) = false → ((decide ((Int.ofNat 0) < (Int.tmod (wrapF .i64 ((wrapF .i64 (ny.1 - nx.1)) + (Int.ofNat 65536))) (Int.ofNat 65536)))) = true → FixM 0 [] ∧ ∀ g, Q .ret (stOf 117 g [(2, .bool false)] [])) ∧ ((decide ((Int.ofNat 0) < (Int.tmod (wrapF .i64 ((wrapF .i64 (ny.1 - nx.1)) + (Int.ofNat 65536))) (Int.ofNat 65536)))) = false → (((Int.tmod (wrapF .i64 ((wrapF .i64 (ny.1 - nx.1)) + (Int.ofNat 65536))) (Int.ofNat 65536)) == (Int.ofNat 0)) = true → HT (gHe [pb 1 0]) (heapOf [(baB ty bs), tkB 2 ny false, (.map (esV fs) dl false), .dead, .dead, .cells 44 [iN 0, iN 0, .int .i64 nx.1, .int .i64 (mskE nx es)] false, (.cells 3 ((sortN nx.1 (es.map (·.1))).map iZ) false), .dead, .dead, .dead, .cells 44 [iN 0, iN 0, .int .i64 ny.1, .int .i64 (mskE ny fs)] false, (.cells 3 ((sortN ny.1 (fs.map (·.1))).map iZ) false), .dead] hp0) (.slice (some ⟨13, 0, none⟩) ((fs.map (·.1)).length) 4) [(.cells 3 ((sortN ny.1 (fs.map (·.1))).map iZ) false), .dead] ∧ (FixM 21 [(baB ty bs), tkB 2 ny false, (.map (esV fs) dl false), .cells 44 [iN 0, iN 0, .int .i64 ny.1, .int .i64 (mskE ny fs)] false, (.cells 3 ((sortN ny.1 (fs.map (·.1))).map iZ) false)] ∧ (∀ g, FRm Try.prog 117 W 0 X lpTi (stOf 117 g [(0, .slice (some ⟨0, 0, none⟩) bs.length 2), (3, pb 1 0), (4, iN i), (9, pb 3 0), (11, .slice (some ⟨4, 0, none⟩) ((fs.map (·.1)).length) 4), (12, iN 0)] [(baB ty bs), tkB 2 ny false, (.map (esV fs) dl false), .cells 44 [iN 0, iN 0, .int .i64 ny.1, .int .i64 (mskE ny fs)] false, (.cells 3 ((sortN ny.1 (fs.map (·.1))).map iZ) false)]) (LQ (fun (_ : Unit) g => (.exit 2, stOf 117 g [(0, .slice (some ⟨0, 0, none⟩) bs.length 2), (3, pb 1 0), (4, iN i)] [(baB ty bs), tkB 2 ny false, (.map (esV fs) dl false)])) (fun (_ : Unit) => True))) ∧ (∀ (_ : Unit) (g : Nat → Value), True → (some (.int .i64 (wrapF .i64 (Int.ofNat i + Int.ofNat 1))) : Option Value) = some (iN (i + 1)) ∧ (FixM 5 [(baB ty bs), .cells 65 [.int .u32 (Int.ofNat 1), .int .i32 (Int.ofNat 0), .int .u32 (Int.ofNat 0), .map (some 2), .int .i64 ny.1] false, (.map (esV fs) dl false)] ∧ ∀ g, Q .normal (stOf 117 g [(0, .slice (some ⟨0, 0, none⟩) bs.length 2), (3, pb 1 0), (4, iN (i + 1))] [(baB ty bs), .cells 65 [.int .u32 (Int.ofNat 1), .int .i32 (Int.ofNat 0), .int .u32 (Int.ofNat 0), .map (some 2), .int .i64 ny.1] false, (.map (esV fs) dl false)]))))) ∧ (((Int.tmod (wrapF .i64 ((wrapF .i64 (ny.1 - nx.1)) + (Int.ofNat 65536))) (Int.ofNat 65536)) == (Int.ofNat 0)) = false → HT (gHe [pb 1 0]) (heapOf [(baB ty bs), tkB 2 ny false, (.map (esV fs) dl false), .dead, .dead, .cells 44 [iN 0, iN 0, .int .i64 nx.1, .int .i64 (mskE nx es)] false, (.cells 3 ((sortN nx.1 (es.map (·.1))).map iZ) false), .dead, .dead, .dead, .cells 44 [iN 0, iN 0, .int .i64 ny.1, .int .i64 (mskE ny fs)] false, (.cells 3 ((sortN ny.1 (fs.map (·.1))).map iZ) false), .dead] hp0) (.slice (some ⟨13, 0, none⟩) ((fs.map (·.1)).length) 4) [(.cells 3 ((sortN ny.1 (fs.map (·.1))).map iZ) false), .dead] ∧ (FixM 21 [(baB ty bs), tkB 2 ny false, (.map (esV fs) dl false), .cells 44 [iN 0, iN 0, .int .i64 ny.1, .int .i64 (mskE ny fs)] false, (.cells 3 ((sortN ny.1 (fs.map (·.1))).map iZ) false)] ∧ (∀ g, FRm Try.prog 117 W 0 X lpTi (stOf 117 g [(0, .slice (some ⟨0, 0, none⟩) bs.length 2), (3, pb 1 0), (4, iN i), (9, pb 3 0), (11, .slice (some ⟨4, 0, none⟩) ((fs.map (·.1)).length) 4), (12, iN 0)] [(baB ty bs), tkB 2 ny false, (.map (esV fs) dl false), .cells 44 [iN 0, iN 0, .int .i64 ny.1, .int .i64 (mskE ny fs)] false, (.cells 3 ((sortN ny.1 (fs.map (·.1))).map iZ) false)]) (LQ (fun (_ : Unit) g => (.exit 2, stOf 117 g [(0, .slice (some ⟨0, 0, none⟩) bs.length 2), (3, pb 1 0), (4, iN i)] [(baB ty bs), tkB 2 ny false, (.map (esV fs) dl false)])) (fun (_ : Unit) => True))) ∧ (∀ (_ : Unit) (g : Nat → Value), True → (some (.int .i64 (wrapF .i64 (Int.ofNat i + Int.ofNat 1))) : Option Value) = some (iN (i + 1)) ∧ (FixM 5 [(baB ty bs), .cells 65 [.int .u32 (Int.ofNat 1), .int .i32 (Int.ofNat 0), .int .u32 (Int.ofNat 0), .map (some 2), .int .i64 ny.1] false, (.map (esV fs) dl false)] ∧ ∀ g, Q .normal (stOf 117 g [(0, .slice (some ⟨0, 0, none⟩) bs.length 2), (3, pb 1 0), (4, iN (i + 1))] [(baB ty bs), .cells 65 [.int .u32 (Int.ofNat 1), .int .i32 (Int.ofNat 0), .int .u32 (Int.ofNat 0), .map (some 2), .int .i64 ny.1] false, (.map (esV fs) dl false)])))))))))))))))) ∧ ((decide ((Int.ofNat i) < (Int.ofNat bs.length))) = false → FixM 0 [] ∧ ∀ g, Q (.exit 0) (stOf 117 g [] []))
theorem Tb3_e (ty : TypeId) (bs : List Bat) (i : Nat) (x : Bat) (nx : UN) (es : List Ent) (cl : Nat) (ny : UN) (fs : List Ent) (dl : Nat) (g : Nat → Value) (W : Base) (X : Pins) (Q : Exit → St → Prop) : Tb3T ty bs i x nx es cl ny fs dl g W X Q = WM Try.prog ETc 117 W 0 X 200 lbTc (stOf 117 g [(0, .slice (some ⟨0, 0, none⟩) bs.length 2), (3, pb 1 0), (4, iN i)] [(baB ty bs), tkB 2 nx false, (.map (esV es) cl false)]) (.b 3 (.h 5 (.agg #[iN 0, iN 0, .int .i64 nx.1, .int .i64 (mskE nx es)]) [.dead] (.h 9 (.slice (some ⟨6, 0, none⟩) ((es.map (·.1)).length) 4) [(.cells 3 ((sortN nx.1 (es.map (·.1))).map iZ) false), .dead] (.v 15 (pb 0 (i * 2)) (.v 16 (.agg #[.int .i64 x.1, LIT x.2.1.length x.2.2 (x.2.1.flatMap obL)]) (.e 17 (.tuple #[nilS, iN 0]) [.put 1 (tkB 2 ny false), .put 2 ((.map (esV fs) dl false)), .push (.dead)] (.h 24 (.agg #[iN 0, iN 0, .int .i64 ny.1, .int .i64 (mskE ny fs)]) [.dead] (.h 43 (.slice (some ⟨11, 0, none⟩) ((fs.map (·.1)).length) 4) [(.cells 3 ((sortN ny.1 (fs.map (·.1))).map iZ) false), .dead] (.v 46 (iN ((es.map (·.1)).length + 1)) (.b 49 (.stop 0 [] [2]) (.b 54 (.stop 0 [] [2]) (.b 58 (.h 67 (.slice (some ⟨13, 0, none⟩) ((fs.map (·.1)).length) 4) [(.cells 3 ((sortN ny.1 (fs.map (·.1))).map iZ) false), .dead] (.l 70 1021 [0, 1, 2, 10, 13] [0, 3, 4, 9, 11, 12] Unit (fun (_ : Unit) g => (.exit 2, stOf 117 g [(0, .slice (some ⟨0, 0, none⟩) bs.length 2), (3, pb 1 0), (4, iN i)] [(baB ty bs), tkB 2 ny false, (.map (esV fs) dl false)])) (fun (_ : Unit) => True) (.v 71 (iN (i + 1)) (.stop 5 [0, 1, 2] [0, 3, 4])))) (.h 64 (.slice (some ⟨13, 0, none⟩) ((fs.map (·.1)).length) 4) [(.cells 3 ((sortN ny.1 (fs.map (·.1))).map iZ) false), .dead] (.l 67 1021 [0, 1, 2, 10, 13] [0, 3, 4, 9, 11, 12] Unit (fun (_ : Unit) g => (.exit 2, stOf 117 g [(0, .slice (some ⟨0, 0, none⟩) bs.length 2), (3, pb 1 0), (4, iN i)] [(baB ty bs), tkB 2 ny false, (.map (esV fs) dl false)])) (fun (_ : Unit) => True) (.v 68 (iN (i + 1)) (.stop 5 [0, 1, 2] [0, 3, 4]))))))))))))))) (.stop 0 [] [])) Q := by kernel_rfl
abbrev Tb4T (ty : TypeId) (bs : List Bat) (i : Nat) (x : Bat) (nx : UN) (cl : Nat) (ny : UN) (dl : Nat) (os : List ObV) (g : Nat → Value) (W : Base) (X : Pins) (Q : Exit → St → Prop) : Prop := ((decide ((Int.ofNat i) < (Int.ofNat bs.length))) = true → HT (gAk [pb 1 0]) (heapOf [(baB ty bs), tkB 2 nx false, (.map (esV []) cl false), .dead] hp0) (.agg #[iN 0, iN 0, .int .i64 nx.1, .int .i64 (mskE nx [])]) [.dead] ∧ (HT (gHe [pb 1 0]) (heapOf [(baB ty bs), tkB 2 nx false, (.map (esV []) cl false), .dead, .dead, .cells 44 [iN 0, iN 0, .int .i64 nx.1, .int .i64 (mskE nx [])] false] hp0) (nilS) [.dead] ∧ ((fstV ((aIndexAddr Try.prog 24 (.slice (some ⟨0, 0, none⟩) bs.length 2) (iN i)).map fun v => (v, none)) : Option Value) = some (pb 0 (i * 2)) ∧ ((aLoad Try.prog (heapOf [(baB ty bs), tkB 2 nx false, (.map (esV []) cl false), .dead, .dead, .cells 44 [iN 0, iN 0, .int .i64 nx.1, .int .i64 (mskE nx [])] false, .dead] hp0).get 27 (pb 0 (i * 2)) : Option Value) = some (.agg #[.int .i64 x.1, LIT x.2.1.length x.2.2 (x.2.1.flatMap obL)]) ∧ (HE (gTa [pb 1 0, .agg #[.int .i64 x.1, LIT x.2.1.length x.2.2 (x.2.1.flatMap obL)]]) (heapOf [(baB ty bs), tkB 2 nx false, (.map (esV []) cl false), .dead, .dead, .cells 44 [iN 0, iN 0, .int .i64 nx.1, .int .i64 (mskE nx [])] false, .dead] hp0) (.tuple #[.slice (some ⟨7, 0, none⟩) os.length 37, iN 0]) [.put 1 (tkB 2 ny false), .put 2 ((.map (esV []) dl false)), .push ((.cells 35 (os.flatMap obL) false)), .push (.dead)] ∧ (HT (gAk [pb 1 0]) (heapOf [(baB ty bs), tkB 2 ny false, (.map (esV []) dl false), .dead, .dead, .cells 44 [iN 0, iN 0, .int .i64 nx.1, .int .i64 (mskE nx [])] false, .dead, (.cells 35 (os.flatMap obL) false), .dead] hp0) (.agg #[iN 0, iN 0, .int .i64 ny.1, .int .i64 (mskE ny [])]) [.dead] ∧ (HT (gHe [pb 1 0]) (heapOf [(baB ty bs), tkB 2 ny false, (.map (esV []) dl false), .dead, .dead, .cells 44 [iN 0, iN 0, .int .i64 nx.1, .int .i64 (mskE nx [])] false, .dead, (.cells 35 (os.flatMap obL) false), .dead, .dead, .cells 44 [iN 0, iN 0, .int .i64 ny.1, .int .i64 (mskE ny [])] false] hp0) (nilS) [.dead] ∧ ((((Int.ofNat 0) != (wrapF .i64 ((Int.ofNat 1) - (Int.tmod (wrapF .i64 ((wrapF .i64 (ny.1 - nx.1)) + (Int.ofNat 65536))) (Int.ofNat 65536))))) = true → FixM 0 [] ∧ ∀ g, Q .ret (stOf 117 g [(2, .bool false)] [])) ∧ (((Int.ofNat 0) != (wrapF .i64 ((Int.ofNat 1) - (Int.tmod (wrapF .i64 ((wrapF .i64 (ny.1 - nx.1)) + (Int.ofNat 65536))) (Int.ofNat 65536))))) = false → ((decide ((Int.ofNat os.length) < (Int.tmod (wrapF .i64 ((wrapF .i64 (ny.1 - nx.1)) + (Int.ofNat 65536))) (Int.ofNat 65536)))) = true → FixM 0 [] ∧ ∀ g, Q .ret (stOf 117 g [(2, .bool false)] [])) ∧ ((decide ((Int.ofNat os.length) < (Int.tmod (wrapF .i64 ((wrapF .i64 (ny.1 - nx.1)) + (Int.ofNat 65536))) (Int.ofNat 65536)))) = false → (((Int.tmod (wrapF .i64 ((wrapF .i64 (ny.1 - nx.1)) + (Int.ofNat 65536))) (Int.ofNat 65536)) == (Int.ofNat 0)) = true → ((decide ((Int.ofNat os.length) > (Int.ofNat 0))) = true → FixM 0 [] ∧ ∀ g, Q .ret (stOf 117 g [(2, .bool false)] [])) ∧ ((decide ((Int.ofNat os.length) > (Int.ofNat 0))) = false → HT (gHe [pb 1 0]) (heapOf [(baB ty bs), tkB 2 ny false, (.map (esV []) dl false), .dead, .dead, .cells 44 [iN 0, iN 0, .int .i64 nx.1, .int .i64 (mskE nx [])] false, .dead, (.cells 35 (os.flatMap obL) false), .dead, .dead, .cells 44 [iN 0, iN 0, .int .i64 ny.1, .int .i64 (mskE ny [])] false, .dead] hp0) (nilS) [.dead] ∧ ((some (.int .i64 (wrapF .i64 (Int.ofNat i + Int.ofNat 1))) : Option Value) = some (iN (i + 1)) ∧ (FixM 5 [(baB ty bs), .cells 65 [.int .u32 (Int.ofNat 1), .int .i32 (Int.ofNat 0), .int .u32 (Int.ofNat 0), .map (some 2), .int .i64 ny.1] false, (.map (esV []) dl false)] ∧ ∀ g, Q .normal (stOf 117 g [(0, .slice (some ⟨0, 0, none⟩) bs.length 2), (3, pb 1 0), (4, iN (i + 1))] [(baB ty bs), .cells 65 [.int .u32 (Int.ofNat 1), .int .i32 (Int.ofNat 0), .int .u32 (Int.ofNat 0), .map (some 2), .int .i64 ny.1] false, (.map (esV []) dl false)]))))) ∧ (((Int.tmod (wrapF .i64 ((wrapF .i64 (ny.1 - nx.1)) + (Int.ofNat 65536))) (Int.ofNat 65536)) == (Int.ofNat 0)) = false → HT (gHe [pb 1 0]) (heapOf [(baB ty bs), tkB 2 ny false, (.map (esV []) dl false), .dead, .dead, .cells 44 [iN 0, iN 0, .int .i64 nx.1, .int .i64 (mskE nx [])] false, .dead, (.cells 35 (os.flatMap obL) false), .dead, .dead, .cells 44 [iN 0, iN 0, .int .i64 ny.1, .int .i64 (mskE ny [])] false, .dead] hp0) (nilS) [.dead] ∧ ((some (.int .i64 (wrapF .i64 (Int.ofNat i + Int.ofNat 1))) : Option Value) = some (iN (i + 1)) ∧ (FixM 5 [(baB ty bs), .cells 65 [.int .u32 (Int.ofNat 1), .int .i32 (Int.ofNat 0), .int .u32 (Int.ofNat 0), .map (some 2), .int .i64 ny.1] false, (.map (esV []) dl false)] ∧ ∀ g, Q .normal (stOf 117 g [(0, .slice (some ⟨0, 0, none⟩) bs.length 2), (3, pb 1 0), (4, iN (i + 1))] [(baB ty bs), .cells 65 [.int .u32 (Int.ofNat 1), .int .i32 (Int.ofNat 0), .int .u32 (Int.ofNat 0), .map (some 2), .int .i64 ny.1] false, (.map (esV []) dl false)])))))))))))))) ∧ ((decide ((Int.ofNat i) < (Int.ofNat bs.length))) = false → FixM 0 [] ∧ ∀ g, Q (.exit 0) (stOf 117 g [] []))
theorem Tb4_e (ty : TypeId) (bs : List Bat) (i : Nat) (x : Bat) (nx : UN) (cl : Nat) (ny : UN) (dl : Nat) (os : List ObV) (g : Nat → Value) (W : Base) (X : Pins) (Q : Exit → St → Prop) : Tb4T ty bs i x nx cl ny dl os g W X Q = WM Try.prog ETc 117 W 0 X 200 lbTc (stOf 117 g [(0, .slice (some ⟨0, 0, none⟩) bs.length 2), (3, pb 1 0), (4, iN i)] [(baB ty bs), tkB 2 nx false, (.map (esV []) cl false)]) (.b 3 (.h 5 (.agg #[iN 0, iN 0, .int .i64 nx.1, .int .i64 (mskE nx [])]) [.dead] (.h 9 (nilS) [.dead] (.v 15 (pb 0 (i * 2)) (.v 16 (.agg #[.int .i64 x.1, LIT x.2.1.length x.2.2 (x.2.1.flatMap obL)]) (.e 17 (.tuple #[.slice (some ⟨7, 0, none⟩) os.length 37, iN 0]) [.put 1 (tkB 2 ny false), .put 2 ((.map (esV []) dl false)), .push ((.cells 35 (os.flatMap obL) false)), .push (.dead)] (.h 24 (.agg #[iN 0, iN 0, .int .i64 ny.1, .int .i64 (mskE ny [])]) [.dead] (.h 43 (nilS) [.dead] (.b 49 (.stop 0 [] [2]) (.b 54 (.stop 0 [] [2]) (.b 58 (.b 62 (.stop 0 [] [2]) (.h 67 (nilS) [.dead] (.v 75 (iN (i + 1)) (.stop 5 [0, 1, 2] [0, 3, 4])))) (.h 64 (nilS) [.dead] (.v 72 (iN (i + 1)) (.stop 5 [0, 1, 2] [0, 3, 4]))))))))))))) (.stop 0 [] [])) Q := by kernel_rfl
abbrev Tb5T (ty : TypeId) (bs : List Bat) (i : Nat) (x : Bat) (nx : UN) (cl : Nat) (ny : UN) (fs : List Ent) (dl : Nat) (os : List ObV) (g : Nat → Value) (W : Base) (X : Pins) (Q : Exit → St → Prop) : Prop := ((decide ((Int.ofNat i) < (Int.ofNat bs.length))) = true → HT (gAk [pb 1 0]) (heapOf [(baB ty bs), tkB 2 nx false, (.map (esV []) cl false), .dead] hp0) (.agg #[iN 0, iN 0, .int .i64 nx.1, .int .i64 (mskE nx [])]) [.dead] ∧ (HT (gHe [pb 1 0]) (heapOf [(baB ty bs), tkB 2 nx false, (.map (esV []) cl false), .dead, .dead, .cells 44 [iN 0, iN 0, .int .i64 nx.1, .int .i64 (mskE nx [])] false] hp0) (nilS) [.dead] ∧ ((fstV ((aIndexAddr Try.prog 24 (.slice (some ⟨0, 0, none⟩) bs.length 2) (iN i)).map fun v => (v, none)) : Option Value) = some (pb 0 (i * 2)) ∧ ((aLoad Try.prog (heapOf [(baB ty bs), tkB 2 nx false, (.map (esV []) cl false), .dead, .dead, .cells 44 [iN 0, iN 0, .int .i64 nx.1, .int .i64 (mskE nx [])] false, .dead] hp0).get 27 (pb 0 (i * 2)) : Option Value) = some (.agg #[.int .i64 x.1, LIT x.2.1.length x.2.2 (x.2.1.flatMap obL)]) ∧ (HE (gTa [pb 1 0, .agg #[.int .i64 x.1, LIT x.2.1.length x.2.2 (x.2.1.flatMap obL)]]) (heapOf [(baB ty bs), tkB 2 nx false, (.map (esV []) cl false), .dead, .dead, .cells 44 [iN 0, iN 0, .int .i64 nx.1, .int .i64 (mskE nx [])] false, .dead] hp0) (.tuple #[.slice (some ⟨7, 0, none⟩) os.length 37, iN 0]) [.put 1 (tkB 2 ny false), .put 2 ((.map (esV fs) dl false)), .push ((.cells 35 (os.flatMap obL) false)), .push (.dead)] ∧ (HT (gAk [pb 1 0]) (heapOf [(baB ty bs), tkB 2 ny false, (.map (esV fs) dl false), .dead, .dead, .cells 44 [iN 0, iN 0, .int .i64 nx.1, .int .i64 (mskE nx [])] false, .dead, (.cells 35 (os.flatMap obL) false), .dead] hp0) (.agg #[iN 0, iN 0, .int .i64 ny.1, .int .i64 (mskE ny fs)]) [.dead] ∧ (HT (gHe [pb 1 0]) (heapOf [(baB ty bs), tkB 2 ny false, (.map (esV fs) dl false), .dead, .dead, .cells 44 [iN 0, iN 0, .int .i64 nx.1, .int .i64 (mskE nx [])] false, .dead, (.cells 35 (os.flatMap obL) false), .dead, .dead, .cells 44 [iN 0, iN 0, .int .i64 ny.1, .int .i64 (mskE ny fs)] false] hp0) (.slice (some ⟨11, 0, none⟩) ((fs.map (·.1)).length) 4) [(.cells 3 ((sortN ny.1 (fs.map (·.1))).map iZ) false), .dead] ∧ ((((Int.ofNat ((fs.map (·.1)).length)) != (wrapF .i64 ((Int.ofNat 1) - (Int.tmod (wrapF .i64 ((wrapF .i64 (ny.1 - nx.1)) + (Int.ofNat 65536))) (Int.ofNat 65536))))) = true → FixM 0 [] ∧ ∀ g, Q .ret (stOf 117 g [(2, .bool false)] [])) ∧ (((Int.ofNat ((fs.map (·.1)).length)) != (wrapF .i64 ((Int.ofNat 1) - (Int.tmod (wrapF .i64 ((wrapF .i64 (ny.1 - nx.1)) + (Int.ofNat 65536))) (Int.ofNat 65536))))) = false → ((decide ((Int.ofNat os.length) < (Int.tmod (wrapF .i64 ((wrapF .i64 (ny.1 - nx.1)) + (Int.ofNat 65536))) (Int.ofNat 65536)))) = true → FixM 0 [] ∧ ∀ g, Q .ret (stOf 117 g [(2, .bool false)] [])) ∧ ((decide ((Int.ofNat os.length) < (Int.tmod (wrapF .i64 ((wrapF .i64 (ny.1 - nx.1)) + (Int.ofNat 65536))) (Int.ofNat 65536)))) = false → (((Int.tmod (wrapF .i64 ((wrapF .i64 (ny.1 - nx.1)) + (Int.ofNat 65536))) (Int.ofNat 65536)) == (Int.ofNat 0)) = true → ((decide ((Int.ofNat os.length) > (Int.ofNat 0))) = true → FixM 0 [] ∧ ∀ g, Q .ret (stOf 117 g [(2, .bool false)] [])) ∧ ((decide ((Int.ofNat os.length) > (Int.ofNat 0))) = false → HT (gHe [pb 1 0]) (heapOf [(baB ty bs), tkB 2 ny false, (.map (esV fs) dl false), .dead, .dead, .cells 44 [iN 0, iN 0, .int .i64 nx.1, .int .i64 (mskE nx [])] false, .dead, (.cells 35 (os.flatMap obL) false), .dead, .dead, .cells 44 [iN 0, iN 0, .int .i64 ny.1, .int .i64 (mskE ny fs)] false, (.cells 3 ((sortN ny.1 (fs.map (·.1))).map iZ) false), .dead] hp0) (.slice (some ⟨13, 0, none⟩) ((fs.map (·.1)).length) 4) [(.cells 3 ((sortN ny.1 (fs.map (·.1))).map iZ) false), .dead] ∧ (FixM 21 [(baB ty bs), tkB 2 ny false, (.map (esV fs) dl false), .cells 44 [iN 0, iN 0, .int .i64 ny.1, .int .i64 (mskE ny fs)] false, (.cells 3 ((sortN ny.1 (fs.map (·.1))).map iZ) false)] ∧ (∀ g, FRm Try.prog 117 W 0 X lpTi (stOf 117 g [(0, .slice (some ⟨0, 0, none⟩) bs.length 2), (3, pb 1 0), (4, iN i), (9, pb 3 0), (11, .slice (some ⟨4, 0, none⟩) ((fs.map (·.1)).length) 4), (12, iN 0)] [(baB ty bs), tkB 2 ny false, (.map (esV fs) dl false), .cells 44 [iN 0, iN 0, .int .i64 ny.1, .int .i64 (mskE ny fs)] false, (.cells 3 ((sortN ny.1 (fs.map (·.1))).map iZ) false)]) (LQ (fun (_ : Unit) g => (.exit 2, stOf 117 g [(0, .slice (some ⟨0, 0, none⟩) bs.length 2), (3, pb 1 0), (4, iN i)] [(baB ty bs), tkB 2 ny false, (.map (esV fs) dl false)])) (fun (_ : Unit) => True))) ∧ (∀ (_ : Unit) (g : Nat → Value), True → (some (.int .i64 (wrapF .i64 (Int.ofNat i + Int.ofNat 1))) : Option Value) = some (iN (i + 1)) ∧ (FixM 5 [(baB ty bs), .cells 65 [.int .u32 (Int.ofNat 1), .int .i32 (Int.ofNat 0), .int .u32 (Int.ofNat 0), .map (some 2), .int .i64 ny.1] false, (.map (esV fs) dl false)] ∧ ∀ g, Q .normal (stOf 117 g [(0, .slice (some ⟨0, 0, none⟩) bs.length 2), (3, pb 1 0), (4, iN (i + 1))] [(baB ty bs), .cells 65 [.int .u32 (Int.ofNat 1), .int .i32 (Int.ofNat 0), .int .u32 (Int.ofNat 0), .map (some 2), .int .i64 ny.1] false, (.map (esV fs) dl false)])))))) ∧ (((Int.tmod (wrapF .i64 ((wrapF .i64 (ny.1 - nx.1)) + (Int.ofNat 65536))) (Int.ofNat 65536)) == (Int.ofNat 0)) = false → HT (gHe [pb 1 0]) (heapOf [(baB ty bs), tkB 2 ny false, (.map (esV fs) dl false), .dead, .dead, .cells 44 [iN 0, iN 0, .int .i64 nx.1, .int .i64 (mskE nx [])] false, .dead, (.cells 35 (os.flatMap obL) false), .dead, .dead, .cells 44 [iN 0, iN 0, .int .i64 ny.1, .int .i64 (mskE ny fs)] false, (.cells 3 ((sortN ny.1 (fs.map (·.1))).map iZ) false), .dead] hp0) (.slice (some ⟨13, 0, none⟩) ((fs.map (·.1)).length) 4) [(.cells 3 ((sortN ny.1 (fs.map (·.1))).map iZ) false), .dead] ∧ (FixM 21 [(baB ty bs), tkB 2 ny false, (.map (esV fs) dl false), .cells 44 [iN 0, iN 0, .int .i64 ny.1, .int .i64 (mskE ny fs)] false, (.cells 3 ((sortN ny.1 (fs.map (·.1))).map iZ) false)] ∧ (∀ g, FRm Try.prog 117 W 0 X lpTi (stOf 117 g [(0, .slice (some ⟨0, 0, none⟩) bs.length 2), (3, pb 1 0), (4, iN i), (9, pb 3 0), (11, .slice (some ⟨4, 0, none⟩) ((fs.map (·.1)).length) 4), (12, iN 0)] [(baB ty bs), tkB 2 ny false, (.map (esV fs) dl false), .cells 44 [iN 0, iN 0, .int .i64 ny.1, .int .i64 (mskE ny fs)] false, (.cells 3 ((sortN ny.1 (fs.map (·.1))).map iZ) false)]) (LQ (fun (_ : Unit) g => (.exit 2, stOf 117 g [(0, .slice (some ⟨0, 0, none⟩) bs.length 2), (3, pb 1 0), (4, iN i)] [(baB ty bs), tkB 2 ny false, (.map (esV fs) dl false)])) (fun (_ : Unit) => True))) ∧ (∀ (_ : Unit) (g : Nat → Value), True → (some (.int .i64 (wrapF .i64 (Int.ofNat i + Int.ofNat 1))) : Option Value) = some (iN (i + 1)) ∧ (FixM 5 [(baB ty bs), .cells 65 [.int .u32 (Int.ofNat 1), .int .i32 (Int.ofNat 0), .int .u32 (Int.ofNat 0), .map (some 2), .int .i64 ny.1] false, (.map (esV fs) dl false)] ∧ ∀ g, Q .normal (stOf 117 g [(0, .slice (some ⟨0, 0, none⟩) bs.length 2), (3, pb 1 0), (4, iN (i + 1))] [(baB ty bs), .cells 65 [.int .u32 (Int.ofNat 1), .int .i32 (Int.ofNat 0), .int .u32 (Int.ofNat 0), .map (some 2), .int .i64 ny.1] false, (.map (esV fs) dl false)]))))))))))))))) ∧ ((decide ((Int.ofNat i) < (Int.ofNat bs.length))) = false → FixM 0 [] ∧ ∀ g, Q (.exit 0) (stOf 117 g [] []))
theorem Tb5_e (ty : TypeId) (bs : List Bat) (i : Nat) (x : Bat) (nx : UN) (cl : Nat) (ny : UN) (fs : List Ent) (dl : Nat) (os : List ObV) (g : Nat → Value) (W : Base) (X : Pins) (Q : Exit → St → Prop) : Tb5T ty bs i x nx cl ny fs dl os g W X Q = WM Try.prog ETc 117 W 0 X 200 lbTc (stOf 117 g [(0, .slice (some ⟨0, 0, none⟩) bs.length 2), (3, pb 1 0), (4, iN i)] [(baB ty bs), tkB 2 nx false, (.map (esV []) cl false)]) (.b 3 (.h 5 (.agg #[iN 0, iN 0, .int .i64 nx.1, .int .i64 (mskE nx [])]) [.dead] (.h 9 (nilS) [.dead] (.v 15 (pb 0 (i * 2)) (.v 16 (.agg #[.int .i64 x.1, LIT x.2.1.length x.2.2 (x.2.1.flatMap obL)]) (.e 17 (.tuple #[.slice (some ⟨7, 0, none⟩) os.length 37, iN 0]) [.put 1 (tkB 2 ny false), .put 2 ((.map (esV fs) dl false)), .push ((.cells 35 (os.flatMap obL) false)), .push (.dead)] (.h 24 (.agg #[iN 0, iN 0, .int .i64 ny.1, .int .i64 (mskE ny fs)]) [.dead] (.h 43 (.slice (some ⟨11, 0, none⟩) ((fs.map (·.1)).length) 4) [(.cells 3 ((sortN ny.1 (fs.map (·.1))).map iZ) false), .dead] (.b 49 (.stop 0 [] [2]) (.b 54 (.stop 0 [] [2]) (.b 58 (.b 62 (.stop 0 [] [2]) (.h 67 (.slice (some ⟨13, 0, none⟩) ((fs.map (·.1)).length) 4) [(.cells 3 ((sortN ny.1 (fs.map (·.1))).map iZ) false), .dead] (.l 70 1021 [0, 1, 2, 10, 13] [0, 3, 4, 9, 11, 12] Unit (fun (_ : Unit) g => (.exit 2, stOf 117 g [(0, .slice (some ⟨0, 0, none⟩) bs.length 2), (3, pb 1 0), (4, iN i)] [(baB ty bs), tkB 2 ny false, (.map (esV fs) dl false)])) (fun (_ : Unit) => True) (.v 71 (iN (i + 1)) (.stop 5 [0, 1, 2] [0, 3, 4]))))) (.h 64 (.slice (some ⟨13, 0, none⟩) ((fs.map (·.1)).length) 4) [(.cells 3 ((sortN ny.1 (fs.map (·.1))).map iZ) false), .dead] (.l 67 1021 [0, 1, 2, 10, 13] [0, 3, 4, 9, 11, 12] Unit (fun (_ : Unit) g => (.exit 2, stOf 117 g [(0, .slice (some ⟨0, 0, none⟩) bs.length 2), (3, pb 1 0), (4, iN i)] [(baB ty bs), tkB 2 ny false, (.map (esV fs) dl false)])) (fun (_ : Unit) => True) (.v 68 (iN (i + 1)) (.stop 5 [0, 1, 2] [0, 3, 4])))))))))))))) (.stop 0 [] [])) Q := by kernel_rfl
abbrev Tb6T (ty : TypeId) (bs : List Bat) (i : Nat) (x : Bat) (nx : UN) (es : List Ent) (cl : Nat) (ny : UN) (dl : Nat) (os : List ObV) (g : Nat → Value) (W : Base) (X : Pins) (Q : Exit → St → Prop) : Prop := ((decide ((Int.ofNat i) < (Int.ofNat bs.length))) = true → HT (gAk [pb 1 0]) (heapOf [(baB ty bs), tkB 2 nx false, (.map (esV es) cl false), .dead] hp0) (.agg #[iN 0, iN 0, .int .i64 nx.1, .int .i64 (mskE nx es)]) [.dead] ∧ (HT (gHe [pb 1 0]) (heapOf [(baB ty bs), tkB 2 nx false, (.map (esV es) cl false), .dead, .dead, .cells 44 [iN 0, iN 0, .int .i64 nx.1, .int .i64 (mskE nx es)] false] hp0) (.slice (some ⟨6, 0, none⟩) ((es.map (·.1)).length) 4) [(.cells 3 ((sortN nx.1 (es.map (·.1))).map iZ) false), .dead] ∧ ((fstV ((aIndexAddr Try.prog 24 (.slice (some ⟨0, 0, none⟩) bs.length 2) (iN i)).map fun v => (v, none)) : Option Value) = some (pb 0 (i * 2)) ∧ ((aLoad Try.prog (heapOf [(baB ty bs), tkB 2 nx false, (.map (esV es) cl false), .dead, .dead, .cells 44 [iN 0, iN 0, .int .i64 nx.1, .int .i64 (mskE nx es)] false, (.cells 3 ((sortN nx.1 (es.map (·.1))).map iZ) false), .dead] hp0).get 27 (pb 0 (i * 2)) : Option Value) = some (.agg #[.int .i64 x.1, LIT x.2.1.length x.2.2 (x.2.1.flatMap obL)]) ∧ (HE (gTa [pb 1 0, .agg #[.int .i64 x.1, LIT x.2.1.length x.2.2 (x.2.1.flatMap obL)]]) (heapOf [(baB ty bs), tkB 2 nx false, (.map (esV es) cl false), .dead, .dead, .cells 44 [iN 0, iN 0, .int .i64 nx.1, .int .i64 (mskE nx es)] false, (.cells 3 ((sortN nx.1 (es.map (·.1))).map iZ) false), .dead] hp0) (.tuple #[.slice (some ⟨8, 0, none⟩) os.length 37, iN 0]) [.put 1 (tkB 2 ny false), .put 2 ((.map (esV []) dl false)), .push ((.cells 35 (os.flatMap obL) false)), .push (.dead)] ∧ (HT (gAk [pb 1 0]) (heapOf [(baB ty bs), tkB 2 ny false, (.map (esV []) dl false), .dead, .dead, .cells 44 [iN 0, iN 0, .int .i64 nx.1, .int .i64 (mskE nx es)] false, (.cells 3 ((sortN nx.1 (es.map (·.1))).map iZ) false), .dead, (.cells 35 (os.flatMap obL) false), .dead] hp0) (.agg #[iN 0, iN 0, .int .i64 ny.1, .int .i64 (mskE ny [])]) [.dead] ∧ (HT (gHe [pb 1 0]) (heapOf [(baB ty bs), tkB 2 ny false, (.map (esV []) dl false), .dead, .dead, .cells 44 [iN 0, iN 0, .int .i64 nx.1, .int .i64 (mskE nx es)] false, (.cells 3 ((sortN nx.1 (es.map (·.1))).map iZ) false), .dead, (.cells 35 (os.flatMap obL) false), .dead, .dead, .cells 44 [iN 0, iN 0, .int .i64 ny.1, .int .i64 (mskE ny [])] false] hp0) (nilS) [.dead] ∧ ((some (.int .i64 (wrapF .i64 (Int.ofNat ((es.map (·.1)).length) + Int.ofNat 1))) : Option Value) = some (iN ((es.map (·.1)).length + 1)) ∧ ((((Int.ofNat 0) != (wrapF .i64 ((Int.ofNat ((es.map (·.1)).length + 1)) - (Int.tmod (wrapF .i64 ((wrapF .i64 (ny.1 - nx.1)) + (Int.ofNat 65536))) (Int.ofNat 65536))))) = true → FixM 0 [] ∧ ∀ g, Q .ret (stOf 117 g [(2, .bool false)] [])) ∧ (((Int.ofNat 0) != (wrapF .i64 ((Int.ofNat ((es.map (·.1)).length + 1)) - (Int.tmod (wrapF .i64 ((wrapF .i64 (ny.1 - nx.1)) + (Int.ofNat 65536))) (Int.ofNat 65536))))) = false → ((decide ((Int.ofNat os.length) < (Int.tmod (wrapF .i64 ((wrapF .i64 (ny.1 - nx.1)) + (Int.ofNat 65536))) (Int.ofNat 65536)))) = true → FixM 0 [] ∧ ∀ g, Q .ret (stOf 117 g [(2, .bool false)] [])) ∧ ((decide ((Int.ofNat os.length) < (Int.tmod (wrapF .i64 ((wrapF .i64 (ny.1 - nx.1)) + (Int.ofNat 65536))) (Int.ofNat 65536)))) = false → (((Int.tmod (wrapF .i64 ((wrapF .i64 (ny.1 - nx.1)) + (Int.ofNat 65536))) (Int.ofNat 65536)) == (Int.ofNat 0)) = true → ((decide ((Int.ofNat os.length) > (Int.ofNat 0))) = true → FixM 0 [] ∧ ∀ g, Q .ret (stOf 117 g [(2, .bool false)] [])) ∧ ((decide ((Int.ofNat os.length) > (Int.ofNat 0))) = false → HT (gHe [pb 1 0]) (heapOf [(baB ty bs), tkB 2 ny false, (.map (esV []) dl false), .dead, .dead, .cells 44 [iN 0, iN 0, .int .i64 nx.1, .int .i64 (mskE nx es)] false, (.cells 3 ((sortN nx.1 (es.map (·.1))).map iZ) false), .dead, (.cells 35 (os.flatMap obL) false), .dead, .dead, .cells 44 [iN 0, iN 0, .int .i64 ny.1, .int .i64 (mskE ny [])] false, .dead] hp0) (nilS) [.dead] ∧ ((some (.int .i64 (wrapF .i64 (Int.ofNat i + Int.ofNat 1))) : Option Value) = some (iN (i + 1)) ∧ (FixM 5 [(baB ty bs), .cells 65 [.int .u32 (Int.ofNat 1), .int .i32 (Int.ofNat 0), .int .u32 (Int.ofNat 0), .map (some 2), .int .i64 ny.1] false, (.map (esV []) dl false)] ∧ ∀ g, Q .normal (stOf 117 g [(0, .slice (some ⟨0, 0, none⟩) bs.length 2), (3, pb 1 0), (4, iN (i + 1))] [(baB ty bs), .cells 65 [.int .u32 (Int.ofNat 1), .int .i32 (Int.ofNat 0), .int .u32 (Int.ofNat 0), .map (some 2), .int .i64 ny.1] false, (.map (esV []) dl false)]))))) ∧ (((Int.tmod (wrapF .i64 ((wrapF .i64 (ny.1 - nx.1)) + (Int.ofNat 65536))) (Int.ofNat 65536)) == (Int.ofNat 0)) = false → HT (gHe [pb 1 0]) (heapOf [(baB ty bs), tkB 2 ny false, (.map (esV []) dl false), .dead, .dead, .cells 44 [iN 0, iN 0, .int .i64 nx.1, .int .i64 (mskE nx es)] false, (.cells 3 ((sortN nx.1 (es.map (·.1))).map iZ) false), .dead, (.cells 35 (os.flatMap obL) false), .dead, .dead, .cells 44 [iN 0, iN 0, .int .i64 ny.1, .int .i64 (mskE ny [])] false, .dead] hp0) (nilS) [.dead] ∧ ((some (.int .i64 (wrapF .i64 (Int.ofNat i + Int.ofNat 1))) : Option Value) = some (iN (i + 1)) ∧ (FixM 5 [(baB ty bs), .cells 65 [.int .u32 (Int.ofNat 1), .int .i32 (Int.ofNat 0), .int .u32 (Int.ofNat 0), .map (some 2), .int .i64 ny.1] false, (.map (esV []) dl false)] ∧ ∀ g, Q .normal (stOf 117 g [(0, .slice (some ⟨0, 0, none⟩) bs.length 2), (3, pb 1 0), (4, iN (i + 1))] [(baB ty bs), .cells 65 [.int .u32 (Int.ofNat 1), .int .i32 (Int.ofNat 0), .int .u32 (Int.ofNat 0), .map (some 2), .int .i64 ny.1] false, (.map (esV []) dl false)]))))))))))))))) ∧ ((decide ((Int.ofNat i) < (Int.ofNat bs.length))) = false → FixM 0 [] ∧ ∀ g, Q (.exit 0) (stOf 117 g [] []))
theorem Tb6_e (ty : TypeId) (bs : List Bat) (i : Nat) (x : Bat) (nx : UN) (es : List Ent) (cl : Nat) (ny : UN) (dl : Nat) (os : List ObV) (g : Nat → Value) (W : Base) (X : Pins) (Q : Exit → St → Prop) : Tb6T ty bs i x nx es cl ny dl os g W X Q = WM Try.prog ETc 117 W 0 X 200 lbTc (stOf 117 g [(0, .slice (some ⟨0, 0, none⟩) bs.length 2), (3, pb 1 0), (4, iN i)] [(baB ty bs), tkB 2 nx false, (.map (esV es) cl false)]) (.b 3 (.h 5 (.agg #[iN 0, iN 0, .int .i64 nx.1, .int .i64 (mskE nx es)]) [.dead] (.h 9 (.slice (some ⟨6, 0, none⟩) ((es.map (·.1)).length) 4) [(.cells 3 ((sortN nx.1 (es.map (·.1))).map iZ) false), .dead] (.v 15 (pb 0 (i * 2)) (.v 16 (.agg #[.int .i64 x.1, LIT x.2.1.length x.2.2 (x.2.1.flatMap obL)]) (.e 17 (.tuple #[.slice (some ⟨8, 0, none⟩) os.length 37, iN 0]) [.put 1 (tkB 2 ny false), .put 2 ((.map (esV []) dl false)), .push ((.cells 35 (os.flatMap obL) false)), .push (.dead)] (.h 24 (.agg #[iN 0, iN 0, .int .i64 ny.1, .int .i64 (mskE ny [])]) [.dead] (.h 43 (nilS) [.dead] (.v 46 (iN ((es.map (·.1)).length + 1)) (.b 49 (.stop 0 [] [2]) (.b 54 (.stop 0 [] [2]) (.b 58 (.b 62 (.stop 0 [] [2]) (.h 67 (nilS) [.dead] (.v 75 (iN (i + 1)) (.stop 5 [0, 1, 2] [0, 3, 4])))) (.h 64 (nilS) [.dead] (.v 72 (iN (i + 1)) (.stop 5 [0, 1, 2] [0, 3, 4])))))))))))))) (.stop 0 [] [])) Q := by kernel_rfl
abbrev Tb7T (ty : TypeId) (bs : List Bat) (i : Nat) (x : Bat) (nx : UN) (es : List Ent) (cl : Nat) (ny : UN) (fs : List Ent) (dl : Nat) (os : List ObV) (g : Nat → Value) (W : Base) (X : Pins) (Q : Exit → St → Prop) : Prop := ((decide ((Int.ofNat i) < (Int.ofNat bs.length))) = true → HT (gAk [pb 1 0]) (heapOf [(baB ty bs), tkB 2 nx false, (.map (esV es) cl false), .dead] hp0) (.agg #[iN 0, iN 0, .int .i64 nx.1, .int .i64 (mskE nx es)]) [.dead] ∧ (HT (gHe [pb 1 0]) (heapOf [(baB ty bs), tkB 2 nx false, (.map (esV es) cl false), .dead, .dead, .cells 44 [iN 0, iN 0, .int .i64 nx.1, .int .i64 (mskE nx es)] false] hp0) (.slice (some ⟨6, 0, none⟩) ((es.map (·.1)).length) 4) [(.cells 3 ((sortN nx.1 (es.map (·.1))).map iZ) false), .dead] ∧ ((fstV ((aIndexAddr Try.prog 24 (.slice (some ⟨0, 0, none⟩) bs.length 2) (iN i)).map fun v => (v, none)) : Option Value) = some (pb 0 (i * 2)) ∧ ((aLoad Try.prog (heapOf [(baB ty bs), tkB 2 nx false, (.map (esV es) cl false), .dead, .dead, .cells 44 [iN 0, iN 0, .int .i64 nx.1, .int .i64 (mskE nx es)] false, (.cells 3 ((sortN nx.1 (es.map (·.1))).map iZ) false), .dead] hp0).get 27 (pb 0 (i * 2)) : Option Value) = some (.agg #[.int .i64 x.1, LIT x.2.1.length x.2.2 (x.2.1.flatMap obL)]) ∧ (HE (gTa [pb 1 0, .agg #[.int .i64 x.1, LIT x.2.1.length x.2.2 (x.2.1.flatMap obL)]]) (heapOf [(baB ty bs), tkB 2 nx false, (.map (esV es) cl false), .dead, .dead, .cells 44 [iN 0, iN 0, .int .i64 nx.1, .int .i64 (mskE nx es)] false, (.cells 3 ((sortN nx.1 (es.map (·.1))).map iZ) false), .dead] hp0) (.tuple #[.slice (some ⟨8, 0, none⟩) os.length 37, iN 0]) [.put 1 (tkB 2 ny false), .put 2 ((.map (esV fs) dl false)), .push ((.cells 35 (os.flatMap obL) false)), .push (.dead)] ∧ (HT (gAk [pb 1 0]) (heapOf [(baB ty bs), tkB 2 ny false, (.map (esV fs) dl false), .dead, .dead, .cells 44 [iN 0, iN 0, .int .i64 nx.1, .int .i64 (mskE nx es)] false, (.cells 3 ((sortN nx.1 (es.map (·.1))).map iZ) false), .dead, (.cells 35 (os.flatMap obL) false), .dead] hp0) (.agg #[iN 0, iN 0, .int .i64 ny.1, .int .i64 (mskE ny fs)]) [.dead] ∧ (HT (gHe [pb 1 0]) (heapOf [(baB ty bs), tkB 2 ny false, (.map (esV fs) dl false), .dead, .dead, .cells 44 [iN 0, iN 0, .int .i64 nx.1, .int .i64 (mskE nx es)] false, (.cells 3 ((sortN nx.1 (es.map (·.1))).map iZ) false), .dead, (.cells 35 (os.flatMap obL) false), .dead, .dead, .cells 44 [iN 0, iN 0, .int .i64 ny.1, .int .i64 (mskE ny fs)] false] hp0) (.slice (some ⟨12, 0, none⟩) ((fs.map (·.1)).length) 4) [(.cells 3 ((sortN ny.1 (fs.map (·.1))).map iZ) false), .dead] ∧ ((some (.int .i64 (wrapF .i64 (Int.ofNat ((es.map (·.1)).length) + Int.ofNat 1))) : Option Value) = some (iN ((es.map (·.1)).length + 1)) ∧ ((((Int.ofNat ((fs.map (·.1)).length)) != (wrapF .i64 ((Int.ofNat ((es.map (·.1)).length + 1)) - (Int.tmod (wrapF .i64 ((wrapF .i64 (ny.1 - nx.1)) + (Int.ofNat 65536))) (Int.ofNat 65536))))) = true → FixM 0 [] ∧ ∀ g, Q .ret (stOf 117 g [(2, .bool false)] [])) ∧ (((Int.ofNat ((fs.map (·.1)).length)) != (wrapF .i64 ((Int.ofNat ((es.map (·.1)).length + 1)) - (Int.tmod (wrapF .i64 ((wrapF .i64 (ny.1 - nx.1)) + (Int.ofNat 65536))) (Int.ofNat 65536))))) = false → ((decide ((Int.ofNat os.length) < (Int.tmod (wrapF .i64 ((wrapF .i64 (ny.1 - nx.1)) + (Int.ofNat 65536))) (Int.ofNat 65536)))) = true → FixM 0 [] ∧ ∀ g, Q .ret (stOf 117 g [(2, .bool false)] [])) ∧ ((decide ((Int.ofNat os.length) < (Int.tmod (wrapF .i64 ((wrapF .i64 (ny.1 - nx.1)) + (Int.ofNat 65536))) (Int.ofNat 65536)))) = false → (((Int.tmod (wrapF .i64 ((wrapF .i64 (ny.1 - nx.1)) + (Int.ofNat 65536))) (Int.ofNat 65536)) == (Int.ofNat 0)) = true → ((decide ((Int.ofNat os.length) > (Int.ofNat 0))) = true → FixM 0 [] ∧ ∀ g, Q .ret (stOf 117 g [(2, .bool false)] [])) ∧ ((decide ((Int.ofNat os.length) > (Int.ofNat 0))) = false → HT (gHe [pb 1 0]) (heapOf [(baB ty bs), tkB 2 ny false, (.map (esV fs) dl false), .dead, .dead, .cells 44 [iN 0, iN 0, .int .i64 nx.1, .int .i64 (mskE nx es)] false, (.cells 3 ((sortN nx.1 (es.map (·.1))).map iZ) false), .dead, (.cells 35 (os.flatMap obL) false), .dead, .dead, .cells 44 [iN 0, iN 0, .int .i64 ny.1, .int .i64 (mskE ny fs)] false, (.cells 3 ((sortN ny.1 (fs.map (·.1))).map iZ) false), .dead] hp0) (.slice (some ⟨14, 0, none⟩) ((fs.map (·.1)).length) 4) [(.cells 3 ((sortN ny.1 (fs.map (·.1))).map iZ) false), .dead] ∧ (FixM 21 [(baB ty bs), tkB 2 ny false, (.map (esV fs) dl false), .cells 44 [iN 0, iN 0, .int .i64 ny.1, .int .i64 (mskE ny fs)] false, (.cells 3 ((sortN ny.1 (fs.map (·.1))).map iZ) false)] ∧ (∀ g, FRm Try.prog 117 W 0 X lpTi (stOf 117 g [(0, .slice (some ⟨0, 0, none⟩) bs.length 2), (3, pb 1 0), (4, iN i), (9, pb 3 0), (11, .slice (some ⟨4, 0, none⟩) ((fs.map (·.1)).length) 4), (12, iN 0)] [(baB ty bs), tkB 2 ny false, (.map (esV fs) dl false), .cells 44 [iN 0, iN 0, .int .i64 ny.1, .int .i64 (mskE ny fs)] false, (.cells 3 ((sortN ny.1 (fs.map (·.1))).map iZ) false)]) (LQ (fun (_ : Unit) g => (.exit 2, stOf 117 g [(0, .slice (some ⟨0, 0, none⟩) bs.length 2), (3, pb 1 0), (4, iN i)] [(baB ty bs), tkB 2 ny false, (.map (esV fs) dl false)])) (fun (_ : Unit) => True))) ∧ (∀ (_ : Unit) (g : Nat → Value), True → (some (.int .i64 (wrapF .i64 (Int.ofNat i + Int.ofNat 1))) : Option Value) = some (iN (i + 1)) ∧ (FixM 5 [(baB ty bs), .cells 65 [.int .u32 (Int.ofNat 1), .int .i32 (Int.ofNat 0), .int .u32 (Int.ofNat 0), .map (some 2), .int .i64 ny.1] false, (.map (esV fs) dl false)] ∧ ∀ g, Q .normal (stOf 117 g [(0, .slice (some ⟨0, 0, none⟩) bs.length 2), (3, pb 1 0), (4, iN (i + 1))] [(baB ty bs), .cells 65 [.int .u32 (Int.ofNat 1), .int .i32 (Int.ofNat 0), .int .u32 (Int.ofNat 0), .map (some 2), .int .i64 ny.1] false, (.map (esV fs) dl false)])))))) ∧ (((Int.tmod (wrapF .i64 ((wrapF .i64 (ny.1 - nx.1)) + (Int.ofNat 65536))) (Int.ofNat 65536)) == (Int.ofNat 0)) = false → HT (gHe [pb 1 0]) (heapOf [(baB ty bs), tkB 2 ny false, (.map (esV fs) dl false), .dead, .dead, .cells 44 [iN 0, iN 0, .int .i64 nx.1, .int .i64 (mskE nx es)] false, (.cells 3 ((sortN nx.1 (es.map (·.1))).map iZ) false), .dead, (.cells 35 (os.flatMap obL) false), .dead, .dead, .cells 44 [iN 0, iN 0, .int .i64 ny.1, .int .i64 (mskE ny fs)] false, (.cells 3 ((sortN ny.1 (fs.map (·.1))).map iZ) false), .dead] hp0) (.slice (some ⟨14, 0, none⟩) ((fs.map (·.1)).length) 4) [(.cells 3 ((sortN ny.1 (fs.map (·.1))).map iZ) false), .dead] ∧ (FixM 21 [(baB ty bs), tkB 2 ny false, (.map (esV fs) dl false), .cells 44 [iN 0, iN 0, .int .i64 ny.1, .int .i64 (mskE ny fs)] false, (.cells 3 ((sortN ny.1 (fs.map (·.1))).map iZ) false)] ∧ (∀ g, FRm Try.prog 117 W 0 X lpTi (stOf 117 g [(0, .slice (some ⟨0, 0, none⟩) bs.length 2), (3, pb 1 0), (4, iN i), (9, pb 3 0), (11, .slice (some ⟨4, 0, none⟩) ((fs.map (·.1)).length) 4), (12, iN 0)] [(baB ty bs), tkB 2 ny false, (.map (esV fs) dl false), .cells 44 [iN 0, iN 0, .int .i64 ny.1, .int .i64 (mskE ny fs)] false, (.cells 3 ((sortN ny.1 (fs.map (·.1))).map iZ) false)]) (LQ (fun (_ : Unit) g => (.exit 2, stOf 117 g [(0, .slice (some ⟨0, 0, none⟩) bs.length 2), (3, pb 1 0), (4, iN i)] [(baB ty bs), tkB 2 ny false, (.map (esV fs) dl false)])) (fun (_ : Unit) => True))) ∧ (∀ (_ : Unit) (g : Nat → Value), True → (some (.int .i64 (wrapF .i64 (Int.ofNat i + Int.ofNat 1))) : Option Value) = some (iN (i + 1)) ∧ (FixM 5 [(baB ty bs), .cells 65 [.int .u32 (Int.ofNat 1), .int .i32 (Int.ofNat 0), .int .u32 (Int.ofNat 0), .map (some 2), .int .i64 ny.1] false, (.map (esV fs) dl false)] ∧ ∀ g, Q .normal (stOf 117 g [(0, .slice (some ⟨0, 0, none⟩) bs.length 2), (3, pb 1 0), (4, iN (i + 1))] [(baB ty bs), .cells 65 [.int .u32 (Int.ofNat 1), .int .i32 (Int.ofNat 0), .int .u32 (Int.ofNat 0), .map (some 2), .int .i64 ny.1] false, (.map (esV fs) dl false)])))))))))))))))) ∧ ((decide ((Int.ofNat i) < (Int.ofNat bs.length))) = false → FixM 0 [] ∧ ∀ g, Q (.exit 0) (stOf 117 g [] []))
theorem Tb7_e (ty : TypeId) (bs : List Bat) (i : Nat) (x : Bat) (nx : UN) (es : List Ent) (cl : Nat) (ny : UN) (fs : List Ent) (dl : Nat) (os : List ObV) (g : Nat → Value) (W : Base) (X : Pins) (Q : Exit → St → Prop) : Tb7T ty bs i x nx es cl ny fs dl os g W X Q = WM Try.prog ETc 117 W 0 X 200 lbTc (stOf 117 g [(0, .slice (some ⟨0, 0, none⟩) bs.length 2), (3, pb 1 0), (4, iN i)] [(baB ty bs), tkB 2 nx false, (.map (esV es) cl false)]) (.b 3 (.h 5 (.agg #[iN 0, iN 0, .int .i64 nx.1, .int .i64 (mskE nx es)]) [.dead] (.h 9 (.slice (some ⟨6, 0, none⟩) ((es.map (·.1)).length) 4) [(.cells 3 ((sortN nx.1 (es.map (·.1))).map iZ) false), .dead] (.v 15 (pb 0 (i * 2)) (.v 16 (.agg #[.int .i64 x.1, LIT x.2.1.length x.2.2 (x.2.1.flatMap obL)]) (.e 17 (.tuple #[.slice (some ⟨8, 0, none⟩) os.length 37, iN 0]) [.put 1 (tkB 2 ny false), .put 2 ((.map (esV fs) dl false)), .push ((.cells 35 (os.flatMap obL) false)), .push (.dead)] (.h 24 (.agg #[iN 0, iN 0, .int .i64 ny.1, .int .i64 (mskE ny fs)]) [.dead] (.h 43 (.slice (some ⟨12, 0, none⟩) ((fs.map (·.1)).length) 4) [(.cells 3 ((sortN ny.1 (fs.map (·.1))).map iZ) false), .dead] (.v 46 (iN ((es.map (·.1)).length + 1)) (.b 49 (.stop 0 [] [2]) (.b 54 (.stop 0 [] [2]) (.b 58 (.b 62 (.stop 0 [] [2]) (.h 67 (.slice (some ⟨14, 0, none⟩) ((fs.map (·.1)).length) 4) [(.cells 3 ((sortN ny.1 (fs.map (·.1))).map iZ) false), .dead] (.l 70 1021 [0, 1, 2, 11, 14] [0, 3, 4, 9, 11, 12] Unit (fun (_ : Unit) g => (.exit 2, stOf 117 g [(0, .slice (some ⟨0, 0, none⟩) bs.length 2), (3, pb 1 0), (4, iN i)] [(baB ty bs), tkB 2 ny false, (.map (esV fs) dl false)])) (fun (_ : Unit) => True) (.v 71 (iN (i + 1)) (.stop 5 [0, 1, 2] [0, 3, 4]))))) (.h 64 (.slice (some ⟨14, 0, none⟩) ((fs.map (·.1)).length) 4) [(.cells 3 ((sortN ny.1 (fs.map (·.1))).map iZ) false), .dead] (.l 67 1021 [0, 1, 2, 11, 14] [0, 3, 4, 9, 11, 12] Unit (fun (_ : Unit) g => (.exit 2, stOf 117 g [(0, .slice (some ⟨0, 0, none⟩) bs.length 2), (3, pb 1 0), (4, iN i)] [(baB ty bs), tkB 2 ny false, (.map (esV fs) dl false)])) (fun (_ : Unit) => True) (.v 68 (iN (i + 1)) (.stop 5 [0, 1, 2] [0, 3, 4]))))))))))))))) (.stop 0 [] [])) Q := by kernel_rfl
abbrev TinT (ty : TypeId) (bs : List Bat) (i : Nat) (nx : UN) (es : List Ent) (cl : Nat) (m : Int) (us : List UN) (n k : Nat) (y : UN) (g : Nat → Value) (Q : Exit → St → Prop) : Prop := ((decide ((Int.ofNat k) < (Int.ofNat n))) = true → (fstV ((aIndexAddr Try.prog 23 (.slice (some ⟨4, 0, none⟩) n 4) (iN k)).map fun v => (v, none)) : Option Value) = some (pb 4 k) ∧ ((aLoad Try.prog (heapOf [(baB ty bs), tkB 2 nx false, (.map (esV es) cl false), .cells 44 [iN 0, iN 0, .int .i64 nx.1, .int .i64 m] false, (.cells 3 (us.map iZ) false), .dead] hp0).get 3 (pb 4 k) : Option Value) = some (.int .i64 y.1) ∧ (((y.1 == nx.1) = true → FixM 0 [] ∧ ∀ g, Q .ret (stOf 117 g [(2, .bool false)] [])) ∧ ((y.1 == nx.1) = false → (some (.int .i64 (wrapF .i64 (Int.ofNat k + Int.ofNat 1))) : Option Value) = some (iN (k + 1)) ∧ (FixM 21 [(baB ty bs), tkB 2 nx false, (.map (esV es) cl false), .cells 44 [iN 0, iN 0, .int .i64 nx.1, .int .i64 m] false, (.cells 3 (us.map iZ) false)] ∧ ∀ g, Q .normal (stOf 117 g [(0, .slice (some ⟨0, 0, none⟩) bs.length 2), (3, pb 1 0), (4, iN i), (9, pb 3 0), (11, .slice (some ⟨4, 0, none⟩) n 4), (12, iN (k + 1))] [(baB ty bs), tkB 2 nx false, (.map (esV es) cl false), .cells 44 [iN 0, iN 0, .int .i64 nx.1, .int .i64 m] false, (.cells 3 (us.map iZ) false)])))))) ∧ ((decide ((Int.ofNat k) < (Int.ofNat n))) = false → FixM 5 [(baB ty bs), tkB 2 nx false, (.map (esV es) cl false)] ∧ ∀ g, Q (.exit 2) (stOf 117 g [(0, .slice (some ⟨0, 0, none⟩) bs.length 2), (3, pb 1 0), (4, iN i)] [(baB ty bs), tkB 2 nx false, (.map (esV es) cl false)]))
theorem Tin_e (ty : TypeId) (bs : List Bat) (i : Nat) (nx : UN) (es : List Ent) (cl : Nat) (m : Int) (us : List UN) (n k : Nat) (y : UN) (g : Nat → Value) (Q : Exit → St → Prop) : TinT ty bs i nx es cl m us n k y g Q = RM Try.prog ETc 117 0 60 lbTi (stOf 117 g [(0, .slice (some ⟨0, 0, none⟩) bs.length 2), (3, pb 1 0), (4, iN i), (9, pb 3 0), (11, .slice (some ⟨4, 0, none⟩) n 4), (12, iN k)] [(baB ty bs), tkB 2 nx false, (.map (esV es) cl false), .cells 44 [iN 0, iN 0, .int .i64 nx.1, .int .i64 m] false, (.cells 3 (us.map iZ) false)]) (.b 3 (.v 6 (pb 4 k) (.v 7 (.int .i64 y.1) (.b 10 (.stop 0 [] [2]) (.v 12 (iN (k + 1)) (.stop 21 [0, 1, 2, 3, 4] [0, 3, 4, 9, 11, 12]))))) (.stop 5 [0, 1, 2] [0, 3, 4])) Q := by kernel_rfl
theorem loopTi (ty : TypeId) (bs : List Bat) (i : Nat) (nx : UN) (es : List Ent) (cl : Nat) (m : Int) (us : List UN) (n : Nat) (hl : us.length = n) (hn : n < 1000000) (hne : ∀ u ∈ us, u ≠ nx) (W : Base) (X : Pins) (g : Nat → Value) :
    FRm Try.prog 117 W 0 X lpTi (stOf 117 g [(0, .slice (some ⟨0, 0, none⟩) bs.length 2), (3, pb 1 0), (4, iN i), (9, pb 3 0), (11, .slice (some ⟨4, 0, none⟩) n 4), (12, iN 0)] [(baB ty bs), tkB 2 nx false, (.map (esV es) cl false), .cells 44 [iN 0, iN 0, .int .i64 nx.1, .int .i64 m] false, (.cells 3 (us.map iZ) false)]) (LQ (fun (_ : Unit) g => (.exit 2, stOf 117 g [(0, .slice (some ⟨0, 0, none⟩) bs.length 2), (3, pb 1 0), (4, iN i)] [(baB ty bs), tkB 2 nx false, (.map (esV es) cl false)])) (fun (_ : Unit) => True)) := by
  rw [lpTi_eq]
  refine FRm.loop (fun j st => ∃ k g, j + k = n ∧ st = (stOf 117 g [(0, .slice (some ⟨0, 0, none⟩) bs.length 2), (3, pb 1 0), (4, iN i), (9, pb 3 0), (11, .slice (some ⟨4, 0, none⟩) n 4), (12, iN k)] [(baB ty bs), tkB 2 nx false, (.map (esV es) cl false), .cells 44 [iN 0, iN 0, .int .i64 nx.1, .int .i64 m] false, (.cells 3 (us.map iZ) false)])) (fun j st => ?_) (k := n) ⟨0, g, by omega, rfl⟩
  rintro ⟨k, g, hk, rfl⟩
  rcases Nat.lt_or_ge k n with hlt | hge
  · have hy : us[k]? = some us[k] := List.getElem?_eq_getElem (by omega)
    have hm : us[k] ∈ us := List.getElem_mem _
    generalize us[k] = y at *
    have kY : ¬ ((y.1 == nx.1) = true) := by
      have := hne y hm
      simp only [beq_iff_eq]
      exact fun e => this (Subtype.ext e)
    refine FRm.pieceM ETc_ok follows slTi (Tin_e ty bs i nx es cl m us n k y g _) ?_
    refine ⟨fun h_3 => ⟨iidx hlt, ⟨hload (hgn rfl) hy, ⟨fun h_10 => absurd h_10 kY, fun h_10 => ⟨wup (by omega), ⟨fxI (baB_inert _ _) (esB_inert _ _ _) (iZ_inert _), fun g => ?_⟩⟩⟩⟩⟩, fun h_3 => Bool.noConfusion ((decide_eq_true (show Int.ofNat k < Int.ofNat n from Int.ofNat_lt.2 hlt)).symm.trans h_3)⟩
    exact .inl ⟨rfl, j - 1, by omega, k + 1, g, by omega, rfl⟩
  · obtain rfl : k = n := by omega
    refine FRm.pieceM ETc_ok follows slTi (Tin_e ty bs i nx es cl m us k k u0 g _) ?_
    refine ⟨fun h_3 => absurd (of_decide_eq_true h_3) (Int.lt_irrefl _), fun h_3 => ⟨fxM5 (baB_inert _ _) (esB_inert _ _ _), fun g => ?_⟩⟩
    exact .inr ⟨by simp, (), g, trivial, rfl, rfl⟩
theorem hinTc (ty : TypeId) (bs : List Bat) (i : Nat) (nx : UN) (es : List Ent) (cl : Nat) (h1 : es.length < 1000) (h2 : lookE es nx = none) (W : Base) (X : Pins) (g : Nat → Value) :
    FRm Try.prog 117 W 0 X lpTi (stOf 117 g [(0, .slice (some ⟨0, 0, none⟩) bs.length 2), (3, pb 1 0), (4, iN i), (9, pb 3 0), (11, .slice (some ⟨4, 0, none⟩) ((es.map (·.1)).length) 4), (12, iN 0)] [(baB ty bs), tkB 2 nx false, (.map (esV es) cl false), .cells 44 [iN 0, iN 0, .int .i64 nx.1, .int .i64 (mskE nx es)] false, (.cells 3 ((sortN nx.1 (es.map (·.1))).map iZ) false)]) (LQ (fun (_ : Unit) g => (.exit 2, stOf 117 g [(0, .slice (some ⟨0, 0, none⟩) bs.length 2), (3, pb 1 0), (4, iN i)] [(baB ty bs), tkB 2 nx false, (.map (esV es) cl false)])) (fun (_ : Unit) => True)) := by
  have hl : (sortN nx.1 (es.map (·.1))).length = (es.map (·.1)).length := sortN_len nx.1 (es.map (·.1))
  have hne : ∀ u ∈ sortN nx.1 (es.map (·.1)), u ≠ nx := fun u hu => by
    have := (sortN_perm nx.1 (es.map (·.1))).mem_iff.1 hu
    obtain ⟨e, he, rfl⟩ := List.mem_map.1 this
    exact lookE_none.1 h2 e he
  have hn : (es.map (·.1)).length < 1000000 := by rw [List.length_map]; omega
  generalize sortN nx.1 (es.map (·.1)) = us at *
  generalize (es.map (·.1)).length = n at *
  generalize mskE nx es = m
  exact loopTi ty bs i nx es cl m us n hl hn hne W X g
set_option maxHeartbeats 1600000 in
theorem loopTc (ty : TypeId) (bs : List Bat) (hb : bs.length ≤ 100) (W : Base) (X : Pins) (g : Nat → Value) :
    FRm Try.prog 117 W 0 X lpTc (stOf 117 g [(0, .slice (some ⟨0, 0, none⟩) bs.length 2), (3, pb 1 0), (4, iN 0)] [(baB ty bs), tkB 2 u0 false, (.map (esV []) 0 false)]) (LQ (fun (_ : Unit) g => (.exit 0, stOf 117 g [] [])) (fun (_ : Unit) => True)) := by
  rw [lpTc_eq]
  refine FRm.loop (fun k st => ∃ (i : Nat) (nx : UN) (es : List Ent) (cl : Nat) (g : Nat → Value), k + i = bs.length ∧ es.length ≤ i ∧ lookE es nx = none ∧ OkT es cl ∧ st = (stOf 117 g [(0, .slice (some ⟨0, 0, none⟩) bs.length 2), (3, pb 1 0), (4, iN i)] [(baB ty bs), tkB 2 nx false, (.map (esV es) cl false)])) (fun k st => ?_) (k := bs.length) ⟨0, u0, [], 0, g, by omega, by simp, rfl, ok0, rfl⟩
  rintro ⟨i, nx, es, cl, g, hk, hle, hnx, ok_e, rfl⟩
  rcases Nat.lt_or_ge i bs.length with hlt | hge
  · have hx : bs[i]? = some bs[i] := List.getElem?_eq_getElem hlt
    generalize bs[i] = x at *
    have hes : es.length + 1 < 1000000 := by omega
    cases ht : takeF nx es cl x.1 x.2.1 with
    | mk oe r =>
    obtain ⟨os, e⟩ := oe
    obtain ⟨ny, fs, dl⟩ := r
    have hin := fun (nx : UN) (es : List Ent) (cl : Nat) h1 h2 g => hinTc ty bs i nx es cl h1 h2 W X g
    rcases take_law ok_e hes hnx ht with ⟨he, rfl, rfl, rfl, rfl⟩ | ⟨rfl, d, hd, hny, hfs, hdo, hd0, hlf, ok_f⟩
    · have ke1 : ¬ (((Int.ofNat e) != (Int.ofNat 0)) = false) := by
        simp only [Int.ofNat_eq_natCast, bne_eq_false_iff_eq]; omega
      have ke2 : ¬ (((Int.ofNat e) == (Int.ofNat 0)) = true) := by
        simp only [Int.ofNat_eq_natCast, beq_iff_eq]; omega
      cases fs with
      | nil =>
        refine pieceWM ETc_ok follows slTc (Tb0_e ty bs i x ny dl e g W X _) ?_
        refine ⟨fun h_3 => ⟨gAk_eq ⟨hgn rfl, hgn rfl⟩ ok_e rfl, ⟨gHe_nil ⟨hgn rfl, hgn rfl⟩, ⟨bidx hlt, ⟨bload (hgn rfl) hx, ⟨gTa_no ⟨hgn rfl, hgn rfl⟩ ok_e hes ht, ⟨gAk_eq ⟨hgn rfl, hgn rfl⟩ ok_e rfl, ⟨fun h_36 => ⟨aggEq, ⟨gHe_nil ⟨hgn rfl, hgn rfl⟩, ⟨fun h_55 => absurd h_55 ke2, fun h_55 => ⟨gHe_nil ⟨hgn rfl, hgn rfl⟩, ⟨wup (by first | omega | (rw [List.length_map]; omega)), ⟨fxM5 (baB_inert _ _) (esB_inert _ _ _), fun g => ?_⟩⟩⟩⟩⟩⟩, fun h_36 => absurd h_36 ke1⟩⟩⟩⟩⟩⟩⟩, fun h_3 => Bool.noConfusion ((decide_eq_true (show Int.ofNat i < Int.ofNat bs.length from Int.ofNat_lt.2 hlt)).symm.trans h_3)⟩
        exact .inl ⟨rfl, k - 1, by omega, i + 1, ny, [], dl, g, by omega, by simp, hnx, ok_e, rfl⟩
      | cons f0 fs =>
        have h0_e : 0 < (f0 :: fs).length := by simp
        generalize f0 :: fs = es at *
        have kE : ¬ (((Int.ofNat ((es.map (·.1)).length)) != (Int.ofNat ((es.map (·.1)).length))) = true) := by simp
        replace hin := hin ny es dl (by omega) hnx
        refine pieceWM ETc_ok follows slTc (Tb1_e ty bs i x ny es dl e g W X _) ?_
        refine ⟨fun h_3 => ⟨gAk_eq ⟨hgn rfl, hgn rfl⟩ ok_e rfl, ⟨gHe_of ⟨hgn rfl, hgn rfl⟩ ok_e.toOkN h0_e, ⟨bidx hlt, ⟨bload (hgn rfl) hx, ⟨gTa_no ⟨hgn rfl, hgn rfl⟩ ok_e hes ht, ⟨gAk_eq ⟨hgn rfl, hgn rfl⟩ ok_e rfl, ⟨fun h_36 => ⟨aggEq, ⟨gHe_of ⟨hgn rfl, hgn rfl⟩ ok_e.toOkN h0_e, ⟨fun h_51 => absurd h_51 kE, fun h_51 => ⟨fun h_55 => absurd h_55 ke2, fun h_55 => ⟨gHe_of ⟨hgn rfl, hgn rfl⟩ ok_e.toOkN h0_e, ⟨fxI (baB_inert _ _) (esB_inert _ _ _) (iZ_inert _), hin, fun _ g hok => ⟨wup (by first | omega | (rw [List.length_map]; omega)), ⟨fxM5 (baB_inert _ _) (esB_inert _ _ _), fun g => ?_⟩⟩⟩⟩⟩⟩⟩⟩, fun h_36 => absurd h_36 ke1⟩⟩⟩⟩⟩⟩⟩, fun h_3 => Bool.noConfusion ((decide_eq_true (show Int.ofNat i < Int.ofNat bs.length from Int.ofNat_lt.2 hlt)).symm.trans h_3)⟩
        exact .inl ⟨rfl, k - 1, by omega, i + 1, ny, es, dl, g, by omega, by omega, hnx, ok_e, rfl⟩
    · have hM := hM_of hny (by omega)
      have hlm : ∀ l : List Ent, (l.map (·.1)).length = l.length := fun l => List.length_map ..
      have hif := hin ny fs dl
      cases os with
      | nil =>
        have hd' : d = 0 := by simpa using hdo
        subst hd'
        have h0_f : 0 < fs.length := by omega
        have hin := hif (by omega) hlf
        have kB := kB_of (a := 0) hM (Nat.le_refl _)
        have kC := kD_of hM
        cases es with
        | nil =>
          have kA := kA_of (a := (fs.map (·.1)).length) (b := 1) hM (by rw [hlm]; simpa using hfs) (by decide)
          refine pieceWM ETc_ok follows slTc (Tb2_e ty bs i x nx cl ny fs dl g W X _) ?_
          refine ⟨fun h_3 => ⟨gAk_eq ⟨hgn rfl, hgn rfl⟩ ok_e rfl, ⟨gHe_nil ⟨hgn rfl, hgn rfl⟩, ⟨bidx hlt, ⟨bload (hgn rfl) hx, ⟨gTa_no ⟨hgn rfl, hgn rfl⟩ ok_e hes ht, ⟨gAk_eq ⟨hgn rfl, hgn rfl⟩ ok_f rfl, ⟨gHe_of ⟨hgn rfl, hgn rfl⟩ ok_f.toOkN h0_f, ⟨fun h_49 => absurd h_49 kA, fun h_49 => ⟨fun h_54 => absurd h_54 kB, fun h_54 => ⟨fun h_58 => ⟨gHe_of ⟨hgn rfl, hgn rfl⟩ ok_f.toOkN h0_f, ⟨fxI (baB_inert _ _) (esB_inert _ _ _) (iZ_inert _), hin, fun _ g hok => ⟨wup (by first | omega | (rw [List.length_map]; omega)), ⟨fxM5 (baB_inert _ _) (esB_inert _ _ _), fun g => ?_⟩⟩⟩⟩, fun h_58 => absurd h_58 kC⟩⟩⟩⟩⟩⟩⟩⟩⟩⟩, fun h_3 => Bool.noConfusion ((decide_eq_true (show Int.ofNat i < Int.ofNat bs.length from Int.ofNat_lt.2 hlt)).symm.trans h_3)⟩
          exact .inl ⟨rfl, k - 1, by omega, i + 1, ny, fs, dl, g, by omega, by simp at hfs; omega, hlf, ok_f, rfl⟩
        | cons f0 es =>
          have h0_e : 0 < (f0 :: es).length := by simp
          generalize f0 :: es = es at *
          have kA := kA_of (a := (fs.map (·.1)).length) (b := (es.map (·.1)).length + 1) hM (by rw [hlm, hlm]; exact hfs) (by rw [hlm]; exact hes)
          refine pieceWM ETc_ok follows slTc (Tb3_e ty bs i x nx es cl ny fs dl g W X _) ?_
          refine ⟨fun h_3 => ⟨gAk_eq ⟨hgn rfl, hgn rfl⟩ ok_e rfl, ⟨gHe_of ⟨hgn rfl, hgn rfl⟩ ok_e.toOkN h0_e, ⟨bidx hlt, ⟨bload (hgn rfl) hx, ⟨gTa_no ⟨hgn rfl, hgn rfl⟩ ok_e hes ht, ⟨gAk_eq ⟨hgn rfl, hgn rfl⟩ ok_f rfl, ⟨gHe_of ⟨hgn rfl, hgn rfl⟩ ok_f.toOkN h0_f, ⟨wup (by first | omega | (rw [List.length_map]; omega)), ⟨fun h_49 => absurd h_49 kA, fun h_49 => ⟨fun h_54 => absurd h_54 kB, fun h_54 => ⟨fun h_58 => ⟨gHe_of ⟨hgn rfl, hgn rfl⟩ ok_f.toOkN h0_f, ⟨fxI (baB_inert _ _) (esB_inert _ _ _) (iZ_inert _), hin, fun _ g hok => ⟨wup (by first | omega | (rw [List.length_map]; omega)), ⟨fxM5 (baB_inert _ _) (esB_inert _ _ _), fun g => ?_⟩⟩⟩⟩, fun h_58 => absurd h_58 kC⟩⟩⟩⟩⟩⟩⟩⟩⟩⟩⟩, fun h_3 => Bool.noConfusion ((decide_eq_true (show Int.ofNat i < Int.ofNat bs.length from Int.ofNat_lt.2 hlt)).symm.trans h_3)⟩
          exact .inl ⟨rfl, k - 1, by omega, i + 1, ny, fs, dl, g, by omega, by omega, hlf, ok_f, rfl⟩
      | cons o0 os =>
        have h0_o : 0 < (o0 :: os).length := by simp
        have hdp : 0 < d := Nat.pos_of_ne_zero fun h => by have := hd0 h; cases this
        generalize o0 :: os = os at *
        have kB := kB_of (a := os.length) hM hdo
        have kC := kC_of hM hdp
        cases es with
        | nil => cases fs with
          | nil =>
            have kA := kA_of (a := 0) (b := 1) hM (by simpa using hfs) (by decide)
            refine pieceWM ETc_ok follows slTc (Tb4_e ty bs i x nx cl ny dl os g W X _) ?_
            refine ⟨fun h_3 => ⟨gAk_eq ⟨hgn rfl, hgn rfl⟩ ok_e rfl, ⟨gHe_nil ⟨hgn rfl, hgn rfl⟩, ⟨bidx hlt, ⟨bload (hgn rfl) hx, ⟨gTa_row ⟨hgn rfl, hgn rfl⟩ ok_e hes ht h0_o, ⟨gAk_eq ⟨hgn rfl, hgn rfl⟩ ok_f rfl, ⟨gHe_nil ⟨hgn rfl, hgn rfl⟩, ⟨fun h_49 => absurd h_49 kA, fun h_49 => ⟨fun h_54 => absurd h_54 kB, fun h_54 => ⟨fun h_58 => absurd h_58 kC, fun h_58 => ⟨gHe_nil ⟨hgn rfl, hgn rfl⟩, ⟨wup (by first | omega | (rw [List.length_map]; omega)), ⟨fxM5 (baB_inert _ _) (esB_inert _ _ _), fun g => ?_⟩⟩⟩⟩⟩⟩⟩⟩⟩⟩⟩⟩⟩, fun h_3 => Bool.noConfusion ((decide_eq_true (show Int.ofNat i < Int.ofNat bs.length from Int.ofNat_lt.2 hlt)).symm.trans h_3)⟩
            exact .inl ⟨rfl, k - 1, by omega, i + 1, ny, [], dl, g, by omega, by simp, hlf, ok_f, rfl⟩
          | cons f0 fs =>
            have h0_f : 0 < (f0 :: fs).length := by simp
            generalize f0 :: fs = fs at *
            have hin := hif (by simp at hfs; omega) hlf
            have kA := kA_of (a := (fs.map (·.1)).length) (b := 1) hM (by rw [hlm]; simpa using hfs) (by decide)
            refine pieceWM ETc_ok follows slTc (Tb5_e ty bs i x nx cl ny fs dl os g W X _) ?_
            refine ⟨fun h_3 => ⟨gAk_eq ⟨hgn rfl, hgn rfl⟩ ok_e rfl, ⟨gHe_nil ⟨hgn rfl, hgn rfl⟩, ⟨bidx hlt, ⟨bload (hgn rfl) hx, ⟨gTa_row ⟨hgn rfl, hgn rfl⟩ ok_e hes ht h0_o, ⟨gAk_eq ⟨hgn rfl, hgn rfl⟩ ok_f rfl, ⟨gHe_of ⟨hgn rfl, hgn rfl⟩ ok_f.toOkN h0_f, ⟨fun h_49 => absurd h_49 kA, fun h_49 => ⟨fun h_54 => absurd h_54 kB, fun h_54 => ⟨fun h_58 => absurd h_58 kC, fun h_58 => ⟨gHe_of ⟨hgn rfl, hgn rfl⟩ ok_f.toOkN h0_f, ⟨fxI (baB_inert _ _) (esB_inert _ _ _) (iZ_inert _), hin, fun _ g hok => ⟨wup (by first | omega | (rw [List.length_map]; omega)), ⟨fxM5 (baB_inert _ _) (esB_inert _ _ _), fun g => ?_⟩⟩⟩⟩⟩⟩⟩⟩⟩⟩⟩⟩⟩⟩, fun h_3 => Bool.noConfusion ((decide_eq_true (show Int.ofNat i < Int.ofNat bs.length from Int.ofNat_lt.2 hlt)).symm.trans h_3)⟩
            exact .inl ⟨rfl, k - 1, by omega, i + 1, ny, fs, dl, g, by omega, by simp at hfs; omega, hlf, ok_f, rfl⟩
        | cons g0 es =>
          have h0_e : 0 < (g0 :: es).length := by simp
          generalize g0 :: es = es at *
          cases fs with
          | nil =>
            have kA := kA_of (a := 0) (b := (es.map (·.1)).length + 1) hM (by rw [hlm]; simpa using hfs) (by rw [hlm]; exact hes)
            refine pieceWM ETc_ok follows slTc (Tb6_e ty bs i x nx es cl ny dl os g W X _) ?_
            refine ⟨fun h_3 => ⟨gAk_eq ⟨hgn rfl, hgn rfl⟩ ok_e rfl, ⟨gHe_of ⟨hgn rfl, hgn rfl⟩ ok_e.toOkN h0_e, ⟨bidx hlt, ⟨bload (hgn rfl) hx, ⟨gTa_row ⟨hgn rfl, hgn rfl⟩ ok_e hes ht h0_o, ⟨gAk_eq ⟨hgn rfl, hgn rfl⟩ ok_f rfl, ⟨gHe_nil ⟨hgn rfl, hgn rfl⟩, ⟨wup (by first | omega | (rw [List.length_map]; omega)), ⟨fun h_49 => absurd h_49 kA, fun h_49 => ⟨fun h_54 => absurd h_54 kB, fun h_54 => ⟨fun h_58 => absurd h_58 kC, fun h_58 => ⟨gHe_nil ⟨hgn rfl, hgn rfl⟩, ⟨wup (by first | omega | (rw [List.length_map]; omega)), ⟨fxM5 (baB_inert _ _) (esB_inert _ _ _), fun g => ?_⟩⟩⟩⟩⟩⟩⟩⟩⟩⟩⟩⟩⟩⟩, fun h_3 => Bool.noConfusion ((decide_eq_true (show Int.ofNat i < Int.ofNat bs.length from Int.ofNat_lt.2 hlt)).symm.trans h_3)⟩
            exact .inl ⟨rfl, k - 1, by omega, i + 1, ny, [], dl, g, by omega, by simp, hlf, ok_f, rfl⟩
          | cons f0 fs =>
            have h0_f : 0 < (f0 :: fs).length := by simp
            generalize f0 :: fs = fs at *
            have hin := hif (by omega) hlf
            have kA := kA_of (a := (fs.map (·.1)).length) (b := (es.map (·.1)).length + 1) hM (by rw [hlm, hlm]; exact hfs) (by rw [hlm]; exact hes)
            refine pieceWM ETc_ok follows slTc (Tb7_e ty bs i x nx es cl ny fs dl os g W X _) ?_
            refine ⟨fun h_3 => ⟨gAk_eq ⟨hgn rfl, hgn rfl⟩ ok_e rfl, ⟨gHe_of ⟨hgn rfl, hgn rfl⟩ ok_e.toOkN h0_e, ⟨bidx hlt, ⟨bload (hgn rfl) hx, ⟨gTa_row ⟨hgn rfl, hgn rfl⟩ ok_e hes ht h0_o, ⟨gAk_eq ⟨hgn rfl, hgn rfl⟩ ok_f rfl, ⟨gHe_of ⟨hgn rfl, hgn rfl⟩ ok_f.toOkN h0_f, ⟨wup (by first | omega | (rw [List.length_map]; omega)), ⟨fun h_49 => absurd h_49 kA, fun h_49 => ⟨fun h_54 => absurd h_54 kB, fun h_54 => ⟨fun h_58 => absurd h_58 kC, fun h_58 => ⟨gHe_of ⟨hgn rfl, hgn rfl⟩ ok_f.toOkN h0_f, ⟨fxI (baB_inert _ _) (esB_inert _ _ _) (iZ_inert _), hin, fun _ g hok => ⟨wup (by first | omega | (rw [List.length_map]; omega)), ⟨fxM5 (baB_inert _ _) (esB_inert _ _ _), fun g => ?_⟩⟩⟩⟩⟩⟩⟩⟩⟩⟩⟩⟩⟩⟩⟩, fun h_3 => Bool.noConfusion ((decide_eq_true (show Int.ofNat i < Int.ofNat bs.length from Int.ofNat_lt.2 hlt)).symm.trans h_3)⟩
            exact .inl ⟨rfl, k - 1, by omega, i + 1, ny, fs, dl, g, by omega, by omega, hlf, ok_f, rfl⟩
  · obtain rfl : i = bs.length := by omega
    refine pieceWM ETc_ok follows slTc (Tb1_e ty bs bs.length (0, [], 0) nx es cl 0 g W X _) ?_
    refine ⟨fun h_3 => absurd (of_decide_eq_true h_3) (Int.lt_irrefl _), fun h_3 => ⟨fxM0, fun g => ?_⟩⟩
    exact .inr ⟨by simp, (), g, trivial, rfl, rfl⟩
end Go.Proofs.Ytbhmodlpolgklaa.Tk
namespace Go.Proofs.Ytbhmodlpolgklaa.Tk
open Go Go.Proofs Go.Proofs.Ytbhmodlpolgklaa.AI Go.RowKit Go.ChangeShapes
theorem cells3 : Try.prog.cellsOf 3 = 1 := by kernel_rfl
theorem cells4 : Try.prog.cellsOf 4 = 1 := by kernel_rfl
theorem cells25 : Try.prog.cellsOf 25 = 1 := by kernel_rfl
theorem cells27 : Try.prog.cellsOf 27 = 2 := by kernel_rfl
theorem cells31 : Try.prog.cellsOf 31 = 6 := by kernel_rfl
theorem cells33 : Try.prog.cellsOf 33 = 3 := by kernel_rfl
theorem cells35 : Try.prog.cellsOf 35 = 12 := by kernel_rfl
section
variable {H : Type} {enc : TypeId × Value → H} {W : World} {sp : Nat → Bool} {hd : Bool} {n : Nat} {cs : List Value} {x : DataW H × List MemPlace}
theorem obj_of (h : DataW.trod enc Try.prog W 0 sp hd n 35 cs = some x) : ∃ p : ObV, cs = obL p := by
  obtain ⟨hl, hf⟩ := trod_field Try.underlying35 h
  rw [cells35] at hl
  match cs, hl with
  | [v0, v1, v2, v3, v4, v5, v6, v7, v8, v9, v10, v11], _ =>
    obtain ⟨_, _, k0⟩ := hf 0 _ rfl
    obtain ⟨_, _, k1⟩ := hf 1 _ rfl
    obtain ⟨_, _, k2⟩ := hf 2 _ rfl
    obtain ⟨_, _, k3⟩ := hf 3 _ rfl
    obtain ⟨_, _, k4⟩ := hf 4 _ rfl
    obtain ⟨-, f1⟩ := trod_field Try.underlying31 k2
    obtain ⟨_, _, k20⟩ := f1 0 _ rfl
    obtain ⟨_, _, k21⟩ := f1 1 _ rfl
    obtain ⟨_, _, k22⟩ := f1 2 _ rfl
    obtain ⟨_, _, k23⟩ := f1 3 _ rfl
    obtain ⟨_, _, k24⟩ := f1 4 _ rfl
    obtain ⟨_, _, k25⟩ := f1 5 _ rfl
    obtain ⟨-, f2⟩ := trod_field Try.underlying33 k3
    obtain ⟨_, _, k30⟩ := f2 0 _ rfl
    obtain ⟨_, _, k31⟩ := f2 1 _ rfl
    obtain ⟨_, _, k32⟩ := f2 2 _ rfl
    obtain ⟨i0, e0⟩ := trod_int Try.underlying3 k0
    obtain ⟨i1, e1⟩ := trod_int Try.underlying3 k1
    obtain ⟨b2, e2⟩ := trod_bool Try.underlying4 k20
    obtain ⟨i3, e3⟩ := trod_int Try.underlying3 k21
    obtain ⟨i4, e4⟩ := trod_int Try.underlying3 k22
    obtain ⟨i5, e5⟩ := trod_int Try.underlying3 k23
    obtain ⟨i6, e6⟩ := trod_int Try.underlying3 k24
    obtain ⟨i7, e7⟩ := trod_int Try.underlying3 k25
    obtain ⟨i8, e8⟩ := trod_int Try.underlying3 k30
    obtain ⟨i9, e9⟩ := trod_int Try.underlying3 k31
    obtain ⟨i10, e10⟩ := trod_int Try.underlying3 k32
    obtain ⟨i11, e11⟩ := trod_int Try.underlying3 k4
    simp [cells3, cells4, cells31, cells33] at e0 e1 e2 e3 e4 e5 e6 e7 e8 e9 e10 e11
    subst e0 e1 e2 e3 e4 e5 e6 e7 e8 e9 e10 e11
    exact ⟨⟨i0, i1, b2, i3, i4, i5, i6, i7, i8, i9, i10, i11⟩, rfl⟩
end
theorem list_of {α : Type} {R : Nat → α → Prop} : ∀ n, (∀ i, i < n → ∃ p, R i p) → ∃ ps : List α, ps.length = n ∧ ∀ i p, ps[i]? = some p → R i p
  | 0, _ => ⟨[], rfl, fun i p h => by simp at h⟩
  | n + 1, h => by
    obtain ⟨ps, h1, h2⟩ := list_of n (fun i hi => h i (by omega))
    obtain ⟨q, hq⟩ := h n (by omega)
    refine ⟨ps ++ [q], by simp [h1], fun i p hp => ?_⟩
    by_cases hi : i < ps.length
    · rw [List.getElem?_append_left hi] at hp; exact h2 i p hp
    · rw [List.getElem?_append_right (by omega)] at hp
      have : i - ps.length = 0 := by
        have := (List.getElem?_eq_some_iff.1 hp).1
        simp at this; omega
      rw [this] at hp
      simp at hp
      subst hp
      have : i = n := by omega
      rw [this]; exact hq
theorem cell_row {W : World} {a : Addr} {v : Value} (h : W.cell? a = some v) : a.spot = none ∧ ∃ arr ty fr, W.heap[a.block]? = some (.cells arr ty fr) := by
  unfold World.cell? at h
  split at h
  · rename_i arr ty fr hc
    refine ⟨?_, arr, ty, fr, hc⟩
    cases hs : a.spot with
    | none => rfl
    | some s => rw [hs] at h; simp at h
  · cases h
theorem row_of {H : Type} {enc : TypeId × Value → H} {W : World} {α : Type} {f : α → List Value} {k t el : Nat} (hk : 0 < k) (ht : Try.prog.underlying t = some (.slice el)) (hc : Try.prog.cellsOf el = k) (hfl : ∀ p, (f p).length = k)
    (hop : ∀ m cs (x : DataW H × List MemPlace), DataW.trod enc Try.prog W 0 (fun _ => true) true m el cs = some x → ∃ p, ∀ (j : Nat) (v v' : Value), (f p)[j]? = some v → cs[j]? = some v' → LW W (.inr (v, v')))
    {fuel : Nat} {v : Value} {x : DataW H × List MemPlace} (h : DataW.trod enc Try.prog W 0 (fun _ => true) true fuel t [v] = some x) : ∃ (ps : List α) (ty : TypeId), LW W (.inr (LIT ps.length ty (ps.flatMap f), v)) := by
  rcases Go.Deep.open_slice ht h with ⟨h0, _⟩ | ⟨a, len, cap, m, k', D, Pl, e0, _, hlc, _, hm, _, hel⟩
  · cases h0; exact ⟨[], 0, .lit0⟩
  · cases e0
    by_cases hn : len = 0
    · subst hn; exact ⟨[], 0, .litE⟩
    · rw [hc] at hel
      have hmn : len ≤ m := by rw [hm]; split <;> omega
      have hw : ∀ i, i < len → ∃ p : α, ∀ j, j < k → ∃ v', W.cell? ((a.add (i * k)).add j) = some v' ∧ ∀ v, (f p)[j]? = some v → LW W (.inr (v, v')) := by
        intro i hi
        obtain ⟨cs, h1, h2⟩ := hel i (by omega)
        obtain ⟨p, hp⟩ := hop _ _ _ h2
        obtain ⟨_, h5, h6⟩ := World.cells?_some h1
        refine ⟨p, fun j hj => ?_⟩
        have hcs : cs[j]? = some (cs[j]'(by omega)) := List.getElem?_eq_getElem (by omega)
        exact ⟨_, (h6 j hj).trans hcs, fun v hv => hp j v _ hv hcs⟩
      obtain ⟨ps, hl, hps⟩ := list_of len hw
      obtain ⟨p0, h0⟩ := hw 0 (by omega)
      obtain ⟨v0, hv0, _⟩ := h0 0 hk
      obtain ⟨r, off, spt⟩ := a
      have e0 : ((⟨r, off, spt⟩ : Addr).add (0 * k)).add 0 = ⟨r, off, spt⟩ := by rw [Nat.zero_mul]; rfl
      rw [e0] at hv0
      obtain ⟨hs, arr, ty, fr, hb⟩ := cell_row hv0
      simp only at hs hb
      subst hs
      have hlen : (ps.flatMap f).length = len * k := by rw [flat_len f k ps fun p _ => hfl p, hl]
      have hcell : ∀ i j, i < len → j < k → ∀ p, ps[i]? = some p → ∃ v', arr[off + (i * k + j)]? = some v' ∧ ∀ v, (f p)[j]? = some v → LW W (.inr (v, v')) := by
        intro i j hi hj p hp
        obtain ⟨v', h1, h2⟩ := hps i p hp j hj
        rw [Addr.add_lit, Addr.add_lit, Nat.add_assoc, cell_of hb] at h1
        exact ⟨v', h1, h2⟩
      refine ⟨ps, ty, ?_⟩
      rw [hl]
      refine .lit (.row hb ?_ fun i v v' q1 q2 => ?_) hlc
      · have hp : ps[len - 1]? = some (ps[len - 1]'(by omega)) := List.getElem?_eq_getElem (by omega)
        obtain ⟨v', hv, _⟩ := hcell (len - 1) (k - 1) (by omega) (by omega) _ hp
        have h1 := (Array.getElem?_eq_some_iff.1 hv).1
        rw [hlen]
        have h2 : (len - 1) * k + k = len * k := by
          rw [← Nat.succ_mul]; congr 1; omega
        omega
      · have hi : i < len * k := by rw [← hlen]; exact (List.getElem?_eq_some_iff.1 q1).1
        have hq : i / k < len := Nat.div_lt_of_lt_mul (by rw [Nat.mul_comm]; exact hi)
        have hp : ps[i / k]? = some (ps[i / k]'(by omega)) := List.getElem?_eq_getElem (by omega)
        have hj : i % k < k := Nat.mod_lt _ hk
        have hsplit : i / k * k + i % k = i := by rw [Nat.mul_comm]; exact Nat.div_add_mod i k
        obtain ⟨w, h1, h2⟩ := hcell _ _ hq hj _ hp
        have g1 := flat_get f k ps (fun p _ => hfl p) (i / k) (i % k) _ hp hj
        rw [hsplit] at g1 h1
        rw [h1] at q2
        cases q2
        exact h2 v (g1.symm.trans q1)
section
variable {H : Type} {enc : TypeId × Value → H} {W : World} {n : Nat} {cs : List Value} {x : DataW H × List MemPlace}
theorem bat_of (h : DataW.trod enc Try.prog W 0 (fun _ => true) true n 27 cs = some x) : ∃ p : Bat, ∀ (j : Nat) (v v' : Value), (baL p)[j]? = some v → cs[j]? = some v' → LW W (.inr (v, v')) := by
  obtain ⟨hl, hf⟩ := trod_field Try.underlying27 h
  rw [cells27] at hl
  match cs, hl with
  | [v0, v1], _ =>
    obtain ⟨_, _, k0⟩ := hf 0 _ rfl
    obtain ⟨n1, x1, k1⟩ := hf 1 _ rfl
    obtain ⟨i0, e0⟩ := trod_int Try.underlying3 k0
    simp [cells3] at e0
    subst e0
    have k1' : DataW.trod enc Try.prog W 0 (fun _ => true) true n1 25 [v1] = some x1 := by simpa [cells25] using k1
    obtain ⟨ps, ty, hL⟩ := row_of (f := obL) (k := 12) (by decide) Try.underlying25 cells35 (fun _ => rfl) (fun m cs x h => by
      obtain ⟨p, rfl⟩ := obj_of h
      refine ⟨p, fun j v v' q1 q2 => ?_⟩
      rw [q1] at q2; cases q2
      refine .flat ?_
      have hm := List.mem_of_getElem? q1
      simp only [obL, List.mem_cons, List.not_mem_nil, or_false] at hm
      rcases hm with rfl | rfl | rfl | rfl | rfl | rfl | rfl | rfl | rfl | rfl | rfl | rfl <;> rfl) k1'
    refine ⟨(i0, ps, ty), fun j v v' q1 q2 => ?_⟩
    match j with
    | 0 => cases q1; cases q2; exact .flat rfl
    | 1 => cases q1; cases q2; exact hL
    | j + 2 => simp [baL] at q1
end
theorem lw_rel {W : World} {h : HG} {v v' : Value} (l : LW W (.inr (v, v'))) : VRel (bmW W) h v v' := by
  cases l with
  | flat q => exact .flat q
  | lit q1 q2 => exact .lit q1 q2
  | lit0 => exact .lit0
  | litE => exact .litE
theorem law_end {f : FuncId} {fn : Func} {c : Code} {N : Nat} (hf : Try.prog.funcs[f]? = some fn) (hb : fn.body = some c) (hN : fn.ntmps = N) (W : World) {args : Array Value} {args0 : List Value} {hp : Hp} {m : BM} (hl : args0.length ≤ N) (hk : hp.ok) (sim : Sim m hp.get W) (ro : ∀ b, rw? hp.get b = false)
    (ra : VRelL m hp.get args0 args.toList) (h : ∀ W, FRwp Try.prog N W c ⟨tmsOf args0 0 .leaf, hp, []⟩ (fun e st => (e = .normal ∨ e = .ret) ∧ st.df = [] ∧ retVal Try.prog fn st = some (.bool true))) :
    Calls Try.prog f args W fun e W' => e = .returned (.bool true) ∧ Below W.heap.size W W' := by
  have h' := h (Base.shut W m.lrow)
  rw [← hN] at h'
  refine (fn_of (R := fun v _ => v = .bool true) hf hb (by rw [hN]; exact hl) hk sim ro ra (FRwp.mono h' fun e st q => ⟨q.1, q.2.1, _, q.2.2, rfl⟩)).mono fun e w' hh => ?_
  obtain ⟨v', v, st', m', rfl, rfl, rv, _, _, hb, _⟩ := hh
  exact ⟨by rw [rv.of_bool], hb.below⟩
theorem few_le {bs : List Bat} (h : (!(fewB bs)) = false) : bs.length ≤ 100 := by
  have : fewB bs = true := by simpa using h
  exact of_decide_eq_true (Bool.and_eq_true_iff.1 this).1
theorem lawTc (ty : TypeId) (bs : List Bat) (W : Base) (X : Pins) : FRm Try.prog 117 W 0 X fbTc ⟨tmsOf [LIT bs.length ty (bs.flatMap baL)] 0 .leaf, heapOf [.dead] hp0, []⟩ (FinF Try.prog Try.f4 fun v _ _ _ => v = .bool true) := by
  cases hbs : bs with
  | nil =>
    refine FRm.pieceF ETc_ok follows sTc (Tcz_e ty _) ?_
    exact ⟨gNw_of, ⟨gFe_0, ⟨gAw_of, rfl⟩⟩⟩
  | cons b0 bs' =>
    rw [← hbs]
    have h0 : 0 < bs.length := by rw [hbs]; simp
    clear hbs
    refine FRm.mat (i := 0) (ty := ty) (cs := bs.flatMap baL) rfl (by simp) h0 ?_
    refine FRm.pieceWF ETc_ok follows sTc (Tc_e ty bs W X _) ?_
    exact ⟨gNw_of, ⟨gFe_row (hgn rfl), ⟨fun h_8 => ⟨gAw_of, rfl⟩, fun h_8 => ⟨fxM5 (baB_inert _ _) (esB_inert _ _ _), fun g => loopTc ty bs (few_le h_8) W X g, fun _ g hok => ⟨gAw_of, rfl⟩⟩⟩⟩⟩
theorem laidTc : laidOutB Try.prog = true := by kernel_rfl
theorem ownTc : ownKnob Try.prog.godebug = none := by kernel_rfl
theorem ro_dead (b : Nat) : rw? (heapOf [Blk.dead] hp0).get b = false := by
  unfold rw?
  rw [heapOf0_get]
  match b with
  | 0 => rfl
  | b + 1 => rfl
theorem valw_slice {w : World} {r : Reach} {base : Nat} {t e : TypeId} {v : Value} (ht : Try.prog.underlying t = some (.slice e)) (h : Value.okWide Try.prog w r base t v) : v = .slice none 0 0 ∨ ∃ b off n c, v = .slice (some ⟨b, off, none⟩) n c ∧ n ≤ c := by
  unfold Value.okWide at h
  rw [ht] at h
  exact cellw_slice ht h
theorem walkTc {H : Type} {enc : TypeId × Value → H} (W : World) (base : Nat) (args : Array Value) (ds : List (DataW H)) (p : List MemPlace) (hsz : args.size = 1) (hval : ∀ (j : Nat) t v, Try.f4.params[j]? = some t → args[j]? = some v → Value.okWide Try.prog W .any base t v)
    (hA : DataW.TrodAll enc Try.prog W 0 (fun _ => true) true [24] args.toList ds p) : Calls Try.prog 4 args W fun e W' => e = .returned (.bool true) ∧ Below W.heap.size W W' := by
  obtain ⟨v, rfl⟩ : ∃ v, args = #[v] := by
    obtain ⟨l⟩ := args
    match l, hsz with
    | [a], _ => exact ⟨a, rfl⟩
  obtain ⟨v1, vs1, d1, ds1, p1, q1, e1, _, _, ⟨fuel, hT⟩, _⟩ := trodAll_cons hA
  cases e1
  have hT' : DataW.trod enc Try.prog W 0 (fun _ => true) true fuel 24 [v] = some (d1, p1) := by
    rcases valw_slice Try.underlying24 (hval 0 24 v (by kernel_rfl) rfl) with rfl | ⟨r, off, n, c, rfl, hn⟩ <;> simpa [Value.cells] using hT
  obtain ⟨bs, ty, hL⟩ := row_of (f := baL) (k := 2) (by decide) Try.underlying24 cells27 (fun _ => rfl) (fun m cs x h => bat_of h) hT'
  refine law_end Try.func4 bodyTc ntTc W (args0 := [LIT bs.length ty (bs.flatMap baL)]) (by simp) (heapOf_ok _ _ hp0_ok) (simW W) ro_dead (.cons (lw_rel hL) .nil) fun W => ?_
  refine FRm.to0 fun X => FRm.mono (lawTc ty bs W X) fun e st h => ?_
  obtain ⟨q1, q2, v1, z, O, K, Nw, q3, _, _, rfl⟩ := h
  exact ⟨q1, q2, q3⟩
theorem paramsTc : ∀ t ∈ Try.f4.params.toList, Try.prog.readableRec t = true ∧ t < Try.prog.types.size := by
  have h : Try.f4.params.toList.all (fun t => Try.prog.readableRec t && decide (t < Try.prog.types.size)) = true := by kernel_rfl
  intro t ht
  have := List.all_eq_true.1 h t ht
  simpa using this
theorem liftedTc (os : Os) (started : os.Started) (H : Type) (enc : TypeId × Value → H) :
    ReturnsInHanded {} Try.checked os 4 .any (Rows.takerCountsSpec.pre6 enc Try.prog Try.f4 Rows.takerCountsRow.domain false) (Rows.takerCountsSpec.post enc Try.prog Try.f4 false true false false) :=
  law_lifted (C := Try.checked) (tb := 4) started ownTc (by kernel_rfl) Try.func4 laidTc paramsTc rfl (by kernel_rfl) Try.underlying4
    (fun ds hl => by
      match ds, hl with
      | [_], _ => rfl)
    (ChangeSpec.witness6 (enc := enc) (C := Try.checked) false ⟨#[], #[nilS], []⟩ 8 (by kernel_rfl) (by kernel_rfl) (by kernel_rfl) (by kernel_rfl))
    (fun W base args ds p hsz hval hA => walkTc W base args ds p hsz hval hA)
theorem takerCounts_proved : Rows.TakerCountsSaid :=
  OpenClaim.holds_of_wide 4 Try.f4 rfl rfl rfl rfl rfl rfl rfl ⟨rfl, rfl, rfl, rfl, rfl⟩ rfl rfl rfl rfl rfl (by kernel_rfl) Try.func4 (by kernel_rfl)
    (of_decide_eq_true (by kernel_rfl)) (by unfold Func.isWrapper; first | (rw [if_pos (by decide +kernel)]; kernel_rfl) | (rw [if_neg (by decide +kernel)]; exact ⟨rfl, rfl⟩))
    (fun os started H enc _ => liftedTc os started H enc)
#print axioms takerCounts_proved
end Go.Proofs.Ytbhmodlpolgklaa.Tk
