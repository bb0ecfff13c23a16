/- Runs with claims about calls, in regions whose order is open too. -/
import Derived.Test.YtgeoommlmddgpaaAi40
set_option linter.unusedVariables false
set_option linter.unusedSimpArgs false
set_option maxRecDepth 100000
namespace Go.Proofs.Ytgeoommlmddgpaa.AI
open Go Go.Proofs Go.RowKit

def runLogE (P : Program) (call : CallF) (cl : List (Tmp × Value)) (ch : ClH) (ce : ClE) (ops : Array Oper) : List Oper → Nat → St → Option (St × List Log × List Obl × List OblH × List OblE)
  | [], _, st => some (st, [], [], [], [])
  | o :: os, i, st => match aWanted ops st o with
    | false => runLogE P call cl ch ce ops os (i + 1) (st.tput o.dst undef)
    | true => match stepE P call cl ch ce o st with
      | some (v, h, d, q, r, x) => match runLogE P call cl ch ce ops os (i + 1) ({ st with hp := h, df := d }.tput o.dst v) with
        | some (st', l, q', r', x') => match cls P o with
          | .pure => some (st', l, q ++ q', r ++ r', x ++ x')
          | .read => some (st', .read i (fun get => opR P st.eval get o) v :: l, q ++ q', r ++ r', x ++ x')
          | .big => some (st', .big i st.hp h :: l, q ++ q', r ++ r', x ++ x')
        | none => none
      | none => none
def execZ (P : Program) (call : CallF) (cl : List (Tmp × Value)) (ch : ClH) (ce : ClE) : Nat → Code → St → Option (Exit × St × List Obl × List OblH × List OblE)
  | 0, _, _ => none
  | n + 1, c, st => match c with
    | .skip | .label _ => some (.normal, st, [], [], [])
    | .region _ ops draw => match draw with
      | false => match runOpsE P call cl ch ce ops ops.toList st with
        | some (st', q, r, x) => some (.normal, st', q, r, x)
        | none => none
      | true => match floats P ops with
        | [] => match runOpsE P call cl ch ce ops ops.toList st with
          | some (st', q, r, x) => some (.normal, st', q, r, x)
          | none => none
        | p :: ps => match runLogE P call cl ch ce ops ops.toList 0 st with
          | some (st', l, q, r, x) => match pairsQ l (p :: ps) with
            | some q2 => some (.normal, st', q2 ++ q, r, x)
            | none => none
          | none => none
    | .seq a b => match execZ P call cl ch ce n a st with
      | some (.normal, st', q, r, x) => match execZ P call cl ch ce n b st' with
        | some (e, st2, q2, r2, x2) => some (e, st2, q ++ q2, r ++ r2, x ++ x2)
        | none => none
      | r => r
    | .cond x a b => match st.eval x with
      | .bool true => execZ P call cl ch ce n a st
      | .bool false => execZ P call cl ch ce n b st
      | _ => none
    | .block id body => match execZ P call cl ch ce n body st with
      | some (.exit i, st', q, r, x) => match Nat.beq i id with
        | true => some (.normal, st', q, r, x)
        | false => some (.exit i, st', q, r, x)
      | r => r
    | .scope body => execZ P call cl ch ce n body st
    | .exit id => some (.exit id, st, [], [], [])
    | .ret => some (.ret, st, [], [], [])
    | _ => none

section
variable {P : Program} {call : CallF} {cl : List (Tmp × Value)} {ch : ClH} {ce : ClE}
theorem runLogE_ok {ops : Array Oper} : ∀ {os : List Oper} {i : Nat} {st st' : St} {l : List Log} {q : List Obl} {r : List OblH} {x : List OblE}, runLogE P call cl ch ce ops os i st = some (st', l, q, r, x) → Met q → MetH r → MetE x → runLog P call ops os i st = some (st', l)
  | [], i, st, st', l, q, r, x, h, m, mh, me => by cases h; rfl
  | o :: os, i, st, st', l, q, r, x, h, m, mh, me => by
    unfold runLogE at h
    unfold runLog
    split at h
    · rename_i hw; simp only [hw]; exact runLogE_ok h m mh me
    · rename_i hw
      simp only [hw]
      split at h
      · rename_i hs
        split at h
        · rename_i hr
          split at h
          · rename_i hc
            cases h
            simp only [stepE_ok hs m.left mh.left me.left, runLogE_ok hr m.right mh.right me.right, hc]
          · rename_i hc
            cases h
            simp only [stepE_ok hs m.left mh.left me.left, runLogE_ok hr m.right mh.right me.right, hc]
          · rename_i hc
            cases h
            simp only [stepE_ok hs m.left mh.left me.left, runLogE_ok hr m.right mh.right me.right, hc]
        · cases h
      · cases h
theorem execZ_ok : ∀ {n : Nat} {c : Code} {st st' : St} {e : Exit} {q : List Obl} {r : List OblH} {x : List OblE}, execZ P call cl ch ce n c st = some (e, st', q, r, x) → Met q → MetH r → MetE x → exec P call n c st = some (e, st')
  | 0, c, st, st', e, q, r, x, h, m, mh, me => by cases h
  | n + 1, c, st, st', e, q, r, x, h, m, mh, me => by
    cases c with
    | skip => cases h; rfl
    | label l => cases h; rfl
    | exit i => cases h; rfl
    | ret => cases h; rfl
    | region id ops draw =>
      simp only [execZ] at h
      simp only [exec]
      cases draw with
      | false =>
        simp only at h
        split at h
        · rename_i hr; cases h; simp only [aRegion, runOpsE_ok hr m mh me]
        · cases h
      | true =>
        simp only at h
        split at h
        · rename_i hf
          split at h
          · rename_i hr; cases h; simp only [aRegion, hf, runOpsE_ok hr m mh me]
          · cases h
        · rename_i p ps hf
          split at h
          · rename_i hr
            split at h
            · rename_i hp
              cases h
              simp only [aRegion, hf, runLogE_ok hr m.right mh me, pairsQ_met hp m.left]
            · cases h
          · cases h
    | seq a b =>
      simp only [execZ] at h
      simp only [exec]
      split at h
      · rename_i ha
        split at h
        · rename_i hb
          cases h
          simp only [execZ_ok ha m.left mh.left me.left]
          exact execZ_ok hb m.right mh.right me.right
        · cases h
      · rename_i hne
        rw [execZ_ok h m mh me]
        split
        · rename_i heq; cases heq; exact absurd h (hne _ _ _ _)
        · rfl
    | cond x a b =>
      simp only [execZ] at h
      simp only [exec]
      split at h
      · rename_i hx; simp only [hx]; exact execZ_ok h m mh me
      · rename_i hx; simp only [hx]; exact execZ_ok h m mh me
      · cases h
    | block id b =>
      simp only [execZ] at h
      simp only [exec]
      split at h
      · rename_i hb
        split at h
        · rename_i hi; cases h; simp only [execZ_ok hb m mh me, hi]
        · rename_i hi; cases h; simp only [execZ_ok hb m mh me, hi]
      · rename_i hne
        rw [execZ_ok h m mh me]
        split
        · rename_i heq; cases heq; exact absurd h (hne _ _ _ _ _)
        · rfl
    | scope b =>
      simp only [execZ] at h
      simp only [exec]
      exact execZ_ok h m mh me
    | _ => cases h
end

section
variable {P : Program} {N : Nat} {W : Base}
theorem FRwp.pieceZ {call : CallF} (hc : CallOk P call) (hm : P.follows .mixedOrders = true) {n : Nat} {c : Code} {cl : List (Tmp × Value)} {ch : ClH} {ce : ClE} {st : St} {e : Exit} {q : List Obl} {r : List OblH} {x : List OblE} {Q : Exit → St → Prop} (p : Nat) (K Ts : List Nat) (O : List Blk) (L : List (Nat × Value))
    (he : (execZ P call cl ch ce n c st).map (fun y => (look2 p K Ts (y.1, y.2.1), y.2.2)) = some ((e, O, L, true), q, r, x)) (hq : Met q) (hr : MetH r) (hx : MetE x) (hs : codeSafe P N c = true) (hK : nodupB K = true) (hT : Ts.all (fun t => Nat.blt t N) = true)
    (hO : ∀ i, i < p → ∀ o, O[i]? = some o → Fixed 0 o) (h : ∀ g, Q e (stOf N g L O)) : FRwp P N W c st Q := by
  obtain ⟨⟨e', st', q', r', x'⟩, h1, h2⟩ := Option.map_eq_some_iff.1 he
  simp only [Prod.mk.injEq] at h2
  obtain ⟨h2, rfl, rfl, rfl⟩ := h2
  refine FRwp.pieceY0 hc hm (n := n) p K Ts O L ?_ hs hK hT hO h
  rw [execZ_ok h1 hq hr hx]
  exact congrArg some h2
end
end Go.Proofs.Ytgeoommlmddgpaa.AI
