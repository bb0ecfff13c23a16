/- CoreRight, of the given program: for every route and call the law returns true, and the arguments read asv they did. No condition. -/
import Derived.Test.YtgeoommlmddgpaaGreatXcG
import Derived.Test.YtgeoommlmddgpaaGreatRows
set_option linter.unusedVariables false
set_option linter.unusedSimpArgs false
set_option maxRecDepth 100000
namespace Go.Proofs.YtgeoommlmddgpaaGreat.LtL
open Go Go.Proofs Go.Proofs.YtgeoommlmddgpaaGreat.AI Go.RowKit Go.Proofs.YtgeoommlmddgpaaGreat.Sort Go.Proofs.YtgeoommlmddgpaaGreat.LtA
theorem qR{i:Int}(h1:0≤i)(h2:i<64):dU true 0 0 0 0 i=true:=by
 unfold dU dT;simp [h1,h2]
theorem IE{t o r d i d' i':Int}(h:dU false t o r d i=true)(h1 : -1099511627776≤d'∧d'≤1099511627776)(h2:0≤i'∧i'<64):dU false t o r d' i'=true:=by
 unfold dU at h ⊢;simp only [cond_false,Bool.and_eq_true,decide_eq_true_eq,ge_iff_le] at h ⊢;exact ⟨h2.1,h2.2,h.2.2.1,h.2.2.2.1,h.2.2.2.2.1,h.2.2.2.2.2.1,h.2.2.2.2.2.2.1,h1⟩
theorem Bp{x:aa}(h:cU x=true):cU (LtA.bC x)=true:=by
 obtain ⟨h1,h2,h3,-⟩:=oB h;unfold cU sg LtA.bC;rw [mZ];have h4:=qR (i:=x.i) (by omega) (by omega)
 simp only [Bool.and_eq_true,decide_eq_true_eq,beq_iff_eq];exact ⟨h1,h2,h3,h4⟩
theorem yh(lt lo lr keep:Int)(x:aa):(lN lt lo lr keep x).id=x.id:=by unfold lN; cases lO lt lo lr keep x <;> rfl
theorem HV{lt lo lr keep:Int}{x:aa}(h:cU x=true):cU (lN lt lo lr keep x)=true:=by
 unfold lN;cases lO lt lo lr keep x with
 | false=>exact h
 | true=>exact Bp h
theorem Bb{lt lo lr keep:Int}{vs:List aa}(h:aF vs=true):aF (vs.map (lN lt lo lr keep))=true:=by
 obtain ⟨h1,h2⟩:=dw.1 h;refine dw.2 ⟨fun x hx=>?_,?_⟩
 ·obtain ⟨y,hy,rfl⟩:=List.mem_map.1 hx
  exact HV (h1 y hy)
 ·refine List.pairwise_map.2 ?_
  simp only [yh];exact h2
theorem vG{vs:List aa}{id:Int}{x:aa}(h:x∈dy vs id):x∈vs:=(List.eraseIdx_sublist _ _).subset h
theorem yd{vs:List aa}{id:Int}(h:aF vs=true):aF (dy vs id)=true:=by
 obtain ⟨h1,h2⟩:=dw.1 h;exact dw.2 ⟨fun x hx=>h1 x (vG hx),h2.sublist (List.eraseIdx_sublist _ _)⟩
theorem iS{vs:List aa}{id:Int}:(aG vs id).isSome=false↔∀ x∈vs,x.id≠id:=by
 unfold aG;cases h:vs.find? (sb id) with
 | none =>
   have:=List.find?_eq_none.1 h
   exact ⟨fun _ x hx e=>this x hx (by simp [sb,e]),fun _=>rfl⟩
 | some y =>
   refine ⟨fun h=>(by cases h),fun hx=>?_⟩
   have h1:=List.mem_of_find?_eq_some h
   have h2:=List.find?_some h
   exact absurd (by simpa [sb] using h2) (hx y h1)
theorem lT{vs:List aa}{id:Int}:(aG vs id).isSome=true↔∃ x∈vs,x.id=id:=by
 constructor
 ·intro h
  obtain ⟨y,hy⟩:=Option.isSome_iff_exists.1 h;exact ⟨y,List.mem_of_find?_eq_some hy,by have:=List.find?_some hy; simpa [sb] using this⟩
 ·rintro ⟨x,hx,e⟩
  cases h:(aG vs id).isSome with
  | true=>rfl
  | false=>exact absurd e (iS.1 h x hx)
def J'(me:Int):aa:=⟨0,false,0,0,0,0,me⟩
structure W8 (R:aw) (vs:List aa):Prop where
 me:0≤R.me∧R.me<64
 dest:0≤R.dest∧R.dest<64
 own:R.own.i=R.me
 self:∀ x∈vs,x.id≠R.me
 ok:dU R.own.n R.own.t R.own.o R.own.r R.own.d R.own.i=true
 rt:aF vs=true
 ask:R.asked=true→R.own.n=true
 last:0≤R.last∧R.last≤65535∧(0<R.last→R.heard=true)
 home:R.me=R.dest→cL R.own (J' R.me)=true
theorem pY{R:aw}{vs:List aa}:iU R vs=true↔W8 R vs:=by
 unfold iU Ah;constructor
 ·intro h
  simp only [Bool.and_eq_true,decide_eq_true_eq,Bool.not_eq_true',decide_eq_false_iff_not,ge_iff_le,Int.ofNat_eq_natCast,Bool.and_eq_false_iff,bne_eq_false_iff_eq,gt_iff_lt,Int.not_lt] at h;obtain ⟨⟨⟨⟨⟨⟨⟨⟨⟨⟨h1,h2⟩,h3⟩,h4⟩,h5⟩,h6⟩,h7⟩,h8⟩,h9⟩,h10⟩,h11⟩:=h;refine ⟨by omega,by omega,h3,iS.1 h4,h5,h6,fun ha=>?_,⟨by omega,by omega,fun hl=>?_⟩,fun hm=>?_⟩
  ·rcases h7 with h | h
   ·rw [ha] at h; cases h
   ·simpa using h
  ·rcases h10 with h | h
   ·exact absurd hl (by omega)
   ·simpa using h
  ·rcases h11 with h | h
   ·rw [hm] at h; simp at h
   ·simpa [J'] using h
 ·intro h
  have e1:=iS.2 h.self
  have e2:(R.asked && !R.own.n)=false:=by
    cases ha:R.asked with
    | false=>rfl
    | true=>rw [h.ask ha]; rfl
  have e3:(decide (R.last>Int.ofNat 0) && !R.heard)=false:=by
    by_cases hl:0<R.last
    ·rw [h.last.2.2 hl]; simp
    ·rw [decide_eq_false (by simpa using hl)]; rfl
  have e4:((R.me==R.dest) && !cL R.own ⟨0,false,0,0,0,0,R.me⟩)=false:=by
    by_cases hm:R.me=R.dest
    ·have e5:cL R.own ⟨0,false,0,0,0,0,R.me⟩=true:=h.home hm
     rw [e5]; simp
    ·rw [beq_false_of_ne hm]; rfl
  have e6:(R.own.i != R.me)=false:=by rw [h.own]; simp
  rw [e1,e2,e3,e4,e6,h.ok,h.rt];obtain ⟨⟨a1,a2⟩,⟨a3,a4⟩,-,-,-,-,-,⟨a5,a6,-⟩,-⟩:=h;simp only [Int.ofNat_eq_natCast,ge_iff_le,Bool.not_false,Bool.and_true,Bool.and_eq_true,decide_eq_true_eq,Bool.not_eq_true',decide_eq_false_iff_not,Int.not_lt,gt_iff_lt];refine ⟨⟨⟨⟨?_,?_⟩,?_,?_⟩,?_⟩,?_⟩ <;> simp <;> omega
def Ph(dest:Int)(vs:List aa)(x:aQ):Prop:=jC x=true∧x.dest=dest∧(x.to=255∨∃ y∈vs,y.id=x.to)
theorem ur{to dest:Int}(h:0≤dest∧dest<64):jC ⟨to,1,dest,zH,zL,0⟩=true:=by
 unfold jC;simp [h.1,h.2,zH,zL,zO]
theorem ET{to dest:Int}{v:aa}(h:0≤dest∧dest<64)(hv:dU v.n v.t v.o v.r v.d v.i=true):jC ⟨to,2,dest,v,zL,0⟩=true:=by
 unfold jC;simp [h.1,h.2,zL,zO,hv]
theorem Aj{to dest:Int}{l:aU}(h:0≤dest∧dest<64)(hv:dU false l.1 l.2.1 l.2.2 0 0=true):jC ⟨to,3,dest,zH,l,0⟩=true:=by
 unfold jC;simp [h.1,h.2,zH,zO,hv]
theorem IF{to dest num:Int}{v:aa}(h:0≤dest∧dest<64)(hn:v.n=false)(hk:0≤num∧num≤65535)(hv:dU v.n v.t v.o v.r v.d v.i=true):jC ⟨to,4,dest,v,zL,num⟩=true:=by
 rw [hn] at hv;unfold jC;simp [h.1,h.2,zL,zO,hv,hn,hk.1,hk.2]
theorem QQ{x:aQ}(h:jC x=true)(hk:x.kind=3):dU false x.l.1 x.l.2.1 x.l.2.2 0 0=true:=by
 unfold jC at h;rw [hk] at h;simp at h;exact h.2.2.1
theorem QR{x:aQ}(h:jC x=true)(hk:x.kind=4):x.h.n=false∧0≤x.num∧x.num≤65535:=by
 unfold jC at h;rw [hk] at h;simp at h;exact ⟨h.2.2.1,h.2.2.2.1,h.2.2.2.2.1⟩
theorem AO{me:Int}{vs:List aa}(h:(bH me vs).2=0):dU (bH me vs).1.n (bH me vs).1.t (bH me vs).1.o (bH me vs).1.r (bH me vs).1.d (bH me vs).1.i=true:=by
 unfold bH at h ⊢;cases hr:aF vs with
 | false=>rw [hr] at h; exact absurd (show (1:Int)=0 from h) (by decide)
 | true =>
 rw [hr] at h;simp only [Bool.not_true,cond_false] at h ⊢;cases hz:dU false (Int.ofNat 0) (Int.ofNat 0) (Int.ofNat 0) (Int.ofNat 0) me with
 | false=>rw [hz] at h; exact absurd (show (1:Int)=0 from h) (by decide)
 | true =>
 rw [hz] at h;simp only [Bool.not_true,cond_false] at h ⊢;cases hl:(eN vs).2 with
 | false=>rw [hl] at h; exact absurd (show (7:Int)=0 from h) (by decide)
 | true =>
 rw [hl] at h;simp only [Bool.not_true,cond_false] at h ⊢;unfold JF at h ⊢;cases ho:dU false (bA (eN vs).1).1 (bA (eN vs).1).2.1 (bA (eN vs).1).2.2 (wrapF .i64 ((eN vs).1.d+Int.ofNat 1)) me with
 | false=>rw [ho] at h; exact absurd (show (1:Int)=0 from h) (by decide)
 | true=>exact ho
theorem Im{vs:List aa}(hr:aF vs=true){l:aU}(h:l∈bN (aX vs)):dU false l.1 l.2.1 l.2.2 0 0=true:=by
 obtain ⟨x,hx,hk,rfl⟩:=Nb h;obtain ⟨hn,ho⟩:=Et hk;rw [hn] at ho;exact IE ho ⟨by decide,by decide⟩ ⟨by decide,by decide⟩
namespace TS
structure Ok (m d:Int) (T:TS):Prop where
 r:W8 T.R T.vs
 me:T.R.me=m
 dest:T.R.dest=d
 out:∀ x∈T.out,Ph d T.vs x
section
variable {me dest:Int} {T:TS}
theorem lF(h:T.Ok me dest){to kind:Int}{v:aa}{l:aU}{num:Int}(hx:jC ⟨to,kind,dest,v,l,num⟩=true)(ht:to=255∨∃ y∈T.vs,y.id=to):(T.send to kind v l num).Ok me dest:=by
 refine ⟨h.r,h.me,h.dest,fun x hx'=>?_⟩
 have hx':x∈T.out ++ [⟨to,kind,T.R.dest,v,l,num⟩]:=hx'
 rcases List.mem_append.1 hx' with hx' | hx'
 ·exact h.out x hx'
 ·rw [List.mem_singleton] at hx'
  subst hx';rw [h.dest];exact ⟨hx,rfl,ht⟩
theorem Ok.d64(h:T.Ok me dest):0≤dest∧dest<64:=h.dest▸h.r.dest
theorem Ok.m64(h:T.Ok me dest):0≤me∧me<64:=h.me▸h.r.me
theorem qa(h:T.Ok me dest){to:Int}(ht:to=255∨∃ y∈T.vs,y.id=to):(T.tell to).Ok me dest:=lF h (ET h.d64 h.r.ok) ht
theorem vC(h:T.Ok me dest){to:Int}{l:aU}(hl:dU false l.1 l.2.1 l.2.2 0 0=true)(ht:to=255∨∃ y∈T.vs,y.id=to):(T.clear to l).Ok me dest:=lF h (Aj h.d64 hl) ht
theorem yf(h:T.Ok me dest)(e:Int):(T.err e).Ok me dest:=⟨h.r,h.me,h.dest,h.out⟩
theorem E8(h:T.Ok me dest){v:aa}(hv:dU v.n v.t v.o v.r v.d v.i=true)(hi:v.i=me)(ha:T.R.asked=true→v.n=true)(hm:me≠dest):(T.own v).Ok me dest :=
 ⟨⟨h.r.me,h.r.dest,hi.trans h.me.symm,h.r.self,hv,h.r.rt,ha,h.r.last,fun e=>absurd ((h.me.symm.trans e).trans h.dest) hm⟩,h.me,h.dest,h.out⟩
theorem Ax(h:T.Ok me dest){v:aa}(hv:dU v.n v.t v.o v.r v.d v.i=true)(hi:v.i=me)(hm:me≠dest):((T.own v).ask false).Ok me dest :=
 ⟨⟨h.r.me,h.r.dest,hi.trans h.me.symm,h.r.self,hv,h.r.rt,(fun e=>by cases e),h.r.last,fun e=>absurd ((h.me.symm.trans e).trans h.dest) hm⟩,h.me,h.dest,h.out⟩
theorem K3(h:T.Ok me dest)(hn:T.R.own.n=true)(b:Bool):(T.ask b).Ok me dest :=
 ⟨⟨h.r.me,h.r.dest,h.r.own,h.r.self,h.r.ok,h.r.rt,(fun _=>hn),h.r.last,h.r.home⟩,h.me,h.dest,h.out⟩
theorem xz(h:T.Ok me dest)(b:Bool):(T.nS b).Ok me dest :=
 ⟨⟨h.r.me,h.r.dest,h.r.own,h.r.self,h.r.ok,h.r.rt,h.r.ask,h.r.last,h.r.home⟩,h.me,h.dest,h.out⟩
theorem D9(h:T.Ok me dest){k:Int}(hk:0≤k∧k≤65535):(T.qB k).Ok me dest :=
 ⟨⟨h.r.me,h.r.dest,h.r.own,h.r.self,h.r.ok,h.r.rt,h.r.ask,⟨hk.1,hk.2,fun _=>rfl⟩,h.r.home⟩,h.me,h.dest,h.out⟩
theorem Ok.T4(h:T.Ok me dest)(hn:T.R.own.n=true):me≠dest:=fun e=>by
 have:=h.r.home ((h.me.trans e).trans h.dest.symm)
 have:=(lE.1 this).1
 rw [hn] at this; cases this
theorem Ok.ud(h:T.Ok me dest)(hh:T.home=false):me≠dest:=fun e=>by
 unfold home at hh;rw [h.me,h.dest,e] at hh;simp at hh
theorem uG(h:T.Ok me dest)(hn:T.R.own.n=true):T.fC.Ok me dest:=by
 have hm:=h.T4 hn
 have hok:=AO (me:=T.R.me) (vs:=T.vs)
 have hr:=qi (me:=T.R.me) (vs:=T.vs)
 unfold fC pe;generalize bH T.R.me T.vs=a at *;cases h0:(a.2==Int.ofNat 0) with
 | true =>
   have e:a.2=0:=by simpa using h0
   have h1:=Ax h (hok e) ((hr e).2.2.1.trans h.me) hm
   exact qa h1 (.inl rfl)
 | false =>
 simp only [cond_false];cases h7:(a.2==Int.ofNat 7) with
 | true =>
   simp only [cond_true];cases (!T.R.asked) with
   | true=>exact lF (K3 h hn true) (ur h.d64) (.inl rfl)
   | false=>exact h
 | false=>exact yf h _
theorem lj(h:T.Ok me dest):T.dv.Ok me dest:=by
 unfold dv;cases hc:(T.R.own.n&&(T.R.want&&(!T.R.asked && !T.home))) with
 | true=>exact uG h (by simp only [Bool.and_eq_true] at hc; exact hc.1)
 | false=>exact h
theorem qz{l:aU}{k:Int}(h:∃ y∈T.vs,y.id=k):∃ y∈(T.forget l).vs,y.id=k:=by
 obtain ⟨y,hy,e⟩:=h;exact ⟨_,List.mem_map.2 ⟨y,hy,rfl⟩,(yh _ _ _ _ _).trans e⟩
theorem sE(h:T.Ok me dest)(l:aU):(T.forget l).Ok me dest:=by
 refine ⟨⟨h.r.me,h.r.dest,h.r.own,fun x hx=>?_,h.r.ok,Bb h.r.rt,h.r.ask,h.r.last,h.r.home⟩,h.me,h.dest,fun x hx=>?_⟩
 ·have hx:x∈T.vs.map _:=hx
  obtain ⟨y,hy,rfl⟩:=List.mem_map.1 hx;rw [yh];exact h.r.self y hy
 ·obtain ⟨h1,h2,h3⟩:=h.out x hx
  refine ⟨h1,h2,?_⟩
  rcases h3 with h3 | h3
  ·exact .inl h3
  ·exact .inr (qz h3)
theorem IS{vs:List aa}{y:aa}(hr:aF vs=true){k:Int}(h:∃ x∈vs,x.id=k):∃ x∈cG vs y,x.id=k:=by
 obtain ⟨x,hx,e⟩:=h;by_cases hy:x.id=y.id
 ·exact ⟨y,(nn hr).2 (.inl rfl),hy.symm.trans e⟩
 ·exact ⟨x,(nn hr).2 (.inr ⟨hx,hy⟩),e⟩
theorem yI(h:T.Ok me dest){y:aa}(hy:cU y=true)(hm:y.id≠me):(T.set y).Ok me dest:=by
 refine ⟨⟨h.r.me,h.r.dest,h.r.own,fun x hx=>?_,h.r.ok,yG h.r.rt hy,h.r.ask,h.r.last,h.r.home⟩,h.me,h.dest,fun x hx=>?_⟩
 ·have hx:x∈cG T.vs y:=hx
  rcases (nn h.r.rt).1 hx with rfl | ⟨hx,-⟩
  ·show x.id≠T.R.me
   rw [h.me]; exact hm
  ·exact h.r.self x hx
 ·obtain ⟨h1,h2,h3⟩:=h.out x hx
  refine ⟨h1,h2,?_⟩
  rcases h3 with h3 | h3
  ·exact .inl h3
  ·exact .inr (IS h.r.rt h3)
theorem Hw(h:T.Ok me dest){now:Int}{lost:Bool}(he:(bM T.R.own T.vs now lost).2.2=0):dU (bM T.R.own T.vs now lost).1.n (bM T.R.own T.vs now lost).1.t (bM T.R.own T.vs now lost).1.o (bM T.R.own T.vs now lost).1.r (bM T.R.own T.vs now lost).1.d (bM T.R.own T.vs now lost).1.i=true ∧
  (bM T.R.own T.vs now lost).1.i=me∧((bM T.R.own T.vs now lost).2.1=4→dU false T.ov.1 T.ov.2.1 T.ov.2.2 0 0=true):=by
 obtain ⟨hi,hq⟩:=mY T.R.own T.vs now lost;have h64:=h.m64
 have hown:T.R.own.i=me:=h.r.own.trans h.me
 have hnull:dU (bC T.R.own.i).n (bC T.R.own.i).t (bC T.R.own.i).o (bC T.R.own.i).r (bC T.R.own.i).d (bC T.R.own.i).i=true:=by
  rw [hown]; exact qR h64.1 h64.2
 generalize bM T.R.own T.vs now lost=q at *;cases hi with
 | bad=>exact absurd (show (1:Int)=0 from he) (by decide)
 | stay _=>exact ⟨h.r.ok,hown,fun h=>absurd (show (0:Int)=4 from h) (by decide)⟩
 | alone _ _ _=>exact ⟨hnull,hown,fun h=>absurd (show (6:Int)=4 from h) (by decide)⟩
 | lost top _ _ _ _ ho=>exact ⟨ho,hown,fun h=>absurd (show (1:Int)=4 from h) (by decide)⟩
 | gene top _ _ _ _ ho=>exact ⟨ho,hown,fun h=>absurd (show (5:Int)=4 from h) (by decide)⟩
 | prop top _ _ _ _ ho=>exact ⟨ho,hown,fun h=>absurd (show (2:Int)=4 from h) (by decide)⟩
 | refl top _ _ _ _ _ ho=>exact ⟨ho,hown,fun h=>absurd (show (3:Int)=4 from h) (by decide)⟩
 | dete top _ _ hl _ _ _ =>
   refine ⟨hnull,hown,fun _=>Im h.r.rt ?_⟩
   have:=Jb hl
   unfold ov;cases e:bN (aX T.vs) with
   | nil=>rw [e] at this; cases this
   | cons a b=>exact .head _
theorem zS(h:T.Ok me dest)(now:Int)(lost:Bool):(T.keep now lost).Ok me dest:=by
 unfold keep;cases hh:(T.home||T.R.own.n) with
 | true=>exact h
 | false =>
 simp only [cond_false];obtain ⟨hh,hn⟩:=Bool.or_eq_false_iff.1 hh;have hm:=h.ud hh
 have ha:T.R.asked=false:=by
  cases ha:T.R.asked with
  | false=>rfl
  | true=>rw [h.r.ask ha] at hn; cases hn
 have hc:=Hw h (now:=now) (lost:=lost)
 generalize bM T.R.own T.vs now lost=r at *;unfold qG;cases he:(r.2.2 != Int.ofNat 0) with
 | true=>exact yf h _
 | false =>
 obtain ⟨h1,h2,h3⟩:=hc (by simpa using he)
 simp only [cond_false];cases (r.2.1==Int.ofNat 0) with
 | true=>exact h
 | false =>
 simp only [cond_false];have hT:=qa (E8 h h1 h2 (fun e=>by rw [ha] at e; cases e) hm) (to:=255) (.inl rfl)
 cases h4:(r.2.1==Int.ofNat 4) with
 | true=>exact lj (vC (sE hT _) (h3 (by simpa using h4)) (.inl rfl))
 | false=>exact lj hT
theorem z8(h:T.Ok me dest)(now:Int):(T.nj now).Ok me dest:=by
 unfold nj;cases T.R.own.n with
 | true=>exact lj h
 | false=>exact zS h _ _
theorem Gi(h:T.Ok me dest){y:aa}(hy:cU y=true)(hm:y.id≠me)(now:Int):(T.xw y now).Ok me dest:=by
 have hs:=yI h hy hm
 unfold xw;cases (T.set y).home with
 | true=>exact hs
 | false =>
 simp only [cond_false];cases hn:(T.set y).R.own.n with
 | false=>exact zS hs _ _
 | true =>
 simp only [Bool.not_true,cond_false];cases (T.set y).R.asked with
 | true=>exact uG hs hn
 | false=>exact lj hs
theorem A4(h:T.Ok me dest){ids:List Int}{l:aU}(hl:dU false l.1 l.2.1 l.2.2 0 0=true)(hi:∀ k∈ids,∃ y∈T.vs,y.id=k):(T.oe ids l).Ok me dest:=by
 refine ⟨h.r,h.me,h.dest,fun x hx=>?_⟩
 have hx:x∈T.out++ids.map (uZ T.R.dest l):=hx
 rcases List.mem_append.1 hx with hx | hx
 ·exact h.out x hx
 ·obtain ⟨k,hk,rfl⟩:=List.mem_map.1 hx
  unfold uZ;rw [h.dest];exact ⟨Aj h.d64 hl,rfl,.inr (hi k hk)⟩
theorem vZ{l:aU}{keep:Int}{vs:List aa}{k:Int}(h:k∈bO l keep vs):∃ y∈vs,y.id=k:=by
 unfold bO at h;obtain ⟨y,hy,e⟩:=List.mem_map.1 h;exact ⟨y,(List.mem_filter.1 hy).1,e⟩
theorem Mj(h:T.Ok me dest){ob:aQ}(ho:jC ob=true)(hk:ob.kind=3)(now:Int):(T.yc ob now).Ok me dest:=by
 have hl:=QQ ho hk
 have hf:=sE h ob.l
 unfold yc;cases hc:(!T.home&&(!T.R.own.n&&(bA T.R.own==ob.l))) with
 | true =>
   have hh:T.home=false:=by simp only [Bool.and_eq_true,Bool.not_eq_true'] at hc; exact hc.1
   have hm:=h.ud hh
   have h64:=h.m64
   have hown:T.R.me=me:=h.me
   refine lj (vC (E8 hf ?_ hown (fun _=>rfl) hm) hl (.inl rfl))
   show dU true 0 0 0 0 T.R.me=true
   rw [hown]; exact qR h64.1 h64.2
 | false=>exact z8 (A4 hf hl fun k hk=>qz (vZ hk)) _
theorem qX(h:T.Ok me dest){k:Int}(hk:0≤k∧k≤65535)(hn:T.R.own.n=false):(T.iI k).Ok me dest :=
 lF (D9 h hk) (IF h.d64 hn hk h.r.ok) (.inl rfl)
theorem Ny(h:T.Ok me dest){id:Int}{ob:aQ}(ho:jC ob=true)(hk:ob.kind=4)(hy:cU (aZ id ob.h)=true)(hid:id≠me)(now:Int):(T.opt id ob now).Ok me dest:=by
 unfold opt;cases hc:(T.home||(T.R.heard && !qI T.R.last ob.num)) with
 | true=>exact Gi h hy hid now
 | false =>
 simp only [cond_false];have hh:T.home=false:=(Bool.or_eq_false_iff.1 hc).1
 have hm:=h.ud hh
 have hs:=yI h hy hid
 unfold fresh;cases hz:(cq false (bA ob.h).1 (bA ob.h).2.1 (bA ob.h).2.2 (wrapF .i64 (ob.h.d+Int.ofNat 1)) T.R.me != Int.ofNat 0) with
 | true=>exact yf hs _
 | false =>
   have hz:dU false (bA ob.h).1 (bA ob.h).2.1 (bA ob.h).2.2 (wrapF .i64 (ob.h.d+Int.ofNat 1)) T.R.me=true:=by
     rw [← JI];unfold bne at hz;simpa using hz
   obtain ⟨-,hn2⟩:=QR ho hk;exact qX (Ax hs (v:=Br T.R.me ob) hz h.me hm) hn2 rfl
theorem H7(h:T.Ok me dest){id:Int}{ob:aQ}(ho:jC ob=true)(hid:∃ y∈T.vs,y.id=id)(hi:ob.kind=2∨ob.kind=4→cU (aZ id ob.h)=true)(now:Int):(T.kv id ob now).Ok me dest:=by
 have hne:id≠me:=by
  obtain ⟨y,hy,rfl⟩:=hid;rw [← h.me]; exact h.r.self y hy
 unfold kv;cases h1:(ob.kind==Int.ofNat 1) with
 | true =>
   simp only [cond_true];unfold NA;cases hn:T.R.own.n with
   | true =>
     simp only [cond_true];cases (!T.R.asked) with
     | true=>exact uG h hn
     | false=>exact h
   | false=>exact qa h (.inr hid)
 | false =>
 simp only [cond_false];cases h2:(ob.kind==Int.ofNat 2) with
 | true=>exact Gi h (hi (.inl (by simpa using h2))) hne now
 | false =>
 simp only [cond_false];cases h3:(ob.kind==Int.ofNat 3) with
 | true=>exact Mj h ho (by simpa using h3) now
 | false =>
   have h4:ob.kind=4:=by
     unfold jC at ho;rw [h1,h2,h3] at ho;simp only [cond_false,Bool.and_eq_true] at ho;cases h4:(ob.kind==Int.ofNat 4) with
     | true=>simpa using h4
     | false=>rw [h4] at ho; simp at ho
   exact Ny h ho h4 (hi (.inr h4)) hne now
theorem SZ(h:T.Ok me dest){id:Int}(h1:0≤id∧id<64)(h2:id≠me):(T.up id).Ok me dest:=by
 have hs:=yI h (y:=aZ id (bC id)) (wL (decide_eq_true (by simpa using h1.1)) (by simpa using h1.2)) h2
 have hm:id=255∨∃ y∈(T.set (aZ id (bC id))).vs,y.id=id:=.inr ⟨_,(nn h.r.rt).2 (.inl rfl),rfl⟩
 unfold up;have ht:=qa hs hm
 cases (!T.R.own.n) <;> cases T.R.asked
 ·exact hs
 ·exact lF hs (ur h.d64) hm
 ·exact ht
 ·exact lF ht (ur h.d64) hm
end
end TS
theorem G6{R:aw}{f:Bool}{vs:List aa}(h:iU R vs=true):(eH R f vs).Ok R.me R.dest:=⟨pY.1 h,rfl,rfl,fun x hx=>by cases hx⟩
theorem pM{me dest:Int}{T:TS}(h:T.Ok me dest)(he:(c7 T).e=0):(c7 T).Ok me dest:=by
 unfold c7 at he ⊢;cases hc:(T.e != Int.ofNat 0) with
 | true =>
   rw [hc] at he;have:T.e=0:=he
   rw [this] at hc;exact absurd hc (by decide)
 | false=>exact ⟨h.r,h.me,h.dest,h.out⟩
theorem I1{R:aw}{f:Bool}{vs:List aa}{p:mE}(he:(cp R f vs p).e=0):iU R vs=true∧(cp R f vs p).Ok R.me R.dest:=by
 unfold cp at he ⊢;cases hok:iU R vs with
 | false=>rw [hok] at he; exact bV he (by decide)
 | true =>
 refine ⟨rfl,?_⟩
 rw [hok] at he;simp only [cond_true] at he ⊢;have hR:=pY.1 hok
 have hB:=G6 (f:=f) hok
 unfold l5 at he ⊢;generalize (p.call==Int.ofNat 0)=b0 at he ⊢;cases b0 with
 | true =>
   simp only [cond_true] at he ⊢;unfold Je at he ⊢;cases hc:(!(decide (p.id≥Int.ofNat 0)&&decide (p.id<Int.ofNat 64))||(p.id==R.me)) with
   | true=>rw [hc] at he; exact bV he (by decide)
   | false =>
   rw [hc] at he;simp only [cond_false] at he ⊢;cases hf:(aG vs p.id).isSome with
   | true=>rw [hf] at he; exact bV he (by decide)
   | false =>
   rw [hf] at he;simp only [cond_false] at he ⊢;simp at hc;exact pM (TS.SZ hB (by omega) hc.2) he
 | false =>
 simp only [cond_false] at he ⊢;generalize (p.call==Int.ofNat 1)=b1 at he ⊢;cases b1 with
 | true =>
   simp only [cond_true] at he ⊢;unfold ks at he ⊢;cases ht:eQ p.now with
   | false=>rw [ht] at he; exact bV he (by decide)
   | true =>
   rw [ht] at he;simp only [Bool.not_true,cond_false] at he ⊢;cases hf:fnd vs p.id with
   | false=>rw [hf] at he; exact bV he (by decide)
   | true =>
   rw [hf] at he;refine pM (TS.z8 ?_ _) he
   exact ⟨⟨hR.me,hR.dest,hR.own,fun x hx=>hR.self x (vG hx),hR.ok,yd hR.rt,hR.ask,hR.last,hR.home⟩,rfl,rfl,fun x hx=>by cases hx⟩
 | false =>
 simp only [cond_false] at he ⊢;generalize (p.call==Int.ofNat 2)=b2 at he ⊢;cases b2 with
 | true =>
   simp only [cond_true] at he ⊢;unfold fF at he ⊢;cases ht:eQ p.now with
   | false=>rw [ht] at he; exact bV he (by decide)
   | true =>
   rw [ht] at he;simp only [Bool.not_true,cond_false] at he ⊢;cases hf:(aG vs p.id).isSome with
   | false=>rw [hf] at he; exact bV he (by decide)
   | true =>
   rw [hf] at he;simp only [Bool.not_true,cond_false] at he ⊢;cases hc:(!jC p.ob||((p.ob.dest != R.dest)||((p.ob.kind==Int.ofNat 2||p.ob.kind==Int.ofNat 4)&&(p.ob.h.i != p.id)))) with
   | true=>rw [hc] at he; exact bV he (by decide)
   | false =>
   rw [hc] at he;simp only [cond_false] at he ⊢;obtain ⟨c1,c2⟩:=Bool.or_eq_false_iff.1 hc;obtain ⟨c2,c3⟩:=Bool.or_eq_false_iff.1 c2;have ho:jC p.ob=true:=by simpa using c1
   refine pM (TS.H7 hB ho (lT.1 hf) (fun hk=>?_) p.now) he
   have hi:(p.ob.h.i != p.id)=false:=by
     cases hi:(p.ob.h.i != p.id) with
     | false=>rfl
     | true =>
       rw [hi] at c3;rcases hk with hk | hk <;> rw [hk] at c3 <;> simp at c3
   have:=qS (ob:=p.ob) hR.rt hk hf rfl (by rw [ez,ho]; rfl) hi
   simp only [Bool.and_eq_true] at this;exact this.2
 | false =>
 simp only [cond_false] at he ⊢;generalize (p.call==Int.ofNat 3)=b3 at he ⊢;cases b3 with
 | true=>exact pM (TS.lj (TS.xz hB true)) he
 | false =>
 simp only [cond_false] at he ⊢;generalize (p.call==Int.ofNat 4)=b4 at he ⊢;cases b4 with
 | true=>exact TS.xz hB false
 | false =>
   simp only [cond_false] at he ⊢;unfold lW at he ⊢;cases hc:((R.me != R.dest)||(decide (p.num<Int.ofNat 0)||decide (p.num>Int.ofNat 65535))) with
   | true=>rw [hc] at he; exact bV he (by decide)
   | false =>
     simp at hc;refine TS.qX hB (by omega) ?_
     have:=(lE.1 (hR.home hc.1)).1
     exact this
def du(me:Int)(k:aa)(x:aQ):aa:=bif x.to != Int.ofNat 255 then k else bif x.kind==Int.ofNat 2 then x.h else bif x.kind==Int.ofNat 4 then x.h else bif x.kind==Int.ofNat 3 then bC me else k
theorem Cz(me:Int)(vs:List aa):(bH me vs).1.id=0:=(vh me vs).2
theorem Hv{own:aa}{vs:List aa}{now:Int}{lost:Bool}(h:own.id=0):(bM own vs now lost).1.id=0:=by
 obtain ⟨hi,-⟩:=mY own vs now lost;generalize bM own vs now lost=q at *;cases hi <;> first | rfl | exact h
theorem A0{own:aa}{vs:List aa}{now:Int}{lost:Bool}(h:(bM own vs now lost).2.1=4):(bM own vs now lost).1=bC own.i:=by
 obtain ⟨hi,-⟩:=mY own vs now lost;generalize bM own vs now lost=q at *;cases hi with
 | dete=>rfl
 | bad=>exact absurd (show (0:Int)=4 from h) (by decide)
 | stay=>exact absurd (show (0:Int)=4 from h) (by decide)
 | alone=>exact absurd (show (6:Int)=4 from h) (by decide)
 | lost=>exact absurd (show (1:Int)=4 from h) (by decide)
 | gene=>exact absurd (show (5:Int)=4 from h) (by decide)
 | prop=>exact absurd (show (2:Int)=4 from h) (by decide)
 | refl=>exact absurd (show (3:Int)=4 from h) (by decide)
namespace TS
structure Tl (m:Int) (own0:aa) (T:TS):Prop where
 me:T.R.me=m
 i:T.R.own.i=m
 id:T.R.own.id=0
 last:T.out.foldl (du m) own0=T.R.own
section
variable {me:Int} {own0:aa} {T:TS}
theorem gF(T:TS)(to kind:Int)(v:aa)(l:aU)(num:Int):(T.send to kind v l num).out.foldl (du me) own0=du me (T.out.foldl (du me) own0) ⟨to,kind,T.R.dest,v,l,num⟩:=by
 show (T.out++_).foldl (du me) own0=_
 rw [List.foldl_append]; rfl
theorem xn(h1:T.R.me=me)(h2:T.R.own.i=me)(h3:T.R.own.id=0):(T.tell 255).Tl me own0:=⟨h1,h2,h3,by
 show (T.send 255 2 T.R.own zL 0).out.foldl (du me) own0=_
 rw [gF]; rfl⟩
theorem uU(h:T.Tl me own0)(to:Int):(T.tell to).Tl me own0:=⟨h.me,h.i,h.id,by
 show (T.send to 2 T.R.own zL 0).out.foldl (du me) own0=_
 rw [gF,h.last];unfold du;cases (to != Int.ofNat 255) <;> rfl⟩
theorem K4(h:T.Tl me own0)(to:Int)(b:Bool):((T.ask b).send to 1 zH zL 0).Tl me own0:=⟨h.me,h.i,h.id,by
 rw [gF];show du me (T.out.foldl (du me) own0) _=T.R.own
 rw [h.last];unfold du;cases (to != Int.ofNat 255) <;> rfl⟩
theorem Fh(h:T.Tl me own0)(to:Int):(T.send to 1 zH zL 0).Tl me own0:=⟨h.me,h.i,h.id,by
 rw [gF,h.last];unfold du;cases (to != Int.ofNat 255) <;> rfl⟩
theorem yg(h:T.Tl me own0)(e:Int):(T.err e).Tl me own0:=⟨h.me,h.i,h.id,h.last⟩
theorem yJ(h:T.Tl me own0)(y:aa):(T.set y).Tl me own0:=⟨h.me,h.i,h.id,h.last⟩
theorem Be(h:T.Tl me own0)(l:aU):(T.forget l).Tl me own0:=⟨h.me,h.i,h.id,h.last⟩
theorem xA(h:T.Tl me own0)(b:Bool):(T.nS b).Tl me own0:=⟨h.me,h.i,h.id,h.last⟩
theorem vD(h1:T.R.me=me)(h:T.R.own=bC me)(l:aU):(T.clear 255 l).Tl me own0:=⟨h1,(by show T.R.own.i=me; rw [h]; rfl),(by show T.R.own.id=0; rw [h]; rfl),by
 show (T.send 255 3 zH l 0).out.foldl (du me) own0=T.R.own
 rw [gF,h]; rfl⟩
theorem uH(h:T.Tl me own0):T.fC.Tl me own0:=by
 have hid:=Cz T.R.me T.vs
 have hr:=qi (me:=T.R.me) (vs:=T.vs)
 unfold fC pe;generalize bH T.R.me T.vs=a at *;cases h0:(a.2==Int.ofNat 0) with
 | true =>
   have e:a.2=0:=by simpa using h0
   exact xn (T:=(T.own a.1).ask false) h.me ((hr e).2.2.1.trans h.me) hid
 | false =>
 simp only [cond_false];cases h7:(a.2==Int.ofNat 7) with
 | true =>
   simp only [cond_true];cases (!T.R.asked) with
   | true=>exact K4 h 255 true
   | false=>exact h
 | false=>exact yg h _
theorem lk(h:T.Tl me own0):T.dv.Tl me own0:=by
 unfold dv;cases (T.R.own.n&&(T.R.want&&(!T.R.asked && !T.home))) with
 | true=>exact uH h
 | false=>exact h
theorem Mc{own:aa}{vs:List aa}{now:Int}{lost:Bool}(he:(bM own vs now lost).2.2=0):(bM own vs now lost).1.i=own.i:=by
 obtain ⟨hi,-⟩:=mY own vs now lost;generalize bM own vs now lost=q at *;cases hi <;> first | rfl | exact absurd (show (1:Int)=0 from he) (by decide)
theorem zT(h:T.Tl me own0)(now:Int)(lost:Bool):(T.keep now lost).Tl me own0:=by
 unfold keep;cases (T.home||T.R.own.n) with
 | true=>exact h
 | false =>
 simp only [cond_false];have hid:=Hv (vs:=T.vs) (now:=now) (lost:=lost) h.id
 have hnl:=A0 (own:=T.R.own) (vs:=T.vs) (now:=now) (lost:=lost)
 have hci:=Mc (own:=T.R.own) (vs:=T.vs) (now:=now) (lost:=lost)
 generalize bM T.R.own T.vs now lost=r at *;unfold qG;cases he:(r.2.2 != Int.ofNat 0) with
 | true=>exact yg h _
 | false =>
 have hi:r.1.i=me:=(hci (by simpa using he)).trans h.i
 simp only [cond_false];cases (r.2.1==Int.ofNat 0) with
 | true=>exact h
 | false =>
 simp only [cond_false];cases h4:(r.2.1==Int.ofNat 4) with
 | true =>
   have e:r.1=bC T.R.own.i:=hnl (by simpa using h4)
   rw [h.i] at e;exact lk (vD (T:=(((T.own r.1).tell 255).forget T.ov)) h.me e _)
 | false=>exact lk (xn (T:=T.own r.1) h.me hi hid)
theorem Aa(h:T.Tl me own0)(now:Int):(T.nj now).Tl me own0:=by
 unfold nj;cases T.R.own.n with
 | true=>exact lk h
 | false=>exact zT h _ _
theorem Gj(h:T.Tl me own0)(y:aa)(now:Int):(T.xw y now).Tl me own0:=by
 have hs:=yJ h y
 unfold xw;cases (T.set y).home with
 | true=>exact hs
 | false =>
 simp only [cond_false];cases (T.set y).R.own.n with
 | false=>exact zT hs _ _
 | true =>
 simp only [Bool.not_true,cond_false];cases (T.set y).R.asked with
 | true=>exact uH hs
 | false=>exact lk hs
theorem o4(dest:Int)(l:aU):∀ (ids:List Int) (k:aa),(∀ i∈ids,i≠255)→(ids.map (uZ dest l)).foldl (du me) k=k
 | [],k,_=>rfl
 | i::ids,k,h=>by
   have e:du me k (uZ dest l i)=k:=by
     have:(i != Int.ofNat 255)=true:=by
       have:=h i (.head _)
       simpa [bne] using this
     unfold du uZ;simp only [this,cond_true]
   rw [List.map_cons,List.foldl_cons,e];exact o4 dest l ids k fun j hj=>h j (.tail _ hj)
theorem A5(h:T.Tl me own0){ids:List Int}{l:aU}(hi:∀ i∈ids,i≠255):(T.oe ids l).Tl me own0:=⟨h.me,h.i,h.id,by
 show (T.out++ids.map (uZ T.R.dest l)).foldl (du me) own0=T.R.own
 rw [List.foldl_append,h.last];exact o4 _ _ _ _ hi⟩
theorem Mk(h:T.Tl me own0)(hr:aF T.vs=true)(ob:aQ)(now:Int):(T.yc ob now).Tl me own0:=by
 have hf:=Be h ob.l
 unfold yc;cases (!T.home&&(!T.R.own.n&&(bA T.R.own==ob.l))) with
 | true=>exact lk (vD (T:=((T.forget ob.l).own (bC T.R.me))) h.me (by show bC T.R.me=_; rw [h.me]) _)
 | false =>
   refine Aa (A5 hf fun i hi=>?_) _
   obtain ⟨y,hy,rfl⟩:=TS.vZ hi;have:=oB ((dw.1 hr).1 y hy)
   omega
theorem qY(h1:T.R.me=me)(h2:T.R.own.i=me)(h3:T.R.own.id=0)(k:Int):(T.iI k).Tl me own0:=⟨h1,h2,h3,by
 show ((T.qB k).send 255 4 T.R.own zL k).out.foldl (du me) own0=_
 rw [gF]; rfl⟩
theorem Nz(h:T.Tl me own0)(id:Int)(ob:aQ)(now:Int):(T.opt id ob now).Tl me own0:=by
 unfold opt;cases (T.home||(T.R.heard && !qI T.R.last ob.num)) with
 | true=>exact Gj h _ now
 | false =>
 simp only [cond_false];unfold fresh;cases (cq false (bA ob.h).1 (bA ob.h).2.1 (bA ob.h).2.2 (wrapF .i64 (ob.h.d+Int.ofNat 1)) T.R.me != Int.ofNat 0) with
 | true=>exact yg (yJ h _) _
 | false=>exact qY (T:=((T.set (aZ id ob.h)).own (Br T.R.me ob)).ask false) h.me h.me rfl _
theorem H8(h:T.Tl me own0)(hr:aF T.vs=true)(id:Int)(ob:aQ)(now:Int):(T.kv id ob now).Tl me own0:=by
 unfold kv;cases (ob.kind==Int.ofNat 1) with
 | true =>
   simp only [cond_true];unfold NA;cases T.R.own.n with
   | true =>
     simp only [cond_true];cases (!T.R.asked) with
     | true=>exact uH h
     | false=>exact h
   | false=>exact uU h _
 | false =>
 simp only [cond_false];cases (ob.kind==Int.ofNat 2) with
 | true=>exact Gj h _ _
 | false =>
 simp only [cond_false];cases (ob.kind==Int.ofNat 3) with
 | true=>exact Mk h hr _ _
 | false=>exact Nz h _ _ _
theorem S0(h:T.Tl me own0)(id:Int):(T.up id).Tl me own0:=by
 have hs:=yJ h (aZ id (bC id))
 unfold up;cases (!T.R.own.n) <;> cases T.R.asked
 ·exact hs
 ·exact Fh hs _
 ·exact uU hs _
 ·exact Fh (uU hs _) _
end
end TS
theorem pN{me:Int}{own0:aa}{T:TS}(h:T.Tl me own0)(he:(c7 T).e=0):(c7 T).Tl me own0:=by
 unfold c7 at he ⊢;cases hc:(T.e != Int.ofNat 0) with
 | true =>
   rw [hc] at he;have:T.e=0:=he
   rw [this] at hc;exact absurd hc (by decide)
 | false=>exact ⟨h.me,h.i,h.id,h.last⟩
theorem rE{R:aw}{f:Bool}{vs:List aa}{p:mE}(h0:R.own.id=0)(he:(cp R f vs p).e=0):(cp R f vs p).Tl R.me R.own:=by
 unfold cp at he ⊢;cases hok:iU R vs with
 | false=>rw [hok] at he; exact bV he (by decide)
 | true =>
 rw [hok] at he;simp only [cond_true] at he ⊢;have hR:=pY.1 hok
 have hB:(eH R f vs).Tl R.me R.own:=⟨rfl,hR.own,h0,rfl⟩
 unfold l5 at he ⊢;generalize (p.call==Int.ofNat 0)=b0 at he ⊢;cases b0 with
 | true =>
   simp only [cond_true] at he ⊢;unfold Je at he ⊢;cases hc:(!(decide (p.id≥Int.ofNat 0)&&decide (p.id<Int.ofNat 64))||(p.id==R.me)) with
   | true=>rw [hc] at he; exact bV he (by decide)
   | false =>
   rw [hc] at he;simp only [cond_false] at he ⊢;cases hf:(aG vs p.id).isSome with
   | true=>rw [hf] at he; exact bV he (by decide)
   | false =>
   rw [hf] at he;exact pN (TS.S0 hB _) he
 | false =>
 simp only [cond_false] at he ⊢;generalize (p.call==Int.ofNat 1)=b1 at he ⊢;cases b1 with
 | true =>
   simp only [cond_true] at he ⊢;unfold ks at he ⊢;cases ht:eQ p.now with
   | false=>rw [ht] at he; exact bV he (by decide)
   | true =>
   rw [ht] at he;simp only [Bool.not_true,cond_false] at he ⊢;cases hf:fnd vs p.id with
   | false=>rw [hf] at he; exact bV he (by decide)
   | true =>
   rw [hf] at he;exact pN (TS.Aa (T:=⟨R,dy vs p.id,true,23,[],0⟩) ⟨rfl,hR.own,h0,rfl⟩ _) he
 | false =>
 simp only [cond_false] at he ⊢;generalize (p.call==Int.ofNat 2)=b2 at he ⊢;cases b2 with
 | true =>
   simp only [cond_true] at he ⊢;unfold fF at he ⊢;cases ht:eQ p.now with
   | false=>rw [ht] at he; exact bV he (by decide)
   | true =>
   rw [ht] at he;simp only [Bool.not_true,cond_false] at he ⊢;cases hf:(aG vs p.id).isSome with
   | false=>rw [hf] at he; exact bV he (by decide)
   | true =>
   rw [hf] at he;simp only [Bool.not_true,cond_false] at he ⊢;cases hc:(!jC p.ob||((p.ob.dest != R.dest)||((p.ob.kind==Int.ofNat 2||p.ob.kind==Int.ofNat 4)&&(p.ob.h.i != p.id)))) with
   | true=>rw [hc] at he; exact bV he (by decide)
   | false =>
   rw [hc] at he;exact pN (TS.H8 hB hR.rt _ _ _) he
 | false =>
 simp only [cond_false] at he ⊢;generalize (p.call==Int.ofNat 3)=b3 at he ⊢;cases b3 with
 | true=>exact pN (TS.lk (TS.xA hB true)) he
 | false =>
 simp only [cond_false] at he ⊢;generalize (p.call==Int.ofNat 4)=b4 at he ⊢;cases b4 with
 | true=>exact TS.xA hB false
 | false =>
   simp only [cond_false] at he ⊢;unfold lW at he ⊢;cases hc:((R.me != R.dest)||(decide (p.num<Int.ofNat 0)||decide (p.num>Int.ofNat 65535))) with
   | true=>rw [hc] at he; exact bV he (by decide)
   | false=>exact TS.qY (T:=eH R f vs) rfl hR.own h0 _
namespace TS
def Fl(T:TS):Prop:=T.f=false→T.vs = []
section
variable {T:TS}
theorem uF(h:T.Fl):T.fC.Fl:=by
 unfold fC pe;generalize bH T.R.me T.vs=a;cases (a.2==Int.ofNat 0) with
 | true=>exact h
 | false =>
 simp only [cond_false];cases (a.2==Int.ofNat 7) with
 | true =>
   simp only [cond_true];cases (!T.R.asked) with
   | true=>exact h
   | false=>exact h
 | false=>exact h
theorem lh(h:T.Fl):T.dv.Fl:=by
 unfold dv;cases (T.R.own.n&&(T.R.want&&(!T.R.asked && !T.home))) with
 | true=>exact uF h
 | false=>exact h
theorem og(h:T.Fl)(l:aU):(T.forget l).Fl:=fun e=>by
 have:T.vs = []:=h e
 show T.vs.map _ = []
 rw [this]; rfl
theorem uM(T:TS)(y:aa):(T.set y).Fl:=fun e=>by cases e
theorem zQ(h:T.Fl)(now:Int)(lost:Bool):(T.keep now lost).Fl:=by
 unfold keep;cases (T.home||T.R.own.n) with
 | true=>exact h
 | false =>
 simp only [cond_false];generalize bM T.R.own T.vs now lost=r;unfold qG;cases (r.2.2 != Int.ofNat 0) with
 | true=>exact h
 | false =>
 simp only [cond_false];cases (r.2.1==Int.ofNat 0) with
 | true=>exact h
 | false =>
 simp only [cond_false];cases (r.2.1==Int.ofNat 4) with
 | true=>exact lh (og (T:=(T.own r.1).tell 255) h _)
 | false=>exact lh (T:=(T.own r.1).tell 255) h
theorem z6(h:T.Fl)(now:Int):(T.nj now).Fl:=by
 unfold nj;cases T.R.own.n with
 | true=>exact lh h
 | false=>exact zQ h _ _
theorem Gh(T:TS)(y:aa)(now:Int):(T.xw y now).Fl:=by
 have hs:=uM T y
 unfold xw;cases (T.set y).home with
 | true=>exact hs
 | false =>
 simp only [cond_false];cases (T.set y).R.own.n with
 | false=>exact zQ hs _ _
 | true =>
 simp only [Bool.not_true,cond_false];cases (T.set y).R.asked with
 | true=>exact uF hs
 | false=>exact lh hs
theorem Mi(h:T.Fl)(ob:aQ)(now:Int):(T.yc ob now).Fl:=by
 unfold yc;cases (!T.home&&(!T.R.own.n&&(bA T.R.own==ob.l))) with
 | true=>exact lh (T:=((T.forget ob.l).own (bC T.R.me)).clear 255 ob.l) (og h _)
 | false=>exact z6 (T:=(T.forget ob.l).oe (bO ob.l T.R.dest T.vs) ob.l) (og h _) _
theorem H6(h:T.Fl)(id:Int)(ob:aQ)(now:Int):(T.kv id ob now).Fl:=by
 unfold kv;cases (ob.kind==Int.ofNat 1) with
 | true =>
   simp only [cond_true];unfold NA;cases T.R.own.n with
   | true =>
     simp only [cond_true];cases (!T.R.asked) with
     | true=>exact uF h
     | false=>exact h
   | false=>exact h
 | false =>
 simp only [cond_false];cases (ob.kind==Int.ofNat 2) with
 | true=>exact Gh _ _ _
 | false =>
 simp only [cond_false];cases (ob.kind==Int.ofNat 3) with
 | true=>exact Mi h _ _
 | false =>
   simp only [cond_false];unfold opt;cases (T.home||(T.R.heard && !qI T.R.last ob.num)) with
   | true=>exact Gh _ _ _
   | false =>
     simp only [cond_false];unfold fresh;cases (cq false (bA ob.h).1 (bA ob.h).2.1 (bA ob.h).2.2 (wrapF .i64 (ob.h.d+Int.ofNat 1)) T.R.me != Int.ofNat 0) with
     | true=>exact uM T _
     | false=>exact uM T _
theorem SV(T:TS)(id:Int):(T.up id).Fl:=by
 have hs:=uM T (aZ id (bC id))
 unfold up;cases (!T.R.own.n) <;> cases T.R.asked <;> exact hs
end
end TS
theorem pK{T:TS}(h:T.Fl):(c7 T).Fl:=by
 unfold c7;cases (T.e != Int.ofNat 0) with
 | true=>exact fun _=>rfl
 | false=>exact h
theorem gw(e:Int):(ku e).Fl:=fun _=>rfl
theorem G5{R:aw}{f:Bool}{vs:List aa}(h:f=false→vs = []):(eH R f vs).Fl:=h
theorem I0{R:aw}{f:Bool}{vs:List aa}{p:mE}(h:f=false→vs = []):(cp R f vs p).Fl:=by
 unfold cp;cases iU R vs with
 | false=>exact gw _
 | true =>
 simp only [cond_true];unfold l5;generalize (p.call==Int.ofNat 0)=b0;cases b0 with
 | true =>
   simp only [cond_true];unfold Je;generalize (!(decide (p.id≥Int.ofNat 0)&&decide (p.id<Int.ofNat 64))||(p.id==R.me))=b
   cases b with
   | true=>exact gw _
   | false =>
   simp only [cond_false];cases (aG vs p.id).isSome with
   | true=>exact gw _
   | false=>exact pK (TS.SV _ _)
 | false =>
 simp only [cond_false];generalize (p.call==Int.ofNat 1)=b1;cases b1 with
 | true =>
   simp only [cond_true];unfold ks;cases eQ p.now with
   | false=>exact gw _
   | true =>
   simp only [Bool.not_true,cond_false];cases fnd vs p.id with
   | false=>exact gw _
   | true=>exact pK (TS.z6 (fun e=>by cases e) _)
 | false =>
 simp only [cond_false];generalize (p.call==Int.ofNat 2)=b2;cases b2 with
 | true =>
   simp only [cond_true];unfold fF;cases eQ p.now with
   | false=>exact gw _
   | true =>
   simp only [Bool.not_true,cond_false];cases (aG vs p.id).isSome with
   | false=>exact gw _
   | true =>
   simp only [Bool.not_true,cond_false];generalize (!jC p.ob||((p.ob.dest != R.dest)||((p.ob.kind==Int.ofNat 2||p.ob.kind==Int.ofNat 4)&&(p.ob.h.i != p.id))))=b
   cases b with
   | true=>exact gw _
   | false=>exact pK (TS.H6 (G5 h) _ _ _)
 | false =>
 simp only [cond_false];generalize (p.call==Int.ofNat 3)=b3;cases b3 with
 | true=>exact pK (TS.lh (T:=(eH R f vs).nS true) h)
 | false =>
 simp only [cond_false];generalize (p.call==Int.ofNat 4)=b4;cases b4 with
 | true=>exact h
 | false =>
   simp only [cond_false];unfold lW;generalize ((R.me != R.dest)||(decide (p.num<Int.ofNat 0)||decide (p.num>Int.ofNat 65535)))=b
   cases b with
   | true=>exact gw _
   | false=>exact h
def KN(T:TS):Prop:=T.e≠0→T=ku T.e
theorem kU(T:TS):KN (c7 T):=by
 unfold c7;cases (T.e != Int.ofNat 0) with
 | true=>exact fun _=>rfl
 | false=>exact fun h=>absurd rfl h
theorem eA(e:Int):KN (ku e):=fun _=>rfl
theorem BJ(R:aw)(f:Bool)(vs:List aa)(p:mE):KN (cp R f vs p):=by
 unfold cp;cases iU R vs with
 | false=>exact eA _
 | true =>
 simp only [cond_true];unfold l5;generalize (p.call==Int.ofNat 0)=b0;cases b0 with
 | true =>
   simp only [cond_true];unfold Je;generalize (!(decide (p.id≥Int.ofNat 0)&&decide (p.id<Int.ofNat 64))||(p.id==R.me))=b
   cases b with
   | true=>exact eA _
   | false =>
   simp only [cond_false];cases (aG vs p.id).isSome with
   | true=>exact eA _
   | false=>exact kU _
 | false =>
 simp only [cond_false];generalize (p.call==Int.ofNat 1)=b1;cases b1 with
 | true =>
   simp only [cond_true];unfold ks;cases eQ p.now with
   | false=>exact eA _
   | true =>
   simp only [Bool.not_true,cond_false];cases fnd vs p.id with
   | false=>exact eA _
   | true=>exact kU _
 | false =>
 simp only [cond_false];generalize (p.call==Int.ofNat 2)=b2;cases b2 with
 | true =>
   simp only [cond_true];unfold fF;cases eQ p.now with
   | false=>exact eA _
   | true =>
   simp only [Bool.not_true,cond_false];cases (aG vs p.id).isSome with
   | false=>exact eA _
   | true =>
   simp only [Bool.not_true,cond_false];generalize (!jC p.ob||((p.ob.dest != R.dest)||((p.ob.kind==Int.ofNat 2||p.ob.kind==Int.ofNat 4)&&(p.ob.h.i != p.id))))=b
   cases b with
   | true=>exact eA _
   | false=>exact kU _
 | false =>
 simp only [cond_false];generalize (p.call==Int.ofNat 3)=b3;cases b3 with
 | true=>exact kU _
 | false =>
 simp only [cond_false];generalize (p.call==Int.ofNat 4)=b4;cases b4 with
 | true=>exact fun h=>absurd rfl h
 | false =>
   simp only [cond_false];unfold lW;generalize ((R.me != R.dest)||(decide (p.num<Int.ofNat 0)||decide (p.num>Int.ofNat 65535)))=b
   cases b with
   | true=>exact eA _
   | false=>exact fun h=>absurd rfl h
set_option maxHeartbeats 4000000
noncomputable def TH:Ext:=fv (cS Tryz.prog [(19,gAw20),(24,gOC)]) [(15,Cp),(22,j4),(25,nV)]
theorem xH:ExtOk Tryz.prog TH:=bE (aT (.cons yn (.cons Qc .nil))) (.cons MP (.cons PZ (.cons Eb .nil)))
noncomputable def DN:Code:=(Tryz.f5.body).getD .skip
theorem Lu:Tryz.f5.body=some DN:=by kernel_rfl
theorem UW:Tryz.f5.ntmps=126:=by kernel_rfl
theorem Ye:codeSafe Tryz.prog 126 DN=true:=by kernel_rfl
noncomputable def Is:Code:=pB (pR (pL (pR (pR (pR (pR (DN)))))))
noncomputable def M7:Code:=pU Is
theorem It:Is = .loop M7:=by kernel_rfl
theorem SP:codeSafe Tryz.prog 126 M7=true:=by kernel_rfl
theorem TO(f:Bool)(o:ae)(vs:List aa)(c:Nat)(R:aw)(p:mE)(T:TS)(W:bg)(X:eE)(Q:Value→List ae→List Nat→List ae→Prop):let v0:Value:=.agg #[.bool T.R.own.n,Iv T.R.own.t,Iv T.R.own.o,Iv T.R.own.r,Iv T.R.own.d,Iv T.R.own.i];let v1:Value:=.tuple #[.agg #[Iv T.R.me,Iv T.R.dest,.bool T.R.own.n,Iv T.R.own.t,Iv T.R.own.o,Iv T.R.own.r,Iv T.R.own.d,Iv T.R.own.i,vS T.f 4 T.vs.length T.c,.bool T.R.asked,.bool T.R.want,.bool T.R.heard,Iv T.R.last],vS (oF T.out) 5 T.out.length 40,Iv T.e];let b2:ae:=(bv (oF T.out) (aI (T.out.flatMap oc)));let b3:ae:=.cells 26 (dO R (vS f 0 vs.length c)) false;let b4:ae:=.cells 26 (dO T.R (vS T.f 1 T.vs.length T.c)) false;let v5:Value:=.agg #[Iv R.me,Iv R.dest,.bool R.own.n,Iv R.own.t,Iv R.own.o,Iv R.own.r,Iv R.own.d,Iv R.own.i,vS f 0 vs.length c,.bool R.asked,.bool R.want,.bool R.heard,Iv R.last];let b6:ae:=(bv T.f (LtA.ab T.vs));(((decide ((Int.ofNat (kk f vs.length))>(Int.ofNat 80)))=true→Q (.bool true) [] [] [])∧((decide ((Int.ofNat (kk f vs.length))>(Int.ofNat 80)))=false→HT (Cp [v5,.agg #[Iv p.call,Iv p.id,Iv p.ob.kind,Iv p.ob.dest,.bool p.ob.h.n,Iv p.ob.h.t,Iv p.ob.h.o,Iv p.ob.h.r,Iv p.ob.h.d,Iv p.ob.h.i,Iv p.ob.l.1,Iv p.ob.l.2.1,Iv p.ob.l.2.2,Iv p.ob.num,Iv p.now,Iv p.num]]) (heapOf [o,.dead,b3,.cells 32 [Iv p.call,Iv p.id,Iv p.ob.kind,Iv p.ob.dest,.bool p.ob.h.n,Iv p.ob.h.t,Iv p.ob.h.o,Iv p.ob.h.r,Iv p.ob.h.d,Iv p.ob.h.i,Iv p.ob.l.1,Iv p.ob.l.2.1,Iv p.ob.l.2.2,Iv p.ob.num,Iv p.now,Iv p.num] false] aE) (v1) [b6,b2,.dead]∧(((T.e != (Int.ofNat 0))=true→(((Int.ofNat (kk (oF T.out) T.out.length))==(Int.ofNat 0))=true→Q (.bool ((Int.ofNat (kk T.f T.vs.length))==(Int.ofNat 0))) [] [] [])∧(((Int.ofNat (kk (oF T.out) T.out.length))==(Int.ofNat 0))=false→Q (.bool false) [] [] []))∧((T.e != (Int.ofNat 0))=false→gp 3 [o,b6,b2,b3,b4]∧(∀ g,bj Tryz.prog 126 W 0 X Is (aq 126 g [(2,pb 3 0),(5,pb 4 0),(6,vS (oF T.out) 2 T.out.length 40),(8,iN 0)] [o,b6,b2,b3,b4]) (LQ (fun (_:Unit) g=>(.exit 0,aq 126 g [(2,pb 3 0),(5,pb 4 0)] [o,b6,b2,b3,b4])) (fun (_:Unit)=>True)))∧(∀ (_:Unit) (g:Nat→Value),True→HT (j4 [v5]) (heapOf [o,b6,b2,b3,b4,.dead] aE) (iN 0) [.dead]∧(HT (j4 [.agg #[Iv T.R.me,Iv T.R.dest,.bool T.R.own.n,Iv T.R.own.t,Iv T.R.own.o,Iv T.R.own.r,Iv T.R.own.d,Iv T.R.own.i,vS T.f 1 T.vs.length T.c,.bool T.R.asked,.bool T.R.want,.bool T.R.heard,Iv T.R.last]]) (heapOf [o,b6,b2,b3,b4,.dead,.dead] aE) (iN 0) [.dead]∧(((T.R.me==R.me)=true→((T.R.dest==R.dest)=true→((R.me != R.dest)=true→Q (.bool true) [] [] [])∧((R.me != R.dest)=false→(fstV ((aBin Tryz.prog .eql 23 (v0) (.agg #[.bool false,iN 0,iN 0,iN 0,iN 0,Iv R.me])).map fun v=>(v,none)):OV)=some (.bool (cL T.R.own (⟨0,false,(Int.ofNat 0),(Int.ofNat 0),(Int.ofNat 0),(Int.ofNat 0),R.me⟩:aa)))∧((cL T.R.own (⟨0,false,(Int.ofNat 0),(Int.ofNat 0),(Int.ofNat 0),(Int.ofNat 0),R.me⟩:aa))=true→(some (v0):OV)=some (v0)∧(Q (.bool (!T.R.asked)) [] [] []))∧((cL T.R.own (⟨0,false,(Int.ofNat 0),(Int.ofNat 0),(Int.ofNat 0),(Int.ofNat 0),R.me⟩:aa))=false→(some (v0):OV)=some (v0)∧(Q (.bool false) [] [] []))))∧((T.R.dest==R.dest)=false→Q (.bool false) [] [] []))∧((T.R.me==R.me)=false→Q (.bool false) [] [] []))))))))=WF Tryz.prog TH Tryz.f5 126 W 0 X 300 DN ⟨tmsOf [db R (vS f 0 vs.length c),sh p] 0 .leaf,heapOf [o,.dead] aE,[]⟩ (.b 6 (.stop 0 [] []) (.h 9 (v1) [b6,b2,.dead] (.b 19 (.b 24 (.stop 0 [] []) (.stop 0 [] [])) (.l 21 3 [0,4,5,2,7] [2,5,6,8] Unit (fun (_:Unit) g=>(.exit 0,aq 126 g [(2,pb 3 0),(5,pb 4 0)] [o,b6,b2,b3,b4])) (fun (_:Unit)=>True) (.h 24 (iN 0) [.dead] (.h 29 (iN 0) [.dead] (.b 37 (.b 44 (.b 51 (.stop 0 [] []) (.w 62 (cL T.R.own (⟨0,false,(Int.ofNat 0),(Int.ofNat 0),(Int.ofNat 0),(Int.ofNat 0),R.me⟩:aa)) (.stop 0 [] []) (.stop 0 [] []))) (.stop 0 [] [])) (.stop 0 [] [])))))))) Q:=by cases f <;> (rcases T with ⟨_,_,fT,_,oT,_⟩; cases fT <;> cases oT) <;> (intros;kernel_rfl)
theorem Jv(f fo:Bool)(o:ae)(vs:List aa)(us:List aQ)(c m i:Nat)(R:aw)(p:mE)(T:TS)(x:aQ)(y:aa)(th:Bool)(g:Nat→Value)(Q:Exit→St→Prop):let b0:ae:=.cells 26 (dO T.R (vS T.f 1 T.vs.length T.c)) false;let b1:ae:=.cells 26 (dO R (vS f 0 vs.length c)) false;let b2:ae:=(bv T.f (LtA.ab T.vs));let v3:Value:=.agg #[Iv x.kind,Iv x.dest,.bool x.h.n,Iv x.h.t,Iv x.h.o,Iv x.h.r,Iv x.h.d,Iv x.h.i,Iv x.l.1,Iv x.l.2.1,Iv x.l.2.2,Iv x.num];let h4:Hp:=heapOf [o,b2,(bv fo (cr us)),b1,b0,.dead] aE;(((decide ((Int.ofNat i)<(Int.ofNat (kk fo m))))=true→(fstV ((aIndexAddr Tryz.prog 34 (vS fo 2 m 40) (iN i)).map fun v=>(v,none)):OV)=some (pb 2 (i*13))∧((aLoad Tryz.prog (h4).get 30 (pb 2 ((i*13)+1)):OV)=some (v3)∧((some (.bool ((gk x) != (Int.ofNat 0))):OV)=some (.bool false)∧((fstV ((aIndexAddr Tryz.prog 34 (vS fo 2 m 40) (iN i)).map fun v=>(v,none)):OV)=some (pb 2 (i*13))∧((aLoad Tryz.prog (h4).get 3 (pb 2 (((i*13)+1)+1)):OV)=some (Iv x.dest)∧((some (.bool (x.dest != R.dest)):OV)=some (.bool false)∧((fstV ((aIndexAddr Tryz.prog 34 (vS fo 2 m 40) (iN i)).map fun v=>(v,none)):OV)=some (pb 2 (i*13))∧((aLoad Tryz.prog (h4).get 3 (pb 2 (i*13)):OV)=some (Iv x.to)∧(HT (nV [vS T.f 1 T.vs.length T.c,Iv x.to]) (h4) (.tuple #[cx y,.bool th]) [.dead]∧(((!th)=true→(fstV ((aIndexAddr Tryz.prog 34 (vS fo 2 m 40) (iN i)).map fun v=>(v,none)):OV)=some (pb 2 (i*13))∧((aLoad Tryz.prog (heapOf [o,b2,(bv fo (cr us)),b1,b0,.dead,.dead,.cells 23 [.bool y.n,Iv y.t,Iv y.o,Iv y.r,Iv y.d,Iv y.i] false] aE).get 3 (pb 2 (i*13)):OV)=some (Iv x.to)∧(((x.to != (Int.ofNat 255))=true→∀ g,Q .ret (aq 126 g [(4,.bool false)] []))∧((x.to != (Int.ofNat 255))=false→(some (Iv (wrapF .i64 (Int.ofNat i+Int.ofNat 1))):OV)=some (iN (i+1))∧(gp 3 [o,b2,(bv fo (cr us)),b1,b0]∧∀ g,Q .normal (aq 126 g [(2,pb 3 0),(5,pb 4 0),(6,vS fo 2 m 40),(8,iN (i+1))] [o,b2,(bv fo (cr us)),b1,b0]))))))∧((!th)=false→(some (Iv (wrapF .i64 (Int.ofNat i+Int.ofNat 1))):OV)=some (iN (i+1))∧(gp 3 [o,b2,(bv fo (cr us)),b1,b0]∧∀ g,Q .normal (aq 126 g [(2,pb 3 0),(5,pb 4 0),(6,vS fo 2 m 40),(8,iN (i+1))] [o,b2,(bv fo (cr us)),b1,b0])))))))))))))∧((decide ((Int.ofNat i)<(Int.ofNat (kk fo m))))=false→gp 3 [o,b2,(bv fo (cr us)),b1,b0]∧∀ g,Q (.exit 0) (aq 126 g [(2,pb 3 0),(5,pb 4 0)] [o,b2,(bv fo (cr us)),b1,b0])))=RT Tryz.prog TH 126 0 60 M7 (aq 126 g [(2,pb 3 0),(5,pb 4 0),(6,vS fo 2 m 40),(8,iN i)] [o,b2,(bv fo (cr us)),b1,b0]) (.b 3 (.v 6 (pb 2 (i*13)) (.v 8 (v3) (.v 10 (.bool false) (.v 14 (pb 2 (i*13)) (.v 17 (Iv x.dest) (.v 20 (.bool false) (.v 26 (pb 2 (i*13)) (.v 28 (Iv x.to) (.h 29 (.tuple #[cx y,.bool th]) [.dead] (.b 37 (.v 41 (pb 2 (i*13)) (.v 43 (Iv x.to) (.b 44 (.stop 0 [] [4]) (.v 47 (iN (i+1)) (.stop 3 [0,1,2,3,4] [2,5,6,8]))))) (.v 41 (iN (i+1)) (.stop 3 [0,1,2,3,4] [2,5,6,8])))))))))))) (.stop 3 [0,1,2,3,4] [2,5])) Q:=by cases f <;> cases fo <;> (rcases T with ⟨_,_,fT,_,_,_⟩; cases fT) <;> (intros;kernel_rfl)
theorem K1:tagg Tryz.prog 30=some true:=by kernel_rfl
theorem IT:bZ Tryz.prog 30=some 12:=by kernel_rfl
theorem Nx{hp:Hp}{b:Nat}{us:List aQ}{i:Nat}{x:aQ}(hg:hp.get b=some (cr us))(h:us[i]? = some x):aLoad Tryz.prog hp.get 30 (pb b (i*13+1))=some (.agg (o9 x).toArray):=EU K1 IT 1 hg h (by decide) rfl
theorem Ng(f:Bool)(o:ae)(vs:List aa)(c:Nat)(R:aw)(p:mE)(T:TS)(ho:aB o=true)(hl:T.out.length<1000000)(hF:T.Fl)(hvs:T.vs.length<1000000)(hO:∀ x∈T.out,Ph R.dest T.vs x)(W:bg)(X:eE)(g:Nat→Value) :
  bj Tryz.prog 126 W 0 X Is (aq 126 g [(2,pb 3 0),(5,pb 4 0),(6,vS (oF T.out) 2 T.out.length 40),(8,iN (0))] [o,(bv T.f (LtA.ab T.vs)),(bv (oF T.out) (cr T.out)),.cells 26 (dO R (vS f 0 vs.length c)) false,.cells 26 (dO T.R (vS T.f 1 T.vs.length T.c)) false]) (LQ (fun (_:Unit) g=>(.exit 0,aq 126 g [(2,pb 3 0),(5,pb 4 0)] [o,(bv T.f (LtA.ab T.vs)),(bv (oF T.out) (aI (T.out.flatMap oc))),.cells 26 (dO R (vS f 0 vs.length c)) false,.cells 26 (dO T.R (vS T.f 1 T.vs.length T.c)) false])) (fun (_:Unit)=>True)):=by
 rw [It];have hkk:=yq T.out
 refine bj.fold (vs:=T.out) (fun (_:Unit) _=>()) () (fun _ i g=>(aq 126 g [(2,pb 3 0),(5,pb 4 0),(6,vS (oF T.out) 2 T.out.length 40),(8,iN (i))] [o,(bv T.f (LtA.ab T.vs)),(bv (oF T.out) (cr T.out)),.cells 26 (dO R (vS f 0 vs.length c)) false,.cells 26 (dO T.R (vS T.f 1 T.vs.length T.c)) false])) (fun k g hk=>?_) (fun i x k g hx hlt hk=>?_) g
 ·refine bj.oG xH follows SP (Jv f (oF T.out) o vs T.out c T.out.length T.out.length R p T ⟨0,0,0,zH,zL,0⟩ zH false g _) ?_
  refine ⟨fun h_3=>Bool.noConfusion (h_3.symm.trans (sJ hkk)),fun h_3=>⟨j5 ho (aj (LtA.ah _)) (aj (bp _)),fun g=>?_⟩⟩
  exact ⟨by simp,(),g,trivial,rfl,rfl⟩
 ·have hfo:oF T.out=true:=by cases h:T.out with
   | nil=>rw [h] at hlt; simp at hlt
   | cons=>rfl
  have hw:(some (Value.int .i64 (wrapF .i64 (Int.ofNat i+Int.ofNat 1))))=some (iN (i+1)):=bq (by omega)
  obtain ⟨ox1,ox2,ox3⟩:=hO x (List.mem_iff_getElem?.2 ⟨i,hx⟩);have hx1:(gk x != Int.ofNat 0)=false:=by rw [ez,ox1]; rfl
  have hx2:(x.dest != R.dest)=false:=by rw [ox2]; simp
  have hx3:(!(aG T.vs x.to).isSome)=true→(x.to != Int.ofNat 255)=false:=fun hf=>by
    rcases ox3 with e | e
    ·rw [e]; rfl
    ·rw [lT.2 e] at hf; cases hf
  have hget:∀ {hp:Hp},hp.get 1=some (bv T.f (LtA.ab T.vs))→nV [vS T.f 1 T.vs.length T.c,.int .i64 x.to] hp=some (.tuple #[cx ((aG T.vs x.to).getD (zeroV 0)),.bool (aG T.vs x.to).isSome],heapOf [.dead] hp):=fun hg=>fy (nN hg hF).tq hvs
  rw [hfo] at hkk ⊢;refine bj.oG xH follows SP (Jv f true o vs T.out c T.out.length i R p T x ((aG T.vs x.to).getD (zeroV 0)) (aG T.vs x.to).isSome g _) ?_
  refine ⟨fun h_3=>⟨se hlt,Nx (bl rfl) hx,aS hx1,se hlt,Ak 2 (bl rfl) hx (by decide) rfl,aS hx2,se hlt,uu (bl rfl) hx,hget (bl rfl),fun h_37=>⟨se hlt,uu (bl rfl) hx,fun h_44=>Bool.noConfusion (h_44.symm.trans (hx3 ‹_›)),fun h_44=>⟨hw,j5 ho (aj (LtA.ah _)) (aj (bp _)),fun g=>?_⟩⟩,fun h_37=>⟨hw,j5 ho (aj (LtA.ah _)) (aj (bp _)),fun g=>?_⟩⟩,fun h_3=>Bool.noConfusion ((sK hkk hlt).symm.trans h_3)⟩
  all_goals exact .inl ⟨rfl,g,rfl⟩
theorem Eu(f:Bool)(o:ae)(R:aw)(h0:R.own.id=0)(vs:List aa)(p:mE)(hp:AK p)(c:Nat)(ho:aB o=true)(hrow:vs = []∨∃ ty ro,o = .cells ty (aK vs) ro)(hfl:f=false→vs = []∧o = .dead)(W:bg) :
  al Tryz.prog 126 W DN ⟨tmsOf [db R (vS f 0 vs.length c),sh p] 0 .leaf,heapOf [o,.dead] aE,[]⟩ (fE Tryz.prog Tryz.f5 Tc):=bj.WU fun X=>by
 have hkk:=mn hfl
 refine bj.nv xH follows Ye (TO f o vs c R p (cp R f vs p) W X _) ?_
 rcases Nat.lt_or_ge 80 vs.length with h80 | h80
 ·exact ⟨fun h_6=>rfl,fun h_6=>Bool.noConfusion ((D5 hkk h80).symm.trans h_6)⟩
 ·have hn:vs.length<1000000:=by omega
  have hstep:∀ {hp:Hp},hp.get 0=some o→Cp [db R (vS f 0 vs.length c),sh p] hp=_:=fun hg=>xM h0 hp (fD ho hrow hfl hg) hn
  have hout:=rD (R:=R) (f:=f) (vs:=vs) (p:=p) h80
  have hF:=I0 (R:=R) (f:=f) (vs:=vs) (p:=p) fun e=>(hfl e).1
  have hO:=I1 (R:=R) (f:=f) (vs:=vs) (p:=p)
  have hM:=BJ R f vs p
  have hI:=rE (R:=R) (f:=f) (vs:=vs) (p:=p) h0
  have hckR:iU R vs=true→∀ {hp:Hp},hp.get 0=some o→j4 [db R (vS f 0 vs.length c)] hp=some (.int .i64 0,heapOf [.dead] hp):=fun hk _ hg=>by
    rw [fz h0 (fD ho hrow hfl hg) hn,hk]; rfl
  generalize cp R f vs p=T at *;rcases two (T.e != Int.ofNat 0) with he | he
  ·
    have hT:T=ku T.e:=hM (by simpa using he)
    refine ⟨fun h_6=>Bool.noConfusion (h_6.symm.trans (zJ hkk h80)),fun h_6=>⟨hstep (bl rfl),fun h_19=>⟨fun h_24=>bG ?_,fun h_24=>bG ?_⟩,fun h_19=>Bool.noConfusion (he.symm.trans h_19)⟩⟩
    all_goals (have h1:T.vs = []:=by rw [hT]; rfl
               have h2:T.f=false:=by rw [hT]; rfl
               have h3:T.out = []:=by rw [hT]; rfl
               clear hT;first | rfl | (rw [h1,h2]; rfl) | (exfalso; have h4:=‹(Int.ofNat (kk (oF T.out) T.out.length)==Int.ofNat 0)=false›; rw [h3] at h4; cases h4))
  ·
    obtain ⟨hk,hT⟩:=hO (by simpa using he)
    have hid:=(hI (by simpa using he)).id
    have hvs:T.vs.length<1000000:=Nat.lt_of_le_of_lt (kG hT.r.rt) (by omega)
    have hloop:=fun g=>Ng f o vs c R p T ho hout hF hvs hT.out W X g
    have hckR:=@hckR hk
    have hckT:∀ {hp:Hp},hp.get 1=some (bv T.f (LtA.ab T.vs))→j4 [db T.R (vS T.f 1 T.vs.length T.c)] hp=some (.int .i64 0,heapOf [.dead] hp):=fun hg=>by
      rw [fz hid (nN hg hF) hvs,pY.2 hT.r]; rfl
    have hmeB:(T.R.me==R.me)=true:=by rw [hT.me]; simp
    have hdeB:(T.R.dest==R.dest)=true:=by rw [hT.dest]; simp
    have hsame:(R.me != R.dest)=false→cL T.R.own ⟨0,false,Int.ofNat 0,Int.ofNat 0,Int.ofNat 0,Int.ofNat 0,R.me⟩=true∧T.R.asked=false:=fun e=>by
      have e:R.me=R.dest:=by simpa using e
      have:=hT.r.home (hT.me.trans (e.trans hT.dest.symm))
      rw [hT.me] at this;refine ⟨this,?_⟩
      cases ha:T.R.asked with
      | false=>rfl
      | true =>
        have h1:=hT.r.ask ha
        have h2:=(lE.1 this).1
        rw [h1] at h2; cases h2
    clear hI hO hM;refine ⟨fun h_6=>Bool.noConfusion (h_6.symm.trans (zJ hkk h80)),fun h_6=>⟨hstep (bl rfl),fun h_19=>Bool.noConfusion (h_19.symm.trans he),fun h_19=>⟨j5 ho (aj (LtA.ah _)) (aj (bp _)),hloop,fun _ g hok=>⟨hckR (bl rfl),hckT (bl rfl),fun h_37=>⟨fun h_44=>⟨fun h_51=>bG ?_,fun h_51=>⟨PG T.R.own (⟨0,false,(Int.ofNat 0),(Int.ofNat 0),(Int.ofNat 0),(Int.ofNat 0),R.me⟩:aa),fun h_62=>⟨rfl,bG ?_⟩,fun h_62=>Bool.noConfusion ((hsame ‹_›).1.symm.trans h_62)⟩⟩,fun h_44=>Bool.noConfusion (hdeB.symm.trans h_44)⟩,fun h_37=>Bool.noConfusion (hmeB.symm.trans h_37)⟩⟩⟩⟩
    all_goals first | rfl | (rw [(hsame ‹_›).2]; rfl)
end Go.Proofs.YtgeoommlmddgpaaGreat.LtL
namespace Go.Proofs.YtgeoommlmddgpaaGreat.LtL
open Go Go.Proofs Go.Proofs.YtgeoommlmddgpaaGreat.AI Go.RowKit Go.ChangeShapes Go.Proofs.YtgeoommlmddgpaaGreat.LtA
theorem M3:laidOutB Tryz.prog=true:=by kernel_rfl
theorem QS:ownKnob Tryz.prog.godebug=none:=by kernel_rfl
theorem On{H:Type}{enc:TypeId×Value→H}(W:World)(base:Nat)(args:Array Value)(ds:List (DataW H))(p:List MemPlace)(hsz:args.size=2)(hval:∀ (j:Nat) t v,Tryz.f5.params[j]? = some t→args[j]? = some v→Value.okWide Tryz.prog W .any base t v)
  (hA:DataW.TrodAll enc Tryz.prog W 0 (fun _=>true) true [26,32] args.toList ds p):Calls Tryz.prog 5 args W fun e W'=>e = .returned (.bool true)∧Below W.heap.size W W':=by
 obtain ⟨v0,v1,rfl⟩:∃ v0 v1,args = #[v0,v1]:=by
  obtain ⟨l⟩:=args;match l,hsz with
  | [a,b],_=>exact ⟨a,b,rfl⟩
 obtain ⟨p,hop,rfl⟩:=uv (hval 1 32 v1 (by kernel_rfl) rfl)
 obtain ⟨w0,ws0,d0,ds0,p0,q0,e0,_,_,hT,_⟩:=trodAll_cons hA;cases e0;obtain ⟨R,f,o,vs,m,h0,hi,sim,ro,rv,hrow,hfl⟩:=mq (hval 0 26 v0 (by kernel_rfl) rfl) hT
 refine uh Tryz.func5 Lu UW W (args0:=[db R (vS f 0 vs.length 2),sh p]) (by simp) (bD _ _ gl) sim ro (.cons rv (.cons (ak.plain rfl) .nil)) fun W=>?_
 exact al.mono (Eu f o R h0 vs p hop 2 hi hrow hfl W) fun e st h=>by
  obtain ⟨q1,q2,v1,z,O,K,Nw,q3,_,_,rfl⟩:=h;exact ⟨q1,q2,q3⟩
theorem E':∀ t∈Tryz.f5.params.toList,Tryz.prog.readableRec t=true∧t<Tryz.prog.types.size:=by
 have h:Tryz.f5.params.toList.all (fun t=>Tryz.prog.readableRec t&&decide (t<Tryz.prog.types.size))=true:=by kernel_rfl
 intro t ht;have:=List.all_eq_true.1 h t ht
 simpa using this
theorem EE(os:Os)(started:os.Started)(H:Type)(enc:TypeId×Value→H) :
  ReturnsInHanded {} Tryz.checked os 5 .any (Rows.coreRightSpec.pre6 enc Tryz.prog Tryz.f5 Rows.coreRightRow.domain false) (Rows.coreRightSpec.post enc Tryz.prog Tryz.f5 false true false false) :=
 mo (C:=Tryz.checked) (tb:=4) started QS (by kernel_rfl) Tryz.func5 M3 E' rfl (by kernel_rfl) Tryz.underlying4
  (fun ds hl=>by
    match ds,hl with
    | [_,_],_=>rfl)
  (ChangeSpec.witness6 (enc:=enc) (C:=Tryz.checked) false ⟨#[],#[db zR ay,sh ⟨0,0,⟨0,0,0,zH,zL,0⟩,0,0⟩],[]⟩ 8 (by kernel_rfl) (by kernel_rfl) (by kernel_rfl) (by kernel_rfl))
  (fun W base args ds p hsz hval hA=>On W base args ds p hsz hval hA)
theorem coreRight_proved:Rows.CoreRightSaid :=
 OpenClaim.holds_of_wide 5 Tryz.f5 rfl rfl rfl rfl rfl rfl rfl ⟨rfl,rfl,rfl,rfl,rfl⟩ rfl rfl rfl rfl rfl (by kernel_rfl) Tryz.func5 (by kernel_rfl)
  (of_decide_eq_true (by kernel_rfl)) (by unfold Func.isWrapper; first | (rw [if_pos (by decide +kernel)]; kernel_rfl) | (rw [if_neg (by decide +kernel)]; exact ⟨rfl,rfl⟩))
  (fun os started H enc _=>EE os started H enc)
end Go.Proofs.YtgeoommlmddgpaaGreat.LtL
