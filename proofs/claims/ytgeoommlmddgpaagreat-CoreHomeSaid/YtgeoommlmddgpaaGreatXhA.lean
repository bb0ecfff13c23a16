/- CoreHome, of the given program: for every route and call the law returns true, and the arguments read asv they did. No condition. -/
import Derived.Test.YtgeoommlmddgpaaGreatXfG
import Derived.Test.YtgeoommlmddgpaaGreatRows
set_option linter.unusedVariables false
set_option linter.unusedSimpArgs false
set_option maxRecDepth 100000
namespace Go.Proofs.YtgeoommlmddgpaaGreat.LtL
open Go Go.Proofs Go.Proofs.YtgeoommlmddgpaaGreat.AI Go.RowKit Go.Proofs.YtgeoommlmddgpaaGreat.Sort Go.Proofs.YtgeoommlmddgpaaGreat.LtA
theorem qD{i:Int}(h1:0≤i)(h2:i<64):dQ true 0 0 0 0 i=true:=by
 unfold dQ dD;simp [h1,h2]
theorem Ia{t o r d i d' i':Int}(h:dQ false t o r d i=true)(h1 : -1099511627776≤d'∧d'≤1099511627776)(h2:0≤i'∧i'<64):dQ false t o r d' i'=true:=by
 unfold dQ at h ⊢;simp only [cond_false,Bool.and_eq_true,decide_eq_true_eq,ge_iff_le] at h ⊢;exact ⟨h2.1,h2.2,h.2.2.1,h.2.2.2.1,h.2.2.2.2.1,h.2.2.2.2.2.1,h.2.2.2.2.2.2.1,h1⟩
theorem A3{x:aa}(h:cU x=true):cU (LtA.bG x)=true:=by
 obtain ⟨h1,h2,h3,-⟩:=nZ h;unfold cU rV LtA.bG;rw [mQ];have h4:=qD (i:=x.i) (by omega) (by omega)
 simp only [Bool.and_eq_true,decide_eq_true_eq,beq_iff_eq];exact ⟨h1,h2,h3,h4⟩
theorem xT(lt lo lr keep:Int)(x:aa):(lG lt lo lr keep x).id=x.id:=by unfold lG; cases lH lt lo lr keep x <;> rfl
theorem Hu{lt lo lr keep:Int}{x:aa}(h:cU x=true):cU (lG lt lo lr keep x)=true:=by
 unfold lG;cases lH lt lo lr keep x with
 | false=>exact h
 | true=>exact A3 h
theorem AO{lt lo lr keep:Int}{vs:List aa}(h:aF vs=true):aF (vs.map (lG lt lo lr keep))=true:=by
 obtain ⟨h1,h2⟩:=dp.1 h;refine dp.2 ⟨fun x hx=>?_,?_⟩
 ·obtain ⟨y,hy,rfl⟩:=List.mem_map.1 hx
  exact Hu (h1 y hy)
 ·refine List.pairwise_map.2 ?_
  simp only [xT];exact h2
theorem vt{vs:List aa}{id:Int}{x:aa}(h:x∈dT vs id):x∈vs:=(List.eraseIdx_sublist _ _).subset h
theorem xN{vs:List aa}{id:Int}(h:aF vs=true):aF (dT vs id)=true:=by
 obtain ⟨h1,h2⟩:=dp.1 h;exact dp.2 ⟨fun x hx=>h1 x (vt hx),h2.sublist (List.eraseIdx_sublist _ _)⟩
theorem iM{vs:List aa}{id:Int}:(aI vs id).isSome=false↔∀ x∈vs,x.id≠id:=by
 unfold aI;cases h:vs.find? (rQ id) with
 | none =>
   have:=List.find?_eq_none.1 h
   exact ⟨fun _ x hx e=>this x hx (by simp [rQ,e]),fun _=>rfl⟩
 | some y =>
   refine ⟨fun h=>(by cases h),fun hx=>?_⟩
   have h1:=List.mem_of_find?_eq_some h
   have h2:=List.find?_some h
   exact absurd (by simpa [rQ] using h2) (hx y h1)
theorem rP{vs:List aa}{id:Int}:(aI vs id).isSome=true↔∃ x∈vs,x.id=id:=by
 constructor
 ·intro h
  obtain ⟨y,hy⟩:=Option.isSome_iff_exists.1 h;exact ⟨y,List.mem_of_find?_eq_some hy,by have:=List.find?_some hy; simpa [rQ] using this⟩
 ·rintro ⟨x,hx,e⟩
  cases h:(aI vs id).isSome with
  | true=>rfl
  | false=>exact absurd e (iM.1 h x hx)
def s5(me:Int):aa:=⟨0,false,0,0,0,0,me⟩
structure Tw (R:ax) (vs:List aa):Prop where
 me:0≤R.me∧R.me<64
 dest:0≤R.dest∧R.dest<64
 own:R.own.i=R.me
 self:∀ x∈vs,x.id≠R.me
 ok:dQ R.own.n R.own.t R.own.o R.own.r R.own.d R.own.i=true
 rt:aF vs=true
 ask:R.asked=true→R.own.n=true
 last:0≤R.last∧R.last≤65535∧(0<R.last→R.heard=true)
 home:R.me=R.dest→dh R.own (s5 R.me)=true
theorem k9{R:ax}{vs:List aa}:iQ R vs=true↔Tw R vs:=by
 unfold iQ zP;constructor
 ·intro h
  simp only [Bool.and_eq_true,decide_eq_true_eq,Bool.not_eq_true',decide_eq_false_iff_not,ge_iff_le,Int.ofNat_eq_natCast,Bool.and_eq_false_iff,bne_eq_false_iff_eq,gt_iff_lt,Int.not_lt] at h;obtain ⟨⟨⟨⟨⟨⟨⟨⟨⟨⟨h1,h2⟩,h3⟩,h4⟩,h5⟩,h6⟩,h7⟩,h8⟩,h9⟩,h10⟩,h11⟩:=h;refine ⟨by omega,by omega,h3,iM.1 h4,h5,h6,fun ha=>?_,⟨by omega,by omega,fun hl=>?_⟩,fun hm=>?_⟩
  ·rcases h7 with h | h
   ·rw [ha] at h; cases h
   ·simpa using h
  ·rcases h10 with h | h
   ·exact absurd hl (by omega)
   ·simpa using h
  ·rcases h11 with h | h
   ·rw [hm] at h; simp at h
   ·simpa [s5] using h
 ·intro h
  have e1:=iM.2 h.self
  have e2:(R.asked && !R.own.n)=false:=by
    cases ha:R.asked with
    | false=>rfl
    | true=>rw [h.ask ha]; rfl
  have e3:(decide (R.last>Int.ofNat 0) && !R.heard)=false:=by
    by_cases hl:0<R.last
    ·rw [h.last.2.2 hl]; simp
    ·rw [decide_eq_false (by simpa using hl)]; rfl
  have e4:((R.me==R.dest) && !dh R.own ⟨0,false,0,0,0,0,R.me⟩)=false:=by
    by_cases hm:R.me=R.dest
    ·have e5:dh R.own ⟨0,false,0,0,0,0,R.me⟩=true:=h.home hm
     rw [e5]; simp
    ·rw [beq_false_of_ne hm]; rfl
  have e6:(R.own.i != R.me)=false:=by rw [h.own]; simp
  rw [e1,e2,e3,e4,e6,h.ok,h.rt];obtain ⟨⟨a1,a2⟩,⟨a3,a4⟩,-,-,-,-,-,⟨a5,a6,-⟩,-⟩:=h;simp only [Int.ofNat_eq_natCast,ge_iff_le,Bool.not_false,Bool.and_true,Bool.and_eq_true,decide_eq_true_eq,Bool.not_eq_true',decide_eq_false_iff_not,Int.not_lt,gt_iff_lt];refine ⟨⟨⟨⟨?_,?_⟩,?_,?_⟩,?_⟩,?_⟩ <;> simp <;> omega
def Tt(dest:Int)(vs:List aa)(x:aY):Prop:=jZ x=true∧x.dest=dest∧(x.to=255∨∃ y∈vs,y.id=x.to)
theorem uf{to dest:Int}(h:0≤dest∧dest<64):jZ ⟨to,1,dest,zH,zL,0⟩=true:=by
 unfold jZ;simp [h.1,h.2,zH,zL,zO]
theorem Er{to dest:Int}{v:aa}(h:0≤dest∧dest<64)(hv:dQ v.n v.t v.o v.r v.d v.i=true):jZ ⟨to,2,dest,v,zL,0⟩=true:=by
 unfold jZ;simp [h.1,h.2,zL,zO,hv]
theorem zS{to dest:Int}{l:aU}(h:0≤dest∧dest<64)(hv:dQ false l.1 l.2.1 l.2.2 0 0=true):jZ ⟨to,3,dest,zH,l,0⟩=true:=by
 unfold jZ;simp [h.1,h.2,zH,zO,hv]
theorem Ib{to dest num:Int}{v:aa}(h:0≤dest∧dest<64)(hn:v.n=false)(hk:0≤num∧num≤65535)(hv:dQ v.n v.t v.o v.r v.d v.i=true):jZ ⟨to,4,dest,v,zL,num⟩=true:=by
 rw [hn] at hv;unfold jZ;simp [h.1,h.2,zL,zO,hv,hn,hk.1,hk.2]
theorem Qy{x:aY}(h:jZ x=true)(hk:x.kind=3):dQ false x.l.1 x.l.2.1 x.l.2.2 0 0=true:=by
 unfold jZ at h;rw [hk] at h;simp at h;exact h.2.2.1
theorem Qz{x:aY}(h:jZ x=true)(hk:x.kind=4):x.h.n=false∧0≤x.num∧x.num≤65535:=by
 unfold jZ at h;rw [hk] at h;simp at h;exact ⟨h.2.2.1,h.2.2.2.1,h.2.2.2.2.1⟩
theorem Aq{me:Int}{vs:List aa}(h:(bJ me vs).2=0):dQ (bJ me vs).1.n (bJ me vs).1.t (bJ me vs).1.o (bJ me vs).1.r (bJ me vs).1.d (bJ me vs).1.i=true:=by
 unfold bJ at h ⊢;cases hr:aF vs with
 | false=>rw [hr] at h; exact absurd (show (1:Int)=0 from h) (by decide)
 | true =>
 rw [hr] at h;simp only [Bool.not_true,cond_false] at h ⊢;cases hz:dQ false (Int.ofNat 0) (Int.ofNat 0) (Int.ofNat 0) (Int.ofNat 0) me with
 | false=>rw [hz] at h; exact absurd (show (1:Int)=0 from h) (by decide)
 | true =>
 rw [hz] at h;simp only [Bool.not_true,cond_false] at h ⊢;cases hl:(eD vs).2 with
 | false=>rw [hl] at h; exact absurd (show (7:Int)=0 from h) (by decide)
 | true =>
 rw [hl] at h;simp only [Bool.not_true,cond_false] at h ⊢;unfold Ja at h ⊢;cases ho:dQ false (bA (eD vs).1).1 (bA (eD vs).1).2.1 (bA (eD vs).1).2.2 (wrapF .i64 ((eD vs).1.d+Int.ofNat 1)) me with
 | false=>rw [ho] at h; exact absurd (show (1:Int)=0 from h) (by decide)
 | true=>exact ho
theorem HX{vs:List aa}(hr:aF vs=true){l:aU}(h:l∈bN (aX vs)):dQ false l.1 l.2.1 l.2.2 0 0=true:=by
 obtain ⟨x,hx,hk,rfl⟩:=MN h;obtain ⟨hn,ho⟩:=D5 hk;rw [hn] at ho;exact Ia ho ⟨by decide,by decide⟩ ⟨by decide,by decide⟩
namespace TS
structure Ok (m d:Int) (T:TS):Prop where
 r:Tw T.R T.vs
 me:T.R.me=m
 dest:T.R.dest=d
 out:∀ x∈T.out,Tt d T.vs x
section
variable {me dest:Int} {T:TS}
theorem lu(h:T.Ok me dest){to kind:Int}{v:aa}{l:aU}{num:Int}(hx:jZ ⟨to,kind,dest,v,l,num⟩=true)(ht:to=255∨∃ y∈T.vs,y.id=to):(T.send to kind v l num).Ok me dest:=by
 refine ⟨h.r,h.me,h.dest,fun x hx'=>?_⟩
 have hx':x∈T.out ++ [⟨to,kind,T.R.dest,v,l,num⟩]:=hx'
 rcases List.mem_append.1 hx' with hx' | hx'
 ·exact h.out x hx'
 ·rw [List.mem_singleton] at hx'
  subst hx';rw [h.dest];exact ⟨hx,rfl,ht⟩
theorem Ok.d64(h:T.Ok me dest):0≤dest∧dest<64:=h.dest▸h.r.dest
theorem Ok.m64(h:T.Ok me dest):0≤me∧me<64:=h.me▸h.r.me
theorem pP(h:T.Ok me dest){to:Int}(ht:to=255∨∃ y∈T.vs,y.id=to):(T.tell to).Ok me dest:=lu h (Er h.d64 h.r.ok) ht
theorem vo(h:T.Ok me dest){to:Int}{l:aU}(hl:dQ false l.1 l.2.1 l.2.2 0 0=true)(ht:to=255∨∃ y∈T.vs,y.id=to):(T.clear to l).Ok me dest:=lu h (zS h.d64 hl) ht
theorem xQ(h:T.Ok me dest)(e:Int):(T.err e).Ok me dest:=⟨h.r,h.me,h.dest,h.out⟩
theorem EB(h:T.Ok me dest){v:aa}(hv:dQ v.n v.t v.o v.r v.d v.i=true)(hi:v.i=me)(ha:T.R.asked=true→v.n=true)(hm:me≠dest):(T.own v).Ok me dest :=
 ⟨⟨h.r.me,h.r.dest,hi.trans h.me.symm,h.r.self,hv,h.r.rt,ha,h.r.last,fun e=>absurd ((h.me.symm.trans e).trans h.dest) hm⟩,h.me,h.dest,h.out⟩
theorem Ac(h:T.Ok me dest){v:aa}(hv:dQ v.n v.t v.o v.r v.d v.i=true)(hi:v.i=me)(hm:me≠dest):((T.own v).ask false).Ok me dest :=
 ⟨⟨h.r.me,h.r.dest,hi.trans h.me.symm,h.r.self,hv,h.r.rt,(fun e=>by cases e),h.r.last,fun e=>absurd ((h.me.symm.trans e).trans h.dest) hm⟩,h.me,h.dest,h.out⟩
theorem KD(h:T.Ok me dest)(hn:T.R.own.n=true)(b:Bool):(T.ask b).Ok me dest :=
 ⟨⟨h.r.me,h.r.dest,h.r.own,h.r.self,h.r.ok,h.r.rt,(fun _=>hn),h.r.last,h.r.home⟩,h.me,h.dest,h.out⟩
theorem xi(h:T.Ok me dest)(b:Bool):(T.o5 b).Ok me dest :=
 ⟨⟨h.r.me,h.r.dest,h.r.own,h.r.self,h.r.ok,h.r.rt,h.r.ask,h.r.last,h.r.home⟩,h.me,h.dest,h.out⟩
theorem DJ(h:T.Ok me dest){k:Int}(hk:0≤k∧k≤65535):(T.vM k).Ok me dest :=
 ⟨⟨h.r.me,h.r.dest,h.r.own,h.r.self,h.r.ok,h.r.rt,h.r.ask,⟨hk.1,hk.2,fun _=>rfl⟩,h.r.home⟩,h.me,h.dest,h.out⟩
theorem Ok.TC(h:T.Ok me dest)(hn:T.R.own.n=true):me≠dest:=fun e=>by
 have:=h.r.home ((h.me.trans e).trans h.dest.symm)
 have:=(eZ.1 this).1
 rw [hn] at this; cases this
theorem Ok.tU(h:T.Ok me dest)(hh:T.home=false):me≠dest:=fun e=>by
 unfold home at hh;rw [h.me,h.dest,e] at hh;simp at hh
theorem ux(h:T.Ok me dest)(hn:T.R.own.n=true):T.ga.Ok me dest:=by
 have hm:=h.TC hn
 have hok:=Aq (me:=T.R.me) (vs:=T.vs)
 have hr:=pZ (me:=T.R.me) (vs:=T.vs)
 unfold ga sJ;generalize bJ T.R.me T.vs=a at *;cases h0:(a.2==Int.ofNat 0) with
 | true =>
   have e:a.2=0:=by simpa using h0
   have h1:=Ac h (hok e) ((hr e).2.2.1.trans h.me) hm
   exact pP h1 (.inl rfl)
 | false =>
 simp only [cond_false];cases h7:(a.2==Int.ofNat 7) with
 | true =>
   simp only [cond_true];cases (!T.R.asked) with
   | true=>exact lu (KD h hn true) (uf h.d64) (.inl rfl)
   | false=>exact h
 | false=>exact xQ h _
theorem kW(h:T.Ok me dest):T.dH.Ok me dest:=by
 unfold dH;cases hc:(T.R.own.n&&(T.R.want&&(!T.R.asked && !T.home))) with
 | true=>exact ux h (by simp only [Bool.and_eq_true] at hc; exact hc.1)
 | false=>exact h
theorem qk{l:aU}{k:Int}(h:∃ y∈T.vs,y.id=k):∃ y∈(T.forget l).vs,y.id=k:=by
 obtain ⟨y,hy,e⟩:=h;exact ⟨_,List.mem_map.2 ⟨y,hy,rfl⟩,(xT _ _ _ _ _).trans e⟩
theorem sk(h:T.Ok me dest)(l:aU):(T.forget l).Ok me dest:=by
 refine ⟨⟨h.r.me,h.r.dest,h.r.own,fun x hx=>?_,h.r.ok,AO h.r.rt,h.r.ask,h.r.last,h.r.home⟩,h.me,h.dest,fun x hx=>?_⟩
 ·have hx:x∈T.vs.map _:=hx
  obtain ⟨y,hy,rfl⟩:=List.mem_map.1 hx;rw [xT];exact h.r.self y hy
 ·obtain ⟨h1,h2,h3⟩:=h.out x hx
  refine ⟨h1,h2,?_⟩
  rcases h3 with h3 | h3
  ·exact .inl h3
  ·exact .inr (qk h3)
theorem Is{vs:List aa}{y:aa}(hr:aF vs=true){k:Int}(h:∃ x∈vs,x.id=k):∃ x∈cD vs y,x.id=k:=by
 obtain ⟨x,hx,e⟩:=h;by_cases hy:x.id=y.id
 ·exact ⟨y,(mZ hr).2 (.inl rfl),hy.symm.trans e⟩
 ·exact ⟨x,(mZ hr).2 (.inr ⟨hx,hy⟩),e⟩
theorem yr(h:T.Ok me dest){y:aa}(hy:cU y=true)(hm:y.id≠me):(T.set y).Ok me dest:=by
 refine ⟨⟨h.r.me,h.r.dest,h.r.own,fun x hx=>?_,h.r.ok,yp h.r.rt hy,h.r.ask,h.r.last,h.r.home⟩,h.me,h.dest,fun x hx=>?_⟩
 ·have hx:x∈cD T.vs y:=hx
  rcases (mZ h.r.rt).1 hx with rfl | ⟨hx,-⟩
  ·show x.id≠T.R.me
   rw [h.me]; exact hm
  ·exact h.r.self x hx
 ·obtain ⟨h1,h2,h3⟩:=h.out x hx
  refine ⟨h1,h2,?_⟩
  rcases h3 with h3 | h3
  ·exact .inl h3
  ·exact .inr (Is h.r.rt h3)
theorem G8(h:T.Ok me dest){now:Int}{lost:Bool}(he:(bQ T.R.own T.vs now lost).2.2=0):dQ (bQ T.R.own T.vs now lost).1.n (bQ T.R.own T.vs now lost).1.t (bQ T.R.own T.vs now lost).1.o (bQ T.R.own T.vs now lost).1.r (bQ T.R.own T.vs now lost).1.d (bQ T.R.own T.vs now lost).1.i=true ∧
  (bQ T.R.own T.vs now lost).1.i=me∧((bQ T.R.own T.vs now lost).2.1=4→dQ false T.yc.1 T.yc.2.1 T.yc.2.2 0 0=true):=by
 obtain ⟨hi,hq⟩:=mP T.R.own T.vs now lost;have h64:=h.m64
 have hown:T.R.own.i=me:=h.r.own.trans h.me
 have hnull:dQ (bG T.R.own.i).n (bG T.R.own.i).t (bG T.R.own.i).o (bG T.R.own.i).r (bG T.R.own.i).d (bG T.R.own.i).i=true:=by
  rw [hown]; exact qD h64.1 h64.2
 generalize bQ T.R.own T.vs now lost=q at *;cases hi with
 | bad=>exact absurd (show (1:Int)=0 from he) (by decide)
 | stay _=>exact ⟨h.r.ok,hown,fun h=>absurd (show (0:Int)=4 from h) (by decide)⟩
 | alone _ _ _=>exact ⟨hnull,hown,fun h=>absurd (show (6:Int)=4 from h) (by decide)⟩
 | lost top _ _ _ _ ho=>exact ⟨ho,hown,fun h=>absurd (show (1:Int)=4 from h) (by decide)⟩
 | gene top _ _ _ _ ho=>exact ⟨ho,hown,fun h=>absurd (show (5:Int)=4 from h) (by decide)⟩
 | prop top _ _ _ _ ho=>exact ⟨ho,hown,fun h=>absurd (show (2:Int)=4 from h) (by decide)⟩
 | refl top _ _ _ _ _ ho=>exact ⟨ho,hown,fun h=>absurd (show (3:Int)=4 from h) (by decide)⟩
 | dete top _ _ hl _ _ _ =>
   refine ⟨hnull,hown,fun _=>HX h.r.rt ?_⟩
   have:=IK hl
   unfold yc;cases e:bN (aX T.vs) with
   | nil=>rw [e] at this; cases this
   | cons a b=>exact .head _
theorem zx(h:T.Ok me dest)(now:Int)(lost:Bool):(T.keep now lost).Ok me dest:=by
 unfold keep;cases hh:(T.home||T.R.own.n) with
 | true=>exact h
 | false =>
 simp only [cond_false];obtain ⟨hh,hn⟩:=Bool.or_eq_false_iff.1 hh;have hm:=h.tU hh
 have ha:T.R.asked=false:=by
  cases ha:T.R.asked with
  | false=>rfl
  | true=>rw [h.r.ask ha] at hn; cases hn
 have hc:=G8 h (now:=now) (lost:=lost)
 generalize bQ T.R.own T.vs now lost=r at *;unfold vT;cases he:(r.2.2 != Int.ofNat 0) with
 | true=>exact xQ h _
 | false =>
 obtain ⟨h1,h2,h3⟩:=hc (by simpa using he)
 simp only [cond_false];cases (r.2.1==Int.ofNat 0) with
 | true=>exact h
 | false =>
 simp only [cond_false];have hT:=pP (EB h h1 h2 (fun e=>by rw [ha] at e; cases e) hm) (to:=255) (.inl rfl)
 cases h4:(r.2.1==Int.ofNat 4) with
 | true=>exact kW (vo (sk hT _) (h3 (by simpa using h4)) (.inl rfl))
 | false=>exact kW hT
theorem zF(h:T.Ok me dest)(now:Int):(T.tZ now).Ok me dest:=by
 unfold tZ;cases T.R.own.n with
 | true=>exact kW h
 | false=>exact zx h _ _
theorem FV(h:T.Ok me dest){y:aa}(hy:cU y=true)(hm:y.id≠me)(now:Int):(T.Ae y now).Ok me dest:=by
 have hs:=yr h hy hm
 unfold Ae;cases (T.set y).home with
 | true=>exact hs
 | false =>
 simp only [cond_false];cases hn:(T.set y).R.own.n with
 | false=>exact zx hs _ _
 | true =>
 simp only [Bool.not_true,cond_false];cases (T.set y).R.asked with
 | true=>exact ux hs hn
 | false=>exact kW hs
theorem AH(h:T.Ok me dest){ids:List Int}{l:aU}(hl:dQ false l.1 l.2.1 l.2.2 0 0=true)(hi:∀ k∈ids,∃ y∈T.vs,y.id=k):(T.tH ids l).Ok me dest:=by
 refine ⟨h.r,h.me,h.dest,fun x hx=>?_⟩
 have hx:x∈T.out++ids.map (xn T.R.dest l):=hx
 rcases List.mem_append.1 hx with hx | hx
 ·exact h.out x hx
 ·obtain ⟨k,hk,rfl⟩:=List.mem_map.1 hx
  unfold xn;rw [h.dest];exact ⟨zS h.d64 hl,rfl,.inr (hi k hk)⟩
theorem vK{l:aU}{keep:Int}{vs:List aa}{k:Int}(h:k∈bY l keep vs):∃ y∈vs,y.id=k:=by
 unfold bY at h;obtain ⟨y,hy,e⟩:=List.mem_map.1 h;exact ⟨y,(List.mem_filter.1 hy).1,e⟩
theorem LW(h:T.Ok me dest){ob:aY}(ho:jZ ob=true)(hk:ob.kind=3)(now:Int):(T.C0 ob now).Ok me dest:=by
 have hl:=Qy ho hk
 have hf:=sk h ob.l
 unfold C0;cases hc:(!T.home&&(!T.R.own.n&&(bA T.R.own==ob.l))) with
 | true =>
   have hh:T.home=false:=by simp only [Bool.and_eq_true,Bool.not_eq_true'] at hc; exact hc.1
   have hm:=h.tU hh
   have h64:=h.m64
   have hown:T.R.me=me:=h.me
   refine kW (vo (EB hf ?_ hown (fun _=>rfl) hm) hl (.inl rfl))
   show dQ true 0 0 0 0 T.R.me=true
   rw [hown]; exact qD h64.1 h64.2
 | false=>exact zF (AH hf hl fun k hk=>qk (vK hk)) _
theorem qK(h:T.Ok me dest){k:Int}(hk:0≤k∧k≤65535)(hn:T.R.own.n=false):(T.lp k).Ok me dest :=
 lu (DJ h hk) (Ib h.d64 hn hk h.r.ok) (.inl rfl)
theorem M6(h:T.Ok me dest){id:Int}{ob:aY}(ho:jZ ob=true)(hk:ob.kind=4)(hy:cU (bj id ob.h)=true)(hid:id≠me)(now:Int):(T.opt id ob now).Ok me dest:=by
 unfold opt;cases hc:(T.home||(T.R.heard && !vX T.R.last ob.num)) with
 | true=>exact FV h hy hid now
 | false =>
 simp only [cond_false];have hh:T.home=false:=(Bool.or_eq_false_iff.1 hc).1
 have hm:=h.tU hh
 have hs:=yr h hy hid
 unfold fresh;cases hz:(cm false (bA ob.h).1 (bA ob.h).2.1 (bA ob.h).2.2 (wrapF .i64 (ob.h.d+Int.ofNat 1)) T.R.me != Int.ofNat 0) with
 | true=>exact xQ hs _
 | false =>
   have hz:dQ false (bA ob.h).1 (bA ob.h).2.1 (bA ob.h).2.2 (wrapF .i64 (ob.h.d+Int.ofNat 1)) T.R.me=true:=by
     rw [← Jd];unfold bne at hz;simpa using hz
   obtain ⟨-,hn2⟩:=Qz ho hk;exact qK (Ac hs (v:=Ie T.R.me ob) hz h.me hm) hn2 rfl
theorem HH(h:T.Ok me dest){id:Int}{ob:aY}(ho:jZ ob=true)(hid:∃ y∈T.vs,y.id=id)(hi:ob.kind=2∨ob.kind=4→cU (bj id ob.h)=true)(now:Int):(T.l6 id ob now).Ok me dest:=by
 have hne:id≠me:=by
  obtain ⟨y,hy,rfl⟩:=hid;rw [← h.me]; exact h.r.self y hy
 unfold l6;cases h1:(ob.kind==Int.ofNat 1) with
 | true =>
   simp only [cond_true];unfold Oh;cases hn:T.R.own.n with
   | true =>
     simp only [cond_true];cases (!T.R.asked) with
     | true=>exact ux h hn
     | false=>exact h
   | false=>exact pP h (.inr hid)
 | false =>
 simp only [cond_false];cases h2:(ob.kind==Int.ofNat 2) with
 | true=>exact FV h (hi (.inl (by simpa using h2))) hne now
 | false =>
 simp only [cond_false];cases h3:(ob.kind==Int.ofNat 3) with
 | true=>exact LW h ho (by simpa using h3) now
 | false =>
   have h4:ob.kind=4:=by
     unfold jZ at ho;rw [h1,h2,h3] at ho;simp only [cond_false,Bool.and_eq_true] at ho;cases h4:(ob.kind==Int.ofNat 4) with
     | true=>simpa using h4
     | false=>rw [h4] at ho; simp at ho
   exact M6 h ho h4 (hi (.inr h4)) hne now
theorem SB(h:T.Ok me dest){id:Int}(h1:0≤id∧id<64)(h2:id≠me):(T.up id).Ok me dest:=by
 have hs:=yr h (y:=bj id (bG id)) (wx (decide_eq_true (by simpa using h1.1)) (by simpa using h1.2)) h2
 have hm:id=255∨∃ y∈(T.set (bj id (bG id))).vs,y.id=id:=.inr ⟨_,(mZ h.r.rt).2 (.inl rfl),rfl⟩
 unfold up;have ht:=pP hs hm
 cases (!T.R.own.n) <;> cases T.R.asked
 ·exact hs
 ·exact lu hs (uf h.d64) hm
 ·exact ht
 ·exact lu ht (uf h.d64) hm
end
end TS
theorem GH{R:ax}{f:Bool}{vs:List aa}(h:iQ R vs=true):(iu R f vs).Ok R.me R.dest:=⟨k9.1 h,rfl,rfl,fun x hx=>by cases hx⟩
theorem px{me dest:Int}{T:TS}(h:T.Ok me dest)(he:(du T).e=0):(du T).Ok me dest:=by
 unfold du at he ⊢;cases hc:(T.e != Int.ofNat 0) with
 | true =>
   rw [hc] at he;have:T.e=0:=he
   rw [this] at hc;exact absurd hc (by decide)
 | false=>exact ⟨h.r,h.me,h.dest,h.out⟩
theorem pO{R:ax}{f:Bool}{vs:List aa}{p:r9}(he:(cK R f vs p).e=0):iQ R vs=true∧(cK R f vs p).Ok R.me R.dest:=by
 unfold cK at he ⊢;cases hok:iQ R vs with
 | false=>rw [hok] at he; exact c7 he (by decide)
 | true =>
 refine ⟨rfl,?_⟩
 rw [hok] at he;simp only [cond_true] at he ⊢;have hR:=k9.1 hok
 have hB:=GH (f:=f) hok
 unfold oW at he ⊢;generalize (p.call==Int.ofNat 0)=b0 at he ⊢;cases b0 with
 | true =>
   simp only [cond_true] at he ⊢;unfold Oj at he ⊢;cases hc:(!(decide (p.id≥Int.ofNat 0)&&decide (p.id<Int.ofNat 64))||(p.id==R.me)) with
   | true=>rw [hc] at he; exact c7 he (by decide)
   | false =>
   rw [hc] at he;simp only [cond_false] at he ⊢;cases hf:(aI vs p.id).isSome with
   | true=>rw [hf] at he; exact c7 he (by decide)
   | false =>
   rw [hf] at he;simp only [cond_false] at he ⊢;simp at hc;exact px (TS.SB hB (by omega) hc.2) he
 | false =>
 simp only [cond_false] at he ⊢;generalize (p.call==Int.ofNat 1)=b1 at he ⊢;cases b1 with
 | true =>
   simp only [cond_true] at he ⊢;unfold oG at he ⊢;cases ht:gi p.now with
   | false=>rw [ht] at he; exact c7 he (by decide)
   | true =>
   rw [ht] at he;simp only [Bool.not_true,cond_false] at he ⊢;cases hf:fnd vs p.id with
   | false=>rw [hf] at he; exact c7 he (by decide)
   | true =>
   rw [hf] at he;refine px (TS.zF ?_ _) he
   exact ⟨⟨hR.me,hR.dest,hR.own,fun x hx=>hR.self x (vt hx),hR.ok,xN hR.rt,hR.ask,hR.last,hR.home⟩,rfl,rfl,fun x hx=>by cases hx⟩
 | false =>
 simp only [cond_false] at he ⊢;generalize (p.call==Int.ofNat 2)=b2 at he ⊢;cases b2 with
 | true =>
   simp only [cond_true] at he ⊢;unfold gd at he ⊢;cases ht:gi p.now with
   | false=>rw [ht] at he; exact c7 he (by decide)
   | true =>
   rw [ht] at he;simp only [Bool.not_true,cond_false] at he ⊢;cases hf:(aI vs p.id).isSome with
   | false=>rw [hf] at he; exact c7 he (by decide)
   | true =>
   rw [hf] at he;simp only [Bool.not_true,cond_false] at he ⊢;cases hc:(!jZ p.ob||((p.ob.dest != R.dest)||((p.ob.kind==Int.ofNat 2||p.ob.kind==Int.ofNat 4)&&(p.ob.h.i != p.id)))) with
   | true=>rw [hc] at he; exact c7 he (by decide)
   | false =>
   rw [hc] at he;simp only [cond_false] at he ⊢;obtain ⟨c1,c2⟩:=Bool.or_eq_false_iff.1 hc;obtain ⟨c2,c3⟩:=Bool.or_eq_false_iff.1 c2;have ho:jZ p.ob=true:=by simpa using c1
   refine px (TS.HH hB ho (rP.1 hf) (fun hk=>?_) p.now) he
   have hi:(p.ob.h.i != p.id)=false:=by
     cases hi:(p.ob.h.i != p.id) with
     | false=>rfl
     | true =>
       rw [hi] at c3;rcases hk with hk | hk <;> rw [hk] at c3 <;> simp at c3
   have:=qE (ob:=p.ob) hR.rt hk hf rfl (by rw [eH,ho]; rfl) hi
   simp only [Bool.and_eq_true] at this;exact this.2
 | false =>
 simp only [cond_false] at he ⊢;generalize (p.call==Int.ofNat 3)=b3 at he ⊢;cases b3 with
 | true=>exact px (TS.kW (TS.xi hB true)) he
 | false =>
 simp only [cond_false] at he ⊢;generalize (p.call==Int.ofNat 4)=b4 at he ⊢;cases b4 with
 | true=>exact TS.xi hB false
 | false =>
   simp only [cond_false] at he ⊢;unfold qJ at he ⊢;cases hc:((R.me != R.dest)||(decide (p.num<Int.ofNat 0)||decide (p.num>Int.ofNat 65535))) with
   | true=>rw [hc] at he; exact c7 he (by decide)
   | false =>
     simp at hc;refine TS.qK hB (by omega) ?_
     have:=(eZ.1 (hR.home hc.1)).1
     exact this
def ft(me:Int)(k:aa)(x:aY):aa:=bif x.to != Int.ofNat 255 then k else bif x.kind==Int.ofNat 2 then x.h else bif x.kind==Int.ofNat 4 then x.h else bif x.kind==Int.ofNat 3 then bG me else k
theorem B'(me:Int)(vs:List aa):(bJ me vs).1.id=0:=(B9 me vs).2
theorem G7{own:aa}{vs:List aa}{now:Int}{lost:Bool}(h:own.id=0):(bQ own vs now lost).1.id=0:=by
 obtain ⟨hi,-⟩:=mP own vs now lost;generalize bQ own vs now lost=q at *;cases hi <;> first | rfl | exact h
theorem AE{own:aa}{vs:List aa}{now:Int}{lost:Bool}(h:(bQ own vs now lost).2.1=4):(bQ own vs now lost).1=bG own.i:=by
 obtain ⟨hi,-⟩:=mP own vs now lost;generalize bQ own vs now lost=q at *;cases hi with
 | dete=>rfl
 | bad=>exact absurd (show (0:Int)=4 from h) (by decide)
 | stay=>exact absurd (show (0:Int)=4 from h) (by decide)
 | alone=>exact absurd (show (6:Int)=4 from h) (by decide)
 | lost=>exact absurd (show (1:Int)=4 from h) (by decide)
 | gene=>exact absurd (show (5:Int)=4 from h) (by decide)
 | prop=>exact absurd (show (2:Int)=4 from h) (by decide)
 | refl=>exact absurd (show (3:Int)=4 from h) (by decide)
namespace TS
structure Tl (m:Int) (own0:aa) (T:TS):Prop where
 me:T.R.me=m
 i:T.R.own.i=m
 id:T.R.own.id=0
 last:T.out.foldl (ft m) own0=T.R.own
section
variable {me:Int} {own0:aa} {T:TS}
theorem gC(T:TS)(to kind:Int)(v:aa)(l:aU)(num:Int):(T.send to kind v l num).out.foldl (ft me) own0=ft me (T.out.foldl (ft me) own0) ⟨to,kind,T.R.dest,v,l,num⟩:=by
 show (T.out++_).foldl (ft me) own0=_
 rw [List.foldl_append]; rfl
theorem w9(h1:T.R.me=me)(h2:T.R.own.i=me)(h3:T.R.own.id=0):(T.tell 255).Tl me own0:=⟨h1,h2,h3,by
 show (T.send 255 2 T.R.own zL 0).out.foldl (ft me) own0=_
 rw [gC]; rfl⟩
theorem uI(h:T.Tl me own0)(to:Int):(T.tell to).Tl me own0:=⟨h.me,h.i,h.id,by
 show (T.send to 2 T.R.own zL 0).out.foldl (ft me) own0=_
 rw [gC,h.last];unfold ft;cases (to != Int.ofNat 255) <;> rfl⟩
theorem KE(h:T.Tl me own0)(to:Int)(b:Bool):((T.ask b).send to 1 zH zL 0).Tl me own0:=⟨h.me,h.i,h.id,by
 rw [gC];show ft me (T.out.foldl (ft me) own0) _=T.R.own
 rw [h.last];unfold ft;cases (to != Int.ofNat 255) <;> rfl⟩
theorem EJ(h:T.Tl me own0)(to:Int):(T.send to 1 zH zL 0).Tl me own0:=⟨h.me,h.i,h.id,by
 rw [gC,h.last];unfold ft;cases (to != Int.ofNat 255) <;> rfl⟩
theorem xR(h:T.Tl me own0)(e:Int):(T.err e).Tl me own0:=⟨h.me,h.i,h.id,h.last⟩
theorem yu(h:T.Tl me own0)(y:aa):(T.set y).Tl me own0:=⟨h.me,h.i,h.id,h.last⟩
theorem AR(h:T.Tl me own0)(l:aU):(T.forget l).Tl me own0:=⟨h.me,h.i,h.id,h.last⟩
theorem xj(h:T.Tl me own0)(b:Bool):(T.o5 b).Tl me own0:=⟨h.me,h.i,h.id,h.last⟩
theorem vp(h1:T.R.me=me)(h:T.R.own=bG me)(l:aU):(T.clear 255 l).Tl me own0:=⟨h1,(by show T.R.own.i=me; rw [h]; rfl),(by show T.R.own.id=0; rw [h]; rfl),by
 show (T.send 255 3 zH l 0).out.foldl (ft me) own0=T.R.own
 rw [gC,h]; rfl⟩
theorem uy(h:T.Tl me own0):T.ga.Tl me own0:=by
 have hid:=B' T.R.me T.vs
 have hr:=pZ (me:=T.R.me) (vs:=T.vs)
 unfold ga sJ;generalize bJ T.R.me T.vs=a at *;cases h0:(a.2==Int.ofNat 0) with
 | true =>
   have e:a.2=0:=by simpa using h0
   exact w9 (T:=(T.own a.1).ask false) h.me ((hr e).2.2.1.trans h.me) hid
 | false =>
 simp only [cond_false];cases h7:(a.2==Int.ofNat 7) with
 | true =>
   simp only [cond_true];cases (!T.R.asked) with
   | true=>exact KE h 255 true
   | false=>exact h
 | false=>exact xR h _
theorem kZ(h:T.Tl me own0):T.dH.Tl me own0:=by
 unfold dH;cases (T.R.own.n&&(T.R.want&&(!T.R.asked && !T.home))) with
 | true=>exact uy h
 | false=>exact h
theorem LN{own:aa}{vs:List aa}{now:Int}{lost:Bool}(he:(bQ own vs now lost).2.2=0):(bQ own vs now lost).1.i=own.i:=by
 obtain ⟨hi,-⟩:=mP own vs now lost;generalize bQ own vs now lost=q at *;cases hi <;> first | rfl | exact absurd (show (1:Int)=0 from he) (by decide)
theorem zy(h:T.Tl me own0)(now:Int)(lost:Bool):(T.keep now lost).Tl me own0:=by
 unfold keep;cases (T.home||T.R.own.n) with
 | true=>exact h
 | false =>
 simp only [cond_false];have hid:=G7 (vs:=T.vs) (now:=now) (lost:=lost) h.id
 have hnl:=AE (own:=T.R.own) (vs:=T.vs) (now:=now) (lost:=lost)
 have hci:=LN (own:=T.R.own) (vs:=T.vs) (now:=now) (lost:=lost)
 generalize bQ T.R.own T.vs now lost=r at *;unfold vT;cases he:(r.2.2 != Int.ofNat 0) with
 | true=>exact xR h _
 | false =>
 have hi:r.1.i=me:=(hci (by simpa using he)).trans h.i
 simp only [cond_false];cases (r.2.1==Int.ofNat 0) with
 | true=>exact h
 | false =>
 simp only [cond_false];cases h4:(r.2.1==Int.ofNat 4) with
 | true =>
   have e:r.1=bG T.R.own.i:=hnl (by simpa using h4)
   rw [h.i] at e;exact kZ (vp (T:=(((T.own r.1).tell 255).forget T.yc)) h.me e _)
 | false=>exact kZ (w9 (T:=T.own r.1) h.me hi hid)
theorem zG(h:T.Tl me own0)(now:Int):(T.tZ now).Tl me own0:=by
 unfold tZ;cases T.R.own.n with
 | true=>exact kZ h
 | false=>exact zy h _ _
theorem FW(h:T.Tl me own0)(y:aa)(now:Int):(T.Ae y now).Tl me own0:=by
 have hs:=yu h y
 unfold Ae;cases (T.set y).home with
 | true=>exact hs
 | false =>
 simp only [cond_false];cases (T.set y).R.own.n with
 | false=>exact zy hs _ _
 | true =>
 simp only [Bool.not_true,cond_false];cases (T.set y).R.asked with
 | true=>exact uy hs
 | false=>exact kZ hs
theorem oJ(dest:Int)(l:aU):∀ (ids:List Int) (k:aa),(∀ i∈ids,i≠255)→(ids.map (xn dest l)).foldl (ft me) k=k
 | [],k,_=>rfl
 | i::ids,k,h=>by
   have e:ft me k (xn dest l i)=k:=by
     have:(i != Int.ofNat 255)=true:=by
       have:=h i (.head _)
       simpa [bne] using this
     unfold ft xn;simp only [this,cond_true]
   rw [List.map_cons,List.foldl_cons,e];exact oJ dest l ids k fun j hj=>h j (.tail _ hj)
theorem AJ(h:T.Tl me own0){ids:List Int}{l:aU}(hi:∀ i∈ids,i≠255):(T.tH ids l).Tl me own0:=⟨h.me,h.i,h.id,by
 show (T.out++ids.map (xn T.R.dest l)).foldl (ft me) own0=T.R.own
 rw [List.foldl_append,h.last];exact oJ _ _ _ _ hi⟩
theorem LX(h:T.Tl me own0)(hr:aF T.vs=true)(ob:aY)(now:Int):(T.C0 ob now).Tl me own0:=by
 have hf:=AR h ob.l
 unfold C0;cases (!T.home&&(!T.R.own.n&&(bA T.R.own==ob.l))) with
 | true=>exact kZ (vp (T:=((T.forget ob.l).own (bG T.R.me))) h.me (by show bG T.R.me=_; rw [h.me]) _)
 | false =>
   refine zG (AJ hf fun i hi=>?_) _
   obtain ⟨y,hy,rfl⟩:=TS.vK hi;have:=nZ ((dp.1 hr).1 y hy)
   omega
theorem qL(h1:T.R.me=me)(h2:T.R.own.i=me)(h3:T.R.own.id=0)(k:Int):(T.lp k).Tl me own0:=⟨h1,h2,h3,by
 show ((T.vM k).send 255 4 T.R.own zL k).out.foldl (ft me) own0=_
 rw [gC]; rfl⟩
theorem M7(h:T.Tl me own0)(id:Int)(ob:aY)(now:Int):(T.opt id ob now).Tl me own0:=by
 unfold opt;cases (T.home||(T.R.heard && !vX T.R.last ob.num)) with
 | true=>exact FW h _ now
 | false =>
 simp only [cond_false];unfold fresh;cases (cm false (bA ob.h).1 (bA ob.h).2.1 (bA ob.h).2.2 (wrapF .i64 (ob.h.d+Int.ofNat 1)) T.R.me != Int.ofNat 0) with
 | true=>exact xR (yu h _) _
 | false=>exact qL (T:=((T.set (bj id ob.h)).own (Ie T.R.me ob)).ask false) h.me h.me rfl _
theorem HI(h:T.Tl me own0)(hr:aF T.vs=true)(id:Int)(ob:aY)(now:Int):(T.l6 id ob now).Tl me own0:=by
 unfold l6;cases (ob.kind==Int.ofNat 1) with
 | true =>
   simp only [cond_true];unfold Oh;cases T.R.own.n with
   | true =>
     simp only [cond_true];cases (!T.R.asked) with
     | true=>exact uy h
     | false=>exact h
   | false=>exact uI h _
 | false =>
 simp only [cond_false];cases (ob.kind==Int.ofNat 2) with
 | true=>exact FW h _ _
 | false =>
 simp only [cond_false];cases (ob.kind==Int.ofNat 3) with
 | true=>exact LX h hr _ _
 | false=>exact M7 h _ _ _
theorem SC(h:T.Tl me own0)(id:Int):(T.up id).Tl me own0:=by
 have hs:=yu h (bj id (bG id))
 unfold up;cases (!T.R.own.n) <;> cases T.R.asked
 ·exact hs
 ·exact EJ hs _
 ·exact uI hs _
 ·exact EJ (uI hs _) _
end
end TS
theorem py{me:Int}{own0:aa}{T:TS}(h:T.Tl me own0)(he:(du T).e=0):(du T).Tl me own0:=by
 unfold du at he ⊢;cases hc:(T.e != Int.ofNat 0) with
 | true =>
   rw [hc] at he;have:T.e=0:=he
   rw [this] at hc;exact absurd hc (by decide)
 | false=>exact ⟨h.me,h.i,h.id,h.last⟩
theorem yD{R:ax}{f:Bool}{vs:List aa}{p:r9}(h0:R.own.id=0)(he:(cK R f vs p).e=0):(cK R f vs p).Tl R.me R.own:=by
 unfold cK at he ⊢;cases hok:iQ R vs with
 | false=>rw [hok] at he; exact c7 he (by decide)
 | true =>
 rw [hok] at he;simp only [cond_true] at he ⊢;have hR:=k9.1 hok
 have hB:(iu R f vs).Tl R.me R.own:=⟨rfl,hR.own,h0,rfl⟩
 unfold oW at he ⊢;generalize (p.call==Int.ofNat 0)=b0 at he ⊢;cases b0 with
 | true =>
   simp only [cond_true] at he ⊢;unfold Oj at he ⊢;cases hc:(!(decide (p.id≥Int.ofNat 0)&&decide (p.id<Int.ofNat 64))||(p.id==R.me)) with
   | true=>rw [hc] at he; exact c7 he (by decide)
   | false =>
   rw [hc] at he;simp only [cond_false] at he ⊢;cases hf:(aI vs p.id).isSome with
   | true=>rw [hf] at he; exact c7 he (by decide)
   | false =>
   rw [hf] at he;exact py (TS.SC hB _) he
 | false =>
 simp only [cond_false] at he ⊢;generalize (p.call==Int.ofNat 1)=b1 at he ⊢;cases b1 with
 | true =>
   simp only [cond_true] at he ⊢;unfold oG at he ⊢;cases ht:gi p.now with
   | false=>rw [ht] at he; exact c7 he (by decide)
   | true =>
   rw [ht] at he;simp only [Bool.not_true,cond_false] at he ⊢;cases hf:fnd vs p.id with
   | false=>rw [hf] at he; exact c7 he (by decide)
   | true =>
   rw [hf] at he;exact py (TS.zG (T:=⟨R,dT vs p.id,true,23,[],0⟩) ⟨rfl,hR.own,h0,rfl⟩ _) he
 | false =>
 simp only [cond_false] at he ⊢;generalize (p.call==Int.ofNat 2)=b2 at he ⊢;cases b2 with
 | true =>
   simp only [cond_true] at he ⊢;unfold gd at he ⊢;cases ht:gi p.now with
   | false=>rw [ht] at he; exact c7 he (by decide)
   | true =>
   rw [ht] at he;simp only [Bool.not_true,cond_false] at he ⊢;cases hf:(aI vs p.id).isSome with
   | false=>rw [hf] at he; exact c7 he (by decide)
   | true =>
   rw [hf] at he;simp only [Bool.not_true,cond_false] at he ⊢;cases hc:(!jZ p.ob||((p.ob.dest != R.dest)||((p.ob.kind==Int.ofNat 2||p.ob.kind==Int.ofNat 4)&&(p.ob.h.i != p.id)))) with
   | true=>rw [hc] at he; exact c7 he (by decide)
   | false =>
   rw [hc] at he;exact py (TS.HI hB hR.rt _ _ _) he
 | false =>
 simp only [cond_false] at he ⊢;generalize (p.call==Int.ofNat 3)=b3 at he ⊢;cases b3 with
 | true=>exact py (TS.kZ (TS.xj hB true)) he
 | false =>
 simp only [cond_false] at he ⊢;generalize (p.call==Int.ofNat 4)=b4 at he ⊢;cases b4 with
 | true=>exact TS.xj hB false
 | false =>
   simp only [cond_false] at he ⊢;unfold qJ at he ⊢;cases hc:((R.me != R.dest)||(decide (p.num<Int.ofNat 0)||decide (p.num>Int.ofNat 65535))) with
   | true=>rw [hc] at he; exact c7 he (by decide)
   | false=>exact TS.qL (T:=iu R f vs) rfl hR.own h0 _
namespace TS
def Fl(T:TS):Prop:=T.f=false→T.vs = []
section
variable {T:TS}
theorem uw(h:T.Fl):T.ga.Fl:=by
 unfold ga sJ;generalize bJ T.R.me T.vs=a;cases (a.2==Int.ofNat 0) with
 | true=>exact h
 | false =>
 simp only [cond_false];cases (a.2==Int.ofNat 7) with
 | true =>
   simp only [cond_true];cases (!T.R.asked) with
   | true=>exact h
   | false=>exact h
 | false=>exact h
theorem kV(h:T.Fl):T.dH.Fl:=by
 unfold dH;cases (T.R.own.n&&(T.R.want&&(!T.R.asked && !T.home))) with
 | true=>exact uw h
 | false=>exact h
theorem nR(h:T.Fl)(l:aU):(T.forget l).Fl:=fun e=>by
 have:T.vs = []:=h e
 show T.vs.map _ = []
 rw [this]; rfl
theorem uC(T:TS)(y:aa):(T.set y).Fl:=fun e=>by cases e
theorem zw(h:T.Fl)(now:Int)(lost:Bool):(T.keep now lost).Fl:=by
 unfold keep;cases (T.home||T.R.own.n) with
 | true=>exact h
 | false =>
 simp only [cond_false];generalize bQ T.R.own T.vs now lost=r;unfold vT;cases (r.2.2 != Int.ofNat 0) with
 | true=>exact h
 | false =>
 simp only [cond_false];cases (r.2.1==Int.ofNat 0) with
 | true=>exact h
 | false =>
 simp only [cond_false];cases (r.2.1==Int.ofNat 4) with
 | true=>exact kV (nR (T:=(T.own r.1).tell 255) h _)
 | false=>exact kV (T:=(T.own r.1).tell 255) h
theorem zE(h:T.Fl)(now:Int):(T.tZ now).Fl:=by
 unfold tZ;cases T.R.own.n with
 | true=>exact kV h
 | false=>exact zw h _ _
theorem FU(T:TS)(y:aa)(now:Int):(T.Ae y now).Fl:=by
 have hs:=uC T y
 unfold Ae;cases (T.set y).home with
 | true=>exact hs
 | false =>
 simp only [cond_false];cases (T.set y).R.own.n with
 | false=>exact zw hs _ _
 | true =>
 simp only [Bool.not_true,cond_false];cases (T.set y).R.asked with
 | true=>exact uw hs
 | false=>exact kV hs
theorem LV(h:T.Fl)(ob:aY)(now:Int):(T.C0 ob now).Fl:=by
 unfold C0;cases (!T.home&&(!T.R.own.n&&(bA T.R.own==ob.l))) with
 | true=>exact kV (T:=((T.forget ob.l).own (bG T.R.me)).clear 255 ob.l) (nR h _)
 | false=>exact zE (T:=(T.forget ob.l).tH (bY ob.l T.R.dest T.vs) ob.l) (nR h _) _
theorem HF(h:T.Fl)(id:Int)(ob:aY)(now:Int):(T.l6 id ob now).Fl:=by
 unfold l6;cases (ob.kind==Int.ofNat 1) with
 | true =>
   simp only [cond_true];unfold Oh;cases T.R.own.n with
   | true =>
     simp only [cond_true];cases (!T.R.asked) with
     | true=>exact uw h
     | false=>exact h
   | false=>exact h
 | false =>
 simp only [cond_false];cases (ob.kind==Int.ofNat 2) with
 | true=>exact FU _ _ _
 | false =>
 simp only [cond_false];cases (ob.kind==Int.ofNat 3) with
 | true=>exact LV h _ _
 | false =>
   simp only [cond_false];unfold opt;cases (T.home||(T.R.heard && !vX T.R.last ob.num)) with
   | true=>exact FU _ _ _
   | false =>
     simp only [cond_false];unfold fresh;cases (cm false (bA ob.h).1 (bA ob.h).2.1 (bA ob.h).2.2 (wrapF .i64 (ob.h.d+Int.ofNat 1)) T.R.me != Int.ofNat 0) with
     | true=>exact uC T _
     | false=>exact uC T _
theorem SA(T:TS)(id:Int):(T.up id).Fl:=by
 have hs:=uC T (bj id (bG id))
 unfold up;cases (!T.R.own.n) <;> cases T.R.asked <;> exact hs
end
end TS
theorem pw{T:TS}(h:T.Fl):(du T).Fl:=by
 unfold du;cases (T.e != Int.ofNat 0) with
 | true=>exact fun _=>rfl
 | false=>exact h
theorem gm(e:Int):(mT e).Fl:=fun _=>rfl
theorem GG{R:ax}{f:Bool}{vs:List aa}(h:f=false→vs = []):(iu R f vs).Fl:=h
theorem IA{R:ax}{f:Bool}{vs:List aa}{p:r9}(h:f=false→vs = []):(cK R f vs p).Fl:=by
 unfold cK;cases iQ R vs with
 | false=>exact gm _
 | true =>
 simp only [cond_true];unfold oW;generalize (p.call==Int.ofNat 0)=b0;cases b0 with
 | true =>
   simp only [cond_true];unfold Oj;generalize (!(decide (p.id≥Int.ofNat 0)&&decide (p.id<Int.ofNat 64))||(p.id==R.me))=b
   cases b with
   | true=>exact gm _
   | false =>
   simp only [cond_false];cases (aI vs p.id).isSome with
   | true=>exact gm _
   | false=>exact pw (TS.SA _ _)
 | false =>
 simp only [cond_false];generalize (p.call==Int.ofNat 1)=b1;cases b1 with
 | true =>
   simp only [cond_true];unfold oG;cases gi p.now with
   | false=>exact gm _
   | true =>
   simp only [Bool.not_true,cond_false];cases fnd vs p.id with
   | false=>exact gm _
   | true=>exact pw (TS.zE (fun e=>by cases e) _)
 | false =>
 simp only [cond_false];generalize (p.call==Int.ofNat 2)=b2;cases b2 with
 | true =>
   simp only [cond_true];unfold gd;cases gi p.now with
   | false=>exact gm _
   | true =>
   simp only [Bool.not_true,cond_false];cases (aI vs p.id).isSome with
   | false=>exact gm _
   | true =>
   simp only [Bool.not_true,cond_false];generalize (!jZ p.ob||((p.ob.dest != R.dest)||((p.ob.kind==Int.ofNat 2||p.ob.kind==Int.ofNat 4)&&(p.ob.h.i != p.id))))=b
   cases b with
   | true=>exact gm _
   | false=>exact pw (TS.HF (GG h) _ _ _)
 | false =>
 simp only [cond_false];generalize (p.call==Int.ofNat 3)=b3;cases b3 with
 | true=>exact pw (TS.kV (T:=(iu R f vs).o5 true) h)
 | false =>
 simp only [cond_false];generalize (p.call==Int.ofNat 4)=b4;cases b4 with
 | true=>exact h
 | false =>
   simp only [cond_false];unfold qJ;generalize ((R.me != R.dest)||(decide (p.num<Int.ofNat 0)||decide (p.num>Int.ofNat 65535)))=b
   cases b with
   | true=>exact gm _
   | false=>exact h
theorem sO{R:ax}{f:Bool}{vs:List aa}{p:r9}(he:(cK R f vs p).e=0)(hc:(p.call==Int.ofNat 2)=true):cK R f vs p=du ((iu R f vs).l6 p.id p.ob p.now):=by
 have e2:p.call=2:=by simpa using hc
 have hok:=(pO he).1
 unfold cK at he ⊢;rw [hok] at he ⊢;simp only [cond_true] at he ⊢;unfold oW at he ⊢;rw [e2] at he ⊢;have k0:((2:Int)==Int.ofNat 0)=false:=rfl
 have k1:((2:Int)==Int.ofNat 1)=false:=rfl
 have k2:((2:Int)==Int.ofNat 2)=true:=rfl
 rw [k0,k1,k2] at he ⊢;simp only [cond_true,cond_false] at he ⊢;unfold gd at he ⊢;cases ht:gi p.now with
 | false=>rw [ht] at he; exact c7 he (by decide)
 | true =>
 rw [ht] at he;simp only [Bool.not_true,cond_false] at he ⊢;cases hf:(aI vs p.id).isSome with
 | false=>rw [hf] at he; exact c7 he (by decide)
 | true =>
 rw [hf] at he;simp only [Bool.not_true,cond_false] at he ⊢;cases hc:(!jZ p.ob||((p.ob.dest != R.dest)||((p.ob.kind==Int.ofNat 2||p.ob.kind==Int.ofNat 4)&&(p.ob.h.i != p.id)))) with
 | true=>rw [hc] at he; exact c7 he (by decide)
 | false=>rfl
theorem Mw{R:ax}{vs:List aa}(h:Tw R vs)(hm:R.me=R.dest):R.own.n=false:=(eZ.1 (h.home hm)).1
theorem DN{R:ax}{f:Bool}{vs:List aa}{p:r9}(he:(cK R f vs p).e=0)(hc:(p.call==Int.ofNat 2)=true)(hk:(p.ob.kind==Int.ofNat 1)=true)(hm:R.me=R.dest):cK R f vs p=⟨R,vs,f,c2 f,[⟨p.id,2,R.dest,R.own,zL,0⟩],0⟩:=by
 have hn:=Mw (k9.1 (pO he).1) hm
 rw [sO he hc];unfold TS.l6 TS.Oh;rw [hk];simp only [cond_true,iu,hn,cond_false];rfl
theorem DO{R:ax}{f:Bool}{vs:List aa}{p:r9}(he:(cK R f vs p).e=0)(hc:(p.call==Int.ofNat 2)=true)(hk:(p.ob.kind==Int.ofNat 2)=true)(hm:R.me=R.dest):(cK R f vs p).out = []:=by
 have tS:(p.ob.kind==Int.ofNat 1)=false:=by
  have:p.ob.kind=2:=by simpa using hk
  rw [this]; rfl
 rw [sO he hc];unfold TS.l6;rw [tS,hk];simp only [cond_true,cond_false];have hh:((iu R f vs).set (bj p.id p.ob.h)).home=true:=by
  unfold TS.home;show (R.me==R.dest)=true
  rw [hm]; simp
 unfold TS.Ae;rw [hh];rfl
theorem AT{R:ax}{f:Bool}{vs:List aa}(hn:R.own.n=false):(fp R f vs).e=0∧(fp R f vs).R.own=R.own∧(fp R f vs).R.asked=R.asked:=by
 unfold fp TS.dH;have e:((iu R f vs).o5 true).R.own.n=false:=hn
 rw [e];simp only [Bool.false_and,cond_false];exact ⟨rfl,rfl,rfl⟩
theorem HM{R:ax}{f:Bool}{vs:List aa}{p:r9}(he:(cK R f vs p).e=0)(hm:R.me=R.dest):dh (cK R f vs p).R.own (s5 R.me)=true∧(cK R f vs p).R.asked=false:=by
 obtain ⟨-,hT⟩:=pO he;have h1:=hT.r.home (hT.me.trans (hm.trans hT.dest.symm))
 rw [hT.me] at h1;refine ⟨h1,?_⟩
 cases ha:(cK R f vs p).R.asked with
 | false=>rfl
 | true =>
   have h2:=hT.r.ask ha
   have h3:=(eZ.1 h1).1
   rw [h2] at h3; cases h3
set_option maxHeartbeats 2000000
def gw(l:List aY):af:=.cells 50 (l.flatMap oc) true
theorem jA(l:List aY):aA (gw l)=true:=qB l
def hE(x y:aa):Option Bool:=bE (x.n==y.n) (bE (x.t==y.t) (bE (x.o==y.o) (bE (x.r==y.r) (bE (x.d==y.d) (bE (x.i==y.i) (some true))))))
def lE(x y:aU):Option Bool:=bE (x.1==y.1) (bE (x.2.1==y.2.1) (bE (x.2.2==y.2.2) (some true)))
theorem xF(b:Bool)(r:Option Bool)(h:b=true):bE b r=r:=by subst h; rfl
theorem HC(x:aa):hE x x=some true:=by unfold hE; simp only [xF _ _ (beq_self_eq_true _)]
theorem HR(x:aU):lE x x=some true:=by unfold lE; simp only [xF _ _ (beq_self_eq_true _)]
theorem Qs(x:aY):fstV ((aBin Tryz.prog .neq 50 (.agg #[.int .i64 x.to,.int .i64 x.kind,.int .i64 x.dest,.bool x.h.n,.int .i64 x.h.t,.int .i64 x.h.o,.int .i64 x.h.r,.int .i64 x.h.d,.int .i64 x.h.i,.int .i64 x.l.1,.int .i64 x.l.2.1,.int .i64 x.l.2.2,.int .i64 x.num]) (.agg #[.int .i64 x.to,.int .i64 x.kind,.int .i64 x.dest,.bool x.h.n,.int .i64 x.h.t,.int .i64 x.h.o,.int .i64 x.h.r,.int .i64 x.h.d,.int .i64 x.h.i,.int .i64 x.l.1,.int .i64 x.l.2.1,.int .i64 x.l.2.2,.int .i64 x.num])).map fun v=>(v,none))=some (.bool false):=by
 have h:aBin Tryz.prog .neq 50 (.agg #[.int .i64 x.to,.int .i64 x.kind,.int .i64 x.dest,.bool x.h.n,.int .i64 x.h.t,.int .i64 x.h.o,.int .i64 x.h.r,.int .i64 x.h.d,.int .i64 x.h.i,.int .i64 x.l.1,.int .i64 x.l.2.1,.int .i64 x.l.2.2,.int .i64 x.num]) (.agg #[.int .i64 x.to,.int .i64 x.kind,.int .i64 x.dest,.bool x.h.n,.int .i64 x.h.t,.int .i64 x.h.o,.int .i64 x.h.r,.int .i64 x.h.d,.int .i64 x.h.i,.int .i64 x.l.1,.int .i64 x.l.2.1,.int .i64 x.l.2.2,.int .i64 x.num])=(bE (x.to==x.to) (p7 (bE (x.kind==x.kind) (bE (x.dest==x.dest) (p7 (hE x.h x.h) (p7 (lE x.l x.l) (bE (x.num==x.num) (some true)))))) (some true))).map fun b=>.bool (!b):=by kernel_rfl
 rw [h,HC,HR];simp only [xF _ _ (beq_self_eq_true _)];rfl
noncomputable def SL:Ext:=cS Tryz.prog []
theorem s7:ExtOk Tryz.prog SL:=aT .nil
noncomputable def xS:Code:=(Tryz.f21.body).getD .skip
theorem K8:Tryz.f21.body=some xS:=by kernel_rfl
theorem UM:Tryz.f21.ntmps=26:=by kernel_rfl
theorem Xw:codeSafe Tryz.prog 26 xS=true:=by kernel_rfl
noncomputable def H3:Code:=pB (pR (pL (pR (pR (xS)))))
noncomputable def MK:Code:=pU H3
theorem H4:H3 = .loop MK:=by kernel_rfl
theorem Sx:codeSafe Tryz.prog 26 MK=true:=by kernel_rfl
theorem Tu(us:List aY)(c1 c2:Nat)(W:bh)(X:fe)(Q:Value→List af→List Nat→List af→Prop):((some (.bool ((Int.ofNat us.length) != (Int.ofNat us.length))):OV)=some (.bool false)∧(uS 2 [(gw us),(gw us)]∧(∀ g,bm Tryz.prog 26 W 0 X H3 (av 26 g [(0,.slice (some ⟨0,0,none⟩) us.length c1),(1,.slice (some ⟨1,0,none⟩) us.length c2),(5,iN 0)] [(gw us),(gw us)]) (LQ (fun (_:Unit) g=>(.exit 0,av 26 g [] [])) (fun (_:Unit)=>True)))∧(∀ (_:Unit) (g:Nat→Value),True→Q (.bool true) [] [] [])))=WF Tryz.prog SL Tryz.f21 26 W 0 X 60 xS ⟨tmsOf [ae 0 us.length c1,ae 1 us.length c2] 0 .leaf,heapOf [gw us,gw us,.dead] aE,[]⟩ (.v 5 (.bool false) (.l 7 2 [0,1] [0,1,5] Unit (fun (_:Unit) g=>(.exit 0,av 26 g [] [])) (fun (_:Unit)=>True) (.stop 0 [] []))) Q:=by kernel_rfl
theorem I4(us:List aY)(c1 c2 i:Nat)(x:aY)(nx:Bool)(g:Nat→Value)(Q:Exit→St→Prop):let v0:Value:=.agg #[Iv x.to,Iv x.kind,Iv x.dest,.bool x.h.n,Iv x.h.t,Iv x.h.o,Iv x.h.r,Iv x.h.d,Iv x.h.i,Iv x.l.1,Iv x.l.2.1,Iv x.l.2.2,Iv x.num];let v1:Value:=.slice (some ⟨0,0,none⟩) us.length c1;let v2:Value:=.slice (some ⟨1,0,none⟩) us.length c2;(((decide ((Int.ofNat i)<(Int.ofNat us.length)))=true→(fstV ((aIndexAddr Tryz.prog 34 (v1) (iN i)).map fun v=>(v,none)):OV)=some (pb 0 (i*13))∧((aLoad Tryz.prog (heapOf [(gw us),(gw us),.dead] aE).get 50 (pb 0 (i*13)):OV)=some (v0)∧((fstV ((aIndexAddr Tryz.prog 34 (v2) (iN i)).map fun v=>(v,none)):OV)=some (pb 1 (i*13))∧((aLoad Tryz.prog (heapOf [(gw us),(gw us),.dead] aE).get 50 (pb 1 (i*13)):OV)=some (v0)∧((fstV ((aBin Tryz.prog .neq 50 (v0) (v0)).map fun v=>(v,none)):OV)=some (.bool false)∧((some (Iv (wrapF .i64 (Int.ofNat i+Int.ofNat 1))):OV)=some (iN (i+1))∧(uS 2 [(gw us),(gw us)]∧∀ g,Q .normal (av 26 g [(0,v1),(1,v2),(5,iN (i+1))] [(gw us),(gw us)]))))))))∧((decide ((Int.ofNat i)<(Int.ofNat us.length)))=false→∀ g,Q (.exit 0) (av 26 g [] [])))=RT Tryz.prog SL 26 0 60 MK (av 26 g [(0,v1),(1,v2),(5,iN i)] [(gw us),(gw us)]) (.b 3 (.v 6 (pb 0 (i*13)) (.v 7 (v0) (.v 10 (pb 1 (i*13)) (.v 11 (v0) (.v 12 (.bool false) (.v 14 (iN (i+1)) (.stop 2 [0,1] [0,1,5]))))))) (.stop 0 [] [])) Q:=by (intros;kernel_rfl)
theorem O8:tagg Tryz.prog 50=some true:=by kernel_rfl
theorem NN:bZ Tryz.prog 50=some 13:=by kernel_rfl
theorem Es{hp:Hp}{b:Nat}{us:List aY}{i:Nat}{x:aY}(hg:hp.get b=some (gw us))(h:us[i]? = some x):aLoad Tryz.prog hp.get 50 (pb b (i*13))=some (.agg (oc x).toArray):=M5 O8 NN 0 hg h (by decide) rfl
theorem Jw{b n i c:Nat}(h:i<n):fstV ((aIndexAddr Tryz.prog 34 (ae b n c) (iN i)).map fun v=>(v,none))=some (pb b (i*13)):=by
 have h1:(0:Int)≤Int.ofNat i∧Int.ofNat i<(n:Int):=⟨Int.natCast_nonneg i,by simpa using h⟩
 have hz:bZ Tryz.prog 50=some 13:=by kernel_rfl
 simp only [aIndexAddr,iN,ae,Tryz.underlying34,hz];rw [if_pos h1];simp [fstV,pb]
theorem MR(us:List aY)(hn:us.length<1000000)(c1 c2:Nat)(W:bh)(X:fe)(g:Nat→Value) :
  bm Tryz.prog 26 W 0 X H3 (av 26 g [(0,.slice (some ⟨0,0,none⟩) us.length c1),(1,.slice (some ⟨1,0,none⟩) us.length c2),(5,iN (0))] [(gw us),(gw us)]) (LQ (fun (_:Unit) g=>(.exit 0,av 26 g [] [])) (fun (_:Unit)=>True)):=by
 rw [H4];refine bm.fold (vs:=us) (fun (_:Unit) _=>()) () (fun _ i g=>(av 26 g [(0,.slice (some ⟨0,0,none⟩) us.length c1),(1,.slice (some ⟨1,0,none⟩) us.length c2),(5,iN (i))] [(gw us),(gw us)])) (fun k g hk=>?_) (fun i x k g hx hlt hk=>?_) g
 ·refine bm.EE s7 follows Sx (I4 us c1 c2 us.length ⟨0,0,0,zH,zL,0⟩ false g _) ?_
  refine ⟨fun h_3=>Bool.noConfusion (h_3.symm.trans (decide_eq_false (by simp))),fun h_3=>fun g=>?_⟩
  exact ⟨by simp,(),g,trivial,rfl,rfl⟩
 ·have hw:(some (Value.int .i64 (wrapF .i64 (Int.ofNat i+Int.ofNat 1))))=some (iN (i+1)):=bz (by omega)
  have hnx:false=false:=rfl
  refine bm.EE s7 follows Sx (I4 us c1 c2 i x false g _) ?_
  refine ⟨fun h_3=>⟨Jw hlt,Es (bk rfl) hx,Jw hlt,Es (bk rfl) hx,((hnx▸Qs x)).trans (aH hnx),hw,Pr (jA _) (jA _),fun g=>?_⟩,fun h_3=>Bool.noConfusion ((decide_eq_true (by simpa using hlt)).symm.trans h_3)⟩
  exact .inl ⟨rfl,g,rfl⟩
theorem Ij(us:List aY)(hn:us.length<1000000)(c1 c2:Nat)(W:bh):ah Tryz.prog 26 W xS ⟨tmsOf [ae 0 us.length c1,ae 1 us.length c2] 0 .leaf,heapOf [gw us,gw us,.dead] aE,[]⟩ (fc Tryz.prog Tryz.f21 OT):=bm.WV fun X=>by
 have hloop:=fun g=>MR us hn c1 c2 W X g
 have hne:(Int.ofNat us.length != Int.ofNat us.length)=false:=by simp
 refine bm.uj s7 follows Xw (Tu us c1 c2 W X _) ?_
 exact ⟨aH hne,Pr (jA _) (jA _),hloop,fun _ g hok=>rfl⟩
theorem OR(Q:Value→List af→List Nat→List af→Prop):(Q (.bool true) [] [] [])=RF Tryz.prog SL Tryz.f21 60 xS ⟨tmsOf [au,au] 0 .leaf,heapOf [.dead] aE,[]⟩ (.stop 0 [] []) Q:=by kernel_rfl
theorem Ew(W:bh):ah Tryz.prog 26 W xS ⟨tmsOf [au,au] 0 .leaf,heapOf [.dead] aE,[]⟩ (fc Tryz.prog Tryz.f21 OT):=bm.WV fun X=>by
 refine bm.bW s7 follows Xw (OR _) ?_
 exact rfl
def SO(us:List aY)(s t:Value)(hp:Hp):Prop :=
 (s=au∧t=au∧us = [])∨∃ b1 c1 b2 c2,s=ae b1 us.length c1∧t=ae b2 us.length c2∧b1≠b2∧hp.get b1=some (pj us)∧hp.get b2=some (pj us)
open Classical in
noncomputable def gSO:aC:=fun args hp=>match args with
 | [s,t]=>if ∃ us,us.length<1000000∧SO us s t hp then some (.bool true,heapOf ([] ++ [.dead]) hp) else none
 | _=>none
theorem Ui:aq Tryz.prog 21 gSO:=cW follows Tryz.func21 K8 (by kernel_rfl) fun args hp v hp' h hk=>by
 unfold gSO at h;rw [UM];split at h
 case h_2=>cases h
 rename_i s t;split at h
 case isFalse=>cases h
 rename_i hT;obtain ⟨us,hn,hT⟩:=hT;cases h;have fin:∀ {e:Exit} {st:St},fc Tryz.prog Tryz.f21 OT e st→(e = .normal∨e = .ret)∧st.df = []∧∃ v0,retVal Tryz.prog Tryz.f21 st=some v0∧hU v0=true ∧
   (∀ b∈([]:List Nat),∃ o,st.hp.get b=some o∧cR o=true∧mq o=true)∧.bool true=sh3 [] hp.sz v0∧[]=cH [] hp.sz st.hp:=by
  rintro e st ⟨q1,q2,v1,z,O,K,Nw,q3,q4,q5,rfl⟩;exact ⟨q1,q2,_,q3,rfl,(fun b hb=>by cases hb),rfl,rfl⟩
 rcases hT with ⟨rfl,rfl,rfl⟩ | ⟨b1,c1,b2,c2,rfl,rfl,hne,h1,h2⟩
 ·refine ⟨[],[],[],rfl,rfl,rfl,rfl,(fun b hb=>by cases hb),rfl,(by simp),fun W=>?_⟩
  have e1 : [au,au].map (sh3 [] 0) = [au,au]:=by simp [sh3,sh2,sh1,au]
  rw [e1];exact ah.mono (Ew W) fun e st q=>fin q
 ·have hbe:Nat.beq b1 b2=false:=by
   cases e:Nat.beq b1 b2 with
   | false=>rfl
   | true=>exact absurd (Nat.eq_of_beq_eq_true e) hne
  have i1:=l9 us
  refine ⟨[b1,b2],[],[],rfl,rfl,?_,rfl,fun b' hb'=>?_,rfl,(by simp),fun W=>?_⟩
  ·simp [nodupB,hbe]
  ·have:b'=b1∨b'=b2:=by simpa using hb'
   rcases this with rfl | rfl
   ·exact ⟨_,h1,aS i1⟩
   ·exact ⟨_,h2,aS i1⟩
  ·have e1 : [ae b1 us.length c1,ae b2 us.length c2].map (sh3 [b1,b2] 0) = [ae 0 us.length c1,ae 1 us.length c2]:=by
      simp [sh3,sh2,sh1,jj,idxOf,ae,hbe]
   rw [e1,Fo h1 h2 i1 i1];exact ah.mono (Ij us hn c1 c2 W) fun e st q=>fin q
open Classical in
theorem Me{us:List aY}{s t:Value}{hp:Hp}(h:SO us s t hp)(hn:us.length<1000000):gSO [s,t] hp=some (.bool true,heapOf [.dead] hp):=by
 unfold gSO;simp only;rw [if_pos ⟨us,hn,h⟩];rfl
set_option maxHeartbeats 4000000
noncomputable def Xb:Ext:=fh (cS Tryz.prog []) [(22,j6),(79,fq),(67,r6)]
theorem J8:ExtOk Tryz.prog Xb:=bC (aT .nil) (.cons PF (.cons Jo (.cons DM .nil)))
noncomputable def Ht:Code:=(Tryz.f30.body).getD .skip
theorem Ld:Tryz.f30.body=some Ht:=by kernel_rfl
theorem UQ:Tryz.f30.ntmps=10:=by kernel_rfl
theorem Yl:codeSafe Tryz.prog 10 Ht=true:=by kernel_rfl
theorem Tz(f:Bool)(o:af)(vs:List aa)(c:Nat)(R:ax)(T1:TS)(Q:Value→List af→List Nat→List af→Prop):let v0:Value:=vS (false||oF T1.out) 11 (0+T1.out.length) 40;let b1:af:=.cells 26 (fZ R (vS f 0 vs.length c)) false;let b2:af:=.cells 26 (fZ zR (au)) false;let b3:af:=bv (false||oF T1.out) (aJ ([]++T1.out.flatMap oc));let b4:af:=.cells 95 (cv T1.R (vS T1.f 10 T1.vs.length T1.c) [iN 0] (v0) T1.e) false;let b5:af:=bv T1.f (LtA.ab T1.vs);(HT (j6 [.agg #[Iv R.me,Iv R.dest,.bool R.own.n,Iv R.own.t,Iv R.own.o,Iv R.own.r,Iv R.own.d,Iv R.own.i,vS f 0 vs.length c,.bool R.asked,.bool R.want,.bool R.heard,Iv R.last]]) (heapOf [o,.dead,b1,b2,b1,b2] aE) (iN 0) [.dead]∧(HT (fq [vS f 0 vs.length c]) (heapOf [o,.dead,b1,b2,b1,b2,.dead] aE) (vS f 7 vs.length (c2 f)) [(bv f (LtA.ab vs)),.dead]∧(HE (r6 [pb 9 0]) (heapOf [o,.dead,b1,b2,.cells 26 (fZ R (vS f 7 vs.length (c2 f))) false,b2,.dead,(bv f (LtA.ab vs)),.dead,.cells 95 (cv (⟨R.me,R.dest,R.own,R.asked,true,R.heard,R.last⟩) (vS f 7 vs.length (c2 f)) [iN 0] (au) (Int.ofNat 0)) false] aE) (.tuple #[]) ([.put 9 (b4)]++bI f 7++bI false 1 ++ [.push (b5),.push (b3),.push .dead])∧(((T1.e != (Int.ofNat 0))=true→(some (Iv T1.e):OV)=some (Iv T1.e)∧(Q (.tuple #[.agg #[iN 0,iN 0,.bool false,iN 0,iN 0,iN 0,iN 0,iN 0,au,.bool false,.bool false,.bool false,iN 0],au,Iv T1.e]) [o] [] []))∧((T1.e != (Int.ofNat 0))=false→(some (v0):OV)=some (v0)∧(Q (.tuple #[.agg #[Iv T1.R.me,Iv T1.R.dest,.bool T1.R.own.n,Iv T1.R.own.t,Iv T1.R.own.o,Iv T1.R.own.r,Iv T1.R.own.d,Iv T1.R.own.i,vS T1.f 10 T1.vs.length T1.c,.bool T1.R.asked,.bool T1.R.want,.bool T1.R.heard,Iv T1.R.last],v0,iN 0]) [o] [10,11] [(b5),(b3)]))))))=RF Tryz.prog Xb Tryz.f30 300 Ht ⟨tmsOf [dC R (vS f 0 vs.length c)] 0 .leaf,heapOf [o,.dead] aE,[]⟩ (.h 11 (iN 0) [.dead] (.h 35 (vS f 7 vs.length (c2 f)) [(bv f (LtA.ab vs)),.dead] (.e 52 (.tuple #[]) ([.put 9 (b4)]++bI f 7++bI false 1 ++ [.push (b5),.push (b3),.push .dead]) (.b 57 (.stop 1 [] []) (.stop 1 [10,11] []))))) Q:=by cases f <;> (rcases T1 with ⟨_,_,fT1,_,oT1,_⟩; cases fT1 <;> cases oT1) <;> (intros;kernel_rfl)
def wantA:ax→Bool→List aa→List Value→Option TS:=fun R f vs rest=>match rest with
 | []=>bif iQ R vs then some (fp R f vs) else none
 | _=>none
theorem RI(R:ax)(f:Bool)(vs:List aa)(h0:R.own.id=0)(hn:vs.length<1000000):∀ rest T,wantA R f vs rest=some T→RunT Tryz.f30 Ht 10 R f vs rest T:=fun rest T h=>by
 unfold wantA at h;split at h
 case h_2=>cases h
 cases hok:iQ R vs with
 | false=>rw [hok] at h; cases h
 | true =>
 rw [hok] at h;cases h;refine ⟨(by intro x hx; simp at hx),by simp,fun o c W X ho hrow hfl=>?_⟩
 have T0:∀ {hp:Hp},hp.get 0=some o→TN vs (vS f 0 vs.length c) hp:=fun hg=>fW ho hrow hfl hg
 have hf0:f=false→vs = []∧c2 f=0:=fun h=>⟨(hfl h).1,by rw [h]; rfl⟩
 have hclone:∀ {hp:Hp},hp.get 0=some o→fq [vS f 0 vs.length c] hp=some (vS f hp.sz vs.length (c2 f),heapOf [bv f (LtA.ab vs),.dead] hp):=fun hg=>ei (T0 hg) hn fun h=>(hfl h).1
 have hck:∀ {hp:Hp},hp.get 0=some o→j6 [dC R (vS f 0 vs.length c)] hp=some (.int .i64 (bif iQ R vs then 0 else 1),heapOf [.dead] hp):=fun hg=>fy h0 (T0 hg) hn
 rw [hok] at hck;obtain ⟨T1,hT1⟩:∃ T,((⟨⟨R.me,R.dest,R.own,R.asked,true,R.heard,R.last⟩,vs,f,(c2 f),[],(Int.ofNat 0)⟩:TS).dH)=T:=⟨_,rfl⟩;refine bm.bW J8 follows Yl (Tz f o vs c R T1 _) ?_
 unfold fp;refine ⟨hck (bk rfl),hclone (bk rfl),fz hT1 h0 (bk rfl) (bk rfl) hf0 (bk rfl) (fun _=>⟨rfl,rfl⟩) rfl rfl (by decide) hn,fun h_57=>⟨rfl,cz.e9 (T1.e) ?_⟩,fun h_57=>⟨rfl,cz.rT (T':=(⟨T1.R,T1.vs,T1.f,T1.c,T1.out,(Int.ofNat 0)⟩:TS)) (f2:=(false||oF T1.out)) (n2:=(0+T1.out.length)) (L2:=([]++T1.out.flatMap oc)) (by first | rfl | (simp; done)) (by first | rfl | (simp; done) | (simp; omega)) (by first | rfl | (simp [oF]; done)) ⟨rfl,10,11,rfl,rfl,fun _ _=>by decide,fun _=>⟨rfl,0,rfl,rfl⟩,fun _=>⟨rfl,1,rfl,rfl⟩⟩ ?_⟩⟩
 all_goals (clear hck hclone T0 ho hrow hfl hf0; (try simp only [iu,TS.o5, *,mo]); first | done | rfl | (refine Eq.trans ?_ (congrArg du hT1).symm; simp only [du, *,mo]; first | done | rfl) | (simp only [du, *,mo]; first | done | rfl))
noncomputable def Ko:aC:=toldT wantA
theorem Ul:aq Tryz.prog 30 Ko:=rn Tryz.func30 Ld (by kernel_rfl) UQ RI
theorem Kp{R:ax}{f:Bool}{vs:List aa}{b c:Nat}{hp:Hp}(h0:R.own.id=0)(h:TN vs (vS f b vs.length c) hp)(hn:vs.length<1000000)(hok:iQ R vs=true) :
  Ko [dC R (vS f b vs.length c)] hp=some (nP (fp R f vs) hp.sz (hp.sz+1),heapOf [bv (fp R f vs).f (LtA.ab (fp R f vs).vs),bv (oF (fp R f vs).out) (pj (fp R f vs).out),.dead] hp) :=
 xb h0 nf h hn (by unfold wantA; rw [hok]; rfl)
set_option maxHeartbeats 4000000
noncomputable def W6:Ext:=fh (cS Tryz.prog [(19,gAw20)]) [(15,OH),(30,Ko),(56,gSM),(21,gSO)]
theorem J2:ExtOk Tryz.prog W6:=bC (aT (.cons Mm .nil)) (.cons Uj (.cons Ul (.cons Uh (.cons Ui .nil))))
noncomputable def Hn:Code:=(Tryz.f9.body).getD .skip
theorem K5:Tryz.f9.body=some Hn:=by kernel_rfl
theorem UJ:Tryz.f9.ntmps=114:=by kernel_rfl
theorem Yg:codeSafe Tryz.prog 114 Hn=true:=by kernel_rfl
theorem Tn(f:Bool)(o:af)(vs:List aa)(c:Nat)(R:ax)(p:r9)(T Y:TS)(Q:Value→List af→List Nat→List af→Prop):let b0:af:=.cells 32 [Iv p.call,Iv p.id,Iv p.ob.kind,Iv p.ob.dest,.bool p.ob.h.n,Iv p.ob.h.t,Iv p.ob.h.o,Iv p.ob.h.r,Iv p.ob.h.d,Iv p.ob.h.i,Iv p.ob.l.1,Iv p.ob.l.2.1,Iv p.ob.l.2.2,Iv p.ob.num,Iv p.now,Iv p.num] false;let v1:Value:=.tuple #[.agg #[Iv Y.R.me,Iv Y.R.dest,.bool Y.R.own.n,Iv Y.R.own.t,Iv Y.R.own.o,Iv Y.R.own.r,Iv Y.R.own.d,Iv Y.R.own.i,vS Y.f 8 Y.vs.length Y.c,.bool Y.R.asked,.bool Y.R.want,.bool Y.R.heard,Iv Y.R.last],vS (oF Y.out) 9 Y.out.length 40,Iv Y.e];let v2:Value:=.agg #[.bool T.R.own.n,Iv T.R.own.t,Iv T.R.own.o,Iv T.R.own.r,Iv T.R.own.d,Iv T.R.own.i];let v5:Value:=.agg #[.bool Y.R.own.n,Iv Y.R.own.t,Iv Y.R.own.o,Iv Y.R.own.r,Iv Y.R.own.d,Iv Y.R.own.i];let b6:af:=.cells 26 (fZ R (vS f 0 vs.length c)) false;let b8:af:=(bv (oF Y.out) (aJ (Y.out.flatMap oc)));let b9:af:=.cells 30 (oP ⟨0,(Int.ofNat 2),R.dest,(⟨0,false,(Int.ofNat 0),(Int.ofNat 0),(Int.ofNat 0),(Int.ofNat 0),R.me⟩:aa),zL,(Int.ofNat 0)⟩) false;let b10:af:=(bv (oF T.out) (aJ (T.out.flatMap oc)));let v11:Value:=.agg #[.bool false,iN 0,iN 0,iN 0,iN 0,Iv R.me];let b12:af:=(bv Y.f (LtA.ab Y.vs));let b13:af:=(bv T.f (LtA.ab T.vs));let b14:af:=.cells 23 [.bool false,iN 0,iN 0,iN 0,iN 0,Iv R.me] false;let v15:Value:=vS (oF T.out) 5 T.out.length 40;let v16:Value:=vS T.f 4 T.vs.length T.c;let v3:Value:=.agg #[Iv T.R.me,Iv T.R.dest,.bool T.R.own.n,Iv T.R.own.t,Iv T.R.own.o,Iv T.R.own.r,Iv T.R.own.d,Iv T.R.own.i,v16,.bool T.R.asked,.bool T.R.want,.bool T.R.heard,Iv T.R.last];let b7:af:=.cells 26 (fZ T.R (v16)) false;let h4:Hp:=heapOf [o,.dead,b6,b0,b13,b10,.dead,b7] aE;(((decide ((Int.ofNat (kk f vs.length))>(Int.ofNat 80)))=true→Q (.bool true) [] [] [])∧((decide ((Int.ofNat (kk f vs.length))>(Int.ofNat 80)))=false→((R.me != R.dest)=true→Q (.bool true) [] [] [])∧((R.me != R.dest)=false→HT (OH [.agg #[Iv R.me,Iv R.dest,.bool R.own.n,Iv R.own.t,Iv R.own.o,Iv R.own.r,Iv R.own.d,Iv R.own.i,vS f 0 vs.length c,.bool R.asked,.bool R.want,.bool R.heard,Iv R.last],.agg #[Iv p.call,Iv p.id,Iv p.ob.kind,Iv p.ob.dest,.bool p.ob.h.n,Iv p.ob.h.t,Iv p.ob.h.o,Iv p.ob.h.r,Iv p.ob.h.d,Iv p.ob.h.i,Iv p.ob.l.1,Iv p.ob.l.2.1,Iv p.ob.l.2.2,Iv p.ob.num,Iv p.now,Iv p.num]]) (heapOf [o,.dead,b6,b0] aE) (.tuple #[v3,v15,Iv T.e]) [b13,b10,.dead]∧(((T.e != (Int.ofNat 0))=true→Q (.bool true) [] [] [])∧((T.e != (Int.ofNat 0))=false→((p.call==(Int.ofNat 2))=true→((p.ob.kind==(Int.ofNat 1))=true→(some (Iv R.dest):OV)=some (Iv R.dest)∧((some (.bool (T.R.me==R.me)):OV)=some (.bool true)∧((some (.bool (T.R.dest==R.dest)):OV)=some (.bool true)∧((fstV ((aBin Tryz.prog .eql 23 (v2) (.agg #[.bool R.own.n,Iv R.own.t,Iv R.own.o,Iv R.own.r,Iv R.own.d,Iv R.own.i])).map fun v=>(v,none)):OV)=some (.bool true)∧(HT (gSM [v16,vS f 0 vs.length c]) (heapOf [o,.dead,b6,b0,b13,b10,.dead,b7,b14,b9,b7,b6] aE) (.bool true) [.dead]∧((some (.bool (T.R.asked==R.asked)):OV)=some (.bool true)∧((some (.bool (T.R.want==R.want)):OV)=some (.bool true)∧((some (.bool (T.R.heard==R.heard)):OV)=some (.bool true)∧((some (.bool (T.R.last==R.last)):OV)=some (.bool true)∧(HT (gSO [v15,.slice (some ⟨13,0,none⟩) 1 40]) (heapOf [o,.dead,b6,b0,b13,b10,.dead,b7,b14,b9,b7,b6,.dead,.cells 50 (oc ⟨p.id,(Int.ofNat 2),R.dest,(⟨0,false,(Int.ofNat 0),(Int.ofNat 0),(Int.ofNat 0),(Int.ofNat 0),R.me⟩:aa),zL,(Int.ofNat 0)⟩) false] aE) (.bool true) [.dead]∧(Q (.bool true) [] [] [])))))))))))∧((p.ob.kind==(Int.ofNat 1))=false→(some (.bool (p.call==(Int.ofNat 2))):OV)=some (.bool true)∧(((p.ob.kind==(Int.ofNat 2))=true→(some (.bool ((Int.ofNat (kk (oF T.out) T.out.length)) != (Int.ofNat 0))):OV)=some (.bool false)∧(HT (Ko [v3]) (h4) (v1) [b12,b8,.dead]∧((fstV ((aBin Tryz.prog .eql 23 (v2) (v11)).map fun v=>(v,none)):OV)=some (.bool true)∧((some (.bool (!T.R.asked)):OV)=some (.bool true)∧((some (.bool (Y.e==(Int.ofNat 0))):OV)=some (.bool true)∧((fstV ((aBin Tryz.prog .eql 23 (v5) (v2)).map fun v=>(v,none)):OV)=some (.bool true)∧((some (v2):OV)=some (v2)∧(Q (.bool (!Y.R.asked)) [] [] []))))))))∧((p.ob.kind==(Int.ofNat 2))=false→HT (Ko [v3]) (h4) (v1) [b12,b8,.dead]∧((fstV ((aBin Tryz.prog .eql 23 (v2) (v11)).map fun v=>(v,none)):OV)=some (.bool true)∧((some (.bool (!T.R.asked)):OV)=some (.bool true)∧((some (.bool (Y.e==(Int.ofNat 0))):OV)=some (.bool true)∧((fstV ((aBin Tryz.prog .eql 23 (v5) (v2)).map fun v=>(v,none)):OV)=some (.bool true)∧((some (v2):OV)=some (v2)∧(Q (.bool (!Y.R.asked)) [] [] []))))))))))∧((p.call==(Int.ofNat 2))=false→(some (.bool (p.call==(Int.ofNat 2))):OV)=some (.bool false)∧(HT (Ko [v3]) (h4) (v1) [b12,b8,.dead]∧((fstV ((aBin Tryz.prog .eql 23 (v2) (v11)).map fun v=>(v,none)):OV)=some (.bool true)∧((some (.bool (!T.R.asked)):OV)=some (.bool true)∧((some (.bool (Y.e==(Int.ofNat 0))):OV)=some (.bool true)∧((fstV ((aBin Tryz.prog .eql 23 (v5) (v2)).map fun v=>(v,none)):OV)=some (.bool true)∧((some (v2):OV)=some (v2)∧(Q (.bool (!Y.R.asked)) [] [] [])))))))))))))=RF Tryz.prog W6 Tryz.f9 300 Hn ⟨tmsOf [dC R (vS f 0 vs.length c),Eu p] 0 .leaf,heapOf [o,.dead] aE,[]⟩ (.b 6 (.stop 0 [] []) (.b 12 (.stop 0 [] []) (.h 16 (.tuple #[v3,v15,Iv T.e]) [b13,b10,.dead] (.b 26 (.stop 0 [] []) (.b 29 (.b 34 (.v 60 (.bool true) (.v 66 (.bool true) (.v 73 (.bool true) (.h 80 (.bool true) [.dead] (.v 87 (.bool true) (.v 94 (.bool true) (.v 101 (.bool true) (.v 108 (.bool true) (.h 119 (.bool true) [.dead] (.stop 0 [] [])))))))))) (.v 38 (.bool true) (.b 43 (.v 48 (.bool false) (.h 51 (v1) [b12,b8,.dead] (.v 71 (.bool true) (.v 76 (.bool true) (.v 80 (.bool true) (.v 87 (.bool true) (.stop 0 [] []))))))) (.h 48 (v1) [b12,b8,.dead] (.v 68 (.bool true) (.v 73 (.bool true) (.v 77 (.bool true) (.v 84 (.bool true) (.stop 0 [] []))))))))) (.v 34 (.bool false) (.h 40 (v1) [b12,b8,.dead] (.v 60 (.bool true) (.v 65 (.bool true) (.v 69 (.bool true) (.v 76 (.bool true) (.stop 0 [] [])))))))))))) Q:=by cases f <;> (rcases T with ⟨_,_,fT,_,oT,_⟩; cases fT <;> cases oT) <;> (rcases Y with ⟨_,_,fY,_,oY,_⟩; cases fY <;> cases oY) <;> (intros;kernel_rfl)
theorem D6(f:Bool)(o:af)(R:ax)(h0:R.own.id=0)(vs:List aa)(p:r9)(hp:Gx p)(c:Nat)(ho:aA o=true)(hrow:vs = []∨∃ ty ro,o = .cells ty (aK vs) ro)(hfl:f=false→vs = []∧o = .dead)(W:bh) :
  ah Tryz.prog 114 W Hn ⟨tmsOf [dC R (vS f 0 vs.length c),Eu p] 0 .leaf,heapOf [o,.dead] aE,[]⟩ (fc Tryz.prog Tryz.f9 OT):=bm.WV fun X=>by
 have hkk:=qt hfl
 refine bm.bW J2 follows Yg (Tn f o vs c R p (cK R f vs p) (fp (cK R f vs p).R (cK R f vs p).f (cK R f vs p).vs) _) ?_
 rcases Nat.lt_or_ge 80 vs.length with h80 | h80
 ·exact ⟨fun h_6=>rfl,fun h_6=>Bool.noConfusion ((Ps hkk h80).symm.trans h_6)⟩
 ·have hn:vs.length<1000000:=by omega
  have T0:∀ {hp:Hp},hp.get 0=some o→TN vs (vS f 0 vs.length c) hp:=fun hg=>fW ho hrow hfl hg
  have hstep:∀ {hp:Hp},hp.get 0=some o→OH [dC R (vS f 0 vs.length c),Eu p] hp=_:=fun hg=>Kl h0 hp (T0 hg) hn
  have hF:=IA (R:=R) (f:=f) (vs:=vs) (p:=p) fun e=>(hfl e).1
  have hO:=pO (R:=R) (f:=f) (vs:=vs) (p:=p)
  have hI:=yD (R:=R) (f:=f) (vs:=vs) (p:=p) h0
  have hq0:=DN (R:=R) (f:=f) (vs:=vs) (p:=p)
  have hu0:=DO (R:=R) (f:=f) (vs:=vs) (p:=p)
  have hz0:=HM (R:=R) (f:=f) (vs:=vs) (p:=p)
  generalize cK R f vs p=T at *;rcases two (T.e != Int.ofNat 0) with he | he
  ·exact ⟨fun h_6=>Bool.noConfusion (h_6.symm.trans (Jk hkk h80)),fun h_6=>⟨fun h_12=>rfl,fun h_12=>⟨hstep (bk rfl),fun h_26=>rfl,fun h_26=>Bool.noConfusion (he.symm.trans h_26)⟩⟩⟩
  ·
    have he0:T.e=0:=by simpa using he
    obtain ⟨hk,hT⟩:=hO he0;have hid:=(hI he0).id
    have hvs:T.vs.length<1000000:=Nat.lt_of_le_of_lt (kA hT.r.rt) (by omega)
    have hwant:∀ {hp:Hp},hp.get 4=some (bv T.f (LtA.ab T.vs))→Ko [dC T.R (vS T.f 4 T.vs.length T.c)] hp=_:=fun hg=>Kp hid (o0 hg hF) hvs (k9.2 hT.r)
    have hmd:(R.me != R.dest)=false→R.me=R.dest:=fun e=>by simpa using e
    have hz:(R.me != R.dest)=false→dh T.R.own (⟨0,false,(Int.ofNat 0),(Int.ofNat 0),(Int.ofNat 0),(Int.ofNat 0),R.me⟩:aa)=true∧(!T.R.asked)=true:=fun e=>by
      obtain ⟨a,b⟩:=hz0 he0 (hmd e);exact ⟨a,by rw [b]; rfl⟩
    have hY:(R.me != R.dest)=false→((fp T.R T.f T.vs).e==Int.ofNat 0)=true∧dh (fp T.R T.f T.vs).R.own T.R.own=true∧(!(fp T.R T.f T.vs).R.asked)=true:=fun e=>by
      obtain ⟨a,b⟩:=hz0 he0 (hmd e);obtain ⟨w1,w2,w3⟩:=AT (f:=T.f) (vs:=T.vs) (eZ.1 a).1;rw [w1,w2,w3,b];exact ⟨rfl,eZ.2 ⟨rfl,rfl,rfl,rfl,rfl,rfl⟩,rfl⟩
    have hu:(R.me != R.dest)=false→(p.call==Int.ofNat 2)=true→(p.ob.kind==Int.ofNat 2)=true→(Int.ofNat (kk (oF T.out) T.out.length) != Int.ofNat 0)=false:=fun e e1 e2=>by
      rw [hu0 he0 e1 e2 (hmd e)]; rfl
    have hqT:(R.me != R.dest)=false→(p.call==Int.ofNat 2)=true→(p.ob.kind==Int.ofNat 1)=true→T=⟨R,vs,f,c2 f,[⟨p.id,2,R.dest,R.own,zL,0⟩],0⟩:=fun e e1 e2=>hq0 he0 e1 e2 (hmd e)
    have hq:(R.me != R.dest)=false→(p.call==Int.ofNat 2)=true→(p.ob.kind==Int.ofNat 1)=true→(T.R.me==R.me)=true∧(T.R.dest==R.dest)=true∧dh T.R.own R.own=true∧(T.R.asked==R.asked)=true∧(T.R.want==R.want)=true∧(T.R.heard==R.heard)=true∧(T.R.last==R.last)=true:=fun e e1 e2=>by
      rw [hqT e e1 e2];simp [eZ]
    have hown:(R.me != R.dest)=false→R.own=s5 R.me:=fun e=>by
      obtain ⟨a1,a2,a3,a4,a5,a6⟩:=eZ.1 ((k9.1 hk).home (hmd e));obtain ⟨me,dest,⟨id,n,t,oo,r,d,i⟩,a,w,hd,l⟩:=R;simp only [s5] at *;subst h0 a1 a2 a3 a4 a5 a6;rfl
    have hsm:(p.call==Int.ofNat 2)=true→(p.ob.kind==Int.ofNat 1)=true→∀ {hp:Hp},(R.me != R.dest)=false→hp.get 4=some (bv T.f (LtA.ab T.vs))→hp.get 0=some o→gSM [vS T.f 4 T.vs.length T.c,vS f 0 vs.length c] hp=some (.bool true,heapOf [.dead] hp):=fun e1 e2 hp e g1 g2=>by
      rw [hqT e e1 e2] at g1 ⊢;refine Md (us:=vs) ?_ hn
      cases f with
      | false=>exact .inl ⟨rfl,rfl,(hfl rfl).1⟩
      | true=>exact .inr (.inr (.inr ⟨_,_,_,_,_,_,rfl,rfl,by decide,g1,g2,LtA.aw _,ho,.inr ⟨_,_,rfl⟩,hrow⟩))
    have hso:(p.call==Int.ofNat 2)=true→(p.ob.kind==Int.ofNat 1)=true→∀ {hp:Hp},(R.me != R.dest)=false→hp.get 5=some (bv (oF T.out) (pj T.out))→hp.get 13=some (.cells 50 (oc ⟨p.id,(Int.ofNat 2),R.dest,(⟨0,false,(Int.ofNat 0),(Int.ofNat 0),(Int.ofNat 0),(Int.ofNat 0),R.me⟩:aa),zL,(Int.ofNat 0)⟩) false)→gSO [vS (oF T.out) 5 T.out.length 40,.slice (some ⟨13,0,none⟩) 1 40] hp=some (.bool true,heapOf [.dead] hp):=fun e1 e2 hp e g1 g2=>by
      rw [hqT e e1 e2,hown e] at g1 ⊢;exact Me (us:=[⟨p.id,2,R.dest,s5 R.me,zL,0⟩]) (.inr ⟨_,_,_,_,rfl,rfl,by decide,g1,g2⟩) (by simp)
    clear hO hI hq0 hu0 hz0;generalize fp T.R T.f T.vs=Y at *;refine ⟨fun h_6=>Bool.noConfusion (h_6.symm.trans (Jk hkk h80)),fun h_6=>⟨fun h_12=>uU ?_,fun h_12=>⟨hstep (bk rfl),fun h_26=>Bool.noConfusion (h_26.symm.trans he),fun h_26=>⟨fun h_29=>⟨fun h_34=>⟨rfl,aH (hq ‹_› ‹_› ‹_›).1,aH (hq ‹_› ‹_› ‹_›).2.1,(xO T.R.own R.own).trans (aH (hq ‹_› ‹_› ‹_›).2.2.1),hsm ‹_› ‹_› ‹_› (bk rfl) (bk rfl),aH (hq ‹_› ‹_› ‹_›).2.2.2.1,aH (hq ‹_› ‹_› ‹_›).2.2.2.2.1,aH (hq ‹_› ‹_› ‹_›).2.2.2.2.2.1,aH (hq ‹_› ‹_› ‹_›).2.2.2.2.2.2,hso ‹_› ‹_› ‹_› (bk rfl) (bk rfl),uU ?_⟩,fun h_34=>⟨aH h_29,fun h_43=>⟨aH (hu ‹_› ‹_› ‹_›),hwant (bk rfl),(xO T.R.own (⟨0,false,(Int.ofNat 0),(Int.ofNat 0),(Int.ofNat 0),(Int.ofNat 0),R.me⟩:aa)).trans (aH (hz ‹_›).1),aH (hz ‹_›).2,aH (hY ‹_›).1,(xO Y.R.own T.R.own).trans (aH (hY ‹_›).2.1),rfl,uU ?_⟩,fun h_43=>⟨hwant (bk rfl),(xO T.R.own (⟨0,false,(Int.ofNat 0),(Int.ofNat 0),(Int.ofNat 0),(Int.ofNat 0),R.me⟩:aa)).trans (aH (hz ‹_›).1),aH (hz ‹_›).2,aH (hY ‹_›).1,(xO Y.R.own T.R.own).trans (aH (hY ‹_›).2.1),rfl,uU ?_⟩⟩⟩,fun h_29=>⟨aH h_29,hwant (bk rfl),(xO T.R.own (⟨0,false,(Int.ofNat 0),(Int.ofNat 0),(Int.ofNat 0),(Int.ofNat 0),R.me⟩:aa)).trans (aH (hz ‹_›).1),aH (hz ‹_›).2,aH (hY ‹_›).1,(xO Y.R.own T.R.own).trans (aH (hY ‹_›).2.1),rfl,uU ?_⟩⟩⟩⟩⟩
    all_goals first | rfl | (rw [(hY ‹_›).2.2])
end Go.Proofs.YtgeoommlmddgpaaGreat.LtL
namespace Go.Proofs.YtgeoommlmddgpaaGreat.LtL
open Go Go.Proofs Go.Proofs.YtgeoommlmddgpaaGreat.AI Go.RowKit Go.ChangeShapes Go.Proofs.YtgeoommlmddgpaaGreat.LtA
theorem MI:laidOutB Tryz.prog=true:=by kernel_rfl
theorem QA:ownKnob Tryz.prog.godebug=none:=by kernel_rfl
theorem NX{H:Type}{enc:TypeId×Value→H}(W:World)(base:Nat)(args:Array Value)(ds:List (DataW H))(p:List MemPlace)(hsz:args.size=2)(hval:∀ (j:Nat) t v,Tryz.f9.params[j]? = some t→args[j]? = some v→Value.okWide Tryz.prog W .any base t v)
  (hA:DataW.TrodAll enc Tryz.prog W 0 (fun _=>true) true [26,32] args.toList ds p):Calls Tryz.prog 9 args W fun e W'=>e = .returned (.bool true)∧Below W.heap.size W W':=by
 obtain ⟨v0,v1,rfl⟩:∃ v0 v1,args = #[v0,v1]:=by
  obtain ⟨l⟩:=args;match l,hsz with
  | [a,b],_=>exact ⟨a,b,rfl⟩
 obtain ⟨p,hop,rfl⟩:=Ic (hval 1 32 v1 (by kernel_rfl) rfl)
 obtain ⟨w0,ws0,d0,ds0,p0,q0,e0,_,_,hT,_⟩:=trodAll_cons hA;cases e0;obtain ⟨R,f,o,vs,m,h0,hi,sim,ro,rv,hrow,hfl⟩:=yj (hval 0 26 v0 (by kernel_rfl) rfl) hT
 refine HS Tryz.func9 K5 UJ W (args0:=[dC R (vS f 0 vs.length 2),Eu p]) (by simp) (bF _ _ iO) sim ro (.cons rv (.cons (aj.plain rfl) .nil)) fun W=>?_
 exact ah.mono (D6 f o R h0 vs p hop 2 hi hrow hfl W) fun e st h=>by
  obtain ⟨q1,q2,v1,z,O,K,Nw,q3,_,_,rfl⟩:=h;exact ⟨q1,q2,q3⟩
theorem ED:∀ t∈Tryz.f9.params.toList,Tryz.prog.readableRec t=true∧t<Tryz.prog.types.size:=by
 have h:Tryz.f9.params.toList.all (fun t=>Tryz.prog.readableRec t&&decide (t<Tryz.prog.types.size))=true:=by kernel_rfl
 intro t ht;have:=List.all_eq_true.1 h t ht
 simpa using this
theorem Ed(os:Os)(started:os.Started)(H:Type)(enc:TypeId×Value→H) :
  ReturnsInHanded {} Tryz.checked os 9 .any (Rows.coreHomeSpec.pre6 enc Tryz.prog Tryz.f9 Rows.coreHomeRow.domain false) (Rows.coreHomeSpec.post enc Tryz.prog Tryz.f9 false true false false) :=
 yb (C:=Tryz.checked) (tb:=4) started QA (by kernel_rfl) Tryz.func9 MI ED rfl (by kernel_rfl) Tryz.underlying4
  (fun ds hl=>by
    match ds,hl with
    | [_,_],_=>rfl)
  (ChangeSpec.witness6 (enc:=enc) (C:=Tryz.checked) false ⟨#[],#[dC zR au,Eu ⟨0,0,⟨0,0,0,zH,zL,0⟩,0,0⟩],[]⟩ 8 (by kernel_rfl) (by kernel_rfl) (by kernel_rfl) (by kernel_rfl))
  (fun W base args ds p hsz hval hA=>NX W base args ds p hsz hval hA)
theorem coreHome_proved:Rows.CoreHomeSaid :=
 OpenClaim.holds_of_wide 9 Tryz.f9 rfl rfl rfl rfl rfl rfl rfl ⟨rfl,rfl,rfl,rfl,rfl⟩ rfl rfl rfl rfl rfl (by kernel_rfl) Tryz.func9 (by kernel_rfl)
  (of_decide_eq_true (by kernel_rfl)) (by unfold Func.isWrapper; first | (rw [if_pos (by decide +kernel)]; kernel_rfl) | (rw [if_neg (by decide +kernel)]; exact ⟨rfl,rfl⟩))
  (fun os started H enc _=>Ed os started H enc)
end Go.Proofs.YtgeoommlmddgpaaGreat.LtL
