/- CoreDown, of the given program: for every route and call the law returns true, and the arguments read asv they did. No condition. -/
import Derived.Test.YtgeoommlmddgpaaGreatXeG
import Derived.Test.YtgeoommlmddgpaaGreatRows
set_option linter.unusedVariables false
set_option linter.unusedSimpArgs false
set_option maxRecDepth 100000
namespace Go.Proofs.YtgeoommlmddgpaaGreat.LtL
open Go Go.Proofs Go.Proofs.YtgeoommlmddgpaaGreat.AI Go.RowKit Go.Proofs.YtgeoommlmddgpaaGreat.Sort Go.Proofs.YtgeoommlmddgpaaGreat.LtA
theorem qK{i:Int}(h1:0≤i)(h2:i<64):dG true 0 0 0 0 i=true:=by
 unfold dG dA;simp [h1,h2]
theorem Im{t o r d i d' i':Int}(h:dG false t o r d i=true)(h1 : -1099511627776≤d'∧d'≤1099511627776)(h2:0≤i'∧i'<64):dG false t o r d' i'=true:=by
 unfold dG at h ⊢;simp only [cond_false,Bool.and_eq_true,decide_eq_true_eq,ge_iff_le] at h ⊢;exact ⟨h2.1,h2.2,h.2.2.1,h.2.2.2.1,h.2.2.2.2.1,h.2.2.2.2.2.1,h.2.2.2.2.2.2.1,h1⟩
theorem Ba{x:aa}(h:cy x=true):cy (LtA.bO x)=true:=by
 obtain ⟨h1,h2,h3,-⟩:=lp h;unfold cy r7 LtA.bO;rw [mW];have h4:=qK (i:=x.i) (by omega) (by omega)
 simp only [Bool.and_eq_true,decide_eq_true_eq,beq_iff_eq];exact ⟨h1,h2,h3,h4⟩
theorem xQ(lt lo lr keep:Int)(x:aa):(kv lt lo lr keep x).id=x.id:=by unfold kv; cases kx lt lo lr keep x <;> rfl
theorem HF{lt lo lr keep:Int}{x:aa}(h:cy x=true):cy (kv lt lo lr keep x)=true:=by
 unfold kv;cases kx lt lo lr keep x with
 | false=>exact h
 | true=>exact Ba h
theorem AW{lt lo lr keep:Int}{vs:List aa}(h:aF vs=true):aF (vs.map (kv lt lo lr keep))=true:=by
 obtain ⟨h1,h2⟩:=cG.1 h;refine cG.2 ⟨fun x hx=>?_,?_⟩
 ·obtain ⟨y,hy,rfl⟩:=List.mem_map.1 hx
  exact HF (h1 y hy)
 ·refine List.pairwise_map.2 ?_
  simp only [xQ];exact h2
theorem mZ{vs:List aa}{id:Int}{x:aa}(h:x∈eB vs id):x∈vs:=(List.eraseIdx_sublist _ _).subset h
theorem qq{vs:List aa}{id:Int}(h:aF vs=true):aF (eB vs id)=true:=by
 obtain ⟨h1,h2⟩:=cG.1 h;exact cG.2 ⟨fun x hx=>h1 x (mZ hx),h2.sublist (List.eraseIdx_sublist _ _)⟩
theorem fI{vs:List aa}{id:Int}:(aH vs id).isSome=false↔∀ x∈vs,x.id≠id:=by
 unfold aH;cases h:vs.find? (rY id) with
 | none =>
   have:=List.find?_eq_none.1 h
   exact ⟨fun _ x hx e=>this x hx (by simp [rY,e]),fun _=>rfl⟩
 | some y =>
   refine ⟨fun h=>(by cases h),fun hx=>?_⟩
   have h1:=List.mem_of_find?_eq_some h
   have h2:=List.find?_some h
   exact absurd (by simpa [rY] using h2) (hx y h1)
theorem lR{vs:List aa}{id:Int}:(aH vs id).isSome=true↔∃ x∈vs,x.id=id:=by
 constructor
 ·intro h
  obtain ⟨y,hy⟩:=Option.isSome_iff_exists.1 h;exact ⟨y,List.mem_of_find?_eq_some hy,by have:=List.find?_some hy; simpa [rY] using this⟩
 ·rintro ⟨x,hx,e⟩
  cases h:(aH vs id).isSome with
  | true=>rfl
  | false=>exact absurd e (fI.1 h x hx)
def JR(me:Int):aa:=⟨0,false,0,0,0,0,me⟩
structure Ws (R:au) (vs:List aa):Prop where
 me:0≤R.me∧R.me<64
 dest:0≤R.dest∧R.dest<64
 own:R.own.i=R.me
 self:∀ x∈vs,x.id≠R.me
 ok:dG R.own.n R.own.t R.own.o R.own.r R.own.d R.own.i=true
 rt:aF vs=true
 ask:R.asked=true→R.own.n=true
 last:0≤R.last∧R.last≤65535∧(0<R.last→R.heard=true)
 home:R.me=R.dest→dH R.own (JR R.me)=true
theorem pQ{R:au}{vs:List aa}:jZ R vs=true↔Ws R vs:=by
 unfold jZ z8;constructor
 ·intro h
  simp only [Bool.and_eq_true,decide_eq_true_eq,Bool.not_eq_true',decide_eq_false_iff_not,ge_iff_le,Int.ofNat_eq_natCast,Bool.and_eq_false_iff,bne_eq_false_iff_eq,gt_iff_lt,Int.not_lt] at h;obtain ⟨⟨⟨⟨⟨⟨⟨⟨⟨⟨h1,h2⟩,h3⟩,h4⟩,h5⟩,h6⟩,h7⟩,h8⟩,h9⟩,h10⟩,h11⟩:=h;refine ⟨by omega,by omega,h3,fI.1 h4,h5,h6,fun ha=>?_,⟨by omega,by omega,fun hl=>?_⟩,fun hm=>?_⟩
  ·rcases h7 with h | h
   ·rw [ha] at h; cases h
   ·simpa using h
  ·rcases h10 with h | h
   ·exact absurd hl (by omega)
   ·simpa using h
  ·rcases h11 with h | h
   ·rw [hm] at h; simp at h
   ·simpa [JR] using h
 ·intro h
  have e1:=fI.2 h.self
  have e2:(R.asked && !R.own.n)=false:=by
    cases ha:R.asked with
    | false=>rfl
    | true=>rw [h.ask ha]; rfl
  have e3:(decide (R.last>Int.ofNat 0) && !R.heard)=false:=by
    by_cases hl:0<R.last
    ·rw [h.last.2.2 hl]; simp
    ·rw [decide_eq_false (by simpa using hl)]; rfl
  have e4:((R.me==R.dest) && !dH R.own ⟨0,false,0,0,0,0,R.me⟩)=false:=by
    by_cases hm:R.me=R.dest
    ·have e5:dH R.own ⟨0,false,0,0,0,0,R.me⟩=true:=h.home hm
     rw [e5]; simp
    ·rw [beq_false_of_ne hm]; rfl
  have e6:(R.own.i != R.me)=false:=by rw [h.own]; simp
  rw [e1,e2,e3,e4,e6,h.ok,h.rt];obtain ⟨⟨a1,a2⟩,⟨a3,a4⟩,-,-,-,-,-,⟨a5,a6,-⟩,-⟩:=h;simp only [Int.ofNat_eq_natCast,ge_iff_le,Bool.not_false,Bool.and_true,Bool.and_eq_true,decide_eq_true_eq,Bool.not_eq_true',decide_eq_false_iff_not,Int.not_lt,gt_iff_lt];refine ⟨⟨⟨⟨?_,?_⟩,?_,?_⟩,?_⟩,?_⟩ <;> simp <;> omega
def S8(dest:Int)(vs:List aa)(x:bb):Prop:=iQ x=true∧x.dest=dest∧(x.to=255∨∃ y∈vs,y.id=x.to)
theorem uh{to dest:Int}(h:0≤dest∧dest<64):iQ ⟨to,1,dest,zH,zL,0⟩=true:=by
 unfold iQ;simp [h.1,h.2,zH,zL,zO]
theorem EH{to dest:Int}{v:aa}(h:0≤dest∧dest<64)(hv:dG v.n v.t v.o v.r v.d v.i=true):iQ ⟨to,2,dest,v,zL,0⟩=true:=by
 unfold iQ;simp [h.1,h.2,zL,zO,hv]
theorem Ab{to dest:Int}{l:aQ}(h:0≤dest∧dest<64)(hv:dG false l.1 l.2.1 l.2.2 0 0=true):iQ ⟨to,3,dest,zH,l,0⟩=true:=by
 unfold iQ;simp [h.1,h.2,zH,zO,hv]
theorem Io{to dest num:Int}{v:aa}(h:0≤dest∧dest<64)(hn:v.n=false)(hk:0≤num∧num≤65535)(hv:dG v.n v.t v.o v.r v.d v.i=true):iQ ⟨to,4,dest,v,zL,num⟩=true:=by
 rw [hn] at hv;unfold iQ;simp [h.1,h.2,zL,zO,hv,hn,hk.1,hk.2]
theorem Qk{x:bb}(h:iQ x=true)(hk:x.kind=2∨x.kind=4):dG x.h.n x.h.t x.h.o x.h.r x.h.d x.h.i=true:=by
 unfold iQ at h;rcases hk with hk | hk <;> rw [hk] at h <;> simp at h
 ·exact h.2.2.1
 ·exact h.2.2.2.2.2.1
theorem JC{x:bb}(h:iQ x=true)(hk:x.kind=3):dG false x.l.1 x.l.2.1 x.l.2.2 0 0=true:=by
 unfold iQ at h;rw [hk] at h;simp at h;exact h.2.2.1
theorem JD{x:bb}(h:iQ x=true)(hk:x.kind=4):x.h.n=false∧0≤x.num∧x.num≤65535:=by
 unfold iQ at h;rw [hk] at h;simp at h;exact ⟨h.2.2.1,h.2.2.2.1,h.2.2.2.2.1⟩
theorem AB{me:Int}{vs:List aa}(h:(bW me vs).2=0):dG (bW me vs).1.n (bW me vs).1.t (bW me vs).1.o (bW me vs).1.r (bW me vs).1.d (bW me vs).1.i=true:=by
 unfold bW at h ⊢;cases hr:aF vs with
 | false=>rw [hr] at h; exact absurd (show (1:Int)=0 from h) (by decide)
 | true =>
 rw [hr] at h;simp only [Bool.not_true,cond_false] at h ⊢;cases hz:dG false (Int.ofNat 0) (Int.ofNat 0) (Int.ofNat 0) (Int.ofNat 0) me with
 | false=>rw [hz] at h; exact absurd (show (1:Int)=0 from h) (by decide)
 | true =>
 rw [hz] at h;simp only [Bool.not_true,cond_false] at h ⊢;cases hl:(eP vs).2 with
 | false=>rw [hl] at h; exact absurd (show (7:Int)=0 from h) (by decide)
 | true =>
 rw [hl] at h;simp only [Bool.not_true,cond_false] at h ⊢;unfold OX at h ⊢;cases ho:dG false (bm (eP vs).1).1 (bm (eP vs).1).2.1 (bm (eP vs).1).2.2 (wrapF .i64 ((eP vs).1.d+Int.ofNat 1)) me with
 | false=>rw [ho] at h; exact absurd (show (1:Int)=0 from h) (by decide)
 | true=>exact ho
theorem H8{vs:List aa}(hr:aF vs=true){l:aQ}(h:l∈bG (aT vs)):dG false l.1 l.2.1 l.2.2 0 0=true:=by
 obtain ⟨x,hx,hk,rfl⟩:=ub h;obtain ⟨hn,ho⟩:=zF hk;rw [hn] at ho;exact Im ho ⟨by decide,by decide⟩ ⟨by decide,by decide⟩
namespace TS
structure Ok (m d:Int) (T:TS):Prop where
 r:Ws T.R T.vs
 me:T.R.me=m
 dest:T.R.dest=d
 out:∀ x∈T.out,S8 d T.vs x
section
variable {me dest:Int} {T:TS}
theorem lD(h:T.Ok me dest){to kind:Int}{v:aa}{l:aQ}{num:Int}(hx:iQ ⟨to,kind,dest,v,l,num⟩=true)(ht:to=255∨∃ y∈T.vs,y.id=to):(T.send to kind v l num).Ok me dest:=by
 refine ⟨h.r,h.me,h.dest,fun x hx'=>?_⟩
 have hx':x∈T.out ++ [⟨to,kind,T.R.dest,v,l,num⟩]:=hx'
 rcases List.mem_append.1 hx' with hx' | hx'
 ·exact h.out x hx'
 ·rw [List.mem_singleton] at hx'
  subst hx';rw [h.dest];exact ⟨hx,rfl,ht⟩
theorem Ok.d64(h:T.Ok me dest):0≤dest∧dest<64:=h.dest▸h.r.dest
theorem Ok.m64(h:T.Ok me dest):0≤me∧me<64:=h.me▸h.r.me
theorem pZ(h:T.Ok me dest){to:Int}(ht:to=255∨∃ y∈T.vs,y.id=to):(T.tell to).Ok me dest:=lD h (EH h.d64 h.r.ok) ht
theorem vt(h:T.Ok me dest){to:Int}{l:aQ}(hl:dG false l.1 l.2.1 l.2.2 0 0=true)(ht:to=255∨∃ y∈T.vs,y.id=to):(T.clear to l).Ok me dest:=lD h (Ab h.d64 hl) ht
theorem xP(h:T.Ok me dest)(e:Int):(T.err e).Ok me dest:=⟨h.r,h.me,h.dest,h.out⟩
theorem EP(h:T.Ok me dest){v:aa}(hv:dG v.n v.t v.o v.r v.d v.i=true)(hi:v.i=me)(ha:T.R.asked=true→v.n=true)(hm:me≠dest):(T.own v).Ok me dest :=
 ⟨⟨h.r.me,h.r.dest,hi.trans h.me.symm,h.r.self,hv,h.r.rt,ha,h.r.last,fun e=>absurd ((h.me.symm.trans e).trans h.dest) hm⟩,h.me,h.dest,h.out⟩
theorem An(h:T.Ok me dest){v:aa}(hv:dG v.n v.t v.o v.r v.d v.i=true)(hi:v.i=me)(hm:me≠dest):((T.own v).ask false).Ok me dest :=
 ⟨⟨h.r.me,h.r.dest,hi.trans h.me.symm,h.r.self,hv,h.r.rt,(fun e=>by cases e),h.r.last,fun e=>absurd ((h.me.symm.trans e).trans h.dest) hm⟩,h.me,h.dest,h.out⟩
theorem KH(h:T.Ok me dest)(hn:T.R.own.n=true)(b:Bool):(T.ask b).Ok me dest :=
 ⟨⟨h.r.me,h.r.dest,h.r.own,h.r.self,h.r.ok,h.r.rt,(fun _=>hn),h.r.last,h.r.home⟩,h.me,h.dest,h.out⟩
theorem xk(h:T.Ok me dest)(b:Bool):(T.s8 b).Ok me dest :=
 ⟨⟨h.r.me,h.r.dest,h.r.own,h.r.self,h.r.ok,h.r.rt,h.r.ask,h.r.last,h.r.home⟩,h.me,h.dest,h.out⟩
theorem DX(h:T.Ok me dest){k:Int}(hk:0≤k∧k≤65535):(T.zx k).Ok me dest :=
 ⟨⟨h.r.me,h.r.dest,h.r.own,h.r.self,h.r.ok,h.r.rt,h.r.ask,⟨hk.1,hk.2,fun _=>rfl⟩,h.r.home⟩,h.me,h.dest,h.out⟩
theorem Ok.Tc(h:T.Ok me dest)(hn:T.R.own.n=true):me≠dest:=fun e=>by
 have:=h.r.home ((h.me.trans e).trans h.dest.symm)
 have:=(jj.1 this).1
 rw [hn] at this; cases this
theorem Ok.tV(h:T.Ok me dest)(hh:T.home=false):me≠dest:=fun e=>by
 unfold home at hh;rw [h.me,h.dest,e] at hh;simp at hh
theorem uA(h:T.Ok me dest)(hn:T.R.own.n=true):T.ga.Ok me dest:=by
 have hm:=h.Tc hn
 have hok:=AB (me:=T.R.me) (vs:=T.vs)
 have hr:=qd (me:=T.R.me) (vs:=T.vs)
 unfold ga sU;generalize bW T.R.me T.vs=a at *;cases h0:(a.2==Int.ofNat 0) with
 | true =>
   have e:a.2=0:=by simpa using h0
   have h1:=An h (hok e) ((hr e).2.2.1.trans h.me) hm
   exact pZ h1 (.inl rfl)
 | false =>
 simp only [cond_false];cases h7:(a.2==Int.ofNat 7) with
 | true =>
   simp only [cond_true];cases (!T.R.asked) with
   | true=>exact lD (KH h hn true) (uh h.d64) (.inl rfl)
   | false=>exact h
 | false=>exact xP h _
theorem lh(h:T.Ok me dest):T.dS.Ok me dest:=by
 unfold dS;cases hc:(T.R.own.n&&(T.R.want&&(!T.R.asked && !T.home))) with
 | true=>exact uA h (by simp only [Bool.and_eq_true] at hc; exact hc.1)
 | false=>exact h
theorem mg{l:aQ}{k:Int}(h:∃ y∈T.vs,y.id=k):∃ y∈(T.forget l).vs,y.id=k:=by
 obtain ⟨y,hy,e⟩:=h;exact ⟨_,List.mem_map.2 ⟨y,hy,rfl⟩,(xQ _ _ _ _ _).trans e⟩
theorem oe(h:T.Ok me dest)(l:aQ):(T.forget l).Ok me dest:=by
 refine ⟨⟨h.r.me,h.r.dest,h.r.own,fun x hx=>?_,h.r.ok,AW h.r.rt,h.r.ask,h.r.last,h.r.home⟩,h.me,h.dest,fun x hx=>?_⟩
 ·have hx:x∈T.vs.map _:=hx
  obtain ⟨y,hy,rfl⟩:=List.mem_map.1 hx;rw [xQ];exact h.r.self y hy
 ·obtain ⟨h1,h2,h3⟩:=h.out x hx
  refine ⟨h1,h2,?_⟩
  rcases h3 with h3 | h3
  ·exact .inl h3
  ·exact .inr (mg h3)
theorem IA{vs:List aa}{y:aa}(hr:aF vs=true){k:Int}(h:∃ x∈vs,x.id=k):∃ x∈cr vs y,x.id=k:=by
 obtain ⟨x,hx,e⟩:=h;by_cases hy:x.id=y.id
 ·exact ⟨y,(gU hr).2 (.inl rfl),hy.symm.trans e⟩
 ·exact ⟨x,(gU hr).2 (.inr ⟨hx,hy⟩),e⟩
theorem uF(h:T.Ok me dest){y:aa}(hy:cy y=true)(hm:y.id≠me):(T.set y).Ok me dest:=by
 refine ⟨⟨h.r.me,h.r.dest,h.r.own,fun x hx=>?_,h.r.ok,yq h.r.rt hy,h.r.ask,h.r.last,h.r.home⟩,h.me,h.dest,fun x hx=>?_⟩
 ·have hx:x∈cr T.vs y:=hx
  rcases (gU h.r.rt).1 hx with rfl | ⟨hx,-⟩
  ·show x.id≠T.R.me
   rw [h.me]; exact hm
  ·exact h.r.self x hx
 ·obtain ⟨h1,h2,h3⟩:=h.out x hx
  refine ⟨h1,h2,?_⟩
  rcases h3 with h3 | h3
  ·exact .inl h3
  ·exact .inr (IA h.r.rt h3)
theorem zf(h:T.Ok me dest){now:Int}{lost:Bool}(he:(bJ T.R.own T.vs now lost).2.2=0):dG (bJ T.R.own T.vs now lost).1.n (bJ T.R.own T.vs now lost).1.t (bJ T.R.own T.vs now lost).1.o (bJ T.R.own T.vs now lost).1.r (bJ T.R.own T.vs now lost).1.d (bJ T.R.own T.vs now lost).1.i=true ∧
  (bJ T.R.own T.vs now lost).1.i=me∧((bJ T.R.own T.vs now lost).2.1=4→dG false T.A7.1 T.A7.2.1 T.A7.2.2 0 0=true):=by
 obtain ⟨hi,hq⟩:=mV T.R.own T.vs now lost;have h64:=h.m64
 have hown:T.R.own.i=me:=h.r.own.trans h.me
 have hnull:dG (bO T.R.own.i).n (bO T.R.own.i).t (bO T.R.own.i).o (bO T.R.own.i).r (bO T.R.own.i).d (bO T.R.own.i).i=true:=by
  rw [hown]; exact qK h64.1 h64.2
 generalize bJ T.R.own T.vs now lost=q at *;cases hi with
 | bad=>exact absurd (show (1:Int)=0 from he) (by decide)
 | stay _=>exact ⟨h.r.ok,hown,fun h=>absurd (show (0:Int)=4 from h) (by decide)⟩
 | alone _ _ _=>exact ⟨hnull,hown,fun h=>absurd (show (6:Int)=4 from h) (by decide)⟩
 | lost top _ _ _ _ ho=>exact ⟨ho,hown,fun h=>absurd (show (1:Int)=4 from h) (by decide)⟩
 | gene top _ _ _ _ ho=>exact ⟨ho,hown,fun h=>absurd (show (5:Int)=4 from h) (by decide)⟩
 | prop top _ _ _ _ ho=>exact ⟨ho,hown,fun h=>absurd (show (2:Int)=4 from h) (by decide)⟩
 | refl top _ _ _ _ _ ho=>exact ⟨ho,hown,fun h=>absurd (show (3:Int)=4 from h) (by decide)⟩
 | dete top _ _ hl _ _ _ =>
   refine ⟨hnull,hown,fun _=>H8 h.r.rt ?_⟩
   have:=uM hl
   unfold A7;cases e:bG (aT T.vs) with
   | nil=>rw [e] at this; cases this
   | cons a b=>exact .head _
theorem zD(h:T.Ok me dest)(now:Int)(lost:Bool):(T.keep now lost).Ok me dest:=by
 unfold keep;cases hh:(T.home||T.R.own.n) with
 | true=>exact h
 | false =>
 simp only [cond_false];obtain ⟨hh,hn⟩:=Bool.or_eq_false_iff.1 hh;have hm:=h.tV hh
 have ha:T.R.asked=false:=by
  cases ha:T.R.asked with
  | false=>rfl
  | true=>rw [h.r.ask ha] at hn; cases hn
 have hc:=zf h (now:=now) (lost:=lost)
 generalize bJ T.R.own T.vs now lost=r at *;unfold vY;cases he:(r.2.2 != Int.ofNat 0) with
 | true=>exact xP h _
 | false =>
 obtain ⟨h1,h2,h3⟩:=hc (by simpa using he)
 simp only [cond_false];cases (r.2.1==Int.ofNat 0) with
 | true=>exact h
 | false =>
 simp only [cond_false];have hT:=pZ (EP h h1 h2 (fun e=>by rw [ha] at e; cases e) hm) (to:=255) (.inl rfl)
 cases h4:(r.2.1==Int.ofNat 4) with
 | true=>exact lh (vt (oe hT _) (h3 (by simpa using h4)) (.inl rfl))
 | false=>exact lh hT
theorem zU(h:T.Ok me dest)(now:Int):(T.rZ now).Ok me dest:=by
 unfold rZ;cases T.R.own.n with
 | true=>exact lh h
 | false=>exact zD h _ _
theorem F9(h:T.Ok me dest){y:aa}(hy:cy y=true)(hm:y.id≠me)(now:Int):(T.Ao y now).Ok me dest:=by
 have hs:=uF h hy hm
 unfold Ao;cases (T.set y).home with
 | true=>exact hs
 | false =>
 simp only [cond_false];cases hn:(T.set y).R.own.n with
 | false=>exact zD hs _ _
 | true =>
 simp only [Bool.not_true,cond_false];cases (T.set y).R.asked with
 | true=>exact uA hs hn
 | false=>exact lh hs
theorem sj(h:T.Ok me dest){ids:List Int}{l:aQ}(hl:dG false l.1 l.2.1 l.2.2 0 0=true)(hi:∀ k∈ids,∃ y∈T.vs,y.id=k):(T.xM ids l).Ok me dest:=by
 refine ⟨h.r,h.me,h.dest,fun x hx=>?_⟩
 have hx:x∈T.out++ids.map (BL T.R.dest l):=hx
 rcases List.mem_append.1 hx with hx | hx
 ·exact h.out x hx
 ·obtain ⟨k,hk,rfl⟩:=List.mem_map.1 hx
  unfold BL;rw [h.dest];exact ⟨Ab h.d64 hl,rfl,.inr (hi k hk)⟩
theorem vP{l:aQ}{keep:Int}{vs:List aa}{k:Int}(h:k∈bY l keep vs):∃ y∈vs,y.id=k:=by
 unfold bY at h;obtain ⟨y,hy,e⟩:=List.mem_map.1 h;exact ⟨y,(List.mem_filter.1 hy).1,e⟩
theorem LX(h:T.Ok me dest){ob:bb}(ho:iQ ob=true)(hk:ob.kind=3)(now:Int):(T.BI ob now).Ok me dest:=by
 have hl:=JC ho hk
 have hf:=oe h ob.l
 unfold BI;cases hc:(!T.home&&(!T.R.own.n&&(bm T.R.own==ob.l))) with
 | true =>
   have hh:T.home=false:=by simp only [Bool.and_eq_true,Bool.not_eq_true'] at hc; exact hc.1
   have hm:=h.tV hh
   have h64:=h.m64
   have hown:T.R.me=me:=h.me
   refine lh (vt (EP hf ?_ hown (fun _=>rfl) hm) hl (.inl rfl))
   show dG true 0 0 0 0 T.R.me=true
   rw [hown]; exact qK h64.1 h64.2
 | false=>exact zU (sj hf hl fun k hk=>mg (vP hk)) _
theorem qR(h:T.Ok me dest){k:Int}(hk:0≤k∧k≤65535)(hn:T.R.own.n=false):(T.nv k).Ok me dest :=
 lD (DX h hk) (Io h.d64 hn hk h.r.ok) (.inl rfl)
theorem M0(h:T.Ok me dest){id:Int}{ob:bb}(ho:iQ ob=true)(hk:ob.kind=4)(hy:cy (bf id ob.h)=true)(hid:id≠me)(now:Int):(T.opt id ob now).Ok me dest:=by
 unfold opt;cases hc:(T.home||(T.R.heard && !wb T.R.last ob.num)) with
 | true=>exact F9 h hy hid now
 | false =>
 simp only [cond_false];have hh:T.home=false:=(Bool.or_eq_false_iff.1 hc).1
 have hm:=h.tV hh
 have hs:=uF h hy hid
 unfold fresh;cases hz:(cg false (bm ob.h).1 (bm ob.h).2.1 (bm ob.h).2.2 (wrapF .i64 (ob.h.d+Int.ofNat 1)) T.R.me != Int.ofNat 0) with
 | true=>exact xP hs _
 | false =>
   have hz:dG false (bm ob.h).1 (bm ob.h).2.1 (bm ob.h).2.2 (wrapF .i64 (ob.h.d+Int.ofNat 1)) T.R.me=true:=by
     rw [← Df];unfold bne at hz;simpa using hz
   obtain ⟨-,hn2⟩:=JD ho hk;exact qR (An hs (v:=Bc T.R.me ob) hz h.me hm) hn2 rfl
theorem HU(h:T.Ok me dest){id:Int}{ob:bb}(ho:iQ ob=true)(hid:∃ y∈T.vs,y.id=id)(hi:ob.kind=2∨ob.kind=4→cy (bf id ob.h)=true)(now:Int):(T.oh id ob now).Ok me dest:=by
 have hne:id≠me:=by
  obtain ⟨y,hy,rfl⟩:=hid;rw [← h.me]; exact h.r.self y hy
 unfold oh;cases h1:(ob.kind==Int.ofNat 1) with
 | true =>
   simp only [cond_true];unfold Qn;cases hn:T.R.own.n with
   | true =>
     simp only [cond_true];cases (!T.R.asked) with
     | true=>exact uA h hn
     | false=>exact h
   | false=>exact pZ h (.inr hid)
 | false =>
 simp only [cond_false];cases h2:(ob.kind==Int.ofNat 2) with
 | true=>exact F9 h (hi (.inl (by simpa using h2))) hne now
 | false =>
 simp only [cond_false];cases h3:(ob.kind==Int.ofNat 3) with
 | true=>exact LX h ho (by simpa using h3) now
 | false =>
   have h4:ob.kind=4:=by
     unfold iQ at ho;rw [h1,h2,h3] at ho;simp only [cond_false,Bool.and_eq_true] at ho;cases h4:(ob.kind==Int.ofNat 4) with
     | true=>simpa using h4
     | false=>rw [h4] at ho; simp at ho
   exact M0 h ho h4 (hi (.inr h4)) hne now
theorem Sj(h:T.Ok me dest){id:Int}(h1:0≤id∧id<64)(h2:id≠me):(T.up id).Ok me dest:=by
 have hs:=uF h (y:=bf id (bO id)) (wC (decide_eq_true (by simpa using h1.1)) (by simpa using h1.2)) h2
 have hm:id=255∨∃ y∈(T.set (bf id (bO id))).vs,y.id=id:=.inr ⟨_,(gU h.r.rt).2 (.inl rfl),rfl⟩
 unfold up;have ht:=pZ hs hm
 cases (!T.R.own.n) <;> cases T.R.asked
 ·exact hs
 ·exact lD hs (uh h.d64) hm
 ·exact ht
 ·exact lD ht (uh h.d64) hm
end
end TS
theorem y0{R:au}{f:Bool}{vs:List aa}(h:jZ R vs=true):(kq R f vs).Ok R.me R.dest:=⟨pQ.1 h,rfl,rfl,fun x hx=>by cases hx⟩
theorem pI{me dest:Int}{T:TS}(h:T.Ok me dest)(he:(dR T).e=0):(dR T).Ok me dest:=by
 unfold dR at he ⊢;cases hc:(T.e != Int.ofNat 0) with
 | true =>
   rw [hc] at he;have:T.e=0:=he
   rw [this] at hc;exact absurd hc (by decide)
 | false=>exact ⟨h.r,h.me,h.dest,h.out⟩
theorem II{R:au}{f:Bool}{vs:List aa}{p:xo}(he:(dQ R f vs p).e=0):jZ R vs=true∧(dQ R f vs p).Ok R.me R.dest:=by
 unfold dQ at he ⊢;cases hok:jZ R vs with
 | false=>rw [hok] at he; exact dP he (by decide)
 | true =>
 refine ⟨rfl,?_⟩
 rw [hok] at he;simp only [cond_true] at he ⊢;have hR:=pQ.1 hok
 have hB:=y0 (f:=f) hok
 unfold rf at he ⊢;generalize (p.call==Int.ofNat 0)=b0 at he ⊢;cases b0 with
 | true =>
   simp only [cond_true] at he ⊢;unfold Oa at he ⊢;cases hc:(!(decide (p.id≥Int.ofNat 0)&&decide (p.id<Int.ofNat 64))||(p.id==R.me)) with
   | true=>rw [hc] at he; exact dP he (by decide)
   | false =>
   rw [hc] at he;simp only [cond_false] at he ⊢;cases hf:(aH vs p.id).isSome with
   | true=>rw [hf] at he; exact dP he (by decide)
   | false =>
   rw [hf] at he;simp only [cond_false] at he ⊢;simp at hc;exact pI (TS.Sj hB (by omega) hc.2) he
 | false =>
 simp only [cond_false] at he ⊢;generalize (p.call==Int.ofNat 1)=b1 at he ⊢;cases b1 with
 | true =>
   simp only [cond_true] at he ⊢;unfold oW at he ⊢;cases ht:im p.now with
   | false=>rw [ht] at he; exact dP he (by decide)
   | true =>
   rw [ht] at he;simp only [Bool.not_true,cond_false] at he ⊢;cases hf:fnd vs p.id with
   | false=>rw [hf] at he; exact dP he (by decide)
   | true =>
   rw [hf] at he;refine pI (TS.zU ?_ _) he
   exact ⟨⟨hR.me,hR.dest,hR.own,fun x hx=>hR.self x (mZ hx),hR.ok,qq hR.rt,hR.ask,hR.last,hR.home⟩,rfl,rfl,fun x hx=>by cases hx⟩
 | false =>
 simp only [cond_false] at he ⊢;generalize (p.call==Int.ofNat 2)=b2 at he ⊢;cases b2 with
 | true =>
   simp only [cond_true] at he ⊢;unfold gQ at he ⊢;cases ht:im p.now with
   | false=>rw [ht] at he; exact dP he (by decide)
   | true =>
   rw [ht] at he;simp only [Bool.not_true,cond_false] at he ⊢;cases hf:(aH vs p.id).isSome with
   | false=>rw [hf] at he; exact dP he (by decide)
   | true =>
   rw [hf] at he;simp only [Bool.not_true,cond_false] at he ⊢;cases hc:(!iQ p.ob||((p.ob.dest != R.dest)||((p.ob.kind==Int.ofNat 2||p.ob.kind==Int.ofNat 4)&&(p.ob.h.i != p.id)))) with
   | true=>rw [hc] at he; exact dP he (by decide)
   | false =>
   rw [hc] at he;simp only [cond_false] at he ⊢;obtain ⟨c1,c2⟩:=Bool.or_eq_false_iff.1 hc;obtain ⟨c2,c3⟩:=Bool.or_eq_false_iff.1 c2;have ho:iQ p.ob=true:=by simpa using c1
   refine pI (TS.HU hB ho (lR.1 hf) (fun hk=>?_) p.now) he
   have hi:(p.ob.h.i != p.id)=false:=by
     cases hi:(p.ob.h.i != p.id) with
     | false=>rfl
     | true =>
       rw [hi] at c3;rcases hk with hk | hk <;> rw [hk] at c3 <;> simp at c3
   have:=nm (ob:=p.ob) hR.rt hk hf rfl (by rw [ej,ho]; rfl) hi
   simp only [Bool.and_eq_true] at this;exact this.2
 | false =>
 simp only [cond_false] at he ⊢;generalize (p.call==Int.ofNat 3)=b3 at he ⊢;cases b3 with
 | true=>exact pI (TS.lh (TS.xk hB true)) he
 | false =>
 simp only [cond_false] at he ⊢;generalize (p.call==Int.ofNat 4)=b4 at he ⊢;cases b4 with
 | true=>exact TS.xk hB false
 | false =>
   simp only [cond_false] at he ⊢;unfold qQ at he ⊢;cases hc:((R.me != R.dest)||(decide (p.num<Int.ofNat 0)||decide (p.num>Int.ofNat 65535))) with
   | true=>rw [hc] at he; exact dP he (by decide)
   | false =>
     simp at hc;refine TS.qR hB (by omega) ?_
     have:=(jj.1 (hR.home hc.1)).1
     exact this
def On(own:aa)(vs:List aa):Prop:=own.n=true∨∃ x∈vs,aV x own=true
theorem Dt{own:aa}{vs:List aa}(hk:Kn own):0<(bM 1 own vs).length↔∃ x∈vs,aV x own=true:=by
 rw [jd];constructor
 ·intro h
  obtain ⟨x,hx⟩:=List.exists_mem_of_length_pos h;obtain ⟨h1,h2⟩:=List.mem_filter.1 hx;exact ⟨x,h1,by rw [← (ER hk).1]; exact h2⟩
 ·rintro ⟨x,hx,h⟩
  exact List.length_pos_of_mem (List.mem_filter.2 ⟨hx,by rw [(ER hk).1]; exact h⟩)
theorem n5{own:aa}{vs:List aa}(ho:dG own.n own.t own.o own.r own.d own.i=true)(h:0<(bM 1 own vs).length):On own vs:=by
 cases hn:own.n with
 | true=>exact .inl hn
 | false=>exact .inr ((Dt (lU hn ho)).1 h)
theorem zo{own:aa}{vs:List aa}(ho:dG own.n own.t own.o own.r own.d own.i=true):On own vs↔(own.n=true∨0<(bM 1 own vs).length):=by
 constructor
 ·intro h
  cases hn:own.n with
  | true=>exact .inl rfl
  | false =>
    rcases h with h | h
    ·rw [hn] at h; cases h
    ·exact .inr ((Dt (lU hn ho)).2 h)
 ·rintro (h | h)
  ·exact .inl h
  ·exact n5 ho h
theorem Qj{n:Bool}{t o r d i:Int}(h:dG n t o r d i=true):0≤t:=by
 unfold dG at h;cases n with
 | true =>
   unfold dA at h;simp at h;omega
 | false =>
   simp only [cond_false,Bool.and_eq_true,decide_eq_true_eq,ge_iff_le] at h;exact h.2.2.1
theorem C8{own:aa}{vs:List aa}{now:Int}{lost:Bool}(h4:(bJ own vs now lost).2.1=4∨(bJ own vs now lost).2.1=6):(bJ own vs now lost).1.n=true:=by
 obtain ⟨hi,-⟩:=mV own vs now lost;generalize bJ own vs now lost=q at *;cases hi with
 | bad=>rcases h4 with h4 | h4 <;> exact absurd (show (0:Int)=_ from h4) (by decide)
 | stay=>rcases h4 with h4 | h4 <;> exact absurd (show (0:Int)=_ from h4) (by decide)
 | alone=>rfl
 | lost=>rcases h4 with h4 | h4 <;> exact absurd (show (1:Int)=_ from h4) (by decide)
 | gene=>rcases h4 with h4 | h4 <;> exact absurd (show (5:Int)=_ from h4) (by decide)
 | prop=>rcases h4 with h4 | h4 <;> exact absurd (show (2:Int)=_ from h4) (by decide)
 | refl=>rcases h4 with h4 | h4 <;> exact absurd (show (3:Int)=_ from h4) (by decide)
 | dete=>rfl
theorem AP{own:aa}{vs:List aa}{now:Int}{lost:Bool}(h1:(bJ own vs now lost).2.2=0)(h4:(bJ own vs now lost).2.1=0):own.n=true∨bM 1 own vs≠[]:=by
 obtain ⟨hi,-⟩:=mV own vs now lost;generalize bJ own vs now lost=q at *;cases hi with
 | bad=>exact absurd (show (1:Int)=0 from h1) (by decide)
 | stay hs=>exact hs
 | alone=>exact absurd (show (6:Int)=0 from h4) (by decide)
 | lost=>exact absurd (show (1:Int)=0 from h4) (by decide)
 | gene=>exact absurd (show (5:Int)=0 from h4) (by decide)
 | prop=>exact absurd (show (2:Int)=0 from h4) (by decide)
 | refl=>exact absurd (show (3:Int)=0 from h4) (by decide)
 | dete=>exact absurd (show (4:Int)=0 from h4) (by decide)
namespace TS
def Dn(T:TS):Prop:=On T.R.own T.vs
def qb(now:Int)(T:TS):Prop:=T.R.own.t<now∧∀ x∈T.vs,x.t<now
section
variable {me dest now:Int} {T:TS}
theorem MH(h:T.qb now):iD now T.R.own T.vs=true:=by
 unfold iD;rw [Bool.and_eq_true];refine ⟨?_,decide_eq_true h.1⟩
 have:T.vs.any (cP now)=false:=List.any_eq_false.2 fun x hx=>by
  unfold cP;have:=h.2 x hx
  simp; omega
 rw [this]; rfl
theorem uy(hn:T.R.own.n=true):T.ga.Dn:=by
 have hr:=qd (me:=T.R.me) (vs:=T.vs)
 have hl:=Et T.vs
 unfold ga sU;generalize bW T.R.me T.vs=a at *;cases h0:(a.2==Int.ofNat 0) with
 | true =>
   obtain ⟨h1,h2,-⟩:=hr (by simpa using h0)
   exact .inr ⟨_,(hl.1 h1).1,h2⟩
 | false =>
 simp only [cond_false];cases h7:(a.2==Int.ofNat 7) with
 | true =>
   simp only [cond_true];cases (!T.R.asked) with
   | true=>exact .inl hn
   | false=>exact .inl hn
 | false=>exact .inl hn
theorem lf(h:T.Dn):T.dS.Dn:=by
 unfold dS;cases hc:(T.R.own.n&&(T.R.want&&(!T.R.asked && !T.home))) with
 | true=>exact uy (by simp only [Bool.and_eq_true] at hc; exact hc.1)
 | false=>exact h
theorem zB(h:T.Ok me dest)(hm:me≠dest)(hn:T.R.own.n=false)(hl:T.qb now){lost:Bool}(he:(T.keep now lost).e=0):(T.keep now lost).Dn:=by
 have hh:T.home=false:=by
  unfold home;rw [h.me,h.dest];exact beq_false_of_ne hm
 unfold keep at he ⊢;rw [hh,hn] at he ⊢;simp only [Bool.or_self,cond_false] at he ⊢;have hc:=zf h (now:=now) (lost:=lost)
 have hd:=AO (own:=T.R.own) (vs:=T.vs) (now:=now) (lost:=lost) (fun x hx e=>h.r.self x hx (e.trans h.r.own))
 rw [MH hl] at hd;have hnl:=C8 (own:=T.R.own) (vs:=T.vs) (now:=now) (lost:=lost)
 have hst:(bJ T.R.own T.vs now lost).2.2=0→(bJ T.R.own T.vs now lost).2.1=0→T.Dn:=fun h1 h4=>by
  rcases AP h1 h4 with hs | hs
  ·rw [hn] at hs; cases hs
  ·exact n5 h.r.ok (List.length_pos_iff.2 hs)
 generalize bJ T.R.own T.vs now lost=r at *;unfold vY at he ⊢;cases h1:(r.2.2 != Int.ofNat 0) with
 | true =>
   rw [h1] at he;have:r.2.2=0:=he
   rw [this] at h1;exact absurd h1 (by decide)
 | false =>
 simp only [cond_false];have e0:r.2.2=0:=by simpa using h1
 obtain ⟨c1,c2,c3⟩:=hc e0;cases h0:(r.2.1==Int.ofNat 0) with
 | true=>exact hst e0 (by simpa using h0)
 | false =>
 simp only [cond_false];have hD:r.2.1≠4→On r.1 T.vs:=fun h4=>by
  have h0':r.2.1≠0:=by simpa using h0
  rcases hd.kind e0 with k | k | k | k | k | k | k
  ·exact absurd k h0'
  ·obtain ⟨a,b⟩:=hd.lost e0 (.inl k) rfl
   exact n5 c1 (by omega)
  ·exact n5 c1 (hd.prop e0 k).1
  ·obtain ⟨a,b⟩:=hd.refl e0 k
   exact n5 c1 (by omega)
  ·exact absurd k h4
  ·obtain ⟨a,b⟩:=hd.lost e0 (.inr k) rfl
   exact n5 c1 (by omega)
  ·exact .inl (hnl (.inr k))
 cases h4:(r.2.1==Int.ofNat 4) with
 | true=>exact lf (.inl (hnl (.inl (by simpa using h4))))
 | false=>exact lf (hD (by simpa using h4))
theorem zS(h:T.Ok me dest)(hm:me≠dest)(hl:T.qb now)(he:(T.rZ now).e=0):(T.rZ now).Dn:=by
 unfold rZ at he ⊢;cases hn:T.R.own.n with
 | true=>exact lf (.inl hn)
 | false =>
   rw [hn] at he;exact zB h hm hn hl he
theorem Fq(h:T.Ok me dest)(hl:T.qb now){y:aa}(hy:y.t<now):(T.set y).qb now:=by
 refine ⟨hl.1,fun x hx=>?_⟩
 have hx:x∈cr T.vs y:=hx
 rcases (gU h.r.rt).1 hx with rfl | ⟨hx,-⟩
 ·exact hy
 ·exact hl.2 x hx
theorem F7(h:T.Ok me dest)(hm:me≠dest)(hl:T.qb now){y:aa}(h1:cy y=true)(h2:y.id≠me)(hy:y.t<now)(he:(T.Ao y now).e=0):(T.Ao y now).Dn:=by
 have hs:=uF h h1 h2
 have hls:=Fq h hl hy
 have hh:(T.set y).home=false:=by
  unfold home;rw [hs.me,hs.dest];exact beq_false_of_ne hm
 unfold Ao at he ⊢;rw [hh] at he ⊢;simp only [cond_false] at he ⊢;cases hn:(T.set y).R.own.n with
 | false =>
   rw [hn] at he;exact zB hs hm hn hls he
 | true =>
 simp only [Bool.not_true,cond_false];cases (T.set y).R.asked with
 | true=>exact uy hn
 | false=>exact lf (.inl hn)
theorem O9{lt lo lr keep:Int}{x:aa}(h:x.t<now)(h0:0<now):(kv lt lo lr keep x).t<now:=by
 unfold kv;cases kx lt lo lr keep x with
 | false=>exact h
 | true=>exact h0
theorem Eg(h:T.Ok me dest)(hl:T.qb now):0<now:=by
 have:=Qj h.r.ok
 have:=hl.1
 omega
theorem LV(h:T.Ok me dest)(hm:me≠dest)(hl:T.qb now){ob:bb}(ho:iQ ob=true)(hk:ob.kind=3)(he:(T.BI ob now).e=0):(T.BI ob now).Dn:=by
 have hf:=oe h ob.l
 unfold BI at he ⊢;cases hc:(!T.home&&(!T.R.own.n&&(bm T.R.own==ob.l))) with
 | true=>exact lf (.inl rfl)
 | false =>
   rw [hc] at he;refine zS (sj hf (JC ho hk) fun k hk=>mg (vP hk)) hm ⟨hl.1,fun x hx=>?_⟩ he
   have hx:x∈T.vs.map _:=hx
   obtain ⟨y,hy,rfl⟩:=List.mem_map.1 hx;exact O9 (hl.2 y hy) (Eg h hl)
theorem MZ(h:T.Ok me dest)(hm:me≠dest)(hl:T.qb now){id:Int}{ob:bb}(ho:iQ ob=true)(hk:ob.kind=4)(h1:cy (bf id ob.h)=true)(h2:id≠me)(hy:ob.h.t<now)(he:(T.opt id ob now).e=0):(T.opt id ob now).Dn:=by
 unfold opt at he ⊢;cases hc:(T.home||(T.R.heard && !wb T.R.last ob.num)) with
 | true =>
   rw [hc] at he;exact F7 h hm hl h1 h2 hy he
 | false =>
 rw [hc] at he;simp only [cond_false] at he ⊢;unfold fresh at he ⊢;cases hz:(cg false (bm ob.h).1 (bm ob.h).2.1 (bm ob.h).2.2 (wrapF .i64 (ob.h.d+Int.ofNat 1)) T.R.me != Int.ofNat 0) with
 | true =>
   rw [hz] at he;have:(cg false (bm ob.h).1 (bm ob.h).2.1 (bm ob.h).2.2 (wrapF .i64 (ob.h.d+Int.ofNat 1)) T.R.me)=0:=he
   rw [this] at hz;exact absurd hz (by decide)
 | false =>
   have hz:dG false (bm ob.h).1 (bm ob.h).2.1 (bm ob.h).2.2 (wrapF .i64 (ob.h.d+Int.ofNat 1)) T.R.me=true:=by
     rw [← Df];unfold bne at hz;simpa using hz
   have hn:=(JD ho hk).1
   have hoh:=Qk ho (.inr hk)
   have hkn:Kn ob.h:=lU hn hoh
   have hd:=EG hoh hn
   have hw:wrapF .i64 (ob.h.d+Int.ofNat 1)=ob.h.d+1:=wrap64 (by simp; omega) (by simp; omega)
   refine .inr ⟨bf id ob.h,(gU h.r.rt).2 (.inl rfl),?_⟩
   have k1:Kn (bf id ob.h):=hkn
   have k2:Kn (Bc T.R.me ob):=lU (x:=Bc T.R.me ob) rfl hz
   refine (fK k1 k2).2 ?_
   unfold Bc;rw [hw,iP hkn];refine .inr ⟨rfl,.inr ⟨rfl,.inr ⟨rfl,.inl ?_⟩⟩⟩
   show ob.h.d<ob.h.d+1
   omega
theorem HR(h:T.Ok me dest)(hm:me≠dest)(hl:T.qb now)(hD:T.Dn){id:Int}{ob:bb}(ho:iQ ob=true)(hid:∃ y∈T.vs,y.id=id)(hi:ob.kind=2∨ob.kind=4→cy (bf id ob.h)=true)(hy:ob.h.t<now)(he:(T.oh id ob now).e=0):(T.oh id ob now).Dn:=by
 have hne:id≠me:=by
  obtain ⟨y,hy,rfl⟩:=hid;rw [← h.me]; exact h.r.self y hy
 unfold oh at he ⊢;cases h1:(ob.kind==Int.ofNat 1) with
 | true =>
   simp only [cond_true];unfold Qn;cases hn:T.R.own.n with
   | true =>
     simp only [cond_true];cases (!T.R.asked) with
     | true=>exact uy hn
     | false=>exact .inl hn
   | false=>exact hD
 | false =>
 rw [h1] at he;simp only [cond_false] at he ⊢;cases h2:(ob.kind==Int.ofNat 2) with
 | true =>
   rw [h2] at he;exact F7 h hm hl (hi (.inl (by simpa using h2))) hne hy he
 | false =>
 rw [h2] at he;simp only [cond_false] at he ⊢;cases h3:(ob.kind==Int.ofNat 3) with
 | true =>
   rw [h3] at he;exact LV h hm hl ho (by simpa using h3) he
 | false =>
   rw [h3] at he;have h4:ob.kind=4:=by
     unfold iQ at ho;rw [h1,h2,h3] at ho;simp only [cond_false,Bool.and_eq_true] at ho;cases h4:(ob.kind==Int.ofNat 4) with
     | true=>simpa using h4
     | false=>rw [h4] at ho; simp at ho
   exact MZ h hm hl ho h4 (hi (.inr h4)) hne hy he
theorem Sh(h:T.Ok me dest)(hD:T.Dn){id:Int}(hf:(aH T.vs id).isSome=false):(T.up id).Dn:=by
 have e:(T.up id).R.own=T.R.own∧(T.up id).vs=cr T.vs (bf id (bO id)):=by
  unfold up;cases (!T.R.own.n) <;> cases T.R.asked <;> exact ⟨rfl,rfl⟩
 unfold Dn;rw [e.1,e.2];rcases hD with hn | ⟨x,hx,hl⟩
 ·exact .inl hn
 ·exact .inr ⟨x,(gU h.r.rt).2 (.inr ⟨hx,fI.1 hf x hx⟩),hl⟩
end
end TS
theorem pG{T:TS}(h:T.e=0→T.Dn)(he:(dR T).e=0):(dR T).Dn:=by
 unfold dR at he ⊢;cases hc:(T.e != Int.ofNat 0) with
 | true =>
   rw [hc] at he;have:T.e=0:=he
   rw [this] at hc;exact absurd hc (by decide)
 | false=>exact h (by simpa using hc)
theorem Bt{R:au}{f:Bool}{vs:List aa}{p:xo}(he:(dQ R f vs p).e=0)(hm:R.me≠R.dest)(hl:R.own.t<p.now∧(∀ x∈vs,x.t<p.now)∧p.ob.h.t<p.now)(hD:On R.own vs):(dQ R f vs p).Dn:=by
 unfold dQ at he ⊢;cases hok:jZ R vs with
 | false=>rw [hok] at he; exact dP he (by decide)
 | true =>
 rw [hok] at he;simp only [cond_true] at he ⊢;have hR:=pQ.1 hok
 have hB:=y0 (f:=f) hok
 have hL:(kq R f vs).qb p.now:=⟨hl.1,hl.2.1⟩
 unfold rf at he ⊢;generalize (p.call==Int.ofNat 0)=b0 at he ⊢;cases b0 with
 | true =>
   simp only [cond_true] at he ⊢;unfold Oa at he ⊢;cases hc:(!(decide (p.id≥Int.ofNat 0)&&decide (p.id<Int.ofNat 64))||(p.id==R.me)) with
   | true=>rw [hc] at he; exact dP he (by decide)
   | false =>
   rw [hc] at he;simp only [cond_false] at he ⊢;cases hf:(aH vs p.id).isSome with
   | true=>rw [hf] at he; exact dP he (by decide)
   | false =>
   rw [hf] at he;simp only [cond_false] at he ⊢;exact pG (fun _=>TS.Sh hB hD hf) he
 | false =>
 simp only [cond_false] at he ⊢;generalize (p.call==Int.ofNat 1)=b1 at he ⊢;cases b1 with
 | true =>
   simp only [cond_true] at he ⊢;unfold oW at he ⊢;cases ht:im p.now with
   | false=>rw [ht] at he; exact dP he (by decide)
   | true =>
   rw [ht] at he;simp only [Bool.not_true,cond_false] at he ⊢;cases hf:fnd vs p.id with
   | false=>rw [hf] at he; exact dP he (by decide)
   | true =>
   rw [hf] at he;refine pG (fun h=>TS.zS (me:=R.me) (dest:=R.dest) ?_ hm ⟨hl.1,fun x hx=>hl.2.1 x (mZ hx)⟩ h) he
   exact ⟨⟨hR.me,hR.dest,hR.own,fun x hx=>hR.self x (mZ hx),hR.ok,qq hR.rt,hR.ask,hR.last,hR.home⟩,rfl,rfl,fun x hx=>by cases hx⟩
 | false =>
 simp only [cond_false] at he ⊢;generalize (p.call==Int.ofNat 2)=b2 at he ⊢;cases b2 with
 | true =>
   simp only [cond_true] at he ⊢;unfold gQ at he ⊢;cases ht:im p.now with
   | false=>rw [ht] at he; exact dP he (by decide)
   | true =>
   rw [ht] at he;simp only [Bool.not_true,cond_false] at he ⊢;cases hf:(aH vs p.id).isSome with
   | false=>rw [hf] at he; exact dP he (by decide)
   | true =>
   rw [hf] at he;simp only [Bool.not_true,cond_false] at he ⊢;cases hc:(!iQ p.ob||((p.ob.dest != R.dest)||((p.ob.kind==Int.ofNat 2||p.ob.kind==Int.ofNat 4)&&(p.ob.h.i != p.id)))) with
   | true=>rw [hc] at he; exact dP he (by decide)
   | false =>
   rw [hc] at he;simp only [cond_false] at he ⊢;obtain ⟨c1,c2⟩:=Bool.or_eq_false_iff.1 hc;obtain ⟨c2,c3⟩:=Bool.or_eq_false_iff.1 c2;have ho:iQ p.ob=true:=by simpa using c1
   refine pG (fun h=>TS.HR hB hm hL hD ho (lR.1 hf) (fun hk=>?_) hl.2.2 h) he
   have hi:(p.ob.h.i != p.id)=false:=by
     cases hi:(p.ob.h.i != p.id) with
     | false=>rfl
     | true =>
       rw [hi] at c3;rcases hk with hk | hk <;> rw [hk] at c3 <;> simp at c3
   have:=nm (ob:=p.ob) hR.rt hk hf rfl (by rw [ej,ho]; rfl) hi
   simp only [Bool.and_eq_true] at this;exact this.2
 | false =>
 simp only [cond_false] at he ⊢;generalize (p.call==Int.ofNat 3)=b3 at he ⊢;cases b3 with
 | true=>exact pG (fun _=>TS.lf (T:=(kq R f vs).s8 true) hD) he
 | false =>
 simp only [cond_false] at he ⊢;generalize (p.call==Int.ofNat 4)=b4 at he ⊢;cases b4 with
 | true=>exact hD
 | false =>
   simp only [cond_false] at he ⊢;unfold qQ at he ⊢;have hne:(R.me != R.dest)=true:=by simpa [bne] using hm
   rw [hne] at he;exact dP he (by decide)
def PW(me:Int)(k:aa)(x:bb):aa:=bif x.to != Int.ofNat 255 then k else bif x.kind==Int.ofNat 2 then x.h else bif x.kind==Int.ofNat 4 then x.h else bif x.kind==Int.ofNat 3 then bO me else k
namespace TS
structure Tl (m:Int) (own0:aa) (T:TS):Prop where
 me:T.R.me=m
 i:T.R.own.i=m
 id:T.R.own.id=0
 last:T.out.foldl (PW m) own0=T.R.own
section
variable {me:Int} {own0:aa} {T:TS}
end
end TS
namespace TS
def Fl(T:TS):Prop:=T.f=false→T.vs = []
section
variable {T:TS}
theorem uz(h:T.Fl):T.ga.Fl:=by
 unfold ga sU;generalize bW T.R.me T.vs=a;cases (a.2==Int.ofNat 0) with
 | true=>exact h
 | false =>
 simp only [cond_false];cases (a.2==Int.ofNat 7) with
 | true =>
   simp only [cond_true];cases (!T.R.asked) with
   | true=>exact h
   | false=>exact h
 | false=>exact h
theorem lg(h:T.Fl):T.dS.Fl:=by
 unfold dS;cases (T.R.own.n&&(T.R.want&&(!T.R.asked && !T.home))) with
 | true=>exact uz h
 | false=>exact h
theorem n9(h:T.Fl)(l:aQ):(T.forget l).Fl:=fun e=>by
 have:T.vs = []:=h e
 show T.vs.map _ = []
 rw [this]; rfl
theorem uE(T:TS)(y:aa):(T.set y).Fl:=fun e=>by cases e
theorem zC(h:T.Fl)(now:Int)(lost:Bool):(T.keep now lost).Fl:=by
 unfold keep;cases (T.home||T.R.own.n) with
 | true=>exact h
 | false =>
 simp only [cond_false];generalize bJ T.R.own T.vs now lost=r;unfold vY;cases (r.2.2 != Int.ofNat 0) with
 | true=>exact h
 | false =>
 simp only [cond_false];cases (r.2.1==Int.ofNat 0) with
 | true=>exact h
 | false =>
 simp only [cond_false];cases (r.2.1==Int.ofNat 4) with
 | true=>exact lg (n9 (T:=(T.own r.1).tell 255) h _)
 | false=>exact lg (T:=(T.own r.1).tell 255) h
theorem zT(h:T.Fl)(now:Int):(T.rZ now).Fl:=by
 unfold rZ;cases T.R.own.n with
 | true=>exact lg h
 | false=>exact zC h _ _
theorem F8(T:TS)(y:aa)(now:Int):(T.Ao y now).Fl:=by
 have hs:=uE T y
 unfold Ao;cases (T.set y).home with
 | true=>exact hs
 | false =>
 simp only [cond_false];cases (T.set y).R.own.n with
 | false=>exact zC hs _ _
 | true =>
 simp only [Bool.not_true,cond_false];cases (T.set y).R.asked with
 | true=>exact uz hs
 | false=>exact lg hs
theorem LW(h:T.Fl)(ob:bb)(now:Int):(T.BI ob now).Fl:=by
 unfold BI;cases (!T.home&&(!T.R.own.n&&(bm T.R.own==ob.l))) with
 | true=>exact lg (T:=((T.forget ob.l).own (bO T.R.me)).clear 255 ob.l) (n9 h _)
 | false=>exact zT (T:=(T.forget ob.l).xM (bY ob.l T.R.dest T.vs) ob.l) (n9 h _) _
theorem HS(h:T.Fl)(id:Int)(ob:bb)(now:Int):(T.oh id ob now).Fl:=by
 unfold oh;cases (ob.kind==Int.ofNat 1) with
 | true =>
   simp only [cond_true];unfold Qn;cases T.R.own.n with
   | true =>
     simp only [cond_true];cases (!T.R.asked) with
     | true=>exact uz h
     | false=>exact h
   | false=>exact h
 | false =>
 simp only [cond_false];cases (ob.kind==Int.ofNat 2) with
 | true=>exact F8 _ _ _
 | false =>
 simp only [cond_false];cases (ob.kind==Int.ofNat 3) with
 | true=>exact LW h _ _
 | false =>
   simp only [cond_false];unfold opt;cases (T.home||(T.R.heard && !wb T.R.last ob.num)) with
   | true=>exact F8 _ _ _
   | false =>
     simp only [cond_false];unfold fresh;cases (cg false (bm ob.h).1 (bm ob.h).2.1 (bm ob.h).2.2 (wrapF .i64 (ob.h.d+Int.ofNat 1)) T.R.me != Int.ofNat 0) with
     | true=>exact uE T _
     | false=>exact uE T _
theorem Si(T:TS)(id:Int):(T.up id).Fl:=by
 have hs:=uE T (bf id (bO id))
 unfold up;cases (!T.R.own.n) <;> cases T.R.asked <;> exact hs
end
end TS
theorem pH{T:TS}(h:T.Fl):(dR T).Fl:=by
 unfold dR;cases (T.e != Int.ofNat 0) with
 | true=>exact fun _=>rfl
 | false=>exact h
theorem gk(e:Int):(na e).Fl:=fun _=>rfl
theorem GU{R:au}{f:Bool}{vs:List aa}(h:f=false→vs = []):(kq R f vs).Fl:=h
theorem IH{R:au}{f:Bool}{vs:List aa}{p:xo}(h:f=false→vs = []):(dQ R f vs p).Fl:=by
 unfold dQ;cases jZ R vs with
 | false=>exact gk _
 | true =>
 simp only [cond_true];unfold rf;generalize (p.call==Int.ofNat 0)=b0;cases b0 with
 | true =>
   simp only [cond_true];unfold Oa;generalize (!(decide (p.id≥Int.ofNat 0)&&decide (p.id<Int.ofNat 64))||(p.id==R.me))=b
   cases b with
   | true=>exact gk _
   | false =>
   simp only [cond_false];cases (aH vs p.id).isSome with
   | true=>exact gk _
   | false=>exact pH (TS.Si _ _)
 | false =>
 simp only [cond_false];generalize (p.call==Int.ofNat 1)=b1;cases b1 with
 | true =>
   simp only [cond_true];unfold oW;cases im p.now with
   | false=>exact gk _
   | true =>
   simp only [Bool.not_true,cond_false];cases fnd vs p.id with
   | false=>exact gk _
   | true=>exact pH (TS.zT (fun e=>by cases e) _)
 | false =>
 simp only [cond_false];generalize (p.call==Int.ofNat 2)=b2;cases b2 with
 | true =>
   simp only [cond_true];unfold gQ;cases im p.now with
   | false=>exact gk _
   | true =>
   simp only [Bool.not_true,cond_false];cases (aH vs p.id).isSome with
   | false=>exact gk _
   | true =>
   simp only [Bool.not_true,cond_false];generalize (!iQ p.ob||((p.ob.dest != R.dest)||((p.ob.kind==Int.ofNat 2||p.ob.kind==Int.ofNat 4)&&(p.ob.h.i != p.id))))=b
   cases b with
   | true=>exact gk _
   | false=>exact pH (TS.HS (GU h) _ _ _)
 | false =>
 simp only [cond_false];generalize (p.call==Int.ofNat 3)=b3;cases b3 with
 | true=>exact pH (TS.lg (T:=(kq R f vs).s8 true) h)
 | false =>
 simp only [cond_false];generalize (p.call==Int.ofNat 4)=b4;cases b4 with
 | true=>exact h
 | false =>
   simp only [cond_false];unfold qQ;generalize ((R.me != R.dest)||(decide (p.num<Int.ofNat 0)||decide (p.num>Int.ofNat 65535)))=b
   cases b with
   | true=>exact gk _
   | false=>exact h
structure OK (fn:Func) (code:Code) (N:Nat) (R:au) (vs:List aa) (pre:Value) (rest:List Value) (v0:Value):Prop where
 flatp:eH pre
 okv:eH v0
 flat:∀ r∈rest,eH r
 len:rest.length+2≤N
 run:∀ f o c W X,aD o=true→(vs = []∨∃ ty ro,o = .cells ty (aI vs) ro)→(f=false→vs = []∧o = .dead) →
  bh Tryz.prog N W 1 X code ⟨tmsOf (pre::cV R (vS f 0 vs.length c)::rest) 0 .leaf,heapOf [o,.dead] aE,[]⟩ (ft Tryz.prog fn (Q1 o v0))
open Classical in
noncomputable def xg(A:au→List aa→Value→List Value→Option Value):aB:=fun args hp=>match args with
 | pre::a::rest=>match unR a with
   | some (R,s)=>if h:∃ vs,TN vs s hp∧vs.length<1000000 then (A R h.choose pre rest).map fun v=>(v,heapOf [.dead] hp) else none
   | none=>none
 | _=>none
theorem yM{A:au→List aa→Value→List Value→Option Value}{f:FuncId}{fn:Func}{code:Code}{N:Nat}(hf:Tryz.prog.funcs[f]? = some fn)(hb:fn.body=some code)(hnm:(fn.name == "runtime.NumGoroutine")=false)(hN:fn.ntmps=N)
  (H:∀ R vs,R.own.id=0→vs.length<1000000→∀ pre rest v0,A R vs pre rest=some v0→OK fn code N R vs pre rest v0):aq Tryz.prog f (xg A):=jf follows hf hb hnm fun args hp v hp' h hk=>by
 rw [hN];unfold xg at h;split at h
 case h_2=>cases h
 rename_i pre a rest;split at h
 case h_2=>cases h
 rename_i R s ha;obtain ⟨rfl,h0⟩:=rD ha;split at h
 case isFalse=>cases h
 rename_i hx;obtain ⟨hT,hn⟩:=hx.choose_spec;generalize hx.choose=vs at *;obtain ⟨v0,hA,h2⟩:=Option.map_eq_some_iff.1 h;cases h2;have RR:=H R vs h0 hn _ _ v hA
 have key:∀ (K0:Ks) (f:Bool) (o:ae) (c:Nat),K0.length=1→dz K0→mv1 (fV K0) s=vS f 0 vs.length c→di K0 hp=heapOf [o,.dead] aE→aD o=true→(vs = []∨∃ ty ro,o = .cells ty (aI vs) ro)→(f=false→vs = []∧o = .dead)→gz (cV R s)=true →
    (∀ (i b:Nat) (wr:Bool),K0[i]? = some (some (b,wr))→(∃ o,hp.get b=some o∧(wr=true→o≠.dead)∧bP o=true)∧sf (pre::cV R s::rest) hp b∧wr=false∧(o = .dead→hp.get b=some .dead)) →
    ∃ (K0:Ks) (O Nw:List ae),heapOf [.dead] hp=heapOf (Nw ++ [.dead]) (putO K0 O hp)∧dz K0 ∧
    (∀ (i b:Nat) (wr:Bool),K0[i]? = some (some (b,wr))→(∃ o,hp.get b=some o∧(wr=true→o≠.dead)∧bP o=true)∧sf (pre::cV R s::rest) hp b)∧(pre::cV R s::rest).all gz=true∧(pre::cV R s::rest).length≤N ∧
    ∀ W X,bh Tryz.prog N W K0.length X code ⟨tmsOf ((pre::cV R s::rest).map (mv3 (fV K0))) 0 .leaf,di K0 hp,[]⟩ fun e st=>(e = .normal∨e = .ret)∧st.df = []∧∃ v0 K,retVal Tryz.prog fn st=some v0∧gz v0=true∧Nw.length=K.length∧gW K∧Cf K0 O K∧rN K0 K hp.sz O Nw v v0 st.hp.get hp.get:=by
  intro K0 f o c rX hnd he hpn hi hr hfl hok hst;refine ⟨K0,[o],[],?_,hnd,fun i b wr hi=>⟨(hst i b wr hi).1,(hst i b wr hi).2.1⟩,?_,by have:=RR.len; simpa using this,fun W X=>?_⟩
  ·have e:putO K0 [o] hp=hp:=by
      match K0,rX with
      | [none],_=>rfl
      | [some (b,false)],_=>rfl
      | [some (b,true)],_=>exact absurd (hst 0 b true rfl).2.2.1 (by decide)
   rw [e]; rfl
  ·rw [List.all_cons,List.all_cons,hok,RR.flatp.1]
   exact List.all_eq_true.2 fun x hx=>(RR.flat x hx).1
  ·have ea:(pre::cV R s::rest).map (mv3 (fV K0))=pre::cV R (vS f 0 vs.length c)::rest:=by
      rw [List.map_cons,List.map_cons,lj RR.flat,RR.flatp.2,← he];simp [mv3,mv2,mv1,cV,fG]
   rw [ea,hpn,rX];refine bh.mono (RR.run f o c W X hi hr hfl) fun e st q=>?_
   have:=BV.fin (K0:=K0) (B:=hp.sz) (O:=[o]) (Nw:=[]) (v:=v) (g:=hp.get) (fn:=fn) (P:=Tryz.prog) (e:=e) (st:=st) (by
     obtain ⟨q1,q2,v1,z,O,K,Nw,q3,q4,q5,rfl,rfl,rfl,rfl⟩:=q;refine ⟨q1,q2,_,z,_,_,_,q3,q4,q5,?_⟩
     refine ⟨RR.okv.1,by simp [bN (vs:=vs) hi],rfl,rfl,by simp [rX],⟨[],[],[],rfl,rfl,(RR.okv.2 _).symm,fun i b hi'=>?_,rfl⟩,fun i b hi' hdd=>?_⟩
     ·exact absurd (hst i b true hi').2.2.1 (by decide)
     ·have h0:i=0:=by have:=(List.getElem?_eq_some_iff.1 hi').1; omega
      subst h0;exact (hst 0 b false hi').2.2.2 (by simpa using hdd))
   exact this
 rcases hT with ⟨rfl,rfl⟩ | ⟨b,c,ob,rfl,hb,hi,hr⟩
 ·exact key [none] false .dead 0 rfl (fun i j b wr wr' h1 h2=>by cases i <;> simp at h1) rfl rfl rfl (.inl rfl) (fun _=>⟨rfl,rfl⟩) rfl (fun i b wr h=>by cases i <;> simp at h)
 ·have e1:fV [some (b,false)] b=0:=by simp [fV,posO,Nat.beq_refl]
  refine key [some (b,false)] true (roBlk ob) c rfl (fun i j b wr wr' h1 h2=>?_) ?_ ?_ (bT hi) (eC hr) (fun h=>by cases h) rfl (fun i b' wr h=>?_)
  ·have:=(List.getElem?_eq_some_iff.1 h1).1
   have:=(List.getElem?_eq_some_iff.1 h2).1
   simp at *; omega
  ·simp [mv1,af,vS,e1]
  ·unfold di
   simp [pinB,hb,bQ hi,eD]
  ·have h0:i=0:=by have:=(List.getElem?_eq_some_iff.1 h).1; simpa using this
   subst h0;simp at h;obtain ⟨rfl,rfl⟩:=h;refine ⟨⟨ob,hb,(fun h=>by cases h),aY hi⟩,.arg (.tail _ (.head _)) (by simp [j7,jD,af,cV,fG]),rfl,?_⟩
   intro h;cases ob <;> first | exact hb | cases h
theorem FV{A:au→List aa→Value→List Value→Option Value}{R:au}{vs:List aa}{s:Value}{pre:Value}{rest:List Value}{hp:Hp}{v0:Value}(h0:R.own.id=0)(h:TN vs s hp)(hn:vs.length<1000000)(hA:A R vs pre rest=some v0) :
  xg A (pre::cV R s::rest) hp=some (v0,heapOf [.dead] hp):=by
 unfold xg;have hx:∃ vs,TN vs s hp∧vs.length<1000000:=⟨vs,h,hn⟩
 simp only [uO h0];rw [dif_pos hx,hx.choose_spec.1.uniq h,hA];rfl
set_option maxHeartbeats 2000000
theorem Ge{hp:Hp}{b:Nat}{us:List aa}{i:Nat}{p:aa}(k:Nat){v:Value}(ho:dU hp b us)(h:us[i]? = some p)(hk:k<7)(hv:(vc p)[k]? = some v):aLoad Tryz.prog hp.get 3 (pb b (i*7+k))=some v:=by
 obtain ⟨ty,ro,rest,hg⟩:=ho;unfold pb;simp only [aLoad,hg,Jb,yw];have:=fk vc 7 us (fun _ _=>rfl) i k p h hk
 rw [hv] at this;unfold aI;rw [tT this]
def zI(R:au)(vs:List aa):Value→List Value→Option Value
 | .int .i64 now,[a]=>(unO a).map fun x=>.bool (iD now R.own vs&&decide (x.h.t<now))
 | _,_=>none
noncomputable def S3:Ext:=cR Tryz.prog []
theorem td:ExtOk Tryz.prog S3:=aS .nil
noncomputable def DG:Code:=(Tryz.f27.body).getD .skip
theorem K9:Tryz.f27.body=some DG:=by kernel_rfl
theorem Uj:Tryz.f27.ntmps=36:=by kernel_rfl
theorem Xy:codeSafe Tryz.prog 36 DG=true:=by kernel_rfl
noncomputable def Ic:Code:=pB (pR (pL (pR (DG))))
noncomputable def MJ:Code:=pU Ic
theorem Ie:Ic = .loop MJ:=by kernel_rfl
theorem NL:codeSafe Tryz.prog 36 MJ=true:=by kernel_rfl
theorem S6(f:Bool)(o:ae)(n c:Nat)(now:Int)(R:au)(ob:bb)(vs:List aa)(W:bj)(X:fj)(Q:Value→List ae→List Nat→List ae→Prop):let b0:ae:=.cells 30 (lK ⟨0,ob.kind,ob.dest,ob.h,ob.l,ob.num⟩) false;let b1:ae:=.cells 26 (fG R (vS f 0 n c)) false;(rO 1 [o,b1,b0]∧(∀ g,bh Tryz.prog 36 W 1 X Ic (av 36 g [(0,Iv now),(4,pb 1 0),(5,pb 2 0),(7,iN 0)] [o,b1,b0]) (Kv (fun (_:Unit) g=>(.ret,av 36 g [(6,.bool false)] [o])) (fun (_:Unit)=>vs.any (cP now)=true) (fun (_:Unit) g=>(.exit 0,av 36 g [(0,Iv now),(4,pb 1 0),(5,pb 2 0)] [o,b1,b0])) (fun (_:Unit)=>vs.any (cP now)=false)))∧(∀ (_:Unit) (g:Nat→Value),vs.any (cP now)=true→Q (.bool false) [o] [] [])∧(∀ (_:Unit) (g:Nat→Value),vs.any (cP now)=false→((decide (R.own.t<now))=true→Q (.bool (decide (ob.h.t<now))) [o] [] [])∧((decide (R.own.t<now))=false→Q (.bool false) [o] [] [])))=WF Tryz.prog S3 Tryz.f27 36 W 1 X 60 DG ⟨tmsOf [Iv now,cV R (vS f 0 n c),.agg #[Iv ob.kind,Iv ob.dest,.bool ob.h.n,Iv ob.h.t,Iv ob.h.o,Iv ob.h.r,Iv ob.h.d,Iv ob.h.i,Iv ob.l.1,Iv ob.l.2.1,Iv ob.l.2.2,Iv ob.num]] 0 .leaf,heapOf [o,.dead] aE,[]⟩ (.m 4 1 [0,2,3] [0,4,5,7] Unit (fun (_:Unit) g=>(.ret,av 36 g [(6,.bool false)] [o])) (fun (_:Unit)=>vs.any (cP now)=true) (.stop 1 [] []) Unit (fun (_:Unit) g=>(.exit 0,av 36 g [(0,Iv now),(4,pb 1 0),(5,pb 2 0)] [o,b1,b0])) (fun (_:Unit)=>vs.any (cP now)=false) (.b 8 (.stop 1 [] []) (.stop 1 [] []))) Q:=by cases f <;> (intros;kernel_rfl)
theorem Ch(f:Bool)(o:ae)(n c i:Nat)(now:Int)(R:au)(ob:bb)(x:aa)(g:Nat→Value)(Q:Exit→St→Prop):let b0:ae:=.cells 30 (lK ⟨0,ob.kind,ob.dest,ob.h,ob.l,ob.num⟩) false;let b1:ae:=.cells 26 (fG R (vS f 0 n c)) false;(((decide ((Int.ofNat i)<(Int.ofNat (kk f n))))=true→(fstV ((aIndexAddr Tryz.prog 24 (vS f 0 n c) (iN i)).map fun v=>(v,none)):OV)=some (pb 0 (i*7))∧((aLoad Tryz.prog (heapOf [o,b1,b0,.dead] aE).get 3 (pb 0 (((i*7)+1)+1)):OV)=some (Iv x.t)∧(((decide (x.t≥now))=true→rO 1 [o]∧∀ g,Q .ret (av 36 g [(6,.bool false)] [o]))∧((decide (x.t≥now))=false→(some (Iv (wrapF .i64 (Int.ofNat i+Int.ofNat 1))):OV)=some (iN (i+1))∧(rO 1 [o,b1,b0]∧∀ g,Q .normal (av 36 g [(0,Iv now),(4,pb 1 0),(5,pb 2 0),(7,iN (i+1))] [o,b1,b0]))))))∧((decide ((Int.ofNat i)<(Int.ofNat (kk f n))))=false→rO 1 [o,b1,b0]∧∀ g,Q (.exit 0) (av 36 g [(0,Iv now),(4,pb 1 0),(5,pb 2 0)] [o,b1,b0])))=RT Tryz.prog S3 36 1 60 MJ (av 36 g [(0,Iv now),(4,pb 1 0),(5,pb 2 0),(7,iN i)] [o,b1,b0]) (.b 4 (.v 8 (pb 0 (i*7)) (.v 11 (Iv x.t) (.b 13 (.stop 1 [0] [6]) (.v 15 (iN (i+1)) (.stop 1 [0,1,2] [0,4,5,7]))))) (.stop 1 [0,1,2] [0,4,5])) Q:=by cases f <;> (intros;kernel_rfl)
theorem MP(vs:List aa)(hn:vs.length<1000000)(f:Bool)(o:ae)(c:Nat)(ho:aD o=true)(hrow:vs = []∨∃ ty ro,o = .cells ty (aI vs) ro)(hfl:f=false→vs = []∧o = .dead)(R:au)(ob:bb)(now:Int)(W:bj)(X:fj)(g:Nat→Value) :
  bh Tryz.prog 36 W 1 X Ic (av 36 g [(0,.int .i64 now),(4,pb 1 0),(5,pb 2 0),(7,iN 0)] [o,.cells 26 (fG R (vS f 0 vs.length c)) false,.cells 30 (lK ⟨0,ob.kind,ob.dest,ob.h,ob.l,ob.num⟩) false]) (Kv (fun (_:Unit) g=>(.ret,av 36 g [(6,.bool false)] [o])) (fun (_:Unit)=>vs.any (cP now)=true) (fun (_:Unit) g=>(.exit 0,av 36 g [(0,.int .i64 now),(4,pb 1 0),(5,pb 2 0)] [o,.cells 26 (fG R (vS f 0 vs.length c)) false,.cells 30 (lK ⟨0,ob.kind,ob.dest,ob.h,ob.l,ob.num⟩) false])) (fun (_:Unit)=>vs.any (cP now)=false)):=by
 rw [Ie];have hkk:=ou hfl
 have hft:∀ {i:Nat},i<vs.length→f=true∧(∀ r:List ae,dU (heapOf (o::r) aE) 0 vs):=fun {i} hlt=>by
  refine ⟨?_,?_⟩
  ·cases f with
   | true=>rfl
   | false=>rw [(hfl rfl).1] at hlt; simp at hlt
  ·rcases hrow with h | h
   ·rw [h] at hlt; simp at hlt
   ·exact fun r=>jI h
 refine bh.find (vs:=vs) (cP now) (fun i g=>(av 36 g [(0,.int .i64 now),(4,pb 1 0),(5,pb 2 0),(7,iN i)] [o,.cells 26 (fG R (vS f 0 vs.length c)) false,.cells 30 (lK ⟨0,ob.kind,ob.dest,ob.h,ob.l,ob.num⟩) false])) (fun g hno=>?_) (fun i x g hx hlt hp hany=>?_) (fun i x g hx hlt hp=>?_) g
 ·refine bh.yk td follows NL (Ch f o vs.length c vs.length now R ob (zeroV 0) g _) ?_
  refine ⟨fun h_4=>Bool.noConfusion (h_4.symm.trans (zV hkk)),fun h_4=>⟨HL ho,fun g=>?_⟩⟩
  exact ⟨by simp,.inr ⟨(),g,hno,rfl,rfl⟩⟩
 ·obtain ⟨rfl,b0⟩:=hft hlt
  have hw:(some (Value.int .i64 (wrapF .i64 (Int.ofNat i+Int.ofNat 1))))=some (iN (i+1)):=bA (by omega)
  unfold cP at hp;refine bh.yk td follows NL (Ch true o vs.length c i now R ob x g _) ?_
  refine ⟨fun h_4=>⟨LtA.bF hlt,Ge 2 (b0 _) hx (by decide) rfl,fun h_13=>⟨HL ho,fun g=>?_⟩,fun h_13=>Bool.noConfusion (hp.symm.trans h_13)⟩,fun h_4=>Bool.noConfusion ((wo hkk hlt).symm.trans h_4)⟩
  exact ⟨by simp,.inl ⟨(),g,hany,rfl,rfl⟩⟩
 ·obtain ⟨rfl,b0⟩:=hft hlt
  have hw:(some (Value.int .i64 (wrapF .i64 (Int.ofNat i+Int.ofNat 1))))=some (iN (i+1)):=bA (by omega)
  unfold cP at hp;refine bh.yk td follows NL (Ch true o vs.length c i now R ob x g _) ?_
  refine ⟨fun h_4=>⟨LtA.bF hlt,Ge 2 (b0 _) hx (by decide) rfl,fun h_13=>Bool.noConfusion (h_13.symm.trans hp),fun h_13=>⟨hw,HL ho,fun g=>?_⟩⟩,fun h_4=>Bool.noConfusion ((wo hkk hlt).symm.trans h_4)⟩
  exact ⟨rfl,g,rfl⟩
theorem Rn(R:au)(vs:List aa)(h0:R.own.id=0)(hn:vs.length<1000000):∀ pre rest v0,zI R vs pre rest=some v0→OK Tryz.f27 DG 36 R vs pre rest v0:=fun pre rest v0 h=>by
 unfold zI at h;split at h
 case h_2=>cases h
 rename_i now a;obtain ⟨ob,hob,h2⟩:=Option.map_eq_some_iff.1 h;obtain rfl:=nP hob;cases h2;refine ⟨jl _ _,mu _,(by intro r hr; simp at hr; subst hr; exact re _),by simp,fun f o c W X ho hrow hfl=>?_⟩
 have hloop:=fun g=>MP vs hn f o c ho hrow hfl R ob now W X g
 refine bh.uo td follows Xy (S6 f o vs.length c now R ob vs W X _) ?_
 refine ⟨HL ho,hloop,fun _ g hok=>Q1.of ?_,fun _ g hok=>⟨fun h_8=>Q1.of ?_,fun h_8=>Q1.of ?_⟩⟩
 all_goals (simp only [iD, *]; first | rfl | simp)
noncomputable def uY:aB:=xg zI
theorem Mt:aq Tryz.prog 27 uY:=yM Tryz.func27 K9 (by kernel_rfl) Uj Rn
theorem NP(x:bb):unO (.agg (lK x).toArray)=some ⟨0,x.kind,x.dest,⟨0,x.h.n,x.h.t,x.h.o,x.h.r,x.h.d,x.h.i⟩,x.l,x.num⟩:=rfl
theorem Cc{R:au}{vs:List aa}{s:Value}{hp:Hp}{ob:bb}(h0:R.own.id=0)(now:Int)(h:TN vs s hp)(hn:vs.length<1000000):uY [.int .i64 now,cV R s,.agg (lK ob).toArray] hp=some (.bool (iD now R.own vs&&decide (ob.h.t<now)),heapOf [.dead] hp) :=
 FV h0 h hn (by unfold zI; simp only [NP]; rfl)
set_option maxHeartbeats 4000000
noncomputable def Wm:Ext:=fq (cR Tryz.prog [(19,gAw20)]) [(15,OA),(27,uY),(28,yV)]
theorem J9:ExtOk Tryz.prog Wm:=bD (aS (.cons Mk .nil)) (.cons TM (.cons Mt (.cons Jt .nil)))
noncomputable def Hz:Code:=(Tryz.f6.body).getD .skip
theorem K6:Tryz.f6.body=some Hz:=by kernel_rfl
theorem Ug:Tryz.f6.ntmps=67:=by kernel_rfl
theorem Xv:codeSafe Tryz.prog 67 Hz=true:=by kernel_rfl
theorem SR(f:Bool)(o:ae)(vs:List aa)(c:Nat)(R:au)(p:xo)(T:TS)(lt fd fe:Bool)(dn en:Nat)(DB EB:ae)(Q:Value→List ae→List Nat→List ae→Prop):let b0:ae:=.cells 32 [Iv p.call,Iv p.id,Iv p.ob.kind,Iv p.ob.dest,.bool p.ob.h.n,Iv p.ob.h.t,Iv p.ob.h.o,Iv p.ob.h.r,Iv p.ob.h.d,Iv p.ob.h.i,Iv p.ob.l.1,Iv p.ob.l.2.1,Iv p.ob.l.2.2,Iv p.ob.num,Iv p.now,Iv p.num] false;let v2:Value:=.agg #[Iv R.me,Iv R.dest,.bool R.own.n,Iv R.own.t,Iv R.own.o,Iv R.own.r,Iv R.own.d,Iv R.own.i,vS f 0 vs.length c,.bool R.asked,.bool R.want,.bool R.heard,Iv R.last];let b4:ae:=(bv (oF T.out) (aJ (T.out.flatMap oc)));let b5:ae:=.cells 26 (fG R (vS f 0 vs.length c)) false;let v6:Value:=.agg #[.bool T.R.own.n,Iv T.R.own.t,Iv T.R.own.o,Iv T.R.own.r,Iv T.R.own.d,Iv T.R.own.i];let v7:Value:=vS T.f 4 T.vs.length T.c;let v1:Value:=.tuple #[.agg #[Iv T.R.me,Iv T.R.dest,.bool T.R.own.n,Iv T.R.own.t,Iv T.R.own.o,Iv T.R.own.r,Iv T.R.own.d,Iv T.R.own.i,v7,.bool T.R.asked,.bool T.R.want,.bool T.R.heard,Iv T.R.last],vS (oF T.out) 5 T.out.length 40,Iv T.e];let b8:ae:=(bv T.f (LtA.ab T.vs));let b9:ae:=.cells 26 (fG T.R (v7)) false;let h3:Hp:=heapOf [o,.dead,b5,b0,b8,b4,.dead,b9,.dead] aE;(((decide ((Int.ofNat (kk f vs.length))>(Int.ofNat 80)))=true→Q (.bool true) [] [] [])∧((decide ((Int.ofNat (kk f vs.length))>(Int.ofNat 80)))=false→HT (OA [v2,.agg #[Iv p.call,Iv p.id,Iv p.ob.kind,Iv p.ob.dest,.bool p.ob.h.n,Iv p.ob.h.t,Iv p.ob.h.o,Iv p.ob.h.r,Iv p.ob.h.d,Iv p.ob.h.i,Iv p.ob.l.1,Iv p.ob.l.2.1,Iv p.ob.l.2.2,Iv p.ob.num,Iv p.now,Iv p.num]]) (heapOf [o,.dead,b5,b0] aE) (v1) [b8,b4,.dead]∧(((T.e != (Int.ofNat 0))=true→Q (.bool true) [] [] [])∧((T.e != (Int.ofNat 0))=false→((R.me==R.dest)=true→Q (.bool true) [] [] [])∧((R.me==R.dest)=false→HT (uY [Iv p.now,v2,.agg #[Iv p.ob.kind,Iv p.ob.dest,.bool p.ob.h.n,Iv p.ob.h.t,Iv p.ob.h.o,Iv p.ob.h.r,Iv p.ob.h.d,Iv p.ob.h.i,Iv p.ob.l.1,Iv p.ob.l.2.1,Iv p.ob.l.2.2,Iv p.ob.num]]) (heapOf [o,.dead,b5,b0,b8,b4,.dead,b9] aE) (.bool lt) [.dead]∧(((!lt)=true→Q (.bool true) [] [] [])∧((!lt)=false→((!R.own.n)=true→HT (yV [vS f 0 vs.length c,.agg #[.bool R.own.n,Iv R.own.t,Iv R.own.o,Iv R.own.r,Iv R.own.d,Iv R.own.i]]) (h3) (vI fd 9 dn) [DB,.dead]∧((((Int.ofNat (kk fd dn))==(Int.ofNat 0))=true→Q (.bool true) [] [] [])∧(((Int.ofNat (kk fd dn))==(Int.ofNat 0))=false→(T.R.own.n=true→Q (.bool true) [] [] [])∧(T.R.own.n=false→HT (yV [v7,v6]) (heapOf [o,.dead,b5,b0,b8,b4,.dead,b9,.dead,DB,.dead] aE) (vI fe 11 en) [EB,.dead]∧(Q (.bool (decide ((Int.ofNat (kk fe en))>(Int.ofNat 0)))) [] [] [])))))∧((!R.own.n)=false→(T.R.own.n=true→Q (.bool true) [] [] [])∧(T.R.own.n=false→HT (yV [v7,v6]) (h3) (vI fe 9 en) [EB,.dead]∧(Q (.bool (decide ((Int.ofNat (kk fe en))>(Int.ofNat 0)))) [] [] []))))))))))=RF Tryz.prog Wm Tryz.f6 300 Hz ⟨tmsOf [cV R (vS f 0 vs.length c),EK p] 0 .leaf,heapOf [o,.dead] aE,[]⟩ (.b 6 (.stop 0 [] []) (.h 9 (v1) [b8,b4,.dead] (.b 19 (.stop 0 [] []) (.b 25 (.stop 0 [] []) (.h 33 (.bool lt) [.dead] (.b 34 (.stop 0 [] []) (.b 39 (.h 45 (vI fd 9 dn) [DB,.dead] (.b 47 (.stop 0 [] []) (.b 53 (.stop 0 [] []) (.h 59 (vI fe 11 en) [EB,.dead] (.stop 0 [] []))))) (.b 46 (.stop 0 [] []) (.h 52 (vI fe 9 en) [EB,.dead] (.stop 0 [] [])))))))))) Q:=by cases f <;> (rcases T with ⟨_,_,fT,_,oT,_⟩; cases fT <;> cases oT) <;> cases fd <;> cases fe <;> (intros;kernel_rfl)
theorem Eh(f:Bool)(o:ae)(R:au)(h0:R.own.id=0)(vs:List aa)(p:xo)(hp:GL p)(c:Nat)(ho:aD o=true)(hrow:vs = []∨∃ ty ro,o = .cells ty (aI vs) ro)(hfl:f=false→vs = []∧o = .dead)(W:bj) :
  aj Tryz.prog 67 W Hz ⟨tmsOf [cV R (vS f 0 vs.length c),EK p] 0 .leaf,heapOf [o,.dead] aE,[]⟩ (ft Tryz.prog Tryz.f6 Wr):=bh.XM fun X=>by
 have hkk:=ou hfl
 refine bh.cq J9 follows Xv (SR f o vs c R p (dQ R f vs p) (iD p.now R.own vs&&decide (p.ob.h.t<p.now)) (!(bM 1 R.own vs).isEmpty) (!(bM 1 (dQ R f vs p).R.own (dQ R f vs p).vs).isEmpty) (bM 1 R.own vs).length (bM 1 (dQ R f vs p).R.own (dQ R f vs p).vs).length (cS (bM 1 R.own vs)) (cS (bM 1 (dQ R f vs p).R.own (dQ R f vs p).vs)) _) ?_
 rcases Nat.lt_or_ge 80 vs.length with h80 | h80
 ·exact ⟨fun h_6=>rfl,fun h_6=>Bool.noConfusion ((Pd hkk h80).symm.trans h_6)⟩
 ·have hn:vs.length<1000000:=by omega
  have T0:∀ {hp:Hp},hp.get 0=some o→TN vs (vS f 0 vs.length c) hp:=fun hg=>gf ho hrow hfl hg
  have hstep:∀ {hp:Hp},hp.get 0=some o→OA [cV R (vS f 0 vs.length c),EK p] hp=_:=fun hg=>Kt h0 hp (T0 hg) hn
  have hF:=IH (R:=R) (f:=f) (vs:=vs) (p:=p) fun e=>(hfl e).1
  have hO:=II (R:=R) (f:=f) (vs:=vs) (p:=p)
  have hD:=Bt (R:=R) (f:=f) (vs:=vs) (p:=p)
  have hdn:∀ {hp:Hp},hp.get 0=some o→yV [vS f 0 vs.length c,cN R.own] hp=some (vI (!(bM 1 R.own vs).isEmpty) hp.sz (bM 1 R.own vs).length,heapOf [cS (bM 1 R.own vs),.dead] hp):=fun hg=>by rw [kQ]; exact B9 R.own (T0 hg) hn
  have hlt:∀ {hp:Hp},hp.get 0=some o→uY [.int .i64 p.now,cV R (vS f 0 vs.length c),.agg (lK p.ob).toArray] hp=some (.bool (iD p.now R.own vs&&decide (p.ob.h.t<p.now)),heapOf [.dead] hp):=fun hg=>Cc h0 p.now (T0 hg) hn
  generalize dQ R f vs p=T at *;have k1:=Ef (bM 1 R.own vs)
  have k2:=Ef (bM 1 T.R.own T.vs)
  rcases two (T.e != Int.ofNat 0) with he | he
  ·exact ⟨fun h_6=>Bool.noConfusion (h_6.symm.trans (Jp hkk h80)),fun h_6=>⟨hstep (bp rfl),fun h_19=>oO rfl,fun h_19=>Bool.noConfusion (he.symm.trans h_19)⟩⟩
  ·
    have he0:T.e=0:=by simpa using he
    obtain ⟨hk,hT⟩:=hO he0;have hR:=pQ.1 hk
    have hvs:T.vs.length<1000000:=Nat.lt_of_le_of_lt (kF hT.r.rt) (by omega)
    have hen:∀ {hp:Hp},hp.get 4=some (bv T.f (LtA.ab T.vs))→yV [vS T.f 4 T.vs.length T.c,cN T.R.own] hp=some (vI (!(bM 1 T.R.own T.vs).isEmpty) hp.sz (bM 1 T.R.own T.vs).length,heapOf [cS (bM 1 T.R.own T.vs),.dead] hp):=fun hg=>by rw [kQ]; exact B9 T.R.own (pd hg hF) hvs
    have hdo:(R.me==R.dest)=false→(iD p.now R.own vs&&decide (p.ob.h.t<p.now))=true→(R.own.n=true∨0<(bM 1 R.own vs).length)→T.R.own.n=true∨0<(bM 1 T.R.own T.vs).length:=fun e1 e2 e3=>by
      obtain ⟨l1,l2⟩:=Bool.and_eq_true_iff.1 e2;unfold iD at l1;obtain ⟨l3,l4⟩:=Bool.and_eq_true_iff.1 l1;refine (zo hT.r.ok).1 (hD he0 (by simpa using e1) ⟨of_decide_eq_true l4,fun x hx=>?_,of_decide_eq_true l2⟩ ((zo hR.ok).2 e3))
      have h1:vs.any (cP p.now)=false:=by simpa using l3
      have:=List.any_eq_false.1 h1 x hx
      unfold cP at this;simpa using this
    clear hD hO;generalize (bM 1 R.own vs).length=dn at *;generalize (bM 1 T.R.own T.vs).length=en at *;refine ⟨fun h_6=>Bool.noConfusion (h_6.symm.trans (Jp hkk h80)),fun h_6=>⟨hstep (bp rfl),fun h_19=>Bool.noConfusion (h_19.symm.trans he),fun h_19=>⟨fun h_25=>oO ?_,fun h_25=>⟨hlt (bp rfl),fun h_34=>oO ?_,fun h_34=>⟨fun h_39=>⟨hdn (bp rfl),fun h_47=>oO ?_,fun h_47=>⟨fun h_53=>oO ?_,fun h_53=>⟨hen (bp rfl),oO ?_⟩⟩⟩,fun h_39=>⟨fun h_46=>oO ?_,fun h_46=>⟨hen (bp rfl),oO ?_⟩⟩⟩⟩⟩⟩⟩
    all_goals first | rfl | (
      clear hstep hdn hen hlt T0;have e1:(iD p.now R.own vs&&decide (p.ob.h.t<p.now))=true:=by simpa using ‹(!(iD p.now R.own vs&&decide (p.ob.h.t<p.now)))=false›
      have e3:R.own.n=true∨0<dn:=by
        first
        | (left; simpa using ‹(!R.own.n)=false›)
        | (right; have h9:=‹(Int.ofNat (kk (!(bM 1 R.own vs).isEmpty) dn)==Int.ofNat 0)=false›; rw [k1] at h9; simp at h9; omega)
      have h8:0<en:=by
        rcases hdo ‹_› e1 e3 with h | h
        ·exact absurd (h.symm.trans ‹T.R.own.n=false›) (by decide)
        ·exact h
      rw [k2,decide_eq_true (by simp only [Int.ofNat_eq_natCast]; omega)])
end Go.Proofs.YtgeoommlmddgpaaGreat.LtL
namespace Go.Proofs.YtgeoommlmddgpaaGreat.LtL
open Go Go.Proofs Go.Proofs.YtgeoommlmddgpaaGreat.AI Go.RowKit Go.ChangeShapes Go.Proofs.YtgeoommlmddgpaaGreat.LtA
theorem MG:laidOutB Tryz.prog=true:=by kernel_rfl
theorem Ql:ownKnob Tryz.prog.godebug=none:=by kernel_rfl
theorem NR{H:Type}{enc:TypeId×Value→H}(W:World)(base:Nat)(args:Array Value)(ds:List (DataW H))(p:List MemPlace)(hsz:args.size=2)(hval:∀ (j:Nat) t v,Tryz.f6.params[j]? = some t→args[j]? = some v→Value.okWide Tryz.prog W .any base t v)
  (hA:DataW.TrodAll enc Tryz.prog W 0 (fun _=>true) true [26,32] args.toList ds p):Calls Tryz.prog 6 args W fun e W'=>e = .returned (.bool true)∧Below W.heap.size W W':=by
 obtain ⟨v0,v1,rfl⟩:∃ v0 v1,args = #[v0,v1]:=by
  obtain ⟨l⟩:=args;match l,hsz with
  | [a,b],_=>exact ⟨a,b,rfl⟩
 obtain ⟨p,hop,rfl⟩:=Ip (hval 1 32 v1 (by kernel_rfl) rfl)
 obtain ⟨w0,ws0,d0,ds0,p0,q0,e0,_,_,hT,_⟩:=trodAll_cons hA;cases e0;obtain ⟨R,f,o,vs,m,h0,hi,sim,ro,rv,hrow,hfl⟩:=yg (hval 0 26 v0 (by kernel_rfl) rfl) hT
 refine H4 Tryz.func6 K6 Ug W (args0:=[cV R (vS f 0 vs.length 2),EK p]) (by simp) (bE _ _ iO) sim ro (.cons rv (.cons (ah.plain rfl) .nil)) fun W=>?_
 exact aj.mono (Eh f o R h0 vs p hop 2 hi hrow hfl W) fun e st h=>by
  obtain ⟨q1,q2,v1,z,O,K,Nw,q3,_,_,rfl⟩:=h;exact ⟨q1,q2,q3⟩
theorem ET:∀ t∈Tryz.f6.params.toList,Tryz.prog.readableRec t=true∧t<Tryz.prog.types.size:=by
 have h:Tryz.f6.params.toList.all (fun t=>Tryz.prog.readableRec t&&decide (t<Tryz.prog.types.size))=true:=by kernel_rfl
 intro t ht;have:=List.all_eq_true.1 h t ht
 simpa using this
theorem Er(os:Os)(started:os.Started)(H:Type)(enc:TypeId×Value→H) :
  ReturnsInHanded {} Tryz.checked os 6 .any (Rows.coreDownSpec.pre6 enc Tryz.prog Tryz.f6 Rows.coreDownRow.domain false) (Rows.coreDownSpec.post enc Tryz.prog Tryz.f6 false true false false) :=
 xZ (C:=Tryz.checked) (tb:=4) started Ql (by kernel_rfl) Tryz.func6 MG ET rfl (by kernel_rfl) Tryz.underlying4
  (fun ds hl=>by
    match ds,hl with
    | [_,_],_=>rfl)
  (ChangeSpec.witness6 (enc:=enc) (C:=Tryz.checked) false ⟨#[],#[cV zR ax,EK ⟨0,0,⟨0,0,0,zH,zL,0⟩,0,0⟩],[]⟩ 8 (by kernel_rfl) (by kernel_rfl) (by kernel_rfl) (by kernel_rfl))
  (fun W base args ds p hsz hval hA=>NR W base args ds p hsz hval hA)
theorem coreDown_proved:Rows.CoreDownSaid :=
 OpenClaim.holds_of_wide 6 Tryz.f6 rfl rfl rfl rfl rfl rfl rfl ⟨rfl,rfl,rfl,rfl,rfl⟩ rfl rfl rfl rfl rfl (by kernel_rfl) Tryz.func6 (by kernel_rfl)
  (of_decide_eq_true (by kernel_rfl)) (by unfold Func.isWrapper; first | (rw [if_pos (by decide +kernel)]; kernel_rfl) | (rw [if_neg (by decide +kernel)]; exact ⟨rfl,rfl⟩))
  (fun os started H enc _=>Er os started H enc)
end Go.Proofs.YtgeoommlmddgpaaGreat.LtL
