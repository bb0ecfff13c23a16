/- CoreTells, of the given program: for every route and call the law returns true, and the arguments read asv they did. No condition. -/
import Derived.Test.YtgeoommlmddgpaaGreatXcG
import Derived.Test.YtgeoommlmddgpaaGreatRows
set_option linter.unusedVariables false
set_option linter.unusedSimpArgs false
set_option maxRecDepth 100000
namespace Go.Proofs.YtgeoommlmddgpaaGreat.LtL
open Go Go.Proofs Go.Proofs.YtgeoommlmddgpaaGreat.AI Go.RowKit Go.Proofs.YtgeoommlmddgpaaGreat.Sort Go.Proofs.YtgeoommlmddgpaaGreat.LtA
theorem iS{vs:List aa}{id:Int}:(aG vs id).isSome=false↔∀ x∈vs,x.id≠id:=by
 unfold aG;cases h:vs.find? (sb id) with
 | none =>
   have:=List.find?_eq_none.1 h
   exact ⟨fun _ x hx e=>this x hx (by simp [sb,e]),fun _=>rfl⟩
 | some y =>
   refine ⟨fun h=>(by cases h),fun hx=>?_⟩
   have h1:=List.mem_of_find?_eq_some h
   have h2:=List.find?_some h
   exact absurd (by simpa [sb] using h2) (hx y h1)
def J'(me:Int):aa:=⟨0,false,0,0,0,0,me⟩
structure W8 (R:aw) (vs:List aa):Prop where
 me:0≤R.me∧R.me<64
 dest:0≤R.dest∧R.dest<64
 own:R.own.i=R.me
 self:∀ x∈vs,x.id≠R.me
 ok:dU R.own.n R.own.t R.own.o R.own.r R.own.d R.own.i=true
 rt:aF vs=true
 ask:R.asked=true→R.own.n=true
 last:0≤R.last∧R.last≤65535∧(0<R.last→R.heard=true)
 home:R.me=R.dest→cL R.own (J' R.me)=true
theorem pY{R:aw}{vs:List aa}:iU R vs=true↔W8 R vs:=by
 unfold iU Ah;constructor
 ·intro h
  simp only [Bool.and_eq_true,decide_eq_true_eq,Bool.not_eq_true',decide_eq_false_iff_not,ge_iff_le,Int.ofNat_eq_natCast,Bool.and_eq_false_iff,bne_eq_false_iff_eq,gt_iff_lt,Int.not_lt] at h;obtain ⟨⟨⟨⟨⟨⟨⟨⟨⟨⟨h1,h2⟩,h3⟩,h4⟩,h5⟩,h6⟩,h7⟩,h8⟩,h9⟩,h10⟩,h11⟩:=h;refine ⟨by omega,by omega,h3,iS.1 h4,h5,h6,fun ha=>?_,⟨by omega,by omega,fun hl=>?_⟩,fun hm=>?_⟩
  ·rcases h7 with h | h
   ·rw [ha] at h; cases h
   ·simpa using h
  ·rcases h10 with h | h
   ·exact absurd hl (by omega)
   ·simpa using h
  ·rcases h11 with h | h
   ·rw [hm] at h; simp at h
   ·simpa [J'] using h
 ·intro h
  have e1:=iS.2 h.self
  have e2:(R.asked && !R.own.n)=false:=by
    cases ha:R.asked with
    | false=>rfl
    | true=>rw [h.ask ha]; rfl
  have e3:(decide (R.last>Int.ofNat 0) && !R.heard)=false:=by
    by_cases hl:0<R.last
    ·rw [h.last.2.2 hl]; simp
    ·rw [decide_eq_false (by simpa using hl)]; rfl
  have e4:((R.me==R.dest) && !cL R.own ⟨0,false,0,0,0,0,R.me⟩)=false:=by
    by_cases hm:R.me=R.dest
    ·have e5:cL R.own ⟨0,false,0,0,0,0,R.me⟩=true:=h.home hm
     rw [e5]; simp
    ·rw [beq_false_of_ne hm]; rfl
  have e6:(R.own.i != R.me)=false:=by rw [h.own]; simp
  rw [e1,e2,e3,e4,e6,h.ok,h.rt];obtain ⟨⟨a1,a2⟩,⟨a3,a4⟩,-,-,-,-,-,⟨a5,a6,-⟩,-⟩:=h;simp only [Int.ofNat_eq_natCast,ge_iff_le,Bool.not_false,Bool.and_true,Bool.and_eq_true,decide_eq_true_eq,Bool.not_eq_true',decide_eq_false_iff_not,Int.not_lt,gt_iff_lt];refine ⟨⟨⟨⟨?_,?_⟩,?_,?_⟩,?_⟩,?_⟩ <;> simp <;> omega
def Ph(dest:Int)(vs:List aa)(x:aQ):Prop:=jC x=true∧x.dest=dest∧(x.to=255∨∃ y∈vs,y.id=x.to)
namespace TS
structure Ok (m d:Int) (T:TS):Prop where
 r:W8 T.R T.vs
 me:T.R.me=m
 dest:T.R.dest=d
 out:∀ x∈T.out,Ph d T.vs x
section
variable {me dest:Int} {T:TS}
theorem vZ{l:aU}{keep:Int}{vs:List aa}{k:Int}(h:k∈bO l keep vs):∃ y∈vs,y.id=k:=by
 unfold bO at h;obtain ⟨y,hy,e⟩:=List.mem_map.1 h;exact ⟨y,(List.mem_filter.1 hy).1,e⟩
end
end TS
def du(me:Int)(k:aa)(x:aQ):aa:=bif x.to != Int.ofNat 255 then k else bif x.kind==Int.ofNat 2 then x.h else bif x.kind==Int.ofNat 4 then x.h else bif x.kind==Int.ofNat 3 then bC me else k
theorem Cz(me:Int)(vs:List aa):(bH me vs).1.id=0:=(vh me vs).2
theorem Hv{own:aa}{vs:List aa}{now:Int}{lost:Bool}(h:own.id=0):(bM own vs now lost).1.id=0:=by
 obtain ⟨hi,-⟩:=mY own vs now lost;generalize bM own vs now lost=q at *;cases hi <;> first | rfl | exact h
theorem A0{own:aa}{vs:List aa}{now:Int}{lost:Bool}(h:(bM own vs now lost).2.1=4):(bM own vs now lost).1=bC own.i:=by
 obtain ⟨hi,-⟩:=mY own vs now lost;generalize bM own vs now lost=q at *;cases hi with
 | dete=>rfl
 | bad=>exact absurd (show (0:Int)=4 from h) (by decide)
 | stay=>exact absurd (show (0:Int)=4 from h) (by decide)
 | alone=>exact absurd (show (6:Int)=4 from h) (by decide)
 | lost=>exact absurd (show (1:Int)=4 from h) (by decide)
 | gene=>exact absurd (show (5:Int)=4 from h) (by decide)
 | prop=>exact absurd (show (2:Int)=4 from h) (by decide)
 | refl=>exact absurd (show (3:Int)=4 from h) (by decide)
namespace TS
structure Tl (m:Int) (own0:aa) (T:TS):Prop where
 me:T.R.me=m
 i:T.R.own.i=m
 id:T.R.own.id=0
 last:T.out.foldl (du m) own0=T.R.own
section
variable {me:Int} {own0:aa} {T:TS}
theorem gF(T:TS)(to kind:Int)(v:aa)(l:aU)(num:Int):(T.send to kind v l num).out.foldl (du me) own0=du me (T.out.foldl (du me) own0) ⟨to,kind,T.R.dest,v,l,num⟩:=by
 show (T.out++_).foldl (du me) own0=_
 rw [List.foldl_append]; rfl
theorem xn(h1:T.R.me=me)(h2:T.R.own.i=me)(h3:T.R.own.id=0):(T.tell 255).Tl me own0:=⟨h1,h2,h3,by
 show (T.send 255 2 T.R.own zL 0).out.foldl (du me) own0=_
 rw [gF]; rfl⟩
theorem uU(h:T.Tl me own0)(to:Int):(T.tell to).Tl me own0:=⟨h.me,h.i,h.id,by
 show (T.send to 2 T.R.own zL 0).out.foldl (du me) own0=_
 rw [gF,h.last];unfold du;cases (to != Int.ofNat 255) <;> rfl⟩
theorem K4(h:T.Tl me own0)(to:Int)(b:Bool):((T.ask b).send to 1 zH zL 0).Tl me own0:=⟨h.me,h.i,h.id,by
 rw [gF];show du me (T.out.foldl (du me) own0) _=T.R.own
 rw [h.last];unfold du;cases (to != Int.ofNat 255) <;> rfl⟩
theorem Fh(h:T.Tl me own0)(to:Int):(T.send to 1 zH zL 0).Tl me own0:=⟨h.me,h.i,h.id,by
 rw [gF,h.last];unfold du;cases (to != Int.ofNat 255) <;> rfl⟩
theorem yg(h:T.Tl me own0)(e:Int):(T.err e).Tl me own0:=⟨h.me,h.i,h.id,h.last⟩
theorem yJ(h:T.Tl me own0)(y:aa):(T.set y).Tl me own0:=⟨h.me,h.i,h.id,h.last⟩
theorem Be(h:T.Tl me own0)(l:aU):(T.forget l).Tl me own0:=⟨h.me,h.i,h.id,h.last⟩
theorem xA(h:T.Tl me own0)(b:Bool):(T.nS b).Tl me own0:=⟨h.me,h.i,h.id,h.last⟩
theorem vD(h1:T.R.me=me)(h:T.R.own=bC me)(l:aU):(T.clear 255 l).Tl me own0:=⟨h1,(by show T.R.own.i=me; rw [h]; rfl),(by show T.R.own.id=0; rw [h]; rfl),by
 show (T.send 255 3 zH l 0).out.foldl (du me) own0=T.R.own
 rw [gF,h]; rfl⟩
theorem uH(h:T.Tl me own0):T.fC.Tl me own0:=by
 have hid:=Cz T.R.me T.vs
 have hr:=qi (me:=T.R.me) (vs:=T.vs)
 unfold fC pe;generalize bH T.R.me T.vs=a at *;cases h0:(a.2==Int.ofNat 0) with
 | true =>
   have e:a.2=0:=by simpa using h0
   exact xn (T:=(T.own a.1).ask false) h.me ((hr e).2.2.1.trans h.me) hid
 | false =>
 simp only [cond_false];cases h7:(a.2==Int.ofNat 7) with
 | true =>
   simp only [cond_true];cases (!T.R.asked) with
   | true=>exact K4 h 255 true
   | false=>exact h
 | false=>exact yg h _
theorem lk(h:T.Tl me own0):T.dv.Tl me own0:=by
 unfold dv;cases (T.R.own.n&&(T.R.want&&(!T.R.asked && !T.home))) with
 | true=>exact uH h
 | false=>exact h
theorem Mc{own:aa}{vs:List aa}{now:Int}{lost:Bool}(he:(bM own vs now lost).2.2=0):(bM own vs now lost).1.i=own.i:=by
 obtain ⟨hi,-⟩:=mY own vs now lost;generalize bM own vs now lost=q at *;cases hi <;> first | rfl | exact absurd (show (1:Int)=0 from he) (by decide)
theorem zT(h:T.Tl me own0)(now:Int)(lost:Bool):(T.keep now lost).Tl me own0:=by
 unfold keep;cases (T.home||T.R.own.n) with
 | true=>exact h
 | false =>
 simp only [cond_false];have hid:=Hv (vs:=T.vs) (now:=now) (lost:=lost) h.id
 have hnl:=A0 (own:=T.R.own) (vs:=T.vs) (now:=now) (lost:=lost)
 have hci:=Mc (own:=T.R.own) (vs:=T.vs) (now:=now) (lost:=lost)
 generalize bM T.R.own T.vs now lost=r at *;unfold qG;cases he:(r.2.2 != Int.ofNat 0) with
 | true=>exact yg h _
 | false =>
 have hi:r.1.i=me:=(hci (by simpa using he)).trans h.i
 simp only [cond_false];cases (r.2.1==Int.ofNat 0) with
 | true=>exact h
 | false =>
 simp only [cond_false];cases h4:(r.2.1==Int.ofNat 4) with
 | true =>
   have e:r.1=bC T.R.own.i:=hnl (by simpa using h4)
   rw [h.i] at e;exact lk (vD (T:=(((T.own r.1).tell 255).forget T.ov)) h.me e _)
 | false=>exact lk (xn (T:=T.own r.1) h.me hi hid)
theorem Aa(h:T.Tl me own0)(now:Int):(T.nj now).Tl me own0:=by
 unfold nj;cases T.R.own.n with
 | true=>exact lk h
 | false=>exact zT h _ _
theorem Gj(h:T.Tl me own0)(y:aa)(now:Int):(T.xw y now).Tl me own0:=by
 have hs:=yJ h y
 unfold xw;cases (T.set y).home with
 | true=>exact hs
 | false =>
 simp only [cond_false];cases (T.set y).R.own.n with
 | false=>exact zT hs _ _
 | true =>
 simp only [Bool.not_true,cond_false];cases (T.set y).R.asked with
 | true=>exact uH hs
 | false=>exact lk hs
theorem o4(dest:Int)(l:aU):∀ (ids:List Int) (k:aa),(∀ i∈ids,i≠255)→(ids.map (uZ dest l)).foldl (du me) k=k
 | [],k,_=>rfl
 | i::ids,k,h=>by
   have e:du me k (uZ dest l i)=k:=by
     have:(i != Int.ofNat 255)=true:=by
       have:=h i (.head _)
       simpa [bne] using this
     unfold du uZ;simp only [this,cond_true]
   rw [List.map_cons,List.foldl_cons,e];exact o4 dest l ids k fun j hj=>h j (.tail _ hj)
theorem A5(h:T.Tl me own0){ids:List Int}{l:aU}(hi:∀ i∈ids,i≠255):(T.oe ids l).Tl me own0:=⟨h.me,h.i,h.id,by
 show (T.out++ids.map (uZ T.R.dest l)).foldl (du me) own0=T.R.own
 rw [List.foldl_append,h.last];exact o4 _ _ _ _ hi⟩
theorem Mk(h:T.Tl me own0)(hr:aF T.vs=true)(ob:aQ)(now:Int):(T.yc ob now).Tl me own0:=by
 have hf:=Be h ob.l
 unfold yc;cases (!T.home&&(!T.R.own.n&&(bA T.R.own==ob.l))) with
 | true=>exact lk (vD (T:=((T.forget ob.l).own (bC T.R.me))) h.me (by show bC T.R.me=_; rw [h.me]) _)
 | false =>
   refine Aa (A5 hf fun i hi=>?_) _
   obtain ⟨y,hy,rfl⟩:=TS.vZ hi;have:=oB ((dw.1 hr).1 y hy)
   omega
theorem qY(h1:T.R.me=me)(h2:T.R.own.i=me)(h3:T.R.own.id=0)(k:Int):(T.iI k).Tl me own0:=⟨h1,h2,h3,by
 show ((T.qB k).send 255 4 T.R.own zL k).out.foldl (du me) own0=_
 rw [gF]; rfl⟩
theorem Nz(h:T.Tl me own0)(id:Int)(ob:aQ)(now:Int):(T.opt id ob now).Tl me own0:=by
 unfold opt;cases (T.home||(T.R.heard && !qI T.R.last ob.num)) with
 | true=>exact Gj h _ now
 | false =>
 simp only [cond_false];unfold fresh;cases (cq false (bA ob.h).1 (bA ob.h).2.1 (bA ob.h).2.2 (wrapF .i64 (ob.h.d+Int.ofNat 1)) T.R.me != Int.ofNat 0) with
 | true=>exact yg (yJ h _) _
 | false=>exact qY (T:=((T.set (aZ id ob.h)).own (Br T.R.me ob)).ask false) h.me h.me rfl _
theorem H8(h:T.Tl me own0)(hr:aF T.vs=true)(id:Int)(ob:aQ)(now:Int):(T.kv id ob now).Tl me own0:=by
 unfold kv;cases (ob.kind==Int.ofNat 1) with
 | true =>
   simp only [cond_true];unfold NA;cases T.R.own.n with
   | true =>
     simp only [cond_true];cases (!T.R.asked) with
     | true=>exact uH h
     | false=>exact h
   | false=>exact uU h _
 | false =>
 simp only [cond_false];cases (ob.kind==Int.ofNat 2) with
 | true=>exact Gj h _ _
 | false =>
 simp only [cond_false];cases (ob.kind==Int.ofNat 3) with
 | true=>exact Mk h hr _ _
 | false=>exact Nz h _ _ _
theorem S0(h:T.Tl me own0)(id:Int):(T.up id).Tl me own0:=by
 have hs:=yJ h (aZ id (bC id))
 unfold up;cases (!T.R.own.n) <;> cases T.R.asked
 ·exact hs
 ·exact Fh hs _
 ·exact uU hs _
 ·exact Fh (uU hs _) _
end
end TS
theorem pN{me:Int}{own0:aa}{T:TS}(h:T.Tl me own0)(he:(c7 T).e=0):(c7 T).Tl me own0:=by
 unfold c7 at he ⊢;cases hc:(T.e != Int.ofNat 0) with
 | true =>
   rw [hc] at he;have:T.e=0:=he
   rw [this] at hc;exact absurd hc (by decide)
 | false=>exact ⟨h.me,h.i,h.id,h.last⟩
theorem rE{R:aw}{f:Bool}{vs:List aa}{p:mE}(h0:R.own.id=0)(he:(cp R f vs p).e=0):(cp R f vs p).Tl R.me R.own:=by
 unfold cp at he ⊢;cases hok:iU R vs with
 | false=>rw [hok] at he; exact bV he (by decide)
 | true =>
 rw [hok] at he;simp only [cond_true] at he ⊢;have hR:=pY.1 hok
 have hB:(eH R f vs).Tl R.me R.own:=⟨rfl,hR.own,h0,rfl⟩
 unfold l5 at he ⊢;generalize (p.call==Int.ofNat 0)=b0 at he ⊢;cases b0 with
 | true =>
   simp only [cond_true] at he ⊢;unfold Je at he ⊢;cases hc:(!(decide (p.id≥Int.ofNat 0)&&decide (p.id<Int.ofNat 64))||(p.id==R.me)) with
   | true=>rw [hc] at he; exact bV he (by decide)
   | false =>
   rw [hc] at he;simp only [cond_false] at he ⊢;cases hf:(aG vs p.id).isSome with
   | true=>rw [hf] at he; exact bV he (by decide)
   | false =>
   rw [hf] at he;exact pN (TS.S0 hB _) he
 | false =>
 simp only [cond_false] at he ⊢;generalize (p.call==Int.ofNat 1)=b1 at he ⊢;cases b1 with
 | true =>
   simp only [cond_true] at he ⊢;unfold ks at he ⊢;cases ht:eQ p.now with
   | false=>rw [ht] at he; exact bV he (by decide)
   | true =>
   rw [ht] at he;simp only [Bool.not_true,cond_false] at he ⊢;cases hf:fnd vs p.id with
   | false=>rw [hf] at he; exact bV he (by decide)
   | true =>
   rw [hf] at he;exact pN (TS.Aa (T:=⟨R,dy vs p.id,true,23,[],0⟩) ⟨rfl,hR.own,h0,rfl⟩ _) he
 | false =>
 simp only [cond_false] at he ⊢;generalize (p.call==Int.ofNat 2)=b2 at he ⊢;cases b2 with
 | true =>
   simp only [cond_true] at he ⊢;unfold fF at he ⊢;cases ht:eQ p.now with
   | false=>rw [ht] at he; exact bV he (by decide)
   | true =>
   rw [ht] at he;simp only [Bool.not_true,cond_false] at he ⊢;cases hf:(aG vs p.id).isSome with
   | false=>rw [hf] at he; exact bV he (by decide)
   | true =>
   rw [hf] at he;simp only [Bool.not_true,cond_false] at he ⊢;cases hc:(!jC p.ob||((p.ob.dest != R.dest)||((p.ob.kind==Int.ofNat 2||p.ob.kind==Int.ofNat 4)&&(p.ob.h.i != p.id)))) with
   | true=>rw [hc] at he; exact bV he (by decide)
   | false =>
   rw [hc] at he;exact pN (TS.H8 hB hR.rt _ _ _) he
 | false =>
 simp only [cond_false] at he ⊢;generalize (p.call==Int.ofNat 3)=b3 at he ⊢;cases b3 with
 | true=>exact pN (TS.lk (TS.xA hB true)) he
 | false =>
 simp only [cond_false] at he ⊢;generalize (p.call==Int.ofNat 4)=b4 at he ⊢;cases b4 with
 | true=>exact TS.xA hB false
 | false =>
   simp only [cond_false] at he ⊢;unfold lW at he ⊢;cases hc:((R.me != R.dest)||(decide (p.num<Int.ofNat 0)||decide (p.num>Int.ofNat 65535))) with
   | true=>rw [hc] at he; exact bV he (by decide)
   | false=>exact TS.qY (T:=eH R f vs) rfl hR.own h0 _
set_option maxHeartbeats 4000000
noncomputable def TI:Ext:=fv (cS Tryz.prog [(19,gAw20)]) [(15,Cp)]
theorem xI:ExtOk Tryz.prog TI:=bE (aT (.cons yn .nil)) (.cons MP .nil)
noncomputable def DO:Code:=(Tryz.f8.body).getD .skip
theorem Lx:Tryz.f8.body=some DO:=by kernel_rfl
theorem UZ:Tryz.f8.ntmps=65:=by kernel_rfl
theorem Yg:codeSafe Tryz.prog 65 DO=true:=by kernel_rfl
noncomputable def Iu:Code:=pB (pR (pL (pR (pR (pR (pR (pR (DO))))))))
noncomputable def M8:Code:=pU Iu
theorem Iw:Iu = .loop M8:=by kernel_rfl
theorem SQ:codeSafe Tryz.prog 65 M8=true:=by kernel_rfl
theorem TV(f:Bool)(o:ae)(vs:List aa)(c:Nat)(q:aa)(R:aw)(p:mE)(T:TS)(W:bg)(X:eE)(Q:Value→List ae→List Nat→List ae→Prop):let v0:Value:=.tuple #[.agg #[Iv T.R.me,Iv T.R.dest,.bool T.R.own.n,Iv T.R.own.t,Iv T.R.own.o,Iv T.R.own.r,Iv T.R.own.d,Iv T.R.own.i,vS T.f 4 T.vs.length T.c,.bool T.R.asked,.bool T.R.want,.bool T.R.heard,Iv T.R.last],vS (oF T.out) 5 T.out.length 40,Iv T.e];let b1:ae:=(bv (oF T.out) (aI (T.out.flatMap oc)));let b2:ae:=.cells 26 (dO R (vS f 0 vs.length c)) false;let b3:ae:=.cells 26 (dO T.R (vS T.f 1 T.vs.length T.c)) false;let b4:ae:=.cells 23 [.bool R.own.n,Iv R.own.t,Iv R.own.o,Iv R.own.r,Iv R.own.d,Iv R.own.i] false;let b5:ae:=(bv T.f (LtA.ab T.vs));let b6:ae:=.cells 23 [.bool q.n,Iv q.t,Iv q.o,Iv q.r,Iv q.d,Iv q.i] false;(((decide ((Int.ofNat (kk f vs.length))>(Int.ofNat 80)))=true→Q (.bool true) [] [] [])∧((decide ((Int.ofNat (kk f vs.length))>(Int.ofNat 80)))=false→HT (Cp [.agg #[Iv R.me,Iv R.dest,.bool R.own.n,Iv R.own.t,Iv R.own.o,Iv R.own.r,Iv R.own.d,Iv R.own.i,vS f 0 vs.length c,.bool R.asked,.bool R.want,.bool R.heard,Iv R.last],.agg #[Iv p.call,Iv p.id,Iv p.ob.kind,Iv p.ob.dest,.bool p.ob.h.n,Iv p.ob.h.t,Iv p.ob.h.o,Iv p.ob.h.r,Iv p.ob.h.d,Iv p.ob.h.i,Iv p.ob.l.1,Iv p.ob.l.2.1,Iv p.ob.l.2.2,Iv p.ob.num,Iv p.now,Iv p.num]]) (heapOf [o,.dead,b2,.cells 32 [Iv p.call,Iv p.id,Iv p.ob.kind,Iv p.ob.dest,.bool p.ob.h.n,Iv p.ob.h.t,Iv p.ob.h.o,Iv p.ob.h.r,Iv p.ob.h.d,Iv p.ob.h.i,Iv p.ob.l.1,Iv p.ob.l.2.1,Iv p.ob.l.2.2,Iv p.ob.num,Iv p.now,Iv p.num] false] aE) (v0) [b5,b1,.dead]∧(((T.e != (Int.ofNat 0))=true→Q (.bool true) [] [] [])∧((T.e != (Int.ofNat 0))=false→gp 3 [o,b5,b1,b2,b3,b4]∧(∀ g,bj Tryz.prog 65 W 0 X Iu (aq 65 g [(2,pb 3 0),(5,pb 4 0),(6,vS (oF T.out) 2 T.out.length 40),(8,pb 5 0),(9,iN 0)] [o,b5,b1,b2,b3,b4]) (LQ (fun (_:Unit) g=>(.exit 0,aq 65 g [(2,pb 3 0),(5,pb 4 0),(8,pb 5 0)] [o,b5,b1,b2,b3,b6])) (fun (_:Unit)=>True)))∧(∀ (_:Unit) (g:Nat→Value),True→(fstV ((aBin Tryz.prog .eql 23 (.agg #[.bool q.n,Iv q.t,Iv q.o,Iv q.r,Iv q.d,Iv q.i]) (.agg #[.bool T.R.own.n,Iv T.R.own.t,Iv T.R.own.o,Iv T.R.own.r,Iv T.R.own.d,Iv T.R.own.i])).map fun v=>(v,none)):OV)=some (.bool (cL q T.R.own))∧(Q (.bool (cL q T.R.own)) [] [] []))))))=WF Tryz.prog TI Tryz.f8 65 W 0 X 300 DO ⟨tmsOf [db R (vS f 0 vs.length c),sh p] 0 .leaf,heapOf [o,.dead] aE,[]⟩ (.b 6 (.stop 0 [] []) (.h 9 (v0) [b5,b1,.dead] (.b 19 (.stop 0 [] []) (.l 25 3 [0,4,5,2,7,8] [2,5,6,8,9] Unit (fun (_:Unit) g=>(.exit 0,aq 65 g [(2,pb 3 0),(5,pb 4 0),(8,pb 5 0)] [o,b5,b1,b2,b3,b6])) (fun (_:Unit)=>True) (.v 30 (.bool (cL q T.R.own)) (.stop 0 [] [])))))) Q:=by cases f <;> (rcases T with ⟨_,_,fT,_,oT,_⟩; cases fT <;> cases oT) <;> (intros;kernel_rfl)
theorem Jw(f fo:Bool)(o:ae)(vs:List aa)(us:List aQ)(c m i:Nat)(R:aw)(p:mE)(T:TS)(x:aQ)(k:aa)(g:Nat→Value)(Q:Exit→St→Prop):let b0:ae:=.cells 23 [.bool k.n,Iv k.t,Iv k.o,Iv k.r,Iv k.d,Iv k.i] false;let b1:ae:=.cells 26 (dO T.R (vS T.f 1 T.vs.length T.c)) false;let b2:ae:=.cells 26 (dO R (vS f 0 vs.length c)) false;let b3:ae:=(bv T.f (LtA.ab T.vs));let b4:ae:=.cells 23 [.bool x.h.n,Iv x.h.t,Iv x.h.o,Iv x.h.r,Iv x.h.d,Iv x.h.i] false;let h5:Hp:=heapOf [o,b3,(bv fo (cr us)),b2,b1,b0,.dead] aE;let b6:ae:=.cells 23 [.bool true,iN 0,iN 0,iN 0,iN 0,Iv R.me] false;(((decide ((Int.ofNat i)<(Int.ofNat (kk fo m))))=true→(fstV ((aIndexAddr Tryz.prog 34 (vS fo 2 m 40) (iN i)).map fun v=>(v,none)):OV)=some (pb 2 (i*13))∧((aLoad Tryz.prog (h5).get 3 (pb 2 (i*13)):OV)=some (Iv x.to)∧(((x.to != (Int.ofNat 255))=true→(some (Iv (wrapF .i64 (Int.ofNat i+Int.ofNat 1))):OV)=some (iN (i+1))∧(gp 3 [o,b3,(bv fo (cr us)),b2,b1,b0]∧∀ g,Q .normal (aq 65 g [(2,pb 3 0),(5,pb 4 0),(6,vS fo 2 m 40),(8,pb 5 0),(9,iN (i+1))] [o,b3,(bv fo (cr us)),b2,b1,b0])))∧((x.to != (Int.ofNat 255))=false→(fstV ((aIndexAddr Tryz.prog 34 (vS fo 2 m 40) (iN i)).map fun v=>(v,none)):OV)=some (pb 2 (i*13))∧((aLoad Tryz.prog (h5).get 3 (pb 2 ((i*13)+1)):OV)=some (Iv x.kind)∧(((x.kind==(Int.ofNat 2))=true→(fstV ((aIndexAddr Tryz.prog 34 (vS fo 2 m 40) (iN i)).map fun v=>(v,none)):OV)=some (pb 2 (i*13))∧((aLoad Tryz.prog (h5).get 23 (pb 2 (((i*13)+1)+2)):OV)=some (cx x.h)∧((some (Iv (wrapF .i64 (Int.ofNat i+Int.ofNat 1))):OV)=some (iN (i+1))∧(gp 3 [o,b3,(bv fo (cr us)),b2,b1,b4]∧∀ g,Q .normal (aq 65 g [(2,pb 3 0),(5,pb 4 0),(6,vS fo 2 m 40),(8,pb 5 0),(9,iN (i+1))] [o,b3,(bv fo (cr us)),b2,b1,b4])))))∧((x.kind==(Int.ofNat 2))=false→((x.kind==(Int.ofNat 4))=true→(fstV ((aIndexAddr Tryz.prog 34 (vS fo 2 m 40) (iN i)).map fun v=>(v,none)):OV)=some (pb 2 (i*13))∧((aLoad Tryz.prog (h5).get 23 (pb 2 (((i*13)+1)+2)):OV)=some (cx x.h)∧((some (Iv (wrapF .i64 (Int.ofNat i+Int.ofNat 1))):OV)=some (iN (i+1))∧(gp 3 [o,b3,(bv fo (cr us)),b2,b1,b4]∧∀ g,Q .normal (aq 65 g [(2,pb 3 0),(5,pb 4 0),(6,vS fo 2 m 40),(8,pb 5 0),(9,iN (i+1))] [o,b3,(bv fo (cr us)),b2,b1,b4])))))∧((x.kind==(Int.ofNat 4))=false→((x.kind==(Int.ofNat 3))=true→(some (Iv (wrapF .i64 (Int.ofNat i+Int.ofNat 1))):OV)=some (iN (i+1))∧(gp 3 [o,b3,(bv fo (cr us)),b2,b1,b6]∧∀ g,Q .normal (aq 65 g [(2,pb 3 0),(5,pb 4 0),(6,vS fo 2 m 40),(8,pb 5 0),(9,iN (i+1))] [o,b3,(bv fo (cr us)),b2,b1,b6])))∧((x.kind==(Int.ofNat 3))=false→(some (Iv (wrapF .i64 (Int.ofNat i+Int.ofNat 1))):OV)=some (iN (i+1))∧(gp 3 [o,b3,(bv fo (cr us)),b2,b1,b0]∧∀ g,Q .normal (aq 65 g [(2,pb 3 0),(5,pb 4 0),(6,vS fo 2 m 40),(8,pb 5 0),(9,iN (i+1))] [o,b3,(bv fo (cr us)),b2,b1,b0])))))))))))∧((decide ((Int.ofNat i)<(Int.ofNat (kk fo m))))=false→gp 3 [o,b3,(bv fo (cr us)),b2,b1,b0]∧∀ g,Q (.exit 0) (aq 65 g [(2,pb 3 0),(5,pb 4 0),(8,pb 5 0)] [o,b3,(bv fo (cr us)),b2,b1,b0])))=RT Tryz.prog TI 65 0 60 M8 (aq 65 g [(2,pb 3 0),(5,pb 4 0),(6,vS fo 2 m 40),(8,pb 5 0),(9,iN i)] [o,b3,(bv fo (cr us)),b2,b1,b0]) (.b 3 (.v 6 (pb 2 (i*13)) (.v 8 (Iv x.to) (.b 9 (.v 11 (iN (i+1)) (.stop 3 [0,1,2,3,4,5] [2,5,6,8,9])) (.v 12 (pb 2 (i*13)) (.v 15 (Iv x.kind) (.b 16 (.v 20 (pb 2 (i*13)) (.v 23 (cx x.h) (.v 26 (iN (i+1)) (.stop 3 [0,1,2,3,4,5] [2,5,6,8,9])))) (.b 18 (.v 22 (pb 2 (i*13)) (.v 25 (cx x.h) (.v 28 (iN (i+1)) (.stop 3 [0,1,2,3,4,5] [2,5,6,8,9])))) (.b 20 (.v 31 (iN (i+1)) (.stop 3 [0,1,2,3,4,5] [2,5,6,8,9])) (.v 23 (iN (i+1)) (.stop 3 [0,1,2,3,4,5] [2,5,6,8,9])))))))))) (.stop 3 [0,1,2,3,4,5] [2,5,8])) Q:=by cases f <;> cases fo <;> (rcases T with ⟨_,_,fT,_,_,_⟩; cases fT) <;> (intros;kernel_rfl)
theorem Nh(f:Bool)(o:ae)(vs:List aa)(c:Nat)(R:aw)(p:mE)(T:TS)(ho:aB o=true)(hl:T.out.length<1000000)(W:bg)(X:eE)(g:Nat→Value) :
  bj Tryz.prog 65 W 0 X Iu (aq 65 g [(2,pb 3 0),(5,pb 4 0),(6,vS (oF T.out) 2 T.out.length 40),(8,pb 5 0),(9,iN (0))] [o,(bv T.f (LtA.ab T.vs)),(bv (oF T.out) (cr T.out)),.cells 26 (dO R (vS f 0 vs.length c)) false,.cells 26 (dO T.R (vS T.f 1 T.vs.length T.c)) false,.cells 23 [.bool R.own.n,.int .i64 R.own.t,.int .i64 R.own.o,.int .i64 R.own.r,.int .i64 R.own.d,.int .i64 R.own.i] false]) (LQ (fun (_:Unit) g=>(.exit 0,aq 65 g [(2,pb 3 0),(5,pb 4 0),(8,pb 5 0)] [o,(bv T.f (LtA.ab T.vs)),(bv (oF T.out) (aI (T.out.flatMap oc))),.cells 26 (dO R (vS f 0 vs.length c)) false,.cells 26 (dO T.R (vS T.f 1 T.vs.length T.c)) false,.cells 23 [.bool ((T.out.foldl (du R.me) R.own).n),.int .i64 ((T.out.foldl (du R.me) R.own).t),.int .i64 ((T.out.foldl (du R.me) R.own).o),.int .i64 ((T.out.foldl (du R.me) R.own).r),.int .i64 ((T.out.foldl (du R.me) R.own).d),.int .i64 ((T.out.foldl (du R.me) R.own).i)] false])) (fun (_:Unit)=>True)):=by
 rw [Iw];have hkk:=yq T.out
 refine bj.fold (vs:=T.out) (du R.me) R.own (fun k i g=>(aq 65 g [(2,pb 3 0),(5,pb 4 0),(6,vS (oF T.out) 2 T.out.length 40),(8,pb 5 0),(9,iN (i))] [o,(bv T.f (LtA.ab T.vs)),(bv (oF T.out) (cr T.out)),.cells 26 (dO R (vS f 0 vs.length c)) false,.cells 26 (dO T.R (vS T.f 1 T.vs.length T.c)) false,.cells 23 [.bool k.n,.int .i64 k.t,.int .i64 k.o,.int .i64 k.r,.int .i64 k.d,.int .i64 k.i] false])) (fun k g hk=>?_) (fun i x k g hx hlt hk=>?_) g
 ·refine bj.oG xI follows SQ (Jw f (oF T.out) o vs T.out c T.out.length T.out.length R p T ⟨0,0,0,zH,zL,0⟩ k g _) ?_
  refine ⟨fun h_3=>Bool.noConfusion (h_3.symm.trans (sJ hkk)),fun h_3=>⟨j5 ho (aj (LtA.ah _)) (aj (bp _)),fun g=>?_⟩⟩
  subst hk;exact ⟨by simp,(),g,trivial,rfl,rfl⟩
 ·have hfo:oF T.out=true:=by cases h:T.out with
   | nil=>rw [h] at hlt; simp at hlt
   | cons=>rfl
  have hw:(some (Value.int .i64 (wrapF .i64 (Int.ofNat i+Int.ofNat 1))))=some (iN (i+1)):=bq (by omega)
  rw [hfo] at hkk ⊢;refine bj.oG xI follows SQ (Jw f true o vs T.out c T.out.length i R p T x k g _) ?_
  refine ⟨fun h_3=>⟨se hlt,uu (bl rfl) hx,fun h_9=>⟨hw,j5 ho (aj (LtA.ah _)) (aj (bp _)),fun g=>?_⟩,fun h_9=>⟨se hlt,Ak 1 (bl rfl) hx (by decide) rfl,fun h_16=>⟨se hlt,EV (bl rfl) hx,hw,j5 ho (aj (LtA.ah _)) (aj (bp _)),fun g=>?_⟩,fun h_16=>⟨fun h_18=>⟨se hlt,EV (bl rfl) hx,hw,j5 ho (aj (LtA.ah _)) (aj (bp _)),fun g=>?_⟩,fun h_18=>⟨fun h_20=>⟨hw,j5 ho (aj (LtA.ah _)) (aj (bp _)),fun g=>?_⟩,fun h_20=>⟨hw,j5 ho (aj (LtA.ah _)) (aj (bp _)),fun g=>?_⟩⟩⟩⟩⟩,fun h_3=>Bool.noConfusion ((sK hkk hlt).symm.trans h_3)⟩
  all_goals (refine .inl ⟨rfl,g,?_⟩; unfold du; simp only [*,cond_true,cond_false]; try rfl)
theorem Ev(f:Bool)(o:ae)(R:aw)(h0:R.own.id=0)(vs:List aa)(p:mE)(hp:AK p)(c:Nat)(ho:aB o=true)(hrow:vs = []∨∃ ty ro,o = .cells ty (aK vs) ro)(hfl:f=false→vs = []∧o = .dead)(W:bg) :
  al Tryz.prog 65 W DO ⟨tmsOf [db R (vS f 0 vs.length c),sh p] 0 .leaf,heapOf [o,.dead] aE,[]⟩ (fE Tryz.prog Tryz.f8 Tc):=bj.WU fun X=>by
 have hkk:=mn hfl
 refine bj.nv xI follows Yg (TV f o vs c ((cp R f vs p).out.foldl (du R.me) R.own) R p (cp R f vs p) W X _) ?_
 rcases Nat.lt_or_ge 80 vs.length with h80 | h80
 ·exact ⟨fun h_6=>rfl,fun h_6=>Bool.noConfusion ((D5 hkk h80).symm.trans h_6)⟩
 ·have hn:vs.length<1000000:=by omega
  have hstep:∀ {hp:Hp},hp.get 0=some o→Cp [db R (vS f 0 vs.length c),sh p] hp=_:=fun hg=>xM h0 hp (fD ho hrow hfl hg) hn
  have hout:=rD (R:=R) (f:=f) (vs:=vs) (p:=p) h80
  have hloop:=fun g=>Nh f o vs c R p (cp R f vs p) ho hout W X g
  have hW:=rE (R:=R) (f:=f) (vs:=vs) (p:=p) h0
  generalize cp R f vs p=T at *;refine ⟨fun h_6=>Bool.noConfusion (h_6.symm.trans (zJ hkk h80)),fun h_6=>⟨hstep (bl rfl),fun h_19=>bG ?_,fun h_19=>⟨j5 ho (aj (LtA.ah _)) (aj (bp _)),hloop,fun _ g hok=>⟨PG _ _,bG ?_⟩⟩⟩⟩
  all_goals (clear hloop hstep hrow hfl ho hout; first | rfl | (have ha:=(hW (by simpa using ‹(T.e != Int.ofNat 0)=false›)).last; rw [ha]; simp [lE]; done))
end Go.Proofs.YtgeoommlmddgpaaGreat.LtL
namespace Go.Proofs.YtgeoommlmddgpaaGreat.LtL
open Go Go.Proofs Go.Proofs.YtgeoommlmddgpaaGreat.AI Go.RowKit Go.ChangeShapes Go.Proofs.YtgeoommlmddgpaaGreat.LtA
theorem M4:laidOutB Tryz.prog=true:=by kernel_rfl
theorem QT:ownKnob Tryz.prog.godebug=none:=by kernel_rfl
theorem Oo{H:Type}{enc:TypeId×Value→H}(W:World)(base:Nat)(args:Array Value)(ds:List (DataW H))(p:List MemPlace)(hsz:args.size=2)(hval:∀ (j:Nat) t v,Tryz.f8.params[j]? = some t→args[j]? = some v→Value.okWide Tryz.prog W .any base t v)
  (hA:DataW.TrodAll enc Tryz.prog W 0 (fun _=>true) true [26,32] args.toList ds p):Calls Tryz.prog 8 args W fun e W'=>e = .returned (.bool true)∧Below W.heap.size W W':=by
 obtain ⟨v0,v1,rfl⟩:∃ v0 v1,args = #[v0,v1]:=by
  obtain ⟨l⟩:=args;match l,hsz with
  | [a,b],_=>exact ⟨a,b,rfl⟩
 obtain ⟨p,hop,rfl⟩:=uv (hval 1 32 v1 (by kernel_rfl) rfl)
 obtain ⟨w0,ws0,d0,ds0,p0,q0,e0,_,_,hT,_⟩:=trodAll_cons hA;cases e0;obtain ⟨R,f,o,vs,m,h0,hi,sim,ro,rv,hrow,hfl⟩:=mq (hval 0 26 v0 (by kernel_rfl) rfl) hT
 refine uh Tryz.func8 Lx UZ W (args0:=[db R (vS f 0 vs.length 2),sh p]) (by simp) (bD _ _ gl) sim ro (.cons rv (.cons (ak.plain rfl) .nil)) fun W=>?_
 exact al.mono (Ev f o R h0 vs p hop 2 hi hrow hfl W) fun e st h=>by
  obtain ⟨q1,q2,v1,z,O,K,Nw,q3,_,_,rfl⟩:=h;exact ⟨q1,q2,q3⟩
theorem Fa:∀ t∈Tryz.f8.params.toList,Tryz.prog.readableRec t=true∧t<Tryz.prog.types.size:=by
 have h:Tryz.f8.params.toList.all (fun t=>Tryz.prog.readableRec t&&decide (t<Tryz.prog.types.size))=true:=by kernel_rfl
 intro t ht;have:=List.all_eq_true.1 h t ht
 simpa using this
theorem EF(os:Os)(started:os.Started)(H:Type)(enc:TypeId×Value→H) :
  ReturnsInHanded {} Tryz.checked os 8 .any (Rows.coreTellsSpec.pre6 enc Tryz.prog Tryz.f8 Rows.coreTellsRow.domain false) (Rows.coreTellsSpec.post enc Tryz.prog Tryz.f8 false true false false) :=
 mo (C:=Tryz.checked) (tb:=4) started QT (by kernel_rfl) Tryz.func8 M4 Fa rfl (by kernel_rfl) Tryz.underlying4
  (fun ds hl=>by
    match ds,hl with
    | [_,_],_=>rfl)
  (ChangeSpec.witness6 (enc:=enc) (C:=Tryz.checked) false ⟨#[],#[db zR ay,sh ⟨0,0,⟨0,0,0,zH,zL,0⟩,0,0⟩],[]⟩ 8 (by kernel_rfl) (by kernel_rfl) (by kernel_rfl) (by kernel_rfl))
  (fun W base args ds p hsz hval hA=>Oo W base args ds p hsz hval hA)
theorem coreTells_proved:Rows.CoreTellsSaid :=
 OpenClaim.holds_of_wide 8 Tryz.f8 rfl rfl rfl rfl rfl rfl rfl ⟨rfl,rfl,rfl,rfl,rfl⟩ rfl rfl rfl rfl rfl (by kernel_rfl) Tryz.func8 (by kernel_rfl)
  (of_decide_eq_true (by kernel_rfl)) (by unfold Func.isWrapper; first | (rw [if_pos (by decide +kernel)]; kernel_rfl) | (rw [if_neg (by decide +kernel)]; exact ⟨rfl,rfl⟩))
  (fun os started H enc _=>EF os started H enc)
end Go.Proofs.YtgeoommlmddgpaaGreat.LtL
