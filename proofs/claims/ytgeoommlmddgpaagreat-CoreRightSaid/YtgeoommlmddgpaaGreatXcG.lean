/- Part 7. -/
import Derived.Test.YtgeoommlmddgpaaGreatXcF
import Derived.Test.YtgeoommlmddgpaaGreatRows
set_option linter.unusedVariables false
set_option linter.unusedSimpArgs false
set_option maxRecDepth 100000
namespace Go.Proofs.YtgeoommlmddgpaaGreat.LtL
open Go Go.Proofs Go.Proofs.YtgeoommlmddgpaaGreat.AI Go.RowKit Go.Proofs.YtgeoommlmddgpaaGreat.Sort Go.Proofs.YtgeoommlmddgpaaGreat.LtA
namespace TS
theorem Es(R:aw)(vs:List aa)(f:Bool)(c:Nat)(us:List aQ)(e:Int)(now:Int)(lost:Bool):(⟨R,vs,f,c,us,e⟩:TS).keep now lost=⟨((⟨R,vs,f,c,[],e⟩:TS).keep now lost).R,((⟨R,vs,f,c,[],e⟩:TS).keep now lost).vs,((⟨R,vs,f,c,[],e⟩:TS).keep now lost).f,((⟨R,vs,f,c,[],e⟩:TS).keep now lost).c,us++((⟨R,vs,f,c,[],e⟩:TS).keep now lost).out,((⟨R,vs,f,c,[],e⟩:TS).keep now lost).e⟩:=by
 simp only [keep,qG,home,ov];cases (R.me==R.dest||R.own.n) with
 | true=>simp
 | false =>
 simp only [cond_false];generalize bM R.own vs now lost=r;generalize (bN (aX vs)).headD zL=l;cases (r.2.2 != Int.ofNat 0) with
 | true=>simp [err]
 | false =>
 simp only [cond_false];cases (r.2.1==Int.ofNat 0) with
 | true=>simp
 | false =>
 simp only [cond_false];cases (r.2.1==Int.ofNat 4) with
 | true =>
   simp only [cond_true,own,tell,send,forget,clear];rw [fZ _ _ _ _ (us++_++_),fZ _ _ _ _ ([]++_++_)];simp
 | false =>
   simp only [cond_false,own,tell,send];rw [fZ _ _ _ _ (us++_),fZ _ _ _ _ ([]++_)];simp
def yc(T:TS)(ob:aQ)(now:Int):TS :=
 bif !T.home&&(!T.R.own.n&&(bA T.R.own==ob.l)) then (((T.forget ob.l).own (bC T.R.me)).clear 255 ob.l).dv else ((T.forget ob.l).oe (bO ob.l T.R.dest T.vs) ob.l).nj now
def Mh(R:aw)(u1:List aa)(f:Bool)(e:Int)(ob:aQ)(gs:List aQ)(now:Int):TS :=
 bif !(R.me==R.dest)&&(!R.own.n&&(bA R.own==ob.l)) then (⟨⟨R.me,R.dest,bC R.me,R.asked,R.want,R.heard,R.last⟩,u1,f,c2 f,[⟨255,3,R.dest,zH,ob.l,0⟩],e⟩:TS).dv
 else bif R.own.n then (⟨R,u1,f,c2 f,gs,e⟩:TS).dv else (⟨R,u1,f,c2 f,gs,e⟩:TS).keep now true
theorem PE(R:aw)(vs:List aa)(f:Bool)(c:Nat)(e:Int)(ob:aQ)(now:Int):(⟨R,vs,f,c,[],e⟩:TS).yc ob now=Mh R (iD vs ob.l R.dest) f e ob ((bO ob.l R.dest vs).map (uZ R.dest ob.l)) now:=rfl
end TS
def clrA:u0:=fun R f vs c aM e rest=>match aM,rest with
 | [.int .i64 now],[.int .i64 frm,ob]=>(unO ob).map fun ob=>(⟨R,vs,f,c,[],e⟩:TS).yc ob now
 | _,_=>none
theorem RW(R:aw)(f:Bool)(vs:List aa)(c:Nat)(aM:List Value)(e:Int)(h0:R.own.id=0)(hn:vs.length<1000000)(hm:gm aM):∀ rest T,clrA R f vs c aM e rest=some T→AL 95 900000 Tryz.f96 DL 66 R f vs c aM e rest T:=fun rest T h=>by
 unfold clrA at h;split at h
 case h_2=>cases h
 rename_i now frm a;obtain ⟨ob,hob,h2⟩:=Option.map_eq_some_iff.1 h;obtain rfl:=rN hob;cases h2;refine ⟨(by intro x hx; simp at hx; rcases hx with rfl | rfl; exact lH _ _; exact xb _),by simp,fun fo n L W X hLi hLl hLn hf0 hfo=>?_⟩
 have hforg:∀ {R':aw} {out:Value} {t b:Nat} {hp:Hp},R'.dest=R.dest→R'.own.id=0→hp.get t=some (.cells 95 (cy R' (vS f b vs.length c) [.int .i64 now] out e) false)→lQ (vS f b vs.length c) out hp→hp.get b=some (bv f (LtA.ab vs)) →
   HE (GR [pb t 0,lA ob.l]) hp (vS (!(bO ob.l R.dest vs).isEmpty) (hp.sz+1) (bO ob.l R.dest vs).length 4) [.put t (.cells 95 (cy R' (vS f hp.sz (iD vs ob.l R.dest).length (c2 f)) [.int .i64 now] out e) false),.push (bv f (LtA.ab (iD vs ob.l R.dest))),.push (bv (!(bO ob.l R.dest vs).isEmpty) (iB (bO ob.l R.dest vs))),.push .dead]:=fun hd h0 hg hO hb=>by
  have:=zd (l:=ob.l) (fun h=>(hf0 h).1) hn h0 hg hO hb
  rw [hd] at this;exact this
 have hn1:(iD vs ob.l R.dest).length<1000000:=by unfold iD; rw [List.length_map]; exact hn
 have hf1:f=false→iD vs ob.l R.dest = []∧c2 f=0:=fun h=>by rw [(hf0 h).1,h]; exact ⟨rfl,rfl⟩
 have hj:(bO ob.l R.dest vs).length<1000000:=by have:=oh ob.l R.dest vs; omega
 rw [TS.PE];generalize iD vs ob.l R.dest=u1 at *;generalize bO ob.l R.dest vs=jds at *;have hloop:=fun g=>Nd f fo (!jds.isEmpty) vs u1 c n jds.length L R now e frm ob jds (jds.map (TS.uZ R.dest ob.l)) rfl rfl rfl hj hLi hLl hLn hfo W X g
 have hgs0:jds = []→jds.map (TS.uZ R.dest ob.l) = []:=fun h=>by rw [h]; rfl
 have hgne:jds≠[]→jds.map (TS.uZ R.dest ob.l)≠[]:=fun h e=>h (List.map_eq_nil_iff.1 e)
 have hgl:(jds.map (TS.uZ R.dest ob.l)).length<1000000:=by rw [List.length_map]; exact hj
 generalize jds.map (TS.uZ R.dest ob.l)=gs at *;generalize (!jds.isEmpty)=fg at *;generalize jds.length=kg at *;have hLi2:(L++gs.flatMap oc).all inert=true:=jD hLi _
 have hLl2:(L++gs.flatMap oc).length=(n+gs.length)*13:=by rw [List.length_append,ES,hLl,Nat.add_mul]
 obtain ⟨T1,hT1⟩:∃ T,((⟨⟨R.me,R.dest,(bC R.me),R.asked,R.want,R.heard,R.last⟩,u1,f,(c2 f),[],e⟩:TS).dv)=T:=⟨_,rfl⟩;obtain ⟨T2,hT2⟩:∃ T,((⟨R,u1,f,(c2 f),[],e⟩:TS).dv)=T:=⟨_,rfl⟩;obtain ⟨T3,hT3⟩:∃ T,((⟨R,u1,f,(c2 f),[],e⟩:TS).keep now true)=T:=⟨_,rfl⟩;refine bj.nv qe follows Ya (Tz f fo fg vs u1 c n kg L R now e frm ob jds gs T1 T2 T3 W X _) ?_
 refine ⟨hforg (R':=R) rfl h0 (bl rfl) (EX rfl (bl rfl) (aY hLi)) (bl rfl),fun h_21=>⟨fun h_29=>⟨zE _ _,fun h_40=>⟨rfl,kj hfo (by omega) hLl (bl rfl) (bl rfl),gj hT1 rfl (bl rfl) (bl rfl) hf1 (bl rfl) (fun h=>by cases h) (by simp [hLi,uq]) (by simp [hLl,ID]; omega) (by omega) hn1,QV.of (T':=(⟨T1.R,T1.vs,T1.f,T1.c,([⟨(Int.ofNat 255),(Int.ofNat 3),R.dest,zH,ob.l,(Int.ofNat 0)⟩]++T1.out),T1.e⟩:TS)) (f2:=(true||oF T1.out)) (n2:=((n+1)+T1.out.length)) (L2:=((L++oc ⟨(Int.ofNat 255),(Int.ofNat 3),R.dest,zH,ob.l,(Int.ofNat 0)⟩)++T1.out.flatMap oc)) (by simp) (by simp <;> omega) (by first | (simp [oF]; done) | (simp [oF,hgne hok]; done)) ⟨_,_,(aj (LtA.ah _)),rfl,rfl,13,14,rfl,rfl,fun _ _=>by decide,fun h=>⟨rfl,0,rfl,rfl⟩,fun h=>⟨rfl,1,rfl,rfl⟩⟩ ?_⟩,fun h_40=>⟨rfl,yj (aj (LtA.ah _)) (aj (aY hLi)) (aj (LtA.ah _)) (aj (dZ _)) rfl,hloop,fun _ g hok=>⟨fun h_52=>⟨gj hT2 h0 (bl rfl) (bl rfl) hf1 (bl rfl) hfo hLi hLl (by omega) hn1,QV.of (T':=(⟨T2.R,T2.vs,T2.f,T2.c,T2.out,T2.e⟩:TS)) (f2:=(fo||oF T2.out)) (n2:=(n+T2.out.length)) (L2:=(L++T2.out.flatMap oc)) (by simp) (by simp <;> omega) (by first | (simp [oF]; done) | (simp [oF,hgne hok]; done)) ⟨_,_,(aj (LtA.ah _)),rfl,rfl,8,9,rfl,rfl,fun _ _=>by decide,fun h=>⟨rfl,0,rfl,rfl⟩,fun h=>⟨rfl,1,rfl,rfl⟩⟩ ?_⟩,fun h_52=>⟨kc hT3 h0 (bl rfl) (bl rfl) hf1 (bl rfl) hfo hLi hLl (by omega) hn1,QV.of (T':=(⟨T3.R,T3.vs,T3.f,T3.c,T3.out,T3.e⟩:TS)) (f2:=(fo||oF T3.out)) (n2:=(n+T3.out.length)) (L2:=(L++T3.out.flatMap oc)) (by simp) (by simp <;> omega) (by first | (simp [oF]; done) | (simp [oF,hgne hok]; done)) ⟨_,_,(aj (LtA.ah _)),rfl,rfl,8,9,rfl,rfl,fun _ _=>by decide,fun h=>⟨rfl,0,rfl,rfl⟩,fun h=>⟨rfl,1,rfl,rfl⟩⟩ ?_⟩⟩,fun _ g hok=>⟨fun h_52=>⟨gj hT2 h0 (bl rfl) (bl rfl) hf1 (bl rfl) (fun h=>by cases h) hLi2 hLl2 (by omega) hn1,QV.of (T':=(⟨T2.R,T2.vs,T2.f,T2.c,(gs++T2.out),T2.e⟩:TS)) (f2:=(true||oF T2.out)) (n2:=((n+gs.length)+T2.out.length)) (L2:=((L++gs.flatMap oc)++T2.out.flatMap oc)) (by simp) (by simp <;> omega) (by first | (simp [oF]; done) | (simp [oF,hgne hok]; done)) ⟨_,_,(aj (LtA.ah _)),rfl,rfl,8,9,rfl,rfl,fun _ _=>by decide,fun h=>⟨rfl,0,rfl,rfl⟩,fun h=>⟨rfl,1,rfl,rfl⟩⟩ ?_⟩,fun h_52=>⟨kc hT3 h0 (bl rfl) (bl rfl) hf1 (bl rfl) (fun h=>by cases h) hLi2 hLl2 (by omega) hn1,QV.of (T':=(⟨T3.R,T3.vs,T3.f,T3.c,(gs++T3.out),T3.e⟩:TS)) (f2:=(true||oF T3.out)) (n2:=((n+gs.length)+T3.out.length)) (L2:=((L++gs.flatMap oc)++T3.out.flatMap oc)) (by simp) (by simp <;> omega) (by first | (simp [oF]; done) | (simp [oF,hgne hok]; done)) ⟨_,_,(aj (LtA.ah _)),rfl,rfl,8,9,rfl,rfl,fun _ _=>by decide,fun h=>⟨rfl,0,rfl,rfl⟩,fun h=>⟨rfl,1,rfl,rfl⟩⟩ ?_⟩⟩⟩⟩,fun h_29=>⟨yj (aj (LtA.ah _)) (aj (aY hLi)) (aj (LtA.ah _)) (aj (dZ _)) rfl,hloop,fun _ g hok=>⟨fun h_43=>⟨gj hT2 h0 (bl rfl) (bl rfl) hf1 (bl rfl) hfo hLi hLl (by omega) hn1,QV.of (T':=(⟨T2.R,T2.vs,T2.f,T2.c,T2.out,T2.e⟩:TS)) (f2:=(fo||oF T2.out)) (n2:=(n+T2.out.length)) (L2:=(L++T2.out.flatMap oc)) (by simp) (by simp <;> omega) (by first | (simp [oF]; done) | (simp [oF,hgne hok]; done)) ⟨_,_,(aj (LtA.ah _)),rfl,rfl,8,9,rfl,rfl,fun _ _=>by decide,fun h=>⟨rfl,0,rfl,rfl⟩,fun h=>⟨rfl,1,rfl,rfl⟩⟩ ?_⟩,fun h_43=>⟨kc hT3 h0 (bl rfl) (bl rfl) hf1 (bl rfl) hfo hLi hLl (by omega) hn1,QV.of (T':=(⟨T3.R,T3.vs,T3.f,T3.c,T3.out,T3.e⟩:TS)) (f2:=(fo||oF T3.out)) (n2:=(n+T3.out.length)) (L2:=(L++T3.out.flatMap oc)) (by simp) (by simp <;> omega) (by first | (simp [oF]; done) | (simp [oF,hgne hok]; done)) ⟨_,_,(aj (LtA.ah _)),rfl,rfl,8,9,rfl,rfl,fun _ _=>by decide,fun h=>⟨rfl,0,rfl,rfl⟩,fun h=>⟨rfl,1,rfl,rfl⟩⟩ ?_⟩⟩,fun _ g hok=>⟨fun h_43=>⟨gj hT2 h0 (bl rfl) (bl rfl) hf1 (bl rfl) (fun h=>by cases h) hLi2 hLl2 (by omega) hn1,QV.of (T':=(⟨T2.R,T2.vs,T2.f,T2.c,(gs++T2.out),T2.e⟩:TS)) (f2:=(true||oF T2.out)) (n2:=((n+gs.length)+T2.out.length)) (L2:=((L++gs.flatMap oc)++T2.out.flatMap oc)) (by simp) (by simp <;> omega) (by first | (simp [oF]; done) | (simp [oF,hgne hok]; done)) ⟨_,_,(aj (LtA.ah _)),rfl,rfl,8,9,rfl,rfl,fun _ _=>by decide,fun h=>⟨rfl,0,rfl,rfl⟩,fun h=>⟨rfl,1,rfl,rfl⟩⟩ ?_⟩,fun h_43=>⟨kc hT3 h0 (bl rfl) (bl rfl) hf1 (bl rfl) (fun h=>by cases h) hLi2 hLl2 (by omega) hn1,QV.of (T':=(⟨T3.R,T3.vs,T3.f,T3.c,(gs++T3.out),T3.e⟩:TS)) (f2:=(true||oF T3.out)) (n2:=((n+gs.length)+T3.out.length)) (L2:=((L++gs.flatMap oc)++T3.out.flatMap oc)) (by simp) (by simp <;> omega) (by first | (simp [oF]; done) | (simp [oF,hgne hok]; done)) ⟨_,_,(aj (LtA.ah _)),rfl,rfl,8,9,rfl,rfl,fun _ _=>by decide,fun h=>⟨rfl,0,rfl,rfl⟩,fun h=>⟨rfl,1,rfl,rfl⟩⟩ ?_⟩⟩⟩⟩,fun h_21=>⟨yj (aj (LtA.ah _)) (aj (aY hLi)) (aj (LtA.ah _)) (aj (dZ _)) rfl,hloop,fun _ g hok=>⟨fun h_36=>⟨gj hT2 h0 (bl rfl) (bl rfl) hf1 (bl rfl) hfo hLi hLl (by omega) hn1,QV.of (T':=(⟨T2.R,T2.vs,T2.f,T2.c,T2.out,T2.e⟩:TS)) (f2:=(fo||oF T2.out)) (n2:=(n+T2.out.length)) (L2:=(L++T2.out.flatMap oc)) (by simp) (by simp <;> omega) (by first | (simp [oF]; done) | (simp [oF,hgne hok]; done)) ⟨_,_,(aj (LtA.ah _)),rfl,rfl,8,9,rfl,rfl,fun _ _=>by decide,fun h=>⟨rfl,0,rfl,rfl⟩,fun h=>⟨rfl,1,rfl,rfl⟩⟩ ?_⟩,fun h_36=>⟨kc hT3 h0 (bl rfl) (bl rfl) hf1 (bl rfl) hfo hLi hLl (by omega) hn1,QV.of (T':=(⟨T3.R,T3.vs,T3.f,T3.c,T3.out,T3.e⟩:TS)) (f2:=(fo||oF T3.out)) (n2:=(n+T3.out.length)) (L2:=(L++T3.out.flatMap oc)) (by simp) (by simp <;> omega) (by first | (simp [oF]; done) | (simp [oF,hgne hok]; done)) ⟨_,_,(aj (LtA.ah _)),rfl,rfl,8,9,rfl,rfl,fun _ _=>by decide,fun h=>⟨rfl,0,rfl,rfl⟩,fun h=>⟨rfl,1,rfl,rfl⟩⟩ ?_⟩⟩,fun _ g hok=>⟨fun h_36=>⟨gj hT2 h0 (bl rfl) (bl rfl) hf1 (bl rfl) (fun h=>by cases h) hLi2 hLl2 (by omega) hn1,QV.of (T':=(⟨T2.R,T2.vs,T2.f,T2.c,(gs++T2.out),T2.e⟩:TS)) (f2:=(true||oF T2.out)) (n2:=((n+gs.length)+T2.out.length)) (L2:=((L++gs.flatMap oc)++T2.out.flatMap oc)) (by simp) (by simp <;> omega) (by first | (simp [oF]; done) | (simp [oF,hgne hok]; done)) ⟨_,_,(aj (LtA.ah _)),rfl,rfl,8,9,rfl,rfl,fun _ _=>by decide,fun h=>⟨rfl,0,rfl,rfl⟩,fun h=>⟨rfl,1,rfl,rfl⟩⟩ ?_⟩,fun h_36=>⟨kc hT3 h0 (bl rfl) (bl rfl) hf1 (bl rfl) (fun h=>by cases h) hLi2 hLl2 (by omega) hn1,QV.of (T':=(⟨T3.R,T3.vs,T3.f,T3.c,(gs++T3.out),T3.e⟩:TS)) (f2:=(true||oF T3.out)) (n2:=((n+gs.length)+T3.out.length)) (L2:=((L++gs.flatMap oc)++T3.out.flatMap oc)) (by simp) (by simp <;> omega) (by first | (simp [oF]; done) | (simp [oF,hgne hok]; done)) ⟨_,_,(aj (LtA.ah _)),rfl,rfl,8,9,rfl,rfl,fun _ _=>by decide,fun h=>⟨rfl,0,rfl,rfl⟩,fun h=>⟨rfl,1,rfl,rfl⟩⟩ ?_⟩⟩⟩⟩
 all_goals first
  | (rw [hgs0 hok]; clear hloop hforg; simp only [TS.Mh, *,cond_true,cond_false,Bool.not_true,Bool.not_false,Bool.true_and,Bool.false_and,Bool.and_true,Bool.and_false]; done)
  | (clear hloop hforg; simp only [TS.Mh, *,cond_true,cond_false,Bool.not_true,Bool.not_false,Bool.true_and,Bool.false_and,Bool.and_true,Bool.and_false]; first | rfl | (rw [TS.fZ,hT1]; rfl) | (rw [TS.fZ,hT2]; done) | (rw [TS.Es,hT3]; done))
  | (exfalso; clear hob h hT1 hT2 hT3 hloop hforg hf1 hgs0 hgne hf0 hfo; simp_all; done)
noncomputable def Ta:aD:=toldV 95 900000 clrA
theorem Uw:ax Tryz.prog 96 Ta:=iv Tryz.func96 Lp (by kernel_rfl) UQ RW
theorem KJ{R:aw}{f fo:Bool}{vs:List aa}{L:List Value}{now e:Int}{t b c bo n:Nat}{hp:Hp}{frm:Int}{ob:aQ}{T:TS}(hT:((⟨R,vs,f,c,[],e⟩:TS).yc ob now)=T)(h0:R.own.id=0)(hg:hp.get t=some (.cells 95 (cy R (vS f b vs.length c) [.int .i64 now] (vS fo bo n 40) e) false))(hV:hp.get b=some (bv f (LtA.ab vs)))(hf:f=false→vs = []∧c=0)(hO:hp.get bo=some (bv fo (aI L)))(hfo:fo=false→n=0∧L = [])
  (hLi:L.all inert=true) (hLl:L.length=n*13) (hLn:n<900000) (hn:vs.length<1000000) :
  HE (Ta ([pb t 0,.int .i64 frm,(.agg #[.int .i64 ob.kind,.int .i64 ob.dest,.bool ob.h.n,.int .i64 ob.h.t,.int .i64 ob.h.o,.int .i64 ob.h.r,.int .i64 ob.h.d,.int .i64 ob.h.i,.int .i64 ob.l.1,.int .i64 ob.l.2.1,.int .i64 ob.l.2.2,.int .i64 ob.num])])) hp (.tuple #[]) ([.put t (.cells 95 (gS T [.int .i64 now] fo n hp.sz (hp.sz+1)) false)]++bL f b++bL fo bo ++ [.push (bv T.f (LtA.ab T.vs)),.push (bv (fo||oF T.out) (aI (L++T.out.flatMap oc))),.push .dead]):=by
 subst hT;exact kQ h0 (.inr ⟨now,rfl⟩) (by decide) hg hV hf hO hfo hLi hLl hLn hn rfl
set_option maxHeartbeats 4000000
structure mE where
 call:Int
 id:Int
 ob:aQ
 now:Int
 num:Int
def eQ(now:Int):Bool:=decide (now≥Int.ofNat 0)&&decide (now≤Int.ofNat 4611686018427387903)
def c7(T:TS):TS:=bif T.e != Int.ofNat 0 then ku T.e else ⟨T.R,T.vs,T.f,T.c,T.out,0⟩
def qI(a b:Int):Bool:=decide (wrapF .i64 (wrapF .u16 (wrapF .u16 b-wrapF .u16 a))>Int.ofNat 0)&&decide (wrapF .i64 (wrapF .u16 (wrapF .u16 b-wrapF .u16 a))<Int.ofNat 32768)
namespace TS
def NA(T:TS)(id:Int):TS:=bif T.R.own.n then (bif !T.R.asked then T.fC else T) else T.tell id
def fresh(T:TS)(ob:aQ)(c:Int)(h:aa):TS:=bif c != Int.ofNat 0 then T.err c else ((T.own h).ask false).iI ob.num
def Br(me:Int)(ob:aQ):aa:=⟨0,false,(bA ob.h).1,(bA ob.h).2.1,(bA ob.h).2.2,wrapF .i64 (ob.h.d+Int.ofNat 1),me⟩
def opt(T:TS)(id:Int)(ob:aQ)(now:Int):TS:=bif T.home||(T.R.heard && !qI T.R.last ob.num) then T.xw (aZ id ob.h) now else
 (T.set (aZ id ob.h)).fresh ob (cq false (bA ob.h).1 (bA ob.h).2.1 (bA ob.h).2.2 (wrapF .i64 (ob.h.d+Int.ofNat 1)) T.R.me) (Br T.R.me ob)
def kv(T:TS)(id:Int)(ob:aQ)(now:Int):TS:=bif ob.kind==Int.ofNat 1 then T.NA id else bif ob.kind==Int.ofNat 2 then T.xw (aZ id ob.h) now else bif ob.kind==Int.ofNat 3 then T.yc ob now else T.opt id ob now
def up(T:TS)(id:Int):TS :=
 let T1:=T.set (aZ id (bC id))
 let T2:=bif !T.R.own.n then T1.tell id else T1
 bif T.R.asked then T2.send id 1 zH zL 0 else T2
end TS
def Je(R:aw)(f:Bool)(vs:List aa)(id:Int):TS:=bif !(decide (id≥Int.ofNat 0)&&decide (id<Int.ofNat 64))||(id==R.me) then ku 1 else bif (aG vs id).isSome then ku 9 else c7 ((eH R f vs).up id)
def ks(R:aw)(f:Bool)(vs:List aa)(id now:Int):TS:=bif !eQ now then ku 1 else bif !fnd vs id then ku 7 else c7 ((⟨R,dy vs id,true,23,[],0⟩:TS).nj now)
def fF(R:aw)(f:Bool)(vs:List aa)(id:Int)(ob:aQ)(now:Int):TS:=bif !eQ now then ku 1 else bif !(aG vs id).isSome then ku 7 else bif !jC ob||((ob.dest != R.dest)||((ob.kind==Int.ofNat 2||ob.kind==Int.ofNat 4)&&(ob.h.i != id))) then ku 1 else c7 ((eH R f vs).kv id ob now)
def AA(R:aw)(f:Bool)(vs:List aa):TS:=c7 ((eH R f vs).nS true).dv
def JO(R:aw)(f:Bool)(vs:List aa):TS:=(eH R f vs).nS false
def lW(R:aw)(f:Bool)(vs:List aa)(num:Int):TS:=bif (R.me != R.dest)||(decide (num<Int.ofNat 0)||decide (num>Int.ofNat 65535)) then ku 1 else (eH R f vs).iI num
def l5(R:aw)(f:Bool)(vs:List aa)(p:mE):TS:=bif p.call==Int.ofNat 0 then Je R f vs p.id else bif p.call==Int.ofNat 1 then ks R f vs p.id p.now else bif p.call==Int.ofNat 2 then fF R f vs p.id p.ob p.now else bif p.call==Int.ofNat 3 then AA R f vs else bif p.call==Int.ofNat 4 then JO R f vs else lW R f vs p.num
def cp(R:aw)(f:Bool)(vs:List aa)(p:mE):TS:=bif iU R vs then l5 R f vs p else ku 1
theorem MR:(Int.ofNat 1==Int.ofNat 1)=true:=rfl
theorem MS:(Int.ofNat 1==Int.ofNat 2)=false:=rfl
theorem MT:(Int.ofNat 1==Int.ofNat 3)=false:=rfl
theorem MU:(Int.ofNat 1==Int.ofNat 4)=false:=rfl
theorem Gy:(Int.ofNat 2==Int.ofNat 1)=false:=rfl
theorem Qg:(Int.ofNat 2==Int.ofNat 2)=true:=rfl
theorem Qh:(Int.ofNat 2==Int.ofNat 3)=false:=rfl
theorem Qi:(Int.ofNat 2==Int.ofNat 4)=false:=rfl
theorem Qj:(Int.ofNat 3==Int.ofNat 1)=false:=rfl
theorem Qk:(Int.ofNat 3==Int.ofNat 2)=false:=rfl
theorem Ql:(Int.ofNat 3==Int.ofNat 3)=true:=rfl
theorem Qm:(Int.ofNat 3==Int.ofNat 4)=false:=rfl
theorem Qn:(Int.ofNat 4==Int.ofNat 1)=false:=rfl
theorem Qo:(Int.ofNat 4==Int.ofNat 2)=false:=rfl
theorem Qp:(Int.ofNat 4==Int.ofNat 3)=false:=rfl
theorem Qq:(Int.ofNat 4==Int.ofNat 4)=true:=rfl
theorem cJ.sP{o:ae}{T T':TS}{f2:Bool}{n2:Nat}{L2:List Value}{v:Value}{O:List ae}{K:List Nat}{Nw:List ae}(hL:L2=T'.out.flatMap oc)(hn:n2=T'.out.length)(hf:f2=oF T'.out)
  (q:Kz 1 (fun _ _=>[o]) (fun b1 b2=>.tuple #[db T'.R (vS T'.f b1 T'.vs.length T'.c),vS f2 b2 n2 40,.int .i64 T'.e]) T'.f f2 (LtA.ab T'.vs) (aI L2) v O K Nw) (h:T'=T):cJ o T v O K Nw:=by
 subst h hL hn hf;exact q
theorem cJ.fw{o:ae}{T:TS}(e:Int)(h:ku e=T):cJ o T (.tuple #[db zR ay,ay,.int .i64 e]) [o] [] []:=cJ.sP (T':=(⟨zR,[],false,0,[],e⟩:TS)) (f2:=false) (n2:=0) (L2:=[]) rfl rfl rfl ⟨rfl,0,0,rfl,rfl,nofun,nofun,nofun⟩ h
noncomputable def gi:aD:=padF (atRow (fun _=>True) vR)
theorem P0:ax Tryz.prog 79 gi:=ie (fI fun vs hn _=>Ia vs hn)
theorem eT{f:Bool}{vs:List aa}{hp:Hp}{b c:Nat}(h:TN vs (vS f b vs.length c) hp)(hn:vs.length<1000000)(hf:f=false→vs = []):gi [vS f b vs.length c] hp=some (vS f hp.sz vs.length (c2 f),heapOf [bv f (LtA.ab vs),.dead] hp):=by
 unfold gi;have e:=iY (P:=fun _=>True) (k:=vR) (r:=[]) h hn trivial
 cases f with
 | false =>
   obtain rfl:=hf rfl;exact p5 (e.trans (by show vR [] [.slice none 0 0] _=_; unfold vR; rw [if_pos ⟨rfl,rfl⟩]; rfl))
 | true =>
   rcases h with ⟨h,-⟩ | ⟨b',c',o',h1,h2,h3,h4⟩
   ·cases h
   ·refine nu (e.trans ?_)
    rw [show vS true b vs.length c=af b' vs.length c' from h1]
    exact pQ h2 h3 h4
theorem wL{id:Int}(h1:decide (id≥Int.ofNat 0)=true)(h2:(!decide (id<Int.ofNat 64))=false):cU (aZ id (bC id))=true:=by
 simp at h1 h2;simp [cU,sg,aZ,bC,cq,dU,dT,h1,h2]
theorem vP{vs:List aa}{id:Int}(hr:aF vs=true)(h:(aG vs id).isSome=true):0≤id∧id<64:=by
 obtain ⟨x,hx⟩:=Option.isSome_iff_exists.1 h;obtain ⟨hm,rfl⟩:=(DS (dw.1 hr).2).1 hx;have:=(oB ((dw.1 hr).1 x hm))
 exact ⟨this.1,this.2.1⟩
theorem ez{x:aQ}:(gk x != Int.ofNat 0) = !jC x:=by
 unfold gk;cases jC x <;> rfl
theorem gG{R:aw}{vs:List aa}(h:iU R vs=true):aF vs=true:=by
 unfold iU at h;simp only [Bool.and_eq_true] at h;exact h.1.1.1.1.1.2
theorem qS{vs:List aa}{id:Int}{ob:aQ}{th:Bool}(hr:aF vs=true)(hk:ob.kind=Int.ofNat 2∨ob.kind=Int.ofNat 4)(hth:(aG vs id).isSome=th)(h1:(!th)=false)(h2:(gk ob != Int.ofNat 0)=false)(h3:(ob.h.i != id)=false):(aF vs&&cU (aZ id ob.h))=true:=by
 have ht:(aG vs id).isSome=true:=by rw [hth]; simpa using h1
 obtain ⟨q1,q2⟩:=vP hr ht;have hi:ob.h.i=id:=by simpa using h3
 have ho:jC ob=true:=by
  unfold gk at h2;cases h:jC ob with
  | true=>rfl
  | false=>rw [h] at h2; exact absurd h2 (by decide)
 have hH:dU ob.h.n ob.h.t ob.h.o ob.h.r ob.h.d ob.h.i=true:=by
  unfold jC at ho;simp only [Bool.and_eq_true] at ho;have:=ho.2.2
  rcases hk with h | h
  ·rw [h] at this
   have e1:(Int.ofNat 2==Int.ofNat 1)=false:=rfl
   have e2:(Int.ofNat 2==Int.ofNat 4)=false:=rfl
   have e3:(Int.ofNat 2==Int.ofNat 2)=true:=rfl
   simp only [e1,e2,e3,cond_true,cond_false,Bool.and_eq_true] at this;exact this.1
  ·rw [h] at this
   have e1:(Int.ofNat 4==Int.ofNat 1)=false:=rfl
   have e2:(Int.ofNat 4==Int.ofNat 4)=true:=rfl
   simp only [e1,e2,cond_true,cond_false,Bool.and_eq_true] at this;exact this.2.2.2.1
 rw [hr,Bool.true_and];unfold cU sg aZ;rw [hi] at hH;simp only [cq,hi,hH];simp [q1,q2]
noncomputable def AD:Ext:=fv (cS Tryz.prog [(24,gOC),(57,g15),(106,H3)]) [(22,j4),(25,nV),(85,pq),(89,Gu),(79,gi),(129,GS),(67,uW),(142,AF),(95,KM),(96,Ta)]
theorem gh:ExtOk Tryz.prog AD:=bE (aT (.cons Qc (.cons wc (.cons ym .nil)))) (.cons PZ (.cons Eb (.cons Ea (.cons P7 (.cons P0 (.cons Ic (.cons Ib (.cons MN (.cons Uz (.cons Uw .nil))))))))))
noncomputable def fL:Code:=(Tryz.f15.body).getD .skip
theorem Lw:Tryz.f15.body=some fL:=by kernel_rfl
theorem UY:Tryz.f15.ntmps=63:=by kernel_rfl
theorem B0:codeSafe Tryz.prog 63 fL=true:=by kernel_rfl
theorem Pp(f th:Bool)(o:ae)(vs u1:List aa)(c cs:Nat)(R:aw)(call id now num:Int)(ob:aQ)(y:aa)(Q:Value→List ae→List Nat→List ae→Prop):let b0:ae:=.cells 32 [Iv call,Iv id,Iv ob.kind,Iv ob.dest,.bool ob.h.n,Iv ob.h.t,Iv ob.h.o,Iv ob.h.r,Iv ob.h.d,Iv ob.h.i,Iv ob.l.1,Iv ob.l.2.1,Iv ob.l.2.2,Iv ob.num,Iv now,Iv num] false;let v1:Value:=.agg #[Iv R.me,Iv R.dest,.bool R.own.n,Iv R.own.t,Iv R.own.o,Iv R.own.r,Iv R.own.d,Iv R.own.i,vS f 0 vs.length c,.bool R.asked,.bool R.want,.bool R.heard,Iv R.last];let b2:ae:=.cells 26 (dO R (vS f 0 vs.length c)) false;let v3:Value:=.tuple #[.agg #[iN 0,iN 0,.bool false,iN 0,iN 0,iN 0,iN 0,iN 0,ay,.bool false,.bool false,.bool false,iN 0],ay,iN 1];let b4:ae:=.cells 26 (dO zR (ay)) false;let h5:Hp:=heapOf [o,.dead,b2,b0,b4,b2,.cells 3 [Iv id] false,b4,b2,b4] aE;let h6:Hp:=heapOf [o,.dead,b2,b0,b4,b2,b4,b2,b4] aE;(((call==(Int.ofNat 0))=true→HT (j4 [v1]) (h5) (iN 1) [.dead]∧(Q (v3) [o] [] []))∧((call==(Int.ofNat 0))=false→((call==(Int.ofNat 1))=true→HT (j4 [v1]) (h5) (iN 1) [.dead]∧(Q (v3) [o] [] []))∧((call==(Int.ofNat 1))=false→((call==(Int.ofNat 2))=true→HT (j4 [v1]) (heapOf [o,.dead,b2,b0,b4,b2,.cells 3 [Iv id] false,.cells 30 (o9 ⟨0,ob.kind,ob.dest,ob.h,ob.l,ob.num⟩) false,b4,b2,b4] aE) (iN 1) [.dead]∧(Q (v3) [o] [] []))∧((call==(Int.ofNat 2))=false→((call==(Int.ofNat 3))=true→HT (j4 [v1]) (h6) (iN 1) [.dead]∧(Q (v3) [o] [] []))∧((call==(Int.ofNat 3))=false→((call==(Int.ofNat 4))=true→HT (j4 [v1]) (h6) (iN 1) [.dead]∧(Q (v3) [o] [] []))∧((call==(Int.ofNat 4))=false→HT (j4 [v1]) (heapOf [o,.dead,b2,b0,b4,b2,.cells 3 [Iv num] false,b4,b2,b4] aE) (iN 1) [.dead]∧(Q (v3) [o] [] [])))))))=RF Tryz.prog AD Tryz.f15 300 fL ⟨tmsOf [db R (vS f 0 vs.length c),.agg #[Iv call,Iv id,Iv ob.kind,Iv ob.dest,.bool ob.h.n,Iv ob.h.t,Iv ob.h.o,Iv ob.h.r,Iv ob.h.d,Iv ob.h.i,Iv ob.l.1,Iv ob.l.2.1,Iv ob.l.2.2,Iv ob.num,Iv now,Iv num]] 0 .leaf,heapOf [o,.dead] aE,[]⟩ (.b 7 (.h 29 (iN 1) [.dead] (.stop 1 [] [])) (.b 9 (.h 34 (iN 1) [.dead] (.stop 1 [] [])) (.b 11 (.h 39 (iN 1) [.dead] (.stop 1 [] [])) (.b 13 (.h 28 (iN 1) [.dead] (.stop 1 [] [])) (.b 15 (.h 30 (iN 1) [.dead] (.stop 1 [] [])) (.h 37 (iN 1) [.dead] (.stop 1 [] []))))))) Q:=by cases f <;> (intros;kernel_rfl)
theorem Yo(R:aw)(h0:R.own.id=0)(f:Bool)(vs:List aa)(hn:vs.length<1000000)(o:ae)(c:Nat)(W:bg)(X:eE)(ho:aB o=true)(hrow:vs = []∨∃ ty ro,o = .cells ty (aK vs) ro)(hfl:f=false→vs = []∧o = .dead)(call id now num:Int)(ob:aQ)(hok:iU R vs=false) :
  bj Tryz.prog 63 W 1 X fL ⟨tmsOf [db R (vS f 0 vs.length c),.agg #[.int .i64 call,.int .i64 id,.int .i64 ob.kind,.int .i64 ob.dest,.bool ob.h.n,.int .i64 ob.h.t,.int .i64 ob.h.o,.int .i64 ob.h.r,.int .i64 ob.h.d,.int .i64 ob.h.i,.int .i64 ob.l.1,.int .i64 ob.l.2.1,.int .i64 ob.l.2.2,.int .i64 ob.num,.int .i64 now,.int .i64 num]] 0 .leaf,heapOf [o,.dead] aE,[]⟩ (fE Tryz.prog Tryz.f15 (cJ o (ku 1))):=by
 have T0:∀ {hp:Hp},hp.get 0=some o→TN vs (vS f 0 vs.length c) hp:=fun hg=>fD ho hrow hfl hg
 have hf0:f=false→vs = []∧c2 f=0:=fun h=>⟨(hfl h).1,by rw [h]; rfl⟩
 have hclone:∀ {hp:Hp},hp.get 0=some o→gi [vS f 0 vs.length c] hp=some (vS f hp.sz vs.length (c2 f),heapOf [bv f (LtA.ab vs),.dead] hp):=fun hg=>eT (T0 hg) hn fun h=>(hfl h).1
 have hget:∀ {hp:Hp},hp.get 0=some o→nV [vS f 0 vs.length c,.int .i64 id] hp=some (.tuple #[cx ((aG vs id).getD (zeroV 0)),.bool (aG vs id).isSome],heapOf [.dead] hp):=fun hg=>fy (T0 hg).tq hn
 have hck:∀ {hp:Hp},hp.get 0=some o→j4 [db R (vS f 0 vs.length c)] hp=some (.int .i64 (bif iU R vs then 0 else 1),heapOf [.dead] hp):=fun hg=>fz h0 (T0 hg) hn
 rw [hok] at hck;have hth:(aG vs id).isSome=(aG vs id).isSome:=rfl
 generalize (aG vs id).getD (zeroV 0)=y at *;generalize hth:(aG vs id).isSome=th at *;refine bj.cD gh follows B0 (Pp f th o vs [] c 0 R call id now num ob y  _) ?_
 refine ⟨fun h_7=>⟨hck (bl rfl),cJ.fw ((Int.ofNat 1)) ?_⟩,fun h_7=>⟨fun h_9=>⟨hck (bl rfl),cJ.fw ((Int.ofNat 1)) ?_⟩,fun h_9=>⟨fun h_11=>⟨hck (bl rfl),cJ.fw ((Int.ofNat 1)) ?_⟩,fun h_11=>⟨fun h_13=>⟨hck (bl rfl),cJ.fw ((Int.ofNat 1)) ?_⟩,fun h_13=>⟨fun h_15=>⟨hck (bl rfl),cJ.fw ((Int.ofNat 1)) ?_⟩,fun h_15=>⟨hck (bl rfl),cJ.fw ((Int.ofNat 1)) ?_⟩⟩⟩⟩⟩⟩
 all_goals (clear hck hget hclone T0 ho hrow hfl hf0; rfl)
theorem Ps(f th:Bool)(o:ae)(vs u1:List aa)(c cs:Nat)(R:aw)(call id now num:Int)(ob:aQ)(y:aa)(Q:Value→List ae→List Nat→List ae→Prop):let b0:ae:=.cells 32 [iN 0,Iv id,Iv ob.kind,Iv ob.dest,.bool ob.h.n,Iv ob.h.t,Iv ob.h.o,Iv ob.h.r,Iv ob.h.d,Iv ob.h.i,Iv ob.l.1,Iv ob.l.2.1,Iv ob.l.2.2,Iv ob.num,Iv now,Iv num] false;let v1:Value:=.agg #[Iv R.me,Iv R.dest,.bool R.own.n,Iv R.own.t,Iv R.own.o,Iv R.own.r,Iv R.own.d,Iv R.own.i,vS true 17 u1.length cs,.bool R.asked,.bool R.want,.bool R.heard,Iv R.last];let v2:Value:=.agg #[iN 0,iN 0,.bool false,iN 0,iN 0,iN 0,iN 0,iN 0,ay,.bool false,.bool false,.bool false,iN 0];let b3:ae:=.cells 26 (dO R (vS f 0 vs.length c)) false;let b4:ae:=.cells 26 (dO zR (ay)) false;let v5:Value:=.slice (some ⟨21,0,none⟩) 1 40;let v6:Value:=vS f 13 vs.length (c2 f);let v7:Value:=.tuple #[v2,ay,iN 1];let b8:ae:=.cells 23 [.bool y.n,Iv y.t,Iv y.o,Iv y.r,Iv y.d,Iv y.i] false;let b9:ae:=.cells 3 [Iv id] false;let v10:Value:=.slice (some ⟨24,0,none⟩) 2 40;(HT (j4 [.agg #[Iv R.me,Iv R.dest,.bool R.own.n,Iv R.own.t,Iv R.own.o,Iv R.own.r,Iv R.own.d,Iv R.own.i,vS f 0 vs.length c,.bool R.asked,.bool R.want,.bool R.heard,Iv R.last]]) (heapOf [o,.dead,b3,b0,b4,b3,b9,b4,b3,b4] aE) (iN 0) [.dead]∧(HT (nV [vS f 0 vs.length c,Iv id]) (heapOf [o,.dead,b3,b0,b4,b3,b9,b4,b3,b4,.dead] aE) (.tuple #[cx y,.bool th]) [.dead]∧((th=true→((decide (id≥(Int.ofNat 0)))=true→((!(decide (id<(Int.ofNat 64))))=true→Q (v7) [o] [] [])∧((!(decide (id<(Int.ofNat 64))))=false→((id==R.me)=true→Q (v7) [o] [] [])∧((id==R.me)=false→Q (.tuple #[v2,ay,iN 9]) [o] [] [])))∧((decide (id≥(Int.ofNat 0)))=false→Q (v7) [o] [] []))∧(th=false→((decide (id≥(Int.ofNat 0)))=true→((!(decide (id<(Int.ofNat 64))))=true→Q (v7) [o] [] [])∧((!(decide (id<(Int.ofNat 64))))=false→((id==R.me)=true→Q (v7) [o] [] [])∧((id==R.me)=false→HT (gi [vS f 0 vs.length c]) (heapOf [o,.dead,b3,b0,b4,b3,b9,b4,b3,b4,.dead,.dead,b8] aE) (v6) [(bv f (LtA.ab vs)),.dead]∧(HT (pq [v6,Iv id,.agg #[.bool true,iN 0,iN 0,iN 0,iN 0,Iv id]]) (heapOf [o,.dead,b3,b0,b4,b3,b9,b4,.cells 26 (dO R (v6)) false,b4,.dead,.dead,b8,(bv f (LtA.ab vs)),.dead,.cells 95 (cy R (v6) [iN 0] (ay) (Int.ofNat 0)) false,.cells 23 [.bool true,iN 0,iN 0,iN 0,iN 0,Iv id] false] aE) (.tuple #[vS true 17 u1.length cs,iN 0]) [(LtA.ab u1),.dead]∧((some (v6):OV)=some (v6)∧((some (Iv id):OV)=some (Iv id)∧(((!R.own.n)=true→(R.asked=true→(some (v10):OV)=some (v10)∧(Q (.tuple #[v1,v10,iN 0]) [o] [17,24] [(LtA.ab u1),.cells 50 (oc ⟨id,(Int.ofNat 2),R.dest,R.own,zL,(Int.ofNat 0)⟩++oc ⟨id,(Int.ofNat 1),R.dest,zH,zL,(Int.ofNat 0)⟩) false]))∧(R.asked=false→(some (v5):OV)=some (v5)∧(Q (.tuple #[v1,v5,iN 0]) [o] [17,21] [(LtA.ab u1),.cells 50 (oc ⟨id,(Int.ofNat 2),R.dest,R.own,zL,(Int.ofNat 0)⟩) false])))∧((!R.own.n)=false→(R.asked=true→(some (v5):OV)=some (v5)∧(Q (.tuple #[v1,v5,iN 0]) [o] [17,21] [(LtA.ab u1),.cells 50 (oc ⟨id,(Int.ofNat 1),R.dest,zH,zL,(Int.ofNat 0)⟩) false]))∧(R.asked=false→(some (ay):OV)=some (ay)∧(Q (.tuple #[v1,ay,iN 0]) [o] [17] [(LtA.ab u1)]))))))))))∧((decide (id≥(Int.ofNat 0)))=false→Q (v7) [o] [] [])))))=RF Tryz.prog AD Tryz.f15 300 fL ⟨tmsOf [db R (vS f 0 vs.length c),.agg #[iN 0,Iv id,Iv ob.kind,Iv ob.dest,.bool ob.h.n,Iv ob.h.t,Iv ob.h.o,Iv ob.h.r,Iv ob.h.d,Iv ob.h.i,Iv ob.l.1,Iv ob.l.2.1,Iv ob.l.2.2,Iv ob.num,Iv now,Iv num]] 0 .leaf,heapOf [o,.dead] aE,[]⟩ (.h 29 (iN 0) [.dead] (.h 50 (.tuple #[cx y,.bool th]) [.dead] (.b 53 (.b 61 (.b 67 (.stop 1 [] []) (.b 72 (.stop 1 [] []) (.stop 1 [] []))) (.stop 1 [] [])) (.b 61 (.b 67 (.stop 1 [] []) (.b 72 (.stop 1 [] []) (.h 83 (v6) [(bv f (LtA.ab vs)),.dead] (.h 108 (.tuple #[vS true 17 u1.length cs,iN 0]) [(LtA.ab u1),.dead] (.b 125 (.b 163 (.stop 1 [17,24] []) (.stop 1 [17,21] [])) (.b 130 (.stop 1 [17,21] []) (.stop 1 [17] []))))))) (.stop 1 [] []))))) Q:=by cases f <;> (intros;kernel_rfl)
theorem Yr(R:aw)(h0:R.own.id=0)(f:Bool)(vs:List aa)(hn:vs.length<1000000)(o:ae)(c:Nat)(W:bg)(X:eE)(ho:aB o=true)(hrow:vs = []∨∃ ty ro,o = .cells ty (aK vs) ro)(hfl:f=false→vs = []∧o = .dead)(call id now num:Int)(ob:aQ)(hok:iU R vs=true) :
  bj Tryz.prog 63 W 1 X fL ⟨tmsOf [db R (vS f 0 vs.length c),.agg #[iN 0,.int .i64 id,.int .i64 ob.kind,.int .i64 ob.dest,.bool ob.h.n,.int .i64 ob.h.t,.int .i64 ob.h.o,.int .i64 ob.h.r,.int .i64 ob.h.d,.int .i64 ob.h.i,.int .i64 ob.l.1,.int .i64 ob.l.2.1,.int .i64 ob.l.2.2,.int .i64 ob.num,.int .i64 now,.int .i64 num]] 0 .leaf,heapOf [o,.dead] aE,[]⟩ (fE Tryz.prog Tryz.f15 (cJ o (Je R f vs id))):=by
 have T0:∀ {hp:Hp},hp.get 0=some o→TN vs (vS f 0 vs.length c) hp:=fun hg=>fD ho hrow hfl hg
 have hf0:f=false→vs = []∧c2 f=0:=fun h=>⟨(hfl h).1,by rw [h]; rfl⟩
 have hclone:∀ {hp:Hp},hp.get 0=some o→gi [vS f 0 vs.length c] hp=some (vS f hp.sz vs.length (c2 f),heapOf [bv f (LtA.ab vs),.dead] hp):=fun hg=>eT (T0 hg) hn fun h=>(hfl h).1
 have hget:∀ {hp:Hp},hp.get 0=some o→nV [vS f 0 vs.length c,.int .i64 id] hp=some (.tuple #[cx ((aG vs id).getD (zeroV 0)),.bool (aG vs id).isSome],heapOf [.dead] hp):=fun hg=>fy (T0 hg).tq hn
 have hck:∀ {hp:Hp},hp.get 0=some o→j4 [db R (vS f 0 vs.length c)] hp=some (.int .i64 (bif iU R vs then 0 else 1),heapOf [.dead] hp):=fun hg=>fz h0 (T0 hg) hn
 rw [hok] at hck;have hth:(aG vs id).isSome=(aG vs id).isSome:=rfl
 have hr:aF vs=true:=gG hok
 have hset:decide (id≥Int.ofNat 0)=true→(!decide (id<Int.ofNat 64))=false→∀ {hp:Hp} {b:Nat},hp.get b=some (bv f (LtA.ab vs))→pq [vS f b vs.length (c2 f),.int .i64 id,cx (bC id)] hp=some (.tuple #[vS true hp.sz (cG vs (aZ id (bC id))).length (bif f then (bif fnd vs id then 22 else 23) else 22),iN 0],heapOf [LtA.ab (cG vs (aZ id (bC id))),.dead] hp):=fun h1 h2 hp b hg=>by
  have:=tw (aZ id (bC id)) (nN (c:=c2 f) hg fun h=>(hf0 h).1) (by rw [hr,wL h1 h2]; rfl)
  rw [uJ] at this;exact this
 unfold Je TS.up;simp only [eH,TS.set,show (aZ id (bC id)).id=id from rfl]
 generalize cG vs (aZ id (bC id))=u1 at *;generalize (bif f then (bif fnd vs id then 22 else 23) else 22)=cs at *
 generalize (aG vs id).getD (zeroV 0)=y at *;generalize hth:(aG vs id).isSome=th at *;refine bj.cD gh follows B0 (Ps f th o vs u1 c cs R call id now num ob y  _) ?_
 refine ⟨hck (bl rfl),hget (bl rfl),fun h_53=>⟨fun h_61=>⟨fun h_67=>cJ.fw ((Int.ofNat 1)) ?_,fun h_67=>⟨fun h_72=>cJ.fw ((Int.ofNat 1)) ?_,fun h_72=>cJ.fw ((Int.ofNat 9)) ?_⟩⟩,fun h_61=>cJ.fw ((Int.ofNat 1)) ?_⟩,fun h_53=>⟨fun h_61=>⟨fun h_67=>cJ.fw ((Int.ofNat 1)) ?_,fun h_67=>⟨fun h_72=>cJ.fw ((Int.ofNat 1)) ?_,fun h_72=>⟨hclone (bl rfl),hset h_61 h_67 (bl rfl),rfl,rfl,fun h_125=>⟨fun h_163=>⟨rfl,cJ.sP (T':=(⟨R,u1,true,cs,[⟨id,(Int.ofNat 2),R.dest,R.own,zL,(Int.ofNat 0)⟩,⟨id,(Int.ofNat 1),R.dest,zH,zL,(Int.ofNat 0)⟩],(Int.ofNat 0)⟩:TS)) (f2:=true) (n2:=2) (L2:=([⟨id,(Int.ofNat 2),R.dest,R.own,zL,(Int.ofNat 0)⟩,⟨id,(Int.ofNat 1),R.dest,zH,zL,(Int.ofNat 0)⟩].flatMap oc)) (by first | rfl | (simp; done)) (by first | rfl | (simp; done) | (simp; omega)) (by first | rfl | (simp [oF]; done)) ⟨rfl,17,24,rfl,rfl,fun _ _=>by decide,fun _=>⟨rfl,0,rfl,rfl⟩,fun _=>⟨rfl,1,rfl,rfl⟩⟩ ?_⟩,fun h_163=>⟨rfl,cJ.sP (T':=(⟨R,u1,true,cs,[⟨id,(Int.ofNat 2),R.dest,R.own,zL,(Int.ofNat 0)⟩],(Int.ofNat 0)⟩:TS)) (f2:=true) (n2:=1) (L2:=([⟨id,(Int.ofNat 2),R.dest,R.own,zL,(Int.ofNat 0)⟩].flatMap oc)) (by first | rfl | (simp; done)) (by first | rfl | (simp; done) | (simp; omega)) (by first | rfl | (simp [oF]; done)) ⟨rfl,17,21,rfl,rfl,fun _ _=>by decide,fun _=>⟨rfl,0,rfl,rfl⟩,fun _=>⟨rfl,1,rfl,rfl⟩⟩ ?_⟩⟩,fun h_125=>⟨fun h_130=>⟨rfl,cJ.sP (T':=(⟨R,u1,true,cs,[⟨id,(Int.ofNat 1),R.dest,zH,zL,(Int.ofNat 0)⟩],(Int.ofNat 0)⟩:TS)) (f2:=true) (n2:=1) (L2:=([⟨id,(Int.ofNat 1),R.dest,zH,zL,(Int.ofNat 0)⟩].flatMap oc)) (by first | rfl | (simp; done)) (by first | rfl | (simp; done) | (simp; omega)) (by first | rfl | (simp [oF]; done)) ⟨rfl,17,21,rfl,rfl,fun _ _=>by decide,fun _=>⟨rfl,0,rfl,rfl⟩,fun _=>⟨rfl,1,rfl,rfl⟩⟩ ?_⟩,fun h_130=>⟨rfl,cJ.sP (T':=(⟨R,u1,true,cs,[],(Int.ofNat 0)⟩:TS)) (f2:=false) (n2:=0) (L2:=[]) rfl rfl rfl ⟨rfl,17,0,rfl,rfl,nofun,fun _=>⟨rfl,0,rfl,rfl⟩,nofun⟩ ?_⟩⟩⟩⟩⟩,fun h_61=>cJ.fw ((Int.ofNat 1)) ?_⟩⟩
 all_goals (clear hck hget hclone T0 ho hrow hfl hf0; clear hset; (try simp only [TS.tell,TS.send, *,nX]); first | done | rfl | (simp only [c7, *,nX]; first | done | rfl))
set_option maxHeartbeats 4000000
theorem KR(f th:Bool)(o:ae)(vs u1:List aa)(c cs:Nat)(R:aw)(call id now num:Int)(ob:aQ)(y:aa)(Q:Value→List ae→List Nat→List ae→Prop):let b0:ae:=.cells 32 [iN 1,Iv id,Iv ob.kind,Iv ob.dest,.bool ob.h.n,Iv ob.h.t,Iv ob.h.o,Iv ob.h.r,Iv ob.h.d,Iv ob.h.i,Iv ob.l.1,Iv ob.l.2.1,Iv ob.l.2.2,Iv ob.num,Iv now,Iv num] false;let v1:Value:=.agg #[iN 0,iN 0,.bool false,iN 0,iN 0,iN 0,iN 0,iN 0,ay,.bool false,.bool false,.bool false,iN 0];let b2:ae:=.cells 26 (dO R (vS f 0 vs.length c)) false;let b3:ae:=.cells 26 (dO zR (ay)) false;(HT (j4 [.agg #[Iv R.me,Iv R.dest,.bool R.own.n,Iv R.own.t,Iv R.own.o,Iv R.own.r,Iv R.own.d,Iv R.own.i,vS f 0 vs.length c,.bool R.asked,.bool R.want,.bool R.heard,Iv R.last]]) (heapOf [o,.dead,b2,b0,b3,b2,.cells 3 [Iv id] false,b3,b2,b3] aE) (iN 0) [.dead]∧(((decide (now≥(Int.ofNat 0)))=true→((!(decide (now≤(Int.ofNat 4611686018427387903))))=true→Q (.tuple #[v1,ay,iN 1]) [o] [] [])∧((!(decide (now≤(Int.ofNat 4611686018427387903))))=false→HT (Gu [vS f 0 vs.length c,Iv id]) (heapOf [o,.dead,b2,b0,b3,b2,.cells 3 [Iv id] false,b3,b2,b3,.dead] aE) (.tuple #[ay,iN 7]) [.dead]∧(Q (.tuple #[v1,ay,iN 7]) [o] [] [])))∧((decide (now≥(Int.ofNat 0)))=false→Q (.tuple #[v1,ay,iN 1]) [o] [] [])))=RF Tryz.prog AD Tryz.f15 300 fL ⟨tmsOf [db R (vS f 0 vs.length c),.agg #[iN 1,Iv id,Iv ob.kind,Iv ob.dest,.bool ob.h.n,Iv ob.h.t,Iv ob.h.o,Iv ob.h.r,Iv ob.h.d,Iv ob.h.i,Iv ob.l.1,Iv ob.l.2.1,Iv ob.l.2.2,Iv ob.num,Iv now,Iv num]] 0 .leaf,heapOf [o,.dead] aE,[]⟩ (.h 34 (iN 0) [.dead] (.b 41 (.b 47 (.stop 1 [] []) (.h 55 (.tuple #[ay,iN 7]) [.dead] (.stop 1 [] []))) (.stop 1 [] []))) Q:=by cases f <;> (intros;kernel_rfl)
theorem WN(R:aw)(h0:R.own.id=0)(f:Bool)(vs:List aa)(hn:vs.length<1000000)(o:ae)(c:Nat)(W:bg)(X:eE)(ho:aB o=true)(hrow:vs = []∨∃ ty ro,o = .cells ty (aK vs) ro)(hfl:f=false→vs = []∧o = .dead)(call id now num:Int)(ob:aQ)(hok:iU R vs=true)(hfd:fnd vs id=false) :
  bj Tryz.prog 63 W 1 X fL ⟨tmsOf [db R (vS f 0 vs.length c),.agg #[iN 1,.int .i64 id,.int .i64 ob.kind,.int .i64 ob.dest,.bool ob.h.n,.int .i64 ob.h.t,.int .i64 ob.h.o,.int .i64 ob.h.r,.int .i64 ob.h.d,.int .i64 ob.h.i,.int .i64 ob.l.1,.int .i64 ob.l.2.1,.int .i64 ob.l.2.2,.int .i64 ob.num,.int .i64 now,.int .i64 num]] 0 .leaf,heapOf [o,.dead] aE,[]⟩ (fE Tryz.prog Tryz.f15 (cJ o (ks R f vs id now))):=by
 have T0:∀ {hp:Hp},hp.get 0=some o→TN vs (vS f 0 vs.length c) hp:=fun hg=>fD ho hrow hfl hg
 have hf0:f=false→vs = []∧c2 f=0:=fun h=>⟨(hfl h).1,by rw [h]; rfl⟩
 have hclone:∀ {hp:Hp},hp.get 0=some o→gi [vS f 0 vs.length c] hp=some (vS f hp.sz vs.length (c2 f),heapOf [bv f (LtA.ab vs),.dead] hp):=fun hg=>eT (T0 hg) hn fun h=>(hfl h).1
 have hget:∀ {hp:Hp},hp.get 0=some o→nV [vS f 0 vs.length c,.int .i64 id] hp=some (.tuple #[cx ((aG vs id).getD (zeroV 0)),.bool (aG vs id).isSome],heapOf [.dead] hp):=fun hg=>fy (T0 hg).tq hn
 have hck:∀ {hp:Hp},hp.get 0=some o→j4 [db R (vS f 0 vs.length c)] hp=some (.int .i64 (bif iU R vs then 0 else 1),heapOf [.dead] hp):=fun hg=>fz h0 (T0 hg) hn
 rw [hok] at hck;have hth:(aG vs id).isSome=(aG vs id).isSome:=rfl
 have hr:aF vs=true:=gG hok
 have hdrop0:∀ {hp:Hp},hp.get 0=some o→Gu [vS f 0 vs.length c,.int .i64 id] hp=some (.tuple #[ay,iN 7],heapOf [.dead] hp):=fun hg=>by
  rw [xK (T0 hg) hn,hr,hfd]; rfl
 generalize (aG vs id).getD (zeroV 0)=y at *;generalize hth:(aG vs id).isSome=th at *;refine bj.cD gh follows B0 (KR f th o vs [] c 0 R call id now num ob y  _) ?_
 refine ⟨hck (bl rfl),fun h_41=>⟨fun h_47=>cJ.fw ((Int.ofNat 1)) ?_,fun h_47=>⟨hdrop0 (bl rfl),cJ.fw ((Int.ofNat 7)) ?_⟩⟩,fun h_41=>cJ.fw ((Int.ofNat 1)) ?_⟩
 all_goals (clear hck hget hclone T0 ho hrow hfl hf0; clear hdrop0; (try simp only [ks,eQ, *,nX]); first | done | rfl | (simp only [c7, *,nX]; first | done | rfl))
theorem Po(f th:Bool)(o:ae)(vs u1:List aa)(c cs:Nat)(R:aw)(call id now num:Int)(ob:aQ)(y:aa)(T1:TS)(T2:TS)(Q:Value→List ae→List Nat→List ae→Prop):let b0:ae:=.cells 32 [iN 1,Iv id,Iv ob.kind,Iv ob.dest,.bool ob.h.n,Iv ob.h.t,Iv ob.h.o,Iv ob.h.r,Iv ob.h.d,Iv ob.h.i,Iv ob.l.1,Iv ob.l.2.1,Iv ob.l.2.2,Iv ob.num,Iv now,Iv num] false;let b1:ae:=.cells 26 (dO R (vS f 0 vs.length c)) false;let b2:ae:=.cells 26 (dO zR (ay)) false;let v3:Value:=.agg #[iN 0,iN 0,.bool false,iN 0,iN 0,iN 0,iN 0,iN 0,ay,.bool false,.bool false,.bool false,iN 0];let v5:Value:=vS (false||oF T1.out) 19 (0+T1.out.length) 40;let v6:Value:=vS (false||oF T2.out) 19 (0+T2.out.length) 40;let b7:ae:=.cells 3 [Iv id] false;let v8:Value:=vS f 13 vs.length (c2 f);let h4:Hp:=heapOf [o,.dead,b1,b0,b2,b1,b7,b2,.cells 26 (dO R (v8)) false,b2,.dead,(LtA.ab u1),.dead,(bv f (LtA.ab vs)),.dead,.cells 95 (cy R (vS true 16 u1.length 23) [Iv now] (ay) (Int.ofNat 0)) false,(LtA.ab u1),.dead] aE;let b9:ae:=bv (false||oF T1.out) (aI ([]++T1.out.flatMap oc));let b10:ae:=bv (false||oF T2.out) (aI ([]++T2.out.flatMap oc));let b11:ae:=.cells 95 (cy T1.R (vS T1.f 18 T1.vs.length T1.c) [Iv now] (v5) T1.e) false;let b12:ae:=.cells 95 (cy T2.R (vS T2.f 18 T2.vs.length T2.c) [Iv now] (v6) T2.e) false;let b13:ae:=bv T1.f (LtA.ab T1.vs);let b14:ae:=bv T2.f (LtA.ab T2.vs);(HT (j4 [.agg #[Iv R.me,Iv R.dest,.bool R.own.n,Iv R.own.t,Iv R.own.o,Iv R.own.r,Iv R.own.d,Iv R.own.i,vS f 0 vs.length c,.bool R.asked,.bool R.want,.bool R.heard,Iv R.last]]) (heapOf [o,.dead,b1,b0,b2,b1,b7,b2,b1,b2] aE) (iN 0) [.dead]∧(((decide (now≥(Int.ofNat 0)))=true→((!(decide (now≤(Int.ofNat 4611686018427387903))))=true→Q (.tuple #[v3,ay,iN 1]) [o] [] [])∧((!(decide (now≤(Int.ofNat 4611686018427387903))))=false→HT (Gu [vS f 0 vs.length c,Iv id]) (heapOf [o,.dead,b1,b0,b2,b1,b7,b2,b1,b2,.dead] aE) (.tuple #[vS true 11 u1.length 23,iN 0]) [(LtA.ab u1),.dead]∧(HT (gi [vS f 0 vs.length c]) (heapOf [o,.dead,b1,b0,b2,b1,b7,b2,b1,b2,.dead,(LtA.ab u1),.dead] aE) (v8) [(bv f (LtA.ab vs)),.dead]∧(HT (Gu [v8,Iv id]) (heapOf [o,.dead,b1,b0,b2,b1,b7,b2,.cells 26 (dO R (v8)) false,b2,.dead,(LtA.ab u1),.dead,(bv f (LtA.ab vs)),.dead,.cells 95 (cy R (v8) [Iv now] (ay) (Int.ofNat 0)) false] aE) (.tuple #[vS true 16 u1.length 23,iN 0]) [(LtA.ab u1),.dead]∧((R.own.n=true→HE (uW [pb 15 0]) (h4) (.tuple #[]) ([.put 15 (b11)]++bL true 16++bL false 1 ++ [.push (b13),.push (b9),.push .dead])∧(((T1.e != (Int.ofNat 0))=true→(some (Iv T1.e):OV)=some (Iv T1.e)∧(Q (.tuple #[v3,ay,Iv T1.e]) [o] [] []))∧((T1.e != (Int.ofNat 0))=false→(some (v5):OV)=some (v5)∧(Q (.tuple #[.agg #[Iv T1.R.me,Iv T1.R.dest,.bool T1.R.own.n,Iv T1.R.own.t,Iv T1.R.own.o,Iv T1.R.own.r,Iv T1.R.own.d,Iv T1.R.own.i,vS T1.f 18 T1.vs.length T1.c,.bool T1.R.asked,.bool T1.R.want,.bool T1.R.heard,Iv T1.R.last],v5,iN 0]) [o] [18,19] [(b13),(b9)]))))∧(R.own.n=false→HE (AF [pb 15 0,.bool true]) (h4) (.tuple #[]) ([.put 15 (b12)]++bL true 16++bL false 1 ++ [.push (b14),.push (b10),.push .dead])∧(((T2.e != (Int.ofNat 0))=true→(some (Iv T2.e):OV)=some (Iv T2.e)∧(Q (.tuple #[v3,ay,Iv T2.e]) [o] [] []))∧((T2.e != (Int.ofNat 0))=false→(some (v6):OV)=some (v6)∧(Q (.tuple #[.agg #[Iv T2.R.me,Iv T2.R.dest,.bool T2.R.own.n,Iv T2.R.own.t,Iv T2.R.own.o,Iv T2.R.own.r,Iv T2.R.own.d,Iv T2.R.own.i,vS T2.f 18 T2.vs.length T2.c,.bool T2.R.asked,.bool T2.R.want,.bool T2.R.heard,Iv T2.R.last],v6,iN 0]) [o] [18,19] [(b14),(b10)])))))))))∧((decide (now≥(Int.ofNat 0)))=false→Q (.tuple #[v3,ay,iN 1]) [o] [] [])))=RF Tryz.prog AD Tryz.f15 300 fL ⟨tmsOf [db R (vS f 0 vs.length c),.agg #[iN 1,Iv id,Iv ob.kind,Iv ob.dest,.bool ob.h.n,Iv ob.h.t,Iv ob.h.o,Iv ob.h.r,Iv ob.h.d,Iv ob.h.i,Iv ob.l.1,Iv ob.l.2.1,Iv ob.l.2.2,Iv ob.num,Iv now,Iv num]] 0 .leaf,heapOf [o,.dead] aE,[]⟩ (.h 34 (iN 0) [.dead] (.b 41 (.b 47 (.stop 1 [] []) (.h 55 (.tuple #[vS true 11 u1.length 23,iN 0]) [(LtA.ab u1),.dead] (.h 68 (v8) [(bv f (LtA.ab vs)),.dead] (.h 87 (.tuple #[vS true 16 u1.length 23,iN 0]) [(LtA.ab u1),.dead] (.b 105 (.e 107 (.tuple #[]) ([.put 15 (b11)]++bL true 16++bL false 1 ++ [.push (b13),.push (b9),.push .dead]) (.b 112 (.stop 1 [] []) (.stop 1 [18,19] []))) (.e 107 (.tuple #[]) ([.put 15 (b12)]++bL true 16++bL false 1 ++ [.push (b14),.push (b10),.push .dead]) (.b 112 (.stop 1 [] []) (.stop 1 [18,19] [])))))))) (.stop 1 [] []))) Q:=by cases f <;> (rcases T1 with ⟨_,_,fT1,_,oT1,_⟩; cases fT1 <;> cases oT1) <;> (rcases T2 with ⟨_,_,fT2,_,oT2,_⟩; cases fT2 <;> cases oT2) <;> (intros;kernel_rfl)
theorem Yn(R:aw)(h0:R.own.id=0)(f:Bool)(vs:List aa)(hn:vs.length<1000000)(o:ae)(c:Nat)(W:bg)(X:eE)(ho:aB o=true)(hrow:vs = []∨∃ ty ro,o = .cells ty (aK vs) ro)(hfl:f=false→vs = []∧o = .dead)(call id now num:Int)(ob:aQ)(hok:iU R vs=true)(hfd:fnd vs id=true) :
  bj Tryz.prog 63 W 1 X fL ⟨tmsOf [db R (vS f 0 vs.length c),.agg #[iN 1,.int .i64 id,.int .i64 ob.kind,.int .i64 ob.dest,.bool ob.h.n,.int .i64 ob.h.t,.int .i64 ob.h.o,.int .i64 ob.h.r,.int .i64 ob.h.d,.int .i64 ob.h.i,.int .i64 ob.l.1,.int .i64 ob.l.2.1,.int .i64 ob.l.2.2,.int .i64 ob.num,.int .i64 now,.int .i64 num]] 0 .leaf,heapOf [o,.dead] aE,[]⟩ (fE Tryz.prog Tryz.f15 (cJ o (ks R f vs id now))):=by
 have T0:∀ {hp:Hp},hp.get 0=some o→TN vs (vS f 0 vs.length c) hp:=fun hg=>fD ho hrow hfl hg
 have hf0:f=false→vs = []∧c2 f=0:=fun h=>⟨(hfl h).1,by rw [h]; rfl⟩
 have hclone:∀ {hp:Hp},hp.get 0=some o→gi [vS f 0 vs.length c] hp=some (vS f hp.sz vs.length (c2 f),heapOf [bv f (LtA.ab vs),.dead] hp):=fun hg=>eT (T0 hg) hn fun h=>(hfl h).1
 have hget:∀ {hp:Hp},hp.get 0=some o→nV [vS f 0 vs.length c,.int .i64 id] hp=some (.tuple #[cx ((aG vs id).getD (zeroV 0)),.bool (aG vs id).isSome],heapOf [.dead] hp):=fun hg=>fy (T0 hg).tq hn
 have hck:∀ {hp:Hp},hp.get 0=some o→j4 [db R (vS f 0 vs.length c)] hp=some (.int .i64 (bif iU R vs then 0 else 1),heapOf [.dead] hp):=fun hg=>fz h0 (T0 hg) hn
 rw [hok] at hck;have hth:(aG vs id).isSome=(aG vs id).isSome:=rfl
 have hr:aF vs=true:=gG hok
 have hdrop0:∀ {hp:Hp},hp.get 0=some o→Gu [vS f 0 vs.length c,.int .i64 id] hp=some (.tuple #[vS true hp.sz (dy vs id).length 23,iN 0],heapOf [LtA.ab (dy vs id),.dead] hp):=fun hg=>by
  rw [xK (T0 hg) hn,hr,hfd]; rfl
 have hdrop:∀ {hp:Hp} {b:Nat},hp.get b=some (bv f (LtA.ab vs))→Gu [vS f b vs.length (c2 f),.int .i64 id] hp=some (.tuple #[vS true hp.sz (dy vs id).length 23,iN 0],heapOf [LtA.ab (dy vs id),.dead] hp):=fun hg=>by
  rw [xK (nN hg fun h=>(hf0 h).1) hn,hr,hfd]; rfl
 have hn1:(dy vs id).length<1000000:=by have:=sA hfd; omega
 unfold ks;generalize dy vs id=u1 at *;generalize (aG vs id).getD (zeroV 0)=y at *;generalize hth:(aG vs id).isSome=th at *;obtain ⟨T1,hT1⟩:∃ T,((⟨R,u1,true,23,[],(Int.ofNat 0)⟩:TS).dv)=T:=⟨_,rfl⟩;obtain ⟨T2,hT2⟩:∃ T,((⟨R,u1,true,23,[],(Int.ofNat 0)⟩:TS).keep now true)=T:=⟨_,rfl⟩;refine bj.cD gh follows B0 (Po f th o vs u1 c 0 R call id now num ob y T1 T2 _) ?_
 refine ⟨hck (bl rfl),fun h_41=>⟨fun h_47=>cJ.fw ((Int.ofNat 1)) ?_,fun h_47=>⟨hdrop0 (bl rfl),hclone (bl rfl),hdrop (bl rfl),fun h_105=>⟨gj hT1 h0 (bl rfl) (bl rfl) (fun h=>by cases h) (bl rfl) (fun _=>⟨rfl,rfl⟩) rfl rfl (by decide) hn1,fun h_112=>⟨rfl,cJ.fw (T1.e) ?_⟩,fun h_112=>⟨rfl,cJ.sP (T':=(⟨T1.R,T1.vs,T1.f,T1.c,T1.out,(Int.ofNat 0)⟩:TS)) (f2:=(false||oF T1.out)) (n2:=(0+T1.out.length)) (L2:=([]++T1.out.flatMap oc)) (by first | rfl | (simp; done)) (by first | rfl | (simp; done) | (simp; omega)) (by first | rfl | (simp [oF]; done)) ⟨rfl,18,19,rfl,rfl,fun _ _=>by decide,fun _=>⟨rfl,0,rfl,rfl⟩,fun _=>⟨rfl,1,rfl,rfl⟩⟩ ?_⟩⟩,fun h_105=>⟨kc hT2 h0 (bl rfl) (bl rfl) (fun h=>by cases h) (bl rfl) (fun _=>⟨rfl,rfl⟩) rfl rfl (by decide) hn1,fun h_112=>⟨rfl,cJ.fw (T2.e) ?_⟩,fun h_112=>⟨rfl,cJ.sP (T':=(⟨T2.R,T2.vs,T2.f,T2.c,T2.out,(Int.ofNat 0)⟩:TS)) (f2:=(false||oF T2.out)) (n2:=(0+T2.out.length)) (L2:=([]++T2.out.flatMap oc)) (by first | rfl | (simp; done)) (by first | rfl | (simp; done) | (simp; omega)) (by first | rfl | (simp [oF]; done)) ⟨rfl,18,19,rfl,rfl,fun _ _=>by decide,fun _=>⟨rfl,0,rfl,rfl⟩,fun _=>⟨rfl,1,rfl,rfl⟩⟩ ?_⟩⟩⟩⟩,fun h_41=>cJ.fw ((Int.ofNat 1)) ?_⟩
 all_goals (clear hck hget hclone T0 ho hrow hfl hf0; clear hdrop hdrop0; (try simp only [eQ,TS.nj, *,nX]); first | done | rfl | (refine Eq.trans ?_ (congrArg c7 hT1).symm; simp only [c7, *,nX]; first | done | rfl) | (refine Eq.trans ?_ (congrArg c7 hT2).symm; simp only [c7, *,nX]; first | done | rfl) | (simp only [c7, *,nX]; first | done | rfl))
theorem KS(f th:Bool)(o:ae)(vs u1:List aa)(c cs:Nat)(R:aw)(call id now num:Int)(ob:aQ)(y:aa)(T1:TS)(Q:Value→List ae→List Nat→List ae→Prop):let b0:ae:=.cells 32 [iN 2,Iv id,iN 1,Iv ob.dest,.bool ob.h.n,Iv ob.h.t,Iv ob.h.o,Iv ob.h.r,Iv ob.h.d,Iv ob.h.i,Iv ob.l.1,Iv ob.l.2.1,Iv ob.l.2.2,Iv ob.num,Iv now,Iv num] false;let v1:Value:=.agg #[iN 0,iN 0,.bool false,iN 0,iN 0,iN 0,iN 0,iN 0,ay,.bool false,.bool false,.bool false,iN 0];let b2:ae:=.cells 26 (dO R (vS f 0 vs.length c)) false;let b3:ae:=.cells 26 (dO zR (ay)) false;let b4:ae:=.cells 30 (o9 ⟨0,(Int.ofNat 1),ob.dest,ob.h,ob.l,ob.num⟩) false;let v6:Value:=vS (false||oF T1.out) 20 (0+T1.out.length) 40;let b7:ae:=bv (false||oF T1.out) (aI ([]++T1.out.flatMap oc));let b8:ae:=.cells 23 [.bool y.n,Iv y.t,Iv y.o,Iv y.r,Iv y.d,Iv y.i] false;let v9:Value:=vS f 14 vs.length (c2 f);let v5:Value:=.agg #[Iv R.me,Iv R.dest,.bool R.own.n,Iv R.own.t,Iv R.own.o,Iv R.own.r,Iv R.own.d,Iv R.own.i,v9,.bool R.asked,.bool R.want,.bool R.heard,Iv R.last];let b10:ae:=.cells 3 [Iv id] false;let b11:ae:=.cells 95 (cy T1.R (vS T1.f 19 T1.vs.length T1.c) [Iv now] (v6) T1.e) false;let v12:Value:=.slice (some ⟨21,0,none⟩) 1 40;let v13:Value:=.tuple #[v1,ay,iN 1];let b14:ae:=bv T1.f (LtA.ab T1.vs);(HT (j4 [.agg #[Iv R.me,Iv R.dest,.bool R.own.n,Iv R.own.t,Iv R.own.o,Iv R.own.r,Iv R.own.d,Iv R.own.i,vS f 0 vs.length c,.bool R.asked,.bool R.want,.bool R.heard,Iv R.last]]) (heapOf [o,.dead,b2,b0,b3,b2,b10,b4,b3,b2,b3] aE) (iN 0) [.dead]∧(((decide (now≥(Int.ofNat 0)))=true→((!(decide (now≤(Int.ofNat 4611686018427387903))))=true→Q (v13) [o] [] [])∧((!(decide (now≤(Int.ofNat 4611686018427387903))))=false→HT (nV [vS f 0 vs.length c,Iv id]) (heapOf [o,.dead,b2,b0,b3,b2,b10,b4,b3,b2,b3,.dead] aE) (.tuple #[cx y,.bool th]) [.dead]∧(((!th)=true→Q (.tuple #[v1,ay,iN 7]) [o] [] [])∧((!th)=false→(((gk ⟨0,(Int.ofNat 1),ob.dest,ob.h,ob.l,ob.num⟩) != (Int.ofNat 0))=true→Q (v13) [o] [] [])∧(((gk ⟨0,(Int.ofNat 1),ob.dest,ob.h,ob.l,ob.num⟩) != (Int.ofNat 0))=false→((ob.dest != R.dest)=true→Q (v13) [o] [] [])∧((ob.dest != R.dest)=false→HT (gi [vS f 0 vs.length c]) (heapOf [o,.dead,b2,b0,b3,b2,b10,b4,b3,b2,b3,.dead,.dead,b8] aE) (v9) [(bv f (LtA.ab vs)),.dead]∧((R.own.n=true→((!R.asked)=true→HE (GS [pb 16 0]) (heapOf [o,.dead,b2,b0,b3,b2,b10,b4,b3,.cells 26 (dO R (v9)) false,b3,.dead,.dead,b8,(bv f (LtA.ab vs)),.dead,.cells 95 (cy R (v9) [Iv now] (ay) (Int.ofNat 0)) false,.map [(iN 1,.func (.func 94) #[pb 16 0] #[],0),(iN 2,.func (.func 95) #[pb 16 0] #[],1),(iN 3,.func (.func 96) #[pb 16 0] #[],2),(iN 4,.func (.func 97) #[pb 16 0] #[],3)] 4 false,b4] aE) (.tuple #[]) ([.put 16 (b11)]++bL f 14++bL false 1 ++ [.push (b14),.push (b7),.push .dead])∧(((T1.e != (Int.ofNat 0))=true→(some (Iv T1.e):OV)=some (Iv T1.e)∧(Q (.tuple #[v1,ay,Iv T1.e]) [o] [] []))∧((T1.e != (Int.ofNat 0))=false→(some (v6):OV)=some (v6)∧(Q (.tuple #[.agg #[Iv T1.R.me,Iv T1.R.dest,.bool T1.R.own.n,Iv T1.R.own.t,Iv T1.R.own.o,Iv T1.R.own.r,Iv T1.R.own.d,Iv T1.R.own.i,vS T1.f 19 T1.vs.length T1.c,.bool T1.R.asked,.bool T1.R.want,.bool T1.R.heard,Iv T1.R.last],v6,iN 0]) [o] [19,20] [(b14),(b7)]))))∧((!R.asked)=false→(some (ay):OV)=some (ay)∧(Q (.tuple #[v5,ay,iN 0]) [o] [14] [(bv f (LtA.ab vs))])))∧(R.own.n=false→(some (v12):OV)=some (v12)∧(Q (.tuple #[v5,v12,iN 0]) [o] [14,21] [(bv f (LtA.ab vs)),.cells 50 (oc ⟨id,(Int.ofNat 2),R.dest,R.own,zL,(Int.ofNat 0)⟩) false])))))))))∧((decide (now≥(Int.ofNat 0)))=false→Q (v13) [o] [] [])))=RF Tryz.prog AD Tryz.f15 300 fL ⟨tmsOf [db R (vS f 0 vs.length c),.agg #[iN 2,Iv id,iN 1,Iv ob.dest,.bool ob.h.n,Iv ob.h.t,Iv ob.h.o,Iv ob.h.r,Iv ob.h.d,Iv ob.h.i,Iv ob.l.1,Iv ob.l.2.1,Iv ob.l.2.2,Iv ob.num,Iv now,Iv num]] 0 .leaf,heapOf [o,.dead] aE,[]⟩ (.h 39 (iN 0) [.dead] (.b 46 (.b 52 (.stop 1 [] []) (.h 60 (.tuple #[cx y,.bool th]) [.dead] (.b 77 (.stop 1 [] []) (.b 81 (.stop 1 [] []) (.b 87 (.stop 1 [] []) (.h 101 (v9) [(bv f (LtA.ab vs)),.dead] (.b 140 (.b 146 (.e 148 (.tuple #[]) ([.put 16 (b11)]++bL f 14++bL false 1 ++ [.push (b14),.push (b7),.push .dead]) (.b 153 (.stop 1 [] []) (.stop 1 [19,20] []))) (.stop 1 [14] [])) (.stop 1 [14,21] [])))))))) (.stop 1 [] []))) Q:=by cases f <;> (rcases T1 with ⟨_,_,fT1,_,oT1,_⟩; cases fT1 <;> cases oT1) <;> (intros;kernel_rfl)
theorem WO(R:aw)(h0:R.own.id=0)(f:Bool)(vs:List aa)(hn:vs.length<1000000)(o:ae)(c:Nat)(W:bg)(X:eE)(ho:aB o=true)(hrow:vs = []∨∃ ty ro,o = .cells ty (aK vs) ro)(hfl:f=false→vs = []∧o = .dead)(call id now num:Int)(ob:aQ)(hok:iU R vs=true) :
  bj Tryz.prog 63 W 1 X fL ⟨tmsOf [db R (vS f 0 vs.length c),.agg #[iN 2,.int .i64 id,iN 1,.int .i64 ob.dest,.bool ob.h.n,.int .i64 ob.h.t,.int .i64 ob.h.o,.int .i64 ob.h.r,.int .i64 ob.h.d,.int .i64 ob.h.i,.int .i64 ob.l.1,.int .i64 ob.l.2.1,.int .i64 ob.l.2.2,.int .i64 ob.num,.int .i64 now,.int .i64 num]] 0 .leaf,heapOf [o,.dead] aE,[]⟩ (fE Tryz.prog Tryz.f15 (cJ o (fF R f vs id ⟨0,(Int.ofNat 1),ob.dest,ob.h,ob.l,ob.num⟩ now))):=by
 have T0:∀ {hp:Hp},hp.get 0=some o→TN vs (vS f 0 vs.length c) hp:=fun hg=>fD ho hrow hfl hg
 have hf0:f=false→vs = []∧c2 f=0:=fun h=>⟨(hfl h).1,by rw [h]; rfl⟩
 have hclone:∀ {hp:Hp},hp.get 0=some o→gi [vS f 0 vs.length c] hp=some (vS f hp.sz vs.length (c2 f),heapOf [bv f (LtA.ab vs),.dead] hp):=fun hg=>eT (T0 hg) hn fun h=>(hfl h).1
 have hget:∀ {hp:Hp},hp.get 0=some o→nV [vS f 0 vs.length c,.int .i64 id] hp=some (.tuple #[cx ((aG vs id).getD (zeroV 0)),.bool (aG vs id).isSome],heapOf [.dead] hp):=fun hg=>fy (T0 hg).tq hn
 have hck:∀ {hp:Hp},hp.get 0=some o→j4 [db R (vS f 0 vs.length c)] hp=some (.int .i64 (bif iU R vs then 0 else 1),heapOf [.dead] hp):=fun hg=>fz h0 (T0 hg) hn
 rw [hok] at hck;have hth:(aG vs id).isSome=(aG vs id).isSome:=rfl
 unfold fF;generalize (aG vs id).getD (zeroV 0)=y at *;generalize hth:(aG vs id).isSome=th at *;obtain ⟨T1,hT1⟩:∃ T,((⟨R,vs,f,(c2 f),[],(Int.ofNat 0)⟩:TS).fC)=T:=⟨_,rfl⟩;refine bj.cD gh follows B0 (KS f th o vs [] c 0 R call id now num ob y T1 _) ?_
 refine ⟨hck (bl rfl),fun h_46=>⟨fun h_52=>cJ.fw ((Int.ofNat 1)) ?_,fun h_52=>⟨hget (bl rfl),fun h_77=>cJ.fw ((Int.ofNat 7)) ?_,fun h_77=>⟨fun h_81=>cJ.fw ((Int.ofNat 1)) ?_,fun h_81=>⟨fun h_87=>cJ.fw ((Int.ofNat 1)) ?_,fun h_87=>⟨hclone (bl rfl),fun h_140=>⟨fun h_146=>⟨xL hT1 h0 (bl rfl) (bl rfl) hf0 (bl rfl) (fun _=>⟨rfl,rfl⟩) rfl rfl (by decide) hn,fun h_153=>⟨rfl,cJ.fw (T1.e) ?_⟩,fun h_153=>⟨rfl,cJ.sP (T':=(⟨T1.R,T1.vs,T1.f,T1.c,T1.out,(Int.ofNat 0)⟩:TS)) (f2:=(false||oF T1.out)) (n2:=(0+T1.out.length)) (L2:=([]++T1.out.flatMap oc)) (by first | rfl | (simp; done)) (by first | rfl | (simp; done) | (simp; omega)) (by first | rfl | (simp [oF]; done)) ⟨rfl,19,20,rfl,rfl,fun _ _=>by decide,fun _=>⟨rfl,0,rfl,rfl⟩,fun _=>⟨rfl,1,rfl,rfl⟩⟩ ?_⟩⟩,fun h_146=>⟨rfl,cJ.sP (T':=(⟨R,vs,f,(c2 f),[],(Int.ofNat 0)⟩:TS)) (f2:=false) (n2:=0) (L2:=[]) rfl rfl rfl ⟨rfl,14,0,rfl,rfl,nofun,fun _=>⟨rfl,0,rfl,rfl⟩,nofun⟩ ?_⟩⟩,fun h_140=>⟨rfl,cJ.sP (T':=(⟨R,vs,f,(c2 f),[⟨id,(Int.ofNat 2),R.dest,R.own,zL,(Int.ofNat 0)⟩],(Int.ofNat 0)⟩:TS)) (f2:=true) (n2:=1) (L2:=([⟨id,(Int.ofNat 2),R.dest,R.own,zL,(Int.ofNat 0)⟩].flatMap oc)) (by first | rfl | (simp; done)) (by first | rfl | (simp; done) | (simp; omega)) (by first | rfl | (simp [oF]; done)) ⟨rfl,14,21,rfl,rfl,fun _ _=>by decide,fun _=>⟨rfl,0,rfl,rfl⟩,fun _=>⟨rfl,1,rfl,rfl⟩⟩ ?_⟩⟩⟩⟩⟩⟩,fun h_46=>cJ.fw ((Int.ofNat 1)) ?_⟩
 all_goals (clear hck hget hclone T0 ho hrow hfl hf0; (try simp only [ez,Bool.not_eq_true',Bool.not_eq_false'] at *); (try simp only [MR,MS,MT,MU,Gy,Qg,Qh,Qi,Qj,Qk,Ql,Qm,Qn,Qo,Qp,Qq,eQ,TS.kv,TS.NA,TS.tell,TS.send,eH,ez, *,nX]); first | done | rfl | (refine Eq.trans ?_ (congrArg c7 hT1).symm; simp only [c7, *,nX]; first | done | rfl) | (simp only [c7, *,nX]; first | done | rfl))
set_option maxHeartbeats 4000000
theorem KT(f th:Bool)(o:ae)(vs u1:List aa)(c cs:Nat)(R:aw)(call id now num:Int)(ob:aQ)(y:aa)(T1:TS)(Q:Value→List ae→List Nat→List ae→Prop):let b0:ae:=.cells 32 [iN 2,Iv id,iN 2,Iv ob.dest,.bool ob.h.n,Iv ob.h.t,Iv ob.h.o,Iv ob.h.r,Iv ob.h.d,Iv ob.h.i,Iv ob.l.1,Iv ob.l.2.1,Iv ob.l.2.2,Iv ob.num,Iv now,Iv num] false;let v1:Value:=.agg #[iN 0,iN 0,.bool false,iN 0,iN 0,iN 0,iN 0,iN 0,ay,.bool false,.bool false,.bool false,iN 0];let b2:ae:=.cells 26 (dO R (vS f 0 vs.length c)) false;let b3:ae:=.cells 26 (dO zR (ay)) false;let b4:ae:=.cells 30 (o9 ⟨0,(Int.ofNat 2),ob.dest,ob.h,ob.l,ob.num⟩) false;let v5:Value:=vS (false||oF T1.out) 19 (0+T1.out.length) 40;let b6:ae:=bv (false||oF T1.out) (aI ([]++T1.out.flatMap oc));let b7:ae:=.cells 23 [.bool y.n,Iv y.t,Iv y.o,Iv y.r,Iv y.d,Iv y.i] false;let v8:Value:=.tuple #[v1,ay,iN 1];let b9:ae:=.cells 3 [Iv id] false;let b10:ae:=.cells 95 (cy T1.R (vS T1.f 18 T1.vs.length T1.c) [Iv now] (v5) T1.e) false;let v11:Value:=vS f 14 vs.length (c2 f);let b12:ae:=bv T1.f (LtA.ab T1.vs);(HT (j4 [.agg #[Iv R.me,Iv R.dest,.bool R.own.n,Iv R.own.t,Iv R.own.o,Iv R.own.r,Iv R.own.d,Iv R.own.i,vS f 0 vs.length c,.bool R.asked,.bool R.want,.bool R.heard,Iv R.last]]) (heapOf [o,.dead,b2,b0,b3,b2,b9,b4,b3,b2,b3] aE) (iN 0) [.dead]∧(((decide (now≥(Int.ofNat 0)))=true→((!(decide (now≤(Int.ofNat 4611686018427387903))))=true→Q (v8) [o] [] [])∧((!(decide (now≤(Int.ofNat 4611686018427387903))))=false→HT (nV [vS f 0 vs.length c,Iv id]) (heapOf [o,.dead,b2,b0,b3,b2,b9,b4,b3,b2,b3,.dead] aE) (.tuple #[cx y,.bool th]) [.dead]∧(((!th)=true→Q (.tuple #[v1,ay,iN 7]) [o] [] [])∧((!th)=false→(((gk ⟨0,(Int.ofNat 2),ob.dest,ob.h,ob.l,ob.num⟩) != (Int.ofNat 0))=true→Q (v8) [o] [] [])∧(((gk ⟨0,(Int.ofNat 2),ob.dest,ob.h,ob.l,ob.num⟩) != (Int.ofNat 0))=false→((ob.dest != R.dest)=true→Q (v8) [o] [] [])∧((ob.dest != R.dest)=false→((ob.h.i != id)=true→Q (v8) [o] [] [])∧((ob.h.i != id)=false→HT (gi [vS f 0 vs.length c]) (heapOf [o,.dead,b2,b0,b3,b2,b9,b4,b3,b2,b3,.dead,.dead,b7] aE) (v11) [(bv f (LtA.ab vs)),.dead]∧(HE (KM [pb 16 0,Iv id,.agg #[iN 2,Iv ob.dest,.bool ob.h.n,Iv ob.h.t,Iv ob.h.o,Iv ob.h.r,Iv ob.h.d,Iv ob.h.i,Iv ob.l.1,Iv ob.l.2.1,Iv ob.l.2.2,Iv ob.num]]) (heapOf [o,.dead,b2,b0,b3,b2,b9,b4,b3,.cells 26 (dO R (v11)) false,b3,.dead,.dead,b7,(bv f (LtA.ab vs)),.dead,.cells 95 (cy R (v11) [Iv now] (ay) (Int.ofNat 0)) false,.map [(iN 1,.func (.func 94) #[pb 16 0] #[],0),(iN 2,.func (.func 95) #[pb 16 0] #[],1),(iN 3,.func (.func 96) #[pb 16 0] #[],2),(iN 4,.func (.func 97) #[pb 16 0] #[],3)] 4 false] aE) (.tuple #[]) ([.put 16 (b10)]++bL f 14++bL false 1 ++ [.push (b12),.push (b6),.push .dead])∧(((T1.e != (Int.ofNat 0))=true→(some (Iv T1.e):OV)=some (Iv T1.e)∧(Q (.tuple #[v1,ay,Iv T1.e]) [o] [] []))∧((T1.e != (Int.ofNat 0))=false→(some (v5):OV)=some (v5)∧(Q (.tuple #[.agg #[Iv T1.R.me,Iv T1.R.dest,.bool T1.R.own.n,Iv T1.R.own.t,Iv T1.R.own.o,Iv T1.R.own.r,Iv T1.R.own.d,Iv T1.R.own.i,vS T1.f 18 T1.vs.length T1.c,.bool T1.R.asked,.bool T1.R.want,.bool T1.R.heard,Iv T1.R.last],v5,iN 0]) [o] [18,19] [(b12),(b6)])))))))))))∧((decide (now≥(Int.ofNat 0)))=false→Q (v8) [o] [] [])))=RF Tryz.prog AD Tryz.f15 300 fL ⟨tmsOf [db R (vS f 0 vs.length c),.agg #[iN 2,Iv id,iN 2,Iv ob.dest,.bool ob.h.n,Iv ob.h.t,Iv ob.h.o,Iv ob.h.r,Iv ob.h.d,Iv ob.h.i,Iv ob.l.1,Iv ob.l.2.1,Iv ob.l.2.2,Iv ob.num,Iv now,Iv num]] 0 .leaf,heapOf [o,.dead] aE,[]⟩ (.h 39 (iN 0) [.dead] (.b 46 (.b 52 (.stop 1 [] []) (.h 60 (.tuple #[cx y,.bool th]) [.dead] (.b 74 (.stop 1 [] []) (.b 78 (.stop 1 [] []) (.b 84 (.stop 1 [] []) (.b 93 (.stop 1 [] []) (.h 103 (v11) [(bv f (LtA.ab vs)),.dead] (.e 135 (.tuple #[]) ([.put 16 (b10)]++bL f 14++bL false 1 ++ [.push (b12),.push (b6),.push .dead]) (.b 140 (.stop 1 [] []) (.stop 1 [18,19] [])))))))))) (.stop 1 [] []))) Q:=by cases f <;> (rcases T1 with ⟨_,_,fT1,_,oT1,_⟩; cases fT1 <;> cases oT1) <;> (intros;kernel_rfl)
theorem WQ(R:aw)(h0:R.own.id=0)(f:Bool)(vs:List aa)(hn:vs.length<1000000)(o:ae)(c:Nat)(W:bg)(X:eE)(ho:aB o=true)(hrow:vs = []∨∃ ty ro,o = .cells ty (aK vs) ro)(hfl:f=false→vs = []∧o = .dead)(call id now num:Int)(ob:aQ)(hok:iU R vs=true) :
  bj Tryz.prog 63 W 1 X fL ⟨tmsOf [db R (vS f 0 vs.length c),.agg #[iN 2,.int .i64 id,iN 2,.int .i64 ob.dest,.bool ob.h.n,.int .i64 ob.h.t,.int .i64 ob.h.o,.int .i64 ob.h.r,.int .i64 ob.h.d,.int .i64 ob.h.i,.int .i64 ob.l.1,.int .i64 ob.l.2.1,.int .i64 ob.l.2.2,.int .i64 ob.num,.int .i64 now,.int .i64 num]] 0 .leaf,heapOf [o,.dead] aE,[]⟩ (fE Tryz.prog Tryz.f15 (cJ o (fF R f vs id ⟨0,(Int.ofNat 2),ob.dest,ob.h,ob.l,ob.num⟩ now))):=by
 have T0:∀ {hp:Hp},hp.get 0=some o→TN vs (vS f 0 vs.length c) hp:=fun hg=>fD ho hrow hfl hg
 have hf0:f=false→vs = []∧c2 f=0:=fun h=>⟨(hfl h).1,by rw [h]; rfl⟩
 have hclone:∀ {hp:Hp},hp.get 0=some o→gi [vS f 0 vs.length c] hp=some (vS f hp.sz vs.length (c2 f),heapOf [bv f (LtA.ab vs),.dead] hp):=fun hg=>eT (T0 hg) hn fun h=>(hfl h).1
 have hget:∀ {hp:Hp},hp.get 0=some o→nV [vS f 0 vs.length c,.int .i64 id] hp=some (.tuple #[cx ((aG vs id).getD (zeroV 0)),.bool (aG vs id).isSome],heapOf [.dead] hp):=fun hg=>fy (T0 hg).tq hn
 have hck:∀ {hp:Hp},hp.get 0=some o→j4 [db R (vS f 0 vs.length c)] hp=some (.int .i64 (bif iU R vs then 0 else 1),heapOf [.dead] hp):=fun hg=>fz h0 (T0 hg) hn
 rw [hok] at hck;have hth:(aG vs id).isSome=(aG vs id).isSome:=rfl
 have hr:aF vs=true:=gG hok
 have hone:=fun h1 h2 h3=>qS (ob:=⟨0,(Int.ofNat 2),ob.dest,ob.h,ob.l,ob.num⟩) hr (.inl rfl) hth h1 h2 h3
 unfold fF;generalize (aG vs id).getD (zeroV 0)=y at *;generalize hth:(aG vs id).isSome=th at *;obtain ⟨T1,hT1⟩:∃ T,((⟨R,vs,f,(c2 f),[],(Int.ofNat 0)⟩:TS).xw (aZ id ob.h) now)=T:=⟨_,rfl⟩;refine bj.cD gh follows B0 (KT f th o vs [] c 0 R call id now num ob y T1 _) ?_
 refine ⟨hck (bl rfl),fun h_46=>⟨fun h_52=>cJ.fw ((Int.ofNat 1)) ?_,fun h_52=>⟨hget (bl rfl),fun h_74=>cJ.fw ((Int.ofNat 7)) ?_,fun h_74=>⟨fun h_78=>cJ.fw ((Int.ofNat 1)) ?_,fun h_78=>⟨fun h_84=>cJ.fw ((Int.ofNat 1)) ?_,fun h_84=>⟨fun h_93=>cJ.fw ((Int.ofNat 1)) ?_,fun h_93=>⟨hclone (bl rfl),tx (ob:=⟨0,(Int.ofNat 2),ob.dest,ob.h,ob.l,ob.num⟩) (frm:=id) (hone h_74 h_78 h_93) hT1 h0 (bl rfl) (bl rfl) hf0 (bl rfl) (fun _=>⟨rfl,rfl⟩) rfl rfl (by decide) hn,fun h_140=>⟨rfl,cJ.fw (T1.e) ?_⟩,fun h_140=>⟨rfl,cJ.sP (T':=(⟨T1.R,T1.vs,T1.f,T1.c,T1.out,(Int.ofNat 0)⟩:TS)) (f2:=(false||oF T1.out)) (n2:=(0+T1.out.length)) (L2:=([]++T1.out.flatMap oc)) (by first | rfl | (simp; done)) (by first | rfl | (simp; done) | (simp; omega)) (by first | rfl | (simp [oF]; done)) ⟨rfl,18,19,rfl,rfl,fun _ _=>by decide,fun _=>⟨rfl,0,rfl,rfl⟩,fun _=>⟨rfl,1,rfl,rfl⟩⟩ ?_⟩⟩⟩⟩⟩⟩⟩,fun h_46=>cJ.fw ((Int.ofNat 1)) ?_⟩
 all_goals (clear hck hget hclone T0 ho hrow hfl hf0; clear hone; (try simp only [ez,Bool.not_eq_true',Bool.not_eq_false'] at *); (try simp only [MR,MS,MT,MU,Gy,Qg,Qh,Qi,Qj,Qk,Ql,Qm,Qn,Qo,Qp,Qq,eQ,TS.kv,eH,ez, *,nX]); first | done | rfl | (refine Eq.trans ?_ (congrArg c7 hT1).symm; simp only [c7, *,nX]; first | done | rfl) | (simp only [c7, *,nX]; first | done | rfl))
theorem KU(f th:Bool)(o:ae)(vs u1:List aa)(c cs:Nat)(R:aw)(call id now num:Int)(ob:aQ)(y:aa)(T1:TS)(Q:Value→List ae→List Nat→List ae→Prop):let b0:ae:=.cells 32 [iN 2,Iv id,iN 3,Iv ob.dest,.bool ob.h.n,Iv ob.h.t,Iv ob.h.o,Iv ob.h.r,Iv ob.h.d,Iv ob.h.i,Iv ob.l.1,Iv ob.l.2.1,Iv ob.l.2.2,Iv ob.num,Iv now,Iv num] false;let v1:Value:=.agg #[iN 0,iN 0,.bool false,iN 0,iN 0,iN 0,iN 0,iN 0,ay,.bool false,.bool false,.bool false,iN 0];let b2:ae:=.cells 26 (dO R (vS f 0 vs.length c)) false;let b3:ae:=.cells 26 (dO zR (ay)) false;let b4:ae:=.cells 30 (o9 ⟨0,(Int.ofNat 3),ob.dest,ob.h,ob.l,ob.num⟩) false;let v5:Value:=vS (false||oF T1.out) 19 (0+T1.out.length) 40;let b6:ae:=bv (false||oF T1.out) (aI ([]++T1.out.flatMap oc));let b7:ae:=.cells 23 [.bool y.n,Iv y.t,Iv y.o,Iv y.r,Iv y.d,Iv y.i] false;let b8:ae:=.cells 3 [Iv id] false;let b9:ae:=.cells 95 (cy T1.R (vS T1.f 18 T1.vs.length T1.c) [Iv now] (v5) T1.e) false;let v10:Value:=.tuple #[v1,ay,iN 1];let v11:Value:=vS f 14 vs.length (c2 f);let b12:ae:=bv T1.f (LtA.ab T1.vs);(HT (j4 [.agg #[Iv R.me,Iv R.dest,.bool R.own.n,Iv R.own.t,Iv R.own.o,Iv R.own.r,Iv R.own.d,Iv R.own.i,vS f 0 vs.length c,.bool R.asked,.bool R.want,.bool R.heard,Iv R.last]]) (heapOf [o,.dead,b2,b0,b3,b2,b8,b4,b3,b2,b3] aE) (iN 0) [.dead]∧(((decide (now≥(Int.ofNat 0)))=true→((!(decide (now≤(Int.ofNat 4611686018427387903))))=true→Q (v10) [o] [] [])∧((!(decide (now≤(Int.ofNat 4611686018427387903))))=false→HT (nV [vS f 0 vs.length c,Iv id]) (heapOf [o,.dead,b2,b0,b3,b2,b8,b4,b3,b2,b3,.dead] aE) (.tuple #[cx y,.bool th]) [.dead]∧(((!th)=true→Q (.tuple #[v1,ay,iN 7]) [o] [] [])∧((!th)=false→(((gk ⟨0,(Int.ofNat 3),ob.dest,ob.h,ob.l,ob.num⟩) != (Int.ofNat 0))=true→Q (v10) [o] [] [])∧(((gk ⟨0,(Int.ofNat 3),ob.dest,ob.h,ob.l,ob.num⟩) != (Int.ofNat 0))=false→((ob.dest != R.dest)=true→Q (v10) [o] [] [])∧((ob.dest != R.dest)=false→HT (gi [vS f 0 vs.length c]) (heapOf [o,.dead,b2,b0,b3,b2,b8,b4,b3,b2,b3,.dead,.dead,b7] aE) (v11) [(bv f (LtA.ab vs)),.dead]∧(HE (Ta [pb 16 0,Iv id,.agg #[iN 3,Iv ob.dest,.bool ob.h.n,Iv ob.h.t,Iv ob.h.o,Iv ob.h.r,Iv ob.h.d,Iv ob.h.i,Iv ob.l.1,Iv ob.l.2.1,Iv ob.l.2.2,Iv ob.num]]) (heapOf [o,.dead,b2,b0,b3,b2,b8,b4,b3,.cells 26 (dO R (v11)) false,b3,.dead,.dead,b7,(bv f (LtA.ab vs)),.dead,.cells 95 (cy R (v11) [Iv now] (ay) (Int.ofNat 0)) false,.map [(iN 1,.func (.func 94) #[pb 16 0] #[],0),(iN 2,.func (.func 95) #[pb 16 0] #[],1),(iN 3,.func (.func 96) #[pb 16 0] #[],2),(iN 4,.func (.func 97) #[pb 16 0] #[],3)] 4 false] aE) (.tuple #[]) ([.put 16 (b9)]++bL f 14++bL false 1 ++ [.push (b12),.push (b6),.push .dead])∧(((T1.e != (Int.ofNat 0))=true→(some (Iv T1.e):OV)=some (Iv T1.e)∧(Q (.tuple #[v1,ay,Iv T1.e]) [o] [] []))∧((T1.e != (Int.ofNat 0))=false→(some (v5):OV)=some (v5)∧(Q (.tuple #[.agg #[Iv T1.R.me,Iv T1.R.dest,.bool T1.R.own.n,Iv T1.R.own.t,Iv T1.R.own.o,Iv T1.R.own.r,Iv T1.R.own.d,Iv T1.R.own.i,vS T1.f 18 T1.vs.length T1.c,.bool T1.R.asked,.bool T1.R.want,.bool T1.R.heard,Iv T1.R.last],v5,iN 0]) [o] [18,19] [(b12),(b6)]))))))))))∧((decide (now≥(Int.ofNat 0)))=false→Q (v10) [o] [] [])))=RF Tryz.prog AD Tryz.f15 300 fL ⟨tmsOf [db R (vS f 0 vs.length c),.agg #[iN 2,Iv id,iN 3,Iv ob.dest,.bool ob.h.n,Iv ob.h.t,Iv ob.h.o,Iv ob.h.r,Iv ob.h.d,Iv ob.h.i,Iv ob.l.1,Iv ob.l.2.1,Iv ob.l.2.2,Iv ob.num,Iv now,Iv num]] 0 .leaf,heapOf [o,.dead] aE,[]⟩ (.h 39 (iN 0) [.dead] (.b 46 (.b 52 (.stop 1 [] []) (.h 60 (.tuple #[cx y,.bool th]) [.dead] (.b 77 (.stop 1 [] []) (.b 81 (.stop 1 [] []) (.b 87 (.stop 1 [] []) (.h 101 (v11) [(bv f (LtA.ab vs)),.dead] (.e 133 (.tuple #[]) ([.put 16 (b9)]++bL f 14++bL false 1 ++ [.push (b12),.push (b6),.push .dead]) (.b 138 (.stop 1 [] []) (.stop 1 [18,19] []))))))))) (.stop 1 [] []))) Q:=by cases f <;> (rcases T1 with ⟨_,_,fT1,_,oT1,_⟩; cases fT1 <;> cases oT1) <;> (intros;kernel_rfl)
theorem WR(R:aw)(h0:R.own.id=0)(f:Bool)(vs:List aa)(hn:vs.length<1000000)(o:ae)(c:Nat)(W:bg)(X:eE)(ho:aB o=true)(hrow:vs = []∨∃ ty ro,o = .cells ty (aK vs) ro)(hfl:f=false→vs = []∧o = .dead)(call id now num:Int)(ob:aQ)(hok:iU R vs=true) :
  bj Tryz.prog 63 W 1 X fL ⟨tmsOf [db R (vS f 0 vs.length c),.agg #[iN 2,.int .i64 id,iN 3,.int .i64 ob.dest,.bool ob.h.n,.int .i64 ob.h.t,.int .i64 ob.h.o,.int .i64 ob.h.r,.int .i64 ob.h.d,.int .i64 ob.h.i,.int .i64 ob.l.1,.int .i64 ob.l.2.1,.int .i64 ob.l.2.2,.int .i64 ob.num,.int .i64 now,.int .i64 num]] 0 .leaf,heapOf [o,.dead] aE,[]⟩ (fE Tryz.prog Tryz.f15 (cJ o (fF R f vs id ⟨0,(Int.ofNat 3),ob.dest,ob.h,ob.l,ob.num⟩ now))):=by
 have T0:∀ {hp:Hp},hp.get 0=some o→TN vs (vS f 0 vs.length c) hp:=fun hg=>fD ho hrow hfl hg
 have hf0:f=false→vs = []∧c2 f=0:=fun h=>⟨(hfl h).1,by rw [h]; rfl⟩
 have hclone:∀ {hp:Hp},hp.get 0=some o→gi [vS f 0 vs.length c] hp=some (vS f hp.sz vs.length (c2 f),heapOf [bv f (LtA.ab vs),.dead] hp):=fun hg=>eT (T0 hg) hn fun h=>(hfl h).1
 have hget:∀ {hp:Hp},hp.get 0=some o→nV [vS f 0 vs.length c,.int .i64 id] hp=some (.tuple #[cx ((aG vs id).getD (zeroV 0)),.bool (aG vs id).isSome],heapOf [.dead] hp):=fun hg=>fy (T0 hg).tq hn
 have hck:∀ {hp:Hp},hp.get 0=some o→j4 [db R (vS f 0 vs.length c)] hp=some (.int .i64 (bif iU R vs then 0 else 1),heapOf [.dead] hp):=fun hg=>fz h0 (T0 hg) hn
 rw [hok] at hck;have hth:(aG vs id).isSome=(aG vs id).isSome:=rfl
 unfold fF;generalize (aG vs id).getD (zeroV 0)=y at *;generalize hth:(aG vs id).isSome=th at *;obtain ⟨T1,hT1⟩:∃ T,((⟨R,vs,f,(c2 f),[],(Int.ofNat 0)⟩:TS).yc ⟨0,(Int.ofNat 3),ob.dest,ob.h,ob.l,ob.num⟩ now)=T:=⟨_,rfl⟩;refine bj.cD gh follows B0 (KU f th o vs [] c 0 R call id now num ob y T1 _) ?_
 refine ⟨hck (bl rfl),fun h_46=>⟨fun h_52=>cJ.fw ((Int.ofNat 1)) ?_,fun h_52=>⟨hget (bl rfl),fun h_77=>cJ.fw ((Int.ofNat 7)) ?_,fun h_77=>⟨fun h_81=>cJ.fw ((Int.ofNat 1)) ?_,fun h_81=>⟨fun h_87=>cJ.fw ((Int.ofNat 1)) ?_,fun h_87=>⟨hclone (bl rfl),KJ (ob:=⟨0,(Int.ofNat 3),ob.dest,ob.h,ob.l,ob.num⟩) (frm:=id) hT1 h0 (bl rfl) (bl rfl) hf0 (bl rfl) (fun _=>⟨rfl,rfl⟩) rfl rfl (by decide) hn,fun h_138=>⟨rfl,cJ.fw (T1.e) ?_⟩,fun h_138=>⟨rfl,cJ.sP (T':=(⟨T1.R,T1.vs,T1.f,T1.c,T1.out,(Int.ofNat 0)⟩:TS)) (f2:=(false||oF T1.out)) (n2:=(0+T1.out.length)) (L2:=([]++T1.out.flatMap oc)) (by first | rfl | (simp; done)) (by first | rfl | (simp; done) | (simp; omega)) (by first | rfl | (simp [oF]; done)) ⟨rfl,18,19,rfl,rfl,fun _ _=>by decide,fun _=>⟨rfl,0,rfl,rfl⟩,fun _=>⟨rfl,1,rfl,rfl⟩⟩ ?_⟩⟩⟩⟩⟩⟩,fun h_46=>cJ.fw ((Int.ofNat 1)) ?_⟩
 all_goals (clear hck hget hclone T0 ho hrow hfl hf0; (try simp only [ez,Bool.not_eq_true',Bool.not_eq_false'] at *); (try simp only [MR,MS,MT,MU,Gy,Qg,Qh,Qi,Qj,Qk,Ql,Qm,Qn,Qo,Qp,Qq,eQ,TS.kv,eH,ez, *,nX]); first | done | rfl | (refine Eq.trans ?_ (congrArg c7 hT1).symm; simp only [c7, *,nX]; first | done | rfl) | (simp only [c7, *,nX]; first | done | rfl))
set_option maxHeartbeats 4000000
theorem KZ(f th:Bool)(o:ae)(vs u1:List aa)(c cs:Nat)(R:aw)(call id now num:Int)(ob:aQ)(y:aa)(Q:Value→List ae→List Nat→List ae→Prop):let v0:Value:=.agg #[iN 0,iN 0,.bool false,iN 0,iN 0,iN 0,iN 0,iN 0,ay,.bool false,.bool false,.bool false,iN 0];let b1:ae:=.cells 32 [iN 2,Iv id,Iv ob.kind,Iv ob.dest,.bool ob.h.n,Iv ob.h.t,Iv ob.h.o,Iv ob.h.r,Iv ob.h.d,Iv ob.h.i,Iv ob.l.1,Iv ob.l.2.1,Iv ob.l.2.2,Iv ob.num,Iv now,Iv num] false;let b2:ae:=.cells 26 (dO R (vS f 0 vs.length c)) false;let b3:ae:=.cells 26 (dO zR (ay)) false;let b4:ae:=.cells 30 (o9 ⟨0,ob.kind,ob.dest,ob.h,ob.l,ob.num⟩) false;let v5:Value:=.tuple #[v0,ay,iN 1];(HT (j4 [.agg #[Iv R.me,Iv R.dest,.bool R.own.n,Iv R.own.t,Iv R.own.o,Iv R.own.r,Iv R.own.d,Iv R.own.i,vS f 0 vs.length c,.bool R.asked,.bool R.want,.bool R.heard,Iv R.last]]) (heapOf [o,.dead,b2,b1,b3,b2,.cells 3 [Iv id] false,b4,b3,b2,b3] aE) (iN 0) [.dead]∧(((decide (now≥(Int.ofNat 0)))=true→((!(decide (now≤(Int.ofNat 4611686018427387903))))=true→Q (v5) [o] [] [])∧((!(decide (now≤(Int.ofNat 4611686018427387903))))=false→HT (nV [vS f 0 vs.length c,Iv id]) (heapOf [o,.dead,b2,b1,b3,b2,.cells 3 [Iv id] false,b4,b3,b2,b3,.dead] aE) (.tuple #[cx y,.bool th]) [.dead]∧(((ob.kind==(Int.ofNat 2))=true→((!th)=true→Q (.tuple #[v0,ay,iN 7]) [o] [] [])∧((!th)=false→(some (.bool ((gk ob) != (Int.ofNat 0))):OV)=some (.bool true)∧(Q (v5) [o] [] [])))∧((ob.kind==(Int.ofNat 2))=false→((!th)=true→Q (.tuple #[v0,ay,iN 7]) [o] [] [])∧((!th)=false→(some (.bool ((gk ob) != (Int.ofNat 0))):OV)=some (.bool true)∧(Q (v5) [o] [] []))))))∧((decide (now≥(Int.ofNat 0)))=false→Q (v5) [o] [] [])))=RF Tryz.prog AD Tryz.f15 300 fL ⟨tmsOf [db R (vS f 0 vs.length c),.agg #[iN 2,Iv id,Iv ob.kind,Iv ob.dest,.bool ob.h.n,Iv ob.h.t,Iv ob.h.o,Iv ob.h.r,Iv ob.h.d,Iv ob.h.i,Iv ob.l.1,Iv ob.l.2.1,Iv ob.l.2.2,Iv ob.num,Iv now,Iv num]] 0 .leaf,heapOf [o,.dead] aE,[]⟩ (.h 39 (iN 0) [.dead] (.b 46 (.b 52 (.stop 1 [] []) (.h 60 (.tuple #[cx y,.bool th]) [.dead] (.b 69 (.b 74 (.stop 1 [] []) (.v 78 (.bool true) (.stop 1 [] []))) (.b 77 (.stop 1 [] []) (.v 81 (.bool true) (.stop 1 [] [])))))) (.stop 1 [] []))) Q:=by cases f <;> (intros;kernel_rfl)
theorem WT(R:aw)(h0:R.own.id=0)(f:Bool)(vs:List aa)(hn:vs.length<1000000)(o:ae)(c:Nat)(W:bg)(X:eE)(ho:aB o=true)(hrow:vs = []∨∃ ty ro,o = .cells ty (aK vs) ro)(hfl:f=false→vs = []∧o = .dead)(call id now num:Int)(ob:aQ)(hok:iU R vs=true)(hcx:((gk ob) != (Int.ofNat 0))=true) :
  bj Tryz.prog 63 W 1 X fL ⟨tmsOf [db R (vS f 0 vs.length c),.agg #[iN 2,.int .i64 id,.int .i64 ob.kind,.int .i64 ob.dest,.bool ob.h.n,.int .i64 ob.h.t,.int .i64 ob.h.o,.int .i64 ob.h.r,.int .i64 ob.h.d,.int .i64 ob.h.i,.int .i64 ob.l.1,.int .i64 ob.l.2.1,.int .i64 ob.l.2.2,.int .i64 ob.num,.int .i64 now,.int .i64 num]] 0 .leaf,heapOf [o,.dead] aE,[]⟩ (fE Tryz.prog Tryz.f15 (cJ o (fF R f vs id ob now))):=by
 have T0:∀ {hp:Hp},hp.get 0=some o→TN vs (vS f 0 vs.length c) hp:=fun hg=>fD ho hrow hfl hg
 have hf0:f=false→vs = []∧c2 f=0:=fun h=>⟨(hfl h).1,by rw [h]; rfl⟩
 have hclone:∀ {hp:Hp},hp.get 0=some o→gi [vS f 0 vs.length c] hp=some (vS f hp.sz vs.length (c2 f),heapOf [bv f (LtA.ab vs),.dead] hp):=fun hg=>eT (T0 hg) hn fun h=>(hfl h).1
 have hget:∀ {hp:Hp},hp.get 0=some o→nV [vS f 0 vs.length c,.int .i64 id] hp=some (.tuple #[cx ((aG vs id).getD (zeroV 0)),.bool (aG vs id).isSome],heapOf [.dead] hp):=fun hg=>fy (T0 hg).tq hn
 have hck:∀ {hp:Hp},hp.get 0=some o→j4 [db R (vS f 0 vs.length c)] hp=some (.int .i64 (bif iU R vs then 0 else 1),heapOf [.dead] hp):=fun hg=>fz h0 (T0 hg) hn
 rw [hok] at hck;have hth:(aG vs id).isSome=(aG vs id).isSome:=rfl
 unfold fF;generalize (aG vs id).getD (zeroV 0)=y at *;generalize hth:(aG vs id).isSome=th at *;refine bj.cD gh follows B0 (KZ f th o vs [] c 0 R call id now num ob y  _) ?_
 refine ⟨hck (bl rfl),fun h_46=>⟨fun h_52=>cJ.fw ((Int.ofNat 1)) ?_,fun h_52=>⟨hget (bl rfl),fun h_69=>⟨fun h_74=>cJ.fw ((Int.ofNat 7)) ?_,fun h_74=>⟨aS hcx,cJ.fw ((Int.ofNat 1)) ?_⟩⟩,fun h_69=>⟨fun h_77=>cJ.fw ((Int.ofNat 7)) ?_,fun h_77=>⟨aS hcx,cJ.fw ((Int.ofNat 1)) ?_⟩⟩⟩⟩,fun h_46=>cJ.fw ((Int.ofNat 1)) ?_⟩
 all_goals (clear hck hget hclone T0 ho hrow hfl hf0; (try simp only [ez,Bool.not_eq_true',Bool.not_eq_false'] at *); (try simp only [MR,MS,MT,MU,Gy,Qg,Qh,Qi,Qj,Qk,Ql,Qm,Qn,Qo,Qp,Qq,eQ,ez, *,nX]); first | done | rfl | (simp only [c7, *,nX]; first | done | rfl))
theorem Pt(f th:Bool)(o:ae)(vs u1:List aa)(c cs:Nat)(R:aw)(call id now num:Int)(ob:aQ)(y:aa)(T1:TS)(Q:Value→List ae→List Nat→List ae→Prop):let b0:ae:=.cells 32 [iN 3,Iv id,Iv ob.kind,Iv ob.dest,.bool ob.h.n,Iv ob.h.t,Iv ob.h.o,Iv ob.h.r,Iv ob.h.d,Iv ob.h.i,Iv ob.l.1,Iv ob.l.2.1,Iv ob.l.2.2,Iv ob.num,Iv now,Iv num] false;let b1:ae:=.cells 26 (dO R (vS f 0 vs.length c)) false;let b2:ae:=.cells 26 (dO zR (ay)) false;let v3:Value:=vS (false||oF T1.out) 14 (0+T1.out.length) 40;let b4:ae:=bv (false||oF T1.out) (aI ([]++T1.out.flatMap oc));let b5:ae:=.cells 95 (cy T1.R (vS T1.f 13 T1.vs.length T1.c) [iN 0] (v3) T1.e) false;let v6:Value:=vS f 10 vs.length (c2 f);let b7:ae:=bv T1.f (LtA.ab T1.vs);(HT (j4 [.agg #[Iv R.me,Iv R.dest,.bool R.own.n,Iv R.own.t,Iv R.own.o,Iv R.own.r,Iv R.own.d,Iv R.own.i,vS f 0 vs.length c,.bool R.asked,.bool R.want,.bool R.heard,Iv R.last]]) (heapOf [o,.dead,b1,b0,b2,b1,b2,b1,b2] aE) (iN 0) [.dead]∧(HT (gi [vS f 0 vs.length c]) (heapOf [o,.dead,b1,b0,b2,b1,b2,b1,b2,.dead] aE) (v6) [(bv f (LtA.ab vs)),.dead]∧(HE (uW [pb 12 0]) (heapOf [o,.dead,b1,b0,b2,b1,b2,.cells 26 (dO R (v6)) false,b2,.dead,(bv f (LtA.ab vs)),.dead,.cells 95 (cy (⟨R.me,R.dest,R.own,R.asked,true,R.heard,R.last⟩) (v6) [iN 0] (ay) (Int.ofNat 0)) false] aE) (.tuple #[]) ([.put 12 (b5)]++bL f 10++bL false 1 ++ [.push (b7),.push (b4),.push .dead])∧(((T1.e != (Int.ofNat 0))=true→(some (Iv T1.e):OV)=some (Iv T1.e)∧(Q (.tuple #[.agg #[iN 0,iN 0,.bool false,iN 0,iN 0,iN 0,iN 0,iN 0,ay,.bool false,.bool false,.bool false,iN 0],ay,Iv T1.e]) [o] [] []))∧((T1.e != (Int.ofNat 0))=false→(some (v3):OV)=some (v3)∧(Q (.tuple #[.agg #[Iv T1.R.me,Iv T1.R.dest,.bool T1.R.own.n,Iv T1.R.own.t,Iv T1.R.own.o,Iv T1.R.own.r,Iv T1.R.own.d,Iv T1.R.own.i,vS T1.f 13 T1.vs.length T1.c,.bool T1.R.asked,.bool T1.R.want,.bool T1.R.heard,Iv T1.R.last],v3,iN 0]) [o] [13,14] [(b7),(b4)]))))))=RF Tryz.prog AD Tryz.f15 300 fL ⟨tmsOf [db R (vS f 0 vs.length c),.agg #[iN 3,Iv id,Iv ob.kind,Iv ob.dest,.bool ob.h.n,Iv ob.h.t,Iv ob.h.o,Iv ob.h.r,Iv ob.h.d,Iv ob.h.i,Iv ob.l.1,Iv ob.l.2.1,Iv ob.l.2.2,Iv ob.num,Iv now,Iv num]] 0 .leaf,heapOf [o,.dead] aE,[]⟩ (.h 28 (iN 0) [.dead] (.h 52 (v6) [(bv f (LtA.ab vs)),.dead] (.e 69 (.tuple #[]) ([.put 12 (b5)]++bL f 10++bL false 1 ++ [.push (b7),.push (b4),.push .dead]) (.b 74 (.stop 1 [] []) (.stop 1 [13,14] []))))) Q:=by cases f <;> (rcases T1 with ⟨_,_,fT1,_,oT1,_⟩; cases fT1 <;> cases oT1) <;> (intros;kernel_rfl)
theorem Ys(R:aw)(h0:R.own.id=0)(f:Bool)(vs:List aa)(hn:vs.length<1000000)(o:ae)(c:Nat)(W:bg)(X:eE)(ho:aB o=true)(hrow:vs = []∨∃ ty ro,o = .cells ty (aK vs) ro)(hfl:f=false→vs = []∧o = .dead)(call id now num:Int)(ob:aQ)(hok:iU R vs=true) :
  bj Tryz.prog 63 W 1 X fL ⟨tmsOf [db R (vS f 0 vs.length c),.agg #[iN 3,.int .i64 id,.int .i64 ob.kind,.int .i64 ob.dest,.bool ob.h.n,.int .i64 ob.h.t,.int .i64 ob.h.o,.int .i64 ob.h.r,.int .i64 ob.h.d,.int .i64 ob.h.i,.int .i64 ob.l.1,.int .i64 ob.l.2.1,.int .i64 ob.l.2.2,.int .i64 ob.num,.int .i64 now,.int .i64 num]] 0 .leaf,heapOf [o,.dead] aE,[]⟩ (fE Tryz.prog Tryz.f15 (cJ o (AA R f vs))):=by
 have T0:∀ {hp:Hp},hp.get 0=some o→TN vs (vS f 0 vs.length c) hp:=fun hg=>fD ho hrow hfl hg
 have hf0:f=false→vs = []∧c2 f=0:=fun h=>⟨(hfl h).1,by rw [h]; rfl⟩
 have hclone:∀ {hp:Hp},hp.get 0=some o→gi [vS f 0 vs.length c] hp=some (vS f hp.sz vs.length (c2 f),heapOf [bv f (LtA.ab vs),.dead] hp):=fun hg=>eT (T0 hg) hn fun h=>(hfl h).1
 have hget:∀ {hp:Hp},hp.get 0=some o→nV [vS f 0 vs.length c,.int .i64 id] hp=some (.tuple #[cx ((aG vs id).getD (zeroV 0)),.bool (aG vs id).isSome],heapOf [.dead] hp):=fun hg=>fy (T0 hg).tq hn
 have hck:∀ {hp:Hp},hp.get 0=some o→j4 [db R (vS f 0 vs.length c)] hp=some (.int .i64 (bif iU R vs then 0 else 1),heapOf [.dead] hp):=fun hg=>fz h0 (T0 hg) hn
 rw [hok] at hck;have hth:(aG vs id).isSome=(aG vs id).isSome:=rfl
 unfold AA;generalize (aG vs id).getD (zeroV 0)=y at *;generalize hth:(aG vs id).isSome=th at *;obtain ⟨T1,hT1⟩:∃ T,((⟨⟨R.me,R.dest,R.own,R.asked,true,R.heard,R.last⟩,vs,f,(c2 f),[],(Int.ofNat 0)⟩:TS).dv)=T:=⟨_,rfl⟩;refine bj.cD gh follows B0 (Pt f th o vs [] c 0 R call id now num ob y T1 _) ?_
 refine ⟨hck (bl rfl),hclone (bl rfl),gj hT1 h0 (bl rfl) (bl rfl) hf0 (bl rfl) (fun _=>⟨rfl,rfl⟩) rfl rfl (by decide) hn,fun h_74=>⟨rfl,cJ.fw (T1.e) ?_⟩,fun h_74=>⟨rfl,cJ.sP (T':=(⟨T1.R,T1.vs,T1.f,T1.c,T1.out,(Int.ofNat 0)⟩:TS)) (f2:=(false||oF T1.out)) (n2:=(0+T1.out.length)) (L2:=([]++T1.out.flatMap oc)) (by first | rfl | (simp; done)) (by first | rfl | (simp; done) | (simp; omega)) (by first | rfl | (simp [oF]; done)) ⟨rfl,13,14,rfl,rfl,fun _ _=>by decide,fun _=>⟨rfl,0,rfl,rfl⟩,fun _=>⟨rfl,1,rfl,rfl⟩⟩ ?_⟩⟩
 all_goals (clear hck hget hclone T0 ho hrow hfl hf0; (try simp only [TS.nS,eH, *,nX]); first | done | rfl | (refine Eq.trans ?_ (congrArg c7 hT1).symm; simp only [c7, *,nX]; first | done | rfl) | (simp only [c7, *,nX]; first | done | rfl))
theorem Pq(f th:Bool)(o:ae)(vs u1:List aa)(c cs:Nat)(R:aw)(call id now num:Int)(ob:aQ)(y:aa)(Q:Value→List ae→List Nat→List ae→Prop):let b0:ae:=.cells 32 [iN 4,Iv id,Iv ob.kind,Iv ob.dest,.bool ob.h.n,Iv ob.h.t,Iv ob.h.o,Iv ob.h.r,Iv ob.h.d,Iv ob.h.i,Iv ob.l.1,Iv ob.l.2.1,Iv ob.l.2.2,Iv ob.num,Iv now,Iv num] false;let b1:ae:=.cells 26 (dO R (vS f 0 vs.length c)) false;let b2:ae:=.cells 26 (dO zR (ay)) false;let v3:Value:=vS f 10 vs.length (c2 f);(HT (j4 [.agg #[Iv R.me,Iv R.dest,.bool R.own.n,Iv R.own.t,Iv R.own.o,Iv R.own.r,Iv R.own.d,Iv R.own.i,vS f 0 vs.length c,.bool R.asked,.bool R.want,.bool R.heard,Iv R.last]]) (heapOf [o,.dead,b1,b0,b2,b1,b2,b1,b2] aE) (iN 0) [.dead]∧(HT (gi [vS f 0 vs.length c]) (heapOf [o,.dead,b1,b0,b2,b1,b2,b1,b2,.dead] aE) (v3) [(bv f (LtA.ab vs)),.dead]∧((some (ay):OV)=some (ay)∧(Q (.tuple #[.agg #[Iv R.me,Iv R.dest,.bool R.own.n,Iv R.own.t,Iv R.own.o,Iv R.own.r,Iv R.own.d,Iv R.own.i,v3,.bool R.asked,.bool false,.bool R.heard,Iv R.last],ay,iN 0]) [o] [10] [(bv f (LtA.ab vs))]))))=RF Tryz.prog AD Tryz.f15 300 fL ⟨tmsOf [db R (vS f 0 vs.length c),.agg #[iN 4,Iv id,Iv ob.kind,Iv ob.dest,.bool ob.h.n,Iv ob.h.t,Iv ob.h.o,Iv ob.h.r,Iv ob.h.d,Iv ob.h.i,Iv ob.l.1,Iv ob.l.2.1,Iv ob.l.2.2,Iv ob.num,Iv now,Iv num]] 0 .leaf,heapOf [o,.dead] aE,[]⟩ (.h 30 (iN 0) [.dead] (.h 54 (v3) [(bv f (LtA.ab vs)),.dead] (.stop 1 [10] []))) Q:=by cases f <;> (intros;kernel_rfl)
theorem Yp(R:aw)(h0:R.own.id=0)(f:Bool)(vs:List aa)(hn:vs.length<1000000)(o:ae)(c:Nat)(W:bg)(X:eE)(ho:aB o=true)(hrow:vs = []∨∃ ty ro,o = .cells ty (aK vs) ro)(hfl:f=false→vs = []∧o = .dead)(call id now num:Int)(ob:aQ)(hok:iU R vs=true) :
  bj Tryz.prog 63 W 1 X fL ⟨tmsOf [db R (vS f 0 vs.length c),.agg #[iN 4,.int .i64 id,.int .i64 ob.kind,.int .i64 ob.dest,.bool ob.h.n,.int .i64 ob.h.t,.int .i64 ob.h.o,.int .i64 ob.h.r,.int .i64 ob.h.d,.int .i64 ob.h.i,.int .i64 ob.l.1,.int .i64 ob.l.2.1,.int .i64 ob.l.2.2,.int .i64 ob.num,.int .i64 now,.int .i64 num]] 0 .leaf,heapOf [o,.dead] aE,[]⟩ (fE Tryz.prog Tryz.f15 (cJ o (JO R f vs))):=by
 have T0:∀ {hp:Hp},hp.get 0=some o→TN vs (vS f 0 vs.length c) hp:=fun hg=>fD ho hrow hfl hg
 have hf0:f=false→vs = []∧c2 f=0:=fun h=>⟨(hfl h).1,by rw [h]; rfl⟩
 have hclone:∀ {hp:Hp},hp.get 0=some o→gi [vS f 0 vs.length c] hp=some (vS f hp.sz vs.length (c2 f),heapOf [bv f (LtA.ab vs),.dead] hp):=fun hg=>eT (T0 hg) hn fun h=>(hfl h).1
 have hget:∀ {hp:Hp},hp.get 0=some o→nV [vS f 0 vs.length c,.int .i64 id] hp=some (.tuple #[cx ((aG vs id).getD (zeroV 0)),.bool (aG vs id).isSome],heapOf [.dead] hp):=fun hg=>fy (T0 hg).tq hn
 have hck:∀ {hp:Hp},hp.get 0=some o→j4 [db R (vS f 0 vs.length c)] hp=some (.int .i64 (bif iU R vs then 0 else 1),heapOf [.dead] hp):=fun hg=>fz h0 (T0 hg) hn
 rw [hok] at hck;have hth:(aG vs id).isSome=(aG vs id).isSome:=rfl
 generalize (aG vs id).getD (zeroV 0)=y at *;generalize hth:(aG vs id).isSome=th at *;refine bj.cD gh follows B0 (Pq f th o vs [] c 0 R call id now num ob y  _) ?_
 refine ⟨hck (bl rfl),hclone (bl rfl),rfl,cJ.sP (T':=(⟨⟨R.me,R.dest,R.own,R.asked,false,R.heard,R.last⟩,vs,f,(c2 f),[],(Int.ofNat 0)⟩:TS)) (f2:=false) (n2:=0) (L2:=[]) rfl rfl rfl ⟨rfl,10,0,rfl,rfl,nofun,fun _=>⟨rfl,0,rfl,rfl⟩,nofun⟩ ?_⟩
 all_goals (clear hck hget hclone T0 ho hrow hfl hf0; rfl)
theorem Pr(f th:Bool)(o:ae)(vs u1:List aa)(c cs:Nat)(R:aw)(call id now num:Int)(ob:aQ)(y:aa)(Q:Value→List ae→List Nat→List ae→Prop):let b0:ae:=.cells 32 [Iv call,Iv id,Iv ob.kind,Iv ob.dest,.bool ob.h.n,Iv ob.h.t,Iv ob.h.o,Iv ob.h.r,Iv ob.h.d,Iv ob.h.i,Iv ob.l.1,Iv ob.l.2.1,Iv ob.l.2.2,Iv ob.num,Iv now,Iv num] false;let v1:Value:=.tuple #[.agg #[iN 0,iN 0,.bool false,iN 0,iN 0,iN 0,iN 0,iN 0,ay,.bool false,.bool false,.bool false,iN 0],ay,iN 1];let b2:ae:=.cells 26 (dO R (vS f 0 vs.length c)) false;let b3:ae:=.cells 26 (dO zR (ay)) false;let v4:Value:=.slice (some ⟨16,0,none⟩) 1 40;let v5:Value:=vS f 11 vs.length (c2 f);((some (.bool (call==(Int.ofNat 0))):OV)=some (.bool false)∧((some (.bool (call==(Int.ofNat 1))):OV)=some (.bool false)∧((some (.bool (call==(Int.ofNat 2))):OV)=some (.bool false)∧((some (.bool (call==(Int.ofNat 3))):OV)=some (.bool false)∧((some (.bool (call==(Int.ofNat 4))):OV)=some (.bool false)∧(HT (j4 [.agg #[Iv R.me,Iv R.dest,.bool R.own.n,Iv R.own.t,Iv R.own.o,Iv R.own.r,Iv R.own.d,Iv R.own.i,vS f 0 vs.length c,.bool R.asked,.bool R.want,.bool R.heard,Iv R.last]]) (heapOf [o,.dead,b2,b0,b3,b2,.cells 3 [Iv num] false,b3,b2,b3] aE) (iN 0) [.dead]∧(((R.me != R.dest)=true→Q (v1) [o] [] [])∧((R.me != R.dest)=false→((decide (num<(Int.ofNat 0)))=true→Q (v1) [o] [] [])∧((decide (num<(Int.ofNat 0)))=false→((decide (num>(Int.ofNat 65535)))=true→Q (v1) [o] [] [])∧((decide (num>(Int.ofNat 65535)))=false→HT (gi [vS f 0 vs.length c]) (heapOf [o,.dead,b2,b0,b3,b2,.cells 3 [Iv num] false,b3,b2,b3,.dead] aE) (v5) [(bv f (LtA.ab vs)),.dead]∧((some (v4):OV)=some (v4)∧(Q (.tuple #[.agg #[Iv R.me,Iv R.dest,.bool R.own.n,Iv R.own.t,Iv R.own.o,Iv R.own.r,Iv R.own.d,Iv R.own.i,v5,.bool R.asked,.bool R.want,.bool true,Iv num],v4,iN 0]) [o] [11,16] [(bv f (LtA.ab vs)),.cells 50 (oc ⟨(Int.ofNat 255),(Int.ofNat 4),R.dest,R.own,zL,num⟩) false]))))))))))))=RF Tryz.prog AD Tryz.f15 300 fL ⟨tmsOf [db R (vS f 0 vs.length c),.agg #[Iv call,Iv id,Iv ob.kind,Iv ob.dest,.bool ob.h.n,Iv ob.h.t,Iv ob.h.o,Iv ob.h.r,Iv ob.h.d,Iv ob.h.i,Iv ob.l.1,Iv ob.l.2.1,Iv ob.l.2.2,Iv ob.num,Iv now,Iv num]] 0 .leaf,heapOf [o,.dead] aE,[]⟩ (.v 7 (.bool false) (.v 9 (.bool false) (.v 11 (.bool false) (.v 13 (.bool false) (.v 15 (.bool false) (.h 37 (iN 0) [.dead] (.b 59 (.stop 1 [] []) (.b 62 (.stop 1 [] []) (.b 66 (.stop 1 [] []) (.h 74 (v5) [(bv f (LtA.ab vs)),.dead] (.stop 1 [11,16] []))))))))))) Q:=by cases f <;> (intros;kernel_rfl)
theorem Yq(R:aw)(h0:R.own.id=0)(f:Bool)(vs:List aa)(hn:vs.length<1000000)(o:ae)(c:Nat)(W:bg)(X:eE)(ho:aB o=true)(hrow:vs = []∨∃ ty ro,o = .cells ty (aK vs) ro)(hfl:f=false→vs = []∧o = .dead)(call id now num:Int)(ob:aQ)(hok:iU R vs=true)(hc0:(call==(Int.ofNat 0))=false)(hc1:(call==(Int.ofNat 1))=false)(hc2:(call==(Int.ofNat 2))=false)(hc3:(call==(Int.ofNat 3))=false)(hc4:(call==(Int.ofNat 4))=false) :
  bj Tryz.prog 63 W 1 X fL ⟨tmsOf [db R (vS f 0 vs.length c),.agg #[.int .i64 call,.int .i64 id,.int .i64 ob.kind,.int .i64 ob.dest,.bool ob.h.n,.int .i64 ob.h.t,.int .i64 ob.h.o,.int .i64 ob.h.r,.int .i64 ob.h.d,.int .i64 ob.h.i,.int .i64 ob.l.1,.int .i64 ob.l.2.1,.int .i64 ob.l.2.2,.int .i64 ob.num,.int .i64 now,.int .i64 num]] 0 .leaf,heapOf [o,.dead] aE,[]⟩ (fE Tryz.prog Tryz.f15 (cJ o (lW R f vs num))):=by
 have T0:∀ {hp:Hp},hp.get 0=some o→TN vs (vS f 0 vs.length c) hp:=fun hg=>fD ho hrow hfl hg
 have hf0:f=false→vs = []∧c2 f=0:=fun h=>⟨(hfl h).1,by rw [h]; rfl⟩
 have hclone:∀ {hp:Hp},hp.get 0=some o→gi [vS f 0 vs.length c] hp=some (vS f hp.sz vs.length (c2 f),heapOf [bv f (LtA.ab vs),.dead] hp):=fun hg=>eT (T0 hg) hn fun h=>(hfl h).1
 have hget:∀ {hp:Hp},hp.get 0=some o→nV [vS f 0 vs.length c,.int .i64 id] hp=some (.tuple #[cx ((aG vs id).getD (zeroV 0)),.bool (aG vs id).isSome],heapOf [.dead] hp):=fun hg=>fy (T0 hg).tq hn
 have hck:∀ {hp:Hp},hp.get 0=some o→j4 [db R (vS f 0 vs.length c)] hp=some (.int .i64 (bif iU R vs then 0 else 1),heapOf [.dead] hp):=fun hg=>fz h0 (T0 hg) hn
 rw [hok] at hck;have hth:(aG vs id).isSome=(aG vs id).isSome:=rfl
 unfold lW;generalize (aG vs id).getD (zeroV 0)=y at *;generalize hth:(aG vs id).isSome=th at *;refine bj.cD gh follows B0 (Pr f th o vs [] c 0 R call id now num ob y  _) ?_
 refine ⟨aS hc0,aS hc1,aS hc2,aS hc3,aS hc4,hck (bl rfl),fun h_59=>cJ.fw ((Int.ofNat 1)) ?_,fun h_59=>⟨fun h_62=>cJ.fw ((Int.ofNat 1)) ?_,fun h_62=>⟨fun h_66=>cJ.fw ((Int.ofNat 1)) ?_,fun h_66=>⟨hclone (bl rfl),rfl,cJ.sP (T':=(⟨⟨R.me,R.dest,R.own,R.asked,R.want,true,num⟩,vs,f,(c2 f),[⟨(Int.ofNat 255),(Int.ofNat 4),R.dest,R.own,zL,num⟩],(Int.ofNat 0)⟩:TS)) (f2:=true) (n2:=1) (L2:=([⟨(Int.ofNat 255),(Int.ofNat 4),R.dest,R.own,zL,num⟩].flatMap oc)) (by first | rfl | (simp; done)) (by first | rfl | (simp; done) | (simp; omega)) (by first | rfl | (simp [oF]; done)) ⟨rfl,11,16,rfl,rfl,fun _ _=>by decide,fun _=>⟨rfl,0,rfl,rfl⟩,fun _=>⟨rfl,1,rfl,rfl⟩⟩ ?_⟩⟩⟩⟩
 all_goals (clear hck hget hclone T0 ho hrow hfl hf0; (try simp only [TS.iI,TS.qB,TS.send,eH, *,nX]); first | done | rfl | (simp only [c7, *,nX]; first | done | rfl))
set_option maxHeartbeats 4000000
theorem KW(f th:Bool)(o:ae)(vs u1:List aa)(c cs:Nat)(R:aw)(call id now num:Int)(ob:aQ)(y:aa)(T1:TS)(Q:Value→List ae→List Nat→List ae→Prop):let b1:ae:=.cells 32 [iN 2,Iv id,iN 4,Iv ob.dest,.bool ob.h.n,Iv ob.h.t,Iv ob.h.o,Iv ob.h.r,Iv ob.h.d,Iv ob.h.i,Iv ob.l.1,Iv ob.l.2.1,Iv ob.l.2.2,Iv ob.num,Iv now,Iv num] false;let v2:Value:=.agg #[iN 0,iN 0,.bool false,iN 0,iN 0,iN 0,iN 0,iN 0,ay,.bool false,.bool false,.bool false,iN 0];let b4:ae:=.cells 26 (dO R (vS f 0 vs.length c)) false;let b5:ae:=bv (false||oF T1.out) (aI ([]++T1.out.flatMap oc));let b6:ae:=.cells 30 (o9 ⟨0,(Int.ofNat 4),ob.dest,ob.h,ob.l,ob.num⟩) false;let v7:Value:=vS (false||oF T1.out) 24 (0+T1.out.length) 40;let v8:Value:=.agg #[iN 4,Iv ob.dest,.bool ob.h.n,Iv ob.h.t,Iv ob.h.o,Iv ob.h.r,Iv ob.h.d,Iv ob.h.i,Iv ob.l.1,Iv ob.l.2.1,Iv ob.l.2.2,Iv ob.num];let b9:ae:=.cells 26 (dO zR (ay)) false;let v10:Value:=.tuple #[.agg #[Iv T1.R.me,Iv T1.R.dest,.bool T1.R.own.n,Iv T1.R.own.t,Iv T1.R.own.o,Iv T1.R.own.r,Iv T1.R.own.d,Iv T1.R.own.i,vS T1.f 23 T1.vs.length T1.c,.bool T1.R.asked,.bool T1.R.want,.bool T1.R.heard,Iv T1.R.last],v7,iN 0];let b11:ae:=.cells 95 (cy T1.R (vS T1.f 23 T1.vs.length T1.c) [Iv now] (v7) T1.e) false;let b12:ae:=.cells 23 [.bool y.n,Iv y.t,Iv y.o,Iv y.r,Iv y.d,Iv y.i] false;let b13:ae:=.cells 50 (oc ⟨(Int.ofNat 255),(Int.ofNat 4),R.dest,(⟨0,false,((bA ob.h).1),((bA ob.h).2.1),((bA ob.h).2.2),(wrapF .i64 (ob.h.d+(Int.ofNat 1))),R.me⟩:aa),zL,ob.num⟩) false;let b14:ae:=.map [(iN 1,.func (.func 94) #[pb 16 0] #[],0),(iN 2,.func (.func 95) #[pb 16 0] #[],1),(iN 3,.func (.func 96) #[pb 16 0] #[],2),(iN 4,.func (.func 97) #[pb 16 0] #[],3)] 4 false;let v15:Value:=vS (false||oF T1.out) 20 (0+T1.out.length) 40;let b16:ae:=bv T1.f (LtA.ab T1.vs);let v17:Value:=vS f 14 vs.length (c2 f);let v18:Value:=.tuple #[v2,ay,Iv (cq false ((bA ob.h).1) ((bA ob.h).2.1) ((bA ob.h).2.2) (wrapF .i64 (ob.h.d+(Int.ofNat 1))) R.me)];let b19:ae:=.cells 3 [Iv id] false;let v20:Value:=.agg #[.bool ob.h.n,Iv ob.h.t,Iv ob.h.o,Iv ob.h.r,Iv ob.h.d,Iv ob.h.i];let v21:Value:=.tuple #[v2,ay,iN 1];let b22:ae:=.cells 95 (cy T1.R (vS T1.f 19 T1.vs.length T1.c) [Iv now] (v15) T1.e) false;let v23:Value:=.slice (some ⟨31,0,none⟩) 1 40;let v24:Value:=.slice (some ⟨27,0,none⟩) 1 40;let b25:ae:=.cells 95 (cy R (v17) [Iv now] (ay) (Int.ofNat 0)) false;let h0:Hp:=heapOf [o,.dead,b4,b1,b9,b4,b19,b6,b9,.cells 26 (dO R (v17)) false,b9,.dead,.dead,b12,(bv f (LtA.ab vs)),.dead,b25,b14,b6,.cells 3 [Iv R.last,Iv ob.num] false,.cells 181 [.int .u16 (wrapF .u16 R.last),.int .u16 (wrapF .u16 ob.num)] false,.cells 181 [.int .u16 (wrapF .u16 R.last)] false,.cells 181 [.int .u16 (wrapF .u16 ob.num)] false] aE;let h3:Hp:=heapOf [o,.dead,b4,b1,b9,b4,b19,b6,b9,.cells 26 (dO R (v17)) false,b9,.dead,.dead,b12,(bv f (LtA.ab vs)),.dead,b25,b14,b6] aE;let v26:Value:=.tuple #[v2,ay,Iv T1.e];(HT (j4 [.agg #[Iv R.me,Iv R.dest,.bool R.own.n,Iv R.own.t,Iv R.own.o,Iv R.own.r,Iv R.own.d,Iv R.own.i,vS f 0 vs.length c,.bool R.asked,.bool R.want,.bool R.heard,Iv R.last]]) (heapOf [o,.dead,b4,b1,b9,b4,b19,b6,b9,b4,b9] aE) (iN 0) [.dead]∧(((decide (now≥(Int.ofNat 0)))=true→((!(decide (now≤(Int.ofNat 4611686018427387903))))=true→Q (v21) [o] [] [])∧((!(decide (now≤(Int.ofNat 4611686018427387903))))=false→HT (nV [vS f 0 vs.length c,Iv id]) (heapOf [o,.dead,b4,b1,b9,b4,b19,b6,b9,b4,b9,.dead] aE) (.tuple #[cx y,.bool th]) [.dead]∧(((!th)=true→Q (.tuple #[v2,ay,iN 7]) [o] [] [])∧((!th)=false→(((gk ⟨0,(Int.ofNat 4),ob.dest,ob.h,ob.l,ob.num⟩) != (Int.ofNat 0))=true→Q (v21) [o] [] [])∧(((gk ⟨0,(Int.ofNat 4),ob.dest,ob.h,ob.l,ob.num⟩) != (Int.ofNat 0))=false→((ob.dest != R.dest)=true→Q (v21) [o] [] [])∧((ob.dest != R.dest)=false→((ob.h.i != id)=true→Q (v21) [o] [] [])∧((ob.h.i != id)=false→HT (gi [vS f 0 vs.length c]) (heapOf [o,.dead,b4,b1,b9,b4,b19,b6,b9,b4,b9,.dead,.dead,b12] aE) (v17) [(bv f (LtA.ab vs)),.dead]∧(((R.me==R.dest)=true→HE (KM [pb 16 0,Iv id,v8]) (h3) (.tuple #[]) ([.put 16 (b22)]++bL f 14++bL false 1 ++ [.push (b16),.push (b5),.push .dead])∧(((T1.e != (Int.ofNat 0))=true→(some (Iv T1.e):OV)=some (Iv T1.e)∧(Q (v26) [o] [] []))∧((T1.e != (Int.ofNat 0))=false→(some (v15):OV)=some (v15)∧(Q (.tuple #[.agg #[Iv T1.R.me,Iv T1.R.dest,.bool T1.R.own.n,Iv T1.R.own.t,Iv T1.R.own.o,Iv T1.R.own.r,Iv T1.R.own.d,Iv T1.R.own.i,vS T1.f 19 T1.vs.length T1.c,.bool T1.R.asked,.bool T1.R.want,.bool T1.R.heard,Iv T1.R.last],v15,iN 0]) [o] [19,20] [(b16),(b5)]))))∧((R.me==R.dest)=false→(R.heard=true→((decide ((wrapF .i64 (wrapF .u16 ((wrapF .u16 ob.num)-(wrapF .u16 R.last))))>(Int.ofNat 0)))=true→((!(decide ((wrapF .i64 (wrapF .u16 ((wrapF .u16 ob.num)-(wrapF .u16 R.last))))<(Int.ofNat 32768))))=true→HE (KM [pb 16 0,Iv id,v8]) (h0) (.tuple #[]) ([.put 16 (b11)]++bL f 14++bL false 1 ++ [.push (b16),.push (b5),.push .dead])∧(((T1.e != (Int.ofNat 0))=true→(some (Iv T1.e):OV)=some (Iv T1.e)∧(Q (v26) [o] [] []))∧((T1.e != (Int.ofNat 0))=false→(some (v7):OV)=some (v7)∧(Q (v10) [o] [23,24] [(b16),(b5)]))))∧((!(decide ((wrapF .i64 (wrapF .u16 ((wrapF .u16 ob.num)-(wrapF .u16 R.last))))<(Int.ofNat 32768))))=false→HT (pq [v17,Iv id,v20]) (h0) (.tuple #[vS true 23 u1.length cs,iN 0]) [(LtA.ab u1),.dead]∧((((cq false ((bA ob.h).1) ((bA ob.h).2.1) ((bA ob.h).2.2) (wrapF .i64 (ob.h.d+(Int.ofNat 1))) R.me) != (Int.ofNat 0))=true→(some (Iv ob.h.d):OV)=some (Iv ob.h.d)∧((some (Iv R.me):OV)=some (Iv R.me)∧((some (.bool ((cq false ((bA ob.h).1) ((bA ob.h).2.1) ((bA ob.h).2.2) (wrapF .i64 (ob.h.d+(Int.ofNat 1))) R.me) != (Int.ofNat 0))):OV)=some (.bool true)∧((some (.bool ((cq false ((bA ob.h).1) ((bA ob.h).2.1) ((bA ob.h).2.2) (wrapF .i64 (ob.h.d+(Int.ofNat 1))) R.me) != (Int.ofNat 0))):OV)=some (.bool true)∧((some (Iv (cq false ((bA ob.h).1) ((bA ob.h).2.1) ((bA ob.h).2.2) (wrapF .i64 (ob.h.d+(Int.ofNat 1))) R.me)):OV)=some (Iv (cq false ((bA ob.h).1) ((bA ob.h).2.1) ((bA ob.h).2.2) (wrapF .i64 (ob.h.d+(Int.ofNat 1))) R.me))∧(Q (v18) [o] [] []))))))∧(((cq false ((bA ob.h).1) ((bA ob.h).2.1) ((bA ob.h).2.2) (wrapF .i64 (ob.h.d+(Int.ofNat 1))) R.me) != (Int.ofNat 0))=false→(some (Iv ob.h.d):OV)=some (Iv ob.h.d)∧((some (Iv R.me):OV)=some (Iv R.me)∧((some (v23):OV)=some (v23)∧(Q (.tuple #[.agg #[Iv R.me,Iv R.dest,.bool false,Iv ((bA ob.h).1),Iv ((bA ob.h).2.1),Iv ((bA ob.h).2.2),Iv (wrapF .i64 (ob.h.d+(Int.ofNat 1))),Iv R.me,vS true 23 u1.length cs,.bool false,.bool R.want,.bool true,Iv ob.num],v23,iN 0]) [o] [23,31] [(LtA.ab u1),b13])))))))∧((decide ((wrapF .i64 (wrapF .u16 ((wrapF .u16 ob.num)-(wrapF .u16 R.last))))>(Int.ofNat 0)))=false→HE (KM [pb 16 0,Iv id,v8]) (h0) (.tuple #[]) ([.put 16 (b11)]++bL f 14++bL false 1 ++ [.push (b16),.push (b5),.push .dead])∧(((T1.e != (Int.ofNat 0))=true→(some (Iv T1.e):OV)=some (Iv T1.e)∧(Q (v26) [o] [] []))∧((T1.e != (Int.ofNat 0))=false→(some (v7):OV)=some (v7)∧(Q (v10) [o] [23,24] [(b16),(b5)])))))∧(R.heard=false→HT (pq [v17,Iv id,v20]) (h3) (.tuple #[vS true 19 u1.length cs,iN 0]) [(LtA.ab u1),.dead]∧((((cq false ((bA ob.h).1) ((bA ob.h).2.1) ((bA ob.h).2.2) (wrapF .i64 (ob.h.d+(Int.ofNat 1))) R.me) != (Int.ofNat 0))=true→(some (Iv ob.h.d):OV)=some (Iv ob.h.d)∧((some (Iv R.me):OV)=some (Iv R.me)∧((some (.bool ((cq false ((bA ob.h).1) ((bA ob.h).2.1) ((bA ob.h).2.2) (wrapF .i64 (ob.h.d+(Int.ofNat 1))) R.me) != (Int.ofNat 0))):OV)=some (.bool true)∧((some (.bool ((cq false ((bA ob.h).1) ((bA ob.h).2.1) ((bA ob.h).2.2) (wrapF .i64 (ob.h.d+(Int.ofNat 1))) R.me) != (Int.ofNat 0))):OV)=some (.bool true)∧((some (Iv (cq false ((bA ob.h).1) ((bA ob.h).2.1) ((bA ob.h).2.2) (wrapF .i64 (ob.h.d+(Int.ofNat 1))) R.me)):OV)=some (Iv (cq false ((bA ob.h).1) ((bA ob.h).2.1) ((bA ob.h).2.2) (wrapF .i64 (ob.h.d+(Int.ofNat 1))) R.me))∧(Q (v18) [o] [] []))))))∧(((cq false ((bA ob.h).1) ((bA ob.h).2.1) ((bA ob.h).2.2) (wrapF .i64 (ob.h.d+(Int.ofNat 1))) R.me) != (Int.ofNat 0))=false→(some (Iv ob.h.d):OV)=some (Iv ob.h.d)∧((some (Iv R.me):OV)=some (Iv R.me)∧((some (v24):OV)=some (v24)∧(Q (.tuple #[.agg #[Iv R.me,Iv R.dest,.bool false,Iv ((bA ob.h).1),Iv ((bA ob.h).2.1),Iv ((bA ob.h).2.2),Iv (wrapF .i64 (ob.h.d+(Int.ofNat 1))),Iv R.me,vS true 19 u1.length cs,.bool false,.bool R.want,.bool true,Iv ob.num],v24,iN 0]) [o] [19,27] [(LtA.ab u1),b13])))))))))))))))∧((decide (now≥(Int.ofNat 0)))=false→Q (v21) [o] [] [])))=RF Tryz.prog AD Tryz.f15 300 fL ⟨tmsOf [db R (vS f 0 vs.length c),.agg #[iN 2,Iv id,iN 4,Iv ob.dest,.bool ob.h.n,Iv ob.h.t,Iv ob.h.o,Iv ob.h.r,Iv ob.h.d,Iv ob.h.i,Iv ob.l.1,Iv ob.l.2.1,Iv ob.l.2.2,Iv ob.num,Iv now,Iv num]] 0 .leaf,heapOf [o,.dead] aE,[]⟩ (.h 39 (iN 0) [.dead] (.b 46 (.b 52 (.stop 1 [] []) (.h 60 (.tuple #[cx y,.bool th]) [.dead] (.b 77 (.stop 1 [] []) (.b 81 (.stop 1 [] []) (.b 87 (.stop 1 [] []) (.b 96 (.stop 1 [] []) (.h 106 (v17) [(bv f (LtA.ab vs)),.dead] (.b 153 (.e 160 (.tuple #[]) ([.put 16 (b22)]++bL f 14++bL false 1 ++ [.push (b16),.push (b5),.push .dead]) (.b 165 (.stop 1 [] []) (.stop 1 [19,20] []))) (.b 160 (.b 226 (.b 232 (.e 238 (.tuple #[]) ([.put 16 (b11)]++bL f 14++bL false 1 ++ [.push (b16),.push (b5),.push .dead]) (.b 243 (.stop 1 [] []) (.stop 1 [23,24] []))) (.h 245 (.tuple #[vS true 23 u1.length cs,iN 0]) [(LtA.ab u1),.dead] (.b 287 (.v 299 (.bool true) (.v 309 (.bool true) (.stop 1 [] []))) (.stop 1 [23,31] [])))) (.e 236 (.tuple #[]) ([.put 16 (b11)]++bL f 14++bL false 1 ++ [.push (b16),.push (b5),.push .dead]) (.b 241 (.stop 1 [] []) (.stop 1 [23,24] [])))) (.h 174 (.tuple #[vS true 19 u1.length cs,iN 0]) [(LtA.ab u1),.dead] (.b 216 (.v 228 (.bool true) (.v 238 (.bool true) (.stop 1 [] []))) (.stop 1 [19,27] [])))))))))))) (.stop 1 [] []))) Q:=by cases f <;> (rcases T1 with ⟨_,_,fT1,_,oT1,_⟩; cases fT1 <;> cases oT1) <;> (intros;kernel_rfl)
theorem WS(R:aw)(h0:R.own.id=0)(f:Bool)(vs:List aa)(hn:vs.length<1000000)(o:ae)(c:Nat)(W:bg)(X:eE)(ho:aB o=true)(hrow:vs = []∨∃ ty ro,o = .cells ty (aK vs) ro)(hfl:f=false→vs = []∧o = .dead)(call id now num:Int)(ob:aQ)(hok:iU R vs=true) :
  bj Tryz.prog 63 W 1 X fL ⟨tmsOf [db R (vS f 0 vs.length c),.agg #[iN 2,.int .i64 id,iN 4,.int .i64 ob.dest,.bool ob.h.n,.int .i64 ob.h.t,.int .i64 ob.h.o,.int .i64 ob.h.r,.int .i64 ob.h.d,.int .i64 ob.h.i,.int .i64 ob.l.1,.int .i64 ob.l.2.1,.int .i64 ob.l.2.2,.int .i64 ob.num,.int .i64 now,.int .i64 num]] 0 .leaf,heapOf [o,.dead] aE,[]⟩ (fE Tryz.prog Tryz.f15 (cJ o (fF R f vs id ⟨0,(Int.ofNat 4),ob.dest,ob.h,ob.l,ob.num⟩ now))):=by
 have T0:∀ {hp:Hp},hp.get 0=some o→TN vs (vS f 0 vs.length c) hp:=fun hg=>fD ho hrow hfl hg
 have hf0:f=false→vs = []∧c2 f=0:=fun h=>⟨(hfl h).1,by rw [h]; rfl⟩
 have hclone:∀ {hp:Hp},hp.get 0=some o→gi [vS f 0 vs.length c] hp=some (vS f hp.sz vs.length (c2 f),heapOf [bv f (LtA.ab vs),.dead] hp):=fun hg=>eT (T0 hg) hn fun h=>(hfl h).1
 have hget:∀ {hp:Hp},hp.get 0=some o→nV [vS f 0 vs.length c,.int .i64 id] hp=some (.tuple #[cx ((aG vs id).getD (zeroV 0)),.bool (aG vs id).isSome],heapOf [.dead] hp):=fun hg=>fy (T0 hg).tq hn
 have hck:∀ {hp:Hp},hp.get 0=some o→j4 [db R (vS f 0 vs.length c)] hp=some (.int .i64 (bif iU R vs then 0 else 1),heapOf [.dead] hp):=fun hg=>fz h0 (T0 hg) hn
 rw [hok] at hck;have hth:(aG vs id).isSome=(aG vs id).isSome:=rfl
 have hr:aF vs=true:=gG hok
 have hone:=fun h1 h2 h3=>qS (ob:=⟨0,(Int.ofNat 4),ob.dest,ob.h,ob.l,ob.num⟩) hr (.inr rfl) hth h1 h2 h3
 have hset:(!(aG vs id).isSome)=false→(gk ⟨0,(Int.ofNat 4),ob.dest,ob.h,ob.l,ob.num⟩ != Int.ofNat 0)=false→(ob.h.i != id)=false→∀ {hp:Hp} {b:Nat},hp.get b=some (bv f (LtA.ab vs))→pq [vS f b vs.length (c2 f),.int .i64 id,cx ob.h] hp=some (.tuple #[vS true hp.sz (cG vs (aZ id ob.h)).length (bif f then (bif fnd vs id then 22 else 23) else 22),iN 0],heapOf [LtA.ab (cG vs (aZ id ob.h)),.dead] hp):=fun h1 h2 h3 hp b hg=>by
  have:=tw (aZ id ob.h) (nN (c:=c2 f) hg fun h=>(hf0 h).1) (hone h1 h2 h3)
  rw [uJ] at this;exact this
 unfold fF;simp only [eH,TS.kv,TS.opt,TS.set,show (aZ id ob.h).id=id from rfl]
 generalize cG vs (aZ id ob.h)=u1 at *;generalize (bif f then (bif fnd vs id then 22 else 23) else 22)=cs at *
 generalize (aG vs id).getD (zeroV 0)=y at *;generalize hth:(aG vs id).isSome=th at *;obtain ⟨T1,hT1⟩:∃ T,((⟨R,vs,f,(c2 f),[],(Int.ofNat 0)⟩:TS).xw (aZ id ob.h) now)=T:=⟨_,rfl⟩;refine bj.cD gh follows B0 (KW f th o vs u1 c cs R call id now num ob y T1 _) ?_
 refine ⟨hck (bl rfl),fun h_46=>⟨fun h_52=>cJ.fw ((Int.ofNat 1)) ?_,fun h_52=>⟨hget (bl rfl),fun h_77=>cJ.fw ((Int.ofNat 7)) ?_,fun h_77=>⟨fun h_81=>cJ.fw ((Int.ofNat 1)) ?_,fun h_81=>⟨fun h_87=>cJ.fw ((Int.ofNat 1)) ?_,fun h_87=>⟨fun h_96=>cJ.fw ((Int.ofNat 1)) ?_,fun h_96=>⟨hclone (bl rfl),fun h_153=>⟨tx (ob:=⟨0,(Int.ofNat 4),ob.dest,ob.h,ob.l,ob.num⟩) (frm:=id) (hone h_77 h_81 h_96) hT1 h0 (bl rfl) (bl rfl) hf0 (bl rfl) (fun _=>⟨rfl,rfl⟩) rfl rfl (by decide) hn,fun h_165=>⟨rfl,cJ.fw (T1.e) ?_⟩,fun h_165=>⟨rfl,cJ.sP (T':=(⟨T1.R,T1.vs,T1.f,T1.c,T1.out,(Int.ofNat 0)⟩:TS)) (f2:=(false||oF T1.out)) (n2:=(0+T1.out.length)) (L2:=([]++T1.out.flatMap oc)) (by first | rfl | (simp; done)) (by first | rfl | (simp; done) | (simp; omega)) (by first | rfl | (simp [oF]; done)) ⟨rfl,19,20,rfl,rfl,fun _ _=>by decide,fun _=>⟨rfl,0,rfl,rfl⟩,fun _=>⟨rfl,1,rfl,rfl⟩⟩ ?_⟩⟩,fun h_153=>⟨fun h_160=>⟨fun h_226=>⟨fun h_232=>⟨tx (ob:=⟨0,(Int.ofNat 4),ob.dest,ob.h,ob.l,ob.num⟩) (frm:=id) (hone h_77 h_81 h_96) hT1 h0 (bl rfl) (bl rfl) hf0 (bl rfl) (fun _=>⟨rfl,rfl⟩) rfl rfl (by decide) hn,fun h_243=>⟨rfl,cJ.fw (T1.e) ?_⟩,fun h_243=>⟨rfl,cJ.sP (T':=(⟨T1.R,T1.vs,T1.f,T1.c,T1.out,(Int.ofNat 0)⟩:TS)) (f2:=(false||oF T1.out)) (n2:=(0+T1.out.length)) (L2:=([]++T1.out.flatMap oc)) (by first | rfl | (simp; done)) (by first | rfl | (simp; done) | (simp; omega)) (by first | rfl | (simp [oF]; done)) ⟨rfl,23,24,rfl,rfl,fun _ _=>by decide,fun _=>⟨rfl,0,rfl,rfl⟩,fun _=>⟨rfl,1,rfl,rfl⟩⟩ ?_⟩⟩,fun h_232=>⟨hset h_77 h_81 h_96 (bl rfl),fun h_287=>⟨rfl,rfl,aS h_287,aS h_287,rfl,cJ.fw ((cq false ((bA ob.h).1) ((bA ob.h).2.1) ((bA ob.h).2.2) (wrapF .i64 (ob.h.d+(Int.ofNat 1))) R.me)) ?_⟩,fun h_287=>⟨rfl,rfl,rfl,cJ.sP (T':=(⟨⟨R.me,R.dest,(⟨0,false,((bA ob.h).1),((bA ob.h).2.1),((bA ob.h).2.2),(wrapF .i64 (ob.h.d+(Int.ofNat 1))),R.me⟩:aa),false,R.want,true,ob.num⟩,u1,true,cs,[⟨(Int.ofNat 255),(Int.ofNat 4),R.dest,(⟨0,false,((bA ob.h).1),((bA ob.h).2.1),((bA ob.h).2.2),(wrapF .i64 (ob.h.d+(Int.ofNat 1))),R.me⟩:aa),zL,ob.num⟩],(Int.ofNat 0)⟩:TS)) (f2:=true) (n2:=1) (L2:=([⟨(Int.ofNat 255),(Int.ofNat 4),R.dest,(⟨0,false,((bA ob.h).1),((bA ob.h).2.1),((bA ob.h).2.2),(wrapF .i64 (ob.h.d+(Int.ofNat 1))),R.me⟩:aa),zL,ob.num⟩].flatMap oc)) (by first | rfl | (simp; done)) (by first | rfl | (simp; done) | (simp; omega)) (by first | rfl | (simp [oF]; done)) ⟨rfl,23,31,rfl,rfl,fun _ _=>by decide,fun _=>⟨rfl,0,rfl,rfl⟩,fun _=>⟨rfl,1,rfl,rfl⟩⟩ ?_⟩⟩⟩,fun h_226=>⟨tx (ob:=⟨0,(Int.ofNat 4),ob.dest,ob.h,ob.l,ob.num⟩) (frm:=id) (hone h_77 h_81 h_96) hT1 h0 (bl rfl) (bl rfl) hf0 (bl rfl) (fun _=>⟨rfl,rfl⟩) rfl rfl (by decide) hn,fun h_241=>⟨rfl,cJ.fw (T1.e) ?_⟩,fun h_241=>⟨rfl,cJ.sP (T':=(⟨T1.R,T1.vs,T1.f,T1.c,T1.out,(Int.ofNat 0)⟩:TS)) (f2:=(false||oF T1.out)) (n2:=(0+T1.out.length)) (L2:=([]++T1.out.flatMap oc)) (by first | rfl | (simp; done)) (by first | rfl | (simp; done) | (simp; omega)) (by first | rfl | (simp [oF]; done)) ⟨rfl,23,24,rfl,rfl,fun _ _=>by decide,fun _=>⟨rfl,0,rfl,rfl⟩,fun _=>⟨rfl,1,rfl,rfl⟩⟩ ?_⟩⟩⟩,fun h_160=>⟨hset h_77 h_81 h_96 (bl rfl),fun h_216=>⟨rfl,rfl,aS h_216,aS h_216,rfl,cJ.fw ((cq false ((bA ob.h).1) ((bA ob.h).2.1) ((bA ob.h).2.2) (wrapF .i64 (ob.h.d+(Int.ofNat 1))) R.me)) ?_⟩,fun h_216=>⟨rfl,rfl,rfl,cJ.sP (T':=(⟨⟨R.me,R.dest,(⟨0,false,((bA ob.h).1),((bA ob.h).2.1),((bA ob.h).2.2),(wrapF .i64 (ob.h.d+(Int.ofNat 1))),R.me⟩:aa),false,R.want,true,ob.num⟩,u1,true,cs,[⟨(Int.ofNat 255),(Int.ofNat 4),R.dest,(⟨0,false,((bA ob.h).1),((bA ob.h).2.1),((bA ob.h).2.2),(wrapF .i64 (ob.h.d+(Int.ofNat 1))),R.me⟩:aa),zL,ob.num⟩],(Int.ofNat 0)⟩:TS)) (f2:=true) (n2:=1) (L2:=([⟨(Int.ofNat 255),(Int.ofNat 4),R.dest,(⟨0,false,((bA ob.h).1),((bA ob.h).2.1),((bA ob.h).2.2),(wrapF .i64 (ob.h.d+(Int.ofNat 1))),R.me⟩:aa),zL,ob.num⟩].flatMap oc)) (by first | rfl | (simp; done)) (by first | rfl | (simp; done) | (simp; omega)) (by first | rfl | (simp [oF]; done)) ⟨rfl,19,27,rfl,rfl,fun _ _=>by decide,fun _=>⟨rfl,0,rfl,rfl⟩,fun _=>⟨rfl,1,rfl,rfl⟩⟩ ?_⟩⟩⟩⟩⟩⟩⟩⟩⟩,fun h_46=>cJ.fw ((Int.ofNat 1)) ?_⟩
 all_goals (clear hck hget hclone T0 ho hrow hfl hf0; clear hone hset; (try simp only [ez,Bool.not_eq_true',Bool.not_eq_false'] at *); (try simp only [MR,MS,MT,MU,Gy,Qg,Qh,Qi,Qj,Qk,Ql,Qm,Qn,Qo,Qp,Qq,eQ,TS.kv,TS.opt,TS.fresh,TS.Br,TS.iI,TS.qB,TS.own,TS.ask,TS.err,TS.send,TS.home,qI,ez, *,nX]); first | done | rfl | (refine Eq.trans ?_ (congrArg c7 hT1).symm; simp only [c7, *,nX]; first | done | rfl) | (simp only [c7, *,nX]; first | done | rfl))
set_option maxHeartbeats 4000000
def Xh(p:mE):List Value:=[.int .i64 p.call,.int .i64 p.id,.int .i64 p.ob.kind,.int .i64 p.ob.dest,.bool p.ob.h.n,.int .i64 p.ob.h.t,.int .i64 p.ob.h.o,.int .i64 p.ob.h.r,.int .i64 p.ob.h.d,.int .i64 p.ob.h.i,.int .i64 p.ob.l.1,.int .i64 p.ob.l.2.1,.int .i64 p.ob.l.2.2,.int .i64 p.ob.num,.int .i64 p.now,.int .i64 p.num]
def sh(p:mE):Value:=.agg (Xh p).toArray
def unP:Value→Option mE
 | .agg cs=>match cs.toList with
   | [.int .i64 call,.int .i64 id,.int .i64 k,.int .i64 dd,.bool n,.int .i64 t,.int .i64 o,.int .i64 r,.int .i64 d,.int .i64 i,.int .i64 a,.int .i64 b,.int .i64 c,.int .i64 q,.int .i64 now,.int .i64 num]=>some ⟨call,id,⟨0,k,dd,⟨0,n,t,o,r,d,i⟩,(a,b,c),q⟩,now,num⟩
   | _=>none
 | _=>none
theorem Ge{v:Value}{p:mE}(h:unP v=some p):v=sh p∧p.ob.to=0:=by
 unfold unP at h;split at h
 ·rename_i cs
  split at h
  ·rename_i hcs
   cases h;obtain rfl:=cO hcs;exact ⟨rfl,rfl⟩
  ·cases h
 ·cases h
def AK(p:mE):Prop:=p.ob.to=0∧p.ob.h.id=0
theorem Jd{p:mE}(h:AK p):unP (sh p)=some p:=by
 obtain ⟨call,id,⟨to,k,dd,⟨hid,n,t,o,r,d,i⟩,⟨a,b,c⟩,q⟩,now,num⟩:=p;obtain ⟨h1,h2⟩:=h;simp only at h1 h2;subst h1 h2;rfl
theorem FQ(p:mE):fG (sh p):=⟨rfl,fun _=>by simp [mv3,mv2,mv1,sh,Xh]⟩
def stepA:aw→Bool→List aa→List Value→Option TS:=fun R f vs rest=>match rest with
 | [v]=>(unP v).map (cp R f vs)
 | _=>none
theorem IZ(R:aw)(f:Bool)(vs:List aa)(id:Int)(ob:aQ)(now num:Int):l5 R f vs ⟨Int.ofNat 2,id,ob,now,num⟩=fF R f vs id ob now:=rfl
theorem Ii{ob:aQ}(h1:(ob.kind==Int.ofNat 1)=false)(h2:(ob.kind==Int.ofNat 2)=false)(h3:(ob.kind==Int.ofNat 3)=false)(h4:(ob.kind==Int.ofNat 4)=false):(gk ob != Int.ofNat 0)=true:=by
 rw [ez];unfold jC;rw [h1,h2,h3,h4];simp
theorem R6(R:aw)(f:Bool)(vs:List aa)(h0:R.own.id=0)(hn:vs.length<1000000):∀ rest T,stepA R f vs rest=some T→RunT Tryz.f15 fL 63 R f vs rest T:=fun rest T h=>by
 unfold stepA at h;split at h
 case h_2=>cases h
 rename_i v;obtain ⟨p,hp,h2⟩:=Option.map_eq_some_iff.1 h;obtain ⟨rfl,hto⟩:=Ge hp;cases h2;refine ⟨(by intro x hx; simp at hx; subst hx; exact FQ _),by simp,fun o c W X ho hrow hfl=>?_⟩
 obtain ⟨call,id,⟨to,kind,dd,hh,ll,q⟩,now,num⟩:=p;simp only at hto;subst hto;unfold cp;cases hok:iU R vs with
 | false=>exact Yo R h0 f vs hn o c W X ho hrow hfl call id now num ⟨0,kind,dd,hh,ll,q⟩ hok
 | true =>
 rw [cond_true];cases hc0:(call==Int.ofNat 0) with
 | true=>obtain rfl:=eq_of_beq hc0; exact Yr R h0 f vs hn o c W X ho hrow hfl (Int.ofNat 0) id now num ⟨0,kind,dd,hh,ll,q⟩ hok
 | false =>
 cases hc1:(call==Int.ofNat 1) with
 | true =>
   obtain rfl:=eq_of_beq hc1;cases hfd:fnd vs id with
   | true=>exact Yn R h0 f vs hn o c W X ho hrow hfl (Int.ofNat 1) id now num ⟨0,kind,dd,hh,ll,q⟩ hok hfd
   | false=>exact WN R h0 f vs hn o c W X ho hrow hfl (Int.ofNat 1) id now num ⟨0,kind,dd,hh,ll,q⟩ hok hfd
 | false =>
 cases hc2:(call==Int.ofNat 2) with
 | true =>
   obtain rfl:=eq_of_beq hc2;rw [IZ];cases k1:(kind==Int.ofNat 1) with
   | true=>obtain rfl:=eq_of_beq k1; exact WO R h0 f vs hn o c W X ho hrow hfl (Int.ofNat 2) id now num ⟨0,0,dd,hh,ll,q⟩ hok
   | false =>
   cases k2:(kind==Int.ofNat 2) with
   | true=>obtain rfl:=eq_of_beq k2; exact WQ R h0 f vs hn o c W X ho hrow hfl (Int.ofNat 2) id now num ⟨0,0,dd,hh,ll,q⟩ hok
   | false =>
   cases k3:(kind==Int.ofNat 3) with
   | true=>obtain rfl:=eq_of_beq k3; exact WR R h0 f vs hn o c W X ho hrow hfl (Int.ofNat 2) id now num ⟨0,0,dd,hh,ll,q⟩ hok
   | false =>
   cases k4:(kind==Int.ofNat 4) with
   | true=>obtain rfl:=eq_of_beq k4; exact WS R h0 f vs hn o c W X ho hrow hfl (Int.ofNat 2) id now num ⟨0,0,dd,hh,ll,q⟩ hok
   | false=>exact WT R h0 f vs hn o c W X ho hrow hfl (Int.ofNat 2) id now num ⟨0,kind,dd,hh,ll,q⟩ hok (Ii k1 k2 k3 k4)
 | false =>
 cases hc3:(call==Int.ofNat 3) with
 | true=>obtain rfl:=eq_of_beq hc3; exact Ys R h0 f vs hn o c W X ho hrow hfl (Int.ofNat 3) id now num ⟨0,kind,dd,hh,ll,q⟩ hok
 | false =>
 cases hc4:(call==Int.ofNat 4) with
 | true=>obtain rfl:=eq_of_beq hc4; exact Yp R h0 f vs hn o c W X ho hrow hfl (Int.ofNat 4) id now num ⟨0,kind,dd,hh,ll,q⟩ hok
 | false =>
 have e:l5 R f vs ⟨call,id,⟨0,kind,dd,hh,ll,q⟩,now,num⟩=lW R f vs num:=by
  unfold l5;simp only [hc0,hc1,hc2,hc3,hc4,cond_false]
 rw [e];exact Yq R h0 f vs hn o c W X ho hrow hfl call id now num ⟨0,kind,dd,hh,ll,q⟩ hok hc0 hc1 hc2 hc3 hc4
noncomputable def Cp:aD:=toldT stepA
theorem MP:ax Tryz.prog 15 Cp:=y5 Tryz.func15 Lw (by kernel_rfl) UY R6
theorem xM{R:aw}{f:Bool}{vs:List aa}{b c:Nat}{p:mE}{hp:Hp}(h0:R.own.id=0)(hpk:AK p)(h:TN vs (vS f b vs.length c) hp)(hn:vs.length<1000000) :
  Cp [db R (vS f b vs.length c),sh p] hp=some (px (cp R f vs p) hp.sz (hp.sz+1),heapOf [bv (cp R f vs p).f (LtA.ab (cp R f vs p).vs),bv (oF (cp R f vs p).out) (cr (cp R f vs p).out),.dead] hp) :=
 F8 h0 pX h hn (by unfold stepA; simp only [Jd hpk]; rfl)
def gAw20:List Value→Option Value
 | []=>some (.bool true)
 | _=>none
theorem vk:(aCall Tryz.prog (extOf Tryz.prog) 80 19 [] aE).map (·.1)=some (.bool true):=by kernel_rfl
theorem yn:bK Tryz.prog 19 gAw20:=dj (ext:=extOf Tryz.prog) (vJ _) follows Tryz.func19 (by kernel_rfl) fun args v h=>by
 unfold gAw20 at h;split at h
 ·cases h
  obtain ⟨⟨v,hp⟩,h1,h2⟩:=Option.map_eq_some_iff.1 vk;simp only at h2;subst h2;exact ⟨rfl,rfl,80,hp,h1⟩
 ·cases h
end Go.Proofs.YtgeoommlmddgpaaGreat.LtL
namespace Go.Proofs.YtgeoommlmddgpaaGreat.LtL
open Go Go.Proofs Go.Proofs.YtgeoommlmddgpaaGreat.AI Go.RowKit Go.ChangeShapes Go.Proofs.YtgeoommlmddgpaaGreat.LtA Go.Proofs.YtgeoommlmddgpaaGreat.Sort
theorem Gb:Tryz.prog.cellTypes Tryz.prog.depth 26=some [3,3,4,3,3,3,3,3,24,4,4,4,3]:=by kernel_rfl
theorem Dm:Tryz.prog.cellsOf 26=13:=by kernel_rfl
theorem Ga:Tryz.prog.cellTypes Tryz.prog.depth 32=some [3,3,3,3,4,3,3,3,3,3,3,3,3,3,3,3]:=by kernel_rfl
theorem Dl:Tryz.prog.cellsOf 32=16:=by kernel_rfl
theorem Dn:Tryz.prog.cellsOf 24=1:=by kernel_rfl
theorem uv{w:World}{r:Reach}{base:Nat}{v:Value}(h:Value.okWide Tryz.prog w r base 32 v):∃ p:mE,AK p∧v=sh p:=by
 obtain ⟨cs,rfl,hs,hc⟩:=pa Tryz.underlying32 Ga Dl h;obtain ⟨l⟩:=cs;match l,hs with
 | [x0,x1,x2,x3,x4,x5,x6,x7,x8,x9,x10,x11,x12,x13,x14,x15],_ =>
   obtain ⟨call,rfl,_⟩:=bm Tryz.underlying3 (hc 0 3 x0 rfl rfl);obtain ⟨id,rfl,_⟩:=bm Tryz.underlying3 (hc 1 3 x1 rfl rfl);obtain ⟨k,rfl,_⟩:=bm Tryz.underlying3 (hc 2 3 x2 rfl rfl);obtain ⟨dd,rfl,_⟩:=bm Tryz.underlying3 (hc 3 3 x3 rfl rfl);obtain ⟨n,rfl⟩:=gT Tryz.underlying4 (hc 4 4 x4 rfl rfl);obtain ⟨t,rfl,_⟩:=bm Tryz.underlying3 (hc 5 3 x5 rfl rfl);obtain ⟨o,rfl,_⟩:=bm Tryz.underlying3 (hc 6 3 x6 rfl rfl);obtain ⟨r,rfl,_⟩:=bm Tryz.underlying3 (hc 7 3 x7 rfl rfl);obtain ⟨d,rfl,_⟩:=bm Tryz.underlying3 (hc 8 3 x8 rfl rfl);obtain ⟨i,rfl,_⟩:=bm Tryz.underlying3 (hc 9 3 x9 rfl rfl);obtain ⟨la,rfl,_⟩:=bm Tryz.underlying3 (hc 10 3 x10 rfl rfl);obtain ⟨lb,rfl,_⟩:=bm Tryz.underlying3 (hc 11 3 x11 rfl rfl);obtain ⟨lc,rfl,_⟩:=bm Tryz.underlying3 (hc 12 3 x12 rfl rfl);obtain ⟨q,rfl,_⟩:=bm Tryz.underlying3 (hc 13 3 x13 rfl rfl);obtain ⟨now,rfl,_⟩:=bm Tryz.underlying3 (hc 14 3 x14 rfl rfl);obtain ⟨num,rfl,_⟩:=bm Tryz.underlying3 (hc 15 3 x15 rfl rfl);exact ⟨⟨call,id,⟨0,k,dd,⟨0,n,t,o,r,d,i⟩,(la,lb,lc),q⟩,now,num⟩,⟨rfl,rfl⟩,rfl⟩
theorem mq{H:Type}{enc:TypeId×Value→H}{W:World}{base:Nat}{v:Value}{d:DataW H}{p:List MemPlace}(h:Value.okWide Tryz.prog W .any base 26 v)(hT:∃ fuel,DataW.trod enc Tryz.prog W 0 (fun _=>true) true fuel 26 v.cells.toList=some (d,p)) :
  ∃ (R:aw) (f:Bool) (o:ae) (vs:List aa) (m:BM),R.own.id=0∧aB o=true∧cg m (heapOf [o,.dead] aE).get W∧(∀ b,rw? (heapOf [o,.dead] aE).get b=false)∧ak m (heapOf [o,.dead] aE).get (db R (vS f 0 vs.length 2)) v ∧
    (vs = []∨∃ ty ro,o = .cells ty (aK vs) ro)∧(f=false→vs = []∧o = .dead):=by
 obtain ⟨cs,rfl,hs,hc⟩:=pa Tryz.underlying26 Gb Dm h;obtain ⟨l⟩:=cs;match l,hs with
 | [x0,x1,x2,x3,x4,x5,x6,x7,x8,x9,x10,x11,x12],_ =>
   obtain ⟨me,rfl,_⟩:=bm Tryz.underlying3 (hc 0 3 x0 rfl rfl);obtain ⟨dest,rfl,_⟩:=bm Tryz.underlying3 (hc 1 3 x1 rfl rfl);obtain ⟨n,rfl⟩:=gT Tryz.underlying4 (hc 2 4 x2 rfl rfl);obtain ⟨t,rfl,_⟩:=bm Tryz.underlying3 (hc 3 3 x3 rfl rfl);obtain ⟨o,rfl,_⟩:=bm Tryz.underlying3 (hc 4 3 x4 rfl rfl);obtain ⟨r,rfl,_⟩:=bm Tryz.underlying3 (hc 5 3 x5 rfl rfl);obtain ⟨dq,rfl,_⟩:=bm Tryz.underlying3 (hc 6 3 x6 rfl rfl);obtain ⟨i,rfl,_⟩:=bm Tryz.underlying3 (hc 7 3 x7 rfl rfl);obtain ⟨a,rfl⟩:=gT Tryz.underlying4 (hc 9 4 x9 rfl rfl);obtain ⟨w,rfl⟩:=gT Tryz.underlying4 (hc 10 4 x10 rfl rfl);obtain ⟨hd,rfl⟩:=gT Tryz.underlying4 (hc 11 4 x11 rfl rfl);obtain ⟨l,rfl,_⟩:=bm Tryz.underlying3 (hc 12 3 x12 rfl rfl);obtain ⟨fuel,hT⟩:=hT;have hT':DataW.trod enc Tryz.prog W 0 (fun _=>true) true fuel 26 [.int .i64 me,.int .i64 dest,.bool n,.int .i64 t,.int .i64 o,.int .i64 r,.int .i64 dq,.int .i64 i,x8,.bool a,.bool w,.bool hd,.int .i64 l]=some (d,p):=by simpa [Value.cells] using hT
   obtain ⟨-,hf⟩:=mD Tryz.underlying26 hT';obtain ⟨n8,y8,k8⟩:=hf 3 _ rfl;have k8':DataW.trod enc Tryz.prog W 0 (fun _=>true) true n8 24 [x8]=some y8:=by simpa [Dn] using k8
   have hv8:Value.okWide Tryz.prog W .any base 24 x8:=by
     have:=hc 8 24 x8 rfl rfl
     unfold Value.okWide;rw [Tryz.underlying24];exact this
   have hc1:x8.cells.toList = [x8]:=by
     rcases rP Tryz.underlying24 hv8 with rfl | ⟨r,off,n,c,rfl,hn⟩ <;> rfl
   obtain ⟨f,ob,vs,m,hi,sim,ro,rv,-,hrow,hfl⟩:=Fp hv8 ⟨n8,by rw [hc1]; exact k8'⟩
   refine ⟨⟨me,dest,⟨0,n,t,o,r,dq,i⟩,a,w,hd,l⟩,f,ob,vs,m,rfl,hi,sim,ro,?_,hrow,hfl⟩
   refine .agg rfl fun j u u' q1 q2=>?_
   simp only [dO,List.getElem?_toArray] at q1 q2
   match j with
   | 0 | 1 | 2 | 3 | 4 | 5 | 6 | 7 | 9 | 10 | 11 | 12=>simp at q1 q2; subst q1; subst q2; exact .flat rfl
   | 8=>simp at q1 q2; subst q1; subst q2; exact rv
   | j+13=>simp at q1
theorem se{b n i:Nat}(h:i<n):fstV ((aIndexAddr Tryz.prog 34 (vS true b n 40) (iN i)).map fun v=>(v,none))=some (pb b (i*13)):=by
 have h1:(0:Int)≤Int.ofNat i∧Int.ofNat i<(n:Int):=⟨Int.natCast_nonneg i,by simpa using h⟩
 have hz:bZ Tryz.prog 50=some 13:=by kernel_rfl
 simp only [aIndexAddr,iN,vS,af,cond_true,Tryz.underlying34,hz];rw [if_pos h1];simp [fstV,pb]
theorem U3{us:List aQ}{i:Nat}{x:aQ}(k:Nat)(h:us[i]? = some x)(hk:k<13):(us.flatMap oc)[i*13+k]? = (oc x)[k]?:=eK oc 13 us (fun _ _=>rfl) i k x h hk
theorem Ak{hp:Hp}{b:Nat}{us:List aQ}{i:Nat}{x:aQ}(k:Nat){v:Value}(hg:hp.get b=some (cr us))(h:us[i]? = some x)(hk:k<13)(hv:(oc x)[k]? = some v):aLoad Tryz.prog hp.get 3 (pb b (i*13+k))=some v:=by
 simp only [aLoad,pb,hg,cr,Jz,yL];rw [U3 k h hk,hv];all_goals rfl
theorem uu{hp:Hp}{b:Nat}{us:List aQ}{i:Nat}{x:aQ}(hg:hp.get b=some (cr us))(h:us[i]? = some x):aLoad Tryz.prog hp.get 3 (pb b (i*13))=some (.int .i64 x.to):=Ak 0 hg h (by decide) rfl
def Tc:Value→List ae→List Nat→List ae→Prop:=fun v _ _ _=>v = .bool true
theorem bG{v:Value}{O:List ae}{K:List Nat}{Nw:List ae}(h:v = .bool true):Tc v O K Nw:=h
end Go.Proofs.YtgeoommlmddgpaaGreat.LtL
namespace Go.Proofs.YtgeoommlmddgpaaGreat.LtL
open Go Go.Proofs Go.Proofs.YtgeoommlmddgpaaGreat.AI Go.RowKit Go.Proofs.YtgeoommlmddgpaaGreat.Sort Go.Proofs.YtgeoommlmddgpaaGreat.LtA
def AR(x:aQ):Bool:=(x.kind==Int.ofNat 1)&&(x.to==Int.ofNat 255)
def eJ(us:List aQ):Nat:=(us.filter AR).length
theorem jf(us vs:List aQ):eJ (us++vs)=eJ us+eJ vs:=by unfold eJ; rw [List.filter_append,List.length_append]
theorem Px{t o r d i:Int}:(JF t o r d i).1.n=false∧(JF t o r d i).1.id=0:=by unfold JF; cases dU false t o r d i <;> exact ⟨rfl,rfl⟩
theorem vh(me:Int)(vs:List aa):(bH me vs).1.n=false∧(bH me vs).1.id=0:=by
 unfold bH;cases aF vs
 ·exact ⟨rfl,rfl⟩
 simp only [Bool.not_true,cond_false];cases dU false (Int.ofNat 0) (Int.ofNat 0) (Int.ofNat 0) (Int.ofNat 0) me
 ·exact ⟨rfl,rfl⟩
 simp only [Bool.not_true,cond_false];cases (eN vs).2
 ·exact ⟨rfl,rfl⟩
 exact Px
namespace TS
def Wn(T:TS):Prop:=T.R.want=true→T.R.own.n=true→T.R.asked=true
def As(a:Bool)(T:TS):Prop:=eJ T.out=0∨(eJ T.out=1∧T.R.asked=true∧a=false)
def WA(a:Bool)(T:TS):Prop:=As a T∧(T.e=0→Wn T)
theorem uI{T:TS}{a:Bool}(h:eJ T.out=0)(ha:T.R.asked=a):WA a T.fC:=by
 obtain ⟨⟨me,dest,own,asked,want,heard,last⟩,vs,f,c,out,e⟩:=T;simp only at h ha;subst ha;have hn:=(vh me vs).1
 simp only [fC,pe];generalize bH me vs=q at *;cases h0:(q.2==Int.ofNat 0) with
 | true =>
   refine ⟨.inl ?_,fun _ _ h=>?_⟩
   ·show eJ (out++_)=0
    rw [jf,h]; rfl
   ·have h':q.1.n=true:=h
    rw [hn] at h'; cases h'
 | false =>
 simp only [cond_false];cases h7:(q.2==Int.ofNat 7) with
 | true =>
   simp only [cond_true];cases asked with
   | true=>exact ⟨.inl h,fun _ _ _=>rfl⟩
   | false =>
     refine ⟨.inr ⟨?_,rfl,rfl⟩,fun _ _ _=>rfl⟩
     show eJ (out++_)=1
     rw [jf,h]; rfl
 | false =>
   refine ⟨.inl h,fun he=>?_⟩
   have:q.2=0:=he
   rw [this] at h0;exact absurd h0 (by decide)
theorem ln{T:TS}{a:Bool}(h:eJ T.out=0)(ha:T.R.asked=a)(hh:T.home=false):WA a T.dv:=by
 unfold dv;cases hc:(T.R.own.n&&(T.R.want&&(!T.R.asked && !T.home))) with
 | true=>exact uI h ha
 | false =>
   simp only [cond_false];refine ⟨.inl h,fun _ hw hn=>?_⟩
   have hc':(T.R.own.n&&(T.R.want&&(!T.R.asked && !T.home)))=false:=hc
   rw [hn,hw,hh] at hc';simpa using hc'
theorem rH(T:TS)(h:eJ T.out=0)(to:Int):eJ (T.tell to).out=0:=by
 show eJ (T.out++_)=0
 rw [jf,h]; rfl
theorem su(T:TS)(h:eJ T.out=0)(to:Int)(l:aU):eJ (T.clear to l).out=0:=by
 show eJ (T.out++_)=0
 rw [jf,h]; rfl
theorem zU{T:TS}{a:Bool}{now:Int}{lost:Bool}(h:eJ T.out=0)(ha:T.R.asked=a)(hh:T.home=false)(hn:T.R.own.n=false):WA a (T.keep now lost):=by
 unfold keep;rw [hh,hn];simp only [Bool.or_self,cond_false];generalize bM T.R.own T.vs now lost=r;unfold qG;cases h1:(r.2.2 != Int.ofNat 0) with
 | true =>
   refine ⟨.inl h,fun he=>?_⟩
   have:r.2.2=0:=he
   rw [this] at h1;exact absurd h1 (by decide)
 | false =>
 simp only [cond_false];cases (r.2.1==Int.ofNat 0) with
 | true=>exact ⟨.inl h,fun _ _ hn'=>by rw [cond_true] at hn'; rw [hn] at hn'; cases hn'⟩
 | false =>
 simp only [cond_false];cases (r.2.1==Int.ofNat 4) with
 | true=>exact ln (su (((T.own r.1).tell 255).forget T.ov) (rH (T.own r.1) h _) _ _) ha hh
 | false=>exact ln (rH (T.own r.1) h _) ha hh
theorem Ab{T:TS}{a:Bool}{now:Int}(h:eJ T.out=0)(ha:T.R.asked=a)(hh:T.home=false):WA a (T.nj now):=by
 unfold nj;cases hn:T.R.own.n with
 | true=>exact ln h ha hh
 | false=>exact zU h ha hh hn
theorem Gk{T:TS}{a:Bool}{y:aa}{now:Int}(h:eJ T.out=0)(ha:T.R.asked=a)(hh:T.home=false):WA a (T.xw y now):=by
 unfold xw;have hh':(T.set y).home=false:=hh
 rw [hh',cond_false];cases hn:(T.set y).R.own.n with
 | false=>exact zU h ha hh hn
 | true =>
   simp only [Bool.not_true,cond_false];cases (T.set y).R.asked with
   | true=>exact uI h ha
   | false=>exact ln h ha hh
theorem yb(ids:List Int)(dest:Int)(l:aU):eJ (ids.map (uZ dest l))=0:=by
 unfold eJ;rw [List.length_eq_zero_iff,List.filter_eq_nil_iff];intro x hx;obtain ⟨id,-,rfl⟩:=List.mem_map.1 hx;simp [AR,uZ]
theorem Ml{T:TS}{a:Bool}{ob:aQ}{now:Int}(h:eJ T.out=0)(ha:T.R.asked=a)(hh:T.home=false):WA a (T.yc ob now):=by
 unfold yc;cases (!T.home&&(!T.R.own.n&&(bA T.R.own==ob.l))) with
 | true=>exact ln (su _ h _ _) ha hh
 | false =>
   refine Ab ?_ ha hh
   show eJ (T.out++_)=0
   rw [jf,h,yb]
theorem DZ{T:TS}{a:Bool}{ob:aQ}{c:Int}{h':aa}(h:eJ T.out=0)(hn:h'.n=false):WA a (T.fresh ob c h'):=by
 unfold fresh;cases hc:(c != Int.ofNat 0) with
 | true =>
   refine ⟨.inl h,fun he=>?_⟩
   have:c=0:=he
   rw [this] at hc;exact absurd hc (by decide)
 | false =>
   refine ⟨.inl ?_,fun _ _ hn'=>?_⟩
   ·show eJ (T.out++_)=0
    rw [jf,h]; rfl
   ·have:h'.n=true:=hn'
    rw [hn] at this; cases this
theorem H9{T:TS}{a:Bool}{id:Int}{ob:aQ}{now:Int}(h:eJ T.out=0)(ha:T.R.asked=a)(hh:T.home=false)(hid:id≠255):WA a (T.kv id ob now):=by
 unfold kv;cases (ob.kind==Int.ofNat 1) with
 | true =>
   simp only [cond_true];unfold NA;cases hn:T.R.own.n with
   | true =>
     simp only [cond_true];cases hq:T.R.asked with
     | true=>exact ⟨.inl h,fun _ _ _=>hq⟩
     | false=>exact uI h ha
   | false=>exact ⟨.inl (rH _ h _),fun _ _ hn'=>by have:T.R.own.n=true:=hn'; rw [hn] at this; cases this⟩
 | false =>
 simp only [cond_false];cases (ob.kind==Int.ofNat 2) with
 | true=>exact Gk h ha hh
 | false =>
 simp only [cond_false];cases (ob.kind==Int.ofNat 3) with
 | true=>exact Ml h ha hh
 | false =>
   simp only [cond_false];unfold opt;cases (T.home||(T.R.heard && !qI T.R.last ob.num)) with
   | true=>exact Gk h ha hh
   | false=>exact DZ h rfl
end TS
theorem pO{T:TS}{a:Bool}(h:T.WA a)(he:(c7 T).e=0):(c7 T).As a∧(c7 T).Wn:=by
 unfold c7 at he ⊢;cases hc:(T.e != Int.ofNat 0) with
 | true =>
   rw [hc] at he;have:T.e=0:=he
   rw [this] at hc;exact absurd hc (by decide)
 | false =>
   have:T.e=0:=by simpa using hc
   exact ⟨h.1,h.2 this⟩
theorem HW{vs:List aa}{id:Int}(hr:aF vs=true)(h:(aG vs id).isSome=true):id≠255:=by
 have:=vP hr h
 omega
theorem bV{e:Int}{P:Prop}(he:(ku e).e=0)(hne:e≠0):P:=absurd he hne
theorem yS{R:aw}{f:Bool}{vs:List aa}{p:mE}(he:(cp R f vs p).e=0)(hm:(R.me==R.dest)=false)(hw:(R.want&&(R.own.n && !R.asked))=false):(cp R f vs p).As R.asked∧(cp R f vs p).Wn:=by
 unfold cp at he ⊢;cases hok:iU R vs with
 | false=>rw [hok] at he; exact bV he (by decide)
 | true =>
 rw [hok] at he;simp only [cond_true] at he ⊢;have hr:=gG hok
 have hW:R.want=true→R.own.n=true→R.asked=true:=fun h1 h2=>by
  rw [h1,h2] at hw; simpa using hw
 unfold l5 at he ⊢;generalize (p.call==Int.ofNat 0)=b0 at he ⊢;cases b0 with
 | true =>
   simp only [cond_true] at he ⊢;unfold Je at he ⊢;cases hc:(!(decide (p.id≥Int.ofNat 0)&&decide (p.id<Int.ofNat 64))||(p.id==R.me)) with
   | true=>rw [hc] at he; exact bV he (by decide)
   | false =>
   rw [hc] at he;simp only [cond_false] at he ⊢;cases hf:(aG vs p.id).isSome with
   | true=>rw [hf] at he; exact bV he (by decide)
   | false =>
   rw [hf] at he;simp only [cond_false] at he ⊢;have hid:(p.id==Int.ofNat 255)=false:=by
     simp at hc ⊢;omega
   refine pO (T:=(eH R f vs).up p.id) ⟨.inl ?_,fun _=>?_⟩ he
   ·unfold TS.up
    simp only [eH];cases (!R.own.n) <;> cases R.asked <;> simp [TS.set,TS.tell,TS.send,eJ,AR,hid] <;> simpa using hid
   ·unfold TS.up TS.Wn
    simp only [eH];cases hn:(!R.own.n) <;> cases ha:R.asked <;> simp [TS.set,TS.tell,TS.send] <;> simp_all
 | false =>
 simp only [cond_false] at he ⊢;generalize (p.call==Int.ofNat 1)=b1 at he ⊢;cases b1 with
 | true =>
   simp only [cond_true] at he ⊢;unfold ks at he ⊢;cases ht:eQ p.now with
   | false=>rw [ht] at he; exact bV he (by decide)
   | true =>
   rw [ht] at he;simp only [Bool.not_true,cond_false] at he ⊢;cases hf:fnd vs p.id with
   | false=>rw [hf] at he; exact bV he (by decide)
   | true =>
   rw [hf] at he;exact pO (TS.Ab rfl rfl hm) he
 | false =>
 simp only [cond_false] at he ⊢;generalize (p.call==Int.ofNat 2)=b2 at he ⊢;cases b2 with
 | true =>
   simp only [cond_true] at he ⊢;unfold fF at he ⊢;cases ht:eQ p.now with
   | false=>rw [ht] at he; exact bV he (by decide)
   | true =>
   rw [ht] at he;simp only [Bool.not_true,cond_false] at he ⊢;cases hf:(aG vs p.id).isSome with
   | false=>rw [hf] at he; exact bV he (by decide)
   | true =>
   rw [hf] at he;simp only [Bool.not_true,cond_false] at he ⊢;cases hc:(!jC p.ob||((p.ob.dest != R.dest)||((p.ob.kind==Int.ofNat 2||p.ob.kind==Int.ofNat 4)&&(p.ob.h.i != p.id)))) with
   | true=>rw [hc] at he; exact bV he (by decide)
   | false =>
   rw [hc] at he;exact pO (TS.H9 rfl rfl hm (HW hr hf)) he
 | false =>
 simp only [cond_false] at he ⊢;generalize (p.call==Int.ofNat 3)=b3 at he ⊢;cases b3 with
 | true=>exact pO (TS.ln rfl rfl hm) he
 | false =>
 simp only [cond_false] at he ⊢;generalize (p.call==Int.ofNat 4)=b4 at he ⊢;cases b4 with
 | true=>exact ⟨.inl rfl,fun hw'=>by cases hw'⟩
 | false =>
   simp only [cond_false] at he ⊢;unfold lW at he ⊢;have hne:(R.me != R.dest)=true:=by unfold bne; rw [hm]; rfl
   rw [hne] at he;exact bV he (by decide)
namespace TS
theorem eP(T:TS)(to kind:Int)(h:aa)(l:aU)(num:Int):(T.send to kind h l num).out.length=T.out.length+1:=by
 show (T.out++_).length=_
 rw [List.length_append]; rfl
theorem rp(T:TS):T.fC.out.length≤T.out.length+1:=by
 unfold fC pe;generalize bH T.R.me T.vs=a;cases (a.2==Int.ofNat 0) with
 | true=>exact Nat.le_of_eq (eP ((T.own a.1).ask false) _ _ _ _ _)
 | false =>
 simp only [cond_false];cases (a.2==Int.ofNat 7) with
 | true =>
   simp only [cond_true];cases (!T.R.asked) with
   | true=>exact Nat.le_of_eq (eP (T.ask true) _ _ _ _ _)
   | false=>exact Nat.le_succ _
 | false=>exact Nat.le_succ _
theorem jh(T:TS):T.dv.out.length≤T.out.length+1:=by
 unfold dv;cases (T.R.own.n&&(T.R.want&&(!T.R.asked && !T.home))) with
 | true=>exact rp T
 | false=>exact Nat.le_succ _
theorem wm(T:TS)(now:Int)(lost:Bool):(T.keep now lost).out.length≤T.out.length+3:=by
 unfold keep;cases (T.home||T.R.own.n) with
 | true=>exact Nat.le_add_right _ _
 | false =>
 simp only [cond_false];generalize bM T.R.own T.vs now lost=r;unfold qG;cases (r.2.2 != Int.ofNat 0) with
 | true=>exact Nat.le_add_right _ _
 | false =>
 simp only [cond_false];cases (r.2.1==Int.ofNat 0) with
 | true=>exact Nat.le_add_right _ _
 | false =>
 simp only [cond_false];have e1:((T.own r.1).tell 255).out.length=T.out.length+1:=eP (T.own r.1) _ _ _ _ _
 cases (r.2.1==Int.ofNat 4) with
 | true =>
   have h1:=jh ((((T.own r.1).tell 255).forget T.ov).clear 255 T.ov)
   have e2:((((T.own r.1).tell 255).forget T.ov).clear 255 T.ov).out.length=((T.own r.1).tell 255).out.length+1:=eP (((T.own r.1).tell 255).forget T.ov) _ _ _ _ _
   simp only [cond_true];omega
 | false =>
   have h1:=jh ((T.own r.1).tell 255)
   simp only [cond_false];omega
theorem wz(T:TS)(now:Int):(T.nj now).out.length≤T.out.length+3:=by
 unfold nj;cases T.R.own.n with
 | true=>have:=jh T; simp only [cond_true]; omega
 | false=>exact wm T _ _
theorem Jf(T:TS)(y:aa)(now:Int):(T.xw y now).out.length≤T.out.length+3:=by
 have e:(T.set y).out.length=T.out.length:=rfl
 have h1:=wm (T.set y) now false
 have h2:=rp (T.set y)
 have h3:=jh (T.set y)
 unfold xw;cases (T.set y).home <;> cases (T.set y).R.own.n <;> cases (T.set y).R.asked <;> simp only [Bool.not_true,Bool.not_false,cond_true,cond_false] <;> omega
theorem Hy(T:TS)(ob:aQ)(now:Int):(T.yc ob now).out.length≤T.out.length+T.vs.length+3:=by
 unfold yc;cases (!T.home&&(!T.R.own.n&&(bA T.R.own==ob.l))) with
 | true =>
   have h1:=jh (((T.forget ob.l).own (bC T.R.me)).clear 255 ob.l)
   have e2:(((T.forget ob.l).own (bC T.R.me)).clear 255 ob.l).out.length=T.out.length+1:=eP ((T.forget ob.l).own (bC T.R.me)) _ _ _ _ _
   simp only [cond_true];omega
 | false =>
   have h1:=wz ((T.forget ob.l).oe (bO ob.l T.R.dest T.vs) ob.l) now
   have e2:((T.forget ob.l).oe (bO ob.l T.R.dest T.vs) ob.l).out.length=T.out.length+(bO ob.l T.R.dest T.vs).length:=by
     show (T.out++_).length=_
     rw [List.length_append,List.length_map]
   have h3:=oh ob.l T.R.dest T.vs
   simp only [cond_false];omega
theorem D8(T:TS)(id:Int)(ob:aQ)(now:Int):(T.kv id ob now).out.length≤T.out.length+T.vs.length+3:=by
 unfold kv;cases (ob.kind==Int.ofNat 1) with
 | true =>
   have h1:=rp T
   have h2:(T.tell id).out.length=_:=eP T _ _ _ _ _
   unfold NA;cases T.R.own.n <;> cases T.R.asked <;> simp only [Bool.not_true,Bool.not_false,cond_true,cond_false] <;> omega
 | false =>
 simp only [cond_false];have h1:=Jf T (aZ id ob.h) now
 cases (ob.kind==Int.ofNat 2) with
 | true=>simp only [cond_true]; omega
 | false =>
 simp only [cond_false];cases (ob.kind==Int.ofNat 3) with
 | true=>exact Hy T ob now
 | false =>
   simp only [cond_false];unfold opt;cases (T.home||(T.R.heard && !qI T.R.last ob.num)) with
   | true=>simp only [cond_true]; omega
   | false =>
     simp only [cond_false];unfold fresh;generalize cq false (bA ob.h).1 (bA ob.h).2.1 (bA ob.h).2.2 (wrapF .i64 (ob.h.d+Int.ofNat 1)) T.R.me=c;cases (c != Int.ofNat 0) with
     | true=>have:((T.set (aZ id ob.h)).err c).out.length=T.out.length:=rfl; simp only [cond_true]; omega
     | false =>
       have:((((T.set (aZ id ob.h)).own (Br T.R.me ob)).ask false).iI ob.num).out.length=T.out.length+1:=eP ((((T.set (aZ id ob.h)).own (Br T.R.me ob)).ask false).qB ob.num) _ _ _ _ _
       simp only [cond_false]; omega
theorem Ol(T:TS)(id:Int):(T.up id).out.length≤T.out.length+2:=by
 unfold up;have e0:(T.set (aZ id (bC id))).out.length=T.out.length:=rfl
 have e1:((T.set (aZ id (bC id))).tell id).out.length=T.out.length+1:=eP (T.set (aZ id (bC id))) _ _ _ _ _
 cases T.R.own.n <;> cases T.R.asked <;> simp only [Bool.not_true,Bool.not_false,cond_true,cond_false,eP] <;> omega
end TS
theorem nb(T:TS):(c7 T).out.length≤T.out.length:=by
 unfold c7;cases (T.e != Int.ofNat 0) with
 | true=>exact Nat.zero_le _
 | false=>exact Nat.le_refl _
theorem BI{R:aw}{f:Bool}{vs:List aa}{p:mE}:(cp R f vs p).out.length≤vs.length+4:=by
 unfold cp;cases iU R vs with
 | false=>exact Nat.zero_le _
 | true =>
 simp only [cond_true];unfold l5;cases (p.call==Int.ofNat 0) with
 | true =>
   simp only [cond_true];unfold Je;cases (!(decide (p.id≥Int.ofNat 0)&&decide (p.id<Int.ofNat 64))||(p.id==R.me)) with
   | true=>exact Nat.zero_le _
   | false =>
   simp only [cond_false];cases (aG vs p.id).isSome with
   | true=>exact Nat.zero_le _
   | false =>
     have h1:=nb ((eH R f vs).up p.id)
     have h2:=(eH R f vs).Ol p.id
     have h3:(eH R f vs).out.length=0:=rfl
     simp only [cond_false];omega
 | false =>
 simp only [cond_false];cases (p.call==Int.ofNat 1) with
 | true =>
   simp only [cond_true];unfold ks;cases eQ p.now with
   | false=>exact Nat.zero_le _
   | true =>
   simp only [Bool.not_true,cond_false];cases fnd vs p.id with
   | false=>exact Nat.zero_le _
   | true =>
     have h1:=nb ((⟨R,dy vs p.id,true,23,[],0⟩:TS).nj p.now)
     have h2:=(⟨R,dy vs p.id,true,23,[],0⟩:TS).wz p.now
     have h3:(⟨R,dy vs p.id,true,23,[],0⟩:TS).out.length=0:=rfl
     simp only [Bool.not_true,cond_false];omega
 | false =>
 simp only [cond_false];cases (p.call==Int.ofNat 2) with
 | true =>
   simp only [cond_true];unfold fF;cases eQ p.now with
   | false=>exact Nat.zero_le _
   | true =>
   simp only [Bool.not_true,cond_false];cases (aG vs p.id).isSome with
   | false=>exact Nat.zero_le _
   | true =>
   simp only [Bool.not_true,cond_false];cases (!jC p.ob||((p.ob.dest != R.dest)||((p.ob.kind==Int.ofNat 2||p.ob.kind==Int.ofNat 4)&&(p.ob.h.i != p.id)))) with
   | true=>exact Nat.zero_le _
   | false =>
     have h1:=nb ((eH R f vs).kv p.id p.ob p.now)
     have h2:=(eH R f vs).D8 p.id p.ob p.now
     have h3:(eH R f vs).out.length=0:=rfl
     have h4:(eH R f vs).vs.length=vs.length:=rfl
     simp only [cond_false];omega
 | false =>
 simp only [cond_false];cases (p.call==Int.ofNat 3) with
 | true =>
   have h1:=nb ((eH R f vs).nS true).dv
   have h2:=((eH R f vs).nS true).jh
   have h3:((eH R f vs).nS true).out.length=0:=rfl
   simp only [cond_true];unfold AA;omega
 | false =>
 simp only [cond_false];cases (p.call==Int.ofNat 4) with
 | true=>exact Nat.zero_le _
 | false =>
   simp only [cond_false];unfold lW;cases ((R.me != R.dest)||(decide (p.num<Int.ofNat 0)||decide (p.num>Int.ofNat 65535))) with
   | true=>exact Nat.zero_le _
   | false =>
     have h1:((eH R f vs).iI p.num).out.length=0+1:=TS.eP ((eH R f vs).qB p.num) _ _ _ _ _
     simp only [cond_false];omega
theorem rD{R:aw}{f:Bool}{vs:List aa}{p:mE}(h:vs.length≤80):(cp R f vs p).out.length<1000000:=by
 have:=BI (R:=R) (f:=f) (vs:=vs) (p:=p)
 omega
theorem D5{f:Bool}{n:Nat}(hkk:kk f n=n)(h:80<n):decide (Int.ofNat (kk f n)>Int.ofNat 80)=true:=by rw [hkk]; exact decide_eq_true (by simp only [Int.ofNat_eq_natCast]; omega)
theorem zJ{f:Bool}{n:Nat}(hkk:kk f n=n)(h:n≤80):decide (Int.ofNat (kk f n)>Int.ofNat 80)=false:=by rw [hkk]; exact decide_eq_false (by simp only [Int.ofNat_eq_natCast]; omega)
theorem two(b:Bool):b=true∨b=false:=by cases b <;> simp
theorem yq(us:List aQ):kk (oF us) us.length=us.length:=by cases us <;> rfl
theorem EU{t n:Nat}(hA:tagg Tryz.prog t=some true)(hS:bZ Tryz.prog t=some n){hp:Hp}{b:Nat}{us:List aQ}{i:Nat}{x:aQ}{ro:Bool}(k:Nat){r:List Value}(hg:hp.get b=some (.cells 50 (us.flatMap oc) ro))(h:us[i]? = some x)(hk:k+n≤13)(hr:((oc x).drop k).take n=r):aLoad Tryz.prog hp.get t (pb b (i*13+k))=some (.agg r.toArray):=by
 unfold pb;simp only [aLoad,hg,hA,hS];have hx:(oc x).length=13:=rfl
 have e:((us.flatMap oc).drop (i*13+k)).take n=r:=by
  rw [← hr];apply List.ext_getElem?
  intro j;rw [List.getElem?_take,List.getElem?_take]
  by_cases hj:j<n
  ·rw [if_pos hj,if_pos hj,List.getElem?_drop,List.getElem?_drop,Nat.add_assoc]
   exact eK oc 13 us (fun _ _=>rfl) i (k+j) x h (by omega)
  ·rw [if_neg hj,if_neg hj]
 have hl:r.length=n:=by rw [← hr,List.length_take,List.length_drop,hx]; omega
 have:eF (us.flatMap oc) (i*13+k) n=some r:=by
  unfold eF;rw [e,if_pos hl]
 rw [this];rfl
theorem Jy:tagg Tryz.prog 23=some true:=by kernel_rfl
theorem uP:bZ Tryz.prog 23=some 6:=by kernel_rfl
theorem EV{hp:Hp}{b:Nat}{us:List aQ}{i:Nat}{x:aQ}(hg:hp.get b=some (cr us))(h:us[i]? = some x):aLoad Tryz.prog hp.get 23 (pb b (i*13+3))=some (cx x.h):=EU Jy uP 3 hg h (by decide) rfl
end Go.Proofs.YtgeoommlmddgpaaGreat.LtL
