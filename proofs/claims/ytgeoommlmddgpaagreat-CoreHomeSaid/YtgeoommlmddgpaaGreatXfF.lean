/- Part 6. -/
import Derived.Test.YtgeoommlmddgpaaGreatXfE
import Derived.Shelf.SlSortCmp.WholeK
set_option linter.unusedVariables false
set_option linter.unusedSimpArgs false
set_option maxRecDepth 100000
namespace Go.Proofs.YtgeoommlmddgpaaGreat.LtL
open Go Go.Proofs Go.Proofs.YtgeoommlmddgpaaGreat.AI Go.RowKit Go.Proofs.YtgeoommlmddgpaaGreat.LtA Go.Shelf
def Ym:Nat→Nat
 | 6=>201
 | 14=>215
 | 15=>216
 | 20=>228
 | 21=>229
 | 22=>230
 | 23=>231
 | 24=>232
 | 25=>233
 | 26=>234
 | 27=>235
 | 28=>236
 | 29=>237
 | 46=>245
 | 47=>246
 | 48=>247
 | 49=>248
 | 50=>249
 | 57=>250
 | n=>n
def Yp:Nat→Nat
 | 22=>172
 | 24=>28
 | 25=>133
 | 39=>147
 | 45=>220
 | 46=>221
 | 50=>75
 | 53=>104
 | 55=>228
 | 66=>231
 | 70=>235
 | 76=>237
 | 77=>238
 | n=>n
def Yo:Ren:=⟨Ym,Yp,fun n=>n⟩
theorem Yn:SlLaysF0.n6 Tryz.prog Yo where
 mixed:=follows
 f6:=⟨Tryz.f201.name,by kernel_rfl,by kernel_rfl⟩
 f14:=⟨Tryz.f215.name,by kernel_rfl,by kernel_rfl⟩
 f15:=by kernel_rfl
 f20:=⟨Tryz.f228.name,by kernel_rfl,by kernel_rfl⟩
 f21:=⟨Tryz.f229.name,by kernel_rfl,by kernel_rfl⟩
 f22:=⟨Tryz.f230.name,by kernel_rfl,by kernel_rfl⟩
 f23:=⟨Tryz.f231.name,by kernel_rfl,by kernel_rfl⟩
 f24:=⟨Tryz.f232.name,by kernel_rfl,by kernel_rfl⟩
 f25:=⟨Tryz.f233.name,by kernel_rfl,by kernel_rfl⟩
 f26:=⟨Tryz.f234.name,by kernel_rfl,by kernel_rfl⟩
 f27:=⟨Tryz.f235.name,by kernel_rfl,by kernel_rfl⟩
 f28:=by kernel_rfl
 f29:=by kernel_rfl
 f46:=⟨Tryz.f245.name,by kernel_rfl,by kernel_rfl⟩
 f47:=by kernel_rfl
 f48:=by kernel_rfl
 f49:=⟨Tryz.f248.name,by kernel_rfl,by kernel_rfl⟩
 f50:=⟨Tryz.f249.name,by kernel_rfl,by kernel_rfl⟩
 f57:=⟨Tryz.f250.name,by kernel_rfl,by kernel_rfl⟩
 t0:=by kernel_rfl
 a0:=fun w=>by kernel_rfl
 z0:=fun w=>by kernel_rfl
 v0:=fun w=>by kernel_rfl
 t3:=by kernel_rfl
 a3:=fun w=>by kernel_rfl
 z3:=fun w=>by kernel_rfl
 v3:=fun w=>by kernel_rfl
 t4:=by kernel_rfl
 a4:=fun w=>by kernel_rfl
 z4:=fun w=>by kernel_rfl
 v4:=fun w=>by kernel_rfl
 t5:=by kernel_rfl
 a5:=fun w=>by kernel_rfl
 z5:=fun w=>by kernel_rfl
 v5:=fun w=>by kernel_rfl
 t9:=by kernel_rfl
 a9:=fun w=>by kernel_rfl
 z9:=fun w=>by kernel_rfl
 v9:=fun w=>by kernel_rfl
 t22:=by kernel_rfl
 a22:=fun w=>by kernel_rfl
 z22:=fun w=>by kernel_rfl
 v22:=fun w=>by kernel_rfl
 t25:=by kernel_rfl
 a25:=fun w=>by kernel_rfl
 z25:=fun w=>by kernel_rfl
 v25:=fun w=>by kernel_rfl
 t39:=by kernel_rfl
 a39:=fun w=>by kernel_rfl
 z39:=fun w=>by kernel_rfl
 v39:=fun w=>by kernel_rfl
 t45:=by kernel_rfl
 a45:=fun w=>by kernel_rfl
 z45:=fun w=>by kernel_rfl
 v45:=fun w=>by kernel_rfl
 t46:=by kernel_rfl
 a46:=fun w=>by kernel_rfl
 z46:=fun w=>by kernel_rfl
 v46:=fun w=>by kernel_rfl
 t50:=by kernel_rfl
 a50:=fun w=>by kernel_rfl
 z50:=fun w=>by kernel_rfl
 v50:=fun w=>by kernel_rfl
 t53:=by kernel_rfl
 a53:=fun w=>by kernel_rfl
 z53:=fun w=>by kernel_rfl
 v53:=fun w=>by kernel_rfl
 t55:=by kernel_rfl
 a55:=fun w=>by kernel_rfl
 z55:=fun w=>by kernel_rfl
 v55:=fun w=>by kernel_rfl
 t66:=by kernel_rfl
 a66:=fun w=>by kernel_rfl
 z66:=fun w=>by kernel_rfl
 v66:=fun w=>by kernel_rfl
 t70:=by kernel_rfl
 a70:=fun w=>by kernel_rfl
 z70:=fun w=>by kernel_rfl
 v70:=fun w=>by kernel_rfl
 t76:=by kernel_rfl
 a76:=fun w=>by kernel_rfl
 z76:=fun w=>by kernel_rfl
 v76:=fun w=>by kernel_rfl
 t77:=by kernel_rfl
 a77:=fun w=>by kernel_rfl
 z77:=fun w=>by kernel_rfl
 v77:=fun w=>by kernel_rfl
abbrev aU:=Int×Int×Int
def lc(x:aU):List Value:=[.int .i64 x.1,.int .i64 x.2.1,.int .i64 x.2.2]
def cQ(ls:List aU):List Value:=ls.flatMap lc
def lB(ls:List aU):af:=.cells 28 (cQ ls) false
def yk(x y:aU):Int:=qF x.1 x.2.1 x.2.2 y.1 y.2.1 y.2.2
def Od(x y:aU):Bool:=Go.Proofs.ltOf yk x y
theorem Ii{x y:aU}:yk x y<0↔(x.1<y.1∨x.1=y.1∧(x.2.1<y.2.1∨x.2.1=y.2.1∧x.2.2<y.2.2)):=by
 obtain ⟨a,b,c⟩:=x;obtain ⟨d,e,f⟩:=y;show qF a b c d e f<0↔(a<d∨a=d∧(b<e∨b=e∧c<f))
 unfold qF Ig dP;rcases Int.lt_trichotomy a d with h1 | h1 | h1
 ·have:¬ (a>d):=by omega
  simp [h1]
 ·subst h1
  rcases Int.lt_trichotomy b e with h2 | h2 | h2
  ·simp [h2]
  ·subst h2
   rcases Int.lt_trichotomy c f with h3 | h3 | h3
   ·simp [h3]
   ·subst h3; simp
   ·have q:¬ (c<f):=by omega
    simp [h3,q]
  ·have q:¬ (b<e):=by omega
   have q2:¬ (b=e):=by omega
   simp [h2,q,q2]
 ·have q:¬ (a<d):=by omega
  have q2:¬ (a=d):=by omega
  simp [h1,q,q2]
theorem pG{x y:aU}:Od x y=true↔(x.1<y.1∨x.1=y.1∧(x.2.1<y.2.1∨x.2.1=y.2.1∧x.2.2<y.2.2)):=by
 unfold Od Go.Proofs.ltOf;rw [decide_eq_true_iff,Ii]
theorem mY{x y:aU}:Od x y=false↔¬ (x.1<y.1∨x.1=y.1∧(x.2.1<y.2.1∨x.2.1=y.2.1∧x.2.2<y.2.2)):=by
 rw [← pG]; simp
theorem Sy:Go.Sort.SWO (Go.Proofs.ltOf yk) where
 irrefl x:=by
  show Od x x=false
  rw [mY]; omega
 trans x y z h1 h2:=by
  have h1:=pG.1 h1
  have h2:=pG.1 h2
  exact pG.2 (by omega)
 ntrans x y z h1 h2:=by
  have h1:=mY.1 h1
  have h2:=mY.1 h2
  exact mY.2 (by omega)
theorem MX{x y:aU}(h1:Od x y=false)(h2:Od y x=false):x=y:=by
 rw [mY] at h1 h2;obtain ⟨a,b,c⟩:=x;obtain ⟨d,e,f⟩:=y;simp only at h1 h2;have:a=d:=by omega
 have:b=e:=by omega
 have:c=f:=by omega
 simp [*]
def dJ(ls:List aU):List aU:=ls.mergeSort fun x y=>!Go.Proofs.ltOf yk y x
theorem jg(ls:List aU):(dJ ls).length=ls.length:=List.length_mergeSort ..
theorem ML(x:aU):(lc x).length=3:=rfl
theorem dW(ls:List aU):(cQ ls).length=ls.length*3:=by unfold cQ; rw [mU lc 3 ls fun _ _=>rfl]
theorem eK(ls:List aU):(cQ ls).all inert=true:=by
 refine List.all_eq_true.2 fun v hv=>?_
 obtain ⟨x,-,hx⟩:=List.mem_flatMap.1 hv;simp only [lc,List.mem_cons,List.not_mem_nil,or_false] at hx;rcases hx with rfl | rfl | rfl <;> rfl
theorem kl(ls:List aU):aA (lB ls)=true:=eK ls
theorem vL{w w':World}(b:IU w.heap.size w w'):∃ q os,w'=Go.Sort.grow (w.drewN q) os:=by
 refine ⟨w'.drawn-w.drawn,w'.heap.extract w.heap.size w'.heap.size,?_⟩
 have hd:=b.tape.dr trivial
 have hh:w'.heap=w.heap++w'.heap.extract w.heap.size w'.heap.size:=by
  apply Array.ext_getElem?
  intro k;by_cases hk:k<w.heap.size
  ·rw [Array.getElem?_append_left hk,b.block k hk]
  ·rw [Array.getElem?_append_right (by omega),Array.getElem?_extract]
   have hs:=b.size
   by_cases uL:k<w'.heap.size
   ·rw [if_pos (by omega)]; congr 1; omega
   ·rw [if_neg (by omega)]; exact Array.getElem?_eq_none (by omega)
 obtain ⟨h1,t1,d1,o1,u1⟩:=w;obtain ⟨h2,t2,d2,o2,u2⟩:=w';have e1:o2=o1:=b.os
 have e2:t2=t1:=b.tape.eq
 have e3:u2=u1:=b.output
 have e4:d1+(d2-d1)=d2:=by have:d1≤d2:=hd; omega
 subst e1; subst e2; subst e3;show World.mk _ _ _ _ _=World.mk _ _ _ _ _
 simp only [World.drewN,e4];exact congrArg (fun h=>World.mk h _ _ _ _) hh
theorem G'(GJ off size:Nat)(w:World):CmpLays Tryz.prog 105 #[] lc 3 yk GJ off size w:=fun m os dk _ x y =>
 (Mk.run [.agg (lc x).toArray,.agg (lc y).toArray] (.int .i64 (yk x y)) rfl _).mono fun e w' h=>⟨h.1,vL h.2⟩
theorem Jh(ls:List aU):(Go.Sort.flatK lc 3 ls.toArray).toList=cQ ls:=by
 apply List.ext_getElem?
 intro t;have hs:(Go.Sort.flatK lc 3 ls.toArray).size=ls.length*3:=by rw [Go.Sort.size_flatK]; simp
 by_cases ht:t<ls.length*3
 ·have hq:t / 3<ls.length:=by omega
  have hg:ls[t / 3]? = some ls[t / 3]:=List.getElem?_eq_getElem hq
  have h1:=fj lc 3 ls (fun _ _=>rfl) (t / 3) (t % 3) _ hg (by omega)
  rw [show t / 3*3+t % 3=t by omega] at h1
  show _=(ls.flatMap lc)[t]?
  rw [h1,Array.getElem?_toList,Array.getElem?_eq_getElem (by omega),← getElem!_pos _ t (by omega),Go.Sort.get_flatK _ _ _ _ (by simpa using ht)]
  have e:ls.toArray[t / 3]! = ls[t / 3]:=by rw [getElem!_pos _ _ (by simpa using hq)]; simp
  rw [e];have h3:t % 3<(lc ls[t / 3]).length:=by rw [ML]; omega
  rw [List.getElem?_eq_getElem h3,getElem!_pos (lc ls[t / 3]) (t % 3) h3]
 ·rw [Array.getElem?_toList,Array.getElem?_eq_none (by omega),List.getElem?_eq_none (by rw [dW]; omega)]
open Classical in
noncomputable def gSF:aC:=fun args hp=>match args with
 | [.slice (some ⟨b,0,none⟩) n c,f]=>if h:f = .func (.func 105) #[] #[]∧∃ ls:List aU,hp.get b=some (lB ls)∧n=ls.length∧0<n∧n<4611686018427387904 then some (.tuple #[],hp.put b (lB (dJ h.2.choose))) else none
 | _=>none
theorem qv:∀ {us vs:List aU},cQ us=cQ vs→us=vs
 | [],[],_=>rfl
 | [],v::vs,h=>by simp [cQ,lc] at h
 | u::us,[],h=>by simp [cQ,lc] at h
 | u::us,v::vs,h=>by
   simp only [cQ,List.flatMap_cons,lc,List.cons_append,List.nil_append,List.cons.injEq,Value.int.injEq,true_and] at h;obtain ⟨h1,h2,h3,h4⟩:=h;rw [qv (us:=us) (vs:=vs) h4];obtain ⟨a,b,c⟩:=u;obtain ⟨d,e,f⟩:=v;simp only at h1 h2 h3;rw [h1,h2,h3]
theorem Mc{ls:List aU}{b n c:Nat}{hp:Hp}(hb:hp.get b=some (lB ls))(hn:n=ls.length)(h0:0<n)(h1:n<4611686018427387904):gSF [.slice (some ⟨b,0,none⟩) n c,.func (.func 105) #[] #[]] hp=some (.tuple #[],hp.put b (lB (dJ ls))):=by
 unfold gSF;have hx:Value.func (.func 105) #[] #[] = .func (.func 105) #[] #[]∧∃ ls:List aU,hp.get b=some (lB ls)∧n=ls.length∧0<n∧n<4611686018427387904:=⟨rfl,ls,hb,hn,h0,h1⟩
 simp only;rw [dif_pos hx];have e:=hx.2.choose_spec.1
 have e2:=hb.symm.trans e
 unfold lB at e2;injection e2 with e2
 injection e2 with _ e2 _
 have e3:=qv e2
 exact congrArg (fun l=>some (Value.tuple #[],hp.put b (lB (dJ l)))) e3.symm
theorem Ug:aq Tryz.prog 201 gSF:=by
 intro args hp v hp' he hk;unfold gSF at he;split at he
 case h_2=>cases he
 rename_i b n c f;split at he
 case isFalse=>cases he
 rename_i hx;obtain ⟨hf,hex⟩:=hx;obtain ⟨hb,hn,hn0,hn1⟩:=hex.choose_spec;generalize hex.choose=ls at *;cases he;subst hf;have hlt:=cV hk hb
 have hkput:(hp.put b (lB (dJ ls))).ok:=fun c hc=>by
  rw [Hp.kG] at hc;rw [Hp.dy,if_neg (by omega)]
  exact hk c hc
 refine ⟨hkput,by rw [Hp.kG]; exact Nat.le_refl _,fun m h w args' hfr s ra=>.inr ⟨cC Tryz.func201 (by rfl) (by kernel_rfl),?_⟩⟩
 obtain ⟨v1,bs1,e1,r1,q1⟩:=ra.of_cons;obtain ⟨v2,bs2,e2,r2,q2⟩:=q1.of_cons;have e3:=q2.of_nil
 subst e3;obtain ⟨b',off,r,off',cap,ea,rfl,hcap,hd⟩:=r1.of_slice;cases ea;have gb:=bq hk h b _ hb
 rcases hd with hd | ⟨δ,E,hm,hoff,-⟩
 ·rw [gb] at hd; cases hd
 ·have ho:off' = δ:=by
   rcases hoff with h1 | h1
   ·omega
   ·omega
  subst ho;have ev2:v2 = .func (.func 105) #[] #[]:=by
    obtain ⟨a',c',rfl,⟨s1,_⟩,s3,_⟩:=r2.zQ;have z1:a' = #[]:=Array.eq_empty_of_size_eq_zero (by simpa using s1.symm)
    have z2:c' = #[]:=Array.eq_empty_of_size_eq_zero (by simpa using s3.symm)
    subst z1; subst z2; rfl
  subst ev2;have eargs:args' = #[.slice (some ⟨r,off',none⟩) n cap,.func (.func 105) #[] #[]]:=by
    have:args'.toList = [.slice (some ⟨r,off',none⟩) n cap,.func (.func 105) #[] #[]]:=by rw [e1,e2]
    cases args'; simp_all
  subst eargs;obtain ⟨o,ho',hbr⟩:=s.dom b _ hm;rw [gb] at ho'; cases ho';obtain ⟨cc,fr,g1,g2,g3,g4,g5⟩:=hbr;have hlen:(cQ ls).length=ls.length*3:=dW ls
  simp only at g1 g2 g3 g4 g5;have hr:r<w.heap.size:=(Array.getElem?_eq_some_iff.1 g1).1
  have hH:Go.Sort.HoldsK lc 3 w r off' ls.toArray:=by
    intro j hj;have hj':j<ls.length*3:=by rw [Go.Sort.size_flatK] at hj; simpa using hj
    have hjL:j<(cQ ls).length:=by omega
    have hcj:off'+j<cc.size:=by omega
    have hv:=g4 j _ cc[off'+j] (List.getElem?_eq_getElem hjL) (Array.getElem?_eq_getElem hcj)
    have hin:=List.all_eq_true.1 (eK ls) _ (List.getElem_mem hjL)
    have ev:cc[off'+j]=(cQ ls)[j]:=by
      obtain ⟨x,-,hx⟩:=List.mem_flatMap.1 (List.getElem_mem hjL);simp only [lc,List.mem_cons,List.not_mem_nil,or_false] at hx;rcases hx with hx | hx | hx <;> (rw [hx] at hv ⊢; exact hv.of_int)
    constructor
    ·rw [cell_of g1,Array.getElem?_eq_getElem hcj,ev]
     have:=congrArg (fun l=>l[j]?) (Jh ls)
     simp only [Array.getElem?_toList] at this
     rw [Array.getElem?_eq_getElem hj,List.getElem?_eq_getElem hjL] at this
     rw [getElem!_pos _ j hj];simpa using this.symm
    ·unfold World.frozen?
     rw [g1];have:=g5.1 trivial (off'+j) (by omega)
     obtain ⟨lo,hi⟩:=fr;simp only at this ⊢;simp only [Bool.and_eq_false_imp,decide_eq_true_eq,decide_eq_false_iff_not];intro q; omega
  have eg:∀ args w,(callFunc 105 args).run Tryz.prog w = .ok (.enter 105 args) w:=fun args w=>cC Tryz.func105 (by rfl) (by kernel_rfl)
  have hcon:=AnyQ.slices_SortFunc Yn 3 (fun w=>by kernel_rfl) (fun w=>by kernel_rfl) lc (fun _=>rfl) (fun x v hv=>by simp [lc] at hv; rcases hv with rfl | rfl | rfl <;> rfl) yk Sy 105 #[] r off' cap ls.toArray w eg (G' r off' _ w) hH hr (by simp; omega)
  change Calls Tryz.prog 201 _ _ _ at hcon
  rw [show ls.toArray.size=n by simp [hn]] at hcon
  refine hcon.mono fun e w' hh=>?_
  obtain ⟨rfl,d',q,os,dj,hs1,rfl⟩:=hh;have hd':d'.toList=dJ ls:=by
    have:=Go.Sort.sorted_unique_holds Sy (fun x y=>MX) ls.toArray d' (by rw [show ls.toArray.size=n by simp [hn]]; exact dj) (by rw [show ls.toArray.size=n by simp [hn]]; exact hs1)
    simpa [dJ] using this
  have hds:d'.size=n:=by
    have:=congrArg List.length hd'
    rw [jg,Array.length_toList] at this;omega
  have ed:d'=(dJ ls).toArray:=by rw [← hd']
  refine ⟨.tuple #[],rfl,m,?_,.tuple rfl fun i v v' q1 _=>by simp at q1⟩

  have hheap:∀ k,(Go.Proofs.sortWorldK lc 3 w r off' q d' os).heap[k]? = if k<w.heap.size then (if k=r then (w.heap[k]?).map (Go.Sort.onCells (Go.Sort.putCells id off' (Go.Sort.flatK lc 3 d'))) else w.heap[k]?) else os[k-w.heap.size]?:=by
    intro k;unfold Go.Proofs.sortWorldK Go.Sort.grow Go.Sort.putRowK Go.Sort.putRow Go.Sort.mapBlock Go.Sort.ahead;simp only [Array.getElem?_append,Array.size_modify,Array.getElem?_modify]
    by_cases tS:k<w.heap.size
    ·rw [if_pos tS,if_pos tS]
     by_cases uL:r=k
     ·subst uL; simp
     ·rw [if_neg uL,if_neg (fun e=>uL e.symm)]
    ·rw [if_neg tS,if_neg tS]
  have kp:gI ⟨w,fun k=>k=(r,off',E).1⟩ (Go.Proofs.sortWorldK lc 3 w r off' q d' os):=by
    refine ⟨rfl,⟨rfl,fun _=>Nat.le_add_right _ _⟩,rfl,?_,fun k tS hne=>?_⟩
    ·unfold Go.Proofs.sortWorldK Go.Sort.grow Go.Sort.putRowK Go.Sort.putRow Go.Sort.mapBlock Go.Sort.ahead; simp
    ·rw [hheap,if_pos tS,if_neg hne]
  have e0:(heapOf [lB (dJ ls),.dead] aE).get 0=some (lB (dJ ls)):=by rw [ak]; rfl
  have fsz:(Go.Sort.flatK lc 3 d').size=n*3:=by rw [Go.Sort.size_flatK,hds]
  have hsim:cg (fun b=>if b=0 then some (r,off',E) else none) (heapOf [lB (dJ ls),.dead] aE).get (Go.Proofs.sortWorldK lc 3 w r off' q d' os):=by
    refine ⟨fun b x hx=>?_,fun b b' x x' hx hx' _ _ _=>?_⟩
    ·by_cases hb0:b=0
     ·subst hb0
      simp only [if_true,Option.some.injEq] at hx;subst hx;refine ⟨_,e0,Go.Sort.putCells id off' (Go.Sort.flatK lc 3 d') cc,fr,?_,?_,?_,fun i u u' p1 p2=>?_,?_⟩
      ·rw [hheap,if_pos hr,if_pos rfl,g1]; rfl
      ·rw [dW,jg]; rw [hlen] at g2; exact g2
      ·show E≤_
       simpa [Go.Sort.putCells] using g3
      ·have hi:i<(cQ (dJ ls)).length:=(List.getElem?_eq_some_iff.1 p1).1
       have hi':i<n*3:=by rw [dW,jg] at hi; omega
       have hci:off'+i<cc.size:=by omega
       have hu:u'=(Go.Sort.flatK lc 3 d')[i]!:=by
         simp only [Go.Sort.putCells,Array.getElem?_mapIdx,Array.getElem?_eq_getElem hci,Option.map_some,Option.some.injEq] at p2
         rw [if_pos ⟨by omega,by omega⟩,show off'+i-off'=i by omega] at p2
         exact p2.symm
       have hfl:(Go.Sort.flatK lc 3 d')[i]? = some u:=by
         have:=congrArg (fun l=>l[i]?) (Jh (dJ ls))
         simp only [Array.getElem?_toList] at this
         rw [ed,this,p1]
       have:u'=u:=by
         rw [hu,getElem!_pos _ i (by omega)]
         rw [Array.getElem?_eq_getElem (by omega)] at hfl
         simpa using hfl
       subst this;have hin:=List.all_eq_true.1 (eK (dJ ls)) _ (List.mem_of_getElem? p1)
       obtain ⟨x,-,hx⟩:=List.mem_flatMap.1 (List.mem_of_getElem? p1);simp only [lc,List.mem_cons,List.not_mem_nil,or_false] at hx;rcases hx with rfl | rfl | rfl <;> exact .flat rfl
      ·refine ⟨fun _ j hj=>g5.1 trivial j (by simpa [Go.Sort.putCells] using hj),fun h=>by cases h⟩
     ·rw [if_neg hb0] at hx; cases hx
    ·by_cases hb0:b=0
     ·by_cases hb1:b'=0
      ·rw [hb0,hb1]
      ·rw [if_neg hb1] at hx'; cases hx'
     ·rw [if_neg hb0] at hx; cases hx
  exact wH (x:=(r,off',E)) hk s hb hm kp hsim (by simp) e0 (eK _)
end Go.Proofs.YtgeoommlmddgpaaGreat.LtL
namespace Go.Proofs.YtgeoommlmddgpaaGreat.LtL
open Go Go.Proofs Go.Proofs.YtgeoommlmddgpaaGreat.AI Go.RowKit Go.Proofs.YtgeoommlmddgpaaGreat.Sort Go.Proofs.YtgeoommlmddgpaaGreat.LtA
def lA(x:aU):Value:=.agg ⟨lc x⟩
def cu(off n:Nat):Value:=.slice (some ⟨0,off,none⟩) n 11
noncomputable def lS:Ext:=cS Tryz.prog []
theorem eI:ExtOk Tryz.prog lS:=aT .nil
noncomputable def pf:Code:=(Tryz.f202.body).getD .skip
theorem ntmps45:Tryz.f202.ntmps=61:=by kernel_rfl
theorem XU(v:Value)(O:List af)(g:Nat→Value):retVal Tryz.prog Tryz.f202 (av 61 g [(2,v)] O)=some v:=by kernel_rfl
def cT:Code→Code
 | .cond _ a _=>a
 | c=>c
noncomputable def ME:Code:=sL (pf)
theorem Sq:codeSafe Tryz.prog 61 ME=true:=by kernel_rfl
noncomputable def DZ:Code:=sL (sL (sR (pf)))
theorem Sr:codeSafe Tryz.prog 61 DZ=true:=by kernel_rfl
noncomputable def D0:Code:=sR (sL (sR (pf)))
theorem Ss:codeSafe Tryz.prog 61 D0=true:=by kernel_rfl
noncomputable def MF:Code:=sL (sL (sR (sR (pf))))
theorem Su:codeSafe Tryz.prog 61 MF=true:=by kernel_rfl
noncomputable def zt:Code:=sL (mr (jh (sR (sL (sR (sR (pf)))))))
theorem Fg:codeSafe Tryz.prog 61 zt=true:=by kernel_rfl
noncomputable def tX:Code:=sL (jh (sL (sR (mr (jh (sR (sL (sR (sR (pf))))))))))
theorem It:codeSafe Tryz.prog 61 tX=true:=by kernel_rfl
noncomputable def qp:Code:=cT (sR (jh (sL (sR (mr (jh (sR (sL (sR (sR (pf)))))))))))
noncomputable def Js:Code:=sR (sR (mr (jh (sR (sL (sR (sR (pf))))))))
noncomputable def vQ:Code:=sL (sL (sR (cT (sR (jh (sL (sR (mr (jh (sR (sL (sR (sR (pf))))))))))))))
theorem NO:codeSafe Tryz.prog 61 vQ=true:=by kernel_rfl
noncomputable def qo:Code:=mr (jh (sR (sL (sR (cT (sR (jh (sL (sR (mr (jh (sR (sL (sR (sR (pf))))))))))))))))
theorem yx:codeSafe Tryz.prog 61 qo=true:=by kernel_rfl
noncomputable def vR:Code:=sR (sR (cT (sR (jh (sL (sR (mr (jh (sR (sL (sR (sR (pf)))))))))))))
theorem NP:codeSafe Tryz.prog 61 vR=true:=by kernel_rfl
noncomputable def MG:Code:=sR (sR (sR (pf)))
theorem Sv:codeSafe Tryz.prog 61 MG=true:=by kernel_rfl
noncomputable abbrev C5:Code:=.seq ME (.seq (.seq DZ D0) (.seq (.seq MF (.block 0 (.loop (.seq zt (.seq (.block 1 (.seq tX (.cond (.tmp 25) (.seq (sL qp) (.seq (.seq vQ (.block 2 (.loop qo))) vR)) .skip))) Js))))) MG))
theorem Hb:Tryz.f202.body=some C5:=by kernel_rfl
section
theorem Xz(us:List aU)(n:Nat):(execN Tryz.prog (aCall Tryz.prog lS 5) (callN Tryz.prog lS 5) 30 ME ⟨tmsOf [cu 0 n] 0 .leaf,heapOf [lB us,.dead] aE,[]⟩ (ej [])).map (fun y=>(look2 1 [0] [0] (y.1,y.2.1),y.2.2.q,y.2.2.r,y.2.2.x)) =
 some ((.normal,[lB us],[(0,cu 0 n)],true),[],[],[]):=by kernel_rfl
end
section
theorem XA(us:List aU)(n:Nat)(g:Nat→Value):(execN Tryz.prog (aCall Tryz.prog lS 5) (callN Tryz.prog lS 5) 30 (.seq DZ D0) (av 61 g [(0,cu 0 n)] [lB us]) (ej [(2,.v (.bool true))])).map (fun y=>(look2 1 [0] [2] (y.1,y.2.1),y.2.2.q,y.2.2.r,y.2.2.x)) =
 some ((.ret,[lB us],[(2,cu 0 n)],true),[(some (.bool (decide ((Int.ofNat n)<(Int.ofNat 2)))),.bool true)],[],[]):=by kernel_rfl
theorem XB(us:List aU)(n:Nat)(g:Nat→Value):(execN Tryz.prog (aCall Tryz.prog lS 5) (callN Tryz.prog lS 5) 30 (.seq DZ D0) (av 61 g [(0,cu 0 n)] [lB us]) (ej [(2,.v (.bool false))])).map (fun y=>(look2 1 [0] [0] (y.1,y.2.1),y.2.2.q,y.2.2.r,y.2.2.x)) =
 some ((.normal,[lB us],[(0,cu 0 n)],true),[(some (.bool (decide ((Int.ofNat n)<(Int.ofNat 2)))),.bool false)],[],[]):=by kernel_rfl
end
section
theorem XD(us:List aU)(n:Nat)(g:Nat→Value):(execN Tryz.prog (aCall Tryz.prog lS 5) (callN Tryz.prog lS 5) 30 MF (av 61 g [(0,cu 0 n)] [lB us]) (ej [])).map (fun y=>(look2 1 [0] [0,3] (y.1,y.2.1),y.2.2.q,y.2.2.r,y.2.2.x)) =
 some ((.normal,[lB us],[(0,cu 0 n),(3,iN 1)],true),[],[],[]):=by kernel_rfl
end
section
theorem XM(us:List aU)(n q:Nat)(g:Nat→Value):(execN Tryz.prog (aCall Tryz.prog lS 5) (callN Tryz.prog lS 5) 30 zt (av 61 g [(0,cu 0 n),(3,iN (q+1))] [lB us]) (ej [(3,.v (.bool true))])).map (fun y=>(look2 1 [0] [0,3] (y.1,y.2.1),y.2.2.q,y.2.2.r,y.2.2.x)) =
 some ((.normal,[lB us],[(0,cu 0 n),(3,iN (q+1))],true),[(some (.bool (decide ((Int.ofNat (q+1))<(Int.ofNat n)))),.bool true)],[],[]):=by kernel_rfl
theorem XN(us:List aU)(n q:Nat)(g:Nat→Value):(execN Tryz.prog (aCall Tryz.prog lS 5) (callN Tryz.prog lS 5) 30 zt (av 61 g [(0,cu 0 n),(3,iN (q+1))] [lB us]) (ej [(3,.v (.bool false))])).map (fun y=>(look2 1 [0] [0,3] (y.1,y.2.1),y.2.2.q,y.2.2.r,y.2.2.x)) =
 some ((.exit 0,[lB us],[(0,cu 0 n),(3,iN (q+1))],true),[(some (.bool (decide ((Int.ofNat (q+1))<(Int.ofNat n)))),.bool false)],[],[]):=by kernel_rfl
end
section
theorem XO(us:List aU)(n q:Nat)(x y:aU)(g:Nat→Value):(execN Tryz.prog (aCall Tryz.prog lS 5) (callN Tryz.prog lS 5) 30 tX (av 61 g [(0,cu 0 n),(3,iN (q+1))] [lB us]) (ej [(9,.v (.bool true)),(8,.v (lA y)),(7,.v (pb 0 (q*3))),(6,.v (iN q)),(3,.v (lA x)),(2,.v (pb 0 ((q+1)*3)))])).map (fun y=>(look2 1 [0] [0,3,25] (y.1,y.2.1),y.2.2.q,y.2.2.r,y.2.2.x)) =
 some ((.normal,[lB us],[(0,cu 0 n),(3,iN (q+1)),(25,.bool true)],true),[(fstV ((aBin Tryz.prog .eql 28 (lA x) (lA y)).map fun v=>(v,none)),.bool true),(aLoad Tryz.prog (heapOf [lB us,.dead] aE).get 28 (pb 0 (q*3)),lA y),(fstV ((aIndexAddr Tryz.prog 172 (cu 0 n) (iN q)).map fun v=>(v,none)),pb 0 (q*3)),(some (.int .i64 (wrapF .i64 (Int.ofNat (q+1)-Int.ofNat 1))),iN q),(aLoad Tryz.prog (heapOf [lB us,.dead] aE).get 28 (pb 0 ((q+1)*3)),lA x),(fstV ((aIndexAddr Tryz.prog 172 (cu 0 n) (iN (q+1))).map fun v=>(v,none)),pb 0 ((q+1)*3))],[],[]):=by kernel_rfl
end
noncomputable abbrev P8:Code:=.seq (.block 1 (.seq tX (.cond (.tmp 25) (.seq (sL qp) (.seq (.seq vQ (.block 2 (.loop qo))) vR)) .skip))) Js
theorem WK:codeSafe Tryz.prog 61 P8=true:=by kernel_rfl
section
theorem XL(us:List aU)(n q:Nat)(x y:aU)(g:Nat→Value):(execN Tryz.prog (aCall Tryz.prog lS 5) (callN Tryz.prog lS 5) 30 P8 (av 61 g [(0,cu 0 n),(3,iN (q+1))] [lB us]) (ej [(11,.v (iN ((q+1)+1))),(9,.v (.bool false)),(8,.v (lA y)),(7,.v (pb 0 (q*3))),(6,.v (iN q)),(3,.v (lA x)),(2,.v (pb 0 ((q+1)*3)))])).map (fun y=>(look2 1 [0] [0,3] (y.1,y.2.1),y.2.2.q,y.2.2.r,y.2.2.x)) =
 some ((.normal,[lB us],[(0,cu 0 n),(3,iN ((q+1)+1))],true),[(some (.int .i64 (wrapF .i64 (Int.ofNat (q+1)+Int.ofNat 1))),iN ((q+1)+1)),(fstV ((aBin Tryz.prog .eql 28 (lA x) (lA y)).map fun v=>(v,none)),.bool false),(aLoad Tryz.prog (heapOf [lB us,.dead] aE).get 28 (pb 0 (q*3)),lA y),(fstV ((aIndexAddr Tryz.prog 172 (cu 0 n) (iN q)).map fun v=>(v,none)),pb 0 (q*3)),(some (.int .i64 (wrapF .i64 (Int.ofNat (q+1)-Int.ofNat 1))),iN q),(aLoad Tryz.prog (heapOf [lB us,.dead] aE).get 28 (pb 0 ((q+1)*3)),lA x),(fstV ((aIndexAddr Tryz.prog 172 (cu 0 n) (iN (q+1))).map fun v=>(v,none)),pb 0 ((q+1)*3))],[],[]):=by kernel_rfl
end
section
end
section
theorem XK(us:List aU)(n q:Nat)(g:Nat→Value):(execN Tryz.prog (aCall Tryz.prog lS 5) (callN Tryz.prog lS 5) 30 (sL qp) (av 61 g [(0,cu 0 n),(3,iN (q+1))] [lB us]) (ej [(2,.v (cu ((q+1)*3) (n-(q+1))))])).map (fun y=>(look2 1 [0] [0,3,4] (y.1,y.2.1),y.2.2.q,y.2.2.r,y.2.2.x)) =
 some ((.normal,[lB us],[(0,cu 0 n),(3,iN (q+1)),(4,cu ((q+1)*3) (n-(q+1)))],true),[(fstV ((aSlice Tryz.prog 172 (cu 0 n) (some (iN (q+1))) none none).map fun v=>(v,none)),cu ((q+1)*3) (n-(q+1)))],[],[]):=by kernel_rfl
end
section
theorem XF(us:List aU)(n p:Nat)(g:Nat→Value):(execN Tryz.prog (aCall Tryz.prog lS 5) (callN Tryz.prog lS 5) 30 vQ (av 61 g [(0,cu 0 n),(3,iN (p+1)),(4,cu ((p+1)*3) (n-(p+1)))] [lB us]) (ej [])).map (fun y=>(look2 1 [0] [0,3,4,5] (y.1,y.2.1),y.2.2.q,y.2.2.r,y.2.2.x)) =
 some ((.normal,[lB us],[(0,cu 0 n),(3,iN (p+1)),(4,cu ((p+1)*3) (n-(p+1))),(5,iN 1)],true),[],[],[]):=by kernel_rfl
end
section
theorem XG(us vs:List aU)(n p j m:Nat)(x y:aU)(g:Nat→Value):(execN Tryz.prog (aCall Tryz.prog lS 5) (callN Tryz.prog lS 5) 30 qo (av 61 g [(0,cu 0 n),(3,iN m),(4,cu ((p+1)*3) (n-(p+1))),(5,iN (j+1))] [lB us]) (ej [(26,.v (iN ((j+1)+1))),(23,.v (iN (m+1))),(21,.e undef [.put 0 (lB vs)]),(20,.v (pb 0 (m*3))),(19,.v (lA x)),(18,.v (pb 0 (((p+1)+(j+1))*3))),(13,.v (.bool true)),(12,.v (lA y)),(11,.v (pb 0 (((p+1)+j)*3))),(10,.v (iN j)),(7,.v (lA x)),(6,.v (pb 0 (((p+1)+(j+1))*3))),(3,.v (.bool true))])).map (fun y=>(look2 1 [0] [0,3,4,5] (y.1,y.2.1),y.2.2.q,y.2.2.r,y.2.2.x)) =
 some ((.normal,[lB vs],[(0,cu 0 n),(3,iN (m+1)),(4,cu ((p+1)*3) (n-(p+1))),(5,iN ((j+1)+1))],true),[(some (.int .i64 (wrapF .i64 (Int.ofNat (j+1)+Int.ofNat 1))),iN ((j+1)+1)),(some (.int .i64 (wrapF .i64 (Int.ofNat m+Int.ofNat 1))),iN (m+1)),(fstV ((aIndexAddr Tryz.prog 172 (cu 0 n) (iN m)).map fun v=>(v,none)),pb 0 (m*3)),(aLoad Tryz.prog (heapOf [lB us,.dead] aE).get 28 (pb 0 (((p+1)+(j+1))*3)),lA x),(fstV ((aIndexAddr Tryz.prog 172 (cu ((p+1)*3) (n-(p+1))) (iN (j+1))).map fun v=>(v,none)),pb 0 (((p+1)+(j+1))*3)),(fstV ((aBin Tryz.prog .neq 28 (lA x) (lA y)).map fun v=>(v,none)),.bool true),(aLoad Tryz.prog (heapOf [lB us,.dead] aE).get 28 (pb 0 (((p+1)+j)*3)),lA y),(fstV ((aIndexAddr Tryz.prog 172 (cu ((p+1)*3) (n-(p+1))) (iN j)).map fun v=>(v,none)),pb 0 (((p+1)+j)*3)),(some (.int .i64 (wrapF .i64 (Int.ofNat (j+1)-Int.ofNat 1))),iN j),(aLoad Tryz.prog (heapOf [lB us,.dead] aE).get 28 (pb 0 (((p+1)+(j+1))*3)),lA x),(fstV ((aIndexAddr Tryz.prog 172 (cu ((p+1)*3) (n-(p+1))) (iN (j+1))).map fun v=>(v,none)),pb 0 (((p+1)+(j+1))*3)),(some (.bool (decide ((Int.ofNat (j+1))<(Int.ofNat (n-(p+1)))))),.bool true)],[],[((aStore Tryz.prog (heapOf [lB us,.dead] aE).get 28 (pb 0 (m*3)) (lA x)).map (fun es=>(undef,es)),(undef,[.put 0 (lB vs)]))]):=by kernel_rfl
theorem XH(us vs:List aU)(n p j m:Nat)(x y:aU)(g:Nat→Value):(execN Tryz.prog (aCall Tryz.prog lS 5) (callN Tryz.prog lS 5) 30 qo (av 61 g [(0,cu 0 n),(3,iN m),(4,cu ((p+1)*3) (n-(p+1))),(5,iN (j+1))] [lB us]) (ej [(15,.v (iN ((j+1)+1))),(13,.v (.bool false)),(12,.v (lA y)),(11,.v (pb 0 (((p+1)+j)*3))),(10,.v (iN j)),(7,.v (lA x)),(6,.v (pb 0 (((p+1)+(j+1))*3))),(3,.v (.bool true))])).map (fun y=>(look2 1 [0] [0,3,4,5] (y.1,y.2.1),y.2.2.q,y.2.2.r,y.2.2.x)) =
 some ((.normal,[lB us],[(0,cu 0 n),(3,iN m),(4,cu ((p+1)*3) (n-(p+1))),(5,iN ((j+1)+1))],true),[(some (.int .i64 (wrapF .i64 (Int.ofNat (j+1)+Int.ofNat 1))),iN ((j+1)+1)),(fstV ((aBin Tryz.prog .neq 28 (lA x) (lA y)).map fun v=>(v,none)),.bool false),(aLoad Tryz.prog (heapOf [lB us,.dead] aE).get 28 (pb 0 (((p+1)+j)*3)),lA y),(fstV ((aIndexAddr Tryz.prog 172 (cu ((p+1)*3) (n-(p+1))) (iN j)).map fun v=>(v,none)),pb 0 (((p+1)+j)*3)),(some (.int .i64 (wrapF .i64 (Int.ofNat (j+1)-Int.ofNat 1))),iN j),(aLoad Tryz.prog (heapOf [lB us,.dead] aE).get 28 (pb 0 (((p+1)+(j+1))*3)),lA x),(fstV ((aIndexAddr Tryz.prog 172 (cu ((p+1)*3) (n-(p+1))) (iN (j+1))).map fun v=>(v,none)),pb 0 (((p+1)+(j+1))*3)),(some (.bool (decide ((Int.ofNat (j+1))<(Int.ofNat (n-(p+1)))))),.bool true)],[],[]):=by kernel_rfl
theorem XI(us vs:List aU)(n p j m:Nat)(x y:aU)(g:Nat→Value):(execN Tryz.prog (aCall Tryz.prog lS 5) (callN Tryz.prog lS 5) 30 qo (av 61 g [(0,cu 0 n),(3,iN m),(4,cu ((p+1)*3) (n-(p+1))),(5,iN (j+1))] [lB us]) (ej [(3,.v (.bool false))])).map (fun y=>(look2 1 [0] [0,3] (y.1,y.2.1),y.2.2.q,y.2.2.r,y.2.2.x)) =
 some ((.exit 2,[lB us],[(0,cu 0 n),(3,iN m)],true),[(some (.bool (decide ((Int.ofNat (j+1))<(Int.ofNat (n-(p+1)))))),.bool false)],[],[]):=by kernel_rfl
end
section
theorem XP(us:List aU)(zs:List Value)(n m:Nat)(g:Nat→Value):(execN Tryz.prog (aCall Tryz.prog lS 5) (callN Tryz.prog lS 5) 30 vR (av 61 g [(0,cu 0 n),(3,iN m)] [lB us]) (ej [(6,.v (cu 0 m)),(3,.e (.tuple #[]) [.put 0 (.cells 28 zs false)]),(2,.v (cu (m*3) (n-m)))])).map (fun y=>(look2 1 [0] [2] (y.1,y.2.1),y.2.2.q,y.2.2.r,y.2.2.x)) =
 some ((.ret,[.cells 28 zs false],[(2,cu 0 m)],true),[(fstV ((aSlice Tryz.prog 172 (cu 0 n) none (some (iN m)) none).map fun v=>(v,none)),cu 0 m),(fstV ((aSlice Tryz.prog 172 (cu 0 n) (some (iN m)) none none).map fun v=>(v,none)),cu (m*3) (n-m))],[],[(aClear Tryz.prog (heapOf [lB us,.dead] aE).get [172] [cu (m*3) (n-m)],(.tuple #[],[.put 0 (.cells 28 zs false)]))]):=by kernel_rfl
end
section
theorem XE(us:List aU)(n:Nat)(g:Nat→Value):(execN Tryz.prog (aCall Tryz.prog lS 5) (callN Tryz.prog lS 5) 30 MG (av 61 g [(0,cu 0 n)] [lB us]) (ej [])).map (fun y=>(look2 1 [0] [2] (y.1,y.2.1),y.2.2.q,y.2.2.r,y.2.2.x)) =
 some ((.ret,[lB us],[(2,cu 0 n)],true),[],[],[]):=by kernel_rfl
end
def pd(a:List aU)(y:aU):List aU:=if a.getLast? = some y then a else a ++ [y]
def iK(ls:List aU):List aU:=ls.foldl pd []
theorem vr(l:List aU)(y:aU):iK (l ++ [y])=pd (iK l) y:=by unfold iK; rw [List.foldl_append]; rfl
theorem AM(a:List aU)(y:aU):(pd a y).getLast? = some y:=by
 unfold pd;split
 ·assumption
 ·simp
theorem vq{l:List aU}{y:aU}(h:l.getLast? = some y):(iK l).getLast? = some y:=by
 rcases List.eq_nil_or_concat l with rfl | ⟨l',z,rfl⟩
 ·cases h
 ·rw [List.concat_eq_append] at h ⊢
  have:z=y:=by simpa using h
  rw [vr,AM,this]
theorem ly{l:List aU}{i:Nat}{x:aU}(h:l[i]? = some x):l.take (i+1)=l.take i ++ [x]:=by
 rw [List.take_add_one,h]; rfl
theorem Bt{l:List aU}{i:Nat}{x:aU}(h:l[i]? = some x):(l.take (i+1)).getLast? = some x:=by
 rw [ly h]; simp
theorem He(l:List aU):(iK l).length≤l.length:=by
 have key:∀ (l a:List aU),(l.foldl pd a).length≤a.length+l.length:=by
  intro l;induction l with
  | nil=>intro a; simp
  | cons y l ih =>
    intro a;have h1:=ih (pd a y)
    have h2:(pd a y).length≤a.length+1:=by unfold pd; split <;> simp
    rw [List.foldl_cons,List.length_cons]; omega
 have:=key l []
 rw [List.length_nil,Nat.zero_add] at this;exact this
theorem qf{l:List aU}{i:Nat}{x y:aU}(h1:l[i]? = some y)(h2:l[i+1]? = some x):iK (l.take (i+1+1))=if y=x then iK (l.take (i+1)) else iK (l.take (i+1)) ++ [x]:=by
 rw [ly h2,vr];unfold pd;rw [vq (Bt h1)];simp
theorem zm(x y:aU):fstV ((aBin Tryz.prog .eql 28 (lA x) (lA y)).map fun v=>(v,none))=some (.bool (x==y)):=by
 obtain ⟨a,b,c⟩:=x;obtain ⟨d,e,f⟩:=y;have h:aBin Tryz.prog .eql 28 (lA (a,b,c)) (lA (d,e,f))=(bE (a==d) (bE (b==e) (bE (c==f) (some true)))).map .bool:=by kernel_rfl
 rw [h];simp only [eT,Bool.and_true];rfl
theorem Qr(x y:aU):fstV ((aBin Tryz.prog .neq 28 (lA x) (lA y)).map fun v=>(v,none))=some (.bool (!(x==y))):=by
 obtain ⟨a,b,c⟩:=x;obtain ⟨d,e,f⟩:=y;have h:aBin Tryz.prog .neq 28 (lA (a,b,c)) (lA (d,e,f))=(bE (a==d) (bE (b==e) (bE (c==f) (some true)))).map fun b=>.bool (!b):=by kernel_rfl
 rw [h];simp only [eT,Bool.and_true];rfl
theorem oU:bZ Tryz.prog 28=some 3:=by kernel_rfl
theorem KC:tagg Tryz.prog 28=some true:=by kernel_rfl
theorem Qa{off m i:Nat}(h:i<m):fstV ((aIndexAddr Tryz.prog 172 (cu off m) (iN i)).map fun v=>(v,none))=some (.pointer (some ⟨0,off+i*3,none⟩)):=by
 have h1:(0:Int)≤Int.ofNat i∧Int.ofNat i<(m:Int):=⟨Int.natCast_nonneg i,by simpa using h⟩
 simp only [aIndexAddr,cu,iN,Tryz.underlying172,oU];rw [if_pos h1];simp [fstV]
theorem Ea{m i:Nat}(h:i<m):fstV ((aIndexAddr Tryz.prog 172 (cu 0 m) (iN i)).map fun v=>(v,none))=some (pb 0 (i*3)):=by rw [Qa h,Nat.zero_add]; rfl
theorem Ec{p m i:Nat}(h:i<m):fstV ((aIndexAddr Tryz.prog 172 (cu (p*3) m) (iN i)).map fun v=>(v,none))=some (pb 0 ((p+i)*3)):=by rw [Qa h,Nat.add_mul]; rfl
theorem vY{hp:Hp}{us:List aU}{i:Nat}{x:aU}(hg:hp.get 0=some (lB us))(h:us[i]? = some x):aLoad Tryz.prog hp.get 28 (pb 0 (i*3))=some (lA x):=by
 simp only [aLoad,pb,hg,lB,KC,oU];have:=kM (f:=lc) (k:=3) (ps:=us) (fun _ _=>rfl) h
 unfold cQ;rw [this];rfl
theorem sC{A B C D:List Value}{k:Nat}(hk:A.length=k)(hl:D.length=B.length):putL (A++B++C) k D=A++D++C:=by
 apply List.ext_getElem?
 intro j;rw [fU];by_cases h1:j<k
 ·rw [if_neg (by omega),List.append_assoc,List.append_assoc,List.getElem?_append_left (by omega),List.getElem?_append_left (by omega)]
 ·by_cases h2:j<k+D.length
  ·rw [if_pos ⟨by omega,h2,by simp; omega⟩,List.append_assoc A D C,List.getElem?_append_right (by omega),List.getElem?_append_left (by omega),hk]
  ·rw [if_neg (by omega),List.getElem?_append_right (by simp; omega),List.getElem?_append_right (by simp; omega)]
   congr 1; simp; omega
theorem we(a b:List aU):cQ (a++b)=cQ a++cQ b:=by unfold cQ; rw [List.flatMap_append]
theorem Eg{us:List aU}{i:Nat}(h:i<us.length)(y:aU):putL (cQ us) (i*3) (lc y)=cQ (us.set i y):=by
 have e1:us=us.take i++us[i]::us.drop (i+1):=by rw [List.getElem_cons_drop,List.take_append_drop]
 have e2:us.set i y=us.take i++y::us.drop (i+1):=List.set_eq_take_append_cons_drop.trans (if_pos h)
 have f:∀ z:aU,cQ (us.take i++z::us.drop (i+1))=cQ (us.take i)++lc z++cQ (us.drop (i+1)):=fun z=>by rw [we]; show _++(lc z++cQ _)=_; rw [List.append_assoc]
 have l1:(cQ (us.take i)).length=i*3:=by rw [dW,List.length_take]; congr 1; omega
 rw [e2,f];conv=>lhs; rw [e1,f]
 exact sC l1 rfl
theorem MV{hp:Hp}{us:List aU}{i:Nat}(hg:hp.get 0=some (lB us))(h:i<us.length)(y:aU):(aStore Tryz.prog hp.get 28 (pb 0 (i*3)) (lA y)).map (fun es=>(undef,es))=some (undef,[.put 0 (lB (us.set i y))]):=by
 have hl:i*3+3≤(cQ us).length:=by rw [dW]; omega
 have e:aStore Tryz.prog hp.get 28 (pb 0 (i*3)) (lA y)=some [.put 0 (.cells 28 (putL (cQ us) (i*3) (lc y)) false)]:=by
  unfold aStore;simp only [pb,hg,lB,oU];exact if_pos (by show (decide (3=3)&&true&&decide (i*3+3≤(cQ us).length))=true; simp [hl])
 rw [e,Eg h];rfl
theorem Eh{n k:Nat}(h:k≤n):fstV ((aSlice Tryz.prog 172 (cu 0 n) (some (iN k)) none none).map fun v=>(v,none))=some (cu (k*3) (n-k)):=by
 have h1:(0:Int)≤Int.ofNat k∧Int.ofNat k≤(n:Int):=⟨Int.natCast_nonneg k,by simpa using h⟩
 have h0:(0:Int)≤(n:Int)∧(n:Int)≤((n+0:Nat):Int):=⟨Int.natCast_nonneg n,by simp⟩
 simp only [aSlice,cu,iN,Tryz.underlying172,oU,bound];rw [if_pos h1];simp [fstV,eJ,wide]
theorem MU{n k:Nat}(h:k≤n):fstV ((aSlice Tryz.prog 172 (cu 0 n) none (some (iN k)) none).map fun v=>(v,none))=some (cu 0 k):=by
 have h1:(0:Int)≤Int.ofNat k∧Int.ofNat k≤((n+spareOf 11:Nat):Int):=⟨Int.natCast_nonneg k,by simp only [Int.ofNat_eq_natCast]; exact Int.ofNat_le.2 (by omega)⟩
 simp only [aSlice,cu,iN,Tryz.underlying172,oU,bound];rw [if_pos h1];simp [fstV,eJ,wide]
noncomputable def z3:List Value:=(tzero Tryz.prog 28).getD []
theorem N1:tzero Tryz.prog 28=some z3:=by kernel_rfl
theorem NY:z3.length=3:=by kernel_rfl
theorem xk:z3.all inert=true:=by kernel_rfl
theorem wL(z:List Value):∀ n,(repL z n).length=n*z.length
 | 0=>by simp [repL]
 | n+1=>by rw [repL,List.length_append,wL z n,Nat.succ_mul]; omega
theorem mc{z:List Value}(h:z.all inert=true):∀ n,(repL z n).all inert=true
 | 0=>rfl
 | n+1=>by rw [repL,List.all_append,h,mc h n]; rfl
theorem MM{hp:Hp}{us:List aU}{k:Nat}(hg:hp.get 0=some (lB us))(h:k<us.length):aClear Tryz.prog hp.get [172] [cu (k*3) (us.length-k)]=some (.tuple #[],[.put 0 (.cells 28 (cQ (us.take k)++repL z3 (us.length-k)) false)]):=by
 have e1:cQ us=cQ (us.take k)++cQ (us.drop k):=by rw [← we,List.take_append_drop]
 have l1:(cQ (us.take k)).length=k*3:=by rw [dW,List.length_take]; congr 1; omega
 have l2:(cQ (us.drop k)).length=(us.length-k)*3:=by rw [dW,List.length_drop]
 have l3:(repL z3 (us.length-k)).length=(us.length-k)*3:=by rw [wL,NY]
 unfold aClear;simp only [cu,Tryz.underlying172];rw [if_neg (by omega)]
 simp only [N1,hg,lB];rw [if_pos (by rw [l3,dW]; omega),e1]
 have:=sC (A:=cQ (us.take k)) (B:=cQ (us.drop k)) (C:=[]) (D:=repL z3 (us.length-k)) l1 (by rw [l3,l2])
 rw [List.append_nil,List.append_nil] at this;rw [this]
noncomputable def kI(ls:List aU):List Value:=cQ (iK ls)++repL z3 (ls.length-(iK ls).length)
def jT(ls:List aU)(e:Exit)(st:St):Prop:=e = .ret∧∃ g,st=av 61 g [(2,cu 0 (iK ls).length)] [.cells 28 (kI ls) false]
theorem vE(b:af):(heapOf [b,.dead] aE).get 0=some b:=by rw [ak]; rfl
theorem Oe{a b:Nat}:decide (Int.ofNat a<Int.ofNat b)=decide (a<b):=decide_eq_decide.2 (by simp only [Int.ofNat_eq_natCast]; omega)
theorem w7(ls:List aU):(kI ls).all inert=true:=by unfold kI; rw [List.all_append,eK,mc xk]; rfl
theorem sN{N:Nat}{g:Nat→Value}{L:List (Nat×Value)}{O:List af}(L2:List (Nat×Value)):∃ g',av N g (L++L2) O=av N g' L O:=by
 refine ⟨frame g L2,?_⟩
 unfold av;congr 2
 funext t
 unfold frame;rw [List.find?_append]
 cases L.find? fun p=>Nat.beq p.1 t <;> rfl
theorem C9(ls:List aU)(hn:ls.length<1000000)(p:Nat)(hp:p+1<ls.length){y:aU}(h1:ls[p]? = some y)(h2:ls[p+1]? = some y)(hd:iK (ls.take (p+1))=ls.take (p+1))(g:Nat→Value)(W:bh) :
  ah Tryz.prog 61 W (.seq (sL qp) (.seq (.seq vQ (.block 2 (.loop qo))) vR)) (av 61 g [(0,cu 0 ls.length),(3,iN (p+1))] [lB ls]) (jT ls):=by
 have fx:∀ (us:List aU) (r:List af),∀ i,i<1→∀ o',(lB us::r)[i]? = some o'→dw 0 o':=fun us=>cq (kl us)
 have sT:codeSafe Tryz.prog 61 (sL qp)=true:=by kernel_rfl
 refine ah.seq (Q1:=fun e st=>e = .normal∧∃ g,st=av 61 g [(0,cu 0 ls.length),(3,iN (p+1)),(4,cu ((p+1)*3) (ls.length-(p+1)))] [lB ls]) (ah.bD eI follows 5 1 _ _ _ _ (XK ls ls.length p g) (Met.cons (Eh (by omega)) Met.nil) ay.nil az.nil sT rfl rfl (fx ls _) fun g=>⟨rfl,g,rfl⟩) ?_ (fun x st hne hq=>absurd hq.1 hne)
 rintro st ⟨-,g,rfl⟩;refine ah.seq (Q1:=fun e st=>e = .normal∧∃ (us:List aU) (m:Nat) (g:Nat→Value),m=(iK ls).length∧us=iK ls++ls.drop m∧m<ls.length∧st=av 61 g [(0,cu 0 ls.length),(3,iN m)] [lB us]) ?_ ?_ (fun x st hne hq=>absurd hq.1 hne)
 ·refine ah.seq (Q1:=fun e st=>e = .normal∧∃ g,st=av 61 g [(0,cu 0 ls.length),(3,iN (p+1)),(4,cu ((p+1)*3) (ls.length-(p+1))),(5,iN 1)] [lB ls]) (ah.bD eI follows 5 1 _ _ _ _ (XF ls ls.length p g) Met.nil ay.nil az.nil NO rfl rfl (fx ls _) fun g=>⟨rfl,g,rfl⟩) ?_ (fun x st hne hq=>absurd hq.1 hne)
  rintro st ⟨-,g,rfl⟩;refine ah.block ?_
  let I:Nat→St→Prop:=fun k st=>∃ (j m:Nat) (us a:List aU) (g:Nat→Value),(p+1)+(j+1)≤ls.length∧k=ls.length-j∧m≤(p+1)+j∧a=iK (ls.take ((p+1)+(j+1)))∧a.length=m∧us=a++ls.drop m ∧
    st=av 61 g [(0,cu 0 ls.length),(3,iN m),(4,cu ((p+1)*3) (ls.length-(p+1))),(5,iN (j+1))] [lB us]
  have start:I ls.length (av 61 g [(0,cu 0 ls.length),(3,iN (p+1)),(4,cu ((p+1)*3) (ls.length-(p+1))),(5,iN 1)] [lB ls]):=by
    have hm:=qf h1 h2
    rw [if_pos rfl,hd] at hm;refine ⟨0,p+1,ls,ls.take (p+1),g,by omega,by omega,by omega,hm.symm,by rw [List.length_take]; omega,(List.take_append_drop _ _).symm,rfl⟩
  refine ah.loop I ?_ (k:=ls.length) start
  rintro k st ⟨j,m,us,a,g,hj,hk,hm,ha,hal,hus,rfl⟩;have hul:us.length=ls.length:=by rw [hus,List.length_append,hal,List.length_drop]; omega
  have hget:∀ i,m≤i→us[i]? = ls[i]?:=fun i hi=>by
    rw [hus,List.getElem?_append_right (by omega),List.getElem?_drop]
    congr 1; omega
  cases h:decide (Int.ofNat (j+1)<Int.ofNat (ls.length-(p+1))) with
  | false =>
    have h3:(p+1)+(j+1)=ls.length:=by rw [Oe] at h; have:=of_decide_eq_false h; omega
    refine ah.bD eI follows 5 1 _ _ _ _ (XI us us ls.length p j m y y g) (Met.cons (aH h) Met.nil) ay.nil az.nil yx rfl rfl (fx us _) fun g=>.inr ⟨by simp,?_⟩
    show (if (2:Nat)=2 then _ else _)
    rw [if_pos rfl];rw [h3,List.take_of_length_le (Nat.le_refl _)] at ha;subst ha;exact ⟨rfl,us,m,g,hal.symm,hus,by omega,rfl⟩
  | true =>
    have hlt:(p+1)+(j+1)<ls.length:=by rw [Oe] at h; have:=of_decide_eq_true h; omega
    obtain ⟨x,hx⟩:∃ x,ls[(p+1)+(j+1)]? = some x:=⟨_,List.getElem?_eq_getElem hlt⟩
    obtain ⟨z,hz⟩:∃ z,ls[(p+1)+j]? = some z:=⟨_,List.getElem?_eq_getElem (by omega)⟩
    have hux:=(hget _ (by omega)).trans hx
    have huz:=(hget _ hm).trans hz
    have hmore:=qf (i:=(p+1)+j) hz hx
    have hR:∀ {b:Bool},(!(x==z))=b→AI.Met ([(fstV ((aBin Tryz.prog .neq 28 (lA x) (lA z)).map fun v=>(v,none)),.bool b),(aLoad Tryz.prog (heapOf [lB us,.dead] aE).get 28 (pb 0 (((p+1)+j)*3)),lA z),(fstV ((aIndexAddr Tryz.prog 172 (cu ((p+1)*3) (ls.length-(p+1))) (iN j)).map fun v=>(v,none)),pb 0 (((p+1)+j)*3)),(some (.int .i64 (wrapF .i64 (Int.ofNat (j+1)-Int.ofNat 1))),iN j),(aLoad Tryz.prog (heapOf [lB us,.dead] aE).get 28 (pb 0 (((p+1)+(j+1))*3)),lA x),(fstV ((aIndexAddr Tryz.prog 172 (cu ((p+1)*3) (ls.length-(p+1))) (iN (j+1))).map fun v=>(v,none)),pb 0 (((p+1)+(j+1))*3)),(some (.bool (decide ((Int.ofNat (j+1))<(Int.ofNat (ls.length-(p+1)))))),.bool true)]):=fun {b} hb =>
      Met.cons ((Qr x z).trans (aH hb)) (Met.cons (vY (vE _) huz) (Met.cons (Ec (by omega)) (Met.cons (gF (by omega)) (Met.cons (vY (vE _) hux) (Met.cons (Ec (by omega)) (Met.cons (aH h) Met.nil))))))
    cases hxz:(!(x==z)) with
    | true =>
      have hne:¬ z=x:=fun e=>by rw [e] at hxz; simp at hxz
      have hset:us.set m x=(a ++ [x])++ls.drop (m+1):=by
        rw [hus,List.set_append_right _ _ (by omega),hal,Nat.sub_self]
        obtain ⟨w,hw⟩:∃ w,ls[m]? = some w:=⟨_,List.getElem?_eq_getElem (by omega)⟩
        have e:ls.drop m=w::ls.drop (m+1):=by
          rw [List.getElem?_eq_getElem (by omega)] at hw
          rw [List.drop_eq_getElem_cons (by omega)]
          have:ls[m]=w:=by simpa using hw
          rw [this]
        rw [e];simp
      refine ah.bD eI follows 5 1 _ _ _ _ (XG us (us.set m x) ls.length p j m x z g)
        (Met.cons (bz (by omega)) (Met.cons (bz (by omega)) (Met.cons (Ea (by omega)) (Met.cons (vY (vE _) hux) (Met.cons (Ec (by omega)) (hR hxz))))))
        ay.nil (az.cons (MV (vE _) (by omega) x) az.nil) yx rfl rfl (fx _ _) fun g=>.inl ⟨rfl,ls.length-(j+1),by omega,j+1,m+1,us.set m x,a ++ [x],g,by omega,rfl,by omega,?_,by simp [hal],hset,rfl⟩
      rw [ha];exact (hmore.trans (if_neg hne)).symm
    | false =>
      have he:z=x:=by
        have:(x==z)=true:=by simpa using hxz
        exact (by simpa using this:x=z).symm
      refine ah.bD eI follows 5 1 _ _ _ _ (XH us us ls.length p j m x z g)
        (Met.cons (bz (by omega)) (hR hxz))
        ay.nil az.nil yx rfl rfl (fx _ _) fun g=>.inl ⟨rfl,ls.length-(j+1),by omega,j+1,m,us,a,g,by omega,rfl,by omega,?_,hal,hus,rfl⟩
      rw [ha];exact (hmore.trans (if_pos he)).symm
 ·rintro st ⟨-,us,m,g,hm,hus,hlt,rfl⟩
  have hul:us.length=ls.length:=by rw [hus,List.length_append,List.length_drop]; omega
  have htk:us.take m=iK ls:=by rw [hus,hm]; simp
  have hcl:=MM (vE (lB us)) (by omega:m<us.length)
  rw [htk,hul] at hcl;have hsl:=MU (n:=ls.length) (k:=m) (by omega)
  have hsl2:=Eh (n:=ls.length) (k:=m) (by omega)
  refine ah.bD eI follows 5 1 _ _ _ _ (XP us (cQ (iK ls)++repL z3 (ls.length-m)) ls.length m g) (Met.cons hsl (Met.cons hsl2 Met.nil)) ay.nil (az.cons hcl az.nil) NP rfl rfl (cq (by show List.all _ inert=true; rw [List.all_append,eK,mc xk]; rfl) _) fun g=>⟨rfl,g,?_⟩
  unfold kI;rw [hm]
theorem Hc(ls:List aU)(hn:ls.length<1000000)(W:bh):ah Tryz.prog 61 W C5 ⟨tmsOf [cu 0 ls.length] 0 .leaf,heapOf [lB ls,.dead] aE,[]⟩ (jT ls):=by
 have fx:∀ (us:List aU) (r:List af),∀ i,i<1→∀ o',(lB us::r)[i]? = some o'→dw 0 o':=fun us=>cq (kl us)
 have hall:iK ls=ls→∀ {e st},(e = .ret∧∃ g,st=av 61 g [(2,cu 0 ls.length)] [lB ls])→jT ls e st:=fun h e st q=>by
  unfold jT kI;rw [h,Nat.sub_self];show (_∧∃ g,st=av 61 g _ [.cells 28 (cQ ls ++ []) false])
  rw [List.append_nil]; exact q
 refine ah.seq (Q1:=fun e st=>e = .normal∧∃ g,st=av 61 g [(0,cu 0 ls.length)] [lB ls]) (ah.bD eI follows 5 1 _ _ _ _ (Xz ls ls.length) Met.nil ay.nil az.nil Sq rfl rfl (fx ls _) fun g=>⟨rfl,g,rfl⟩) ?_ (fun x st hne hq=>absurd hq.1 hne)
 rintro st ⟨-,g,rfl⟩;let Q1:Exit→St→Prop:=fun e st=>(e = .normal∧2≤ls.length∧∃ g,st=av 61 g [(0,cu 0 ls.length)] [lB ls])∨jT ls e st
 refine ah.seq (Q1:=Q1) ?_ ?_ ?_
 ·have hs:codeSafe Tryz.prog 61 (.seq DZ D0)=true:=by simp only [codeSafe,Sr,Ss]; rfl
  cases h:decide (Int.ofNat ls.length<Int.ofNat 2) with
  | true =>
    have h2:ls.length<2:=by rw [Oe] at h; exact of_decide_eq_true h
    have hd:iK ls=ls:=by
      match ls,h2 with
      | [],_=>rfl
      | [x],_=>rfl
    exact ah.bD eI follows 5 1 _ _ _ _ (XA ls ls.length g) (Met.cons (aH h) Met.nil) ay.nil az.nil hs rfl rfl (fx ls _) fun g=>.inr (hall hd ⟨rfl,g,rfl⟩)
  | false =>
    have h2:2≤ls.length:=by rw [Oe] at h; have:=of_decide_eq_false h; omega
    exact ah.bD eI follows 5 1 _ _ _ _ (XB ls ls.length g) (Met.cons (aH h) Met.nil) ay.nil az.nil hs rfl rfl (fx ls _) fun g=>.inl ⟨rfl,h2,g,rfl⟩
 ·rintro st (⟨-,h2,g,rfl⟩ | ⟨h,-⟩)
  ·let Q2:Exit→St→Prop:=fun e st=>(e = .normal∧iK ls=ls∧∃ g,st=av 61 g [(0,cu 0 ls.length)] [lB ls])∨jT ls e st
   refine ah.seq (Q1:=Q2) ?_ ?_ ?_
   ·refine ah.seq (Q1:=fun e st=>e = .normal∧∃ g,st=av 61 g [(0,cu 0 ls.length),(3,iN 1)] [lB ls]) (ah.bD eI follows 5 1 _ _ _ _ (XD ls ls.length g) Met.nil ay.nil az.nil Su rfl rfl (fx ls _) fun g=>⟨rfl,g,rfl⟩) ?_ (fun x st hne hq=>absurd hq.1 hne)
    rintro st ⟨-,g,rfl⟩;refine ah.block ?_
    have start:∃ q g',q+1≤ls.length∧ls.length=ls.length-q∧iK (ls.take (q+1))=ls.take (q+1)∧av 61 g [(0,cu 0 ls.length),(3,iN 1)] [lB ls]=av 61 g' [(0,cu 0 ls.length),(3,iN (q+1))] [lB ls]:=by
      obtain ⟨x,hx⟩:∃ x,ls[0]? = some x:=⟨_,List.getElem?_eq_getElem (by omega)⟩
      exact ⟨0,g,by omega,by omega,by rw [ly hx]; rfl,rfl⟩
    refine ah.loop (fun k st=>∃ q g,q+1≤ls.length∧k=ls.length-q∧iK (ls.take (q+1))=ls.take (q+1)∧st=av 61 g [(0,cu 0 ls.length),(3,iN (q+1))] [lB ls]) ?_ (k:=ls.length) start
    rintro k st ⟨q,g,hq,hk,hd,rfl⟩;obtain ⟨y,hy⟩:∃ y,ls[q]? = some y:=⟨_,List.getElem?_eq_getElem (by omega)⟩
    refine ah.seq (Q1:=fun e st=>(e = .normal∧q+1<ls.length∧∃ g,st=av 61 g [(0,cu 0 ls.length),(3,iN (q+1))] [lB ls])∨(e = .exit 0∧q+1=ls.length∧∃ g,st=av 61 g [(0,cu 0 ls.length),(3,iN (q+1))] [lB ls])) ?_ ?_ ?_
    ·cases h:decide (Int.ofNat (q+1)<Int.ofNat ls.length) with
     | true =>
       have h3:q+1<ls.length:=by rw [Oe] at h; exact of_decide_eq_true h
       exact ah.bD eI follows 5 1 _ _ _ _ (XM ls ls.length q g) (Met.cons (aH h) Met.nil) ay.nil az.nil Fg rfl rfl (fx ls _) fun g=>.inl ⟨rfl,h3,g,rfl⟩
     | false =>
       have h3:q+1=ls.length:=by rw [Oe] at h; have:=of_decide_eq_false h; omega
       exact ah.bD eI follows 5 1 _ _ _ _ (XN ls ls.length q g) (Met.cons (aH h) Met.nil) ay.nil az.nil Fg rfl rfl (fx ls _) fun g=>.inr ⟨rfl,h3,g,rfl⟩
    ·rintro st (⟨-,hlt,g,rfl⟩ | ⟨h,-⟩)
     ·obtain ⟨x,hx⟩:∃ x,ls[q+1]? = some x:=⟨_,List.getElem?_eq_getElem hlt⟩
      have hm:=qf hy hx
      have met:∀ {b:Bool},(x==y)=b→AI.Met [(fstV ((aBin Tryz.prog .eql 28 (lA x) (lA y)).map fun v=>(v,none)),.bool b),(aLoad Tryz.prog (heapOf [lB ls,.dead] aE).get 28 (pb 0 (q*3)),lA y),(fstV ((aIndexAddr Tryz.prog 172 (cu 0 ls.length) (iN q)).map fun v=>(v,none)),pb 0 (q*3)),(some (.int .i64 (wrapF .i64 (Int.ofNat (q+1)-Int.ofNat 1))),iN q),(aLoad Tryz.prog (heapOf [lB ls,.dead] aE).get 28 (pb 0 ((q+1)*3)),lA x),(fstV ((aIndexAddr Tryz.prog 172 (cu 0 ls.length) (iN (q+1))).map fun v=>(v,none)),pb 0 ((q+1)*3))]:=fun h =>
        Met.cons ((zm x y).trans (aH h)) (Met.cons (vY (vE _) hy) (Met.cons (Ea (by omega)) (Met.cons (gF (by omega)) (Met.cons (vY (vE _) hx) (Met.cons (Ea (by omega)) Met.nil)))))
      cases hxy:(x==y) with
      | false =>
        have hne:¬ y=x:=fun e=>by rw [e] at hxy; simp at hxy
        refine ah.bD eI follows 5 1 _ _ _ _ (XL ls ls.length q x y g) (Met.cons (bz (by omega)) (met hxy)) ay.nil az.nil WK rfl rfl (fx ls _) fun g=>.inl ⟨rfl,ls.length-(q+1),by omega,q+1,g,by omega,rfl,?_,rfl⟩
        rw [hm,if_neg hne,hd,ly hx]
      | true =>
        have he:x=y:=by simpa using hxy
        subst he;refine ah.seq (Q1:=jT ls) (ah.block ?_) (fun st h=>by cases h.1) (fun e st hne h=>?_)
        ·have e1:∀ {e st},jT ls e st→(match e with | .exit i=>if i=1 then jT ls .normal st else jT ls (.exit i) st | e=>jT ls e st):=fun {e st} h=>by
            obtain ⟨rfl,h⟩:=h;exact ⟨rfl,h⟩
         refine ah.mono (?_:ah Tryz.prog 61 W _ _ (jT ls)) fun e st h=>e1 h
         refine ah.seq (Q1:=fun e st=>e = .normal∧∃ g,st=av 61 g [(0,cu 0 ls.length),(3,iN (q+1)),(25,.bool true)] [lB ls]) (ah.bD eI follows 5 1 _ _ _ _ (XO ls ls.length q x x g) (met hxy) ay.nil az.nil It rfl rfl (fx ls _) fun g=>⟨rfl,g,rfl⟩) ?_ (fun x st hne hq=>absurd hq.1 hne)
         rintro st ⟨-,g,rfl⟩;obtain ⟨g',eg⟩:=sN (N:=61) (g:=g) (L:=[(0,cu 0 ls.length),(3,iN (q+1))]) (O:=[lB ls]) [(25,.bool true)];refine ah.cond_true rfl rfl ?_
         show ah Tryz.prog 61 W _ (av 61 g ([(0,cu 0 ls.length),(3,iN (q+1))] ++ [(25,.bool true)]) [lB ls]) _
         rw [eg];exact C9 ls hn q hlt hy hx hd g' W
        ·obtain ⟨rfl,h⟩:=h
         exact .inr ⟨by simp,.inr ⟨rfl,h⟩⟩
     ·cases h
    ·rintro e st hne (⟨h,-⟩ | ⟨rfl,h3,g,rfl⟩)
     ·exact absurd h hne
     ·refine .inr ⟨by simp,?_⟩
      show (if (0:Nat)=0 then Q2 .normal _ else Q2 (.exit 0) _)
      rw [if_pos rfl];refine .inl ⟨rfl,?_,?_⟩
      ·rw [h3,List.take_of_length_le (Nat.le_refl _)] at hd; exact hd
      ·exact sN (L:=[(0,cu 0 ls.length)]) [(3,iN (q+1))]
   ·rintro st (⟨-,hd,g,rfl⟩ | ⟨h,-⟩)
    ·exact ah.bD eI follows 5 1 _ _ _ _ (XE ls ls.length g) Met.nil ay.nil az.nil Sv rfl rfl (fx ls _) fun g=>hall hd ⟨rfl,g,rfl⟩
    ·cases h
   ·rintro e st hne (⟨h,-⟩ | h)
    ·exact absurd h hne
    ·exact h
  ·cases h
 ·rintro e st hne (⟨h,-⟩ | h)
  ·exact absurd h hne
  ·exact h
theorem DE{L1 L2:List Value}{i:Nat}{v:Value}(h:L1[i]? = some v):(L1++L2)[i]? = some v:=by
 rw [List.getElem?_append_left (List.getElem?_eq_some_iff.1 h).1]; exact h
theorem AL{P:Program}{f:FuncId}{g g2:aC}(hg:aq P f g)
  (H:∀ args hp v hp2,g2 args hp=some (v,hp2)→hp.ok→∃ dj,g args hp=some (v,dj)∧hp2.ok∧hp2.sz=dj.sz ∧
    ∀ b,hp2.get b=dj.get b∨(hp.sz≤b∧b<dj.sz∧∃ ty L1 L2,dj.get b=some (.cells ty (L1++L2) false)∧hp2.get b=some (.cells ty L1 false))):aq P f g2:=by
 intro args hp v hp2 he hk;obtain ⟨dj,h1,uL,hsz,hcut⟩:=H args hp v hp2 he hk;obtain ⟨tS,hle,hgo⟩:=hg args hp v dj h1 hk;refine ⟨uL,by rw [hsz]; exact hle,fun m h w args' hfr s ra=>?_⟩
 have step:∀ v' w',(∃ m',dR m (aM hp h) w m' (aM dj h) w'∧aj m' (aM dj h) v v')→∃ m',dR m (aM hp h) w m' (aM hp2 h) w'∧aj m' (aM hp2 h) v v':=?_
 ·rcases hgo m h w args' (fun b a c=>hfr b a (by rw [hsz]; exact c)) s ra with ⟨v',w',q1,q2⟩ | ⟨q1,q2⟩
  ·exact .inl ⟨v',w',q1,step v' w' q2⟩
  ·exact .inr ⟨q1,q2.mono fun e w' hh=>by
      obtain ⟨v',h1,h2⟩:=hh;exact ⟨v',h1,step v' w' h2⟩⟩
 rintro v' w' ⟨m',go,rv⟩;have hov:∀ b,aM hp2 h b=aM dj h b∨(hp.sz≤b∧b<dj.sz∧∃ ty L1 L2,aM dj h b=some (.cells ty (L1++L2) false)∧aM hp2 h b=some (.cells ty L1 false)):=by
  intro b;unfold aM;rw [hsz];by_cases hb:b<dj.sz
  ·simp only [if_pos hb]
   rcases hcut b with e | ⟨q1,q2,q3⟩
   ·exact .inl e
   ·exact .inr ⟨q1,q2,q3⟩
  ·exact .inl (by rw [if_neg hb,if_neg hb])
 have hrw:∀ b,rw? (aM hp2 h) b=rw? (aM dj h) b:=fun b=>by
  unfold rw?;rcases hov b with e | ⟨_,_,ty,L1,L2,e1,e2⟩
  ·rw [e]
  ·rw [e1,e2]
 have hlv:∀ b,aV (aM hp2 h) b=aV (aM dj h) b:=fun b=>by
  unfold aV;rcases hov b with e | ⟨_,_,ty,L1,L2,e1,e2⟩
  ·rw [e]
  ·rw [e1,e2]
 have le2:Le m' (aM dj h) m' (aM hp2 h):=⟨fun b hb=>(by
  rcases hov b with e | ⟨_,_,ty,L1,L2,e1,_⟩
  ·rw [e]; exact hb
  ·rw [e1] at hb; cases hb),fun b x hx=>.inr hx⟩
 refine ⟨m',⟨go.le.trans le2,⟨fun b x hx=>?_,fun b b' x x' hx hx' hr hl e=>go.sim.inj b b' x x' hx hx' (by rw [← hrw]; exact hr) (by rw [← hlv]; exact hl) e⟩,go.size,go.new,go.frame,go.un,fun b o hb hm=>?_,fun b o hb=>?_,fun b x hx hr=>go.rwb b x hx (by rw [← hrw]; exact hr),go.os,go.tape,go.output⟩,rv.mono le2⟩
 ·obtain ⟨o,ho,hbr⟩:=go.sim.dom b x hx
  rcases hov b with e | ⟨_,_,ty,L1,L2,e1,e2⟩
  ·exact ⟨o,by rw [e]; exact ho,hbr.mono le2 rfl⟩
  ·rw [e1] at ho; cases ho
   obtain ⟨c,fr,k1,k2,k3,k4,k5⟩:=hbr;refine ⟨_,e2,c,fr,k1,by rw [List.length_append] at k2; omega,k3,fun i v v' p1 p2=>(k4 i v v' (DE p1) p2).mono le2,k5.1,fun h=>by cases h⟩
 ·have:=go.idle b o hb hm
  rcases hov b with e | ⟨q1,q2,_⟩
  ·rw [e]; exact this
  ·have hn:=hfr b q1 (by rw [hsz]; exact q2)
   unfold aM at hb;rw [if_neg (by omega)] at hb
   rw [hn] at hb; cases hb
 ·obtain ⟨o',ho'⟩:=go.ex b o hb
  rcases hov b with e | ⟨_,_,ty,L1,L2,e1,e2⟩
  ·exact ⟨o',by rw [e]; exact ho'⟩
  ·exact ⟨_,e2⟩
theorem yB{m:BM}{h:HG}{w:World}{hp:Hp}(s:cg m (aM hp h) w)(hk:hp.ok){b:Nat}{t1:TypeId}{L:List Value}(h1:hp.get b=some (.cells t1 L false))(i1:L.all inert=true)
  {r δ E:Nat} (hm:m b=some (r,δ,E)):cg (canM m [b]) (heapOf [.cells t1 L false,.dead] aE).get w:=by
 have g1:=bq hk h b _ h1
 obtain ⟨o',ho',hbr⟩:=s.dom b _ hm;rw [g1] at ho'; cases ho';obtain ⟨c,fr,q1,q2,q3,q4,q5⟩:=hbr;have e0:(heapOf [.cells t1 L false,.dead] aE).get 0=some (.cells t1 L false):=by rw [ak]; rfl
 have cM:∀ i x,canM m [b] i=some x→(i=0∧m b=some x):=by
  intro i x hx;unfold canM at hx;match i with
  | 0=>exact ⟨rfl,hx⟩
  | i+1=>simp at hx
 refine ⟨fun i x hx=>?_,fun i i' x x' hx hx' hr hl hxx=>?_⟩
 ·obtain ⟨rfl,hy⟩:=cM i x hx
  rw [hm] at hy; cases hy;exact ⟨_,e0,c,fr,q1,q2,q3,fun i v v' p1 p2=>gB (List.all_eq_true.1 i1 v (List.mem_of_getElem? p1)) (q4 i v v' p1 p2),q5⟩
 ·obtain ⟨rfl,_⟩:=cM i x hx
  obtain ⟨rfl,_⟩:=cM i' x' hx';rfl
open Classical in
noncomputable def gCoF:aC:=fun args hp=>match args with
 | [.slice (some ⟨b,0,none⟩) n c]=>if h:∃ ls:List aU,hp.get b=some (lB ls)∧n=ls.length∧0<n∧n<1000000 then some (.slice (some ⟨hp.sz,0,none⟩) (iK h.choose).length 11,heapOf ([.cells 28 (kI h.choose) false] ++ [.dead]) (killL [b] hp)) else none
 | _=>none
open Classical in
noncomputable def N9:aC:=fun args hp=>match args with
 | [.slice (some ⟨b,0,none⟩) n c]=>if h:∃ ls:List aU,hp.get b=some (lB ls)∧n=ls.length∧0<n∧n<1000000 then some (.slice (some ⟨hp.sz,0,none⟩) (iK h.choose).length 11,heapOf ([lB (iK h.choose)] ++ [.dead]) (killL [b] hp)) else none
 | _=>none
theorem Fi{m:BM}{h:HG}{b n c:Nat}{x:Value}(r:aj m h (.slice (some ⟨b,0,none⟩) n c) x):aj m h (.slice (some ⟨b,0,none⟩) n 11) x:=by
 obtain ⟨_,_,r1,o1,cap,q1,rfl,h0,hh⟩:=r.dM;cases q1;refine .slice (.of h0.1 (by decide)) ?_
 rcases hh with hd | ⟨δ,E,h1,h2,_⟩
 ·exact .inl hd
 ·exact .inr ⟨δ,E,h1,h2,(fun h=>by cases h),fun h=>by cases h⟩
theorem PG:aq Tryz.prog 202 gCoF:=nV follows Tryz.func202 Hb (by kernel_rfl) fun args hp v hp' he hk=>by
 unfold gCoF at he;split at he
 case h_2=>cases he
 rename_i b n c;split at he
 case isFalse=>cases he
 rename_i hx;obtain ⟨hb,hn,hn0,hn1⟩:=hx.choose_spec;generalize hx.choose=ls at *;cases he;refine ⟨[b],[.cells 28 (kI ls) false],rfl,fun b' hb'=>?_,fun m h w args' s ra=>?_⟩
 ·have:b'=b:=by simpa using hb'
  subst this;exact ⟨_,hb,rfl⟩
 obtain ⟨v1,bs1,e1,r1,ra1⟩:=ra.of_cons;have e4:=ra1.of_nil
 subst e4;obtain ⟨_,_,rr,oo,cap,q1,rfl,hcap,hh⟩:=r1.dM;cases q1;have gb:=bq hk h b _ hb
 rcases hh with hd | ⟨δ,E,hm,hoff,hcok⟩
 ·rw [gb] at hd; cases hd
 refine ⟨fun b' hb'=>?_,?_⟩
 ·have:b'=b:=by simpa using hb'
  subst this;exact ⟨_,hm⟩
 refine ⟨[0],[cu 0 n],heapOf [lB ls,.dead] aE,canM m [b],rfl,rfl,bF _ _ iO,yB s hk hb (eK ls) hm,fun b' x hx _=>?_,?_,by rw [ntmps45]; simp,fun W=>?_⟩
 ·unfold canM at hx
  match b' with
  | 0=>exact ⟨b,by simp,x,hx,rfl⟩
  | b'+1=>simp at hx
 ·rw [e1]
  exact .cons (.slice (.of hcap.1 (by decide)) (.inr ⟨δ,E,hm,hoff,(fun h=>by cases h),fun h=>by cases h⟩)) .nil
 ·rw [ntmps45,hn]
  refine ah.mono (Hc ls (by omega) W) fun e st q=>?_
  obtain ⟨rfl,g,rfl⟩:=q;have hI:aA (.cells 28 (kI ls) false)=true:=w7 ls
  have h0:(av 61 g [(2,cu 0 (iK ls).length)] [.cells 28 (kI ls) false]).hp.get 0=some (.cells 28 (kI ls) false):=vE _
  refine ⟨.inr rfl,rfl,_,XU _ _ g,rfl,fun b' hb'=>?_,fun m h x hx=>?_,?_⟩
  ·have:b'=0:=by simpa using hb'
   subst this;exact ⟨_,h0,eY hI,rfl⟩
  ·have:sh3 [0] hp.sz (cu 0 (iK ls).length) = .slice (some ⟨hp.sz,0,none⟩) (iK ls).length 11:=by simp [sh3,sh2,sh1,jj,idxOf,cu]
   rw [this] at hx;exact Fi hx
  ·simp only [cH,List.map_cons,List.map_nil,h0,Option.getD_some,cG hI]
theorem Ue:aq Tryz.prog 202 N9:=AL PG fun args hp v hp2 he hk=>by
 unfold N9 at he;split at he
 case h_2=>cases he
 rename_i b n c;split at he
 case isFalse=>cases he
 rename_i hx;cases he;have hlt:=cV hk hx.choose_spec.1
 refine ⟨heapOf ([.cells 28 (kI hx.choose) false] ++ [.dead]) (killL [b] hp),by unfold gCoF; simp only; rw [dif_pos hx],?_,?_,fun b'=>?_⟩
 ·refine bF _ _ fun c hc=>?_
  rw [cZ] at hc;rw [kR,if_neg (by simp; omega)]
  exact hk c hc
 ·rw [cr,cr]; rfl
 ·rw [heapOf_get,heapOf_get,cZ]
  by_cases h1:b'<hp.sz
  ·rw [if_pos h1,if_pos h1]; exact .inl rfl
  ·rw [if_neg h1,if_neg h1]
   by_cases h2:b'-hp.sz=0
   ·rw [h2]
    refine .inr ⟨by omega,by rw [cr,cZ]; simp; omega,28,cQ (iK hx.choose),repL z3 (hx.choose.length-(iK hx.choose).length),rfl,rfl⟩
   ·obtain ⟨k,uL⟩:∃ k,b'-hp.sz=k+1:=⟨b'-hp.sz-1,by omega⟩
    rw [uL]; exact .inl rfl
theorem Mb{ls:List aU}{b n c:Nat}{hp:Hp}(hb:hp.get b=some (lB ls))(hn:n=ls.length)(h0:0<n)(h1:n<1000000):N9 [.slice (some ⟨b,0,none⟩) n c] hp=some (.slice (some ⟨hp.sz,0,none⟩) (iK ls).length 11,heapOf [lB (iK ls),.dead] (hp.put b .dead)):=by
 unfold N9;have hx:∃ ls:List aU,hp.get b=some (lB ls)∧n=ls.length∧0<n∧n<1000000:=⟨ls,hb,hn,h0,h1⟩
 simp only;rw [dif_pos hx];have e2:=hb.symm.trans hx.choose_spec.1
 unfold lB at e2;injection e2 with e2
 injection e2 with _ e2 _
 have e3:=qv e2
 exact congrArg (fun l=>some (Value.slice (some ⟨hp.sz,0,none⟩) (iK l).length 11,heapOf ([lB (iK l)] ++ [.dead]) (killL [b] hp))) e3.symm
def bA(x:aa):aU:=(km x.n x.t x.o x.r x.d x.i,kq x.n x.t x.o x.r x.d x.i,ks x.n x.t x.o x.r x.d x.i)
def nb(b k:Nat):Value:=.slice (some ⟨b,0,none⟩) k 10
def FX(f:Bool)(b k:Nat):Value:=bif f then nb b k else au
noncomputable def rZ:Ext:=fh (cS Tryz.prog [(157,S0),(106,HA)]) [(201,gSF),(202,N9)]
theorem j5:ExtOk Tryz.prog rZ:=bC (aT (.cons Pz (.cons xY .nil))) (.cons Ug (.cons Ue .nil))
noncomputable def JS:Ext:=cS Tryz.prog []
theorem Gd:ExtOk Tryz.prog JS:=aT .nil
noncomputable def pe:Code:=(Tryz.f168.body).getD .skip
theorem ntmps21:Tryz.f168.ntmps=26:=by kernel_rfl
theorem S7(v:Value)(O:List af)(g:Nat→Value):retVal Tryz.prog Tryz.f168 (av 26 g [(2,v)] O)=some v:=by kernel_rfl
noncomputable def HP:Code:=sL (pe)
theorem JI:codeSafe Tryz.prog 26 HP=true:=by kernel_rfl
noncomputable def MC:Code:=sL (sR (pe))
theorem Sn:codeSafe Tryz.prog 26 MC=true:=by kernel_rfl
noncomputable def MD:Code:=sL (sL (sR (sR (pe))))
theorem Sp:codeSafe Tryz.prog 26 MD=true:=by kernel_rfl
noncomputable def DX:Code:=mr (jh (sR (sL (sR (sR (pe))))))
theorem Ff:codeSafe Tryz.prog 26 DX=true:=by kernel_rfl
noncomputable def DY:Code:=sR (sR (sR (pe)))
theorem JJ:codeSafe Tryz.prog 26 DY=true:=by kernel_rfl
noncomputable abbrev kj:Code:=.seq HP (.seq MC (.seq (.seq MD (.block 0 (.loop DX))) DY))
theorem xG:Tryz.f168.body=some kj:=by kernel_rfl
section
theorem Qi(o:af)(n c:Nat):(execN Tryz.prog (aCall Tryz.prog rZ 60) (callN Tryz.prog rZ 60) 60 HP ⟨tmsOf [ae 0 n c] 0 .leaf,heapOf [o,.dead] aE,[]⟩ (ej [])).map (fun y=>(look2 1 [0] [0] (y.1,y.2.1),y.2.2.q,y.2.2.r,y.2.2.x)) =
 some ((.normal,[o],[(0,vS true 0 n c)],true),[],[],[]):=by kernel_rfl
end
section
theorem MZ  : (execN Tryz.prog (aCall Tryz.prog rZ 60) (callN Tryz.prog rZ 60) 60 HP ⟨tmsOf [au] 0 .leaf,heapOf [.dead] aE,[]⟩ (ej [])).map (fun y=>(look2 1 [0] [0] (y.1,y.2.1),y.2.2.q,y.2.2.r,y.2.2.x)) =
 some ((.normal,[.dead],[(0,au)],true),[],[],[]):=by kernel_rfl
end
section
theorem Qj(f:Bool)(o:af)(n c:Nat)(g:Nat→Value):(execN Tryz.prog (aCall Tryz.prog rZ 60) (callN Tryz.prog rZ 60) 60 MC (av 26 g [(0,vS f 0 n c)] [o]) (ej [])).map (fun y=>(look2 2 [0,1] [0,3] (y.1,y.2.1),y.2.2.q,y.2.2.r,y.2.2.x)) =
 some ((.normal,[o,.dead],[(0,vS f 0 n c),(3,au)],true),[],[],[]):=by cases f <;> kernel_rfl
end
section
theorem Qk(f:Bool)(o:af)(n c:Nat)(g:Nat→Value):(execN Tryz.prog (aCall Tryz.prog rZ 60) (callN Tryz.prog rZ 60) 60 MD (av 26 g [(0,vS f 0 n c),(3,au)] [o,.dead]) (ej [])).map (fun y=>(look2 2 [0,1] [3,6,7,8] (y.1,y.2.1),y.2.2.q,y.2.2.r,y.2.2.x)) =
 some ((.normal,[o,.dead],[(3,au),(6,vS f 0 n c),(7,iN (kk f n)),(8,iN 0)],true),[],[],[]):=by cases f <;> kernel_rfl
end
theorem Qn(f fu:Bool)(o U:af)(n c u i:Nat)(x:aa)(zs:List aU)(g:Nat→Value):(execN Tryz.prog (aCall Tryz.prog rZ 60) (callN Tryz.prog rZ 60) 60 DX (av 26 g [(3,FX fu 1 u),(6,vS f 0 n c),(7,iN (kk f n)),(8,iN i)] [o,U]) (ej [(0,.v (.bool false))])).map (fun y=>(look2 1 [1] [3] (y.1,y.2.1),y.2.2.q,y.2.2.r,y.2.2.x)) =
 some ((.exit 0,[U],[(3,FX fu 0 u)],true),[(some (.bool (decide ((Int.ofNat i)<(Int.ofNat (kk f n))))),.bool false)],[],[]):=by cases f <;> cases fu <;> kernel_rfl
theorem Ql(f fu:Bool)(o U:af)(n c u i:Nat)(x:aa)(zs:List aU)(g:Nat→Value):(execN Tryz.prog (aCall Tryz.prog rZ 60) (callN Tryz.prog rZ 60) 60 DX (av 26 g [(3,FX fu 1 u),(6,vS true 0 n c),(7,iN (kk true n)),(8,iN i)] [o,U]) (ej [(15,.v (iN (i+1))),(13,.e (nb 5 (u+1)) (gl fu 1 (lB zs))),(7,.v (.bool true)),(2,.v (.agg ⟨vc x⟩)),(1,.v (pb 0 (i*7))),(0,.v (.bool true))])).map (fun y=>(look2 2 [0,5] [3,6,7,8] (y.1,y.2.1),y.2.2.q,y.2.2.r,y.2.2.x)) =
 some ((.normal,[o,lB zs],[(3,.slice (some ⟨1,0,none⟩) (u+1) 10),(6,vS true 0 n c),(7,iN (kk true n)),(8,iN (i+1))],true),[(some (.int .i64 (wrapF .i64 (Int.ofNat i+Int.ofNat 1))),iN (i+1)),(some (.bool (toldV x)),.bool true),(aLoad Tryz.prog (heapOf [o,U,.dead] aE).get 78 (pb 0 (i*7)),.agg ⟨vc x⟩),(fstV ((aIndexAddr Tryz.prog 24 (vS true 0 n c) (iN i)).map fun v=>(v,none)),pb 0 (i*7)),(some (.bool (decide ((Int.ofNat i)<(Int.ofNat (kk true n))))),.bool true)],[],[(aAppend Tryz.prog (heapOf [o,U,.dead,.cells 78 [.int .i64 x.id,.bool x.n,.int .i64 x.t,.int .i64 x.o,.int .i64 x.r,.int .i64 x.d,.int .i64 x.i] false,.cells 28 [.int .i64 ((bA x).1),.int .i64 ((bA x).2.1),.int .i64 ((bA x).2.2)] false] aE).get 5 [172,172] [FX fu 1 u,nb 4 1],(nb 5 (u+1),gl fu 1 (lB zs)))]):=by cases fu <;> kernel_rfl
theorem Qm(f fu:Bool)(o U:af)(n c u i:Nat)(x:aa)(zs:List aU)(g:Nat→Value):(execN Tryz.prog (aCall Tryz.prog rZ 60) (callN Tryz.prog rZ 60) 60 DX (av 26 g [(3,FX fu 1 u),(6,vS true 0 n c),(7,iN (kk true n)),(8,iN i)] [o,U]) (ej [(8,.v (iN (i+1))),(7,.v (.bool false)),(2,.v (.agg ⟨vc x⟩)),(1,.v (pb 0 (i*7))),(0,.v (.bool true))])).map (fun y=>(look2 2 [0,1] [3,6,7,8] (y.1,y.2.1),y.2.2.q,y.2.2.r,y.2.2.x)) =
 some ((.normal,[o,U],[(3,FX fu 1 u),(6,vS true 0 n c),(7,iN (kk true n)),(8,iN (i+1))],true),[(some (.int .i64 (wrapF .i64 (Int.ofNat i+Int.ofNat 1))),iN (i+1)),(some (.bool (toldV x)),.bool false),(aLoad Tryz.prog (heapOf [o,U,.dead] aE).get 78 (pb 0 (i*7)),.agg ⟨vc x⟩),(fstV ((aIndexAddr Tryz.prog 24 (vS true 0 n c) (iN i)).map fun v=>(v,none)),pb 0 (i*7)),(some (.bool (decide ((Int.ofNat i)<(Int.ofNat (kk true n))))),.bool true)],[],[]):=by cases fu <;> kernel_rfl
section
theorem Qo(us ss dd:List aU)(k d:Nat)(g:Nat→Value):(execN Tryz.prog (aCall Tryz.prog rZ 60) (callN Tryz.prog rZ 60) 60 DY (av 26 g [(3,.slice (some ⟨0,0,none⟩) k 10)] [lB us]) (ej [(3,.e (.slice (some ⟨2,0,none⟩) d 11) [.put 0 (.dead),.push (lB dd),.push (.dead)]),(1,.e (.tuple #[]) [.put 0 (lB ss)])])).map (fun y=>(look2 1 [2] [2] (y.1,y.2.1),y.2.2.q,y.2.2.r,y.2.2.x)) =
 some ((.ret,[lB dd],[(2,.slice (some ⟨0,0,none⟩) d 11)],true),[],[(N9 [.slice (some ⟨0,0,none⟩) k 10] (heapOf [lB ss,.dead] aE),(.slice (some ⟨2,0,none⟩) d 11,(heapOf [lB ss,.dead] aE).pr [.put 0 (.dead),.push (lB dd),.push (.dead)])),(gSF [.slice (some ⟨0,0,none⟩) k 10,.func (.func 105) #[] #[]] (heapOf [lB us,.dead] aE),(.tuple #[],(heapOf [lB us,.dead] aE).pr [.put 0 (lB ss)]))],[]):=by kernel_rfl
end
section
theorem M0(g:Nat→Value):(execN Tryz.prog (aCall Tryz.prog JS 60) (callN Tryz.prog JS 60) 60 DY (av 26 g [(3,au)] [.dead]) (ej [])).map (fun y=>(look2 0 [] [2] (y.1,y.2.1),y.2.2.q,y.2.2.r,y.2.2.x)) =
 some ((.ret,[],[(2,au)],true),[],[],[]):=by kernel_rfl
end
def ownL(ls:List aU):af:=match ls with
 | []=>.dead
 | l::ls=>lB (l::ls)
theorem nh{ls:List aU}(h:ls≠[]):ownL ls=lB ls:=by cases ls with
 | nil=>exact absurd rfl h
 | cons=>rfl
theorem qG(ls:List aU):aA (ownL ls)=true:=by cases ls with
 | nil=>rfl
 | cons=>exact kl _
def oS(ls:List aU)(b:Nat):Value:=match ls with
 | []=>au
 | l::ls=>.slice (some ⟨b,0,none⟩) (ls.length+1) 11
def sF(ls:List aU):List af:=match ls with
 | []=>[]
 | l::ls=>[lB (l::ls)]
theorem EO(ls:List aU):sF ls = []∨∃ B,sF ls = [B]∧aA B=true∧mq B=true:=by
 cases ls with
 | nil=>exact .inl rfl
 | cons i ids=>exact .inr ⟨lB (i::ids),rfl,kl _,rfl⟩
theorem Io(ls:List aU):hU (oS ls 0)=true:=by cases ls <;> rfl
theorem o3:Tryz.prog.underlying 172=some (.slice 28):=by kernel_rfl
theorem PW:∃ i,Tryz.prog.info? 28=some i∧i.size=3∧i.bytes=24:=by
 have h:(Tryz.prog.info? 28).map (fun i=>(i.size,i.bytes))=some (3,24):=by kernel_rfl
 obtain ⟨i,h1,h2⟩:=Option.map_eq_some_iff.1 h;simp only [Prod.mk.injEq] at h2;exact ⟨i,h1,h2.1,h2.2⟩
theorem SE:∃ z,tzero Tryz.prog 28=some z∧z.length=3:=by
 have h:(tzero Tryz.prog 28).map (fun z=>z.length)=some 3:=by kernel_rfl
 obtain ⟨z,h1,h2⟩:=Option.map_eq_some_iff.1 h;exact ⟨z,h1,h2⟩
theorem GD{get:Nat→Option af}{sz b b2 k:Nat}{ls:List aU}{x:aU}{f:Bool}(hf:f = !ls.isEmpty)(hb:get b=some (ownL ls))(hb2:get b2=some (.cells 28 (lc x) false))(hk:k=ls.length)(hl:k<2000000) :
  aAppend Tryz.prog get sz [172,172] [FX f b k,nb b2 1]=some (nb sz (k+1),gl f b (lB (ls ++ [x]))):=by
 subst hf hk;obtain ⟨i,hi,h1,h8⟩:=PW;obtain ⟨z,hz,hzl⟩:=SE;have hsrc:aSrc Tryz.prog get 3 z (.slice 28) (nb b2 1)=some (lc x,1):=by
  unfold aSrc nb;simp only [srcLen,srcCells,hb2];rw [if_neg (by omega),if_neg (by omega),cx (n:=1*3) rfl]
  rfl
 cases ls with
 | nil =>
   show aAppend Tryz.prog get sz [172,172] [au,nb b2 1]=some (nb sz 1,[.push (lB [x])])
   unfold aAppend;simp only [o3,hi,hz,h1,h8,hzl];rw [if_neg (by decide)]
   simp only [hsrc];rw [if_neg (by simp [isOne,lc])]
   simp only [au];rw [if_neg (by omega),if_neg (by omega)]
   rfl
 | cons w ws =>
   have hun:w::ws≠[]:=by simp
   rw [nh hun] at hb;generalize w::ws=ls at *;rw [kP hun];show aAppend Tryz.prog get sz [172,172] [nb b ls.length,nb b2 1]=some (nb sz (ls.length+1),[.put b .dead,.push (lB (ls ++ [x]))])
   unfold lB at hb;have hg:eA (cQ ls) 0 (ls.length*3)=some (cQ ls):=cx (dW ls)
   unfold aAppend;simp only [o3,hi,hz,h1,h8,hzl];rw [if_neg (by decide)]
   simp only [hsrc];rw [if_neg (by simp [isOne,lc])]
   simp only [nb];rw [if_neg (by omega),if_neg (by omega)]
   simp only [hb,hg];rw [if_neg (by omega),if_pos (by decide),if_neg (by rw [dW]; omega)]
   have e:cQ (ls ++ [x])=cQ ls++lc x:=by unfold cQ; rw [List.flatMap_append]; simp
   unfold lB;rw [e]
def aX(vs:List aa):List aU:=(vs.filter toldV).map bA
def bN(ls:List aU):List aU:=match ls with
 | []=>[]
 | l::ls=>iK (dJ (l::ls))
def D'(us:List aU)(x:aa):List aU:=bif toldV x then us ++ [bA x] else us
theorem qu:∀ {vs:List aa} {us:List aU},vs.foldl D' us=us++aX vs
 | [],us=>by simp [aX]
 | v::vs,us=>by
   rw [List.foldl_cons,qu];unfold D' aX;cases h:toldV v with
   | true=>rw [List.filter_cons_of_pos h]; simp
   | false=>rw [List.filter_cons_of_neg (by rw [h]; simp)]; rfl
theorem nW(vs:List aa):(aX vs).length≤vs.length:=by unfold aX; rw [List.length_map]; exact List.length_filter_le ..
theorem L0{ls:List aU}(h:ls≠[]):iK ls≠[]:=fun e=>by
 obtain ⟨y,hy⟩:∃ y,ls.getLast? = some y:=⟨_,List.getLast?_eq_some_getLast h⟩
 have:=vq hy
 rw [e] at this; cases this
def levR(vs:List aa):xm:=fun rest=>match rest with
 | []=>some (oS (bN (aX vs)) 0,sF (bN (aX vs)))
 | _=>none
theorem TK{q:∀ (v:Value) (O:List af) (g:Nat→Value),retVal Tryz.prog Tryz.f168 (av 26 g [(2,v)] O)=some v}{ls:List aU}(h:ls≠[])(g:Nat→Value):BL Tryz.f168 (oS ls 0) (sF ls) .ret (av 26 g [(2,.slice (some ⟨0,0,none⟩) ls.length 11)] [lB ls]):=by
 cases ls with
 | nil=>exact absurd rfl h
 | cons l ls=>exact ⟨.inr rfl,rfl,q _ _ g,fun B hB=>by cases hB; show (heapOf _ aE).get 0=_; rw [ak]; rfl⟩
theorem Rt(vs:List aa)(hn:vs.length<1000000):∀ rest v0 O,levR vs rest=some (v0,O)→lU Tryz.f168 kj 26 vs rest v0 O:=fun rest v0 O h=>by
 unfold levR at h;split at h
 case h_2=>cases h
 cases h;refine ⟨EO _,Io _,(by intro r hr; cases hr),by simp,fun f o c W ho hrow hfl=>?_⟩
 have hkk:=qt hfl
 have fx2:∀ us:List aU,∀ r:List af,∀ i,i<2→∀ o',(o::ownL us::r)[i]? = some o'→dw 0 o':=fun us=>vC ho (qG us)
 refine ah.seq (Q1:=fun e st=>e = .normal∧∃ g,st=av 26 g [(0,vS f 0 vs.length c)] [o]) ?_ ?_ (fun x st hne hq=>absurd hq.1 hne)
 ·cases f with
  | true=>exact ah.bD j5 follows 60 1 _ _ _ _ (Qi o vs.length c) Met.nil ay.nil az.nil JI rfl rfl (cq ho _) fun g=>⟨rfl,g,rfl⟩
  | false =>
    obtain ⟨rfl,rfl⟩:=hfl rfl;exact ah.bD j5 follows 60 1 _ _ _ _ MZ Met.nil ay.nil az.nil JI rfl rfl (cq rfl _) fun g=>⟨rfl,g,rfl⟩
 rintro st ⟨-,g,rfl⟩;refine ah.seq (Q1:=fun e st=>e = .normal∧∃ g,st=av 26 g [(0,vS f 0 vs.length c),(3,au)] [o,.dead]) (ah.bD j5 follows 60 2 _ _ _ _ (Qj f o vs.length c g) Met.nil ay.nil az.nil Sn rfl rfl (fx2 [] _) fun g=>⟨rfl,g,rfl⟩) ?_ (fun x st hne hq=>absurd hq.1 hne)
 rintro st ⟨-,g,rfl⟩;let I:List aU→Nat→(Nat→Value)→St:=fun us i g=>av 26 g [(3,FX (!us.isEmpty) 1 us.length),(6,vS f 0 vs.length c),(7,iN (kk f vs.length)),(8,iN i)] [o,ownL us]
 refine ah.seq (Q1:=fun e st=>e = .normal∧∃ g,st=av 26 g [(3,FX (!(aX vs).isEmpty) 0 (aX vs).length)] [ownL (aX vs)]) ?_ ?_ (fun x st hne hq=>absurd hq.1 hne)
 ·refine ah.seq (Q1:=fun e st=>e = .normal∧∃ g,st=I [] 0 g) (ah.bD j5 follows 60 2 _ _ _ _ (Qk f o vs.length c g) Met.nil ay.nil az.nil Sp rfl rfl (fx2 [] _) fun g=>⟨rfl,g,rfl⟩) ?_ (fun x st hne hq=>absurd hq.1 hne)
  rintro st ⟨-,g,rfl⟩;refine ah.mono (ju D' [] I (fun us st=>∃ g,st=av 26 g [(3,FX (!us.isEmpty) 0 us.length)] [ownL us]) (fun us g hf=>?_) (fun i x us g hx hlt hf=>?_) g) fun e st q=>by rw [qu] at q; exact q
  ·exact ah.bD j5 follows 60 1 _ _ _ _ (Qn f (!us.isEmpty) o (ownL us) vs.length c us.length vs.length ⟨0,false,0,0,0,0,0⟩ [] g) (Met.cons (aH (by rw [hkk]; simp)) Met.nil) ay.nil az.nil Ff rfl rfl (cq (qG us) []) fun g'=>⟨rfl,g',rfl⟩
  ·have hft:f=true:=by cases f with
      | true=>rfl
      | false=>rw [(hfl rfl).1] at hlt; simp at hlt
   subst hft;have hr:∃ ty ro,o = .cells ty (aK vs) ro:=by
     rcases hrow with h | h
     ·rw [h] at hlt; simp at hlt
     ·exact h
   have hul:us.length≤i:=by
     rw [← hf,qu];have:=nW (vs.take i)
     rw [List.length_take] at this;simp; omega
   have b0:ez (heapOf [o,ownL us,.dead] aE) 0 vs:=kB hr
   cases ht:toldV x with
   | false =>
     refine ah.bD j5 follows 60 2 _ _ _ _ (Qm true (!us.isEmpty) o (ownL us) vs.length c us.length i x [] g)
       (Met.cons (bz (by omega)) (Met.cons (congrArg (fun b=>some (Value.bool b)) ht) (Met.cons (LtA.bM b0 hx) (Met.cons (LtA.bH hlt) (Met.cons (aH (decide_eq_true (by show ((i:Nat):Int)<((vs.length:Nat):Int); omega))) Met.nil))))) ay.nil az.nil Ff rfl rfl (fx2 us _) fun g'=>⟨rfl,g',?_⟩
     unfold D'; rw [ht]; rfl
   | true =>
     have happ:=GD (get:=(heapOf [o,ownL us,.dead,.cells 78 [.int .i64 x.id,.bool x.n,.int .i64 x.t,.int .i64 x.o,.int .i64 x.r,.int .i64 x.d,.int .i64 x.i] false,.cells 28 [.int .i64 ((bA x).1),.int .i64 ((bA x).2.1),.int .i64 ((bA x).2.2)] false] aE).get) (sz:=5) (b:=1) (b2:=4) (ls:=us) (x:=bA x) rfl (by rw [ak]; rfl) (by rw [ak]; rfl) rfl (by omega)
     refine ah.bD j5 follows 60 2 _ _ _ _ (Ql true (!us.isEmpty) o (ownL us) vs.length c us.length i x (us ++ [bA x]) g)
       (Met.cons (bz (by omega)) (Met.cons (congrArg (fun b=>some (Value.bool b)) ht) (Met.cons (LtA.bM b0 hx) (Met.cons (LtA.bH hlt) (Met.cons (aH (decide_eq_true (by show ((i:Nat):Int)<((vs.length:Nat):Int); omega))) Met.nil))))) ay.nil (az.cons happ az.nil) Ff rfl rfl (by rw [← nh (by simp:us ++ [bA x]≠[])]; exact fx2 _ _) fun g'=>⟨rfl,g',?_⟩
     unfold D';rw [ht,cond_true];show _=av 26 g' [(3,FX (!(us ++ [bA x]).isEmpty) 1 (us ++ [bA x]).length),_,_,_] [o,ownL (us ++ [bA x])]
     rw [pF,nh (by simp:us ++ [bA x]≠[])]
     have e1:(us ++ [bA x]).length=us.length+1:=by simp
     rw [e1]; rfl
 rintro st ⟨-,g,rfl⟩;have hl:=nW vs
 generalize aX vs=us at *;cases us with
 | nil=>exact ah.bD Gd follows 60 0 _ _ _ _ (M0 g) Met.nil ay.nil az.nil JJ rfl rfl (dg _) fun g=>⟨.inr rfl,rfl,S7 _ _ g,(fun B hB=>by cases hB)⟩
 | cons w ws =>
   show ah Tryz.prog 26 W DY _ (BL Tryz.f168 (oS (iK (dJ (w::ws))) 0) (sF (iK (dJ (w::ws)))))
   have hun:w::ws≠[]:=by simp
   have hpos:0<(w::ws).length:=by simp
   generalize w::ws=us at *;rw [nh hun,kP hun];have hsl:=jg us
   have hsn:dJ us≠[]:=fun e=>by rw [e] at hsl; simp at hsl; omega
   refine ah.bD j5 follows 60 1 _ _ _ _ (Qo us (dJ us) (iK (dJ us)) us.length (iK (dJ us)).length g) Met.nil
     (ay.cons (Mb (ls:=dJ us) rfl (by omega) (by omega) (by omega)) (ay.cons (Mc (ls:=us) rfl rfl (by omega) (by omega)) ay.nil)) az.nil JJ rfl rfl (cq (kl _) []) fun g=>TK (q:=S7) (L0 hsn) g
noncomputable def yV:aC:=padF (nF levR)
theorem PR:aq Tryz.prog 168 yV:=hZ (jR Tryz.func168 xG (by kernel_rfl) ntmps21 fun vs hn=>Rt vs hn)
theorem BT{vs:List aa}{s:Value}{hp:Hp}(h:TN vs s hp)(hn:vs.length<1000000):yV [s] hp=some (oS (bN (aX vs)) hp.sz,heapOf [ownL (bN (aX vs)),.dead] hp):=by
 unfold yV;have e:=rf (A:=levR) (rest:=[]) (v0:=oS (bN (aX vs)) 0) (O:=sF (bN (aX vs))) h hn rfl
 generalize bN (aX vs)=ls at *;cases ls with
 | nil=>exact pI e
 | cons l ls =>
   refine ni (e.trans ?_)
   show some (sh3 [0] hp.sz (.slice (some ⟨0,0,none⟩) _ _),_)=_
   simp [sh3,sh2,sh1,jj,idxOf,oS]; rfl
end Go.Proofs.YtgeoommlmddgpaaGreat.LtL
namespace Go.Proofs.YtgeoommlmddgpaaGreat.LtA
open Go Go.Proofs Go.Proofs.YtgeoommlmddgpaaGreat.AI Go.RowKit Go.Proofs.YtgeoommlmddgpaaGreat.Sort Go.Proofs.YtgeoommlmddgpaaGreat.LtL
def X8(y:aa)(p:Bool×List aa)(x:aa):Bool×List aa:=bif !p.1&&gh x y then (true,p.2) else (p.1,p.2 ++ [x])
def rest(us:List aa):List aa:=(us.foldl (X8 (eD us).1) (false,[])).2
theorem Xh:∀ {a b:Nat} {r:Bool},decide (a<b)=r→(some (Value.bool (decide (Int.ofNat a<Int.ofNat b))))=some (.bool r):=fun {a b r} h=>aH (by rw [← h]; exact decide_eq_decide.2 (by simp only [Int.ofNat_eq_natCast]; omega))
def zv:aa:=⟨0,false,0,0,0,0,0⟩
set_option maxHeartbeats 1000000
end Go.Proofs.YtgeoommlmddgpaaGreat.LtA
namespace Go.Proofs.YtgeoommlmddgpaaGreat.LtL
open Go Go.Proofs Go.Proofs.YtgeoommlmddgpaaGreat.AI Go.RowKit Go.Proofs.YtgeoommlmddgpaaGreat.Sort Go.Proofs.YtgeoommlmddgpaaGreat.LtA
theorem Db{a:List aU}{x y:aU}:x∈pd a y↔x∈a∨x=y:=by
 unfold pd;split
 ·rename_i h
  exact ⟨.inl,fun q=>q.elim id fun e=>by subst e; exact List.mem_of_getLast? h⟩
 ·simp
theorem Hf{l:List aU}{x:aU}:x∈iK l↔x∈l:=by
 have key:∀ (l a:List aU),x∈l.foldl pd a↔x∈a∨x∈l:=by
  intro l;induction l with
  | nil=>intro a; simp
  | cons y l ih=>intro a; rw [List.foldl_cons,ih,Db,List.mem_cons,or_assoc]
 have:=key l []
 simpa [iK] using this
theorem Bh{l:List aU}{x:aU}:x∈dJ l↔x∈l:=(List.mergeSort_perm l _).mem_iff
theorem Dd{l:List aU}{x:aU}:x∈bN l↔x∈l:=by
 cases l with
 | nil=>exact Iff.rfl
 | cons y l=>show x∈iK (dJ (y::l))↔_; rw [Hf,Bh]
theorem Dc(l:List aU):(bN l).length≤l.length:=by
 cases l with
 | nil=>exact Nat.le_refl _
 | cons y l=>have:=He (dJ (y::l)); rw [jg] at this; exact this
def Pv(us:List aa)(y:aU):Bool:=us.any fun x=>!x.n&&(bA x==y)
def aN(us:List aa)(x:aa)(ls:List aU)(k:Nat):List Bool:=(ls.take k).map (Pv (us ++ [x]))++(ls.drop k).map (Pv us)
theorem yd{hp:Hp}{b:Nat}{us:List aU}{i:Nat}{x:aU}(hg:hp.get b=some (ownL us))(h:us[i]? = some x):aLoad Tryz.prog hp.get 28 (pb b (i*3))=some (lA x):=by
 have hne:us≠[]:=fun e=>by subst e; simp at h
 rw [nh hne] at hg;simp only [aLoad,pb,hg,lB,KC,oU];have:=kM (f:=lc) (k:=3) (ps:=us) (fun _ _=>rfl) h
 unfold cQ;rw [this];rfl
theorem eV{o:af}{r:List af}:(heapOf (o::r) aE).get 0=some o:=by rw [ak]; rfl
theorem bk{O:List af}{b:Nat}{o:af}(h:O[b]? = some o):(heapOf O aE).get b=some o:=by rw [ak]; exact h
def zH:aa:=⟨0,false,0,0,0,0,0⟩
def Ja(t o r d i:Int):aa×Int:=bif dQ false t o r d i then (⟨0,false,t,o,r,d,i⟩,0) else (zH,1)
def wD(p:aa×Int):Value:=.tuple #[cP p.1,.int .i64 p.2]
theorem yl(p:aa×Int):fv (wD p):=⟨rfl,fun s=>by simp [mv3,mv2,mv1,wD,cP]⟩
theorem jr{n:Bool}{t o r d i:Int}:((cm n t o r d i) != Int.ofNat 0) = !dQ n t o r d i:=by
 unfold cm;cases dQ n t o r d i <;> rfl
def bJ(me:Int)(vs:List aa):aa×Int :=
 bif !aF vs then (zH,1) else bif !dQ false (Int.ofNat 0) (Int.ofNat 0) (Int.ofNat 0) (Int.ofNat 0) me then (zH,1) else bif !(eD vs).2 then (zH,7) else
 Ja (bA (eD vs).1).1 (bA (eD vs).1).2.1 (bA (eD vs).1).2.2 (wrapF .i64 ((eD vs).1.d+Int.ofNat 1)) me
def adoptA(vs:List aa):List Value→Option Value
 | [.int .i64 me]=>some (wD (bJ me vs))
 | _=>none
noncomputable def Tj:Ext:=fh (cS Tryz.prog [(57,g15),(106,HA)]) [(58,jX),(180,Kb)]
theorem BH:ExtOk Tryz.prog Tj:=bC (aT (.cons vN (.cons xY .nil))) (.cons tT (.cons PJ .nil))
noncomputable def Dn:Code:=(Tryz.f159.body).getD .skip
theorem KZ:Tryz.f159.body=some Dn:=by kernel_rfl
theorem UE:Tryz.f159.ntmps=39:=by kernel_rfl
theorem Xv:codeSafe Tryz.prog 39 Dn=true:=by kernel_rfl
theorem Oo(f:Bool)(o:af)(n c:Nat)(me:Int)(y:aa)(lb:Bool)(Q:Value→List af→List Nat→List af→Prop):let v0:Value:=.agg #[.bool false,iN 0,iN 0,iN 0,iN 0,iN 0];let b1:af:=.cells 23 [.bool false,iN 0,iN 0,iN 0,iN 0,iN 0] false;(HT (Kb [vS f 0 n c]) (heapOf [o,.dead,b1] aE) (.tuple #[.agg ⟨vc y⟩,.bool lb]) [.dead]∧(HT (jX [vS f 0 n c]) (heapOf [o,.dead,b1,.dead,.cells 78 [Iv y.id,.bool y.n,Iv y.t,Iv y.o,Iv y.r,Iv y.d,Iv y.i] false] aE) (iN 0) [.dead]∧((((cm false (Int.ofNat 0) (Int.ofNat 0) (Int.ofNat 0) (Int.ofNat 0) me) != (Int.ofNat 0))=true→Q (.tuple #[v0,iN 1]) [o] [] [])∧(((cm false (Int.ofNat 0) (Int.ofNat 0) (Int.ofNat 0) (Int.ofNat 0) me) != (Int.ofNat 0))=false→((!lb)=true→Q (.tuple #[v0,iN 7]) [o] [] [])∧((!lb)=false→(((cm false ((bA y).1) ((bA y).2.1) ((bA y).2.2) (wrapF .i64 (y.d+(Int.ofNat 1))) me) != (Int.ofNat 0))=true→(some (Iv y.d):OV)=some (Iv y.d)∧(Q (.tuple #[v0,Iv (cm false ((bA y).1) ((bA y).2.1) ((bA y).2.2) (wrapF .i64 (y.d+(Int.ofNat 1))) me)]) [o] [] []))∧(((cm false ((bA y).1) ((bA y).2.1) ((bA y).2.2) (wrapF .i64 (y.d+(Int.ofNat 1))) me) != (Int.ofNat 0))=false→(some (Iv y.d):OV)=some (Iv y.d)∧(Q (.tuple #[.agg #[.bool false,Iv ((bA y).1),Iv ((bA y).2.1),Iv ((bA y).2.2),Iv (wrapF .i64 (y.d+(Int.ofNat 1))),Iv me],iN 0]) [o] [] [])))))))=RF Tryz.prog Tj Tryz.f159 60 Dn ⟨tmsOf [vS f 0 n c,Iv me] 0 .leaf,heapOf [o,.dead] aE,[]⟩ (.h 3 (.tuple #[.agg ⟨vc y⟩,.bool lb]) [.dead] (.h 11 (iN 0) [.dead] (.b 21 (.stop 1 [] []) (.b 25 (.stop 1 [] []) (.b 54 (.stop 1 [] []) (.stop 1 [] [])))))) Q:=by cases f <;> (intros;kernel_rfl)
theorem On(f:Bool)(o:af)(n c:Nat)(me:Int)(y:aa)(lb:Bool)(Q:Value→List af→List Nat→List af→Prop):let b0:af:=.cells 23 [.bool false,iN 0,iN 0,iN 0,iN 0,iN 0] false;(HT (Kb [vS f 0 n c]) (heapOf [o,.dead,b0] aE) (.tuple #[.agg ⟨vc y⟩,.bool lb]) [.dead]∧(HT (jX [vS f 0 n c]) (heapOf [o,.dead,b0,.dead,.cells 78 [Iv y.id,.bool y.n,Iv y.t,Iv y.o,Iv y.r,Iv y.d,Iv y.i] false] aE) (iN 1) [.dead]∧(Q (.tuple #[.agg #[.bool false,iN 0,iN 0,iN 0,iN 0,iN 0],iN 1]) [o] [] [])))=RF Tryz.prog Tj Tryz.f159 60 Dn ⟨tmsOf [vS f 0 n c,Iv me] 0 .leaf,heapOf [o,.dead] aE,[]⟩ (.h 3 (.tuple #[.agg ⟨vc y⟩,.bool lb]) [.dead] (.h 11 (iN 1) [.dead] (.stop 1 [] []))) Q:=by cases f <;> (intros;kernel_rfl)
theorem Rw(vs:List aa)(hn:vs.length<1000000):∀ rest v0,adoptA vs rest=some v0→Ku Tryz.f159 Dn 39 0 vs rest v0:=fun rest v0 h=>by
 unfold adoptA at h;split at h
 case h_2=>cases h
 rename_i me;cases h;refine ⟨yl _,(by intro r hr; simp at hr; subst hr; exact lx _ _),by simp,fun f o c W X ho hrow hfl=>?_⟩
 have T0:∀ {hp:Hp},hp.get 0=some o→TN vs (vS f 0 vs.length c) hp:=fun hg=>fW ho hrow hfl hg
 have hr0:∀ {hp:Hp},hp.get 0=some o→jX [vS f 0 vs.length c] hp=some (l4 (aF vs),heapOf [.dead] hp):=fun hg=>pk (T0 hg) (by unfold Al; omega)
 have hlow:∀ {hp:Hp},hp.get 0=some o→Kb [vS f 0 vs.length c] hp=some (Ee vs,heapOf [.dead] hp):=fun hg=>Kc (T0 hg) hn
 cases hr:aF vs with
 | true =>
   rw [hr] at hr0;refine bm.bW BH follows Xv (Oo f o vs.length c me (eD vs).1 (eD vs).2 _) ?_
   refine ⟨hlow eV,hr0 eV,fun h_21=>Q1.of ?_,fun h_21=>⟨fun h_25=>Q1.of ?_,fun h_25=>⟨fun h_54=>⟨rfl,Q1.of ?_⟩,fun h_54=>⟨rfl,Q1.of ?_⟩⟩⟩⟩
   all_goals ((try simp only [jr,Bool.not_eq_true',Bool.not_eq_false'] at *); simp only [bJ,Ja,cm, *,cond_true,cond_false,Bool.not_true,Bool.not_false,Bool.and_self,Bool.and_true,Bool.and_false,Bool.false_and]; rfl)
 | false =>
   rw [hr] at hr0;refine bm.bW BH follows Xv (On f o vs.length c me (eD vs).1 (eD vs).2 _) ?_
   refine ⟨hlow eV,hr0 eV,Q1.of ?_⟩
   all_goals ((try simp only [jr,Bool.not_eq_true',Bool.not_eq_false'] at *); simp only [bJ,Ja,cm, *,cond_true,cond_false,Bool.not_true,Bool.not_false,Bool.and_self,Bool.and_true,Bool.and_false,Bool.false_and]; rfl)
noncomputable def OG:aC:=toldA 0 adoptA
theorem Uc:aq Tryz.prog 159 OG:=q9 Tryz.func159 KZ (by kernel_rfl) UE fun vs hn=>Rw vs hn
theorem Kh{vs:List aa}{s:Value}{hp:Hp}(me:Int)(h:TN vs s hp)(hn:vs.length<1000000):OG [s,.int .i64 me] hp=some (wD (bJ me vs),heapOf [.dead] hp):=xa rfl h hn rfl
def oK(y:aU):af:=.cells 28 (lc y) false
theorem AZ(y:aU):aA (oK y)=true:=rfl
theorem D7{hp:Hp}{b:Nat}{y:aU}(h:hp.get b=some (oK y)):aLoad Tryz.prog hp.get 28 (pb b 0)=some (lA y):=by
 simp only [aLoad,pb,h,oK,KC,oU];rfl
def zl:aU:=(0,0,0)
set_option maxHeartbeats 1000000
noncomputable def jk:Ext:=cS Tryz.prog [(106,HA)]
theorem gj:ExtOk Tryz.prog jk:=aT (.cons xY .nil)
noncomputable def vy:Code:=(Tryz.f197.body).getD .skip
theorem Eo:Tryz.f197.ntmps=32:=by kernel_rfl
noncomputable def zu:Code:=sL (vy)
theorem Fh:codeSafe Tryz.prog 32 zu=true:=by kernel_rfl
noncomputable def D1:Code:=sL (sR (vy))
theorem NQ:codeSafe Tryz.prog 32 D1=true:=by kernel_rfl
noncomputable def D2:Code:=sL (sL (sR (sR (vy))))
theorem NR:codeSafe Tryz.prog 32 D2=true:=by kernel_rfl
noncomputable def sq:Code:=mr (jh (sR (sL (sR (sR (vy))))))
theorem uE:codeSafe Tryz.prog 32 sq=true:=by kernel_rfl
noncomputable def D3:Code:=sR (sR (sR (vy)))
theorem NS:codeSafe Tryz.prog 32 D3=true:=by kernel_rfl
noncomputable abbrev zh:Code:=.seq zu (.seq D1 (.seq (.seq D2 (.block 0 (.loop sq))) D3))
theorem GN:Tryz.f197.body=some zh:=by kernel_rfl
theorem Qb(f:Bool)(o:af)(n c i:Nat)(k:Int)(x:aa)(v:aU)(g:Nat→Value):(execN Tryz.prog (aCall Tryz.prog jk 60) (callN Tryz.prog jk 60) 60 zu ⟨tmsOf [vS f 0 n c,lA v] 0 .leaf,heapOf [o,.dead] aE,[]⟩ (ej [])).map (fun y=>(look2 1 [0,2] [0,3] (y.1,y.2.1),y.2.2.q,y.2.2.r,y.2.2.x)) =
 some ((.normal,[o,.cells 28 [.int .i64 v.1,.int .i64 v.2.1,.int .i64 v.2.2] false],[(0,vS f 0 n c),(3,pb 1 0)],true),[],[],[]):=by cases f <;> kernel_rfl
theorem MW(f:Bool)(o:af)(n c i:Nat)(k:Int)(x:aa)(v:aU)(g:Nat→Value):(execN Tryz.prog (aCall Tryz.prog jk 60) (callN Tryz.prog jk 60) 60 zu ⟨tmsOf [au,lA v] 0 .leaf,heapOf [.dead] aE,[]⟩ (ej [])).map (fun y=>(look2 1 [0,1] [0,3] (y.1,y.2.1),y.2.2.q,y.2.2.r,y.2.2.x)) =
 some ((.normal,[.dead,.cells 28 [.int .i64 v.1,.int .i64 v.2.1,.int .i64 v.2.2] false],[(0,au),(3,pb 1 0)],true),[],[],[]):=by kernel_rfl
theorem Qc(f:Bool)(o:af)(n c i:Nat)(k:Int)(x:aa)(v:aU)(g:Nat→Value):(execN Tryz.prog (aCall Tryz.prog jk 60) (callN Tryz.prog jk 60) 60 D1 (av 32 g [(0,vS f 0 n c),(3,pb 1 0)] [o,(oK v)]) (ej [])).map (fun y=>(look2 2 [0,1] [0,3,5] (y.1,y.2.1),y.2.2.q,y.2.2.r,y.2.2.x)) =
 some ((.normal,[o,(oK v)],[(0,vS f 0 n c),(3,pb 1 0),(5,iN 1099511627776)],true),[],[],[]):=by cases f <;> kernel_rfl
theorem Qd(f:Bool)(o:af)(n c i:Nat)(k:Int)(x:aa)(v:aU)(g:Nat→Value):(execN Tryz.prog (aCall Tryz.prog jk 60) (callN Tryz.prog jk 60) 60 D2 (av 32 g [(0,vS f 0 n c),(3,pb 1 0),(5,.int .i64 k)] [o,(oK v)]) (ej [])).map (fun y=>(look2 2 [0,1] [3,5,8,9,10] (y.1,y.2.1),y.2.2.q,y.2.2.r,y.2.2.x)) =
 some ((.normal,[o,(oK v)],[(3,pb 1 0),(5,.int .i64 k),(8,vS f 0 n c),(9,iN (kk f n)),(10,iN 0)],true),[],[],[]):=by cases f <;> kernel_rfl
theorem MY(f:Bool)(o:af)(n c i:Nat)(k:Int)(x:aa)(v:aU)(g:Nat→Value):(execN Tryz.prog (aCall Tryz.prog jk 60) (callN Tryz.prog jk 60) 60 sq (av 32 g [(3,pb 1 0),(5,.int .i64 k),(8,vS f 0 n c),(9,iN (kk f n)),(10,iN i)] [o,(oK v)]) (ej [(0,.v (.bool false))])).map (fun y=>(look2 0 [] [5] (y.1,y.2.1),y.2.2.q,y.2.2.r,y.2.2.x)) =
 some ((.exit 0,[],[(5,.int .i64 k)],true),[(some (.bool (decide ((Int.ofNat i)<(Int.ofNat (kk f n))))),.bool false)],[],[]):=by cases f <;> kernel_rfl
theorem Qe(f:Bool)(o:af)(n c i:Nat)(k:Int)(x:aa)(v:aU)(g:Nat→Value):(execN Tryz.prog (aCall Tryz.prog jk 60) (callN Tryz.prog jk 60) 60 sq (av 32 g [(3,pb 1 0),(5,.int .i64 k),(8,vS true 0 n c),(9,iN (kk true n)),(10,iN i)] [o,(oK v)]) (ej [(22,.v (iN (i+1))),(14,.v (.bool true)),(13,.v (lA v)),(8,.v (.bool true)),(2,.v (.agg ⟨vc x⟩)),(1,.v (pb 0 (i*7))),(0,.v (.bool true))])).map (fun y=>(look2 2 [0,1] [3,5,8,9,10] (y.1,y.2.1),y.2.2.q,y.2.2.r,y.2.2.x)) =
 some ((.normal,[o,(oK v)],[(3,pb 1 0),(5,.int .i64 (if x.d<k then x.d else k)),(8,vS true 0 n c),(9,iN (kk true n)),(10,iN (i+1))],true),[(some (.int .i64 (wrapF .i64 (Int.ofNat i+Int.ofNat 1))),iN (i+1)),(aLoad Tryz.prog (heapOf [o,(oK v),.dead,.cells 78 [.int .i64 x.id,.bool x.n,.int .i64 x.t,.int .i64 x.o,.int .i64 x.r,.int .i64 x.d,.int .i64 x.i] false] aE).get 28 (pb 1 0),lA v),(fstV ((aBin Tryz.prog .eql 28 (lA (bA x)) (lA v)).map fun v=>(v,none)),.bool true),(aLoad Tryz.prog (heapOf [o,(oK v),.dead,.cells 78 [.int .i64 x.id,.bool x.n,.int .i64 x.t,.int .i64 x.o,.int .i64 x.r,.int .i64 x.d,.int .i64 x.i] false] aE).get 28 (pb 1 0),lA v),(some (.bool (!x.n)),.bool true),(aLoad Tryz.prog (heapOf [o,(oK v),.dead] aE).get 78 (pb 0 (i*7)),.agg ⟨vc x⟩),(fstV ((aIndexAddr Tryz.prog 24 (vS true 0 n c) (iN i)).map fun v=>(v,none)),pb 0 (i*7)),(some (.bool (decide ((Int.ofNat i)<(Int.ofNat (kk true n))))),.bool true)],[],[]):=by kernel_rfl
theorem Qf(f:Bool)(o:af)(n c i:Nat)(k:Int)(x:aa)(v:aU)(g:Nat→Value):(execN Tryz.prog (aCall Tryz.prog jk 60) (callN Tryz.prog jk 60) 60 sq (av 32 g [(3,pb 1 0),(5,.int .i64 k),(8,vS true 0 n c),(9,iN (kk true n)),(10,iN i)] [o,(oK v)]) (ej [(16,.v (iN (i+1))),(14,.v (.bool false)),(13,.v (lA v)),(8,.v (.bool true)),(2,.v (.agg ⟨vc x⟩)),(1,.v (pb 0 (i*7))),(0,.v (.bool true))])).map (fun y=>(look2 2 [0,1] [3,5,8,9,10] (y.1,y.2.1),y.2.2.q,y.2.2.r,y.2.2.x)) =
 some ((.normal,[o,(oK v)],[(3,pb 1 0),(5,.int .i64 k),(8,vS true 0 n c),(9,iN (kk true n)),(10,iN (i+1))],true),[(some (.int .i64 (wrapF .i64 (Int.ofNat i+Int.ofNat 1))),iN (i+1)),(aLoad Tryz.prog (heapOf [o,(oK v),.dead,.cells 78 [.int .i64 x.id,.bool x.n,.int .i64 x.t,.int .i64 x.o,.int .i64 x.r,.int .i64 x.d,.int .i64 x.i] false] aE).get 28 (pb 1 0),lA v),(fstV ((aBin Tryz.prog .eql 28 (lA (bA x)) (lA v)).map fun v=>(v,none)),.bool false),(aLoad Tryz.prog (heapOf [o,(oK v),.dead,.cells 78 [.int .i64 x.id,.bool x.n,.int .i64 x.t,.int .i64 x.o,.int .i64 x.r,.int .i64 x.d,.int .i64 x.i] false] aE).get 28 (pb 1 0),lA v),(some (.bool (!x.n)),.bool true),(aLoad Tryz.prog (heapOf [o,(oK v),.dead] aE).get 78 (pb 0 (i*7)),.agg ⟨vc x⟩),(fstV ((aIndexAddr Tryz.prog 24 (vS true 0 n c) (iN i)).map fun v=>(v,none)),pb 0 (i*7)),(some (.bool (decide ((Int.ofNat i)<(Int.ofNat (kk true n))))),.bool true)],[],[]):=by kernel_rfl
theorem Qg(f:Bool)(o:af)(n c i:Nat)(k:Int)(x:aa)(v:aU)(g:Nat→Value):(execN Tryz.prog (aCall Tryz.prog jk 60) (callN Tryz.prog jk 60) 60 sq (av 32 g [(3,pb 1 0),(5,.int .i64 k),(8,vS true 0 n c),(9,iN (kk true n)),(10,iN i)] [o,(oK v)]) (ej [(11,.v (iN (i+1))),(8,.v (.bool false)),(2,.v (.agg ⟨vc x⟩)),(1,.v (pb 0 (i*7))),(0,.v (.bool true))])).map (fun y=>(look2 2 [0,1] [3,5,8,9,10] (y.1,y.2.1),y.2.2.q,y.2.2.r,y.2.2.x)) =
 some ((.normal,[o,(oK v)],[(3,pb 1 0),(5,.int .i64 k),(8,vS true 0 n c),(9,iN (kk true n)),(10,iN (i+1))],true),[(some (.int .i64 (wrapF .i64 (Int.ofNat i+Int.ofNat 1))),iN (i+1)),(some (.bool (!x.n)),.bool false),(aLoad Tryz.prog (heapOf [o,(oK v),.dead] aE).get 78 (pb 0 (i*7)),.agg ⟨vc x⟩),(fstV ((aIndexAddr Tryz.prog 24 (vS true 0 n c) (iN i)).map fun v=>(v,none)),pb 0 (i*7)),(some (.bool (decide ((Int.ofNat i)<(Int.ofNat (kk true n))))),.bool true)],[],[]):=by kernel_rfl
theorem Qh(f:Bool)(o:af)(n c i:Nat)(k:Int)(x:aa)(v:aU)(g:Nat→Value):(execN Tryz.prog (aCall Tryz.prog jk 60) (callN Tryz.prog jk 60) 60 D3 (av 32 g [(5,.int .i64 k)] []) (ej [])).map (fun y=>(look2 0 [] [4] (y.1,y.2.1),y.2.2.q,y.2.2.r,y.2.2.x)) =
 some ((.ret,[],[(4,.int .i64 k)],true),[],[],[]):=by kernel_rfl
theorem U0(v:Value)(O:List af)(g:Nat→Value):retVal Tryz.prog Tryz.f197 (av 32 g [(4,v)] O)=some v:=by kernel_rfl
def wg(v:aU)(k:Int)(x:aa):Int:=bif !x.n&&(bA x==v) then (if x.d<k then x.d else k) else k
def rR(v:aU)(vs:List aa):Int:=vs.foldl (wg v) 1099511627776
def unL':Value→Option aU
 | .agg cs=>match cs.toList with
   | [.int .i64 a,.int .i64 b,.int .i64 c]=>some (a,b,c)
   | _=>none
 | _=>none
theorem rp{v:Value}{y:aU}(h:unL' v=some y):v=lA y:=by
 unfold unL' at h;split at h
 ·rename_i cs
  split at h
  ·rename_i a b c hcs
   cases h;obtain rfl:=cN hcs;rfl
  ·cases h
 ·cases h
def lstR(vs:List aa):xm:=fun rest=>match rest with
 | [v]=>(unL' v).map fun y=>(.int .i64 (rR y vs),[])
 | _=>none
theorem Iy(y:aU):stay (lA y):=⟨rfl,fun _ _=>by simp [sh3,sh2,sh1,lA,lc]⟩
theorem RC(vs:List aa)(hn:vs.length<1000000):∀ rest v0 O,lstR vs rest=some (v0,O)→lU Tryz.f197 zh 32 vs rest v0 O:=fun rest0 v0 O h=>by
 unfold lstR at h;split at h
 case h_2=>cases h
 rename_i v';obtain ⟨v,hv,h2⟩:=Option.map_eq_some_iff.1 h;obtain rfl:=rp hv;cases h2;refine ⟨.inl rfl,rfl,(by intro r hr; have e:r=lA v:=(by simpa using hr); rw [e]; exact Iy _),by simp,fun f o c W ho hrow hfl=>?_⟩
 have hkk:=qt hfl
 have fx2:∀ r:List af,∀ i,i<2→∀ o',(o::oK v::r)[i]? = some o'→dw 0 o':=vC ho (AZ v)
 refine ah.seq (Q1:=fun e st=>e = .normal∧∃ g,st=av 32 g [(0,vS f 0 vs.length c),(3,pb 1 0)] [o,oK v]) ?_ ?_ (fun x st hne hq=>absurd hq.1 hne)
 ·cases f with
  | true=>exact ah.bD gj follows 60 1 _ _ _ _ (Qb true o vs.length c 0 0 zv v (fun _=>au)) Met.nil ay.nil az.nil Fh rfl rfl (cq ho _) fun g=>⟨rfl,g,rfl⟩
  | false =>
    obtain ⟨rfl,rfl⟩:=hfl rfl;exact ah.bD gj follows 60 1 _ _ _ _ (MW true .dead 0 c 0 0 zv v (fun _=>au)) Met.nil ay.nil az.nil Fh rfl rfl (cq rfl _) fun g=>⟨rfl,g,rfl⟩
 rintro st ⟨-,g,rfl⟩;refine ah.seq (Q1:=fun e st=>e = .normal∧∃ g,st=av 32 g [(0,vS f 0 vs.length c),(3,pb 1 0),(5,.int .i64 1099511627776)] [o,oK v]) (ah.bD gj follows 60 2 _ _ _ _ (Qc f o vs.length c 0 0 zv v g) Met.nil ay.nil az.nil NQ rfl rfl (fx2 _) fun g=>⟨rfl,g,rfl⟩) ?_ (fun x st hne hq=>absurd hq.1 hne)
 rintro st ⟨-,g,rfl⟩;let J:Int→Nat→(Nat→Value)→St:=fun k i g=>av 32 g [(3,pb 1 0),(5,.int .i64 k),(8,vS f 0 vs.length c),(9,iN (kk f vs.length)),(10,iN i)] [o,oK v]
 refine ah.seq (Q1:=fun e st=>e = .normal∧∃ g,st=av 32 g [(5,.int .i64 (rR v vs))] []) ?_ ?_ (fun x st hne hq=>absurd hq.1 hne)
 rotate_left
 ·rintro st ⟨-,g,rfl⟩
  exact ah.bD gj follows 60 0 _ _ _ _ (Qh false .dead 0 0 0 (rR v vs) zv v g) Met.nil ay.nil az.nil NS rfl rfl (dg _) fun g=>⟨.inr rfl,rfl,U0 _ _ g,(fun B hB=>by cases hB)⟩
 refine ah.seq (Q1:=fun e st=>e = .normal∧∃ g,st=J 1099511627776 0 g) (ah.bD gj follows 60 2 _ _ _ _ (Qd f o vs.length c 0 1099511627776 zv v g) Met.nil ay.nil az.nil NR rfl rfl (fx2 _) fun g=>⟨rfl,g,rfl⟩) ?_ (fun x st hne hq=>absurd hq.1 hne)
 rintro st ⟨-,g,rfl⟩;refine ju (vs:=vs) (wg v) 1099511627776 J (fun k st=>∃ g,st=av 32 g [(5,.int .i64 k)] []) (fun k g hf=>?_) (fun i x k g hx hlt hf=>?_) g
 ·exact ah.bD gj follows 60 0 _ _ _ _ (MY f o vs.length c vs.length k zv v g) (Met.cons (Xh (a:=vs.length) (b:=kk f vs.length) (r:=false) (by rw [hkk]; simp)) Met.nil) ay.nil az.nil uE rfl rfl (dg _) fun g=>⟨rfl,g,rfl⟩
 have hft:f=true:=by cases f with
  | true=>rfl
  | false=>rw [(hfl rfl).1] at hlt; simp at hlt
 subst hft;have hr:∃ ty ro,o = .cells ty (aK vs) ro:=by
  rcases hrow with h | h
  ·rw [h] at hlt; simp at hlt
  ·exact h
 have b0:∀ r:List af,ez (heapOf (o::r) aE) 0 vs:=fun r=>kB hr
 have hw:(some (Value.int .i64 (wrapF .i64 (Int.ofNat i+Int.ofNat 1))))=some (iN (i+1)):=bz (by omega)
 have hl:=Xh (decide_eq_true hlt)
 have hv:∀ r:List af,aLoad Tryz.prog (heapOf (o::oK v::r) aE).get 28 (pb 1 0)=some (lA v):=fun r=>D7 (by rw [ak]; rfl)
 cases hxn:x.n with
 | true =>
   have e:wg v k x=k:=by unfold wg; rw [hxn]; rfl
   rw [e];exact ah.bD gj follows 60 2 _ _ _ _ (Qg true o vs.length c i k x v g) (by repeat' (first | exact Go.Proofs.YtgeoommlmddgpaaGreat.AI.Met.nil | apply Go.Proofs.YtgeoommlmddgpaaGreat.AI.Met.cons | exact hw | exact hl | exact LtA.bM (b0 _) hx | exact LtA.bH hlt | exact aH (by rw [hxn]; rfl) | exact hv _)) ay.nil az.nil uE rfl rfl (fx2 _) fun g=>⟨rfl,g,rfl⟩
 | false =>
   cases he:(bA x==v) with
   | true =>
     have e:wg v k x=if x.d<k then x.d else k:=by unfold wg; rw [hxn,he]; rfl
     rw [e];exact ah.bD gj follows 60 2 _ _ _ _ (Qe true o vs.length c i k x v g) (by repeat' (first | exact Go.Proofs.YtgeoommlmddgpaaGreat.AI.Met.nil | apply Go.Proofs.YtgeoommlmddgpaaGreat.AI.Met.cons | exact hw | exact hl | exact LtA.bM (b0 _) hx | exact LtA.bH hlt | exact aH (by rw [hxn]; rfl) | exact hv _ | exact (zm (bA x) v).trans (aH he))) ay.nil az.nil uE rfl rfl (fx2 _) fun g=>⟨rfl,g,rfl⟩
   | false =>
     have e:wg v k x=k:=by unfold wg; rw [hxn,he]; rfl
     rw [e];exact ah.bD gj follows 60 2 _ _ _ _ (Qf true o vs.length c i k x v g) (by repeat' (first | exact Go.Proofs.YtgeoommlmddgpaaGreat.AI.Met.nil | apply Go.Proofs.YtgeoommlmddgpaaGreat.AI.Met.cons | exact hw | exact hl | exact LtA.bM (b0 _) hx | exact LtA.bH hlt | exact aH (by rw [hxn]; rfl) | exact hv _ | exact (zm (bA x) v).trans (aH he))) ay.nil az.nil uE rfl rfl (fx2 _) fun g=>⟨rfl,g,rfl⟩
noncomputable def BR:aC:=nF lstR
theorem Mt:aq Tryz.prog 197 BR:=jR Tryz.func197 GN (by kernel_rfl) Eo fun vs hn=>RC vs hn
theorem Gq{vs:List aa}{s:Value}{hp:Hp}(v:aU)(h:TN vs s hp)(hn:vs.length<1000000):BR [s,lA v] hp=some (.int .i64 (rR v vs),heapOf [.dead] hp):=yN (A:=lstR) h hn rfl rfl
abbrev B7:=aa×Int×Int
def Ba(r:B7):Value:=.tuple #[cP r.1,.int .i64 r.2.1,.int .i64 r.2.2]
theorem Bb(r:B7):fv (Ba r):=⟨rfl,fun s=>by simp [mv3,mv2,mv1,Ba,cP]⟩
theorem kz{own:aa}{b:Bool}(h:own.n=b):Value.tuple #[.agg #[.bool b,.int .i64 own.t,.int .i64 own.o,.int .i64 own.r,.int .i64 own.d,.int .i64 own.i],iN 0,iN 0]=Ba (own,0,0):=by rw [← h]; rfl
def bG(me:Int):aa:=⟨0,true,0,0,0,0,me⟩
def Au(c t o r d i:Int):B7:=bif dQ false t o r d i then (⟨0,false,t,o,r,d,i⟩,c,0) else (zH,0,1)
def oE(own:aa)(k:Nat)(top:aU)(lst now:Int)(lost:Bool):B7 :=
 bif lost then Au 1 now own.i (Int.ofNat 0) (Int.ofNat 0) own.i else
 bif decide (Int.ofNat k>Int.ofNat 1) then Au 2 top.1 top.2.1 top.2.2 (wrapF .i64 (lst-Int.ofNat 1)) own.i else
 bif top.2.2==Int.ofNat 0 then Au 3 top.1 top.2.1 (Int.ofNat 1) (Int.ofNat 0) own.i else
 bif top.2.1==own.i then (bG own.i,4,0) else Au 5 now own.i (Int.ofNat 0) (Int.ofNat 0) own.i
def caseW(rb dn:Bool)(own:aa)(ls:List aU)(lst:aU→Int)(now:Int)(lost:Bool):B7 :=
 bif !rb then (zH,0,1) else bif decide (now<Int.ofNat 0) then (zH,0,1) else bif decide (now>Int.ofNat 4611686018427387903) then (zH,0,1) else
 bif own.n then (own,0,0) else bif dn then (own,0,0) else
 match ls.getLast? with
 | none=>(bG own.i,6,0)
 | some top=>oE own ls.length top (lst top) now lost
def lL(rb dn:Bool)(own:aa)(ls:List aU)(lst:aU→Int)(now:Int)(lost:Bool):B7 :=
 bif !dQ own.n own.t own.o own.r own.d own.i then (zH,0,1) else caseW rb dn own ls lst now lost
theorem jb{rb dn lost:Bool}{own:aa}{ls:List aU}{lst:aU→Int}{now:Int}(h:dQ own.n own.t own.o own.r own.d own.i=true):lL rb dn own ls lst now lost=caseW rb dn own ls lst now lost:=by
 unfold lL; rw [h]; rfl
theorem ja{rb dn lost:Bool}{own:aa}{ls:List aU}{lst:aU→Int}{now:Int}(h:dQ own.n own.t own.o own.r own.d own.i=false):lL rb dn own ls lst now lost=(zH,0,1):=by
 unfold lL; rw [h]; rfl
def bQ(own:aa)(vs:List aa)(now:Int)(lost:Bool):B7:=lL (aF vs) (!(gT 1 own vs).isEmpty) own (bN (aX vs)) (fun y=>rR y vs) now lost
theorem Eb{b c m i:Nat}(h:i<m):fstV ((aIndexAddr Tryz.prog 172 (.slice (some ⟨b,0,none⟩) m c) (iN i)).map fun v=>(v,none))=some (pb b (i*3)):=by
 have h1:(0:Int)≤Int.ofNat i∧Int.ofNat i<(m:Int):=⟨Int.natCast_nonneg i,by simpa using h⟩
 simp only [aIndexAddr,iN,Tryz.underlying172,oU];rw [if_pos h1];simp [fstV,pb]
theorem Il(m:Nat):decide ((Int.ofNat (m+1))>(Int.ofNat 0))=true:=decide_eq_true (by simp only [Int.ofNat_eq_natCast]; omega)
theorem XS(m:Nat):(!((Int.ofNat (m+1))==(Int.ofNat 0)))=true:=by
 have:(Int.ofNat (m+1)==Int.ofNat 0)=false:=beq_false_of_ne (by simp only [Int.ofNat_eq_natCast]; omega)
 rw [this]; rfl
def caseA(vs:List aa):List Value→Option Value
 | [a,.int .i64 now,.bool lost]=>(unH a).map fun own=>Ba (bQ own vs now lost)
 | _=>none
theorem AD{rb dn lost:Bool}{own:aa}{ls:List aU}{lst:aU→Int}{now:Int}{top:aU}(h:ls.getLast? = some top):lL rb dn own ls lst now lost=lL rb dn own ls (fun _=>lst top) now lost:=by
 unfold lL caseW; rw [h]
theorem IL{own:aa}(h0:own.id=0):unH (cP own)=some own:=by
 obtain ⟨a,b,c,d,e,f,g⟩:=own;simp only at h0;subst h0; rfl
noncomputable def N5:Ext:=fh (cS Tryz.prog [(57,g15)]) [(168,yV),(58,jX),(28,Ka),(197,BR)]
theorem pW:ExtOk Tryz.prog N5:=bC (aT (.cons vN .nil)) (.cons PR (.cons tT (.cons PI (.cons Mt .nil))))
noncomputable def vz:Code:=(Tryz.f167.body).getD .skip
theorem K3:Tryz.f167.body=some vz:=by kernel_rfl
theorem UH:Tryz.f167.ntmps=105:=by kernel_rfl
theorem Sl:codeSafe Tryz.prog 105 vz=true:=by kernel_rfl
theorem JO(f:Bool)(o:af)(n c m q:Nat)(now lst:Int)(lost:Bool)(own:aa)(top:aU)(ls:List aU)(ds:List Int)(Q:Value→List af→List Nat→List af→Prop):let b0:af:=.cells 23 [.bool own.n,Iv own.t,Iv own.o,Iv own.r,Iv own.d,Iv own.i] false;let v1:Value:=.agg #[.bool own.n,Iv own.t,Iv own.o,Iv own.r,Iv own.d,Iv own.i];let b2:af:=.cells 23 [.bool false,iN 0,iN 0,iN 0,iN 0,iN 0] false;let v3:Value:=.slice (some ⟨9,0,none⟩) (m+1) 11;let v4:Value:=.tuple #[.agg #[.bool false,iN 0,iN 0,iN 0,iN 0,iN 0],iN 0,iN 1];let b5:af:=.cells 3 [Iv now] false;let b6:af:=.cells 24 [vS f 0 n c] false;let b7:af:=.cells 4 [.bool lost] false;let b8:af:=.cells 3 [Iv own.i] false;((((cm own.n own.t own.o own.r own.d own.i) != (Int.ofNat 0))=true→Q (v4) [o] [] [])∧(((cm own.n own.t own.o own.r own.d own.i) != (Int.ofNat 0))=false→HT (jX [vS f 0 n c]) (heapOf [o,.dead,b0,b6,b5,b7,b2] aE) (iN 0) [.dead]∧(((decide (now<(Int.ofNat 0)))=true→Q (v4) [o] [] [])∧((decide (now<(Int.ofNat 0)))=false→((decide (now>(Int.ofNat 4611686018427387903)))=true→Q (v4) [o] [] [])∧((decide (now>(Int.ofNat 4611686018427387903)))=false→HT (yV [vS f 0 n c]) (heapOf [o,.dead,b0,b6,b5,b7,b2,.dead,b8] aE) (v3) [(ownL ls),.dead]∧((some (.bool (decide ((Int.ofNat (m+1))>(Int.ofNat 0)))):OV)=some (.bool true)∧((some (Iv (wrapF .i64 (Int.ofNat (m+1)-Int.ofNat 1))):OV)=some (iN m)∧((fstV ((aIndexAddr Tryz.prog 172 (v3) (iN m)).map fun v=>(v,none)):OV)=some (pb 9 (m*3))∧((aLoad Tryz.prog (heapOf [o,.dead,b0,b6,b5,b7,b2,.dead,b8,(ownL ls),.dead,.cells 172 [v3] false,.cells 28 [iN 0,iN 0,iN 0] false] aE).get 28 (pb 9 (m*3)):OV)=some (lA top)∧((own.n=true→(some (iN 0):OV)=some (iN 0)∧(Q (.tuple #[v1,iN 0,iN 0]) [o] [] []))∧(own.n=false→HT (Ka [vS f 0 n c,v1]) (heapOf [o,.dead,b0,b6,b5,b7,b2,.dead,b8,(ownL ls),.dead,.cells 172 [v3] false,.cells 28 [Iv top.1,Iv top.2.1,Iv top.2.2] false,.cells 28 [Iv top.1,Iv top.2.1,iN 1] false,.cells 197 [iN 0,.func (.func 192) #[] #[pb 2 0,pb 3 0],.func (.func 187) #[] #[pb 2 0],iN 6,.func (.func 193) #[] #[pb 11 0],.func (.func 188) #[] #[pb 8 0],iN 1,.func (.func 194) #[] #[pb 5 0],.func (.func 189) #[] #[pb 4 0,pb 8 0],iN 2,.func (.func 195) #[] #[pb 11 0],.func (.func 196) #[] #[pb 12 0,pb 3 0,pb 8 0],iN 3,.func (.func 198) #[] #[pb 12 0],.func (.func 199) #[] #[pb 13 0,pb 8 0],iN 4,.func (.func 200) #[] #[pb 12 0,pb 8 0],.func (.func 188) #[] #[pb 8 0],iN 5,.func (.func 191) #[] #[],.func (.func 189) #[] #[pb 4 0,pb 8 0]] false,.cells 197 [iN 0,.func (.func 192) #[] #[pb 2 0,pb 3 0],.func (.func 187) #[] #[pb 2 0]] false] aE) (.slice (some ⟨16,0,none⟩) (q+1) 4) [(dv ds),.dead]∧((some (.bool (decide ((Int.ofNat (q+1))>(Int.ofNat 0)))):OV)=some (.bool true)∧((some (iN 0):OV)=some (iN 0)∧(Q (.tuple #[v1,iN 0,iN 0]) [o] [] []))))))))))))))=RF Tryz.prog N5 Tryz.f167 300 vz ⟨tmsOf [cP own,vS f 0 n c,Iv now,.bool lost] 0 .leaf,heapOf [o,.dead] aE,[]⟩ (.b 9 (.stop 1 [] []) (.h 12 (iN 0) [.dead] (.b 17 (.stop 1 [] []) (.b 21 (.stop 1 [] []) (.h 28 (v3) [(ownL ls),.dead] (.v 36 (.bool true) (.v 40 (iN m) (.v 41 (pb 9 (m*3)) (.v 42 (lA top) (.b 90 (.stop 1 [] []) (.h 94 (.slice (some ⟨16,0,none⟩) (q+1) 4) [(dv ds),.dead] (.v 96 (.bool true) (.stop 1 [] []))))))))))))) Q:=by cases f <;> (intros;kernel_rfl)
theorem Ov(f:Bool)(o:af)(n c m q:Nat)(now lst:Int)(lost:Bool)(own:aa)(top:aU)(ls:List aU)(ds:List Int)(Q:Value→List af→List Nat→List af→Prop):let b1:af:=.cells 23 [.bool own.n,Iv own.t,Iv own.o,Iv own.r,Iv own.d,Iv own.i] false;let b2:af:=.cells 23 [.bool false,iN 0,iN 0,iN 0,iN 0,iN 0] false;let v3:Value:=.agg #[.bool false,iN 0,iN 0,iN 0,iN 0,iN 0];let v4:Value:=.agg #[Iv top.1,Iv top.2.1,Iv top.2.2];let v5:Value:=.slice (some ⟨9,0,none⟩) (m+1) 11;let b6:af:=.cells 3 [Iv now] false;let b7:af:=.cells 24 [vS f 0 n c] false;let b8:af:=.cells 4 [.bool lost] false;let v9:Value:=.agg #[.bool own.n,Iv own.t,Iv own.o,Iv own.r,Iv own.d,Iv own.i];let b10:af:=.cells 197 [iN 0,.func (.func 192) #[] #[pb 2 0,pb 3 0],.func (.func 187) #[] #[pb 2 0]] false;let b11:af:=.cells 3 [Iv own.i] false;let v12:Value:=.tuple #[v3,iN 0,Iv (cm false now own.i (Int.ofNat 0) (Int.ofNat 0) own.i)];let v13:Value:=.agg #[.bool false,Iv now,Iv own.i,iN 0,iN 0,Iv own.i];let v14:Value:=.func (.func 189) #[] #[pb 4 0,pb 8 0];let b15:af:=.cells 28 [Iv top.1,Iv top.2.1,Iv top.2.2] false;let b16:af:=.cells 28 [Iv top.1,Iv top.2.1,iN 1] false;let v17:Value:=.func (.func 188) #[] #[pb 8 0];let v18:Value:=.func (.func 196) #[] #[pb 12 0,pb 3 0,pb 8 0];let b0:af:=.cells 197 [iN 0,.func (.func 192) #[] #[pb 2 0,pb 3 0],.func (.func 187) #[] #[pb 2 0],iN 6,.func (.func 193) #[] #[pb 11 0],v17,iN 1,.func (.func 194) #[] #[pb 5 0],v14,iN 2,.func (.func 195) #[] #[pb 11 0],v18,iN 3,.func (.func 198) #[] #[pb 12 0],.func (.func 199) #[] #[pb 13 0,pb 8 0],iN 4,.func (.func 200) #[] #[pb 12 0,pb 8 0],v17,iN 5,.func (.func 191) #[] #[],v14] false;let v19:Value:=.tuple #[v3,iN 0,iN 1];((((cm own.n own.t own.o own.r own.d own.i) != (Int.ofNat 0))=true→Q (v19) [o] [] [])∧(((cm own.n own.t own.o own.r own.d own.i) != (Int.ofNat 0))=false→HT (jX [vS f 0 n c]) (heapOf [o,.dead,b1,b7,b6,b8,b2] aE) (iN 0) [.dead]∧(((decide (now<(Int.ofNat 0)))=true→Q (v19) [o] [] [])∧((decide (now<(Int.ofNat 0)))=false→((decide (now>(Int.ofNat 4611686018427387903)))=true→Q (v19) [o] [] [])∧((decide (now>(Int.ofNat 4611686018427387903)))=false→HT (yV [vS f 0 n c]) (heapOf [o,.dead,b1,b7,b6,b8,b2,.dead,b11] aE) (v5) [(ownL ls),.dead]∧((some (.bool (decide ((Int.ofNat (m+1))>(Int.ofNat 0)))):OV)=some (.bool true)∧((some (Iv (wrapF .i64 (Int.ofNat (m+1)-Int.ofNat 1))):OV)=some (iN m)∧((fstV ((aIndexAddr Tryz.prog 172 (v5) (iN m)).map fun v=>(v,none)):OV)=some (pb 9 (m*3))∧((aLoad Tryz.prog (heapOf [o,.dead,b1,b7,b6,b8,b2,.dead,b11,(ownL ls),.dead,.cells 172 [v5] false,.cells 28 [iN 0,iN 0,iN 0] false] aE).get 28 (pb 9 (m*3)):OV)=some (lA top)∧((own.n=true→(some (iN 0):OV)=some (iN 0)∧(Q (.tuple #[v9,iN 0,iN 0]) [o] [] []))∧(own.n=false→HT (Ka [vS f 0 n c,v9]) (heapOf [o,.dead,b1,b7,b6,b8,b2,.dead,b11,(ownL ls),.dead,.cells 172 [v5] false,b15,b16,b0,b10] aE) (au) [.dead,.dead]∧((some (.bool (!((Int.ofNat (m+1))==(Int.ofNat 0)))):OV)=some (.bool true)∧(((!lost)=true→((!(decide ((Int.ofNat (m+1))>(Int.ofNat 1))))=true→((!(top.2.2==(Int.ofNat 0)))=true→((!(top.2.1==own.i))=true→(((cm false now own.i (Int.ofNat 0) (Int.ofNat 0) own.i) != (Int.ofNat 0))=true→(some (.bool ((cm false now own.i (Int.ofNat 0) (Int.ofNat 0) own.i) != (Int.ofNat 0))):OV)=some (.bool true)∧(Q (v12) [o] [] []))∧(((cm false now own.i (Int.ofNat 0) (Int.ofNat 0) own.i) != (Int.ofNat 0))=false→(some (iN 5):OV)=some (iN 5)∧(Q (.tuple #[v13,iN 5,iN 0]) [o] [] [])))∧((!(top.2.1==own.i))=false→(some (iN 4):OV)=some (iN 4)∧(Q (.tuple #[.agg #[.bool true,iN 0,iN 0,iN 0,iN 0,Iv own.i],iN 4,iN 0]) [o] [] [])))∧((!(top.2.2==(Int.ofNat 0)))=false→(((cm false top.1 top.2.1 (Int.ofNat 1) (Int.ofNat 0) own.i) != (Int.ofNat 0))=true→(some (.bool ((cm false top.1 top.2.1 (Int.ofNat 1) (Int.ofNat 0) own.i) != (Int.ofNat 0))):OV)=some (.bool true)∧(Q (.tuple #[v3,iN 0,Iv (cm false top.1 top.2.1 (Int.ofNat 1) (Int.ofNat 0) own.i)]) [o] [] []))∧(((cm false top.1 top.2.1 (Int.ofNat 1) (Int.ofNat 0) own.i) != (Int.ofNat 0))=false→(some (iN 3):OV)=some (iN 3)∧(Q (.tuple #[.agg #[.bool false,Iv top.1,Iv top.2.1,iN 1,iN 0,Iv own.i],iN 3,iN 0]) [o] [] []))))∧((!(decide ((Int.ofNat (m+1))>(Int.ofNat 1))))=false→HT (BR [vS f 0 n c,v4]) (heapOf [o,.dead,b1,b7,b6,b8,b2,.dead,b11,(ownL ls),.dead,.cells 172 [v5] false,b15,b16,b0,b10,.dead,.dead,.cells 197 [iN 6,.func (.func 193) #[] #[pb 11 0],v17] false,.cells 197 [iN 1,.func (.func 194) #[] #[pb 5 0],v14] false,.cells 197 [iN 2,.func (.func 195) #[] #[pb 11 0],v18] false,b2] aE) (Iv lst) [.dead]∧((((cm false top.1 top.2.1 top.2.2 (wrapF .i64 (lst-(Int.ofNat 1))) own.i) != (Int.ofNat 0))=true→(some (v4):OV)=some (v4)∧((some (Iv own.i):OV)=some (Iv own.i)∧((some (.bool ((cm false top.1 top.2.1 top.2.2 (wrapF .i64 (lst-(Int.ofNat 1))) own.i) != (Int.ofNat 0))):OV)=some (.bool true)∧(Q (.tuple #[v3,iN 0,Iv (cm false top.1 top.2.1 top.2.2 (wrapF .i64 (lst-(Int.ofNat 1))) own.i)]) [o] [] []))))∧(((cm false top.1 top.2.1 top.2.2 (wrapF .i64 (lst-(Int.ofNat 1))) own.i) != (Int.ofNat 0))=false→(some (v4):OV)=some (v4)∧((some (Iv own.i):OV)=some (Iv own.i)∧((some (iN 2):OV)=some (iN 2)∧(Q (.tuple #[.agg #[.bool false,Iv top.1,Iv top.2.1,Iv top.2.2,Iv (wrapF .i64 (lst-(Int.ofNat 1))),Iv own.i],iN 2,iN 0]) [o] [] [])))))))∧((!lost)=false→(((cm false now own.i (Int.ofNat 0) (Int.ofNat 0) own.i) != (Int.ofNat 0))=true→(some (.bool ((cm false now own.i (Int.ofNat 0) (Int.ofNat 0) own.i) != (Int.ofNat 0))):OV)=some (.bool true)∧(Q (v12) [o] [] []))∧(((cm false now own.i (Int.ofNat 0) (Int.ofNat 0) own.i) != (Int.ofNat 0))=false→(some (iN 1):OV)=some (iN 1)∧(Q (.tuple #[v13,iN 1,iN 0]) [o] [] []))))))))))))))))=RF Tryz.prog N5 Tryz.f167 300 vz ⟨tmsOf [cP own,vS f 0 n c,Iv now,.bool lost] 0 .leaf,heapOf [o,.dead] aE,[]⟩ (.b 9 (.stop 1 [] []) (.h 12 (iN 0) [.dead] (.b 17 (.stop 1 [] []) (.b 21 (.stop 1 [] []) (.h 28 (v5) [(ownL ls),.dead] (.v 36 (.bool true) (.v 40 (iN m) (.v 41 (pb 9 (m*3)) (.v 42 (lA top) (.b 90 (.stop 1 [] []) (.h 94 (au) [.dead,.dead] (.v 115 (.bool true) (.b 129 (.b 145 (.b 161 (.b 178 (.b 225 (.v 245 (.bool true) (.stop 1 [] [])) (.stop 1 [] [])) (.stop 1 [] [])) (.b 188 (.v 204 (.bool true) (.stop 1 [] [])) (.stop 1 [] []))) (.h 154 (Iv lst) [.dead] (.b 176 (.v 192 (.bool true) (.stop 1 [] [])) (.stop 1 [] [])))) (.b 163 (.v 183 (.bool true) (.stop 1 [] [])) (.stop 1 [] []))))))))))))))) Q:=by cases f <;> (intros;kernel_rfl)
theorem Ot(f:Bool)(o:af)(n c m q:Nat)(now lst:Int)(lost:Bool)(own:aa)(top:aU)(ls:List aU)(ds:List Int)(Q:Value→List af→List Nat→List af→Prop):let b0:af:=.cells 23 [.bool own.n,Iv own.t,Iv own.o,Iv own.r,Iv own.d,Iv own.i] false;let v1:Value:=.agg #[.bool own.n,Iv own.t,Iv own.o,Iv own.r,Iv own.d,Iv own.i];let v2:Value:=.tuple #[.agg #[.bool false,iN 0,iN 0,iN 0,iN 0,iN 0],iN 0,iN 1];let b3:af:=.cells 23 [.bool false,iN 0,iN 0,iN 0,iN 0,iN 0] false;let b4:af:=.cells 3 [Iv now] false;let b5:af:=.cells 24 [vS f 0 n c] false;let b6:af:=.cells 4 [.bool lost] false;((((cm own.n own.t own.o own.r own.d own.i) != (Int.ofNat 0))=true→Q (v2) [o] [] [])∧(((cm own.n own.t own.o own.r own.d own.i) != (Int.ofNat 0))=false→HT (jX [vS f 0 n c]) (heapOf [o,.dead,b0,b5,b4,b6,b3] aE) (iN 0) [.dead]∧(((decide (now<(Int.ofNat 0)))=true→Q (v2) [o] [] [])∧((decide (now<(Int.ofNat 0)))=false→((decide (now>(Int.ofNat 4611686018427387903)))=true→Q (v2) [o] [] [])∧((decide (now>(Int.ofNat 4611686018427387903)))=false→HT (yV [vS f 0 n c]) (heapOf [o,.dead,b0,b5,b4,b6,b3,.dead,.cells 3 [Iv own.i] false] aE) (au) [.dead,.dead]∧((own.n=true→(some (iN 0):OV)=some (iN 0)∧(Q (.tuple #[v1,iN 0,iN 0]) [o] [] []))∧(own.n=false→HT (Ka [vS f 0 n c,v1]) (heapOf [o,.dead,b0,b5,b4,b6,b3,.dead,.cells 3 [Iv own.i] false,.dead,.dead,.cells 172 [au] false,.cells 28 [iN 0,iN 0,iN 0] false,.cells 28 [iN 0,iN 0,iN 1] false,.cells 197 [iN 0,.func (.func 192) #[] #[pb 2 0,pb 3 0],.func (.func 187) #[] #[pb 2 0],iN 6,.func (.func 193) #[] #[pb 11 0],.func (.func 188) #[] #[pb 8 0],iN 1,.func (.func 194) #[] #[pb 5 0],.func (.func 189) #[] #[pb 4 0,pb 8 0],iN 2,.func (.func 195) #[] #[pb 11 0],.func (.func 196) #[] #[pb 12 0,pb 3 0,pb 8 0],iN 3,.func (.func 198) #[] #[pb 12 0],.func (.func 199) #[] #[pb 13 0,pb 8 0],iN 4,.func (.func 200) #[] #[pb 12 0,pb 8 0],.func (.func 188) #[] #[pb 8 0],iN 5,.func (.func 191) #[] #[],.func (.func 189) #[] #[pb 4 0,pb 8 0]] false,.cells 197 [iN 0,.func (.func 192) #[] #[pb 2 0,pb 3 0],.func (.func 187) #[] #[pb 2 0]] false] aE) (.slice (some ⟨16,0,none⟩) (q+1) 4) [(dv ds),.dead]∧((some (.bool (decide ((Int.ofNat (q+1))>(Int.ofNat 0)))):OV)=some (.bool true)∧((some (iN 0):OV)=some (iN 0)∧(Q (.tuple #[v1,iN 0,iN 0]) [o] [] []))))))))))=RF Tryz.prog N5 Tryz.f167 300 vz ⟨tmsOf [cP own,vS f 0 n c,Iv now,.bool lost] 0 .leaf,heapOf [o,.dead] aE,[]⟩ (.b 9 (.stop 1 [] []) (.h 12 (iN 0) [.dead] (.b 17 (.stop 1 [] []) (.b 21 (.stop 1 [] []) (.h 28 (au) [.dead,.dead] (.b 83 (.stop 1 [] []) (.h 87 (.slice (some ⟨16,0,none⟩) (q+1) 4) [(dv ds),.dead] (.v 89 (.bool true) (.stop 1 [] []))))))))) Q:=by cases f <;> (intros;kernel_rfl)
theorem Ow(f:Bool)(o:af)(n c m q:Nat)(now lst:Int)(lost:Bool)(own:aa)(top:aU)(ls:List aU)(ds:List Int)(Q:Value→List af→List Nat→List af→Prop):let b0:af:=.cells 23 [.bool own.n,Iv own.t,Iv own.o,Iv own.r,Iv own.d,Iv own.i] false;let v1:Value:=.tuple #[.agg #[.bool false,iN 0,iN 0,iN 0,iN 0,iN 0],iN 0,iN 1];let b2:af:=.cells 23 [.bool false,iN 0,iN 0,iN 0,iN 0,iN 0] false;let v3:Value:=.agg #[.bool own.n,Iv own.t,Iv own.o,Iv own.r,Iv own.d,Iv own.i];let b4:af:=.cells 3 [Iv now] false;let b5:af:=.cells 24 [vS f 0 n c] false;let b6:af:=.cells 4 [.bool lost] false;((((cm own.n own.t own.o own.r own.d own.i) != (Int.ofNat 0))=true→Q (v1) [o] [] [])∧(((cm own.n own.t own.o own.r own.d own.i) != (Int.ofNat 0))=false→HT (jX [vS f 0 n c]) (heapOf [o,.dead,b0,b5,b4,b6,b2] aE) (iN 0) [.dead]∧(((decide (now<(Int.ofNat 0)))=true→Q (v1) [o] [] [])∧((decide (now<(Int.ofNat 0)))=false→((decide (now>(Int.ofNat 4611686018427387903)))=true→Q (v1) [o] [] [])∧((decide (now>(Int.ofNat 4611686018427387903)))=false→HT (yV [vS f 0 n c]) (heapOf [o,.dead,b0,b5,b4,b6,b2,.dead,.cells 3 [Iv own.i] false] aE) (au) [.dead,.dead]∧((own.n=true→(some (iN 0):OV)=some (iN 0)∧(Q (.tuple #[v3,iN 0,iN 0]) [o] [] []))∧(own.n=false→HT (Ka [vS f 0 n c,v3]) (heapOf [o,.dead,b0,b5,b4,b6,b2,.dead,.cells 3 [Iv own.i] false,.dead,.dead,.cells 172 [au] false,.cells 28 [iN 0,iN 0,iN 0] false,.cells 28 [iN 0,iN 0,iN 1] false,.cells 197 [iN 0,.func (.func 192) #[] #[pb 2 0,pb 3 0],.func (.func 187) #[] #[pb 2 0],iN 6,.func (.func 193) #[] #[pb 11 0],.func (.func 188) #[] #[pb 8 0],iN 1,.func (.func 194) #[] #[pb 5 0],.func (.func 189) #[] #[pb 4 0,pb 8 0],iN 2,.func (.func 195) #[] #[pb 11 0],.func (.func 196) #[] #[pb 12 0,pb 3 0,pb 8 0],iN 3,.func (.func 198) #[] #[pb 12 0],.func (.func 199) #[] #[pb 13 0,pb 8 0],iN 4,.func (.func 200) #[] #[pb 12 0,pb 8 0],.func (.func 188) #[] #[pb 8 0],iN 5,.func (.func 191) #[] #[],.func (.func 189) #[] #[pb 4 0,pb 8 0]] false,.cells 197 [iN 0,.func (.func 192) #[] #[pb 2 0,pb 3 0],.func (.func 187) #[] #[pb 2 0]] false] aE) (au) [.dead,.dead]∧((some (iN 6):OV)=some (iN 6)∧(Q (.tuple #[.agg #[.bool true,iN 0,iN 0,iN 0,iN 0,Iv own.i],iN 6,iN 0]) [o] [] [])))))))))=RF Tryz.prog N5 Tryz.f167 300 vz ⟨tmsOf [cP own,vS f 0 n c,Iv now,.bool lost] 0 .leaf,heapOf [o,.dead] aE,[]⟩ (.b 9 (.stop 1 [] []) (.h 12 (iN 0) [.dead] (.b 17 (.stop 1 [] []) (.b 21 (.stop 1 [] []) (.h 28 (au) [.dead,.dead] (.b 83 (.stop 1 [] []) (.h 87 (au) [.dead,.dead] (.stop 1 [] [])))))))) Q:=by cases f <;> (intros;kernel_rfl)
theorem Ou(f:Bool)(o:af)(n c m q:Nat)(now lst:Int)(lost:Bool)(own:aa)(top:aU)(ls:List aU)(ds:List Int)(Q:Value→List af→List Nat→List af→Prop):let v0:Value:=.tuple #[.agg #[.bool false,iN 0,iN 0,iN 0,iN 0,iN 0],iN 0,iN 1];((((cm own.n own.t own.o own.r own.d own.i) != (Int.ofNat 0))=true→Q (v0) [o] [] [])∧(((cm own.n own.t own.o own.r own.d own.i) != (Int.ofNat 0))=false→HT (jX [vS f 0 n c]) (heapOf [o,.dead,.cells 23 [.bool own.n,Iv own.t,Iv own.o,Iv own.r,Iv own.d,Iv own.i] false,.cells 24 [vS f 0 n c] false,.cells 3 [Iv now] false,.cells 4 [.bool lost] false,.cells 23 [.bool false,iN 0,iN 0,iN 0,iN 0,iN 0] false] aE) (iN 1) [.dead]∧(Q (v0) [o] [] [])))=RF Tryz.prog N5 Tryz.f167 300 vz ⟨tmsOf [cP own,vS f 0 n c,Iv now,.bool lost] 0 .leaf,heapOf [o,.dead] aE,[]⟩ (.b 9 (.stop 1 [] []) (.h 12 (iN 1) [.dead] (.stop 1 [] []))) Q:=by cases f <;> (intros;kernel_rfl)
theorem Rz(vs:List aa)(hn:vs.length<1000000):∀ rest v0,caseA vs rest=some v0→Ku Tryz.f167 vz 105 1 vs rest v0:=fun rest v0 h=>by
 unfold caseA at h;split at h
 case h_2=>cases h
 rename_i a now lost;obtain ⟨own,hown,h2⟩:=Option.map_eq_some_iff.1 h;obtain rfl:=nG hown;cases h2;refine ⟨Bb _,(by intro r hr; simp at hr; rcases hr with rfl | rfl | rfl; exact Ix _; exact lx _ _; exact qX _),by simp,fun f o c W X ho hrow hfl=>?_⟩
 have T0:∀ {hp:Hp},hp.get 0=some o→TN vs (vS f 0 vs.length c) hp:=fun hg=>fW ho hrow hfl hg
 have hck:∀ {hp:Hp},hp.get 0=some o→jX [vS f 0 vs.length c] hp=some (l4 (aF vs),heapOf [.dead] hp):=fun hg=>pk (T0 hg) (by unfold Al; omega)
 have hlv:∀ {hp:Hp},hp.get 0=some o→yV [vS f 0 vs.length c] hp=some (oS (bN (aX vs)) hp.sz,heapOf [ownL (bN (aX vs)),.dead] hp):=fun hg=>BT (T0 hg) hn
 have hdn:∀ {hp:Hp},hp.get 0=some o→Ka [vS f 0 vs.length c,cP own] hp=some (rowIv (gT 1 own vs) hp.sz,heapOf [dv (gT 1 own vs),.dead] hp):=fun hg=>sQ (A:=wayR19) (T0 hg) hn rfl
 have hls':∀ (top:aU) {hp:Hp},hp.get 0=some o→BR [vS f 0 vs.length c,lA top] hp=some (.int .i64 (rR top vs),heapOf [.dead] hp):=fun top {hp} hg=>Gq top (T0 hg) hn
 have hml:(bN (aX vs)).length≤vs.length:=Nat.le_trans (Dc _) (nW _)
 unfold bQ;generalize bN (aX vs)=ls at *;generalize gT 1 own vs=ds at *;cases hr:aF vs with
 | false =>
   rw [hr] at hck;refine bm.bW pW follows Sl (Ou f o vs.length c 0 0 now 0 lost own zl [] [] _) ?_
   refine ⟨fun h_9=>Q1.of ?_,fun h_9=>⟨hck eV,Q1.of ?_⟩⟩
   all_goals ((try simp only [jr,Bool.not_eq_true',Bool.not_eq_false'] at *); first | (rw [ja (by assumption)]; rfl) | (rw [jb (by assumption)]; simp only [caseW,oE,Au,cm, *,cond_true,cond_false,Bool.not_true,Bool.not_false]; first | rfl | exact kz (by assumption)))
 | true =>
   rw [hr] at hck;cases ls with
   | nil =>
     cases ds with
     | nil =>
       refine bm.bW pW follows Sl (Ow f o vs.length c 0 0 now 0 lost own zl [] [] _) ?_
       refine ⟨fun h_9=>Q1.of ?_,fun h_9=>⟨hck eV,fun h_17=>Q1.of ?_,fun h_17=>⟨fun h_21=>Q1.of ?_,fun h_21=>⟨hlv eV,fun h_83=>⟨rfl,Q1.of ?_⟩,fun h_83=>⟨hdn eV,rfl,Q1.of ?_⟩⟩⟩⟩⟩
       all_goals ((try simp only [jr,Bool.not_eq_true',Bool.not_eq_false'] at *); first | (rw [ja (by assumption)]; rfl) | (rw [jb (by assumption)]; simp only [caseW,List.getLast?_nil,List.isEmpty_nil,oE,Au,cm, *,cond_true,cond_false,Bool.not_true,Bool.not_false]; first | rfl | exact kz (by assumption)))
     | cons d ds =>
       refine bm.bW pW follows Sl (Ot f o vs.length c 0 ds.length now 0 lost own zl [] (d::ds) _) ?_
       refine ⟨fun h_9=>Q1.of ?_,fun h_9=>⟨hck eV,fun h_17=>Q1.of ?_,fun h_17=>⟨fun h_21=>Q1.of ?_,fun h_21=>⟨hlv eV,fun h_83=>⟨rfl,Q1.of ?_⟩,fun h_83=>⟨hdn eV,aH (Il _),rfl,Q1.of ?_⟩⟩⟩⟩⟩
       all_goals ((try simp only [jr,Bool.not_eq_true',Bool.not_eq_false'] at *); first | (rw [ja (by assumption)]; rfl) | (rw [jb (by assumption)]; simp only [caseW,List.getLast?_nil,List.isEmpty_cons,oE,Au,cm, *,cond_true,cond_false,Bool.not_true,Bool.not_false]; first | rfl | exact kz (by assumption)))
   | cons l ls =>
     have hlast:(l::ls).getLast? = some ((l::ls)[ls.length]'(by simp)):=by rw [List.getLast?_eq_getElem?]; simp
     have hget:(l::ls)[ls.length]? = some ((l::ls)[ls.length]'(by simp)):=List.getElem?_eq_getElem _
     rw [AD hlast];generalize (l::ls)[ls.length]'(by simp)=top at *
     generalize hL:l::ls=L at *;have hlen:L.length=ls.length+1:=by rw [← hL]; rfl
     have hls:=fun {hp:Hp} (hg:hp.get 0=some o)=>hls' top hg
     have hlv':∀ {hp:Hp},hp.get 0=some o→yV [vS f 0 vs.length c] hp=some (.slice (some ⟨hp.sz,0,none⟩) (ls.length+1) 11,heapOf [ownL L,.dead] hp):=by rw [← hL] at hlv ⊢; exact hlv
     clear hlv; have hlv:=fun {hp:Hp} (hg:hp.get 0=some o)=>hlv' hg
     have hm:ls.length<1000000:=by omega
     cases ds with
     | nil =>
       refine bm.bW pW follows Sl (Ov f o vs.length c ls.length 0 now (rR top vs) lost own top L [] _) ?_
       refine ⟨fun h_9=>Q1.of ?_,fun h_9=>⟨hck eV,fun h_17=>Q1.of ?_,fun h_17=>⟨fun h_21=>Q1.of ?_,fun h_21=>⟨hlv eV,aH (Il _),(gF (by omega)),Eb (Nat.lt_succ_self _),yd (us:=L) (by rw [ak]; rfl) hget,fun h_90=>⟨rfl,Q1.of ?_⟩,fun h_90=>⟨hdn eV,aH (XS _),fun h_129=>⟨fun h_145=>⟨fun h_161=>⟨fun h_178=>⟨fun h_225=>⟨aH h_225,Q1.of ?_⟩,fun h_225=>⟨rfl,Q1.of ?_⟩⟩,fun h_178=>⟨rfl,Q1.of ?_⟩⟩,fun h_161=>⟨fun h_188=>⟨aH h_188,Q1.of ?_⟩,fun h_188=>⟨rfl,Q1.of ?_⟩⟩⟩,fun h_145=>⟨hls eV,fun h_176=>⟨rfl,rfl,aH h_176,Q1.of ?_⟩,fun h_176=>⟨rfl,rfl,rfl,Q1.of ?_⟩⟩⟩,fun h_129=>⟨fun h_163=>⟨aH h_163,Q1.of ?_⟩,fun h_163=>⟨rfl,Q1.of ?_⟩⟩⟩⟩⟩⟩⟩
       all_goals ((try simp only [jr,Bool.not_eq_true',Bool.not_eq_false'] at *); first | (rw [ja (by assumption)]; rfl) | (rw [jb (by assumption)]; simp only [caseW,hlen,List.isEmpty_nil,oE,Au,cm, *,cond_true,cond_false,Bool.not_true,Bool.not_false]; first | rfl | exact kz (by assumption)))
     | cons d ds =>
       refine bm.bW pW follows Sl (JO f o vs.length c ls.length ds.length now (rR top vs) lost own top L (d::ds) _) ?_
       refine ⟨fun h_9=>Q1.of ?_,fun h_9=>⟨hck eV,fun h_17=>Q1.of ?_,fun h_17=>⟨fun h_21=>Q1.of ?_,fun h_21=>⟨hlv eV,aH (Il _),(gF (by omega)),Eb (Nat.lt_succ_self _),yd (us:=L) (by rw [ak]; rfl) hget,fun h_90=>⟨rfl,Q1.of ?_⟩,fun h_90=>⟨hdn eV,aH (Il _),rfl,Q1.of ?_⟩⟩⟩⟩⟩
       all_goals ((try simp only [jr,Bool.not_eq_true',Bool.not_eq_false'] at *); first | (rw [ja (by assumption)]; rfl) | (rw [jb (by assumption)]; simp only [caseW,hlen,List.isEmpty_cons,oE,Au,cm, *,cond_true,cond_false,Bool.not_true,Bool.not_false]; first | rfl | exact kz (by assumption)))
noncomputable def uT:aC:=toldA 1 caseA
theorem Mn:aq Tryz.prog 167 uT:=q9 Tryz.func167 K3 (by kernel_rfl) UH fun vs hn=>Rz vs hn
theorem BS{vs:List aa}{s:Value}{hp:Hp}{own:aa}(h0:own.id=0)(now:Int)(lost:Bool)(h:TN vs s hp)(hn:vs.length<1000000):uT [cP own,s,.int .i64 now,.bool lost] hp=some (Ba (bQ own vs now lost),heapOf [.dead] hp) :=
 xa rfl h hn (by show caseA vs [cP own,.int .i64 now,.bool lost]=_; unfold caseA; simp only [IL h0]; rfl)
end Go.Proofs.YtgeoommlmddgpaaGreat.LtL
namespace Go.Proofs.YtgeoommlmddgpaaGreat.AI
open Go Go.Proofs Go.RowKit
def pL:Code→Code
 | .seq a _=>a
 | c=>c
def pR:Code→Code
 | .seq _ b=>b
 | c=>c
def pB:Code→Code
 | .block _ b=>b
 | c=>c
def pU:Code→Code
 | .loop b=>b
 | c=>c
section
variable {P:Program} {N z:Nat} {W:bh} {X:fe}
theorem bm.fold{b:Code}{α β : Type}{vs:List β}(F : α→β→α)(a0 : α)(I : α→Nat→(Nat→Value)→St){Q:Exit→St→Prop}
  (last:∀ a g,vs.foldl F a0=a→bm P N W z X b (I a vs.length g) (fun e st=>e≠.normal∧Q e st))
  (step:∀ i x a g,vs[i]? = some x→i<vs.length→(vs.take i).foldl F a0=a→bm P N W z X b (I a i g) (fun e st=>(e = .normal∧∃ g',st=I (F a x) (i+1) g')∨(e≠.normal∧Q e st)))
  (g:Nat→Value):bm P N W z X (.loop b) (I a0 0 g) Q:=by
 have:=bm.count (P:=P) (N:=N) (W:=W) (z:=z) (X:=X) (c:=b) (Q:=Q) vs.length (fun i g=>I ((vs.take i).foldl F a0) i g) (fun i hi g=>?_) (fun g=>?_) g
 ·simpa using this
 ·have hx:vs[i]? = some vs[i]:=List.getElem?_eq_getElem hi
  have e:(vs.take (i+1)).foldl F a0=F ((vs.take i).foldl F a0) vs[i]:=by
    rw [List.take_add_one,hx,List.foldl_append]; rfl
  simp only [e];exact step i vs[i] _ g hx hi rfl
 ·have:=last _ g rfl
  simpa using this
theorem TL{n:Nat}{O:List af}(h:∀ i,i<n→∀ o,O[i]? = some o→aA o=true):uS n O:=fun i hi o ho=>bb (h i hi o ho) 0
theorem Pr{o p:af}{r:List af}(h:aA o=true)(k:aA p=true):uS 2 (o::p::r):=TL fun i hi o' ho=>by
 match i,hi with
 | 0,_=>cases ho; exact h
 | 1,_=>cases ho; exact k
end
end Go.Proofs.YtgeoommlmddgpaaGreat.AI
namespace Go.Proofs.YtgeoommlmddgpaaGreat.LtL
open Go Go.Proofs Go.Proofs.YtgeoommlmddgpaaGreat.AI Go.RowKit Go.Proofs.YtgeoommlmddgpaaGreat.Sort Go.Proofs.YtgeoommlmddgpaaGreat.LtA
theorem Ej{f:Bool}{n i:Nat}(hkk:kk f n=n)(h:i<n):decide (Int.ofNat i<Int.ofNat (kk f n))=true:=by rw [hkk]; exact decide_eq_true (by simp only [Int.ofNat_eq_natCast]; omega)
theorem Ei{f:Bool}{n:Nat}(hkk:kk f n=n):decide (Int.ofNat n<Int.ofNat (kk f n))=false:=by rw [hkk]; exact decide_eq_false (by simp)
theorem Ju{x:aa}(hn:x.n=false)(h:dQ x.n x.t x.o x.r x.d x.i=true):Kn x:=by
 unfold Kn known; rw [h,hn]; rfl
theorem D5{x:aa}(h:Kn x):x.n=false∧dQ x.n x.t x.o x.r x.d x.i=true:=by
 unfold Kn known at h;simpa using h
theorem yf{x:aa}(h:Kn x):bA x=(x.t,x.o,x.r):=by
 unfold Kn at h;unfold bA km kq ks;rw [h]; rfl
theorem Qx{n:Bool}{t o r d i:Int}(h:dQ n t o r d i=true)(hn:n=false) : -1099511627776≤d∧d≤1099511627776:=by
 subst hn;unfold dQ at h;simp only [cond_false,Bool.and_eq_true,decide_eq_true_eq,ge_iff_le] at h;exact h.2.2.2.2.2.2.2
inductive gH (own:aa) (vs:List aa) (now:Int) (lost:Bool):B7→Prop where
 | bad:gH own vs now lost (zH,0,1)
 | stay:own.n=true∨gT 1 own vs≠[]→gH own vs now lost (own,0,0)
 | alone:own.n=false→gT 1 own vs = []→bN (aX vs) = []→gH own vs now lost (bG own.i,6,0)
 | lost (top:aU):Kn own→gT 1 own vs = []→(bN (aX vs)).getLast? = some top→lost=true→dQ false now own.i 0 0 own.i=true→gH own vs now lost (⟨0,false,now,own.i,0,0,own.i⟩,1,0)
 | prop (top:aU):Kn own→gT 1 own vs = []→(bN (aX vs)).getLast? = some top→1<(bN (aX vs)).length→dQ false top.1 top.2.1 top.2.2 (wrapF .i64 (rR top vs-1)) own.i=true→gH own vs now lost (⟨0,false,top.1,top.2.1,top.2.2,wrapF .i64 (rR top vs-1),own.i⟩,2,0)
 | refl (top:aU):Kn own→gT 1 own vs = []→(bN (aX vs)).getLast? = some top→(bN (aX vs)).length=1→top.2.2=0→dQ false top.1 top.2.1 1 0 own.i=true→gH own vs now lost (⟨0,false,top.1,top.2.1,1,0,own.i⟩,3,0)
 | dete (top:aU):Kn own→gT 1 own vs = []→(bN (aX vs)).getLast? = some top→(bN (aX vs)).length=1→top.2.2≠0→top.2.1=own.i→gH own vs now lost (bG own.i,4,0)
 | gene (top:aU):Kn own→gT 1 own vs = []→(bN (aX vs)).getLast? = some top→(bN (aX vs)).length=1→dQ false now own.i 0 0 own.i=true→gH own vs now lost (⟨0,false,now,own.i,0,0,own.i⟩,5,0)
theorem tD{own:aa}{vs:List aa}{now:Int}{lost:Bool}{c t o r d i:Int}(h:dQ false t o r d i=true→gH own vs now lost (⟨0,false,t,o,r,d,i⟩,c,0)):gH own vs now lost (Au c t o r d i):=by
 unfold Au;cases hc:dQ false t o r d i with
 | true=>exact h hc
 | false=>exact .bad
theorem mP(own:aa)(vs:List aa)(now:Int)(lost:Bool):gH own vs now lost (bQ own vs now lost)∧((bQ own vs now lost).2.2=0→aF vs=true∧dQ own.n own.t own.o own.r own.d own.i=true):=by
 unfold bQ;cases hok:dQ own.n own.t own.o own.r own.d own.i with
 | false=>rw [ja hok]; exact ⟨.bad,fun h=>absurd (show (1:Int)=0 from h) (by decide)⟩
 | true =>
 rw [jb hok];unfold caseW;cases hr:aF vs with
 | false=>exact ⟨.bad,fun h=>absurd (show (1:Int)=0 from h) (by decide)⟩
 | true =>
 simp only [Bool.not_true,cond_false];cases h1:decide (now<Int.ofNat 0) with
 | true=>exact ⟨.bad,fun h=>absurd (show (1:Int)=0 from h) (by decide)⟩
 | false =>
 cases h2:decide (now>Int.ofNat 4611686018427387903) with
 | true=>exact ⟨.bad,fun h=>absurd (show (1:Int)=0 from h) (by decide)⟩
 | false =>
 simp only [cond_false];refine ⟨?_,fun _=>⟨trivial,trivial⟩⟩
 cases hn:own.n with
 | true=>exact .stay (.inl hn)
 | false =>
 simp only [cond_false];have hK:Kn own:=Ju hn hok
 cases hd:(gT 1 own vs) with
 | cons z zs=>exact .stay (.inr (by rw [hd]; simp))
 | nil =>
 simp only [List.isEmpty_nil,Bool.not_true,cond_false];cases hl:(bN (aX vs)).getLast? with
 | none=>exact .alone hn hd (List.getLast?_eq_none_iff.1 hl)
 | some top =>
 simp only;have hpos:0<(bN (aX vs)).length:=by
  cases e:bN (aX vs) with
  | nil=>rw [e] at hl; cases hl
  | cons a b=>simp
 unfold oE;cases lost with
 | true=>exact tD fun h=>.lost top hK hd hl rfl h
 | false =>
 simp only [cond_false];cases hk:decide (Int.ofNat (bN (aX vs)).length>Int.ofNat 1) with
 | true=>exact tD fun h=>.prop top hK hd hl (by have:=of_decide_eq_true hk; simp only [Int.ofNat_eq_natCast] at this; omega) h
 | false =>
 have tS:(bN (aX vs)).length=1:=by have:=of_decide_eq_false hk; simp only [Int.ofNat_eq_natCast] at this; omega
 simp only [cond_false];cases hr0:(top.2.2==Int.ofNat 0) with
 | true=>exact tD fun h=>.refl top hK hd hl tS (by simpa using hr0) h
 | false =>
 simp only [cond_false];cases ho:(top.2.1==own.i) with
 | true=>exact .dete top hK hd hl tS (by simpa using hr0) (by simpa using ho)
 | false=>exact tD fun h=>.gene top hK hd hl tS h
theorem MN{vs:List aa}{l:aU}(h:l∈bN (aX vs)):∃ x∈vs,Kn x∧l=(x.t,x.o,x.r):=by
 have:=Dd.1 h
 unfold aX at this;obtain ⟨x,hx,rfl⟩:=List.mem_map.1 this;obtain ⟨h1,h2⟩:=List.mem_filter.1 hx;exact ⟨x,h1,h2,yf h2⟩
theorem IK{ls:List aU}{top:aU}(h:ls.getLast? = some top):top∈ls:=List.mem_of_getLast? h
theorem pZ{me:Int}{vs:List aa}(h:(bJ me vs).2=0):(eD vs).2=true∧bc (eD vs).1 (bJ me vs).1=true∧(bJ me vs).1.i=me∧bA (bJ me vs).1=bA (eD vs).1∧(bJ me vs).1.d=wrapF .i64 ((eD vs).1.d+1):=by
 unfold bJ at h ⊢;cases hr:aF vs with
 | false=>rw [hr] at h; exact absurd (show (1:Int)=0 from h) (by decide)
 | true =>
 rw [hr] at h;simp only [Bool.not_true,cond_false] at h ⊢;cases hz:dQ false (Int.ofNat 0) (Int.ofNat 0) (Int.ofNat 0) (Int.ofNat 0) me with
 | false=>rw [hz] at h; exact absurd (show (1:Int)=0 from h) (by decide)
 | true =>
 rw [hz] at h;simp only [Bool.not_true,cond_false] at h ⊢;have hlow:=MT vs
 cases hl:(eD vs).2 with
 | false=>rw [hl] at h; exact absurd (show (7:Int)=0 from h) (by decide)
 | true =>
 rw [hl] at h;simp only [Bool.not_true,cond_false] at h ⊢;obtain ⟨hm,hk,_⟩:=hlow.1 hl;generalize (eD vs).1=y at *;rw [yf hk] at h ⊢;unfold Ja at h ⊢;cases ho:dQ false y.t y.o y.r (wrapF .i64 (y.d+Int.ofNat 1)) me with
 | false=>rw [ho] at h; exact absurd (show (1:Int)=0 from h) (by decide)
 | true =>
 simp only [cond_true];have hK:Kn (⟨0,false,y.t,y.o,y.r,wrapF .i64 (y.d+Int.ofNat 1),me⟩:aa):=Ju rfl ho
 have hd:=Qx (D5 hk).2 (D5 hk).1
 have hw:wrapF .i64 (y.d+Int.ofNat 1)=y.d+1:=wrap64 (by simp only [Int.ofNat_eq_natCast]; omega) (by simp only [Int.ofNat_eq_natCast]; omega)
 refine ⟨trivial,(kU hk hK).2 (.inr ⟨rfl,.inr ⟨rfl,.inr ⟨rfl,.inl ?_⟩⟩⟩),trivial,yf hK,rfl⟩
 show y.d<wrapF .i64 (y.d+Int.ofNat 1)
 rw [hw]; omega
structure ax where
 me:Int
 dest:Int
 own:aa
 asked:Bool
 want:Bool
 heard:Bool
 last:Int
structure aY where
 to:Int
 kind:Int
 dest:Int
 h:aa
 l:aU
 num:Int
def fZ(R:ax)(s:Value):List Value:=[.int .i64 R.me,.int .i64 R.dest,.bool R.own.n,.int .i64 R.own.t,.int .i64 R.own.o,.int .i64 R.own.r,.int .i64 R.own.d,.int .i64 R.own.i,s,.bool R.asked,.bool R.want,.bool R.heard,.int .i64 R.last]
def dC(R:ax)(s:Value):Value:=.agg (fZ R s).toArray
def oc(x:aY):List Value:=[.int .i64 x.to,.int .i64 x.kind,.int .i64 x.dest,.bool x.h.n,.int .i64 x.h.t,.int .i64 x.h.o,.int .i64 x.h.r,.int .i64 x.h.d,.int .i64 x.h.i,.int .i64 x.l.1,.int .i64 x.l.2.1,.int .i64 x.l.2.2,.int .i64 x.num]
def unR:Value→Option (ax×Value)
 | .agg cs=>match cs.toList with
   | [.int .i64 me,.int .i64 dest,.bool n,.int .i64 t,.int .i64 o,.int .i64 r,.int .i64 d,.int .i64 i,s,.bool a,.bool w,.bool h,.int .i64 l]=>some (⟨me,dest,⟨0,n,t,o,r,d,i⟩,a,w,h,l⟩,s)
   | _=>none
 | _=>none
theorem Ad{R:ax}{s:Value}(h0:R.own.id=0):unR (dC R s)=some (R,s):=by
 obtain ⟨me,dest,⟨id,n,t,o,r,d,i⟩,a,w,h,l⟩:=R;simp only at h0;subst h0; rfl
theorem xe{v:Value}{R:ax}{s:Value}(h:unR v=some (R,s)):v=dC R s∧R.own.id=0:=by
 unfold unR at h;split at h
 ·rename_i cs
  split at h
  ·rename_i hcs
   cases h;obtain rfl:=cN hcs;exact ⟨rfl,rfl⟩
  ·cases h
 ·cases h
structure OU (fn:Func) (code:Code) (N:Nat) (R:ax) (vs:List aa) (rest:List Value) (v0:Value):Prop where
 okv:fv v0
 flat:∀ r∈rest,fv r
 len:rest.length+1≤N
 run:∀ f o c W X,aA o=true→(vs = []∨∃ ty ro,o = .cells ty (aK vs) ro)→(f=false→vs = []∧o = .dead) →
  bm Tryz.prog N W 1 X code ⟨tmsOf (dC R (vS f 0 vs.length c)::rest) 0 .leaf,heapOf [o,.dead] aE,[]⟩ (fc Tryz.prog fn (Q1 o v0))
open Classical in
noncomputable def toldC(A:ax→List aa→List Value→Option Value):aC:=fun args hp=>match args with
 | a::rest=>match unR a with
   | some (R,s)=>if h:∃ vs,TN vs s hp∧vs.length<1000000 then (A R h.choose rest).map fun v=>(v,heapOf [.dead] hp) else none
   | none=>none
 | _=>none
theorem yM{A:ax→List aa→List Value→Option Value}{f:FuncId}{fn:Func}{code:Code}{N:Nat}(hf:Tryz.prog.funcs[f]? = some fn)(hb:fn.body=some code)(hnm:(fn.name == "runtime.NumGoroutine")=false)(hN:fn.ntmps=N)
  (H:∀ R vs,R.own.id=0→vs.length<1000000→∀ rest v0,A R vs rest=some v0→OU fn code N R vs rest v0):aq Tryz.prog f (toldC A):=ku follows hf hb hnm fun args hp v hp' h hk=>by
 rw [hN];unfold toldC at h;split at h
 case h_2=>cases h
 rename_i a rest;split at h
 case h_2=>cases h
 rename_i R s ha;obtain ⟨rfl,h0⟩:=xe ha;split at h
 case isFalse=>cases h
 rename_i hx;obtain ⟨hT,hn⟩:=hx.choose_spec;generalize hx.choose=vs at *;obtain ⟨v0,hA,h2⟩:=Option.map_eq_some_iff.1 h;cases h2;have RR:=H R vs h0 hn _ v hA
 have key:∀ (K0:Ks) (f:Bool) (o:af) (c:Nat),K0.length=1→dX K0→mv1 (ik K0) s=vS f 0 vs.length c→dZ K0 hp=heapOf [o,.dead] aE→aA o=true→(vs = []∨∃ ty ro,o = .cells ty (aK vs) ro)→(f=false→vs = []∧o = .dead)→hU (dC R s)=true →
    (∀ (i b:Nat) (wr:Bool),K0[i]? = some (some (b,wr))→(∃ o,hp.get b=some o∧(wr=true→o≠.dead)∧cj o=true)∧uK (dC R s::rest) hp b∧wr=false∧(o = .dead→hp.get b=some .dead)) →
    ∃ (K0:Ks) (O Nw:List af),heapOf [.dead] hp=heapOf (Nw ++ [.dead]) (putO K0 O hp)∧dX K0 ∧
    (∀ (i b:Nat) (wr:Bool),K0[i]? = some (some (b,wr))→(∃ o,hp.get b=some o∧(wr=true→o≠.dead)∧cj o=true)∧uK (dC R s::rest) hp b)∧(dC R s::rest).all hU=true∧(dC R s::rest).length≤N ∧
    ∀ W X,bm Tryz.prog N W K0.length X code ⟨tmsOf ((dC R s::rest).map (mv3 (ik K0))) 0 .leaf,dZ K0 hp,[]⟩ fun e st=>(e = .normal∨e = .ret)∧st.df = []∧∃ v0 K,retVal Tryz.prog fn st=some v0∧hU v0=true∧Nw.length=K.length∧iP K∧F6 K0 O K∧s8 K0 K hp.sz O Nw v v0 st.hp.get hp.get:=by
  intro K0 f o c vO hnd he hpn hi hr hfl hok hst;refine ⟨K0,[o],[],?_,hnd,fun i b wr hi=>⟨(hst i b wr hi).1,(hst i b wr hi).2.1⟩,?_,by have:=RR.len; simpa using this,fun W X=>?_⟩
  ·have e:putO K0 [o] hp=hp:=by
      match K0,vO with
      | [none],_=>rfl
      | [some (b,false)],_=>rfl
      | [some (b,true)],_=>exact absurd (hst 0 b true rfl).2.2.1 (by decide)
   rw [e]; rfl
  ·rw [List.all_cons,hok]
   exact List.all_eq_true.2 fun x hx=>(RR.flat x hx).1
  ·have ea:(dC R s::rest).map (mv3 (ik K0))=dC R (vS f 0 vs.length c)::rest:=by
      rw [List.map_cons,na RR.flat,← he];simp [mv3,mv2,mv1,dC,fZ]
   rw [ea,hpn,vO];refine bm.mono (RR.run f o c W X hi hr hfl) fun e st q=>?_
   have:=Gm.fin (K0:=K0) (B:=hp.sz) (O:=[o]) (Nw:=[]) (v:=v) (g:=hp.get) (fn:=fn) (P:=Tryz.prog) (e:=e) (st:=st) (by
     obtain ⟨q1,q2,v1,z,O,K,Nw,q3,q4,q5,rfl,rfl,rfl,rfl⟩:=q;refine ⟨q1,q2,_,z,_,_,_,q3,q4,q5,?_⟩
     refine ⟨RR.okv.1,by simp [bU (vs:=vs) hi],rfl,rfl,by simp [vO],⟨[],[],[],rfl,rfl,(RR.okv.2 _).symm,fun i b hi'=>?_,rfl⟩,fun i b hi' hdd=>?_⟩
     ·exact absurd (hst i b true hi').2.2.1 (by decide)
     ·have h0:i=0:=by have:=(List.getElem?_eq_some_iff.1 hi').1; omega
      subst h0;exact (hst 0 b false hi').2.2.2 (by simpa using hdd))
   exact this
 rcases hT with ⟨rfl,rfl⟩ | ⟨b,c,ob,rfl,hb,hi,hr⟩
 ·exact key [none] false .dead 0 rfl (fun i j b wr wr' h1 h2=>by cases i <;> simp at h1) rfl rfl rfl (.inl rfl) (fun _=>⟨rfl,rfl⟩) rfl (fun i b wr h=>by cases i <;> simp at h)
 ·have e1:ik [some (b,false)] b=0:=by simp [ik,posO,Nat.beq_refl]
  refine key [some (b,false)] true (roBlk ob) c rfl (fun i j b wr wr' h1 h2=>?_) ?_ ?_ (bO hi) (ee hr) (fun h=>by cases h) rfl (fun i b' wr h=>?_)
  ·have:=(List.getElem?_eq_some_iff.1 h1).1
   have:=(List.getElem?_eq_some_iff.1 h2).1
   simp at *; omega
  ·simp [mv1,ae,vS,e1]
  ·unfold dZ
   simp [pinB,hb,bV hi,eQ]
  ·have h0:i=0:=by have:=(List.getElem?_eq_some_iff.1 h).1; simpa using this
   subst h0;simp at h;obtain ⟨rfl,rfl⟩:=h;refine ⟨⟨ob,hb,(fun h=>by cases h),aS hi⟩,.arg (.head _) (by simp [kv,jY,ae,dC,fZ]),rfl,?_⟩
   intro h;cases ob <;> first | exact hb | cases h
theorem FG{A:ax→List aa→List Value→Option Value}{R:ax}{vs:List aa}{s:Value}{rest:List Value}{hp:Hp}{v0:Value}(h0:R.own.id=0)(h:TN vs s hp)(hn:vs.length<1000000)(hA:A R vs rest=some v0) :
  toldC A (dC R s::rest) hp=some (v0,heapOf [.dead] hp):=by
 unfold toldC;have hx:∃ vs,TN vs s hp∧vs.length<1000000:=⟨vs,h,hn⟩
 simp only [Ad h0];rw [dif_pos hx,hx.choose_spec.1.uniq h,hA];rfl
theorem xO(u v:aa):fstV ((aBin Tryz.prog .eql 23 (cP u) (cP v)).map fun v=>(v,none))=some (.bool (dh u v)):=by
 have h:aBin Tryz.prog .eql 23 (cP u) (cP v) =
  (bE (u.n==v.n) (bE (u.t==v.t) (bE (u.o==v.o) (bE (u.r==v.r) (bE (u.d==v.d) (bE (u.i==v.i) (some true))))))).map fun b=>.bool b:=by kernel_rfl
 rw [h];simp only [eT];rfl
theorem H9(u v:aa):fstV ((aBin Tryz.prog .neq 23 (cP u) (cP v)).map fun v=>(v,none))=some (.bool (!dh u v)):=by
 have h:aBin Tryz.prog .neq 23 (cP u) (cP v) =
  (bE (u.n==v.n) (bE (u.t==v.t) (bE (u.o==v.o) (bE (u.r==v.r) (bE (u.d==v.d) (bE (u.i==v.i) (some true))))))).map fun b=>.bool !b:=by kernel_rfl
 rw [h];simp only [eT];rfl
def zP(i:Int):Bool:=decide (i≥Int.ofNat 0)&&decide (i<Int.ofNat 64)
def iQ(R:ax)(vs:List aa):Bool :=
 zP R.me&&zP R.dest && !(R.own.i != R.me) && !(aI vs R.me).isSome&&dQ R.own.n R.own.t R.own.o R.own.r R.own.d R.own.i&&aF vs && !(R.asked && !R.own.n) && !decide (R.last<Int.ofNat 0) && !decide (R.last>Int.ofNat 65535) && !(decide (R.last>Int.ofNat 0) && !R.heard) &&
 !((R.me==R.dest) && !dh R.own ⟨0,false,0,0,0,0,R.me⟩)
noncomputable def W5:Ext:=fh (cS Tryz.prog [(57,g15)]) [(25,o8),(58,jX)]
theorem J1:ExtOk Tryz.prog W5:=bC (aT (.cons vN .nil)) (.cons Jp (.cons tT .nil))
noncomputable def Hm:Code:=(Tryz.f22.body).getD .skip
theorem K1:Tryz.f22.body=some Hm:=by kernel_rfl
theorem UF:Tryz.f22.ntmps=89:=by kernel_rfl
theorem Yd:codeSafe Tryz.prog 89 Hm=true:=by kernel_rfl
theorem Tc(f:Bool)(o:af)(n c:Nat)(R:ax)(y:aa)(self rb:Bool)(ck:Int)(Q:Value→List af→List Nat→List af→Prop):let v0:Value:=.agg #[.bool R.own.n,Iv R.own.t,Iv R.own.o,Iv R.own.r,Iv R.own.d,Iv R.own.i];let b1:af:=.cells 26 [Iv R.me,Iv R.dest,.bool R.own.n,Iv R.own.t,Iv R.own.o,Iv R.own.r,Iv R.own.d,Iv R.own.i,vS f 0 n c,.bool R.asked,.bool R.want,.bool R.heard,Iv R.last] false;let v2:Value:=.agg #[.bool false,iN 0,iN 0,iN 0,iN 0,Iv R.me];(HT (o8 [vS f 0 n c,Iv R.me]) (heapOf [o,.dead,b1] aE) (.tuple #[cP y,.bool self]) [.dead]∧((self=true→((decide (R.me≥(Int.ofNat 0)))=true→((!(decide (R.me<(Int.ofNat 64))))=true→Q (iN 1) [o] [] [])∧((!(decide (R.me<(Int.ofNat 64))))=false→((decide (R.dest≥(Int.ofNat 0)))=true→((!(decide (R.dest<(Int.ofNat 64))))=true→Q (iN 1) [o] [] [])∧((!(decide (R.dest<(Int.ofNat 64))))=false→((R.own.i != R.me)=true→Q (iN 1) [o] [] [])∧((R.own.i != R.me)=false→Q (iN 1) [o] [] [])))∧((decide (R.dest≥(Int.ofNat 0)))=false→Q (iN 1) [o] [] [])))∧((decide (R.me≥(Int.ofNat 0)))=false→Q (iN 1) [o] [] []))∧(self=false→((decide (R.me≥(Int.ofNat 0)))=true→((!(decide (R.me<(Int.ofNat 64))))=true→Q (iN 1) [o] [] [])∧((!(decide (R.me<(Int.ofNat 64))))=false→((decide (R.dest≥(Int.ofNat 0)))=true→((!(decide (R.dest<(Int.ofNat 64))))=true→Q (iN 1) [o] [] [])∧((!(decide (R.dest<(Int.ofNat 64))))=false→((R.own.i != R.me)=true→Q (iN 1) [o] [] [])∧((R.own.i != R.me)=false→(((cm R.own.n R.own.t R.own.o R.own.r R.own.d R.own.i) != (Int.ofNat 0))=true→Q (iN 1) [o] [] [])∧(((cm R.own.n R.own.t R.own.o R.own.r R.own.d R.own.i) != (Int.ofNat 0))=false→HT (jX [vS f 0 n c]) (heapOf [o,.dead,b1,.dead,.cells 23 [.bool y.n,Iv y.t,Iv y.o,Iv y.r,Iv y.d,Iv y.i] false] aE) (Iv ck) [.dead]∧(((ck != (Int.ofNat 0))=true→Q (iN 1) [o] [] [])∧((ck != (Int.ofNat 0))=false→(R.asked=true→((!R.own.n)=true→Q (iN 1) [o] [] [])∧((!R.own.n)=false→((decide (R.last<(Int.ofNat 0)))=true→Q (iN 1) [o] [] [])∧((decide (R.last<(Int.ofNat 0)))=false→((decide (R.last>(Int.ofNat 65535)))=true→Q (iN 1) [o] [] [])∧((decide (R.last>(Int.ofNat 65535)))=false→((decide (R.last>(Int.ofNat 0)))=true→((!R.heard)=true→Q (iN 1) [o] [] [])∧((!R.heard)=false→((R.me==R.dest)=true→(fstV ((aBin Tryz.prog .neq 23 (v0) (v2)).map fun v=>(v,none)):OV)=some (.bool (!(dh R.own (⟨0,false,(Int.ofNat 0),(Int.ofNat 0),(Int.ofNat 0),(Int.ofNat 0),R.me⟩:aa))))∧((!(dh R.own (⟨0,false,(Int.ofNat 0),(Int.ofNat 0),(Int.ofNat 0),(Int.ofNat 0),R.me⟩:aa)))=true→(some (v0):OV)=some (v0)∧(Q (iN 1) [o] [] []))∧((!(dh R.own (⟨0,false,(Int.ofNat 0),(Int.ofNat 0),(Int.ofNat 0),(Int.ofNat 0),R.me⟩:aa)))=false→(some (v0):OV)=some (v0)∧(Q (iN 0) [o] [] [])))∧((R.me==R.dest)=false→Q (iN 0) [o] [] [])))∧((decide (R.last>(Int.ofNat 0)))=false→((R.me==R.dest)=true→(fstV ((aBin Tryz.prog .neq 23 (v0) (v2)).map fun v=>(v,none)):OV)=some (.bool (!(dh R.own (⟨0,false,(Int.ofNat 0),(Int.ofNat 0),(Int.ofNat 0),(Int.ofNat 0),R.me⟩:aa))))∧((!(dh R.own (⟨0,false,(Int.ofNat 0),(Int.ofNat 0),(Int.ofNat 0),(Int.ofNat 0),R.me⟩:aa)))=true→(some (v0):OV)=some (v0)∧(Q (iN 1) [o] [] []))∧((!(dh R.own (⟨0,false,(Int.ofNat 0),(Int.ofNat 0),(Int.ofNat 0),(Int.ofNat 0),R.me⟩:aa)))=false→(some (v0):OV)=some (v0)∧(Q (iN 0) [o] [] [])))∧((R.me==R.dest)=false→Q (iN 0) [o] [] []))))))∧(R.asked=false→((decide (R.last<(Int.ofNat 0)))=true→Q (iN 1) [o] [] [])∧((decide (R.last<(Int.ofNat 0)))=false→((decide (R.last>(Int.ofNat 65535)))=true→Q (iN 1) [o] [] [])∧((decide (R.last>(Int.ofNat 65535)))=false→((decide (R.last>(Int.ofNat 0)))=true→((!R.heard)=true→Q (iN 1) [o] [] [])∧((!R.heard)=false→((R.me==R.dest)=true→(fstV ((aBin Tryz.prog .neq 23 (v0) (v2)).map fun v=>(v,none)):OV)=some (.bool (!(dh R.own (⟨0,false,(Int.ofNat 0),(Int.ofNat 0),(Int.ofNat 0),(Int.ofNat 0),R.me⟩:aa))))∧((!(dh R.own (⟨0,false,(Int.ofNat 0),(Int.ofNat 0),(Int.ofNat 0),(Int.ofNat 0),R.me⟩:aa)))=true→(some (v0):OV)=some (v0)∧(Q (iN 1) [o] [] []))∧((!(dh R.own (⟨0,false,(Int.ofNat 0),(Int.ofNat 0),(Int.ofNat 0),(Int.ofNat 0),R.me⟩:aa)))=false→(some (v0):OV)=some (v0)∧(Q (iN 0) [o] [] [])))∧((R.me==R.dest)=false→Q (iN 0) [o] [] [])))∧((decide (R.last>(Int.ofNat 0)))=false→((R.me==R.dest)=true→(fstV ((aBin Tryz.prog .neq 23 (v0) (v2)).map fun v=>(v,none)):OV)=some (.bool (!(dh R.own (⟨0,false,(Int.ofNat 0),(Int.ofNat 0),(Int.ofNat 0),(Int.ofNat 0),R.me⟩:aa))))∧((!(dh R.own (⟨0,false,(Int.ofNat 0),(Int.ofNat 0),(Int.ofNat 0),(Int.ofNat 0),R.me⟩:aa)))=true→(some (v0):OV)=some (v0)∧(Q (iN 1) [o] [] []))∧((!(dh R.own (⟨0,false,(Int.ofNat 0),(Int.ofNat 0),(Int.ofNat 0),(Int.ofNat 0),R.me⟩:aa)))=false→(some (v0):OV)=some (v0)∧(Q (iN 0) [o] [] [])))∧((R.me==R.dest)=false→Q (iN 0) [o] [] [])))))))))))∧((decide (R.dest≥(Int.ofNat 0)))=false→Q (iN 1) [o] [] [])))∧((decide (R.me≥(Int.ofNat 0)))=false→Q (iN 1) [o] [] []))))=RF Tryz.prog W5 Tryz.f22 60 Hm ⟨tmsOf [dC R (vS f 0 n c)] 0 .leaf,heapOf [o,.dead] aE,[]⟩ (.h 6 (.tuple #[cP y,.bool self]) [.dead] (.b 9 (.b 18 (.b 24 (.stop 1 [] []) (.b 31 (.b 37 (.stop 1 [] []) (.b 45 (.stop 1 [] []) (.stop 1 [] []))) (.stop 1 [] []))) (.stop 1 [] [])) (.b 18 (.b 24 (.stop 1 [] []) (.b 31 (.b 37 (.stop 1 [] []) (.b 45 (.stop 1 [] []) (.b 54 (.stop 1 [] []) (.h 58 (Iv ck) [.dead] (.b 59 (.stop 1 [] []) (.b 63 (.b 68 (.stop 1 [] []) (.b 73 (.stop 1 [] []) (.b 78 (.stop 1 [] []) (.b 83 (.b 87 (.stop 1 [] []) (.b 95 (.w 106 (!(dh R.own (⟨0,false,(Int.ofNat 0),(Int.ofNat 0),(Int.ofNat 0),(Int.ofNat 0),R.me⟩:aa))) (.stop 1 [] []) (.stop 1 [] [])) (.stop 1 [] []))) (.b 92 (.w 103 (!(dh R.own (⟨0,false,(Int.ofNat 0),(Int.ofNat 0),(Int.ofNat 0),(Int.ofNat 0),R.me⟩:aa))) (.stop 1 [] []) (.stop 1 [] [])) (.stop 1 [] [])))))) (.b 69 (.stop 1 [] []) (.b 74 (.stop 1 [] []) (.b 79 (.b 83 (.stop 1 [] []) (.b 91 (.w 102 (!(dh R.own (⟨0,false,(Int.ofNat 0),(Int.ofNat 0),(Int.ofNat 0),(Int.ofNat 0),R.me⟩:aa))) (.stop 1 [] []) (.stop 1 [] [])) (.stop 1 [] []))) (.b 88 (.w 99 (!(dh R.own (⟨0,false,(Int.ofNat 0),(Int.ofNat 0),(Int.ofNat 0),(Int.ofNat 0),R.me⟩:aa))) (.stop 1 [] []) (.stop 1 [] [])) (.stop 1 [] []))))))))))) (.stop 1 [] []))) (.stop 1 [] [])))) Q:=by cases f <;> (intros;kernel_rfl)
def ACk(R:ax)(vs:List aa):List Value→Option Value
 | []=>some (.int .i64 (bif iQ R vs then 0 else 1))
 | _=>none
set_option maxHeartbeats 2000000
theorem Rx(R:ax)(vs:List aa)(h0:R.own.id=0)(hn:vs.length<1000000):∀ rest v0,ACk R vs rest=some v0→OU Tryz.f22 Hm 89 R vs rest v0:=fun rest v0 h=>by
 unfold ACk at h;split at h
 case h_2=>cases h
 cases h;refine ⟨⟨rfl,fun _=>rfl⟩,(by intro r hr; simp at hr),by simp,fun f o c W X ho hrow hfl=>?_⟩
 have T0:∀ {hp:Hp},hp.get 0=some o→TN vs (vS f 0 vs.length c) hp:=fun hg=>fW ho hrow hfl hg
 have hget:∀ {hp:Hp},hp.get 0=some o→o8 [vS f 0 vs.length c,.int .i64 R.me] hp=some (.tuple #[cP ((aI vs R.me).getD (zeroV 0)),.bool (aI vs R.me).isSome],heapOf [.dead] hp):=fun hg=>fw (T0 hg).tq hn
 have hck:∀ {hp:Hp},hp.get 0=some o→jX [vS f 0 vs.length c] hp=some (.int .i64 (bif aF vs then 0 else 1),heapOf [.dead] hp):=fun hg=>by have:=pk (T0 hg) (by unfold Al; omega); cases h:aF vs <;> rw [h] at this <;> exact this
 refine bm.bW J1 follows Yd (Tc f o vs.length c R ((aI vs R.me).getD (zeroV 0)) (aI vs R.me).isSome (aF vs) (bif aF vs then 0 else 1) _) ?_
 unfold iQ zP;generalize (aI vs R.me).isSome=self at *;generalize aF vs=rb at *;refine ⟨hget eV,fun h_9=>⟨fun h_18=>⟨fun h_24=>Q1.of ?_,fun h_24=>⟨fun h_31=>⟨fun h_37=>Q1.of ?_,fun h_37=>⟨fun h_45=>Q1.of ?_,fun h_45=>Q1.of ?_⟩⟩,fun h_31=>Q1.of ?_⟩⟩,fun h_18=>Q1.of ?_⟩,fun h_9=>⟨fun h_18=>⟨fun h_24=>Q1.of ?_,fun h_24=>⟨fun h_31=>⟨fun h_37=>Q1.of ?_,fun h_37=>⟨fun h_45=>Q1.of ?_,fun h_45=>⟨fun h_54=>Q1.of ?_,fun h_54=>⟨hck eV,fun h_59=>Q1.of ?_,fun h_59=>⟨fun h_63=>⟨fun h_68=>Q1.of ?_,fun h_68=>⟨fun h_73=>Q1.of ?_,fun h_73=>⟨fun h_78=>Q1.of ?_,fun h_78=>⟨fun h_83=>⟨fun h_87=>Q1.of ?_,fun h_87=>⟨fun h_95=>⟨H9 R.own (⟨0,false,(Int.ofNat 0),(Int.ofNat 0),(Int.ofNat 0),(Int.ofNat 0),R.me⟩:aa),fun h_106=>⟨rfl,Q1.of ?_⟩,fun h_106=>⟨rfl,Q1.of ?_⟩⟩,fun h_95=>Q1.of ?_⟩⟩,fun h_83=>⟨fun h_92=>⟨H9 R.own (⟨0,false,(Int.ofNat 0),(Int.ofNat 0),(Int.ofNat 0),(Int.ofNat 0),R.me⟩:aa),fun h_103=>⟨rfl,Q1.of ?_⟩,fun h_103=>⟨rfl,Q1.of ?_⟩⟩,fun h_92=>Q1.of ?_⟩⟩⟩⟩⟩,fun h_63=>⟨fun h_69=>Q1.of ?_,fun h_69=>⟨fun h_74=>Q1.of ?_,fun h_74=>⟨fun h_79=>⟨fun h_83=>Q1.of ?_,fun h_83=>⟨fun h_91=>⟨H9 R.own (⟨0,false,(Int.ofNat 0),(Int.ofNat 0),(Int.ofNat 0),(Int.ofNat 0),R.me⟩:aa),fun h_102=>⟨rfl,Q1.of ?_⟩,fun h_102=>⟨rfl,Q1.of ?_⟩⟩,fun h_91=>Q1.of ?_⟩⟩,fun h_79=>⟨fun h_88=>⟨H9 R.own (⟨0,false,(Int.ofNat 0),(Int.ofNat 0),(Int.ofNat 0),(Int.ofNat 0),R.me⟩:aa),fun h_99=>⟨rfl,Q1.of ?_⟩,fun h_99=>⟨rfl,Q1.of ?_⟩⟩,fun h_88=>Q1.of ?_⟩⟩⟩⟩⟩⟩⟩⟩⟩,fun h_31=>Q1.of ?_⟩⟩,fun h_18=>Q1.of ?_⟩⟩
 all_goals (clear hget hck T0 hrow hfl ho; (try simp only [jr,Bool.not_eq_true',Bool.not_eq_false'] at *); cases rb <;> first | (simp only [*,Bool.not_true,Bool.not_false,Bool.and_true,Bool.true_and,Bool.false_and,Bool.and_false,cond_true,cond_false]; done) | (simp only [*,Bool.not_true,Bool.not_false,Bool.and_true,Bool.true_and,Bool.false_and,Bool.and_false,cond_true,cond_false]; rfl) | (clear h0; simp_all; done) | (clear h0; simp_all <;> omega; done) | (clear h0; simp_all; rfl) | (clear h0; simp_all; have e1:decide (R.last<0)=false:=decide_eq_false (by omega); have e2:decide (65535<R.last)=false:=decide_eq_false (by omega); (try rw [beq_eq_false_iff_ne.2 (by assumption)]); (try simp only [decide_eq_false (show ¬ 0<R.last by omega)]); simp [e1,e2, *]; rfl))
noncomputable def j6:aC:=toldC ACk
theorem PF:aq Tryz.prog 22 j6:=yM Tryz.func22 K1 (by kernel_rfl) UF fun R vs h0 hn=>Rx R vs h0 hn
theorem fy{R:ax}{vs:List aa}{s:Value}{hp:Hp}(h0:R.own.id=0)(h:TN vs s hp)(hn:vs.length<1000000):j6 [dC R s] hp=some (.int .i64 (bif iQ R vs then 0 else 1),heapOf [.dead] hp):=FG h0 h hn rfl
set_option maxHeartbeats 2000000
end Go.Proofs.YtgeoommlmddgpaaGreat.LtL
namespace Go.Proofs.YtgeoommlmddgpaaGreat.AI
open Go Go.Proofs Go.RowKit
structure Ai (K0:Ks) (B:Nat) (O' Nw':List af) (v':Value) (g:HG) (v:Value) (O:List af) (K:List Nat) (Nw:List af):Prop where
 okv:hU v=true
 oko:O.all cR=true
 nd:nodupB K=true
 len:O.length=K0.length
 plc:∃ r Nq Kq,nodupP r=true∧placed Nw K r=some (Nq,Kq)∧(∀ (j c:Nat) (o:af),Kq[j]? = some (some c)→Nq[j]? = some o→cR o=true∧mq o=true)∧F6 K0 O' Kq∧v'=mv3 (sgE K0 Kq B) v∧(∀ (i b:Nat),K0[i]? = some (some (b,true))→O'[i]? = (O[i]?).map (mvB (sgE K0 Kq B))∨O'[i]? = some .dead)∧Nw'=Nq.map (mvB (sgE K0 Kq B))
 ro:∀ (i b:Nat),K0[i]? = some (some (b,false))→O[i]? = some .dead→g b=some .dead
theorem Ai.fin{P:Program}{fn:Func}{K0:Ks}{B:Nat}{O Nw:List af}{v:Value}{g:HG}{e:Exit}{st:St}(h:fc P fn (Ai K0 B O Nw v g) e st) :
  (e = .normal∨e = .ret)∧st.df = []∧∃ v0 K,retVal P fn st=some v0∧hU v0=true∧Nw.length=K.length∧iP K∧F6 K0 O K∧s8 K0 K B O Nw v v0 st.hp.get g:=by
 obtain ⟨h1,h2,v0,z,O0,K,N0,h3,h4,h5,q⟩:=h;obtain ⟨l1,g1⟩:=gM h4;obtain ⟨l2,g2⟩:=gM h5;have n1:=q.nd
 obtain ⟨r,Nq,Kq,r1,r2,r0,rk,r3,r4,rfl⟩:=q.plc;obtain ⟨p1,p2,p3⟩:=jE g2 r2;simp only at p1 p2 p3;have hz:z=K0.length:=by have:=q.len; simp at l1; omega
 subst hz;refine ⟨h1,h2,v0,Kq,h3,q.okv,by simp [p1],fun i j c hi hj=>?_,rk,r3,fun i b hi=>?_,fun i b hi hdd=>?_,fun j c hc=>?_⟩
 ·obtain ⟨a,oa,a1,a2,_⟩:=p3 i c hi
  obtain ⟨b,ob,b1,b2,_⟩:=p3 j c hj;have:=k7 n1 a2 b2
  subst this;exact k6 r1 i j a a1 b1
 ·have hlt:i<K0.length:=(List.getElem?_eq_some_iff.1 hi).1
  obtain ⟨o,p1,p2⟩:=g1 i i (by simp [hlt])
  refine ⟨o,p1,List.all_eq_true.1 q.oko o (List.mem_of_getElem? p2),?_⟩
  rcases r4 i b hi with h | h
  ·exact .inl (by rw [h,p2]; rfl)
  ·exact .inr h
 ·have hlt:i<K0.length:=(List.getElem?_eq_some_iff.1 hi).1
  obtain ⟨o,p1,p2⟩:=g1 i i (by simp [hlt])
  refine q.ro i b hi ?_
  rw [p1] at hdd;rw [p2]; exact hdd
 ·obtain ⟨i,o,_,_,a3,a4,a5⟩:=p3 j c hc
  obtain ⟨r1,r2⟩:=r0 j c o hc a4;exact ⟨o,a3,r1,r2,by rw [List.getElem?_map,a4]; rfl⟩
def bv(f:Bool)(o:af):af:=bif f then o else .dead
def uR(tr:Nat→Bool)(z:Nat)(Of:Nat→Nat→List af)(mk:Nat→Nat→Value)(f1 f2:Bool)(B1 B2:af):Value→List af→List Nat→List af→Prop:=fun v O K Nw =>
 nodupB K=true∧∃ b1 b2,v=mk b1 b2∧O=Of b1 b2∧(f1=true→f2=true→b1≠b2)∧(f1=true→(Nat.ble z b1||tr b1)=true∧∃ i:Nat,K[i]? = some b1∧Nw[i]? = some (bv f1 B1))∧(f2=true→(Nat.ble z b2||tr b2)=true∧∃ i:Nat,K[i]? = some b2∧Nw[i]? = some (bv f2 B2))
theorem wG{b1 b2:Nat}(h:b1≠b2):posN b2 [some b1,some b2] 0=some 1:=by
 unfold posN;have h1:Nat.beq b1 b2=false:=by cases e:Nat.beq b1 b2 with
  | false=>rfl
  | true=>exact absurd (Nat.eq_of_beq_eq_true e) h
 rw [h1];simp only;unfold posN;rw [Nat.beq_refl]
theorem nj{b1:Nat}{r:Kw}:posN b1 (some b1::r) 0=some 0:=by
 unfold posN; rw [Nat.beq_refl]
theorem wF{b2:Nat}:posN b2 [none,some b2] 0=some 1:=by
 unfold posN; unfold posN; rw [Nat.beq_refl]
theorem uR.end{tr:Nat→Bool}{K0:Ks}{B:Nat}{O':List af}{v':Value}{g:HG}{Of:Nat→Nat→List af}{mk:Nat→Nat→Value}{f1 f2:Bool}{B1 B2:af}{v:Value}{O:List af}{K:List Nat}{Nw:List af}(q:uR tr K0.length Of mk f1 f2 B1 B2 v O K Nw)
  (htr:∀ b,tr b=true→∃ c,K0[b]? = some (some (c,true))∧O'[b]? = some .dead)
  (okv:∀ b1 b2,hU (mk b1 b2)=true) (oko:∀ b1 b2,(Of b1 b2).all cR=true) (len:∀ b1 b2,(Of b1 b2).length=K0.length)
  (hmv:∀ (s:Nat→Nat) b1 b2,(f1=true→s b1=B)→(f2=true→s b2=B+1)→(∀ (i b:Nat) (wr:Bool),K0[i]? = some (some (b,wr))→tr i=false→s i=b)→mv3 s (mk b1 b2)=v')
  (hO:∀ (s:Nat→Nat) b1 b2,(f1=true→s b1=B)→(f2=true→s b2=B+1)→(∀ (i b:Nat) (wr:Bool),K0[i]? = some (some (b,wr))→tr i=false→s i=b)→∀ (i b:Nat),K0[i]? = some (some (b,true))→O'[i]? = ((Of b1 b2)[i]?).map (mvB s)∨O'[i]? = some .dead)
  (h1:∀ s,mvB s B1=B1) (h1o:cR B1=true) (h1r:mq B1=true) (h2:∀ s,mvB s B2=B2) (h2o:cR B2=true) (h2r:mq B2=true)
  (ro:∀ b1 b2 (i b:Nat),K0[i]? = some (some (b,false))→(Of b1 b2)[i]? = some .dead→g b=some .dead):Ai K0 B O' [bv f1 B1,bv f2 B2] v' g v O K Nw:=by
 obtain ⟨nd,b1,b2,rfl,rfl,hne,p1,p2⟩:=q;have hdd:∀ s:Nat→Nat,mvB s .dead = .dead:=fun _=>rfl
 have hge:∀ {b:Nat},(Nat.ble K0.length b||tr b)=true→K0.length≤b∨∃ c,K0[b]? = some (some (c,true))∧O'[b]? = some .dead:=fun {b} h=>by
  rcases Bool.or_eq_true_iff.1 h with h | h
  ·exact .inl (by simpa [Nat.ble_eq] using h)
  ·exact .inr (htr b h)
 have hold:∀ (Kq:Kw),(∀ c,some c∈Kq→(Nat.ble K0.length c||tr c)=true)→∀ (i b:Nat) (wr:Bool),K0[i]? = some (some (b,wr))→tr i=false→sgE K0 Kq B i=b:=fun Kq hKq i b wr h ht=>by
  unfold sgE;cases hp:posN i Kq 0 with
  | none=>simp only [h]
  | some j =>
    obtain ⟨k,-,hk⟩:=lg hp;have:=hKq i (List.mem_of_getElem? hk)
    rw [ht,Bool.or_false] at this;have hl:=(List.getElem?_eq_some_iff.1 h).1
    have:K0.length≤i:=by simpa [Nat.ble_eq] using this
    omega
 have hnew:∀ (Kq:Kw) {b j:Nat},posN b Kq 0=some j→sgE K0 Kq B b=B+j:=fun Kq {b j} hp=>by
  unfold sgE; rw [hp]
 refine ⟨okv _ _,oko _ _,nd,len _ _,?_,ro _ _⟩
 cases f1 with
 | true =>
   obtain ⟨t1,i1,k1,n1⟩:=p1 rfl;cases f2 with
   | true =>
     obtain ⟨t2,i2,k2,n2⟩:=p2 rfl;have hb:=hne rfl rfl
     have hi:i1≠i2:=fun e=>by subst e; rw [k1] at k2; cases k2; exact hb rfl
     have hK:∀ c,some c∈[some b1,some b2]→(Nat.ble K0.length c||tr c)=true:=fun c hc=>by
       simp at hc;rcases hc with rfl | rfl <;> assumption
     refine ⟨[some i1,some i2],[B1,B2],[some b1,some b2],?_,?_,?_,fun c hc=>hge (hK c hc),?_,?_,?_⟩
     ·have:Nat.beq i1 i2=false:=by cases e:Nat.beq i1 i2 with
         | false=>rfl
         | true=>exact absurd (Nat.eq_of_beq_eq_true e) hi
      simp [nodupP,this]
     ·simp [placed,n1,n2,k1,k2,bv]
     ·intro j c o hc ho
      match j with
      | 0=>simp at ho; subst ho; exact ⟨h1o,h1r⟩
      | 1=>simp at ho; subst ho; exact ⟨h2o,h2r⟩
      | j+2=>simp at ho
     ·exact (hmv _ b1 b2 (fun _=>hnew _ nj) (fun _=>hnew _ (wG hb)) (hold _ hK)).symm
     ·exact hO _ b1 b2 (fun _=>hnew _ nj) (fun _=>hnew _ (wG hb)) (hold _ hK)
     ·simp [bv,h1,h2]
   | false =>
     have hK:∀ c,some c∈[some b1,none]→(Nat.ble K0.length c||tr c)=true:=fun c hc=>by
       simp at hc;subst hc; exact t1
     refine ⟨[some i1,none],[B1,.dead],[some b1,none],?_,?_,?_,fun c hc=>hge (hK c hc),?_,?_,?_⟩
     ·simp [nodupP]
     ·simp [placed,n1,k1,bv]
     ·intro j c o hc ho
      match j with
      | 0=>simp at ho; subst ho; exact ⟨h1o,h1r⟩
      | 1=>simp at hc
      | j+2=>simp at ho
     ·exact (hmv _ b1 b2 (fun _=>hnew _ nj) (fun h=>by cases h) (hold _ hK)).symm
     ·exact hO _ b1 b2 (fun _=>hnew _ nj) (fun h=>by cases h) (hold _ hK)
     ·simp [bv,h1,hdd]
 | false =>
   cases f2 with
   | true =>
     obtain ⟨t2,i2,k2,n2⟩:=p2 rfl;have hK:∀ c,some c∈[none,some b2]→(Nat.ble K0.length c||tr c)=true:=fun c hc=>by
       simp at hc;subst hc; exact t2
     refine ⟨[none,some i2],[.dead,B2],[none,some b2],?_,?_,?_,fun c hc=>hge (hK c hc),?_,?_,?_⟩
     ·simp [nodupP]
     ·simp [placed,n2,k2,bv]
     ·intro j c o hc ho
      match j with
      | 0=>simp at hc
      | 1=>simp at ho; subst ho; exact ⟨h2o,h2r⟩
      | j+2=>simp at ho
     ·exact (hmv _ b1 b2 (fun h=>by cases h) (fun _=>hnew _ wF) (hold _ hK)).symm
     ·exact hO _ b1 b2 (fun h=>by cases h) (fun _=>hnew _ wF) (hold _ hK)
     ·simp [bv,h2,hdd]
   | false =>
     have hK:∀ c,some c∈[(none:Option Nat),none]→(Nat.ble K0.length c||tr c)=true:=fun c hc=>by simp at hc
     refine ⟨[none,none],[.dead,.dead],[none,none],rfl,rfl,?_,fun c hc=>hge (hK c hc),?_,?_,?_⟩
     ·intro j c o hc ho
      match j with
      | 0=>simp at hc
      | 1=>simp at hc
      | j+2=>simp at ho
     ·exact (hmv _ b1 b2 (fun h=>by cases h) (fun h=>by cases h) (hold _ hK)).symm
     ·exact hO _ b1 b2 (fun h=>by cases h) (fun h=>by cases h) (hold _ hK)
     ·simp [bv,hdd]
def Qt:Nat→Bool:=fun _=>false
abbrev J9(z:Nat)(Of:Nat→Nat→List af)(mk:Nat→Nat→Value)(f1 f2:Bool)(B1 B2:af):Value→List af→List Nat→List af→Prop:=uR Qt z Of mk f1 f2 B1 B2
theorem zN{K0:Ks}{O':List af}(b:Nat)(h:Qt b=true):∃ c,K0[b]? = some (some (c,true))∧O'[b]? = some .dead:=by cases h
end Go.Proofs.YtgeoommlmddgpaaGreat.AI
namespace Go.Proofs.YtgeoommlmddgpaaGreat.LtL
open Go Go.Proofs Go.Proofs.YtgeoommlmddgpaaGreat.AI Go.RowKit Go.Proofs.YtgeoommlmddgpaaGreat.Sort Go.Proofs.YtgeoommlmddgpaaGreat.LtA
def zL:aU:=(0,0,0)
def zR:ax:=⟨0,0,zH,false,false,false,0⟩
structure TS where
 R:ax
 vs:List aa
 f:Bool
 c:Nat
 out:List aY
 e:Int
def c2(f:Bool):Nat:=bif f then 22 else 0
namespace TS
def send(T:TS)(to kind:Int)(h:aa)(l:aU)(num:Int):TS:=⟨T.R,T.vs,T.f,T.c,T.out ++ [⟨to,kind,T.R.dest,h,l,num⟩],T.e⟩
def tell(T:TS)(to:Int):TS:=T.send to 2 T.R.own zL 0
def own(T:TS)(h:aa):TS:=⟨⟨T.R.me,T.R.dest,h,T.R.asked,T.R.want,T.R.heard,T.R.last⟩,T.vs,T.f,T.c,T.out,T.e⟩
def ask(T:TS)(b:Bool):TS:=⟨⟨T.R.me,T.R.dest,T.R.own,b,T.R.want,T.R.heard,T.R.last⟩,T.vs,T.f,T.c,T.out,T.e⟩
def o5(T:TS)(b:Bool):TS:=⟨⟨T.R.me,T.R.dest,T.R.own,T.R.asked,b,T.R.heard,T.R.last⟩,T.vs,T.f,T.c,T.out,T.e⟩
def vM(T:TS)(k:Int):TS:=⟨⟨T.R.me,T.R.dest,T.R.own,T.R.asked,T.R.want,true,k⟩,T.vs,T.f,T.c,T.out,T.e⟩
def err(T:TS)(e:Int):TS:=⟨T.R,T.vs,T.f,T.c,T.out,e⟩
def home(T:TS):Bool:=T.R.me==T.R.dest
def sJ(T:TS)(a:aa×Int):TS:=bif a.2==Int.ofNat 0 then ((T.own a.1).ask false).tell 255 else bif a.2==Int.ofNat 7 then (bif !T.R.asked then (T.ask true).send 255 1 zH zL 0 else T) else T.err a.2
def ga(T:TS):TS:=T.sJ (bJ T.R.me T.vs)
def dH(T:TS):TS:=bif T.R.own.n&&(T.R.want&&(!T.R.asked && !T.home)) then T.ga else T
def forget(T:TS)(l:aU):TS:=⟨T.R,T.vs.map (lG l.1 l.2.1 l.2.2 T.R.dest),T.f,c2 T.f,T.out,T.e⟩
def clear(T:TS)(to:Int)(l:aU):TS:=T.send to 3 zH l 0
def vT(T:TS)(r:B7)(l:aU):TS:=bif r.2.2 != Int.ofNat 0 then T.err r.2.2 else bif r.2.1==Int.ofNat 0 then T else
 bif r.2.1==Int.ofNat 4 then (((((T.own r.1).tell 255).forget l).clear 255 l)).dH else ((T.own r.1).tell 255).dH
def yc(T:TS):aU:=(bN (aX T.vs)).headD zL
def keep(T:TS)(now:Int)(lost:Bool):TS:=bif T.home||T.R.own.n then T else T.vT (bQ T.R.own T.vs now lost) T.yc
def tZ(T:TS)(now:Int):TS:=bif T.R.own.n then T.dH else T.keep now true
def set(T:TS)(y:aa):TS:=⟨T.R,cD T.vs y,true,(bif T.f then (bif fnd T.vs y.id then 22 else 23) else 22),T.out,0⟩
def Ae(T:TS)(y:aa)(now:Int):TS:=bif (T.set y).home then T.set y else bif !(T.set y).R.own.n then (T.set y).keep now false else bif (T.set y).R.asked then (T.set y).ga else (T.set y).dH
def xn(dest:Int)(l:aU)(id:Int):aY:=⟨id,3,dest,zH,l,0⟩
def tH(T:TS)(ids:List Int)(l:aU):TS:=⟨T.R,T.vs,T.f,T.c,T.out++ids.map (xn T.R.dest l),T.e⟩
def lp(T:TS)(k:Int):TS:=(T.vM k).send 255 4 T.R.own zL k
end TS
def mT(e:Int):TS:=⟨zR,[],false,0,[],e⟩
def iu(R:ax)(f:Bool)(vs:List aa):TS:=⟨R,vs,f,c2 f,[],0⟩
def bj(id:Int)(h:aa):aa:=⟨id,h.n,h.t,h.o,h.r,h.d,h.i⟩
def oF(l:List aY):Bool:=!l.isEmpty
def pj(l:List aY):af:=.cells 50 (l.flatMap oc) false
def nP(T:TS)(b1 b2:Nat):Value:=.tuple #[dC T.R (vS T.f b1 T.vs.length T.c),vS (oF T.out) b2 T.out.length 40,.int .i64 T.e]
def cz(o:af)(T:TS):Value→List af→List Nat→List af→Prop:=J9 1 (fun _ _=>[o]) (nP T) T.f (oF T.out) (LtA.ab T.vs) (pj T.out)
def eN:Value→Bool
 | .slice none _ _=>false
 | _=>true
theorem nf{f:Bool}{b n c:Nat}:eN (vS f b n c)=f:=by cases f <;> rfl
theorem qB(l:List aY):(l.flatMap oc).all inert=true:=by
 rw [List.all_flatMap];exact List.all_eq_true.2 fun p _=>rfl
theorem l9(l:List aY):aA (pj l)=true:=qB l
theorem ru(f:Bool)(b n c:Nat):nice1 (vS f b n c)=true:=by cases f <;> rfl
theorem qz(s:Nat→Nat)(f:Bool)(b n c:Nat):mv1 s (vS f b n c)=vS f (s b) n c:=by cases f <;> rfl
theorem yP{f:Bool}{b b' n c:Nat}(h:f=true→b=b'):vS f b n c=vS f b' n c:=by
 cases f with
 | false=>rfl
 | true=>rw [h rfl]
theorem GA(T:TS)(b1 b2:Nat):hU (nP T b1 b2)=true:=by
 unfold nP;generalize T.f=f;generalize oF T.out=g;cases f <;> cases g <;> rfl
theorem Gz(T:TS)(s:Nat→Nat)(b1 b2:Nat):mv3 s (nP T b1 b2)=nP T (s b1) (s b2):=by
 unfold nP;generalize T.f=f;generalize oF T.out=g;cases f <;> cases g <;> simp [mv3,mv2,mv1,dC,fZ,vS,ae,au]
structure RunT (fn:Func) (code:Code) (N:Nat) (R:ax) (f:Bool) (vs:List aa) (rest:List Value) (T:TS):Prop where
 flat:∀ r∈rest,fv r
 len:rest.length+1≤N
 run:∀ o c W X,aA o=true→(vs = []∨∃ ty ro,o = .cells ty (aK vs) ro)→(f=false→vs = []∧o = .dead) →
  bm Tryz.prog N W 1 X code ⟨tmsOf (dC R (vS f 0 vs.length c)::rest) 0 .leaf,heapOf [o,.dead] aE,[]⟩ (fc Tryz.prog fn (cz o T))
open Classical in
noncomputable def toldT(A:ax→Bool→List aa→List Value→Option TS):aC:=fun args hp=>match args with
 | a::rest=>match unR a with
   | some (R,s)=>if h:∃ vs,TN vs s hp∧vs.length<1000000 then (A R (eN s) h.choose rest).map fun T=>(nP T hp.sz (hp.sz+1),heapOf [bv T.f (LtA.ab T.vs),bv (oF T.out) (pj T.out),.dead] hp) else none
   | none=>none
 | _=>none
theorem rn{A:ax→Bool→List aa→List Value→Option TS}{f:FuncId}{fn:Func}{code:Code}{N:Nat}(hf:Tryz.prog.funcs[f]? = some fn)(hb:fn.body=some code)(hnm:(fn.name == "runtime.NumGoroutine")=false)(hN:fn.ntmps=N)
  (H:∀ R f vs,R.own.id=0→vs.length<1000000→∀ rest T,A R f vs rest=some T→RunT fn code N R f vs rest T):aq Tryz.prog f (toldT A):=ku follows hf hb hnm fun args hp v hp' h hk=>by
 rw [hN];unfold toldT at h;split at h
 case h_2=>cases h
 rename_i a rest;split at h
 case h_2=>cases h
 rename_i R s ha;obtain ⟨rfl,h0⟩:=xe ha;split at h
 case isFalse=>cases h
 rename_i hx;obtain ⟨hT,hn⟩:=hx.choose_spec;generalize hx.choose=vs at *;obtain ⟨T,hA,h2⟩:=Option.map_eq_some_iff.1 h;cases h2;have RR:=H R _ vs h0 hn _ T hA
 have key:∀ (K0:Ks) (f:Bool) (o:af) (c:Nat),eN s=f→K0.length=1→dX K0→mv1 (ik K0) s=vS f 0 vs.length c→dZ K0 hp=heapOf [o,.dead] aE→aA o=true→(vs = []∨∃ ty ro,o = .cells ty (aK vs) ro)→(f=false→vs = []∧o = .dead)→nice1 s=true →
    (∀ (i b:Nat) (wr:Bool),K0[i]? = some (some (b,wr))→(∃ o,hp.get b=some o∧(wr=true→o≠.dead)∧cj o=true)∧uK (dC R s::rest) hp b∧wr=false∧(o = .dead→hp.get b=some .dead)) →
    ∃ (K0:Ks) (O Nw:List af),heapOf [bv T.f (LtA.ab T.vs),bv (oF T.out) (pj T.out),.dead] hp=heapOf (Nw ++ [.dead]) (putO K0 O hp)∧dX K0 ∧
    (∀ (i b:Nat) (wr:Bool),K0[i]? = some (some (b,wr))→(∃ o,hp.get b=some o∧(wr=true→o≠.dead)∧cj o=true)∧uK (dC R s::rest) hp b)∧(dC R s::rest).all hU=true∧(dC R s::rest).length≤N ∧
    ∀ W X,bm Tryz.prog N W K0.length X code ⟨tmsOf ((dC R s::rest).map (mv3 (ik K0))) 0 .leaf,dZ K0 hp,[]⟩ fun e st=>(e = .normal∨e = .ret)∧st.df = []∧∃ v0 K,retVal Tryz.prog fn st=some v0∧hU v0=true∧Nw.length=K.length∧iP K∧F6 K0 O K∧s8 K0 K hp.sz O Nw (nP T hp.sz (hp.sz+1)) v0 st.hp.get hp.get:=by
  intro K0 f o c hf vO hnd he hpn hi hr hfl hok hst;refine ⟨K0,[o],[bv T.f (LtA.ab T.vs),bv (oF T.out) (pj T.out)],?_,hnd,fun i b wr hi=>⟨(hst i b wr hi).1,(hst i b wr hi).2.1⟩,?_,by have:=RR.len; simpa using this,fun W X=>?_⟩
  ·have e:putO K0 [o] hp=hp:=by
      match K0,vO with
      | [none],_=>rfl
      | [some (b,false)],_=>rfl
      | [some (b,true)],_=>exact absurd (hst 0 b true rfl).2.2.1 (by decide)
   rw [e]; rfl
  ·rw [List.all_cons,Bool.and_eq_true]
   refine ⟨?_,List.all_eq_true.2 fun x hx=>(RR.flat x hx).1⟩
   simp [hU,ok2,dC,fZ,nice1];exact hok
  ·have ea:(dC R s::rest).map (mv3 (ik K0))=dC R (vS f 0 vs.length c)::rest:=by
      rw [List.map_cons,na RR.flat,← he];simp [mv3,mv2,mv1,dC,fZ]
   rw [ea,hpn,vO];rw [hf] at RR;refine bm.mono (RR.run o c W X hi hr hfl) fun e st q=>?_
   have:=Ai.fin (K0:=K0) (B:=hp.sz) (O:=[o]) (Nw:=[bv T.f (LtA.ab T.vs),bv (oF T.out) (pj T.out)]) (v:=nP T hp.sz (hp.sz+1)) (g:=hp.get) (fn:=fn) (P:=Tryz.prog) (e:=e) (st:=st) (by
     obtain ⟨q1,q2,v1,z,O,K,Nw,q3,q4,q5,q6⟩:=q;refine ⟨q1,q2,_,z,_,_,_,q3,q4,q5,?_⟩
     unfold cz at q6;rw [← vO] at q6;refine uR.end q6 zN (fun _ _=>GA _ _ _) (fun _ _=>by simp [bU (vs:=vs) hi]) (fun _ _=>by simp [vO]) (fun s b1 b2 h1 h2 _=>?_) (fun s b1 b2 _ _ _ i b hi'=>.inl ?_) (fun s=>bV (aw _)) (bU (vs:=vs) (aw _)) rfl (fun s=>bV (l9 _)) (bU (vs:=vs) (l9 _)) rfl fun _ _ i b hi' hdd=>?_
     ·rw [Gz]
      unfold nP;rw [yP (b':=hp.sz) h1,yP (b:=s b2) (b':=hp.sz+1) h2]
     ·exact absurd (hst i b true hi').2.2.1 (by decide)
     ·have h0:i=0:=by have:=(List.getElem?_eq_some_iff.1 hi').1; omega
      subst h0;exact (hst 0 b false hi').2.2.2 (by simpa using hdd))
   exact this
 rcases hT with ⟨rfl,rfl⟩ | ⟨b,c,ob,rfl,hb,hi,hr⟩
 ·exact key [none] false .dead 0 rfl rfl (fun i j b wr wr' h1 h2=>by cases i <;> simp at h1) rfl rfl rfl (.inl rfl) (fun _=>⟨rfl,rfl⟩) rfl (fun i b wr h=>by cases i <;> simp at h)
 ·have e1:ik [some (b,false)] b=0:=by simp [ik,posO,Nat.beq_refl]
  refine key [some (b,false)] true (roBlk ob) c rfl rfl (fun i j b wr wr' h1 h2=>?_) ?_ ?_ (bO hi) (ee hr) (fun h=>by cases h) rfl (fun i b' wr h=>?_)
  ·have:=(List.getElem?_eq_some_iff.1 h1).1
   have:=(List.getElem?_eq_some_iff.1 h2).1
   simp at *; omega
  ·simp [mv1,ae,vS,e1]
  ·unfold dZ
   simp [pinB,hb,bV hi,eQ]
  ·have h0:i=0:=by have:=(List.getElem?_eq_some_iff.1 h).1; simpa using this
   subst h0;simp at h;obtain ⟨rfl,rfl⟩:=h;refine ⟨⟨ob,hb,(fun h=>by cases h),aS hi⟩,.arg (.head _) (by simp [kv,jY,ae,dC,fZ]),rfl,?_⟩
   intro h;cases ob <;> first | exact hb | cases h
theorem xb{A:ax→Bool→List aa→List Value→Option TS}{R:ax}{f:Bool}{vs:List aa}{s:Value}{rest:List Value}{hp:Hp}{T:TS}(h0:R.own.id=0)(hf:eN s=f)(h:TN vs s hp)(hn:vs.length<1000000)(hA:A R f vs rest=some T) :
  toldT A (dC R s::rest) hp=some (nP T hp.sz (hp.sz+1),heapOf [bv T.f (LtA.ab T.vs),bv (oF T.out) (pj T.out),.dead] hp):=by
 unfold toldT;have hx:∃ vs,TN vs s hp∧vs.length<1000000:=⟨vs,h,hn⟩
 simp only [Ad h0];rw [dif_pos hx,hx.choose_spec.1.uniq h,hf,hA];rfl
def cv(R:ax)(s:Value)(aN:List Value)(out:Value)(e:Int):List Value:=fZ R s++(aN ++ [out,.int .i64 e])
def gf(aN:List Value):Prop:=aN = []∨∃ now,aN = [.int .i64 now]
structure mw where
 R:ax
 f:Bool
 vs:List aa
 c:Nat
 e:Int
 k:Bool
 f2:Bool
 n2:Nat
 c2:Nat
 B2:af
def mw.ok(r:mw):Prop:=aA r.B2=true∧mq r.B2=true
def mw.cells(r:mw)(aN:List Value)(out:Value)(b1 b2:Nat):List Value:=cv r.R (vS r.f b1 r.vs.length r.c) aN (bif r.k then out else vS r.f2 b2 r.n2 r.c2) r.e
def mw.I6(r:mw)(b2:Nat):Value:=bif r.k then vS r.f2 b2 r.n2 r.c2 else .tuple #[]
def QW(TT:TypeId)(r:mw)(aN:List Value)(out:Value)(o p:af):Value→List af→List Nat→List af→Prop:=J9 3 (fun b1 b2=>[.cells TT (r.cells aN out b1 b2) false,o,p]) (fun _ b2=>r.I6 b2) r.f r.f2 (LtA.ab r.vs) r.B2
structure OW (TT:TypeId) (fn:Func) (code:Code) (N:Nat) (R:ax) (f:Bool) (vs:List aa) (aN:List Value) (fo:Bool) (e:Int) (rest:List Value) (r:mw):Prop where
 flat:∀ x∈rest,fv x
 len:rest.length+1≤N
 ok:r.ok
 run:∀ o c p no co W X,aA o=true→(vs = []∨∃ ty ro,o = .cells ty (aK vs) ro)→(f=false→vs = []∧o = .dead)→aA p=true→(fo=false→p = .dead) →
  bm Tryz.prog N W 3 X code ⟨tmsOf (pb 0 0::rest) 0 .leaf,heapOf [.cells TT (cv R (vS f 1 vs.length c) aN (vS fo 2 no co) e) false,o,p,.dead] aE,[]⟩ (fc Tryz.prog fn (QW TT r aN (vS fo 2 no co) o p))
def lJ(s out:Value)(hp:Hp):Prop:=out=au∨∃ b n c p,out=ae b n c∧hp.get b=some p∧aA p=true∧∀ b' n' c',s=ae b' n' c'→b'≠b
def unC:List Value→Option (ax×Value)
 | [.int .i64 me,.int .i64 dest,.bool n,.int .i64 t,.int .i64 o,.int .i64 r,.int .i64 d,.int .i64 i,s,.bool a,.bool w,.bool h,.int .i64 l]=>some (⟨me,dest,⟨0,n,t,o,r,d,i⟩,a,w,h,l⟩,s)
 | _=>none
def unE:List Value→Option (List Value×Value×Int)
 | [a,out,x]=>match a,x with
   | .int .i64 now,.int .i64 e=>some ([.int .i64 now],out,e)
   | _,_=>none
 | [out,x]=>match x with
   | .int .i64 e=>some ([],out,e)
   | _=>none
 | _=>none
def unW(cs:List Value):Option (ax×Value×List Value×Value×Int):=match unC (cs.take 13),unE (cs.drop 13) with
 | some (R,s),some (aN,out,e)=>some (R,s,aN,out,e)
 | _,_=>none
theorem FQ{R:ax}{s out:Value}{aN:List Value}{e:Int}(h0:R.own.id=0)(hm:gf aN):unW (cv R s aN out e)=some (R,s,aN,out,e):=by
 obtain ⟨me,dest,⟨id,n,t,o,r,d,i⟩,a,w,h,l⟩:=R;simp only at h0;subst h0;rcases hm with rfl | ⟨now,rfl⟩ <;> rfl
theorem xf{cs:List Value}{R:ax}{s out:Value}{aN:List Value}{e:Int}(h:unW cs=some (R,s,aN,out,e)):cs=cv R s aN out e∧R.own.id=0∧gf aN:=by
 unfold unW at h;split at h
 case h_2=>cases h
 rename_i R' s' mid' out' e' h1 h2;cases h;rw [← List.take_append_drop 13 cs];generalize cs.take 13=A at *;generalize cs.drop 13=B at *;have k1:A=fZ R s∧R.own.id=0:=by
  unfold unC at h1;split at h1
  ·cases h1; exact ⟨rfl,rfl⟩
  ·cases h1
 have k2:B=aN ++ [out,.int .i64 e]∧gf aN:=by
  unfold unE at h2;split at h2
  ·split at h2
   ·cases h2; exact ⟨rfl,.inr ⟨_,rfl⟩⟩
   ·cases h2
  ·split at h2
   ·cases h2; exact ⟨rfl,.inl rfl⟩
   ·cases h2
  ·cases h2
 obtain ⟨rfl,k3⟩:=k1;obtain ⟨rfl,k4⟩:=k2;exact ⟨rfl,k3,k4⟩
abbrev Ga:=ax→Bool→List aa→List Value→Bool→Int→List Value→Option mw
open Classical in
noncomputable def toldW(TT:TypeId)(A:Ga):aC:=fun args hp=>match args with
 | .pointer (some ⟨t,0,none⟩)::rest=>match hp.get t with
   | some (.cells ty cs false)=>match unW cs with
     | some (R,s,aN,out,e)=>if h:ty=TT∧lJ s out hp∧∃ vs,TN vs s hp∧vs.length<1000000 then (A R (eN s) h.2.2.choose aN (eN out) e rest).map fun r=>(r.I6 (hp.sz+1),heapOf [bv r.f (LtA.ab r.vs),bv r.f2 r.B2,.dead] (hp.put t (.cells TT (r.cells aN out hp.sz (hp.sz+1)) false))) else none
     | none=>none
   | _=>none
 | _=>none
theorem wk{aN:List Value}(h:gf aN):(∀ s,aN.map (mv2 s)=aN)∧(∀ x∈aN,ok2 x=true)∧(aN.flatMap kv = [])∧aN.all inert=true:=by
 rcases h with rfl | ⟨now,rfl⟩
 ·exact ⟨fun _=>rfl,fun x hx=>by simp at hx,rfl,rfl⟩
 ·exact ⟨fun _=>rfl,fun x hx=>by simp at hx; subst hx; rfl,rfl,rfl⟩
theorem zM{out:Value}(s:Nat→Nat)(h:nice1 out=true):mv2 s out=mv1 s out:=by cases out <;> first | rfl | cases h
theorem uG{R:ax}{s out:Value}{aN:List Value}{e:Int}(hm:gf aN)(hs:nice1 s=true)(ho:nice1 out=true)(g:Nat→Nat):(cv R s aN out e).map (mv2 g)=cv R (mv1 g s) aN (mv1 g out) e:=by
 unfold cv fZ;rw [List.map_append,List.map_append,(wk hm).1];simp only [List.map_cons,List.map_nil,zM g hs,zM g ho];rfl
theorem uH{R:ax}{s out:Value}{aN:List Value}{e:Int}(hm:gf aN)(hs:nice1 s=true)(ho:nice1 out=true):(cv R s aN out e).all ok2=true:=by
 have h2:∀ {v:Value},nice1 v=true→ok2 v=true:=fun {v} h=>by cases v <;> first | rfl | exact h | cases h
 unfold cv fZ;rw [List.all_append,List.all_append,List.all_eq_true.2 (wk hm).2.1];simp only [List.all_cons,List.all_nil,h2 hs,h2 ho];rfl
theorem w8{R:ax}{s out:Value}{aN:List Value}{e:Int}:keysBox (cv R s aN out e)=false:=rfl
theorem jQ{R:ax}{s out:Value}{aN:List Value}{e:Int}:s∈cv R s aN out e∧out∈cv R s aN out e:=by
 unfold cv fZ;simp
theorem Gy{vs:List aa}{s:Value}{hp:Hp}(h:TN vs s hp):nice1 s=true:=by
 rcases h with ⟨rfl,-⟩ | ⟨b,c,o,rfl,-⟩ <;> rfl
theorem xy{s out:Value}{hp:Hp}(h:lJ s out hp):nice1 out=true:=by
 rcases h with rfl | ⟨b,n,c,p,rfl,-⟩ <;> rfl
theorem yO{TT:TypeId}{A:Ga}{f:FuncId}{fn:Func}{code:Code}{N:Nat}(hf:Tryz.prog.funcs[f]? = some fn)(hb:fn.body=some code)(hnm:(fn.name == "runtime.NumGoroutine")=false)(hN:fn.ntmps=N)
  (H:∀ R f vs aN fo e,R.own.id=0→vs.length<1000000→gf aN→∀ rest r,A R f vs aN fo e rest=some r→OW TT fn code N R f vs aN fo e rest r):aq Tryz.prog f (toldW TT A):=ku follows hf hb hnm fun args hp v hp' h hk=>by
 rw [hN];unfold toldW at h;split at h
 case h_2=>cases h
 rename_i t rest;split at h
 case h_2=>cases h
 rename_i ty cs hg;split at h
 case h_2=>cases h
 rename_i R s aN out e hu;obtain ⟨rfl,h0,hm⟩:=xf hu;split at h
 case isFalse=>cases h
 rename_i hx;obtain ⟨rfl,hO,hx⟩:=hx;obtain ⟨hT,hn⟩:=hx.choose_spec;generalize hx.choose=vs at *;obtain ⟨r,hA,h2⟩:=Option.map_eq_some_iff.1 h;cases h2;have RR:=H R _ vs aN _ e h0 hn hm _ r hA
 have hsn:=Gy hT
 have hon:=xy hO
 have hlt:t<hp.sz:=cV hk hg
 have key:∀ (k1 k2:Option (Nat×Bool)) (f:Bool) (o:af) (c:Nat) (fo:Bool) (p:af) (no co:Nat),eN s=f→eN out=fo→dX [some (t,true),k1,k2] →
    mv1 (ik [some (t,true),k1,k2]) s=vS f 1 vs.length c→mv1 (ik [some (t,true),k1,k2]) out=vS fo 2 no co→pinB [some (t,true),k1,k2] hp k1=o→pinB [some (t,true),k1,k2] hp k2=p→aA o=true→(vs = []∨∃ ty ro,o = .cells ty (aK vs) ro)→(f=false→vs = []∧o = .dead)→aA p=true→(fo=false→p = .dead) →
    (∀ (b:Nat) (wr:Bool),k1=some (b,wr)→s=ae b vs.length c∧wr=false∧(∃ x,hp.get b=some x∧cj x=true)∧(o = .dead→hp.get b=some .dead)) →
    (∀ (b:Nat) (wr:Bool),k2=some (b,wr)→out=ae b no co∧wr=false∧(∃ x,hp.get b=some x∧cj x=true)∧(p = .dead→hp.get b=some .dead)) →
    ∃ (K0:Ks) (O Nw:List af),heapOf [bv r.f (LtA.ab r.vs),bv r.f2 r.B2,.dead] (hp.put t (.cells ty (r.cells aN out hp.sz (hp.sz+1)) false))=heapOf (Nw ++ [.dead]) (putO K0 O hp)∧dX K0 ∧
    (∀ (i b:Nat) (wr:Bool),K0[i]? = some (some (b,wr))→(∃ o,hp.get b=some o∧(wr=true→o≠.dead)∧cj o=true)∧uK (.pointer (some ⟨t,0,none⟩)::rest) hp b)∧(Value.pointer (some ⟨t,0,none⟩)::rest).all hU=true∧(Value.pointer (some ⟨t,0,none⟩)::rest).length≤N ∧
    ∀ W X,bm Tryz.prog N W K0.length X code ⟨tmsOf ((Value.pointer (some ⟨t,0,none⟩)::rest).map (mv3 (ik K0))) 0 .leaf,dZ K0 hp,[]⟩ fun e st=>(e = .normal∨e = .ret)∧st.df = []∧∃ v0 K,retVal Tryz.prog fn st=some v0∧hU v0=true∧Nw.length=K.length∧iP K∧F6 K0 O K∧s8 K0 K hp.sz O Nw (r.I6 (hp.sz+1)) v0 st.hp.get hp.get:=by
  intro k1 k2 f o c fo p no co hfs hfo hnd es eo dj hp2 hi hr hfl hpi hpl c1 c2;have hrt:uK (.pointer (some ⟨t,0,none⟩)::rest) hp t:=.arg (.head _) (by simp [kv,jY])
  have hR:∀ {b n c:Nat} {x:Value},x=ae b n c→x∈cv R s aN out e→uK (.pointer (some ⟨t,0,none⟩)::rest) hp b:=fun {b n c x} hx hmem =>
    .GJ hrt hg (List.mem_flatMap.2 ⟨x,hmem,by subst hx; simp [kv,jY,ae]⟩)
  have hts:cj (.cells ty (cv R s aN out e) false)=true:=by
    show ((cv R s aN out e).all ok2&&(false || !keysBox (cv R s aN out e)))=true
    rw [uH hm hsn hon,w8]; rfl
  have hst:∀ (i b:Nat) (wr:Bool),[some (t,true),k1,k2][i]? = some (some (b,wr))→(∃ o,hp.get b=some o∧(wr=true→o≠.dead)∧cj o=true)∧uK (.pointer (some ⟨t,0,none⟩)::rest) hp b:=by
    intro i b wr hi;match i with
    | 0 =>
      simp at hi;obtain ⟨rfl,rfl⟩:=hi;exact ⟨⟨_,hg,(fun _ h=>by cases h),hts⟩,hrt⟩
    | 1 =>
      obtain ⟨e1,rfl,⟨x,hx,hs⟩,_⟩:=c1 b wr (by simpa using hi)
      exact ⟨⟨x,hx,(fun h=>by cases h),hs⟩,hR e1 jQ.1⟩
    | 2 =>
      obtain ⟨e1,rfl,⟨x,hx,hs⟩,_⟩:=c2 b wr (by simpa using hi)
      exact ⟨⟨x,hx,(fun h=>by cases h),hs⟩,hR e1 jQ.2⟩
    | i+3=>simp at hi
  refine ⟨[some (t,true),k1,k2],[.cells ty (r.cells aN out hp.sz (hp.sz+1)) false,o,p],[bv r.f (LtA.ab r.vs),bv r.f2 r.B2],?_,hnd,hst,?_,by have:=RR.len; simpa using this,fun W X=>?_⟩
  ·have e1:putO [k1,k2] [o,p] (hp.put t (.cells ty (r.cells aN out hp.sz (hp.sz+1)) false))=hp.put t (.cells ty (r.cells aN out hp.sz (hp.sz+1)) false):=by
      have d1:∀ b wr,k1=some (b,wr)→wr=false:=fun b wr h=>(c1 b wr h).2.1
      have d2:∀ b wr,k2=some (b,wr)→wr=false:=fun b wr h=>(c2 b wr h).2.1
      match k1,k2,d1,d2 with
      | none,none,_,_=>rfl
      | none,some (b,false),_,_=>rfl
      | some (b,false),none,_,_=>rfl
      | some (b,false),some (b',false),_,_=>rfl
      | some (b,true),_,d1,_=>exact absurd (d1 b true rfl) (by decide)
      | _,some (b,true),_,d2=>exact absurd (d2 b true rfl) (by decide)
   rw [putO,e1]; rfl
  ·rw [List.all_cons,Bool.and_eq_true]
   exact ⟨rfl,List.all_eq_true.2 fun x hx=>(RR.flat x hx).1⟩
  ·have e0:ik [some (t,true),k1,k2] t=0:=by simp [ik,posO,Nat.beq_refl]
   have ea:(Value.pointer (some ⟨t,0,none⟩)::rest).map (mv3 (ik [some (t,true),k1,k2]))=pb 0 0::rest:=by
     rw [List.map_cons,na RR.flat];simp [mv3,mv2,mv1,pb,e0]
   have ep:dZ [some (t,true),k1,k2] hp=heapOf [.cells ty (cv R (vS f 1 vs.length c) aN (vS fo 2 no co) e) false,o,p,.dead] aE:=by
     unfold dZ;have h0:pinB [some (t,true),k1,k2] hp (some (t,true)) = .cells ty (cv R (vS f 1 vs.length c) aN (vS fo 2 no co) e) false:=by
       rw [← es,← eo,← uG hm hsn hon];simp [pinB,hg,eQ,mvB]
     simp only [List.map_cons,List.map_nil,h0,dj,hp2];rfl
   rw [ea,ep];rw [hfs,hfo] at RR;refine bm.mono (RR.run o c p no co W X hi hr hfl hpi hpl) fun e' st q=>?_
   refine Ai.fin (K0:=[some (t,true),k1,k2]) (B:=hp.sz) (O:=[.cells ty (r.cells aN out hp.sz (hp.sz+1)) false,o,p]) (Nw:=[bv r.f (LtA.ab r.vs),bv r.f2 r.B2]) (v:=r.I6 (hp.sz+1)) (g:=hp.get) (fn:=fn) (P:=Tryz.prog) (e:=e') (st:=st) ?_
   obtain ⟨q1,q2,v1,z,O,K,Nw,q3,q4,q5,q6⟩:=q;refine ⟨q1,q2,_,z,_,_,_,q3,q4,q5,?_⟩
   unfold QW at q6;have hvo:∀ b,nice1 (bif r.k then vS fo 2 no co else vS r.f2 b r.n2 r.c2)=true:=fun b=>by cases r.k <;> simp [ru]
   refine uR.end (K0:=[some (t,true),k1,k2]) q6 zN (fun _ b2=>?_) (fun b1 b2=>?_) (fun _ _=>rfl) (fun g b1 b2 h1 h2 _=>?_) (fun g b1 b2 h1 h2 hK i b hi'=>.inl ?_) (fun s=>bV (aw _)) (bU (vs:=vs) (aw _)) rfl (fun s=>bV RR.ok.1) (bU (vs:=vs) RR.ok.1) RR.ok.2 fun _ _ i b hi' hdd=>?_
   ·unfold mw.I6
    cases r.k
    ·rfl
    ·cases r.f2 <;> rfl
   ·simp only [List.all_cons,List.all_nil,Bool.and_true,bU (vs:=vs) hi,bU (vs:=vs) hpi]
    exact uH hm (ru _ _ _ _) (hvo b2)
   ·unfold mw.I6
    cases r.k
    ·simp [mv3]
    ·show mv3 g (vS r.f2 b2 r.n2 r.c2)=vS r.f2 (hp.sz+1) r.n2 r.c2
     rw [← yP (b:=g b2) h2];cases r.f2 <;> rfl
   ·match i with
    | 0 =>
      simp at hi';subst hi';simp only [List.getElem?_cons_zero,Option.map_some,mvB,mw.cells]
      rw [uG hm (ru _ _ _ _) (hvo b2),qz,yP (b':=hp.sz) h1];have e3:mv1 g (bif r.k then vS fo 2 no co else vS r.f2 b2 r.n2 r.c2)=bif r.k then out else vS r.f2 (hp.sz+1) r.n2 r.c2:=by
        cases r.k
        ·show mv1 g (vS r.f2 b2 r.n2 r.c2)=vS r.f2 (hp.sz+1) r.n2 r.c2
         rw [qz,yP h2]
        ·show mv1 g (vS fo 2 no co)=out
         rw [qz];cases k2 with
         | none =>
           cases fo with
           | false =>
             rcases hO with rfl | ⟨b,n,c,p,rfl,-⟩
             ·rfl
             ·cases hfo
           | true =>
             rcases hO with rfl | ⟨b,n,c,pp,rfl,-⟩
             ·cases hfo
             ·exfalso
              simp [mv1,ae,vS] at eo;have e4:=eo.1
              unfold ik at e4;cases hpo:posO b [some (t,true),k1,none] 0 with
              | none=>rw [hpo] at e4; simp at e4
              | some j =>
                rw [hpo] at e4;simp at e4;subst e4;obtain ⟨k,wr,uL,hk3⟩:=lh hpo;have:k=2:=by omega
                subst this;simp at hk3
         | some bw =>
           obtain ⟨b,wr⟩:=bw;obtain ⟨e1,rfl,_,_⟩:=c2 b wr rfl;have e5:=hK 2 b false rfl rfl
           rw [e5];cases fo with
           | false=>rw [e1] at hfo; cases hfo
           | true=>exact e1.symm
      rw [e3]
    | 1=>exact absurd (c1 b true (by simpa using hi')).2.1 (by decide)
    | 2=>exact absurd (c2 b true (by simpa using hi')).2.1 (by decide)
    | i+3=>simp at hi'
   ·match i with
    | 0=>simp at hi'
    | 1=>exact (c1 b false (by simpa using hi')).2.2.2 (by simpa using hdd)
    | 2=>exact (c2 b false (by simpa using hi')).2.2.2 (by simpa using hdd)
    | i+3=>simp at hi'
 have hnt:∀ {b:Nat} {o:af} {x:Value} {n c:Nat},hp.get b=some o→aA o=true→x=ae b n c→x∈cv R s aN out e→b≠t:=fun {b o x n c} hb hi hx hmem ebt=>by
  subst ebt;rw [hg] at hb; cases hb;have:=List.all_eq_true.1 hi x hmem
  rw [hx] at this; cases this
 have sgt:∀ {k1 k2:Option (Nat×Bool)} {b:Nat} {wr:Bool},k1=some (b,wr)→b≠t→ik [some (t,true),k1,k2] b=1:=fun {k1 k2 b wr} hk hne=>by
  subst hk;have h1:Nat.beq t b=false:=by cases e:Nat.beq t b with
    | false=>rfl
    | true=>exact absurd (Nat.eq_of_beq_eq_true e).symm hne
  simp [ik,posO,h1,Nat.beq_refl]
 have sgo:∀ {k1:Option (Nat×Bool)} {b:Nat} {wr:Bool},b≠t→(∀ c w,k1=some (c,w)→c≠b)→ik [some (t,true),k1,some (b,wr)] b=2:=fun {k1 b wr} hne hk=>by
  have h1:Nat.beq t b=false:=by cases e:Nat.beq t b with
    | false=>rfl
    | true=>exact absurd (Nat.eq_of_beq_eq_true e).symm hne
  cases k1 with
  | none=>simp [ik,posO,h1,Nat.beq_refl]
  | some cw =>
    obtain ⟨c,w⟩:=cw;have h2:Nat.beq c b=false:=by cases e:Nat.beq c b with
      | false=>rfl
      | true=>exact absurd (Nat.eq_of_beq_eq_true e) (hk c w rfl)
    simp [ik,posO,h1,h2,Nat.beq_refl]
 have nd3:∀ {k1 k2:Option (Nat×Bool)},(∀ c w,k1=some (c,w)→c≠t)→(∀ c w,k2=some (c,w)→c≠t)→(∀ c w c' w',k1=some (c,w)→k2=some (c',w')→c≠c')→dX [some (t,true),k1,k2]:=fun {k1 k2} h1 h2 h3 i j b wr wr' hi hj=>by
  match i,j with
  | 0,0=>rfl
  | 0,1=>simp at hi hj; exact absurd hi.1.symm (h1 b wr' hj)
  | 0,2=>simp at hi hj; exact absurd hi.1.symm (h2 b wr' hj)
  | 1,0=>simp at hi hj; exact absurd hj.1.symm (h1 b wr hi)
  | 1,1=>rfl
  | 1,2=>simp at hi hj; exact absurd rfl (h3 b wr b wr' hi hj)
  | 2,0=>simp at hi hj; exact absurd hj.1.symm (h2 b wr hi)
  | 2,1=>simp at hi hj; exact absurd rfl (h3 b wr' b wr hj hi)
  | 2,2=>rfl
  | i+3,_=>simp at hi
  | _,j+3=>simp at hj
 rcases hT with ⟨rfl,rfl⟩ | ⟨b,c,ob,rfl,hb,hi,hr⟩
 ·rcases hO with rfl | ⟨bo,n',c',po,rfl,hbo,hio,hne⟩
  ·exact key none none false .dead 0 false .dead 0 0 rfl rfl (nd3 (fun _ _ h=>by cases h) (fun _ _ h=>by cases h) (fun _ _ _ _ h=>by cases h)) rfl rfl rfl rfl rfl (.inl rfl) (fun _=>⟨rfl,rfl⟩) rfl (fun _=>rfl) (fun _ _ h=>by cases h) (fun _ _ h=>by cases h)
  ·have ht:=hnt hbo hio rfl jQ.2
   refine key none (some (bo,false)) false .dead 0 true (roBlk po) n' c' rfl rfl (nd3 (fun _ _ h=>by cases h) (fun c w h=>by cases h; exact ht) (fun _ _ _ _ h=>by cases h)) rfl ?_ rfl ?_ rfl (.inl rfl) (fun _=>⟨rfl,rfl⟩) (bO hio) (fun h=>by cases h) (fun _ _ h=>by cases h) (fun b' wr h=>?_)
   ·simp [mv1,ae,vS,sgo ht (k1:=none) (wr:=false) (fun c w h=>by cases h)]
   ·simp [pinB,hbo,bV hio,eQ]
   ·cases h
    refine ⟨rfl,rfl,⟨po,hbo,aS hio⟩,fun h=>?_⟩
    cases po <;> first | exact hbo | cases h
 ·have htb:=hnt hb hi rfl jQ.1
  rcases hO with rfl | ⟨bo,n',c',po,rfl,hbo,hio,hne⟩
  ·refine key (some (b,false)) none true (roBlk ob) c false .dead 0 0 rfl rfl (nd3 (fun c w h=>by cases h; exact htb) (fun _ _ h=>by cases h) (fun _ _ _ _ _ h=>by cases h)) ?_ rfl ?_ rfl (bO hi) (ee hr) (fun h=>by cases h) rfl (fun _=>rfl) (fun b' wr h=>?_) (fun _ _ h=>by cases h)
   ·simp [mv1,ae,vS,sgt (k1:=some (b,false)) (k2:=none) rfl htb]
   ·simp [pinB,hb,bV hi,eQ]
   ·cases h
    refine ⟨rfl,rfl,⟨ob,hb,aS hi⟩,fun h=>?_⟩
    cases ob <;> first | exact hb | cases h
  ·have ht:=hnt hbo hio rfl jQ.2
   have hbb:b≠bo:=hne b _ c rfl
   refine key (some (b,false)) (some (bo,false)) true (roBlk ob) c true (roBlk po) n' c' rfl rfl (nd3 (fun c w h=>by cases h; exact htb) (fun c w h=>by cases h; exact ht) (fun c w c' w' h h'=>by cases h; cases h'; exact hbb)) ?_ ?_ ?_ ?_ (bO hi) (ee hr) (fun h=>by cases h) (bO hio) (fun h=>by cases h) (fun b' wr h=>?_) (fun b' wr h=>?_)
   ·simp [mv1,ae,vS,sgt (k1:=some (b,false)) (k2:=some (bo,false)) rfl htb]
   ·simp [mv1,ae,vS,sgo ht (k1:=some (b,false)) (wr:=false) (fun c w h=>by cases h; exact hbb)]
   ·simp [pinB,hb,bV hi,eQ]
   ·simp [pinB,hbo,bV hio,eQ]
   ·cases h
    refine ⟨rfl,rfl,⟨ob,hb,aS hi⟩,fun h=>?_⟩
    cases ob <;> first | exact hb | cases h
   ·cases h
    refine ⟨rfl,rfl,⟨po,hbo,aS hio⟩,fun h=>?_⟩
    cases po <;> first | exact hbo | cases h
theorem FI{TT:TypeId}{A:Ga}{R:ax}{f fo:Bool}{vs:List aa}{s out:Value}{aN rest:List Value}{e:Int}{t:Nat}{hp:Hp}{r:mw}(h0:R.own.id=0)(hm:gf aN)(hg:hp.get t=some (.cells TT (cv R s aN out e) false))(hO:lJ s out hp)(hf:eN s=f)(hfo:eN out=fo)(h:TN vs s hp)(hn:vs.length<1000000)(hA:A R f vs aN fo e rest=some r) :
  HE (toldW TT A (pb t 0::rest)) hp (r.I6 (hp.sz+1)) [.put t (.cells TT (r.cells aN out hp.sz (hp.sz+1)) false),.push (bv r.f (LtA.ab r.vs)),.push (bv r.f2 r.B2),.push .dead]:=by
 unfold HE toldW pb;have hx:TT=TT∧lJ s out hp∧∃ vs,TN vs s hp∧vs.length<1000000:=⟨rfl,hO,vs,h,hn⟩
 simp only [hg,FQ h0 hm];rw [dif_pos hx,hx.2.2.choose_spec.1.uniq h,hf,hfo,hA];rfl
def oP(x:aY):List Value:=[.int .i64 x.kind,.int .i64 x.dest,.bool x.h.n,.int .i64 x.h.t,.int .i64 x.h.o,.int .i64 x.h.r,.int .i64 x.h.d,.int .i64 x.h.i,.int .i64 x.l.1,.int .i64 x.l.2.1,.int .i64 x.l.2.2,.int .i64 x.num]
def zO(n:Bool)(t o r d i a b c k:Int):Bool:=(n==false)&&((t==Int.ofNat 0)&&((o==Int.ofNat 0)&&((r==Int.ofNat 0)&&((d==Int.ofNat 0)&&((i==Int.ofNat 0)&&((a==Int.ofNat 0)&&((b==Int.ofNat 0)&&((c==Int.ofNat 0)&&(k==Int.ofNat 0)))))))))
def jZ(x:aY):Bool :=
 decide (x.dest≥Int.ofNat 0)&&(decide (x.dest<Int.ofNat 64) &&
 bif x.kind==Int.ofNat 1 then zO x.h.n x.h.t x.h.o x.h.r x.h.d x.h.i x.l.1 x.l.2.1 x.l.2.2 x.num
 else bif x.kind==Int.ofNat 4 then !x.h.n&&(decide (x.num≥Int.ofNat 0)&&(decide (x.num≤Int.ofNat 65535)&&(dQ x.h.n x.h.t x.h.o x.h.r x.h.d x.h.i&&zO false (Int.ofNat 0) (Int.ofNat 0) (Int.ofNat 0) (Int.ofNat 0) (Int.ofNat 0) x.l.1 x.l.2.1 x.l.2.2 (Int.ofNat 0))))
 else bif x.kind==Int.ofNat 2 then dQ x.h.n x.h.t x.h.o x.h.r x.h.d x.h.i&&zO false (Int.ofNat 0) (Int.ofNat 0) (Int.ofNat 0) (Int.ofNat 0) (Int.ofNat 0) x.l.1 x.l.2.1 x.l.2.2 x.num
 else bif x.kind==Int.ofNat 3 then dQ false x.l.1 x.l.2.1 x.l.2.2 (Int.ofNat 0) (Int.ofNat 0)&&zO x.h.n x.h.t x.h.o x.h.r x.h.d x.h.i (Int.ofNat 0) (Int.ofNat 0) (Int.ofNat 0) x.num
 else false)
def gQ(x:aY):Int:=bif jZ x then 0 else 1
theorem Jy{x:aY}(h:jZ x=true):iN 0 = .int .i64 (gQ x):=by unfold gQ; rw [h]; rfl
theorem Jx{x:aY}(h:jZ x=false):iN 1 = .int .i64 (gQ x):=by unfold gQ; rw [h]; rfl
theorem Jd{n:Bool}{t o r d i:Int}:(cm n t o r d i==Int.ofNat 0)=dQ n t o r d i:=by
 unfold cm;cases dQ n t o r d i <;> rfl
theorem El(n:Bool)(t o r d i a b c k:Int):fstV ((aBin Tryz.prog .neq 30 (.agg #[iN 0,iN 0,.bool n,.int .i64 t,.int .i64 o,.int .i64 r,.int .i64 d,.int .i64 i,.int .i64 a,.int .i64 b,.int .i64 c,.int .i64 k]) (.agg #[iN 0,iN 0,.bool false,iN 0,iN 0,iN 0,iN 0,iN 0,iN 0,iN 0,iN 0,iN 0])).map fun v=>(v,none))=some (.bool (!zO n t o r d i a b c k)):=by
 have h:aBin Tryz.prog .neq 30 (.agg #[iN 0,iN 0,.bool n,.int .i64 t,.int .i64 o,.int .i64 r,.int .i64 d,.int .i64 i,.int .i64 a,.int .i64 b,.int .i64 c,.int .i64 k]) (.agg #[iN 0,iN 0,.bool false,iN 0,iN 0,iN 0,iN 0,iN 0,iN 0,iN 0,iN 0,iN 0]) =
  (p7 (bE (n==false) (bE (t==Int.ofNat 0) (bE (o==Int.ofNat 0) (bE (r==Int.ofNat 0) (bE (d==Int.ofNat 0) (bE (i==Int.ofNat 0) (some true))))))) (p7 (bE (a==Int.ofNat 0) (bE (b==Int.ofNat 0) (bE (c==Int.ofNat 0) (some true)))) (bE (k==Int.ofNat 0) (some true)))).map fun b=>.bool (!b):=by kernel_rfl
 rw [h];unfold zO;cases n <;> cases (t==Int.ofNat 0) <;> cases (o==Int.ofNat 0) <;> cases (r==Int.ofNat 0) <;> cases (d==Int.ofNat 0) <;> cases (i==Int.ofNat 0) <;> first | rfl | skip
 all_goals (cases (a==Int.ofNat 0) <;> cases (b==Int.ofNat 0) <;> cases (c==Int.ofNat 0) <;> cases (k==Int.ofNat 0) <;> rfl)
noncomputable def SK:Ext:=cS Tryz.prog [(57,g15)]
theorem J5:ExtOk Tryz.prog SK:=aT (.cons vN .nil)
theorem Sz(x:aY)(Q:Value→Prop):(((decide (x.dest≥(Int.ofNat 0)))=true→((decide (x.dest<(Int.ofNat 64)))=true→((x.kind==(Int.ofNat 1))=true→(fstV ((aBin Tryz.prog .neq 30 (.agg #[iN 0,iN 0,.bool x.h.n,.int .i64 x.h.t,.int .i64 x.h.o,.int .i64 x.h.r,.int .i64 x.h.d,.int .i64 x.h.i,.int .i64 x.l.1,.int .i64 x.l.2.1,.int .i64 x.l.2.2,.int .i64 x.num]) (.agg #[iN 0,iN 0,.bool false,iN 0,iN 0,iN 0,iN 0,iN 0,iN 0,iN 0,iN 0,iN 0])).map fun v=>(v,none)):Option Value)=some (.bool (!(zO x.h.n x.h.t x.h.o x.h.r x.h.d x.h.i x.l.1 x.l.2.1 x.l.2.2 x.num)))∧((!(zO x.h.n x.h.t x.h.o x.h.r x.h.d x.h.i x.l.1 x.l.2.1 x.l.2.2 x.num))=true→Q (iN 1))∧((!(zO x.h.n x.h.t x.h.o x.h.r x.h.d x.h.i x.l.1 x.l.2.1 x.l.2.2 x.num))=false→Q (iN 0)))∧((x.kind==(Int.ofNat 1))=false→((x.kind==(Int.ofNat 4))=true→((!x.h.n)=true→((decide (x.num≥(Int.ofNat 0)))=true→((decide (x.num≤(Int.ofNat 65535)))=true→((!((cm x.h.n x.h.t x.h.o x.h.r x.h.d x.h.i)==(Int.ofNat 0)))=true→Q (iN 1))∧((!((cm x.h.n x.h.t x.h.o x.h.r x.h.d x.h.i)==(Int.ofNat 0)))=false→(fstV ((aBin Tryz.prog .neq 30 (.agg #[iN 0,iN 0,.bool false,iN 0,iN 0,iN 0,iN 0,iN 0,.int .i64 x.l.1,.int .i64 x.l.2.1,.int .i64 x.l.2.2,iN 0]) (.agg #[iN 0,iN 0,.bool false,iN 0,iN 0,iN 0,iN 0,iN 0,iN 0,iN 0,iN 0,iN 0])).map fun v=>(v,none)):Option Value)=some (.bool (!(zO false (Int.ofNat 0) (Int.ofNat 0) (Int.ofNat 0) (Int.ofNat 0) (Int.ofNat 0) x.l.1 x.l.2.1 x.l.2.2 (Int.ofNat 0))))∧((!(zO false (Int.ofNat 0) (Int.ofNat 0) (Int.ofNat 0) (Int.ofNat 0) (Int.ofNat 0) x.l.1 x.l.2.1 x.l.2.2 (Int.ofNat 0)))=true→Q (iN 1))∧((!(zO false (Int.ofNat 0) (Int.ofNat 0) (Int.ofNat 0) (Int.ofNat 0) (Int.ofNat 0) x.l.1 x.l.2.1 x.l.2.2 (Int.ofNat 0)))=false→Q (iN 0))))∧((decide (x.num≤(Int.ofNat 65535)))=false→Q (iN 1)))∧((decide (x.num≥(Int.ofNat 0)))=false→Q (iN 1)))∧((!x.h.n)=false→Q (iN 1)))∧((x.kind==(Int.ofNat 4))=false→((x.kind==(Int.ofNat 2))=true→((!((cm x.h.n x.h.t x.h.o x.h.r x.h.d x.h.i)==(Int.ofNat 0)))=true→Q (iN 1))∧((!((cm x.h.n x.h.t x.h.o x.h.r x.h.d x.h.i)==(Int.ofNat 0)))=false→(fstV ((aBin Tryz.prog .neq 30 (.agg #[iN 0,iN 0,.bool false,iN 0,iN 0,iN 0,iN 0,iN 0,.int .i64 x.l.1,.int .i64 x.l.2.1,.int .i64 x.l.2.2,.int .i64 x.num]) (.agg #[iN 0,iN 0,.bool false,iN 0,iN 0,iN 0,iN 0,iN 0,iN 0,iN 0,iN 0,iN 0])).map fun v=>(v,none)):Option Value)=some (.bool (!(zO false (Int.ofNat 0) (Int.ofNat 0) (Int.ofNat 0) (Int.ofNat 0) (Int.ofNat 0) x.l.1 x.l.2.1 x.l.2.2 x.num)))∧((!(zO false (Int.ofNat 0) (Int.ofNat 0) (Int.ofNat 0) (Int.ofNat 0) (Int.ofNat 0) x.l.1 x.l.2.1 x.l.2.2 x.num))=true→Q (iN 1))∧((!(zO false (Int.ofNat 0) (Int.ofNat 0) (Int.ofNat 0) (Int.ofNat 0) (Int.ofNat 0) x.l.1 x.l.2.1 x.l.2.2 x.num))=false→Q (iN 0))))∧((x.kind==(Int.ofNat 2))=false→((x.kind==(Int.ofNat 3))=true→(((cm false x.l.1 x.l.2.1 x.l.2.2 (Int.ofNat 0) (Int.ofNat 0)) != (Int.ofNat 0))=true→((!((cm false x.l.1 x.l.2.1 x.l.2.2 (Int.ofNat 0) (Int.ofNat 0))==(Int.ofNat 0)))=true→Q (iN 1))∧((!((cm false x.l.1 x.l.2.1 x.l.2.2 (Int.ofNat 0) (Int.ofNat 0))==(Int.ofNat 0)))=false→(fstV ((aBin Tryz.prog .neq 30 (.agg #[iN 0,iN 0,.bool x.h.n,.int .i64 x.h.t,.int .i64 x.h.o,.int .i64 x.h.r,.int .i64 x.h.d,.int .i64 x.h.i,iN 0,iN 0,iN 0,.int .i64 x.num]) (.agg #[iN 0,iN 0,.bool false,iN 0,iN 0,iN 0,iN 0,iN 0,iN 0,iN 0,iN 0,iN 0])).map fun v=>(v,none)):Option Value)=some (.bool (!(zO x.h.n x.h.t x.h.o x.h.r x.h.d x.h.i (Int.ofNat 0) (Int.ofNat 0) (Int.ofNat 0) x.num)))∧((!(zO x.h.n x.h.t x.h.o x.h.r x.h.d x.h.i (Int.ofNat 0) (Int.ofNat 0) (Int.ofNat 0) x.num))=true→Q (iN 1))∧((!(zO x.h.n x.h.t x.h.o x.h.r x.h.d x.h.i (Int.ofNat 0) (Int.ofNat 0) (Int.ofNat 0) x.num))=false→Q (iN 0))))∧(((cm false x.l.1 x.l.2.1 x.l.2.2 (Int.ofNat 0) (Int.ofNat 0)) != (Int.ofNat 0))=false→(fstV ((aBin Tryz.prog .neq 30 (.agg #[iN 0,iN 0,.bool x.h.n,.int .i64 x.h.t,.int .i64 x.h.o,.int .i64 x.h.r,.int .i64 x.h.d,.int .i64 x.h.i,iN 0,iN 0,iN 0,.int .i64 x.num]) (.agg #[iN 0,iN 0,.bool false,iN 0,iN 0,iN 0,iN 0,iN 0,iN 0,iN 0,iN 0,iN 0])).map fun v=>(v,none)):Option Value)=some (.bool (!(zO x.h.n x.h.t x.h.o x.h.r x.h.d x.h.i (Int.ofNat 0) (Int.ofNat 0) (Int.ofNat 0) x.num)))∧((!(zO x.h.n x.h.t x.h.o x.h.r x.h.d x.h.i (Int.ofNat 0) (Int.ofNat 0) (Int.ofNat 0) x.num))=true→Q (iN 1))∧((!(zO x.h.n x.h.t x.h.o x.h.r x.h.d x.h.i (Int.ofNat 0) (Int.ofNat 0) (Int.ofNat 0) x.num))=false→Q (iN 0))))∧((x.kind==(Int.ofNat 3))=false→Q (iN 1))))))∧((decide (x.dest<(Int.ofNat 64)))=false→((x.kind==(Int.ofNat 1))=true→Q (iN 1))∧((x.kind==(Int.ofNat 1))=false→((x.kind==(Int.ofNat 4))=true→Q (iN 1))∧((x.kind==(Int.ofNat 4))=false→((x.kind==(Int.ofNat 2))=true→Q (iN 1))∧((x.kind==(Int.ofNat 2))=false→((x.kind==(Int.ofNat 3))=true→(((cm false x.l.1 x.l.2.1 x.l.2.2 (Int.ofNat 0) (Int.ofNat 0)) != (Int.ofNat 0))=true→Q (iN 1))∧(((cm false x.l.1 x.l.2.1 x.l.2.2 (Int.ofNat 0) (Int.ofNat 0)) != (Int.ofNat 0))=false→Q (iN 1)))∧((x.kind==(Int.ofNat 3))=false→Q (iN 1)))))))∧((decide (x.dest≥(Int.ofNat 0)))=false→((x.kind==(Int.ofNat 1))=true→Q (iN 1))∧((x.kind==(Int.ofNat 1))=false→((x.kind==(Int.ofNat 4))=true→Q (iN 1))∧((x.kind==(Int.ofNat 4))=false→((x.kind==(Int.ofNat 2))=true→Q (iN 1))∧((x.kind==(Int.ofNat 2))=false→((x.kind==(Int.ofNat 3))=true→(((cm false x.l.1 x.l.2.1 x.l.2.2 (Int.ofNat 0) (Int.ofNat 0)) != (Int.ofNat 0))=true→Q (iN 1))∧(((cm false x.l.1 x.l.2.1 x.l.2.2 (Int.ofNat 0) (Int.ofNat 0)) != (Int.ofNat 0))=false→Q (iN 1)))∧((x.kind==(Int.ofNat 3))=false→Q (iN 1)))))))=(CT Tryz.prog SK 61 24 [.agg #[.int .i64 x.kind,.int .i64 x.dest,.bool x.h.n,.int .i64 x.h.t,.int .i64 x.h.o,.int .i64 x.h.r,.int .i64 x.h.d,.int .i64 x.h.i,.int .i64 x.l.1,.int .i64 x.l.2.1,.int .i64 x.l.2.2,.int .i64 x.num]] (.b 11 (.b 15 (.b 20 (.w 27 (!(zO x.h.n x.h.t x.h.o x.h.r x.h.d x.h.i x.l.1 x.l.2.1 x.l.2.2 x.num)) (.stop 0 [] []) (.stop 0 [] [])) (.b 22 (.b 29 (.b 34 (.b 39 (.b 56 (.stop 0 [] []) (.w 60 (!(zO false (Int.ofNat 0) (Int.ofNat 0) (Int.ofNat 0) (Int.ofNat 0) (Int.ofNat 0) x.l.1 x.l.2.1 x.l.2.2 (Int.ofNat 0))) (.stop 0 [] []) (.stop 0 [] []))) (.stop 0 [] [])) (.stop 0 [] [])) (.stop 0 [] [])) (.b 24 (.b 38 (.stop 0 [] []) (.w 42 (!(zO false (Int.ofNat 0) (Int.ofNat 0) (Int.ofNat 0) (Int.ofNat 0) (Int.ofNat 0) x.l.1 x.l.2.1 x.l.2.2 x.num)) (.stop 0 [] []) (.stop 0 [] []))) (.b 26 (.b 49 (.b 70 (.stop 0 [] []) (.w 74 (!(zO x.h.n x.h.t x.h.o x.h.r x.h.d x.h.i (Int.ofNat 0) (Int.ofNat 0) (Int.ofNat 0) x.num)) (.stop 0 [] []) (.stop 0 [] []))) (.w 73 (!(zO x.h.n x.h.t x.h.o x.h.r x.h.d x.h.i (Int.ofNat 0) (Int.ofNat 0) (Int.ofNat 0) x.num)) (.stop 0 [] []) (.stop 0 [] []))) (.stop 0 [] []))))) (.b 20 (.stop 0 [] []) (.b 22 (.stop 0 [] []) (.b 24 (.stop 0 [] []) (.b 26 (.b 49 (.stop 0 [] []) (.stop 0 [] [])) (.stop 0 [] [])))))) (.b 17 (.stop 0 [] []) (.b 19 (.stop 0 [] []) (.b 21 (.stop 0 [] []) (.b 23 (.b 46 (.stop 0 [] []) (.stop 0 [] [])) (.stop 0 [] [])))))) Q):=by kernel_rfl
theorem IG(x:aY):∃ hp,aCall Tryz.prog SK 61 24 [.agg #[.int .i64 x.kind,.int .i64 x.dest,.bool x.h.n,.int .i64 x.h.t,.int .i64 x.h.o,.int .i64 x.h.r,.int .i64 x.h.d,.int .i64 x.h.i,.int .i64 x.l.1,.int .i64 x.l.2.1,.int .i64 x.l.2.2,.int .i64 x.num]] aE=some (.int .i64 (gQ x),hp):=by
 refine s6 (Sz x _) ?_
 refine ⟨fun h_11=>⟨fun h_15=>⟨fun h_20=>⟨El x.h.n x.h.t x.h.o x.h.r x.h.d x.h.i x.l.1 x.l.2.1 x.l.2.2 x.num,fun h_27=>?_,fun h_27=>?_⟩,fun h_20=>⟨fun h_22=>⟨fun h_29=>⟨fun h_34=>⟨fun h_39=>⟨fun h_56=>?_,fun h_56=>⟨El false (Int.ofNat 0) (Int.ofNat 0) (Int.ofNat 0) (Int.ofNat 0) (Int.ofNat 0) x.l.1 x.l.2.1 x.l.2.2 (Int.ofNat 0),fun h_60=>?_,fun h_60=>?_⟩⟩,fun h_39=>?_⟩,fun h_34=>?_⟩,fun h_29=>?_⟩,fun h_22=>⟨fun h_24=>⟨fun h_38=>?_,fun h_38=>⟨El false (Int.ofNat 0) (Int.ofNat 0) (Int.ofNat 0) (Int.ofNat 0) (Int.ofNat 0) x.l.1 x.l.2.1 x.l.2.2 x.num,fun h_42=>?_,fun h_42=>?_⟩⟩,fun h_24=>⟨fun h_26=>⟨fun h_49=>⟨fun h_70=>?_,fun h_70=>⟨El x.h.n x.h.t x.h.o x.h.r x.h.d x.h.i (Int.ofNat 0) (Int.ofNat 0) (Int.ofNat 0) x.num,fun h_74=>?_,fun h_74=>?_⟩⟩,fun h_49=>⟨El x.h.n x.h.t x.h.o x.h.r x.h.d x.h.i (Int.ofNat 0) (Int.ofNat 0) (Int.ofNat 0) x.num,fun h_73=>?_,fun h_73=>?_⟩⟩,fun h_26=>?_⟩⟩⟩⟩,fun h_15=>⟨fun h_20=>?_,fun h_20=>⟨fun h_22=>?_,fun h_22=>⟨fun h_24=>?_,fun h_24=>⟨fun h_26=>⟨fun h_49=>?_,fun h_49=>?_⟩,fun h_26=>?_⟩⟩⟩⟩⟩,fun h_11=>⟨fun h_17=>?_,fun h_17=>⟨fun h_19=>?_,fun h_19=>⟨fun h_21=>?_,fun h_21=>⟨fun h_23=>⟨fun h_46=>?_,fun h_46=>?_⟩,fun h_23=>?_⟩⟩⟩⟩⟩
 all_goals ((try simp only [jr,Jd,Bool.not_eq_true',Bool.not_eq_false'] at *); first | (refine Jy ?_; unfold jZ; simp_all; done) | (refine Jx ?_; unfold jZ; simp_all; done) | (refine Jy ?_; unfold jZ; simp_all; omega) | (refine Jx ?_; unfold jZ; simp_all; omega))
def unO:Value→Option aY
 | .agg cs=>match cs.toList with
   | [.int .i64 k,.int .i64 dd,.bool n,.int .i64 t,.int .i64 o,.int .i64 r,.int .i64 d,.int .i64 i,.int .i64 a,.int .i64 b,.int .i64 c,.int .i64 q]=>some ⟨0,k,dd,⟨0,n,t,o,r,d,i⟩,(a,b,c),q⟩
   | _=>none
 | _=>none
theorem rq{v:Value}{x:aY}(h:unO v=some x):v = .agg #[.int .i64 x.kind,.int .i64 x.dest,.bool x.h.n,.int .i64 x.h.t,.int .i64 x.h.o,.int .i64 x.h.r,.int .i64 x.h.d,.int .i64 x.h.i,.int .i64 x.l.1,.int .i64 x.l.2.1,.int .i64 x.l.2.2,.int .i64 x.num]:=by
 unfold unO at h;split at h
 ·rename_i cs
  split at h
  ·rename_i hcs
   cases h;obtain rfl:=cN hcs;rfl
  ·cases h
 ·cases h
theorem Pq(x:aY):flatD (.agg #[.int .i64 x.kind,.int .i64 x.dest,.bool x.h.n,.int .i64 x.h.t,.int .i64 x.h.o,.int .i64 x.h.r,.int .i64 x.h.d,.int .i64 x.h.i,.int .i64 x.l.1,.int .i64 x.l.2.1,.int .i64 x.l.2.2,.int .i64 x.num])=true:=rfl
def gOC:List Value→Option Value
 | [a]=>(unO a).map fun x=>.int .i64 (gQ x)
 | _=>none
theorem Uf:bL Tryz.prog 24 gOC:=di (ext:=SK) J5 follows Tryz.func24 (by kernel_rfl) fun args v h=>by
 unfold gOC at h;split at h
 case h_2=>cases h
 rename_i a;obtain ⟨x,hx,h2⟩:=Option.map_eq_some_iff.1 h;cases h2;obtain rfl:=rq hx;obtain ⟨hp,q⟩:=IG x;exact ⟨by rw [List.all_cons,Pq]; rfl,rfl,_,hp,q⟩
theorem Fp(l:aU):fv (lA l):=⟨rfl,fun _=>by simp [mv3,mv2,mv1,lA,lc]⟩
theorem UD(u v:aa):fstV ((aBin Tryz.prog .neq 78 (.agg ⟨vc u⟩) (.agg ⟨vc v⟩)).map fun v=>(v,none))=some (.bool (!gh u v)):=by
 have h:aBin Tryz.prog .neq 78 (.agg ⟨vc u⟩) (.agg ⟨vc v⟩) =
  (bE (u.id==v.id) (p7 (bE (u.n==v.n) (bE (u.t==v.t) (bE (u.o==v.o) (bE (u.r==v.r) (bE (u.d==v.d) (bE (u.i==v.i) (some true))))))) (some true))).map fun b=>.bool (!b):=by kernel_rfl
 rw [h];simp only [eT];unfold gh dD;cases (u.id==v.id) <;> cases (u.n==v.n) <;> cases (u.t==v.t) <;> cases (u.o==v.o) <;> cases (u.r==v.r) <;> cases (u.d==v.d) <;> cases (u.i==v.i) <;> rfl
theorem o0{f:Bool}{vs:List aa}{b c:Nat}{hp:Hp}(hg:hp.get b=some (bv f (LtA.ab vs)))(hf:f=false→vs = []):TN vs (vS f b vs.length c) hp:=by
 cases f with
 | false=>rw [hf rfl]; exact .inl ⟨rfl,rfl⟩
 | true=>exact TN.new rfl hg
theorem aB{f:Bool}{o:af}(h:aA o=true):aA (bv f o)=true:=by cases f <;> first | rfl | exact h
theorem Ke{f:Bool}{vs:List aa}{hp:Hp}{b c:Nat}(l:aU)(keep:Int)(h:TN vs (vS f b vs.length c) hp)(hn:vs.length<1000000)(hf:f=false→vs = []) :
  N7 [vS f b vs.length c,lA l,.int .i64 keep] hp=some (vS f hp.sz (vs.map (lG l.1 l.2.1 l.2.2 keep)).length (c2 f),heapOf [bv f (LtA.ab (vs.map (lG l.1 l.2.1 l.2.2 keep))),.dead] hp):=by
 rw [List.length_map];unfold N7;have e:=iU (P:=fun _=>True) (k:=g29) (r:=[lA l,.int .i64 keep]) h hn trivial
 cases f with
 | false =>
   obtain rfl:=hf rfl;exact pI (e.trans (Hy (lt:=l.1) (lo:=l.2.1) (lr:=l.2.2)))
 | true =>
   have hT:TR vs (ae b vs.length c) hp:=by
     rcases h with ⟨h,-⟩ | h
     ·cases h
     ·exact h
   exact ni (e.trans (Hz (lt:=l.1) (lo:=l.2.1) (lr:=l.2.2) hT))
def bY(l:aU)(keep:Int)(vs:List aa):List Int:=(vs.filter (lH l.1 l.2.1 l.2.2 keep)).map fun x=>x.id
def oI(l:aU)(keep:Int)(ids:List Int)(x:aa):List Int:=bif lH l.1 l.2.1 l.2.2 keep x then ids ++ [x.id] else ids
theorem nS(l:aU)(keep:Int):∀ (vs:List aa) (ids:List Int),vs.foldl (oI l keep) ids=ids++bY l keep vs
 | [],ids=>by simp [bY]
 | x::vs,ids=>by
   rw [List.foldl_cons,nS l keep vs];unfold oI bY;rw [List.filter_cons];cases lH l.1 l.2.1 l.2.2 keep x <;> simp
theorem Bf(l:aU)(keep:Int)(x:aa):gh x (lG l.1 l.2.1 l.2.2 keep x) = !lH l.1 l.2.1 l.2.2 keep x:=by
 unfold lG;cases h:lH l.1 l.2.1 l.2.2 keep x with
 | false=>exact qS x
 | true =>
   have hn:x.n=false:=by
     unfold lH told known at h;simp at h;exact h.2.1.1
   simp [gh,LtA.bG,dD,hn]
theorem sl(l:aU)(keep:Int)(vs:List aa):(bY l keep vs).length≤vs.length:=by
 unfold bY;rw [List.length_map];exact List.length_filter_le _ _
noncomputable def Tk:Ext:=fh (cS Tryz.prog []) [(169,N7)]
theorem xq:ExtOk Tryz.prog Tk:=bC (aT .nil) (.cons PL .nil)
noncomputable def Dq:Code:=(Tryz.f143.body).getD .skip
theorem K4:Tryz.f143.body=some Dq:=by kernel_rfl
theorem UI:Tryz.f143.ntmps=50:=by kernel_rfl
theorem Yf:codeSafe Tryz.prog 50 Dq=true:=by kernel_rfl
noncomputable def H0:Code:=pB (pR (pL (pR (pR (pR (pR (Dq)))))))
noncomputable def MJ:Code:=pU H0
theorem H2:H0 = .loop MJ:=by kernel_rfl
theorem Sw:codeSafe Tryz.prog 50 MJ=true:=by kernel_rfl
theorem Tm(f fo fg:Bool)(o p:af)(n c no co k:Nat)(now e:Int)(R:ax)(l:aU)(us:List aa)(ids:List Int)(W:bh)(X:fe)(Q:Value→List af→List Nat→List af→Prop):let b0:af:=.cells 95 [Iv R.me,Iv R.dest,.bool R.own.n,Iv R.own.t,Iv R.own.o,Iv R.own.r,Iv R.own.d,Iv R.own.i,vS f 3 us.length (c2 f),.bool R.asked,.bool R.want,.bool R.heard,Iv R.last,Iv now,vS fo 2 no co,Iv e] false;let b1:af:=.cells 95 [Iv R.me,Iv R.dest,.bool R.own.n,Iv R.own.t,Iv R.own.o,Iv R.own.r,Iv R.own.d,Iv R.own.i,vS f 1 n c,.bool R.asked,.bool R.want,.bool R.heard,Iv R.last,Iv now,vS fo 2 no co,Iv e] false;(HT (N7 [vS f 1 n c,.agg #[Iv l.1,Iv l.2.1,Iv l.2.2],Iv R.dest]) (heapOf [b1,o,p,.dead,.cells 28 [Iv l.1,Iv l.2.1,Iv l.2.2] false] aE) (vS f 5 us.length (c2 f)) [(bv f (LtA.ab us)),.dead]∧(lC 30 [b0,o,p,(bv f (LtA.ab us)),.dead]∧(∀ g,bm Tryz.prog 50 W 3 X H0 (av 50 g [(0,pb 0 0),(6,au),(26,vS f 1 n c),(27,iN (kk f n)),(28,iN 0)] [b0,o,p,(bv f (LtA.ab us)),.dead]) (LQ (fun (_:Unit) g=>(.exit 0,av 50 g [(0,pb 0 0),(6,vI fg 4 k)] [b0,o,p,(bv f (LtA.ab us)),(dv ids)])) (fun (_:Unit)=>True)))∧(∀ (_:Unit) (g:Nat→Value),True→Q (vI fg 4 k) [b0,o,p] [4,3] [(dv ids),(bv f (LtA.ab us))])))=WF Tryz.prog Tk Tryz.f143 50 W 3 X 60 Dq ⟨tmsOf [pb 0 0,lA l] 0 .leaf,heapOf [b1,o,p,.dead] aE,[]⟩ (.h 16 (vS f 5 us.length (c2 f)) [(bv f (LtA.ab us)),.dead] (.l 25 1030 [0,1,2,5,3] [0,6,26,27,28] Unit (fun (_:Unit) g=>(.exit 0,av 50 g [(0,pb 0 0),(6,vI fg 4 k)] [b0,o,p,(bv f (LtA.ab us)),(dv ids)])) (fun (_:Unit)=>True) (.stop 3 [4,3] []))) Q:=by cases f <;> cases fo <;> cases fg <;> (intros;kernel_rfl)
theorem I1(f fo fg:Bool)(o p:af)(n c no co k i:Nat)(now e:Int)(R:ax)(us:List aa)(ids ids2:List Int)(x y:aa)(g:Nat→Value)(Q:Exit→St→Prop):let b0:af:=.cells 95 [Iv R.me,Iv R.dest,.bool R.own.n,Iv R.own.t,Iv R.own.o,Iv R.own.r,Iv R.own.d,Iv R.own.i,vS f 3 us.length (c2 f),.bool R.asked,.bool R.want,.bool R.heard,Iv R.last,Iv now,vS fo 2 no co,Iv e] false;let b1:af:=.cells 78 [Iv x.id,.bool x.n,Iv x.t,Iv x.o,Iv x.r,Iv x.d,Iv x.i] false;(((decide ((Int.ofNat i)<(Int.ofNat (kk f n))))=true→(fstV ((aIndexAddr Tryz.prog 24 (vS f 1 n c) (iN i)).map fun v=>(v,none)):OV)=some (pb 1 (i*7))∧((aLoad Tryz.prog (heapOf [b0,o,p,(bv f (LtA.ab us)),(dv ids),.dead] aE).get 78 (pb 1 (i*7)):OV)=some (.agg ⟨vc x⟩)∧((fstV ((aIndexAddr Tryz.prog 24 (vS f 3 us.length (c2 f)) (iN i)).map fun v=>(v,none)):OV)=some (pb 3 (i*7))∧((aLoad Tryz.prog (heapOf [b0,o,p,(bv f (LtA.ab us)),(dv ids),.dead,b1] aE).get 78 (pb 3 (i*7)):OV)=some (.agg ⟨vc y⟩)∧((fstV ((aBin Tryz.prog .neq 78 (.agg #[Iv x.id,.bool x.n,Iv x.t,Iv x.o,Iv x.r,Iv x.d,Iv x.i]) (.agg ⟨vc y⟩)).map fun v=>(v,none)):OV)=some (.bool (!(gh x y)))∧((!(gh x y))=true→aAppend Tryz.prog (heapOf [b0,o,p,(bv f (LtA.ab us)),(dv ids),.dead,b1,.cells 3 [Iv x.id] false] aE).get 8 [56,56] [vI fg 4 k,.slice (some ⟨7,0,none⟩) 1 4]=some (.slice (some ⟨8,0,none⟩) (k+1) 4,(gl fg 4 (iB ids2)))∧((some (Iv (wrapF .i64 (Int.ofNat i+Int.ofNat 1))):OV)=some (iN (i+1))∧(lC 30 [b0,o,p,(bv f (LtA.ab us)),(iB ids2)]∧∀ g,Q .normal (av 50 g [(0,pb 0 0),(6,.slice (some ⟨4,0,none⟩) (k+1) 4),(26,vS f 1 n c),(27,iN (kk f n)),(28,iN (i+1))] [b0,o,p,(bv f (LtA.ab us)),(iB ids2)]))))∧((!(gh x y))=false→(some (Iv (wrapF .i64 (Int.ofNat i+Int.ofNat 1))):OV)=some (iN (i+1))∧(lC 30 [b0,o,p,(bv f (LtA.ab us)),(dv ids)]∧∀ g,Q .normal (av 50 g [(0,pb 0 0),(6,vI fg 4 k),(26,vS f 1 n c),(27,iN (kk f n)),(28,iN (i+1))] [b0,o,p,(bv f (LtA.ab us)),(dv ids)]))))))))∧((decide ((Int.ofNat i)<(Int.ofNat (kk f n))))=false→lC 30 [b0,o,p,(bv f (LtA.ab us)),(dv ids)]∧∀ g,Q (.exit 0) (av 50 g [(0,pb 0 0),(6,vI fg 4 k)] [b0,o,p,(bv f (LtA.ab us)),(dv ids)])))=RM Tryz.prog Tk 50 3 60 MJ (av 50 g [(0,pb 0 0),(6,vI fg 4 k),(26,vS f 1 n c),(27,iN (kk f n)),(28,iN i)] [b0,o,p,(bv f (LtA.ab us)),(dv ids)]) (.b 0 (.v 2 (pb 1 (i*7)) (.v 3 (.agg ⟨vc x⟩) (.v 14 (pb 3 (i*7)) (.v 15 (.agg ⟨vc y⟩) (.w 16 (!(gh x y)) (.e 21 (.slice (some ⟨8,0,none⟩) (k+1) 4) (gl fg 4 (iB ids2)) (.v 23 (iN (i+1)) (.stop 30 [0,1,2,3,8] [0,6,26,27,28]))) (.v 17 (iN (i+1)) (.stop 30 [0,1,2,3,4] [0,6,26,27,28]))))))) (.stop 30 [0,1,2,3,4] [0,6])) Q:=by cases f <;> cases fo <;> cases fg <;> (intros;kernel_rfl)
theorem Hx{t o p q r:af}(h1:aA o=true)(h2:aA p=true)(h3:aA q=true)(h4:aA r=true):lC 30 [t,o,p,q,r]:=fun i hi x hx=>by
 match i,hi with
 | 0,hi=>exact absurd hi (by decide)
 | 1,_=>cases hx; exact bb h1 0
 | 2,_=>cases hx; exact bb h2 0
 | 3,_=>cases hx; exact bb h3 0
 | 4,_=>cases hx; exact bb h4 0
 | i+5,_=>simp at hx
theorem MQ(vs us:List aa)(hn:vs.length<1000000)(f fo:Bool)(o p:af)(c no co:Nat)(ho:aA o=true)(hp:aA p=true)(hrow:vs = []∨∃ ty ro,o = .cells ty (aK vs) ro)(hfl:f=false→vs = []∧o = .dead)(R:ax)(l:aU)(hus:us=vs.map (lG l.1 l.2.1 l.2.2 R.dest))(now e:Int)(W:bh)(X:fe)(g:Nat→Value) :
  bm Tryz.prog 50 W 3 X H0 (av 50 g [(0,pb 0 0),(6,vI (!(([]:List Int)).isEmpty) 4 (([]:List Int)).length),(26,vS f 1 vs.length c),(27,iN (kk f vs.length)),(28,iN (0))] [.cells 95 [.int .i64 R.me,.int .i64 R.dest,.bool R.own.n,.int .i64 R.own.t,.int .i64 R.own.o,.int .i64 R.own.r,.int .i64 R.own.d,.int .i64 R.own.i,vS f 3 us.length (c2 f),.bool R.asked,.bool R.want,.bool R.heard,.int .i64 R.last,.int .i64 now,vS fo 2 no co,.int .i64 e] false,o,p,(bv f (LtA.ab us)),(dv (([]:List Int)))]) (LQ (fun (_:Unit) g=>(.exit 0,av 50 g [(0,pb 0 0),(6,vI (!(vs.foldl (oI l R.dest) []).isEmpty) 4 (vs.foldl (oI l R.dest) []).length)] [.cells 95 [.int .i64 R.me,.int .i64 R.dest,.bool R.own.n,.int .i64 R.own.t,.int .i64 R.own.o,.int .i64 R.own.r,.int .i64 R.own.d,.int .i64 R.own.i,vS f 3 us.length (c2 f),.bool R.asked,.bool R.want,.bool R.heard,.int .i64 R.last,.int .i64 now,vS fo 2 no co,.int .i64 e] false,o,p,(bv f (LtA.ab us)),(dv (vs.foldl (oI l R.dest) []))])) (fun (_:Unit)=>True)):=by
 rw [H2];have hkk:=qt hfl
 refine bm.fold (vs:=vs) (oI l R.dest) [] (fun ids i g=>(av 50 g [(0,pb 0 0),(6,vI (!(ids).isEmpty) 4 (ids).length),(26,vS f 1 vs.length c),(27,iN (kk f vs.length)),(28,iN (i))] [.cells 95 [.int .i64 R.me,.int .i64 R.dest,.bool R.own.n,.int .i64 R.own.t,.int .i64 R.own.o,.int .i64 R.own.r,.int .i64 R.own.d,.int .i64 R.own.i,vS f 3 us.length (c2 f),.bool R.asked,.bool R.want,.bool R.heard,.int .i64 R.last,.int .i64 now,vS fo 2 no co,.int .i64 e] false,o,p,(bv f (LtA.ab us)),(dv (ids))])) (fun ids g hk=>?_) (fun i x ids g hx hlt hk=>?_) g
 ·refine bm.n4 xq follows Sw (I1 f fo (!ids.isEmpty) o p vs.length c no co ids.length vs.length now e R us ids [] (zeroV 0) (zeroV 0) g _) ?_
  refine ⟨fun h_0=>Bool.noConfusion (h_0.symm.trans (Ei hkk)),fun h_0=>⟨Hx ho hp (aB (aw _)) (eO _),fun g=>?_⟩⟩
  subst hk;exact ⟨by simp,(),g,trivial,rfl,rfl⟩
 ·have hft:f=true:=by cases f with
   | true=>rfl
   | false=>rw [(hfl rfl).1] at hlt; simp at hlt
  have hr:∃ ty ro,o = .cells ty (aK vs) ro:=by
    rcases hrow with h | h
    ·rw [h] at hlt; simp at hlt
    ·exact h
  have b1:∀ (a:af) (r:List af),ez (heapOf (a::o::r) aE) 1 vs:=fun a r=>by
    obtain ⟨ty,ro,h⟩:=hr;exact ez.of (ty:=ty) (ro:=ro) (by rw [ak,← h]; rfl)
  have b3:∀ (a b d:af) (r:List af),ez (heapOf (a::b::d::bv true (LtA.ab us)::r) aE) 3 us:=fun a b d r=>ez.of (ty:=78) (ro:=false) (by rw [ak]; rfl)
  have hy:us[i]? = some (lG l.1 l.2.1 l.2.2 R.dest x):=by rw [hus,List.getElem?_map,hx]; rfl
  have hlu:i<us.length:=by rw [hus,List.length_map]; exact hlt
  have hw:(some (Value.int .i64 (wrapF .i64 (Int.ofNat i+Int.ofNat 1))))=some (iN (i+1)):=bz (by omega)
  have hil:ids.length<2000000:=by
    rw [← hk,nS];have:=sl l R.dest (vs.take i)
    simp at this ⊢;omega
  have happ:=fun {get:Nat→Option af} {sz b2:Nat} (hb:get 4=some (dv ids)) (hb2:get b2=some (.cells 3 [iC x.id] false))=>u5 (sz:=sz) (x:=x.id) (f:=!ids.isEmpty) rfl hb hb2 rfl hil
  have hsame:=Bf l R.dest x
  subst hft;refine bm.n4 xq follows Sw (I1 true fo (!ids.isEmpty) o p vs.length c no co ids.length i now e R us ids (ids ++ [x.id]) x (lG l.1 l.2.1 l.2.2 R.dest x) g _) ?_
  refine ⟨fun h_0=>⟨LtA.bH (by first | exact hlt | exact hlu),LtA.bM (b1 _ _) hx,LtA.bH (by first | exact hlt | exact hlu),LtA.bM (b3 _ _ _ _) hy,UD _ _,fun h_16=>⟨happ (bk rfl) (bk rfl),hw,Hx ho hp (aB (aw _)) (dV _),fun g=>?_⟩,fun h_16=>⟨hw,Hx ho hp (aB (aw _)) (eO _),fun g=>?_⟩⟩,fun h_0=>Bool.noConfusion ((Ej hkk hlt).symm.trans h_0)⟩
  all_goals (refine .inl ⟨rfl,g,?_⟩; unfold oI)
  all_goals (cases hat:lH l.1 l.2.1 l.2.2 R.dest x <;> rw [hat] at hsame)
  all_goals first
    | (exfalso; simp_all; done)
    | (simp only [cond_true,cond_false]; done)
    | (simp only [cond_true]; rw [pF,ui (qA ids x.id),List.length_append]; rfl)
    | rfl
theorem NU{f:Bool}{vs:List aa}{o:af}{b c:Nat}{hp:Hp}(ho:aA o=true)(hrow:vs = []∨∃ ty ro,o = .cells ty (aK vs) ro)(hfl:f=false→vs = []∧o = .dead)(hg:hp.get b=some o):TN vs (vS f b vs.length c) hp:=by
 cases f with
 | false=>rw [(hfl rfl).1]; exact .inl ⟨rfl,rfl⟩
 | true=>exact .inr ⟨b,c,o,rfl,hg,ho,hrow⟩
def kN(R:ax)(f:Bool)(vs:List aa)(l:aU)(e:Int):mw:=⟨R,f,vs.map (lG l.1 l.2.1 l.2.2 R.dest),c2 f,e,true,!(bY l R.dest vs).isEmpty,(bY l R.dest vs).length,4,iB (bY l R.dest vs)⟩
def forgetA:Ga:=fun R f vs aN _ e rest=>match aN,rest with
 | [_],[v]=>(unL' v).map fun l=>kN R f vs l e
 | _,_=>none
theorem RA(R:ax)(f:Bool)(vs:List aa)(aN:List Value)(fo:Bool)(e:Int)(h0:R.own.id=0)(hn:vs.length<1000000)(hm:gf aN):∀ rest r,forgetA R f vs aN fo e rest=some r→OW 95 Tryz.f143 Dq 50 R f vs aN fo e rest r:=fun rest r h=>by
 unfold forgetA at h;split at h
 case h_2=>cases h
 rename_i m v;obtain ⟨l,hl,h2⟩:=Option.map_eq_some_iff.1 h;obtain rfl:=rp hl;cases h2;obtain ⟨now,rfl⟩:∃ now,m = .int .i64 now:=by
  rcases hm with h | ⟨now,h⟩
  ·cases h
  ·exact ⟨now,by simpa using h⟩
 refine ⟨(by intro r hr; simp at hr; subst hr; exact Fp _),by simp,⟨dV _,rfl⟩,fun o c p no co W X ho hrow hfl hp hpl=>?_⟩
 have hfg:∀ {hp:Hp},hp.get 1=some o→N7 [vS f 1 vs.length c,lA l,.int .i64 R.dest] hp=_:=fun hg=>Ke l R.dest (NU ho hrow hfl hg) hn fun h=>(hfl h).1
 have hgf:vs.foldl (oI l R.dest) []=bY l R.dest vs:=by rw [nS]; rfl
 have hloop:=fun g=>MQ vs _ hn f fo o p c no co ho hp hrow hfl R l rfl now e W X g
 simp only [hgf] at hloop;refine bm.uj xq follows Yf (Tm f fo (!(bY l R.dest vs).isEmpty) o p vs.length c no co (bY l R.dest vs).length now e R l (vs.map (lG l.1 l.2.1 l.2.2 R.dest)) (bY l R.dest vs) W X _) ?_
 refine ⟨hfg (bk rfl),Hx ho hp (aB (aw _)) rfl,hloop,fun _ g hok=>⟨rfl,3,4,rfl,rfl,fun _ _=>by decide,fun _=>⟨rfl,1,rfl,rfl⟩,fun _=>⟨rfl,0,rfl,?_⟩⟩⟩
 show some (dv (bY l R.dest vs))=some (bv (!(bY l R.dest vs).isEmpty) (iB (bY l R.dest vs)))
 generalize bY l R.dest vs=ids;cases ids <;> rfl
noncomputable def Gr:aC:=toldW 95 forgetA
theorem PH:aq Tryz.prog 143 Gr:=yO Tryz.func143 K4 (by kernel_rfl) UI RA
theorem Kj{R:ax}{f fo:Bool}{vs:List aa}{s out:Value}{now e:Int}{t:Nat}{hp:Hp}(l:aU)(h0:R.own.id=0)(hg:hp.get t=some (.cells 95 (cv R s [.int .i64 now] out e) false))(hO:lJ s out hp)(hf:eN s=f)(h:TN vs s hp)(hn:vs.length<1000000) :
  HE (Gr [pb t 0,lA l]) hp ((kN R f vs l e).I6 (hp.sz+1)) [.put t (.cells 95 ((kN R f vs l e).cells [.int .i64 now] out hp.sz (hp.sz+1)) false),.push (bv f (LtA.ab (kN R f vs l e).vs)),.push (bv (kN R f vs l e).f2 (kN R f vs l e).B2),.push .dead] :=
 FI h0 (.inr ⟨now,rfl⟩) hg hO hf rfl h hn rfl
def aJ(L:List Value):af:=.cells 50 L false
def B8(vs:List aa)(s:Value)(hp:Hp):Prop:=s=au∧vs = []∨∃ b c,s=ae b vs.length c∧hp.get b=some (LtA.ab vs)
def BY(M n:Nat)(L:List Value)(o:Value)(hp:Hp):Prop:=o=au∧n=0∧L = []∨∃ b,o=ae b n 40∧hp.get b=some (aJ L)∧L.all inert=true∧L.length=n*13∧n<M
theorem B8.tn{vs:List aa}{s:Value}{hp:Hp}(h:B8 vs s hp):TN vs s hp:=by
 rcases h with h | ⟨b,c,rfl,hb⟩
 ·exact .inl h
 ·exact TN.new rfl hb
def qc:Value→Nat
 | .slice _ _ c=>c
 | _=>0
def lenOf:Value→Nat
 | .slice _ n _=>n
 | _=>0
def cellsAt(o:Value)(hp:Hp):List Value:=match o with
 | .slice (some a) _ _=>match hp.get a.block with
   | some (.cells _ L _)=>L
   | _=>[]
 | _=>[]
theorem BY.eqs{M n:Nat}{L:List Value}{o:Value}{hp:Hp}(h:BY M n L o hp):n=lenOf o∧L=cellsAt o hp:=by
 rcases h with ⟨rfl,rfl,rfl⟩ | ⟨b,rfl,hb,-⟩
 ·exact ⟨rfl,rfl⟩
 ·exact ⟨rfl,by unfold cellsAt ae; simp only [hb]; rfl⟩
def kQ:Value→Option (Nat×Bool)
 | .slice (some a) _ _=>some (a.block,true)
 | _=>none
abbrev uM:=ax→Bool→List aa→Nat→List Value→Int→List Value→Option TS
def gO(T:TS)(aN:List Value)(fo:Bool)(n b1 b2:Nat):List Value:=cv T.R (vS T.f b1 T.vs.length T.c) aN (vS (fo||oF T.out) b2 (n+T.out.length) 40) T.e
def QV(TT:TypeId)(T:TS)(aN:List Value)(f fo:Bool)(n:Nat)(L:List Value):Value→List af→List Nat→List af→Prop :=
 fun v O K Nw=>∃ x1 x2,aA x1=true∧aA x2=true∧uR (fun c=>match c with | 1=>f | 2=>fo | _=>false) 3 (fun b1 b2=>[.cells TT (gO T aN fo n b1 b2) false,x1,x2]) (fun _ _=>.tuple #[]) T.f (fo||oF T.out) (LtA.ab T.vs) (aJ (L++T.out.flatMap oc)) v O K Nw
structure An (TT:TypeId) (M:Nat) (fn:Func) (code:Code) (N:Nat) (R:ax) (f:Bool) (vs:List aa) (c:Nat) (aN:List Value) (e:Int) (rest:List Value) (T:TS):Prop where
 flat:∀ x∈rest,fv x
 len:rest.length+1≤N
 run:∀ fo n L W X,L.all inert=true→L.length=n*13→n<M→(f=false→vs = []∧c=0)→(fo=false→n=0∧L = []) →
  bm Tryz.prog N W 3 X code ⟨tmsOf (pb 0 0::rest) 0 .leaf,heapOf [.cells TT (cv R (vS f 1 vs.length c) aN (vS fo 2 n 40) e) false,bv f (LtA.ab vs),bv fo (aJ L),.dead] aE,[]⟩ (fc Tryz.prog fn (QV TT T aN f fo n L))
open Classical in
noncomputable def toldV(TT:TypeId)(M:Nat)(A:uM):aC:=fun args hp=>match args with
 | .pointer (some ⟨t,0,none⟩)::rest=>match hp.get t with
   | some (.cells ty cs false)=>match unW cs with
     | some (R,s,aN,o,e)=>if h:ty=TT∧TT≠78∧TT≠50∧0<M∧BY M (lenOf o) (cellsAt o hp) o hp∧∃ vs,B8 vs s hp∧vs.length<1000000 then (A R (eN s) h.2.2.2.2.2.choose (qc s) aN e rest).map fun T =>
         (.tuple #[],heapOf [bv T.f (LtA.ab T.vs),bv (eN o||oF T.out) (aJ (cellsAt o hp++T.out.flatMap oc)),.dead] (putO [some (t,true),kQ s,kQ o] [.cells TT (gO T aN (eN o) (lenOf o) hp.sz (hp.sz+1)) false,.dead,.dead] hp)) else none
     | none=>none
   | _=>none
 | _=>none
theorem aZ{L:List Value}(h:L.all inert=true):aA (aJ L)=true:=h
theorem jB{L:List Value}(h:L.all inert=true)(us:List aY):(L++us.flatMap oc).all inert=true:=by
 rw [List.all_append,h,qB]; rfl
theorem A8{t:Nat}{k1 k2:Option (Nat×Bool)}:ik [some (t,true),k1,k2] t=0:=by simp [ik,posO,Nat.beq_refl]
theorem H8{a b:Nat}(h:a≠b):Nat.beq a b=false:=by
 cases e:Nat.beq a b with
 | false=>rfl
 | true=>exact absurd (Nat.eq_of_beq_eq_true e) h
theorem NL{t b:Nat}{k2:Option (Nat×Bool)}(h:t≠b):ik [some (t,true),some (b,true),k2] b=1:=by simp [ik,posO,H8 h,Nat.beq_refl]
theorem NM{t b:Nat}{k1:Option (Nat×Bool)}(h:t≠b)(h1:∀ c w,k1=some (c,w)→c≠b):ik [some (t,true),k1,some (b,true)] b=2:=by
 cases k1 with
 | none=>simp [ik,posO,H8 h,Nat.beq_refl]
 | some cw =>
   obtain ⟨c,w⟩:=cw;simp [ik,posO,H8 h,H8 (h1 c w rfl),Nat.beq_refl]
theorem M4{t:Nat}{k1 k2:Option (Nat×Bool)}(h1:∀ c w,k1=some (c,w)→t≠c)(h2:∀ c w,k2=some (c,w)→t≠c)(h3:∀ c w c' w',k1=some (c,w)→k2=some (c',w')→c≠c'):dX [some (t,true),k1,k2]:=fun i j b wr wr' hi hj=>by
 match i,j with
 | 0,0=>rfl
 | 0,1=>simp at hi hj; exact absurd hi.1 (h1 b wr' hj)
 | 0,2=>simp at hi hj; exact absurd hi.1 (h2 b wr' hj)
 | 1,0=>simp at hi hj; exact absurd hj.1 (h1 b wr hi)
 | 1,1=>rfl
 | 1,2=>simp at hi hj; exact absurd rfl (h3 b wr b wr' hi hj)
 | 2,0=>simp at hi hj; exact absurd hj.1 (h2 b wr hi)
 | 2,1=>simp at hi hj; exact absurd rfl (h3 b wr' b wr hj hi)
 | 2,2=>rfl
 | i+3,_=>simp at hi
 | _,j+3=>simp at hj
theorem iq{TT:TypeId}{M:Nat}{A:uM}{f:FuncId}{fn:Func}{code:Code}{N:Nat}(hf:Tryz.prog.funcs[f]? = some fn)(hb:fn.body=some code)(hnm:(fn.name == "runtime.NumGoroutine")=false)(hN:fn.ntmps=N)
  (H:∀ R f vs c aN e,R.own.id=0→vs.length<1000000→gf aN→∀ rest T,A R f vs c aN e rest=some T→An TT M fn code N R f vs c aN e rest T):aq Tryz.prog f (toldV TT M A):=ku follows hf hb hnm fun args hp v hp' h hk=>by
 rw [hN];unfold toldV at h;split at h
 case h_2=>cases h
 rename_i t rest;split at h
 case h_2=>cases h
 rename_i ty cs hg;split at h
 case h_2=>cases h
 rename_i R s aN o e hu;obtain ⟨rfl,h0,hm⟩:=xf hu;split at h
 case isFalse=>cases h
 rename_i hx;obtain ⟨rfl,h78,h50,hM,hO,hx⟩:=hx;obtain ⟨hV,hn⟩:=hx.choose_spec;generalize hx.choose=vs at *;obtain ⟨T,hA,h2⟩:=Option.map_eq_some_iff.1 h;cases h2;have RR:=H R _ vs _ aN e h0 hn hm _ T hA
 have hlt:t<hp.sz:=cV hk hg
 generalize XR:lenOf o=n at *;generalize hL1:cellsAt o hp=L at *

 have hrt:uK (.pointer (some ⟨t,0,none⟩)::rest) hp t:=.arg (.head _) (by simp [kv,jY])
 have hsR:∀ {b n c:Nat} {x:Value},x=ae b n c→x∈cv R s aN o e→uK (.pointer (some ⟨t,0,none⟩)::rest) hp b:=fun {b n c x} hx hmem =>
  .GJ hrt hg (List.mem_flatMap.2 ⟨x,hmem,by subst hx; simp [kv,jY,ae]⟩)
 have hfL:eN o=false→n=0∧L = []:=fun h=>by
  rcases hO with ⟨-,h1,h2⟩ | ⟨b,rfl,-⟩
  ·exact ⟨h1,h2⟩
  ·cases h
 have hLi:L.all inert=true:=by
  rcases hO with ⟨-,-,rfl⟩ | ⟨b,-,-,h,-⟩
  ·rfl
  ·exact h
 have hLl:L.length=n*13:=by
  rcases hO with ⟨-,rfl,rfl⟩ | ⟨b,-,-,-,h,-⟩
  ·rfl
  ·exact h
 have hLn:n<M:=by
  rcases hO with ⟨-,rfl,rfl⟩ | ⟨b,-,-,-,-,h⟩
  ·exact hM
  ·exact h
 have hfV:eN s=false→vs = []∧qc s=0:=fun h=>by
  rcases hV with ⟨rfl,h1⟩ | ⟨b,c,rfl,-⟩
  ·exact ⟨h1,rfl⟩
  ·cases h
 have hV1:∀ {b:Nat} {w:Bool},kQ s=some (b,w)→w=true∧s=ae b vs.length (qc s)∧hp.get b=some (LtA.ab vs):=fun {b w} h=>by
  rcases hV with ⟨rfl,-⟩ | ⟨b',c,rfl,hb⟩
  ·cases h
  ·cases h; exact ⟨rfl,rfl,hb⟩
 have hO1:∀ {b:Nat} {w:Bool},kQ o=some (b,w)→w=true∧o=ae b n 40∧hp.get b=some (aJ L):=fun {b w} h=>by
  rcases hO with ⟨rfl,-⟩ | ⟨b',rfl,hb,-⟩
  ·cases h
  ·cases h; exact ⟨rfl,rfl,hb⟩
 have d1:∀ c w,kQ s=some (c,w)→t≠c:=fun c w h e=>by
  obtain ⟨-,-,h3⟩:=hV1 h;subst e;rw [hg] at h3;simp [LtA.ab] at h3;exact h78 h3.1
 have d2:∀ c w,kQ o=some (c,w)→t≠c:=fun c w h e=>by
  obtain ⟨-,-,h3⟩:=hO1 h;subst e;rw [hg] at h3;simp [aJ] at h3;exact h50 h3.1
 have d3:∀ c w c' w',kQ s=some (c,w)→kQ o=some (c',w')→c≠c':=fun c w c' w' h h' e=>by
  obtain ⟨-,-,h3⟩:=hV1 h;obtain ⟨-,-,h4⟩:=hO1 h';subst e;rw [h3] at h4;simp [LtA.ab,aJ] at h4
 have hsn:nice1 s=true:=by rcases hV with ⟨rfl,-⟩ | ⟨b,c,rfl,-⟩ <;> rfl
 have hon:nice1 o=true:=by rcases hO with ⟨rfl,-⟩ | ⟨b,rfl,-⟩ <;> rfl
 have es:mv1 (ik [some (t,true),kQ s,kQ o]) s=vS (eN s) 1 vs.length (qc s):=by
  rcases hV with ⟨rfl,h1⟩ | ⟨b,c,rfl,hb⟩
  ·rfl
  ·have:ik [some (t,true),kQ (ae b vs.length c),kQ o] b=1:=NL (d1 b true rfl)
   show Value.slice (some ⟨ik _ b,0,none⟩) vs.length c=_
   rw [this]; rfl
 have eo:mv1 (ik [some (t,true),kQ s,kQ o]) o=vS (eN o) 2 n 40:=by
  rcases hO with ⟨rfl,h1,-⟩ | ⟨b,rfl,hb,-⟩
  ·rfl
  ·have:ik [some (t,true),kQ s,kQ (ae b n 40)] b=2:=NM (d2 b true rfl) fun c w h=>d3 c w b true h rfl
   show Value.slice (some ⟨ik _ b,0,none⟩) n 40=_
   rw [this]; rfl
 have p1:pinB [some (t,true),kQ s,kQ o] hp (kQ s)=bv (eN s) (LtA.ab vs):=by
  rcases hV with ⟨rfl,h1⟩ | ⟨b,c,rfl,hb⟩
  ·rfl
  ·show eQ (mvB _ ((hp.get b).getD .dead)) true=_
   rw [hb,Option.getD_some,bV (o:=LtA.ab vs) (LtA.aw vs)]; rfl
 have p2:pinB [some (t,true),kQ s,kQ o] hp (kQ o)=bv (eN o) (aJ L):=by
  rcases hO with ⟨rfl,h1,-⟩ | ⟨b,rfl,hb,-⟩
  ·rfl
  ·show eQ (mvB _ ((hp.get b).getD .dead)) true=_
   rw [hb,Option.getD_some,bV (aZ hLi)]; rfl
 have ep:dZ [some (t,true),kQ s,kQ o] hp=heapOf [.cells ty (cv R (vS (eN s) 1 vs.length (qc s)) aN (vS (eN o) 2 n 40) e) false,bv (eN s) (LtA.ab vs),bv (eN o) (aJ L),.dead] aE:=by
  unfold dZ;have hz:pinB [some (t,true),kQ s,kQ o] hp (some (t,true)) = .cells ty (cv R (vS (eN s) 1 vs.length (qc s)) aN (vS (eN o) 2 n 40) e) false:=by
    rw [← es,← eo,← uG hm hsn hon];simp [pinB,hg,eQ,mvB]
  simp only [List.map_cons,List.map_nil,hz,p1,p2];rfl
 have ea:(Value.pointer (some ⟨t,0,none⟩)::rest).map (mv3 (ik [some (t,true),kQ s,kQ o]))=pb 0 0::rest:=by
  rw [List.map_cons,na RR.flat];simp [mv3,mv2,mv1,pb,A8]
 refine ⟨[some (t,true),kQ s,kQ o],[.cells ty (gO T aN (eN o) n hp.sz (hp.sz+1)) false,.dead,.dead],[bv T.f (LtA.ab T.vs),bv (eN o||oF T.out) (aJ (L++T.out.flatMap oc))],rfl,M4 d1 d2 d3,fun i b wr hi=>?_,?_,by have:=RR.len; simpa using this,fun W X=>?_⟩
 ·match i with
  | 0 =>
    simp at hi;obtain ⟨rfl,rfl⟩:=hi;refine ⟨⟨_,hg,(fun _ h=>by cases h),?_⟩,hrt⟩
    show ((cv R s aN o e).all ok2&&(false || !keysBox (cv R s aN o e)))=true
    rw [uH hm hsn hon,w8]; rfl
  | 1 =>
    obtain ⟨rfl,e1,hb⟩:=hV1 (by simpa using hi)
    exact ⟨⟨_,hb,(fun _ h=>by cases h),aS (LtA.aw vs)⟩,hsR e1 jQ.1⟩
  | 2 =>
    obtain ⟨rfl,e1,hb⟩:=hO1 (by simpa using hi)
    exact ⟨⟨_,hb,(fun _ h=>by cases h),aS (aZ hLi)⟩,hsR e1 jQ.2⟩
  | i+3=>simp at hi
 ·rw [List.all_cons,Bool.and_eq_true]
  exact ⟨rfl,List.all_eq_true.2 fun x hx=>(RR.flat x hx).1⟩
 ·rw [ea,ep]
  refine bm.mono (RR.run (eN o) n L W X hLi hLl hLn hfV hfL) fun e' st q=>?_
  refine Ai.fin (K0:=[some (t,true),kQ s,kQ o]) (B:=hp.sz) (O:=[.cells ty (gO T aN (eN o) n hp.sz (hp.sz+1)) false,.dead,.dead]) (Nw:=[bv T.f (LtA.ab T.vs),bv (eN o||oF T.out) (aJ (L++T.out.flatMap oc))]) (v:=.tuple #[]) (g:=hp.get) (fn:=fn) (P:=Tryz.prog) (e:=e') (st:=st) ?_
  obtain ⟨q1,q2,v1,z,O,K,Nw,q3,q4,q5,x1,x2,i1,i2,q6⟩:=q;refine ⟨q1,q2,_,z,_,_,_,q3,q4,q5,?_⟩
  refine uR.end (K0:=[some (t,true),kQ s,kQ o]) q6 (fun b hb=>?_) (fun _ _=>rfl) (fun b1 b2=>?_) (fun _ _=>rfl) (fun _ _ _ _ _ _=>by simp [mv3]) (fun g b1 b2 h1 h2 hK i b hi'=>?_) (fun s=>bV (LtA.aw _)) (bU (vs:=vs) (LtA.aw _)) rfl (fun s=>bV (aZ (jB hLi _))) (bU (vs:=vs) (aZ (jB hLi _))) rfl fun b1 b2 i b hi' hdd=>?_
  ·match b,hb with
   | 1,hb =>
     rcases hV with ⟨rfl,-⟩ | ⟨b,c,rfl,-⟩
     ·cases hb
     ·exact ⟨b,rfl,rfl⟩
   | 2,hb =>
     rcases hO with ⟨rfl,-⟩ | ⟨b,rfl,-⟩
     ·cases hb
     ·exact ⟨b,rfl,rfl⟩
  ·simp only [List.all_cons,List.all_nil,Bool.and_true,bU (vs:=vs) i1,bU (vs:=vs) i2]
   exact uH hm (ru _ _ _ _) (ru _ _ _ _)
  ·match i with
   | 0 =>
     left
     simp only [List.getElem?_cons_zero,Option.map_some,mvB,gO]
     rw [uG hm (ru _ _ _ _) (ru _ _ _ _),qz,qz,yP (b':=hp.sz) h1,yP (b:=g b2) (b':=hp.sz+1) h2]
   | 1=>exact .inr rfl
   | 2=>exact .inr rfl
   | i+3=>simp at hi'
  ·match i with
   | 0=>simp at hi'
   | 1=>have:=(hV1 (by simpa using hi')).1; cases this
   | 2=>have:=(hO1 (by simpa using hi')).1; cases this
   | i+3=>simp at hi'
def bI(f:Bool)(b:Nat):List eF:=bif f then [.put b .dead] else []
theorem kJ{TT:TypeId}{M:Nat}{A:uM}{R:ax}{f fo:Bool}{vs:List aa}{aN rest L:List Value}{e:Int}{t b c bo n:Nat}{hp:Hp}{T:TS}(h0:R.own.id=0)(hm:gf aN)(hTT:TT≠78∧TT≠50)(hg:hp.get t=some (.cells TT (cv R (vS f b vs.length c) aN (vS fo bo n 40) e) false))
  (hV:hp.get b=some (bv f (LtA.ab vs))) (hf:f=false→vs = []∧c=0) (hO:hp.get bo=some (bv fo (aJ L))) (hfo:fo=false→n=0∧L = []) (hLi:L.all inert=true) (hLl:L.length=n*13) (hLn:n<M) (hn:vs.length<1000000) (hA:A R f vs c aN e rest=some T) :
  HE (toldV TT M A (pb t 0::rest)) hp (.tuple #[]) ([.put t (.cells TT (gO T aN fo n hp.sz (hp.sz+1)) false)]++bI f b++bI fo bo ++ [.push (bv T.f (LtA.ab T.vs)),.push (bv (fo||oF T.out) (aJ (L++T.out.flatMap oc))),.push .dead]):=by
 have hOs:BY M n L (vS fo bo n 40) hp:=by
  cases fo with
  | false=>obtain ⟨rfl,rfl⟩:=hfo rfl; exact .inl ⟨rfl,rfl,rfl⟩
  | true=>exact .inr ⟨bo,rfl,hO,hLi,hLl,hLn⟩
 have hVs:B8 vs (vS f b vs.length c) hp:=by
  cases f with
  | false=>exact .inl ⟨rfl,(hf rfl).1⟩
  | true=>exact .inr ⟨b,c,rfl,hV⟩
 obtain ⟨e1,e2⟩:=hOs.eqs;have hc:qc (vS f b vs.length c)=c:=by
  cases f with
  | false=>rw [(hf rfl).2]; rfl
  | true=>rfl
 unfold HE toldV pb;have hx:TT=TT∧TT≠78∧TT≠50∧0<M∧BY M (lenOf (vS fo bo n 40)) (cellsAt (vS fo bo n 40) hp) (vS fo bo n 40) hp∧∃ us,B8 us (vS f b vs.length c) hp∧us.length<1000000:=⟨rfl,hTT.1,hTT.2,Nat.lt_of_le_of_lt (Nat.zero_le _) hLn,by rw [← e1,← e2]; exact hOs,vs,hVs,hn⟩
 simp only [hg,FQ h0 hm];rw [dif_pos hx,hx.2.2.2.2.2.choose_spec.1.tn.uniq hVs.tn,nf,nf,hc,← e1,← e2,hA];cases f <;> cases fo <;> rfl
theorem QV.of{TT:TypeId}{T T':TS}{aN:List Value}{f fo f2:Bool}{n n2:Nat}{L L2:List Value}{v:Value}{O:List af}{K:List Nat}{Nw:List af}(hL:L2=L++T'.out.flatMap oc)(hn:n2=n+T'.out.length)(hf:f2=(fo||oF T'.out))
  (q:∃ x1 x2,aA x1=true∧aA x2=true∧uR (fun c=>match c with | 1=>f | 2=>fo | _=>false) 3 (fun b1 b2=>[.cells TT (cv T'.R (vS T'.f b1 T'.vs.length T'.c) aN (vS f2 b2 n2 40) T'.e) false,x1,x2]) (fun _ _=>.tuple #[]) T'.f f2 (LtA.ab T'.vs) (aJ L2) v O K Nw) (h:T'=T):QV TT T aN f fo n L v O K Nw:=by
 subst h hL hn hf;exact q
theorem ue(x:aY):(oc x).all inert=true:=rfl
theorem H'(x:aY):(oc x).length=13:=rfl
theorem o4:Tryz.prog.underlying 34=some (.slice 50):=by kernel_rfl
theorem Jr:∃ i,Tryz.prog.info? 50=some i∧i.size=13∧i.bytes≤32768:=by
 have h:(Tryz.prog.info? 50).map (fun i=>(i.size,decide (i.bytes≤32768)))=some (13,true):=by kernel_rfl
 obtain ⟨i,h1,h2⟩:=Option.map_eq_some_iff.1 h;simp only [Prod.mk.injEq,decide_eq_true_eq] at h2;exact ⟨i,h1,h2.1,h2.2⟩
theorem JL:∃ z,tzero Tryz.prog 50=some z∧z.length=13:=by
 have h:(tzero Tryz.prog 50).map (fun z=>z.length)=some 13:=by kernel_rfl
 obtain ⟨z,h1,h2⟩:=Option.map_eq_some_iff.1 h;exact ⟨z,h1,h2⟩
theorem p5{get:Nat→Option af}{sz b b2 n:Nat}{L:List Value}{x:aY}(hl:n<2000010)(hL:L.length=n*13)(hb:get b=some (aJ L))(hb2:get b2=some (.cells 50 (oc x) false)) :
  aAppend Tryz.prog get sz [34,34] [.slice (some ⟨b,0,none⟩) n 40,.slice (some ⟨b2,0,none⟩) 1 40]=some (.slice (some ⟨sz,0,none⟩) (n+1) 40,[.put b .dead,.push (aJ (L++oc x))]):=by
 obtain ⟨i,hi,h1,h8⟩:=Jr;obtain ⟨z,hz,hzl⟩:=JL;have hsrc:aSrc Tryz.prog get 13 z (.slice 50) (.slice (some ⟨b2,0,none⟩) 1 40)=some (oc x,1):=by
  unfold aSrc;simp only [srcLen,srcCells,hb2];rw [if_neg (by omega),if_neg (by omega),cx (n:=1*13) rfl]
  rfl
 unfold aAppend;simp only [o4,hi,hz,h1,hzl];rw [if_neg (by simp; omega)]
 simp only [hsrc];rw [if_neg (by simp [isOne,oc])]
 try simp only
 rw [if_neg (by omega),if_neg (by omega)]
 have hb':get b=some (.cells 50 L false):=hb
 simp only [hb'];rw [cx (n:=n*13) hL];try simp only
 rw [if_neg (by decide),if_pos ⟨trivial,trivial,trivial⟩,if_neg (by rw [hL]; omega)]
 rfl
theorem ke{get:Nat→Option af}{sz b b2 n:Nat}{L:List Value}{x:aY}{f:Bool}(hf:f=false→n=0∧L = [])(hl:n<2000010)(hL:L.length=n*13)(hb:get b=some (bv f (aJ L)))(hb2:get b2=some (.cells 50 (oc x) false)) :
  aAppend Tryz.prog get sz [34,34] [vS f b n 40,.slice (some ⟨b2,0,none⟩) 1 40]=some (.slice (some ⟨sz,0,none⟩) (n+1) 40,gl f b (aJ (L++oc x))):=by
 cases f with
 | true=>exact p5 hl hL hb hb2
 | false =>
   obtain ⟨rfl,rfl⟩:=hf rfl;obtain ⟨i,hi,h1,h8⟩:=Jr;obtain ⟨z,hz,hzl⟩:=JL;have hsrc:aSrc Tryz.prog get 13 z (.slice 50) (.slice (some ⟨b2,0,none⟩) 1 40)=some (oc x,1):=by
     unfold aSrc;simp only [srcLen,srcCells,hb2];rw [if_neg (by omega),if_neg (by omega),cx (n:=1*13) rfl]
     rfl
   show aAppend Tryz.prog get sz [34,34] [au,.slice (some ⟨b2,0,none⟩) 1 40]=some (.slice (some ⟨sz,0,none⟩) 1 40,[.push (aJ (oc x))])
   unfold aAppend;simp only [o4,hi,hz,h1,hzl];rw [if_neg (by simp; omega)]
   simp only [hsrc];rw [if_neg (by simp [isOne,oc])]
   simp only [au];rw [if_neg (by omega),if_neg (by omega)]
   rfl
theorem nQ{own:aa}{vs:List aa}{now:Int}{lost:Bool}(h:((bQ own vs now lost).2.1==Int.ofNat 4)=true):bN (aX vs)≠[]:=by
 intro h0;unfold bQ lL caseW at h;rw [h0] at h;simp only [List.getLast?_nil] at h
 revert h
 cases dQ own.n own.t own.o own.r own.d own.i <;> cases aF vs <;> cases decide (now<Int.ofNat 0) <;> cases decide (now>Int.ofNat 4611686018427387903) <;> cases own.n <;> cases (!(gT 1 own vs).isEmpty) <;> simp
theorem DI{ls:List aU}(h:ls≠[]):ls[0]? = some (ls.headD zL):=by
 cases ls with
 | nil=>exact absurd rfl h
 | cons=>rfl
theorem Kk{vs:List aa}{s:Value}{hp:Hp}(h:TN vs s hp)(hn:vs.length<1000000)(hne:bN (aX vs)≠[]):yV [s] hp=some (.slice (some ⟨hp.sz,0,none⟩) (bN (aX vs)).length 11,heapOf [ownL (bN (aX vs)),.dead] hp):=by
 rw [BT h hn];generalize bN (aX vs)=ls at *;cases ls with
 | nil=>exact absurd rfl hne
 | cons=>rfl
theorem wz{f:Bool}{b n c bo no co:Nat}{p:af}{hp:Hp}(hne:Nat.beq b bo=false)(hg:hp.get bo=some p)(hi:aA p=true):lJ (vS f b n c) (ae bo no co) hp :=
 .inr ⟨bo,no,co,p,rfl,hg,hi,fun b' n' c' h e=>by
  cases f with
  | false=>cases h
  | true =>
    simp [vS,ae] at h;rw [h.1,e,Nat.beq_refl] at hne;cases hne⟩
theorem Ev{f fo:Bool}{b n c bo no co:Nat}{p:af}{hp:Hp}(hne:Nat.beq b bo=false)(hg:hp.get bo=some (bv fo p))(hi:aA p=true):lJ (vS f b n c) (vS fo bo no co) hp:=by
 cases fo with
 | false=>exact .inl rfl
 | true=>exact wz hne hg hi
section
variable {R:ax} {f:Bool} {vs:List aa} {out:Value} {now e:Int} {t b c:Nat} {hp:Hp} {l:aU}
theorem yU(hf:f=false→vs = [])(hn:vs.length<1000000)(h0:R.own.id=0)(hg:hp.get t=some (.cells 95 (cv R (vS f b vs.length c) [.int .i64 now] out e) false))(hO:lJ (vS f b vs.length c) out hp)(hb:hp.get b=some (bv f (LtA.ab vs))) :
  HE (Gr [pb t 0,lA l]) hp (vS (!(bY l R.dest vs).isEmpty) (hp.sz+1) (bY l R.dest vs).length 4) [.put t (.cells 95 (cv R (vS f hp.sz (vs.map (lG l.1 l.2.1 l.2.2 R.dest)).length (c2 f)) [.int .i64 now] out e) false),.push (bv f (LtA.ab (vs.map (lG l.1 l.2.1 l.2.2 R.dest)))),.push (bv (!(bY l R.dest vs).isEmpty) (iB (bY l R.dest vs))),.push .dead] :=
 Kj (fo:=true) l h0 hg hO nf (o0 hb hf) hn
end
theorem MO{b c n:Nat}(h:0<n):fstV ((aIndexAddr Tryz.prog 172 (.slice (some ⟨b,0,none⟩) n c) (iN 0)).map fun v=>(v,none))=some (pb b (0*3)):=Eb h
namespace TS
theorem E8(R:ax)(vs:List aa)(f:Bool)(c:Nat)(us:List aY)(e:Int):(⟨R,vs,f,c,us,e⟩:TS).ga=⟨((⟨R,vs,f,c,[],e⟩:TS).ga).R,((⟨R,vs,f,c,[],e⟩:TS).ga).vs,((⟨R,vs,f,c,[],e⟩:TS).ga).f,((⟨R,vs,f,c,[],e⟩:TS).ga).c,us++((⟨R,vs,f,c,[],e⟩:TS).ga).out,((⟨R,vs,f,c,[],e⟩:TS).ga).e⟩:=by
 simp only [ga,sJ,own,ask,tell,send,err];cases ((bJ R.me vs).2==Int.ofNat 0) <;> cases ((bJ R.me vs).2==Int.ofNat 7) <;> cases R.asked <;> simp
theorem fR(R:ax)(vs:List aa)(f:Bool)(c:Nat)(us:List aY)(e:Int):(⟨R,vs,f,c,us,e⟩:TS).dH=⟨((⟨R,vs,f,c,[],e⟩:TS).dH).R,((⟨R,vs,f,c,[],e⟩:TS).dH).vs,((⟨R,vs,f,c,[],e⟩:TS).dH).f,((⟨R,vs,f,c,[],e⟩:TS).dH).c,us++((⟨R,vs,f,c,[],e⟩:TS).dH).out,((⟨R,vs,f,c,[],e⟩:TS).dH).e⟩:=by
 unfold dH home;simp only;cases (R.own.n&&(R.want&&(!R.asked && !R.me==R.dest)))
 ·simp
 ·simp only [cond_true]
  rw [E8]
end TS
noncomputable def W9:Ext:=fh (cS Tryz.prog []) [(159,OG)]
theorem J6:ExtOk Tryz.prog W9:=bC (aT .nil) (.cons Uc .nil)
noncomputable def Hr:Code:=(Tryz.f129.body).getD .skip
theorem K9:Tryz.f129.body=some Hr:=by kernel_rfl
theorem UN:Tryz.f129.ntmps=51:=by kernel_rfl
theorem Yj:codeSafe Tryz.prog 51 Hr=true:=by kernel_rfl
theorem Tx(f fo:Bool)(vs:List aa)(c n:Nat)(L:List Value)(R:ax)(now e:Int)(a0:aa×Int)(Q:Value→List af→List Nat→List af→Prop):let v0:Value:=.slice (some ⟨8,0,none⟩) (n+1) 40;let b1:af:=.cells 95 (cv R (vS f 1 vs.length c) [Iv now] (vS fo 2 n 40) e) false;let b2:af:=.cells 23 [.bool a0.1.n,Iv a0.1.t,Iv a0.1.o,Iv a0.1.r,Iv a0.1.d,Iv a0.1.i] false;let h3:Hp:=heapOf [b1,(bv f (LtA.ab vs)),(bv fo (aJ L)),.dead] aE;(HT (OG [vS f 1 vs.length c,Iv R.me]) (h3) (.tuple #[cP a0.1,Iv a0.2]) [.dead]∧(((a0.2==(Int.ofNat 0))=true→aAppend Tryz.prog (heapOf [.cells 95 (cv (⟨R.me,R.dest,a0.1,false,R.want,R.heard,R.last⟩) (vS f 1 vs.length c) [Iv now] (vS fo 2 n 40) e) false,(bv f (LtA.ab vs)),(bv fo (aJ L)),.dead,.dead,b2,.cells 30 (oP ⟨0,(Int.ofNat 2),R.dest,a0.1,zL,(Int.ofNat 0)⟩) false,.cells 50 (oc ⟨(Int.ofNat 255),(Int.ofNat 2),R.dest,a0.1,zL,(Int.ofNat 0)⟩) false] aE).get 8 [34,34] [vS fo 2 n 40,.slice (some ⟨7,0,none⟩) 1 40]=some (v0,(gl fo 2 (aJ (L++oc ⟨(Int.ofNat 255),(Int.ofNat 2),R.dest,a0.1,zL,(Int.ofNat 0)⟩))))∧(Q (.tuple #[]) [.cells 95 (cv (⟨R.me,R.dest,a0.1,false,R.want,R.heard,R.last⟩) (vS f 1 vs.length c) [Iv now] (v0) e) false,(bv f (LtA.ab vs)),.dead] [1,8] [(bv f (LtA.ab vs)),(aJ (L++oc ⟨(Int.ofNat 255),(Int.ofNat 2),R.dest,a0.1,zL,(Int.ofNat 0)⟩))]))∧((a0.2==(Int.ofNat 0))=false→((a0.2==(Int.ofNat 7))=true→((!R.asked)=true→aAppend Tryz.prog (heapOf [.cells 95 (cv (⟨R.me,R.dest,R.own,true,R.want,R.heard,R.last⟩) (vS f 1 vs.length c) [Iv now] (vS fo 2 n 40) e) false,(bv f (LtA.ab vs)),(bv fo (aJ L)),.dead,.dead,b2,.cells 30 (oP ⟨0,(Int.ofNat 1),R.dest,zH,zL,(Int.ofNat 0)⟩) false,.cells 50 (oc ⟨(Int.ofNat 255),(Int.ofNat 1),R.dest,zH,zL,(Int.ofNat 0)⟩) false] aE).get 8 [34,34] [vS fo 2 n 40,.slice (some ⟨7,0,none⟩) 1 40]=some (v0,(gl fo 2 (aJ (L++oc ⟨(Int.ofNat 255),(Int.ofNat 1),R.dest,zH,zL,(Int.ofNat 0)⟩))))∧(Q (.tuple #[]) [.cells 95 (cv (⟨R.me,R.dest,R.own,true,R.want,R.heard,R.last⟩) (vS f 1 vs.length c) [Iv now] (v0) e) false,(bv f (LtA.ab vs)),.dead] [1,8] [(bv f (LtA.ab vs)),(aJ (L++oc ⟨(Int.ofNat 255),(Int.ofNat 1),R.dest,zH,zL,(Int.ofNat 0)⟩))]))∧((!R.asked)=false→Q (.tuple #[]) [b1,(bv f (LtA.ab vs)),(bv fo (aJ L))] [1,2] [(bv f (LtA.ab vs)),(bv fo (aJ L))]))∧((a0.2==(Int.ofNat 7))=false→Q (.tuple #[]) [.cells 95 (cv R (vS f 1 vs.length c) [Iv now] (vS fo 2 n 40) a0.2) false,(bv f (LtA.ab vs)),(bv fo (aJ L))] [1,2] [(bv f (LtA.ab vs)),(bv fo (aJ L))]))))=RF Tryz.prog W9 Tryz.f129 60 Hr ⟨tmsOf [pb 0 0] 0 .leaf,h3,[]⟩ (.h 10 (.tuple #[cP a0.1,Iv a0.2]) [.dead] (.b 18 (.e 59 (v0) (gl fo 2 (aJ (L++oc ⟨(Int.ofNat 255),(Int.ofNat 2),R.dest,a0.1,zL,(Int.ofNat 0)⟩))) (.stop 3 [1,8] [])) (.b 20 (.b 27 (.e 53 (v0) (gl fo 2 (aJ (L++oc ⟨(Int.ofNat 255),(Int.ofNat 1),R.dest,zH,zL,(Int.ofNat 0)⟩))) (.stop 3 [1,8] [])) (.stop 3 [1,2] [])) (.stop 3 [1,2] [])))) Q:=by cases f <;> cases fo <;> (intros;kernel_rfl)
def seekA:uM:=fun R f vs c aN e rest=>match aN,rest with
 | [.int .i64 _],[]=>some (⟨R,vs,f,c,[],e⟩:TS).ga
 | _,_=>none
theorem RE(R:ax)(f:Bool)(vs:List aa)(c:Nat)(aN:List Value)(e:Int)(h0:R.own.id=0)(hn:vs.length<1000000)(hm:gf aN):∀ rest T,seekA R f vs c aN e rest=some T→An 95 2000000 Tryz.f129 Hr 51 R f vs c aN e rest T:=fun rest T h=>by
 unfold seekA at h;split at h
 case h_2=>cases h
 rename_i now;cases h;refine ⟨(by intro x hx; simp at hx),by simp,fun fo n L W X hLi hLl hLn hf0 hfo=>?_⟩
 have had0:∀ {hp:Hp},hp.get 1=some (bv f (LtA.ab vs))→OG [vS f 1 vs.length c,.int .i64 R.me] hp=some (wD (bJ R.me vs),heapOf [.dead] hp):=fun hg=>Kh R.me (o0 hg fun h=>(hf0 h).1) hn
 refine bm.bW J6 follows Yj (Tx f fo vs c n L R now e (bJ R.me vs) _) ?_
 unfold TS.ga;simp only;generalize bJ R.me vs=a0 at *;refine ⟨had0 (bk rfl),fun h_18=>⟨ke hfo (by omega) hLl (bk rfl) (bk rfl),QV.of (T':=(⟨⟨R.me,R.dest,a0.1,false,R.want,R.heard,R.last⟩,vs,f,c,[⟨(Int.ofNat 255),(Int.ofNat 2),R.dest,a0.1,zL,(Int.ofNat 0)⟩],e⟩:TS)) (f2:=true) (n2:=(n+1)) (L2:=(L++oc ⟨(Int.ofNat 255),(Int.ofNat 2),R.dest,a0.1,zL,(Int.ofNat 0)⟩)) (by simp) (by simp <;> omega) (by simp [oF]) ⟨_,_,(aB (LtA.aw _)),rfl,rfl,1,8,rfl,rfl,fun _ _=>by decide,fun h=>⟨h,0,rfl,rfl⟩,fun h=>⟨rfl,1,rfl,rfl⟩⟩ ?_⟩,fun h_18=>⟨fun h_20=>⟨fun h_27=>⟨ke hfo (by omega) hLl (bk rfl) (bk rfl),QV.of (T':=(⟨⟨R.me,R.dest,R.own,true,R.want,R.heard,R.last⟩,vs,f,c,[⟨(Int.ofNat 255),(Int.ofNat 1),R.dest,zH,zL,(Int.ofNat 0)⟩],e⟩:TS)) (f2:=true) (n2:=(n+1)) (L2:=(L++oc ⟨(Int.ofNat 255),(Int.ofNat 1),R.dest,zH,zL,(Int.ofNat 0)⟩)) (by simp) (by simp <;> omega) (by simp [oF]) ⟨_,_,(aB (LtA.aw _)),rfl,rfl,1,8,rfl,rfl,fun _ _=>by decide,fun h=>⟨h,0,rfl,rfl⟩,fun h=>⟨rfl,1,rfl,rfl⟩⟩ ?_⟩,fun h_27=>QV.of (T':=(⟨R,vs,f,c,[],e⟩:TS)) (f2:=fo) (n2:=n) (L2:=L) (by simp) (by simp <;> omega) (by simp [oF]) ⟨_,_,(aB (LtA.aw _)),(aB (aZ hLi)),rfl,1,2,rfl,rfl,fun _ _=>by decide,fun h=>⟨h,0,rfl,rfl⟩,fun h=>⟨h,1,rfl,rfl⟩⟩ ?_⟩,fun h_20=>QV.of (T':=(⟨R,vs,f,c,[],a0.2⟩:TS)) (f2:=fo) (n2:=n) (L2:=L) (by simp) (by simp <;> omega) (by simp [oF]) ⟨_,_,(aB (LtA.aw _)),(aB (aZ hLi)),rfl,1,2,rfl,rfl,fun _ _=>by decide,fun h=>⟨h,0,rfl,rfl⟩,fun h=>⟨h,1,rfl,rfl⟩⟩ ?_⟩⟩
 all_goals (simp only [TS.sJ,TS.tell,TS.send,TS.own,TS.ask,TS.err, *,cond_true,cond_false]; try rfl)
noncomputable def Gs:aC:=toldV 95 2000000 seekA
theorem HL:aq Tryz.prog 129 Gs:=iq Tryz.func129 K9 (by kernel_rfl) UN RE
theorem xw{R:ax}{f fo:Bool}{vs:List aa}{L:List Value}{now e:Int}{t b c bo n:Nat}{hp:Hp}{T:TS}(hT:(⟨R,vs,f,c,[],e⟩:TS).ga=T)(h0:R.own.id=0)(hg:hp.get t=some (.cells 95 (cv R (vS f b vs.length c) [.int .i64 now] (vS fo bo n 40) e) false))(hV:hp.get b=some (bv f (LtA.ab vs)))(hf:f=false→vs = []∧c=0)(hO:hp.get bo=some (bv fo (aJ L)))(hfo:fo=false→n=0∧L = [])
  (hLi:L.all inert=true) (hLl:L.length=n*13) (hLn:n<2000000) (hn:vs.length<1000000) :
  HE (Gs ([pb t 0])) hp (.tuple #[]) ([.put t (.cells 95 (gO T [.int .i64 now] fo n hp.sz (hp.sz+1)) false)]++bI f b++bI fo bo ++ [.push (bv T.f (LtA.ab T.vs)),.push (bv (fo||oF T.out) (aJ (L++T.out.flatMap oc))),.push .dead]):=by
 subst hT;exact kJ h0 (.inr ⟨now,rfl⟩) (by decide) hg hV hf hO hfo hLi hLl hLn hn rfl
noncomputable def W8:Ext:=fh (cS Tryz.prog []) [(129,Gs)]
theorem J4:ExtOk Tryz.prog W8:=bC (aT .nil) (.cons HL .nil)
noncomputable def Hq:Code:=(Tryz.f67.body).getD .skip
theorem K7:Tryz.f67.body=some Hq:=by kernel_rfl
theorem UL:Tryz.f67.ntmps=30:=by kernel_rfl
theorem Yi:codeSafe Tryz.prog 30 Hq=true:=by kernel_rfl
theorem Tq(f fo:Bool)(vs:List aa)(c n:Nat)(L:List Value)(R:ax)(now e:Int)(T1:TS)(Q:Value→List af→List Nat→List af→Prop):let b0:af:=.cells 95 (cv R (vS f 1 vs.length c) [Iv now] (vS fo 2 n 40) e) false;let b1:af:=.cells 95 (cv T1.R (vS T1.f 4 T1.vs.length T1.c) [Iv now] (vS (fo||oF T1.out) 5 (n+T1.out.length) 40) T1.e) false;let b2:af:=bv (fo||oF T1.out) (aJ (L++T1.out.flatMap oc));let h3:Hp:=heapOf [b0,(bv f (LtA.ab vs)),(bv fo (aJ L)),.dead] aE;let b4:af:=bv T1.f (LtA.ab T1.vs);((R.own.n=true→(R.want=true→((!R.asked)=true→((!(R.me==R.dest))=true→HE (Gs [pb 0 0]) (h3) (.tuple #[]) ([.put 0 (b1)]++bI f 1++bI fo 2 ++ [.push (b4),.push (b2),.push .dead])∧(Q (.tuple #[]) [b1,.dead,.dead] [4,5] [(b4),(b2)]))∧((!(R.me==R.dest))=false→Q (.tuple #[]) [b0,(bv f (LtA.ab vs)),(bv fo (aJ L))] [1,2] [(bv f (LtA.ab vs)),(bv fo (aJ L))]))∧((!R.asked)=false→Q (.tuple #[]) [b0,(bv f (LtA.ab vs)),(bv fo (aJ L))] [1,2] [(bv f (LtA.ab vs)),(bv fo (aJ L))]))∧(R.want=false→Q (.tuple #[]) [b0,(bv f (LtA.ab vs)),(bv fo (aJ L))] [1,2] [(bv f (LtA.ab vs)),(bv fo (aJ L))]))∧(R.own.n=false→Q (.tuple #[]) [b0,(bv f (LtA.ab vs)),(bv fo (aJ L))] [1,2] [(bv f (LtA.ab vs)),(bv fo (aJ L))]))=RF Tryz.prog W8 Tryz.f67 60 Hq ⟨tmsOf [pb 0 0] 0 .leaf,h3,[]⟩ (.b 5 (.b 11 (.b 19 (.b 37 (.e 40 (.tuple #[]) ([.put 0 (b1)]++bI f 1++bI fo 2 ++ [.push (b4),.push (b2),.push .dead]) (.stop 3 [4,5] [])) (.stop 3 [1,2] [])) (.stop 3 [1,2] [])) (.stop 3 [1,2] [])) (.stop 3 [1,2] [])) Q:=by cases f <;> cases fo <;> (intros;kernel_rfl)
def Ek:uM:=fun R f vs c aN e rest=>match aN,rest with
 | [.int .i64 _],[]=>some (⟨R,vs,f,c,[],e⟩:TS).dH
 | _,_=>none
theorem RD(R:ax)(f:Bool)(vs:List aa)(c:Nat)(aN:List Value)(e:Int)(h0:R.own.id=0)(hn:vs.length<1000000)(hm:gf aN):∀ rest T,Ek R f vs c aN e rest=some T→An 95 1999990 Tryz.f67 Hq 30 R f vs c aN e rest T:=fun rest T h=>by
 unfold Ek at h;split at h
 case h_2=>cases h
 rename_i now;cases h;refine ⟨(by intro x hx; simp at hx),by simp,fun fo n L W X hLi hLl hLn hf0 hfo=>?_⟩
 obtain ⟨T1,hT1⟩:∃ T,((⟨R,vs,f,c,[],e⟩:TS).ga)=T:=⟨_,rfl⟩;refine bm.bW J4 follows Yi (Tq f fo vs c n L R now e T1 _) ?_
 unfold TS.dH TS.home;refine ⟨fun h_5=>⟨fun h_11=>⟨fun h_19=>⟨fun h_37=>⟨xw hT1 h0 (bk rfl) (bk rfl) hf0 (bk rfl) hfo hLi hLl (by omega) hn,QV.of (T':=(⟨T1.R,T1.vs,T1.f,T1.c,T1.out,T1.e⟩:TS)) (f2:=(fo||oF T1.out)) (n2:=(n+T1.out.length)) (L2:=(L++T1.out.flatMap oc)) (by simp) (by simp <;> omega) (by simp [oF]) ⟨_,_,rfl,rfl,rfl,4,5,rfl,rfl,fun _ _=>by decide,fun h=>⟨rfl,0,rfl,rfl⟩,fun h=>⟨rfl,1,rfl,rfl⟩⟩ ?_⟩,fun h_37=>QV.of (T':=(⟨R,vs,f,c,[],e⟩:TS)) (f2:=fo) (n2:=n) (L2:=L) (by simp) (by simp <;> omega) (by simp [oF]) ⟨_,_,(aB (LtA.aw _)),(aB (aZ hLi)),rfl,1,2,rfl,rfl,fun _ _=>by decide,fun h=>⟨h,0,rfl,rfl⟩,fun h=>⟨h,1,rfl,rfl⟩⟩ ?_⟩,fun h_19=>QV.of (T':=(⟨R,vs,f,c,[],e⟩:TS)) (f2:=fo) (n2:=n) (L2:=L) (by simp) (by simp <;> omega) (by simp [oF]) ⟨_,_,(aB (LtA.aw _)),(aB (aZ hLi)),rfl,1,2,rfl,rfl,fun _ _=>by decide,fun h=>⟨h,0,rfl,rfl⟩,fun h=>⟨h,1,rfl,rfl⟩⟩ ?_⟩,fun h_11=>QV.of (T':=(⟨R,vs,f,c,[],e⟩:TS)) (f2:=fo) (n2:=n) (L2:=L) (by simp) (by simp <;> omega) (by simp [oF]) ⟨_,_,(aB (LtA.aw _)),(aB (aZ hLi)),rfl,1,2,rfl,rfl,fun _ _=>by decide,fun h=>⟨h,0,rfl,rfl⟩,fun h=>⟨h,1,rfl,rfl⟩⟩ ?_⟩,fun h_5=>QV.of (T':=(⟨R,vs,f,c,[],e⟩:TS)) (f2:=fo) (n2:=n) (L2:=L) (by simp) (by simp <;> omega) (by simp [oF]) ⟨_,_,(aB (LtA.aw _)),(aB (aZ hLi)),rfl,1,2,rfl,rfl,fun _ _=>by decide,fun h=>⟨h,0,rfl,rfl⟩,fun h=>⟨h,1,rfl,rfl⟩⟩ ?_⟩
 all_goals (simp only [*,cond_true,cond_false,Bool.not_true,Bool.not_false,Bool.and_true,Bool.and_false,Bool.true_and,Bool.false_and]; try first | rfl | (rw [← hT1]; rfl))
noncomputable def r6:aC:=toldV 95 1999990 Ek
theorem DM:aq Tryz.prog 67 r6:=iq Tryz.func67 K7 (by kernel_rfl) UL RD
theorem fz{R:ax}{f fo:Bool}{vs:List aa}{L:List Value}{now e:Int}{t b c bo n:Nat}{hp:Hp}{T:TS}(hT:(⟨R,vs,f,c,[],e⟩:TS).dH=T)(h0:R.own.id=0)(hg:hp.get t=some (.cells 95 (cv R (vS f b vs.length c) [.int .i64 now] (vS fo bo n 40) e) false))(hV:hp.get b=some (bv f (LtA.ab vs)))(hf:f=false→vs = []∧c=0)(hO:hp.get bo=some (bv fo (aJ L)))(hfo:fo=false→n=0∧L = [])
  (hLi:L.all inert=true) (hLl:L.length=n*13) (hLn:n<1999990) (hn:vs.length<1000000) :
  HE (r6 ([pb t 0])) hp (.tuple #[]) ([.put t (.cells 95 (gO T [.int .i64 now] fo n hp.sz (hp.sz+1)) false)]++bI f b++bI fo bo ++ [.push (bv T.f (LtA.ab T.vs)),.push (bv (fo||oF T.out) (aJ (L++T.out.flatMap oc))),.push .dead]):=by
 subst hT;exact kJ h0 (.inr ⟨now,rfl⟩) (by decide) hg hV hf hO hfo hLi hLl hLn hn rfl
noncomputable def W7:Ext:=fh (cS Tryz.prog []) [(167,uT),(168,yV),(143,Gr),(67,r6)]
theorem J3:ExtOk Tryz.prog W7:=bC (aT .nil) (.cons Mn (.cons PR (.cons PH (.cons DM .nil))))
noncomputable def Ho:Code:=(Tryz.f142.body).getD .skip
theorem K6:Tryz.f142.body=some Ho:=by kernel_rfl
theorem UK:Tryz.f142.ntmps=71:=by kernel_rfl
theorem Yh:codeSafe Tryz.prog 71 Ho=true:=by kernel_rfl
theorem To(f fo:Bool)(vs:List aa)(c n:Nat)(L:List Value)(R:ax)(now e:Int)(lost fg:Bool)(kg:Nat)(r:B7)(ls:List aU)(l1:aU)(u1:List aa)(jds:List Int)(T1:TS)(T2:TS)(Q:Value→List af→List Nat→List af→Prop):let b0:af:=.cells 23 [.bool r.1.n,Iv r.1.t,Iv r.1.o,Iv r.1.r,Iv r.1.d,Iv r.1.i] false;let b1:af:=.cells 50 (oc ⟨(Int.ofNat 255),(Int.ofNat 2),R.dest,r.1,zL,(Int.ofNat 0)⟩) false;let b3:af:=.cells 30 (oP ⟨0,(Int.ofNat 2),R.dest,r.1,zL,(Int.ofNat 0)⟩) false;let b4:af:=bv (true||oF T1.out) (aJ (((L++oc ⟨(Int.ofNat 255),(Int.ofNat 2),R.dest,r.1,zL,(Int.ofNat 0)⟩)++oc ⟨(Int.ofNat 255),(Int.ofNat 3),R.dest,zH,l1,(Int.ofNat 0)⟩)++T1.out.flatMap oc));let b6:af:=.cells 95 (cv R (vS f 1 vs.length c) [Iv now] (vS fo 2 n 40) e) false;let b7:af:=.cells 95 (cv T1.R (vS T1.f 19 T1.vs.length T1.c) [Iv now] (vS (true||oF T1.out) 20 (((n+1)+1)+T1.out.length) 40) T1.e) false;let b8:af:=.cells 28 [Iv l1.1,Iv l1.2.1,Iv l1.2.2] false;let b9:af:=.cells 95 (cv T2.R (vS T2.f 9 T2.vs.length T2.c) [Iv now] (vS (true||oF T2.out) 10 ((n+1)+T2.out.length) 40) T2.e) false;let b10:af:=bv (true||oF T2.out) (aJ ((L++oc ⟨(Int.ofNat 255),(Int.ofNat 2),R.dest,r.1,zL,(Int.ofNat 0)⟩)++T2.out.flatMap oc));let v12:Value:=.slice (some ⟨8,0,none⟩) (n+1) 40;let b2:af:=.cells 95 (cv (⟨R.me,R.dest,r.1,R.asked,R.want,R.heard,R.last⟩) (vS f 1 vs.length c) [Iv now] (v12) e) false;let b5:af:=.cells 95 (cv (⟨R.me,R.dest,r.1,R.asked,R.want,R.heard,R.last⟩) (vS f 12 u1.length (c2 f)) [Iv now] (v12) e) false;let h11:Hp:=heapOf [b2,(bv f (LtA.ab vs)),.dead,.dead,.dead,b0,b3,b1,(aJ (L++oc ⟨(Int.ofNat 255),(Int.ofNat 2),R.dest,r.1,zL,(Int.ofNat 0)⟩))] aE;let v13:Value:=.slice (some ⟨18,0,none⟩) ((n+1)+1) 40;let b14:af:=.cells 50 (oc ⟨(Int.ofNat 255),(Int.ofNat 3),R.dest,zH,l1,(Int.ofNat 0)⟩) false;let v15:Value:=.slice (some ⟨9,0,none⟩) ls.length 11;let b16:af:=.cells 30 (oP ⟨0,(Int.ofNat 3),R.dest,zH,l1,(Int.ofNat 0)⟩) false;let h17:Hp:=heapOf [b6,(bv f (LtA.ab vs)),(bv fo (aJ L)),.dead] aE;let v18:Value:=.tuple #[cP r.1,Iv r.2.1,Iv r.2.2];let b19:af:=bv T1.f (LtA.ab T1.vs);let b20:af:=bv T2.f (LtA.ab T2.vs);(((R.me==R.dest)=true→Q (.tuple #[]) [b6,(bv f (LtA.ab vs)),(bv fo (aJ L))] [1,2] [(bv f (LtA.ab vs)),(bv fo (aJ L))])∧((R.me==R.dest)=false→(R.own.n=true→Q (.tuple #[]) [b6,(bv f (LtA.ab vs)),(bv fo (aJ L))] [1,2] [(bv f (LtA.ab vs)),(bv fo (aJ L))])∧(R.own.n=false→HT (uT [.agg #[.bool R.own.n,Iv R.own.t,Iv R.own.o,Iv R.own.r,Iv R.own.d,Iv R.own.i],vS f 1 vs.length c,Iv now,.bool lost]) (h17) (v18) [.dead]∧(((r.2.2 != (Int.ofNat 0))=true→Q (.tuple #[]) [.cells 95 (cv R (vS f 1 vs.length c) [Iv now] (vS fo 2 n 40) r.2.2) false,(bv f (LtA.ab vs)),(bv fo (aJ L))] [1,2] [(bv f (LtA.ab vs)),(bv fo (aJ L))])∧((r.2.2 != (Int.ofNat 0))=false→((r.2.1==(Int.ofNat 0))=true→Q (.tuple #[]) [b6,(bv f (LtA.ab vs)),(bv fo (aJ L))] [1,2] [(bv f (LtA.ab vs)),(bv fo (aJ L))])∧((r.2.1==(Int.ofNat 0))=false→aAppend Tryz.prog (heapOf [.cells 95 (cv (⟨R.me,R.dest,r.1,R.asked,R.want,R.heard,R.last⟩) (vS f 1 vs.length c) [Iv now] (vS fo 2 n 40) e) false,(bv f (LtA.ab vs)),(bv fo (aJ L)),.dead,.dead,b0,b3,b1] aE).get 8 [34,34] [vS fo 2 n 40,.slice (some ⟨7,0,none⟩) 1 40]=some (v12,(gl fo 2 (aJ (L++oc ⟨(Int.ofNat 255),(Int.ofNat 2),R.dest,r.1,zL,(Int.ofNat 0)⟩))))∧(((r.2.1==(Int.ofNat 4))=true→HT (yV [vS f 1 vs.length c]) (h11) (v15) [(ownL ls),.dead]∧((fstV ((aIndexAddr Tryz.prog 172 (v15) (iN 0)).map fun v=>(v,none)):OV)=some (pb 9 (0*3))∧((aLoad Tryz.prog (heapOf [b2,(bv f (LtA.ab vs)),.dead,.dead,.dead,b0,b3,b1,(aJ (L++oc ⟨(Int.ofNat 255),(Int.ofNat 2),R.dest,r.1,zL,(Int.ofNat 0)⟩)),(ownL ls),.dead] aE).get 28 (pb 9 (0*3)):OV)=some (lA l1)∧(HE (Gr [pb 0 0,.agg #[Iv l1.1,Iv l1.2.1,Iv l1.2.2]]) (heapOf [b2,(bv f (LtA.ab vs)),.dead,.dead,.dead,b0,b3,b1,(aJ (L++oc ⟨(Int.ofNat 255),(Int.ofNat 2),R.dest,r.1,zL,(Int.ofNat 0)⟩)),(ownL ls),.dead,b8] aE) (vS fg 13 kg 4) [.put 0 (b5),.push ((bv f (LtA.ab u1))),.push ((bv fg (iB jds))),.push (.dead)]∧(aAppend Tryz.prog (heapOf [b5,(bv f (LtA.ab vs)),.dead,.dead,.dead,b0,b3,b1,(aJ (L++oc ⟨(Int.ofNat 255),(Int.ofNat 2),R.dest,r.1,zL,(Int.ofNat 0)⟩)),(ownL ls),.dead,b8,(bv f (LtA.ab u1)),(bv fg (iB jds)),.dead,b8,b16,b14] aE).get 18 [34,34] [v12,.slice (some ⟨17,0,none⟩) 1 40]=some (v13,[.put 8 .dead,.push (aJ ((L++oc ⟨(Int.ofNat 255),(Int.ofNat 2),R.dest,r.1,zL,(Int.ofNat 0)⟩)++oc ⟨(Int.ofNat 255),(Int.ofNat 3),R.dest,zH,l1,(Int.ofNat 0)⟩))])∧(HE (r6 [pb 0 0]) (heapOf [.cells 95 (cv (⟨R.me,R.dest,r.1,R.asked,R.want,R.heard,R.last⟩) (vS f 12 u1.length (c2 f)) [Iv now] (v13) e) false,(bv f (LtA.ab vs)),.dead,.dead,.dead,b0,b3,b1,.dead,(ownL ls),.dead,b8,(bv f (LtA.ab u1)),(bv fg (iB jds)),.dead,b8,b16,b14,(aJ ((L++oc ⟨(Int.ofNat 255),(Int.ofNat 2),R.dest,r.1,zL,(Int.ofNat 0)⟩)++oc ⟨(Int.ofNat 255),(Int.ofNat 3),R.dest,zH,l1,(Int.ofNat 0)⟩))] aE) (.tuple #[]) ([.put 0 (b7)]++bI f 12++bI true 18 ++ [.push (b19),.push (b4),.push .dead])∧(Q (.tuple #[]) [b7,(bv f (LtA.ab vs)),.dead] [19,20] [(b19),(b4)])))))))∧((r.2.1==(Int.ofNat 4))=false→HE (r6 [pb 0 0]) (h11) (.tuple #[]) ([.put 0 (b9)]++bI f 1++bI true 8 ++ [.push (b20),.push (b10),.push .dead])∧(Q (.tuple #[]) [b9,.dead,.dead] [9,10] [(b20),(b10)])))))))))=RF Tryz.prog W7 Tryz.f142 60 Ho ⟨tmsOf [pb 0 0,.bool lost] 0 .leaf,h17,[]⟩ (.b 13 (.stop 3 [1,2] []) (.b 21 (.stop 3 [1,2] []) (.h 38 (v18) [.dead] (.b 48 (.stop 3 [1,2] []) (.b 50 (.stop 3 [1,2] []) (.e 85 (v12) (gl fo 2 (aJ (L++oc ⟨(Int.ofNat 255),(Int.ofNat 2),R.dest,r.1,zL,(Int.ofNat 0)⟩))) (.b 90 (.h 96 (v15) [(ownL ls),.dead] (.v 97 (pb 9 (0*3)) (.v 98 (lA l1) (.e 103 (vS fg 13 kg 4) [.put 0 (b5),.push ((bv f (LtA.ab u1))),.push ((bv fg (iB jds))),.push (.dead)] (.e 130 (v13) [.put 8 .dead,.push (aJ ((L++oc ⟨(Int.ofNat 255),(Int.ofNat 2),R.dest,r.1,zL,(Int.ofNat 0)⟩)++oc ⟨(Int.ofNat 255),(Int.ofNat 3),R.dest,zH,l1,(Int.ofNat 0)⟩))] (.e 135 (.tuple #[]) ([.put 0 (b7)]++bI f 12++bI true 18 ++ [.push (b19),.push (b4),.push .dead]) (.stop 3 [19,20] []))))))) (.e 92 (.tuple #[]) ([.put 0 (b9)]++bI f 1++bI true 8 ++ [.push (b20),.push (b10),.push .dead]) (.stop 3 [9,10] []))))))))) Q:=by cases f <;> cases fo <;> (intros;kernel_rfl)
def keepA:uM:=fun R f vs c aN e rest=>match aN,rest with
 | [.int .i64 now],[.bool lost]=>some ((⟨R,vs,f,c,[],e⟩:TS).keep now lost)
 | _,_=>none
def iz(vs:List aa)(l:aU)(keep:Int):List aa:=vs.map (lG l.1 l.2.1 l.2.2 keep)
namespace TS
def Jt(T:TS)(r:B7)(l:aU)(us:List aa):TS:=bif T.home||T.R.own.n then T else bif r.2.2 != Int.ofNat 0 then T.err r.2.2 else bif r.2.1==Int.ofNat 0 then T else
 bif r.2.1==Int.ofNat 4 then ((⟨((T.own r.1).tell 255).R,us,T.f,c2 T.f,((T.own r.1).tell 255).out,T.e⟩:TS).clear 255 l).dH else ((T.own r.1).tell 255).dH
end TS
theorem tC{c t o r d i:Int}:(Au c t o r d i).1.id=0:=by unfold Au; cases dQ false t o r d i <;> rfl
theorem CS{own:aa}{vs:List aa}{now:Int}{lost:Bool}(h0:own.id=0):(bQ own vs now lost).1.id=0:=by
 unfold bQ lL;cases dQ own.n own.t own.o own.r own.d own.i
 ·rfl
 simp only [Bool.not_true,cond_false];unfold caseW;cases aF vs
 ·rfl
 simp only [Bool.not_true,cond_false];cases decide (now<Int.ofNat 0)
 case true=>rfl
 simp only [cond_false];cases decide (now>Int.ofNat 4611686018427387903)
 case true=>rfl
 simp only [cond_false];cases own.n
 case true=>exact h0
 simp only [cond_false];cases (!(gT 1 own vs).isEmpty)
 case true=>exact h0
 simp only [cond_false];cases (bN (aX vs)).getLast? with
 | none=>rfl
 | some top =>
   simp only;unfold oE;cases lost
   case true=>exact tC
   simp only [cond_false];cases decide (Int.ofNat (bN (aX vs)).length>Int.ofNat 1)
   case true=>exact tC
   simp only [cond_false];cases (top.2.2==Int.ofNat 0)
   case true=>exact tC
   simp only [cond_false];cases (top.2.1==own.i)
   case true=>rfl
   exact tC
theorem RB(R:ax)(f:Bool)(vs:List aa)(c:Nat)(aN:List Value)(e:Int)(h0:R.own.id=0)(hn:vs.length<1000000)(hm:gf aN):∀ rest T,keepA R f vs c aN e rest=some T→An 95 1999980 Tryz.f142 Ho 71 R f vs c aN e rest T:=fun rest T h=>by
 unfold keepA at h;split at h
 case h_2=>cases h
 rename_i now lost;cases h;refine ⟨(by intro x hx; simp at hx; subst hx; exact qX _),by simp,fun fo n L W X hLi hLl hLn hf0 hfo=>?_⟩
 have hTN:∀ {hp:Hp},hp.get 1=some (bv f (LtA.ab vs))→TN vs (vS f 1 vs.length c) hp:=fun hg=>o0 hg fun h=>(hf0 h).1
 have hcase:∀ {hp:Hp},hp.get 1=some (bv f (LtA.ab vs))→uT [cP R.own,vS f 1 vs.length c,.int .i64 now,.bool lost] hp=some (Ba (bQ R.own vs now lost),heapOf [.dead] hp):=fun hg=>BS h0 now lost (hTN hg) hn
 have hlevs:((bQ R.own vs now lost).2.1==Int.ofNat 4)=true→∀ {hp:Hp},hp.get 1=some (bv f (LtA.ab vs))→yV [vS f 1 vs.length c] hp=_:=fun h _ hg=>Kk (hTN hg) hn (nQ h)
 have hls:((bQ R.own vs now lost).2.1==Int.ofNat 4)=true→0<(bN (aX vs)).length∧(bN (aX vs))[0]? = some ((bN (aX vs)).headD zL):=fun h=>⟨List.length_pos_iff.2 (nQ h),DI (nQ h)⟩
 have hr0:=CS (vs:=vs) (now:=now) (lost:=lost) h0
 have hforg:∀ {R':ax} {out:Value} {t b:Nat} {hp:Hp},R'.dest=R.dest→R'.own.id=0→hp.get t=some (.cells 95 (cv R' (vS f b vs.length c) [.int .i64 now] out e) false)→lJ (vS f b vs.length c) out hp→hp.get b=some (bv f (LtA.ab vs)) →
   HE (Gr [pb t 0,lA ((bN (aX vs)).headD zL)]) hp (vS (!(bY ((bN (aX vs)).headD zL) R.dest vs).isEmpty) (hp.sz+1) (bY ((bN (aX vs)).headD zL) R.dest vs).length 4) [.put t (.cells 95 (cv R' (vS f hp.sz (iz vs ((bN (aX vs)).headD zL) R.dest).length (c2 f)) [.int .i64 now] out e) false),.push (bv f (LtA.ab (iz vs ((bN (aX vs)).headD zL) R.dest))),.push (bv (!(bY ((bN (aX vs)).headD zL) R.dest vs).isEmpty) (iB (bY ((bN (aX vs)).headD zL) R.dest vs))),.push .dead]:=fun hd h0 hg hO hb=>by
  have:=yU (l:=(bN (aX vs)).headD zL) (fun h=>(hf0 h).1) hn h0 hg hO hb
  rw [hd] at this;exact this
 have hn1:(iz vs ((bN (aX vs)).headD zL) R.dest).length<1000000:=by unfold iz; rw [List.length_map]; exact hn
 have hf1:f=false→iz vs ((bN (aX vs)).headD zL) R.dest = []∧c2 f=0:=fun h=>by rw [(hf0 h).1,h]; exact ⟨rfl,rfl⟩
 show bm _ _ _ _ _ _ _ (fc _ _ (QV _ ((⟨R,vs,f,c,[],e⟩:TS).Jt (bQ R.own vs now lost) ((bN (aX vs)).headD zL) (iz vs ((bN (aX vs)).headD zL) R.dest)) _ _ _ _ _))
 generalize bQ R.own vs now lost=r at *;generalize iz vs ((bN (aX vs)).headD zL) R.dest=u1 at *;generalize bY ((bN (aX vs)).headD zL) R.dest vs=jds at *;generalize bN (aX vs)=ls at *;generalize ls.headD zL=l1 at *;generalize (!jds.isEmpty)=fg at *;generalize jds.length=kg at *;obtain ⟨T1,hT1⟩:∃ T,((⟨⟨R.me,R.dest,r.1,R.asked,R.want,R.heard,R.last⟩,u1,f,(c2 f),[],e⟩:TS).dH)=T:=⟨_,rfl⟩;obtain ⟨T2,hT2⟩:∃ T,((⟨⟨R.me,R.dest,r.1,R.asked,R.want,R.heard,R.last⟩,vs,f,c,[],e⟩:TS).dH)=T:=⟨_,rfl⟩;refine bm.bW J3 follows Yh (To f fo vs c n L R now e lost fg kg r ls l1 u1 jds T1 T2 _) ?_
 refine ⟨fun h_13=>QV.of (T':=(⟨R,vs,f,c,[],e⟩:TS)) (f2:=fo) (n2:=n) (L2:=L) (by simp) (by simp <;> omega) (by simp [oF]) ⟨_,_,(aB (LtA.aw _)),(aB (aZ hLi)),rfl,1,2,rfl,rfl,fun _ _=>by decide,fun h=>⟨h,0,rfl,rfl⟩,fun h=>⟨h,1,rfl,rfl⟩⟩ ?_,fun h_13=>⟨fun h_21=>QV.of (T':=(⟨R,vs,f,c,[],e⟩:TS)) (f2:=fo) (n2:=n) (L2:=L) (by simp) (by simp <;> omega) (by simp [oF]) ⟨_,_,(aB (LtA.aw _)),(aB (aZ hLi)),rfl,1,2,rfl,rfl,fun _ _=>by decide,fun h=>⟨h,0,rfl,rfl⟩,fun h=>⟨h,1,rfl,rfl⟩⟩ ?_,fun h_21=>⟨hcase (bk rfl),fun h_48=>QV.of (T':=(⟨R,vs,f,c,[],r.2.2⟩:TS)) (f2:=fo) (n2:=n) (L2:=L) (by simp) (by simp <;> omega) (by simp [oF]) ⟨_,_,(aB (LtA.aw _)),(aB (aZ hLi)),rfl,1,2,rfl,rfl,fun _ _=>by decide,fun h=>⟨h,0,rfl,rfl⟩,fun h=>⟨h,1,rfl,rfl⟩⟩ ?_,fun h_48=>⟨fun h_50=>QV.of (T':=(⟨R,vs,f,c,[],e⟩:TS)) (f2:=fo) (n2:=n) (L2:=L) (by simp) (by simp <;> omega) (by simp [oF]) ⟨_,_,(aB (LtA.aw _)),(aB (aZ hLi)),rfl,1,2,rfl,rfl,fun _ _=>by decide,fun h=>⟨h,0,rfl,rfl⟩,fun h=>⟨h,1,rfl,rfl⟩⟩ ?_,fun h_50=>⟨ke hfo (by omega) hLl (bk rfl) (bk rfl),fun h_90=>⟨hlevs h_90 (bk rfl),MO (hls h_90).1,yd (us:=ls) (bk rfl) (hls h_90).2,hforg (R':=⟨R.me,R.dest,r.1,R.asked,R.want,R.heard,R.last⟩) rfl hr0 (bk rfl) (wz rfl (bk rfl) (aZ (by simp [hLi,ue]))) (bk rfl),p5 (by omega) (by simp [hLl,H']; omega) (bk rfl) (bk rfl),fz hT1 hr0 (bk rfl) (bk rfl) hf1 (bk rfl) (fun h=>by cases h) (by simp [hLi,ue]) (by simp [hLl,H']; omega) (by omega) hn1,QV.of (T':=(⟨T1.R,T1.vs,T1.f,T1.c,([⟨(Int.ofNat 255),(Int.ofNat 2),R.dest,r.1,zL,(Int.ofNat 0)⟩,⟨(Int.ofNat 255),(Int.ofNat 3),R.dest,zH,l1,(Int.ofNat 0)⟩]++T1.out),T1.e⟩:TS)) (f2:=(true||oF T1.out)) (n2:=(((n+1)+1)+T1.out.length)) (L2:=(((L++oc ⟨(Int.ofNat 255),(Int.ofNat 2),R.dest,r.1,zL,(Int.ofNat 0)⟩)++oc ⟨(Int.ofNat 255),(Int.ofNat 3),R.dest,zH,l1,(Int.ofNat 0)⟩)++T1.out.flatMap oc)) (by simp) (by simp <;> omega) (by simp [oF]) ⟨_,_,(aB (LtA.aw _)),rfl,rfl,19,20,rfl,rfl,fun _ _=>by decide,fun h=>⟨rfl,0,rfl,rfl⟩,fun h=>⟨rfl,1,rfl,rfl⟩⟩ ?_⟩,fun h_90=>⟨fz hT2 hr0 (bk rfl) (bk rfl) hf0 (bk rfl) (fun h=>by cases h) (by simp [hLi,ue]) (by simp [hLl,H']; omega) (by omega) hn,QV.of (T':=(⟨T2.R,T2.vs,T2.f,T2.c,([⟨(Int.ofNat 255),(Int.ofNat 2),R.dest,r.1,zL,(Int.ofNat 0)⟩]++T2.out),T2.e⟩:TS)) (f2:=(true||oF T2.out)) (n2:=((n+1)+T2.out.length)) (L2:=((L++oc ⟨(Int.ofNat 255),(Int.ofNat 2),R.dest,r.1,zL,(Int.ofNat 0)⟩)++T2.out.flatMap oc)) (by simp) (by simp <;> omega) (by simp [oF]) ⟨_,_,rfl,rfl,rfl,9,10,rfl,rfl,fun _ _=>by decide,fun h=>⟨rfl,0,rfl,rfl⟩,fun h=>⟨rfl,1,rfl,rfl⟩⟩ ?_⟩⟩⟩⟩⟩⟩
 all_goals (simp only [TS.Jt,TS.home,TS.own,TS.tell,TS.send,TS.clear,TS.err, *,cond_true,cond_false,Bool.or_false,Bool.false_or,Bool.or_true,Bool.true_or]; try first | rfl | (rw [TS.fR,hT1]; rfl) | (rw [TS.fR,hT2]; rfl))
noncomputable def Aj:aC:=toldV 95 1999980 keepA
theorem Mu:aq Tryz.prog 142 Aj:=iq Tryz.func142 K6 (by kernel_rfl) UK RB
theorem j7{R:ax}{f fo:Bool}{vs:List aa}{L:List Value}{now e:Int}{t b c bo n:Nat}{hp:Hp}{lost:Bool}{T:TS}(hT:((⟨R,vs,f,c,[],e⟩:TS).keep now lost)=T)(h0:R.own.id=0)(hg:hp.get t=some (.cells 95 (cv R (vS f b vs.length c) [.int .i64 now] (vS fo bo n 40) e) false))(hV:hp.get b=some (bv f (LtA.ab vs)))(hf:f=false→vs = []∧c=0)(hO:hp.get bo=some (bv fo (aJ L)))(hfo:fo=false→n=0∧L = [])
  (hLi:L.all inert=true) (hLl:L.length=n*13) (hLn:n<1999980) (hn:vs.length<1000000) :
  HE (Aj ([pb t 0,.bool lost])) hp (.tuple #[]) ([.put t (.cells 95 (gO T [.int .i64 now] fo n hp.sz (hp.sz+1)) false)]++bI f b++bI fo bo ++ [.push (bv T.f (LtA.ab T.vs)),.push (bv (fo||oF T.out) (aJ (L++T.out.flatMap oc))),.push .dead]):=by
 subst hT;exact kJ h0 (.inr ⟨now,rfl⟩) (by decide) hg hV hf hO hfo hLi hLl hLn hn rfl
set_option maxHeartbeats 4000000
theorem yq{vs:List aa}{y:aa}(hr:aF vs=true):(cD vs y).length<1000000:=by
 have:=kA hr
 rw [E9];cases fnd vs y.id <;> simp <;> omega
theorem Ep(ws:List aY):(ws.flatMap oc).length=ws.length*13:=by
 induction ws with
 | nil=>rfl
 | cons w ws ih=>rw [List.flatMap_cons,List.length_append,ih,List.length_cons,Nat.succ_mul]; show 13+_=_; omega
theorem uz{f:Bool}{b n c:Nat}{vs:List aa}{id:Int}:setC (vS f b n c) vs id=bif f then (bif fnd vs id then 22 else 23) else 22:=by cases f <;> rfl
noncomputable def Xa:Ext:=fh (cS Tryz.prog []) [(85,o7),(129,Gs),(67,r6),(142,Aj)]
theorem J7:ExtOk Tryz.prog Xa:=bC (aT .nil) (.cons DL (.cons HL (.cons DM (.cons Mu .nil))))
noncomputable def Hs:Code:=(Tryz.f95.body).getD .skip
theorem Lc:Tryz.f95.body=some Hs:=by kernel_rfl
theorem UP:Tryz.f95.ntmps=55:=by kernel_rfl
theorem Yk:codeSafe Tryz.prog 55 Hs=true:=by kernel_rfl
theorem Ty(f fo:Bool)(vs:List aa)(c n:Nat)(L:List Value)(R:ax)(now e:Int)(frm:Int)(ob:aY)(u1:List aa)(cs:Nat)(T1:TS)(T2:TS)(T3:TS)(Q:Value→List af→List Nat→List af→Prop):let b1:af:=.cells 95 (cv T1.R (vS T1.f 7 T1.vs.length T1.c) [Iv now] (vS (fo||oF T1.out) 8 (n+T1.out.length) 40) T1.e) false;let b2:af:=.cells 95 (cv T2.R (vS T2.f 7 T2.vs.length T2.c) [Iv now] (vS (fo||oF T2.out) 8 (n+T2.out.length) 40) T2.e) false;let b3:af:=.cells 95 (cv T3.R (vS T3.f 7 T3.vs.length T3.c) [Iv now] (vS (fo||oF T3.out) 8 (n+T3.out.length) 40) T3.e) false;let b4:af:=bv (fo||oF T1.out) (aJ (L++T1.out.flatMap oc));let b5:af:=bv (fo||oF T2.out) (aJ (L++T2.out.flatMap oc));let b6:af:=bv (fo||oF T3.out) (aJ (L++T3.out.flatMap oc));let b7:af:=.cells 95 (cv R (vS true 5 u1.length cs) [Iv now] (vS fo 2 n 40) (Int.ofNat 0)) false;let b8:af:=.cells 95 (cv R (vS f 1 vs.length c) [Iv now] (vS fo 2 n 40) e) false;let b9:af:=.cells 30 (oP ⟨0,ob.kind,ob.dest,ob.h,ob.l,ob.num⟩) false;let h0:Hp:=heapOf [b7,(bv f (LtA.ab vs)),(bv fo (aJ L)),.dead,b9,(LtA.ab u1),.dead] aE;let b10:af:=bv T1.f (LtA.ab T1.vs);let b11:af:=bv T2.f (LtA.ab T2.vs);let b12:af:=bv T3.f (LtA.ab T3.vs);(HT (o7 [vS f 1 vs.length c,Iv frm,.agg #[.bool ob.h.n,Iv ob.h.t,Iv ob.h.o,Iv ob.h.r,Iv ob.h.d,Iv ob.h.i]]) (heapOf [b8,(bv f (LtA.ab vs)),(bv fo (aJ L)),.dead,b9] aE) (.tuple #[vS true 5 u1.length cs,iN 0]) [(LtA.ab u1),.dead]∧(((R.me==R.dest)=true→Q (.tuple #[]) [b7,(bv f (LtA.ab vs)),(bv fo (aJ L))] [5,2] [(LtA.ab u1),(bv fo (aJ L))])∧((R.me==R.dest)=false→((!R.own.n)=true→HE (Aj [pb 0 0,.bool false]) (h0) (.tuple #[]) ([.put 0 (b1)]++bI true 5++bI fo 2 ++ [.push (b10),.push (b4),.push .dead])∧(Q (.tuple #[]) [b1,(bv f (LtA.ab vs)),.dead] [7,8] [(b10),(b4)]))∧((!R.own.n)=false→(R.asked=true→HE (Gs [pb 0 0]) (h0) (.tuple #[]) ([.put 0 (b2)]++bI true 5++bI fo 2 ++ [.push (b11),.push (b5),.push .dead])∧(Q (.tuple #[]) [b2,(bv f (LtA.ab vs)),.dead] [7,8] [(b11),(b5)]))∧(R.asked=false→HE (r6 [pb 0 0]) (h0) (.tuple #[]) ([.put 0 (b3)]++bI true 5++bI fo 2 ++ [.push (b12),.push (b6),.push .dead])∧(Q (.tuple #[]) [b3,(bv f (LtA.ab vs)),.dead] [7,8] [(b12),(b6)]))))))=RF Tryz.prog Xa Tryz.f95 60 Hs ⟨tmsOf [pb 0 0,Iv frm,.agg #[Iv ob.kind,Iv ob.dest,.bool ob.h.n,Iv ob.h.t,Iv ob.h.o,Iv ob.h.r,Iv ob.h.d,Iv ob.h.i,Iv ob.l.1,Iv ob.l.2.1,Iv ob.l.2.2,Iv ob.num]] 0 .leaf,heapOf [b8,(bv f (LtA.ab vs)),(bv fo (aJ L)),.dead] aE,[]⟩ (.h 11 (.tuple #[vS true 5 u1.length cs,iN 0]) [(LtA.ab u1),.dead] (.b 41 (.stop 3 [5,2] []) (.b 51 (.e 54 (.tuple #[]) ([.put 0 (b1)]++bI true 5++bI fo 2 ++ [.push (b10),.push (b4),.push .dead]) (.stop 3 [7,8] [])) (.b 57 (.e 60 (.tuple #[]) ([.put 0 (b2)]++bI true 5++bI fo 2 ++ [.push (b11),.push (b5),.push .dead]) (.stop 3 [7,8] [])) (.e 60 (.tuple #[]) ([.put 0 (b3)]++bI true 5++bI fo 2 ++ [.push (b12),.push (b6),.push .dead]) (.stop 3 [7,8] [])))))) Q:=by cases f <;> cases fo <;> (intros;kernel_rfl)
def updA:uM:=fun R f vs c aN e rest=>match aN,rest with
 | [.int .i64 now],[.int .i64 frm,ob]=>(unO ob).bind fun ob=>bif aF vs&&cU (bj frm ob.h) then some ((⟨R,vs,f,c,[],e⟩:TS).Ae (bj frm ob.h) now) else none
 | _,_=>none
theorem wU(ob:aY):fv (.agg #[.int .i64 ob.kind,.int .i64 ob.dest,.bool ob.h.n,.int .i64 ob.h.t,.int .i64 ob.h.o,.int .i64 ob.h.r,.int .i64 ob.h.d,.int .i64 ob.h.i,.int .i64 ob.l.1,.int .i64 ob.l.2.1,.int .i64 ob.l.2.2,.int .i64 ob.num]):=⟨rfl,fun _=>by simp [mv3,mv2,mv1]⟩
namespace TS
theorem SD(R:ax)(vs:List aa)(f:Bool)(c:Nat)(e:Int)(y:aa)(now:Int):(⟨R,vs,f,c,[],e⟩:TS).Ae y now=(let T:TS:=⟨R,cD vs y,true,(bif f then (bif fnd vs y.id then 22 else 23) else 22),[],0⟩
 bif R.me==R.dest then T else bif !R.own.n then T.keep now false else bif R.asked then T.ga else T.dH):=rfl
end TS
theorem RH(R:ax)(f:Bool)(vs:List aa)(c:Nat)(aN:List Value)(e:Int)(h0:R.own.id=0)(hn:vs.length<1000000)(hm:gf aN):∀ rest T,updA R f vs c aN e rest=some T→An 95 1999970 Tryz.f95 Hs 55 R f vs c aN e rest T:=fun rest T h=>by
 unfold updA at h;split at h
 case h_2=>cases h
 rename_i now frm a;obtain ⟨ob,hob,h2⟩:=Option.bind_eq_some_iff.1 h;obtain rfl:=rq hob;cases hr:(aF vs&&cU (bj frm ob.h)) with
 | false=>rw [hr] at h2; cases h2
 | true =>
 rw [hr] at h2;cases h2;refine ⟨(by intro x hx; simp at hx; rcases hx with rfl | rfl; exact lx _ _; exact wU _),by simp,fun fo n L W X hLi hLl hLn hf0 hfo=>?_⟩
 have hset:∀ {hp:Hp},hp.get 1=some (bv f (LtA.ab vs))→o7 [vS f 1 vs.length c,.int .i64 frm,cP ob.h] hp=some (.tuple #[vS true hp.sz (cD vs (bj frm ob.h)).length (bif f then (bif fnd vs frm then 22 else 23) else 22),iN 0],heapOf [LtA.ab (cD vs (bj frm ob.h)),.dead] hp):=fun hg=>by
  have:=tc (bj frm ob.h) (o0 (c:=c) hg fun h=>(hf0 h).1) hr
  rw [uz] at this;exact this
 have hn1:=yq (y:=bj frm ob.h) (Bool.and_eq_true_iff.1 hr).1
 rw [TS.SD];show bm _ _ _ _ _ _ _ (fc _ _ (QV _ (bif R.me==R.dest then (⟨R,cD vs (bj frm ob.h),true,(bif f then (bif fnd vs frm then 22 else 23) else 22),[],0⟩:TS) else bif !R.own.n then (⟨R,cD vs (bj frm ob.h),true,(bif f then (bif fnd vs frm then 22 else 23) else 22),[],0⟩:TS).keep now false else bif R.asked then (⟨R,cD vs (bj frm ob.h),true,(bif f then (bif fnd vs frm then 22 else 23) else 22),[],0⟩:TS).ga else (⟨R,cD vs (bj frm ob.h),true,(bif f then (bif fnd vs frm then 22 else 23) else 22),[],0⟩:TS).dH) _ _ _ _ _))
 generalize cD vs (bj frm ob.h)=u1 at *;generalize (bif f then (bif fnd vs frm then 22 else 23) else 22)=cs at *
 obtain ⟨T1,hT1⟩:∃ T,((⟨R,u1,true,cs,[],(Int.ofNat 0)⟩:TS).keep now false)=T:=⟨_,rfl⟩;obtain ⟨T2,hT2⟩:∃ T,((⟨R,u1,true,cs,[],(Int.ofNat 0)⟩:TS).ga)=T:=⟨_,rfl⟩;obtain ⟨T3,hT3⟩:∃ T,((⟨R,u1,true,cs,[],(Int.ofNat 0)⟩:TS).dH)=T:=⟨_,rfl⟩;refine bm.bW J7 follows Yk (Ty f fo vs c n L R now e frm ob u1 cs T1 T2 T3 _) ?_
 refine ⟨hset (bk rfl),fun h_41=>QV.of (T':=(⟨R,u1,true,cs,[],(Int.ofNat 0)⟩:TS)) (f2:=fo) (n2:=n) (L2:=L) (by simp) (by simp <;> omega) (by simp [oF]) ⟨_,_,(aB (LtA.aw _)),(aB (aZ hLi)),rfl,5,2,rfl,rfl,fun _ _=>by decide,fun h=>⟨rfl,0,rfl,rfl⟩,fun h=>⟨h,1,rfl,rfl⟩⟩ ?_,fun h_41=>⟨fun h_51=>⟨j7 hT1 h0 (bk rfl) (bk rfl) (fun h=>by cases h) (bk rfl) hfo hLi hLl (by omega) hn1,QV.of (T':=(⟨T1.R,T1.vs,T1.f,T1.c,T1.out,T1.e⟩:TS)) (f2:=(fo||oF T1.out)) (n2:=(n+T1.out.length)) (L2:=(L++T1.out.flatMap oc)) (by simp) (by simp <;> omega) (by simp [oF]) ⟨_,_,(aB (LtA.aw _)),rfl,rfl,7,8,rfl,rfl,fun _ _=>by decide,fun h=>⟨rfl,0,rfl,rfl⟩,fun h=>⟨rfl,1,rfl,rfl⟩⟩ ?_⟩,fun h_51=>⟨fun h_57=>⟨xw hT2 h0 (bk rfl) (bk rfl) (fun h=>by cases h) (bk rfl) hfo hLi hLl (by omega) hn1,QV.of (T':=(⟨T2.R,T2.vs,T2.f,T2.c,T2.out,T2.e⟩:TS)) (f2:=(fo||oF T2.out)) (n2:=(n+T2.out.length)) (L2:=(L++T2.out.flatMap oc)) (by simp) (by simp <;> omega) (by simp [oF]) ⟨_,_,(aB (LtA.aw _)),rfl,rfl,7,8,rfl,rfl,fun _ _=>by decide,fun h=>⟨rfl,0,rfl,rfl⟩,fun h=>⟨rfl,1,rfl,rfl⟩⟩ ?_⟩,fun h_57=>⟨fz hT3 h0 (bk rfl) (bk rfl) (fun h=>by cases h) (bk rfl) hfo hLi hLl (by omega) hn1,QV.of (T':=(⟨T3.R,T3.vs,T3.f,T3.c,T3.out,T3.e⟩:TS)) (f2:=(fo||oF T3.out)) (n2:=(n+T3.out.length)) (L2:=(L++T3.out.flatMap oc)) (by simp) (by simp <;> omega) (by simp [oF]) ⟨_,_,(aB (LtA.aw _)),rfl,rfl,7,8,rfl,rfl,fun _ _=>by decide,fun h=>⟨rfl,0,rfl,rfl⟩,fun h=>⟨rfl,1,rfl,rfl⟩⟩ ?_⟩⟩⟩⟩
 all_goals (simp only [*,cond_true,cond_false,Bool.not_true,Bool.not_false]; try first | rfl | (rw [← hT1]; rfl) | (rw [← hT2]; rfl) | (rw [← hT3]; rfl))
noncomputable def Km:aC:=toldV 95 1999970 updA
theorem Uk:aq Tryz.prog 95 Km:=iq Tryz.func95 Lc (by kernel_rfl) UP RH
theorem td{R:ax}{f fo:Bool}{vs:List aa}{L:List Value}{now e:Int}{t b c bo n:Nat}{hp:Hp}{frm:Int}{ob:aY}(hr:(aF vs&&cU (bj frm ob.h))=true){T:TS}(hT:((⟨R,vs,f,c,[],e⟩:TS).Ae (bj frm ob.h) now)=T)(h0:R.own.id=0)(hg:hp.get t=some (.cells 95 (cv R (vS f b vs.length c) [.int .i64 now] (vS fo bo n 40) e) false))(hV:hp.get b=some (bv f (LtA.ab vs)))(hf:f=false→vs = []∧c=0)(hO:hp.get bo=some (bv fo (aJ L)))(hfo:fo=false→n=0∧L = [])
  (hLi:L.all inert=true) (hLl:L.length=n*13) (hLn:n<1999970) (hn:vs.length<1000000) :
  HE (Km ([pb t 0,.int .i64 frm,(.agg #[.int .i64 ob.kind,.int .i64 ob.dest,.bool ob.h.n,.int .i64 ob.h.t,.int .i64 ob.h.o,.int .i64 ob.h.r,.int .i64 ob.h.d,.int .i64 ob.h.i,.int .i64 ob.l.1,.int .i64 ob.l.2.1,.int .i64 ob.l.2.2,.int .i64 ob.num])])) hp (.tuple #[]) ([.put t (.cells 95 (gO T [.int .i64 now] fo n hp.sz (hp.sz+1)) false)]++bI f b++bI fo bo ++ [.push (bv T.f (LtA.ab T.vs)),.push (bv (fo||oF T.out) (aJ (L++T.out.flatMap oc))),.push .dead]):=by
 subst hT;exact kJ h0 (.inr ⟨now,rfl⟩) (by decide) hg hV hf hO hfo hLi hLl hLn hn (by show (bif aF vs&&cU (bj frm ob.h) then _ else _)=_; rw [hr]; rfl)
noncomputable def SJ:Ext:=fh (cS Tryz.prog [(106,HA),(57,g15)]) [(143,Gr),(129,Gs),(67,r6),(142,Aj)]
theorem pV:ExtOk Tryz.prog SJ:=bC (aT (.cons xY (.cons vN .nil))) (.cons PH (.cons HL (.cons DM (.cons Mu .nil))))
noncomputable def Dp:Code:=(Tryz.f96.body).getD .skip
theorem K2:Tryz.f96.body=some Dp:=by kernel_rfl
theorem UG:Tryz.f96.ntmps=66:=by kernel_rfl
theorem Ye:codeSafe Tryz.prog 66 Dp=true:=by kernel_rfl
noncomputable def A0:Code:=pB (pR (pL (pR (pR (pR (Dp))))))
noncomputable def HV:Code:=pU A0
theorem HZ:A0 = .loop HV:=by kernel_rfl
theorem Iu:codeSafe Tryz.prog 66 HV=true:=by kernel_rfl
theorem Td(f fo fg:Bool)(vs u1:List aa)(c n kg:Nat)(L:List Value)(R:ax)(now e frm:Int)(ob:aY)(jds:List Int)(gs:List aY)(T1:TS)(T2:TS)(T3:TS)(W:bh)(X:fe)(Q:Value→List af→List Nat→List af→Prop):let b0:af:=.cells 30 (oP ⟨0,ob.kind,ob.dest,ob.h,ob.l,ob.num⟩) false;let b1:af:=.cells 95 (cv R (vS f 3 u1.length (c2 f)) [Iv now] (vS fo 2 n 40) e) false;let b2:af:=.cells 95 (cv R (vS f 3 u1.length (c2 f)) [Iv now] (.slice (some ⟨6,0,none⟩) (n+gs.length) 40) e) false;let b3:af:=.cells 95 (cv T2.R (vS T2.f 8 T2.vs.length T2.c) [Iv now] (vS (true||oF T2.out) 9 ((n+gs.length)+T2.out.length) 40) T2.e) false;let b4:af:=.cells 95 (cv T3.R (vS T3.f 8 T3.vs.length T3.c) [Iv now] (vS (true||oF T3.out) 9 ((n+gs.length)+T3.out.length) 40) T3.e) false;let b5:af:=.cells 95 (cv T2.R (vS T2.f 8 T2.vs.length T2.c) [Iv now] (vS (fo||oF T2.out) 9 (n+T2.out.length) 40) T2.e) false;let b6:af:=.cells 95 (cv T3.R (vS T3.f 8 T3.vs.length T3.c) [Iv now] (vS (fo||oF T3.out) 9 (n+T3.out.length) 40) T3.e) false;let h7:Hp:=heapOf [b2,(bv f (LtA.ab vs)),.dead,(bv f (LtA.ab u1)),b0,(bv fg (iB jds)),(aJ (L++gs.flatMap oc)),.dead] aE;let b8:af:=bv (true||oF T2.out) (aJ ((L++gs.flatMap oc)++T2.out.flatMap oc));let b9:af:=bv (true||oF T3.out) (aJ ((L++gs.flatMap oc)++T3.out.flatMap oc));let h10:Hp:=heapOf [b1,(bv f (LtA.ab vs)),(bv fo (aJ L)),(bv f (LtA.ab u1)),b0,(bv fg (iB jds)),.dead,.dead] aE;let b11:af:=bv (fo||oF T2.out) (aJ (L++T2.out.flatMap oc));let b12:af:=bv (fo||oF T3.out) (aJ (L++T3.out.flatMap oc));let b13:af:=bv T2.f (LtA.ab T2.vs);let b14:af:=bv T3.f (LtA.ab T3.vs);let v15:Value:=.agg #[Iv ob.l.1,Iv ob.l.2.1,Iv ob.l.2.2];let b16:af:=.cells 95 (cv T1.R (vS T1.f 13 T1.vs.length T1.c) [Iv now] (vS (true||oF T1.out) 14 ((n+1)+T1.out.length) 40) T1.e) false;let b17:af:=bv (true||oF T1.out) (aJ ((L++oc ⟨(Int.ofNat 255),(Int.ofNat 3),R.dest,zH,ob.l,(Int.ofNat 0)⟩)++T1.out.flatMap oc));let b18:af:=.cells 50 (oc ⟨(Int.ofNat 255),(Int.ofNat 3),R.dest,zH,ob.l,(Int.ofNat 0)⟩) false;let b19:af:=.cells 95 (cv R (vS f 5 u1.length (c2 f)) [Iv now] (vS fo 2 n 40) e) false;let v20:Value:=.slice (some ⟨12,0,none⟩) (n+1) 40;let b21:af:=.cells 95 (cv R (vS f 1 vs.length c) [Iv now] (vS fo 2 n 40) e) false;let b22:af:=.cells 30 (oP ⟨0,(Int.ofNat 3),R.dest,zH,ob.l,(Int.ofNat 0)⟩) false;let b23:af:=.cells 28 [Iv ob.l.1,Iv ob.l.2.1,Iv ob.l.2.2] false;let b24:af:=.cells 23 [.bool true,iN 0,iN 0,iN 0,iN 0,Iv R.me] false;let b25:af:=bv T1.f (LtA.ab T1.vs);(HE (Gr [pb 0 0,v15]) (heapOf [b21,(bv f (LtA.ab vs)),(bv fo (aJ L)),.dead,b0] aE) (vS fg 6 kg 4) [.put 0 (b19),.push ((bv f (LtA.ab u1))),.push ((bv fg (iB jds))),.push (.dead)]∧(((!(R.me==R.dest))=true→((!R.own.n)=true→(fstV ((aBin Tryz.prog .eql 28 (lA (bA R.own)) (v15)).map fun v=>(v,none)):OV)=some (.bool ((bA R.own)==ob.l))∧(((bA R.own)==ob.l)=true→(some (v15):OV)=some (v15)∧(aAppend Tryz.prog (heapOf [.cells 95 (cv (⟨R.me,R.dest,(bG R.me),R.asked,R.want,R.heard,R.last⟩) (vS f 5 u1.length (c2 f)) [Iv now] (vS fo 2 n 40) e) false,(bv f (LtA.ab vs)),(bv fo (aJ L)),.dead,b0,(bv f (LtA.ab u1)),(bv fg (iB jds)),.dead,b24,b23,b22,b18] aE).get 12 [34,34] [vS fo 2 n 40,.slice (some ⟨11,0,none⟩) 1 40]=some (v20,(gl fo 2 (aJ (L++oc ⟨(Int.ofNat 255),(Int.ofNat 3),R.dest,zH,ob.l,(Int.ofNat 0)⟩))))∧(HE (r6 [pb 0 0]) (heapOf [.cells 95 (cv (⟨R.me,R.dest,(bG R.me),R.asked,R.want,R.heard,R.last⟩) (vS f 5 u1.length (c2 f)) [Iv now] (v20) e) false,(bv f (LtA.ab vs)),.dead,.dead,b0,(bv f (LtA.ab u1)),(bv fg (iB jds)),.dead,b24,b23,b22,b18,(aJ (L++oc ⟨(Int.ofNat 255),(Int.ofNat 3),R.dest,zH,ob.l,(Int.ofNat 0)⟩))] aE) (.tuple #[]) ([.put 0 (b16)]++bI f 5++bI true 12 ++ [.push (b25),.push (b17),.push .dead])∧(Q (.tuple #[]) [b16,(bv f (LtA.ab vs)),.dead] [13,14] [(b25),(b17)]))))∧(((bA R.own)==ob.l)=false→(some (v15):OV)=some (v15)∧(lC 110 [b1,(bv f (LtA.ab vs)),(bv fo (aJ L)),(bv f (LtA.ab u1)),b0,(bv fg (iB jds)),.dead]∧(∀ g,bm Tryz.prog 66 W 3 X A0 (av 66 g [(0,pb 0 0),(5,pb 4 0),(52,vS fg 5 kg 4),(53,iN (kk fg kg)),(54,iN 0)] [b1,(bv f (LtA.ab vs)),(bv fo (aJ L)),(bv f (LtA.ab u1)),b0,(bv fg (iB jds)),.dead]) (ON (fun (_:Unit) g=>(.exit 0,av 66 g [(0,pb 0 0)] [b1,(bv f (LtA.ab vs)),(bv fo (aJ L)),(bv f (LtA.ab u1)),b0,(bv fg (iB jds)),.dead])) (fun (_:Unit)=>jds = []) (fun (_:Unit) g=>(.exit 0,av 66 g [(0,pb 0 0)] [b2,(bv f (LtA.ab vs)),.dead,(bv f (LtA.ab u1)),b0,(bv fg (iB jds)),(aJ (L++gs.flatMap oc))])) (fun (_:Unit)=>jds≠[])))∧(∀ (_:Unit) (g:Nat→Value),jds = []→(R.own.n=true→HE (r6 [pb 0 0]) (h10) (.tuple #[]) ([.put 0 (b5)]++bI f 3++bI fo 2 ++ [.push (b13),.push (b11),.push .dead])∧(Q (.tuple #[]) [b5,(bv f (LtA.ab vs)),.dead] [8,9] [(b13),(b11)]))∧(R.own.n=false→HE (Aj [pb 0 0,.bool true]) (h10) (.tuple #[]) ([.put 0 (b6)]++bI f 3++bI fo 2 ++ [.push (b14),.push (b12),.push .dead])∧(Q (.tuple #[]) [b6,(bv f (LtA.ab vs)),.dead] [8,9] [(b14),(b12)])))∧(∀ (_:Unit) (g:Nat→Value),jds≠[]→(R.own.n=true→HE (r6 [pb 0 0]) (h7) (.tuple #[]) ([.put 0 (b3)]++bI f 3++bI true 6 ++ [.push (b13),.push (b8),.push .dead])∧(Q (.tuple #[]) [b3,(bv f (LtA.ab vs)),.dead] [8,9] [(b13),(b8)]))∧(R.own.n=false→HE (Aj [pb 0 0,.bool true]) (h7) (.tuple #[]) ([.put 0 (b4)]++bI f 3++bI true 6 ++ [.push (b14),.push (b9),.push .dead])∧(Q (.tuple #[]) [b4,(bv f (LtA.ab vs)),.dead] [8,9] [(b14),(b9)]))))))∧((!R.own.n)=false→lC 110 [b1,(bv f (LtA.ab vs)),(bv fo (aJ L)),(bv f (LtA.ab u1)),b0,(bv fg (iB jds)),.dead]∧(∀ g,bm Tryz.prog 66 W 3 X A0 (av 66 g [(0,pb 0 0),(5,pb 4 0),(52,vS fg 5 kg 4),(53,iN (kk fg kg)),(54,iN 0)] [b1,(bv f (LtA.ab vs)),(bv fo (aJ L)),(bv f (LtA.ab u1)),b0,(bv fg (iB jds)),.dead]) (ON (fun (_:Unit) g=>(.exit 0,av 66 g [(0,pb 0 0)] [b1,(bv f (LtA.ab vs)),(bv fo (aJ L)),(bv f (LtA.ab u1)),b0,(bv fg (iB jds)),.dead])) (fun (_:Unit)=>jds = []) (fun (_:Unit) g=>(.exit 0,av 66 g [(0,pb 0 0)] [b2,(bv f (LtA.ab vs)),.dead,(bv f (LtA.ab u1)),b0,(bv fg (iB jds)),(aJ (L++gs.flatMap oc))])) (fun (_:Unit)=>jds≠[])))∧(∀ (_:Unit) (g:Nat→Value),jds = []→(R.own.n=true→HE (r6 [pb 0 0]) (h10) (.tuple #[]) ([.put 0 (b5)]++bI f 3++bI fo 2 ++ [.push (b13),.push (b11),.push .dead])∧(Q (.tuple #[]) [b5,(bv f (LtA.ab vs)),.dead] [8,9] [(b13),(b11)]))∧(R.own.n=false→HE (Aj [pb 0 0,.bool true]) (h10) (.tuple #[]) ([.put 0 (b6)]++bI f 3++bI fo 2 ++ [.push (b14),.push (b12),.push .dead])∧(Q (.tuple #[]) [b6,(bv f (LtA.ab vs)),.dead] [8,9] [(b14),(b12)])))∧(∀ (_:Unit) (g:Nat→Value),jds≠[]→(R.own.n=true→HE (r6 [pb 0 0]) (h7) (.tuple #[]) ([.put 0 (b3)]++bI f 3++bI true 6 ++ [.push (b13),.push (b8),.push .dead])∧(Q (.tuple #[]) [b3,(bv f (LtA.ab vs)),.dead] [8,9] [(b13),(b8)]))∧(R.own.n=false→HE (Aj [pb 0 0,.bool true]) (h7) (.tuple #[]) ([.put 0 (b4)]++bI f 3++bI true 6 ++ [.push (b14),.push (b9),.push .dead])∧(Q (.tuple #[]) [b4,(bv f (LtA.ab vs)),.dead] [8,9] [(b14),(b9)])))))∧((!(R.me==R.dest))=false→lC 110 [b1,(bv f (LtA.ab vs)),(bv fo (aJ L)),(bv f (LtA.ab u1)),b0,(bv fg (iB jds)),.dead]∧(∀ g,bm Tryz.prog 66 W 3 X A0 (av 66 g [(0,pb 0 0),(5,pb 4 0),(52,vS fg 5 kg 4),(53,iN (kk fg kg)),(54,iN 0)] [b1,(bv f (LtA.ab vs)),(bv fo (aJ L)),(bv f (LtA.ab u1)),b0,(bv fg (iB jds)),.dead]) (ON (fun (_:Unit) g=>(.exit 0,av 66 g [(0,pb 0 0)] [b1,(bv f (LtA.ab vs)),(bv fo (aJ L)),(bv f (LtA.ab u1)),b0,(bv fg (iB jds)),.dead])) (fun (_:Unit)=>jds = []) (fun (_:Unit) g=>(.exit 0,av 66 g [(0,pb 0 0)] [b2,(bv f (LtA.ab vs)),.dead,(bv f (LtA.ab u1)),b0,(bv fg (iB jds)),(aJ (L++gs.flatMap oc))])) (fun (_:Unit)=>jds≠[])))∧(∀ (_:Unit) (g:Nat→Value),jds = []→(R.own.n=true→HE (r6 [pb 0 0]) (h10) (.tuple #[]) ([.put 0 (b5)]++bI f 3++bI fo 2 ++ [.push (b13),.push (b11),.push .dead])∧(Q (.tuple #[]) [b5,(bv f (LtA.ab vs)),.dead] [8,9] [(b13),(b11)]))∧(R.own.n=false→HE (Aj [pb 0 0,.bool true]) (h10) (.tuple #[]) ([.put 0 (b6)]++bI f 3++bI fo 2 ++ [.push (b14),.push (b12),.push .dead])∧(Q (.tuple #[]) [b6,(bv f (LtA.ab vs)),.dead] [8,9] [(b14),(b12)])))∧(∀ (_:Unit) (g:Nat→Value),jds≠[]→(R.own.n=true→HE (r6 [pb 0 0]) (h7) (.tuple #[]) ([.put 0 (b3)]++bI f 3++bI true 6 ++ [.push (b13),.push (b8),.push .dead])∧(Q (.tuple #[]) [b3,(bv f (LtA.ab vs)),.dead] [8,9] [(b13),(b8)]))∧(R.own.n=false→HE (Aj [pb 0 0,.bool true]) (h7) (.tuple #[]) ([.put 0 (b4)]++bI f 3++bI true 6 ++ [.push (b14),.push (b9),.push .dead])∧(Q (.tuple #[]) [b4,(bv f (LtA.ab vs)),.dead] [8,9] [(b14),(b9)]))))))=WF Tryz.prog SJ Tryz.f96 66 W 3 X 60 Dp ⟨tmsOf [pb 0 0,Iv frm,.agg #[Iv ob.kind,Iv ob.dest,.bool ob.h.n,Iv ob.h.t,Iv ob.h.o,Iv ob.h.r,Iv ob.h.d,Iv ob.h.i,Iv ob.l.1,Iv ob.l.2.1,Iv ob.l.2.2,Iv ob.num]] 0 .leaf,heapOf [b21,(bv f (LtA.ab vs)),(bv fo (aJ L)),.dead] aE,[]⟩ (.e 4 (vS fg 6 kg 4) [.put 0 (b19),.push ((bv f (LtA.ab u1))),.push ((bv fg (iB jds))),.push (.dead)] (.b 21 (.b 29 (.w 40 ((bA R.own)==ob.l) (.e 84 (v20) (gl fo 2 (aJ (L++oc ⟨(Int.ofNat 255),(Int.ofNat 3),R.dest,zH,ob.l,(Int.ofNat 0)⟩))) (.e 89 (.tuple #[]) ([.put 0 (b16)]++bI f 5++bI true 12 ++ [.push (b25),.push (b17),.push .dead]) (.stop 3 [13,14] []))) (.m 45 1110 [0,1,2,5,4,6,3] [0,5,52,53,54] Unit (fun (_:Unit) g=>(.exit 0,av 66 g [(0,pb 0 0)] [b1,(bv f (LtA.ab vs)),(bv fo (aJ L)),(bv f (LtA.ab u1)),b0,(bv fg (iB jds)),.dead])) (fun (_:Unit)=>jds = []) (.b 52 (.e 54 (.tuple #[]) ([.put 0 (b5)]++bI f 3++bI fo 2 ++ [.push (b13),.push (b11),.push .dead]) (.stop 3 [8,9] [])) (.e 54 (.tuple #[]) ([.put 0 (b6)]++bI f 3++bI fo 2 ++ [.push (b14),.push (b12),.push .dead]) (.stop 3 [8,9] []))) Unit (fun (_:Unit) g=>(.exit 0,av 66 g [(0,pb 0 0)] [b2,(bv f (LtA.ab vs)),.dead,(bv f (LtA.ab u1)),b0,(bv fg (iB jds)),(aJ (L++gs.flatMap oc))])) (fun (_:Unit)=>jds≠[]) (.b 52 (.e 54 (.tuple #[]) ([.put 0 (b3)]++bI f 3++bI true 6 ++ [.push (b13),.push (b8),.push .dead]) (.stop 3 [8,9] [])) (.e 54 (.tuple #[]) ([.put 0 (b4)]++bI f 3++bI true 6 ++ [.push (b14),.push (b9),.push .dead]) (.stop 3 [8,9] []))))) (.m 36 1110 [0,1,2,5,4,6,3] [0,5,52,53,54] Unit (fun (_:Unit) g=>(.exit 0,av 66 g [(0,pb 0 0)] [b1,(bv f (LtA.ab vs)),(bv fo (aJ L)),(bv f (LtA.ab u1)),b0,(bv fg (iB jds)),.dead])) (fun (_:Unit)=>jds = []) (.b 43 (.e 45 (.tuple #[]) ([.put 0 (b5)]++bI f 3++bI fo 2 ++ [.push (b13),.push (b11),.push .dead]) (.stop 3 [8,9] [])) (.e 45 (.tuple #[]) ([.put 0 (b6)]++bI f 3++bI fo 2 ++ [.push (b14),.push (b12),.push .dead]) (.stop 3 [8,9] []))) Unit (fun (_:Unit) g=>(.exit 0,av 66 g [(0,pb 0 0)] [b2,(bv f (LtA.ab vs)),.dead,(bv f (LtA.ab u1)),b0,(bv fg (iB jds)),(aJ (L++gs.flatMap oc))])) (fun (_:Unit)=>jds≠[]) (.b 43 (.e 45 (.tuple #[]) ([.put 0 (b3)]++bI f 3++bI true 6 ++ [.push (b13),.push (b8),.push .dead]) (.stop 3 [8,9] [])) (.e 45 (.tuple #[]) ([.put 0 (b4)]++bI f 3++bI true 6 ++ [.push (b14),.push (b9),.push .dead]) (.stop 3 [8,9] []))))) (.m 29 1110 [0,1,2,5,4,6,3] [0,5,52,53,54] Unit (fun (_:Unit) g=>(.exit 0,av 66 g [(0,pb 0 0)] [b1,(bv f (LtA.ab vs)),(bv fo (aJ L)),(bv f (LtA.ab u1)),b0,(bv fg (iB jds)),.dead])) (fun (_:Unit)=>jds = []) (.b 36 (.e 38 (.tuple #[]) ([.put 0 (b5)]++bI f 3++bI fo 2 ++ [.push (b13),.push (b11),.push .dead]) (.stop 3 [8,9] [])) (.e 38 (.tuple #[]) ([.put 0 (b6)]++bI f 3++bI fo 2 ++ [.push (b14),.push (b12),.push .dead]) (.stop 3 [8,9] []))) Unit (fun (_:Unit) g=>(.exit 0,av 66 g [(0,pb 0 0)] [b2,(bv f (LtA.ab vs)),.dead,(bv f (LtA.ab u1)),b0,(bv fg (iB jds)),(aJ (L++gs.flatMap oc))])) (fun (_:Unit)=>jds≠[]) (.b 36 (.e 38 (.tuple #[]) ([.put 0 (b3)]++bI f 3++bI true 6 ++ [.push (b13),.push (b8),.push .dead]) (.stop 3 [8,9] [])) (.e 38 (.tuple #[]) ([.put 0 (b4)]++bI f 3++bI true 6 ++ [.push (b14),.push (b9),.push .dead]) (.stop 3 [8,9] [])))))) Q:=by cases f <;> cases fo <;> cases fg <;> (intros;kernel_rfl)
theorem IV(f fo fg:Bool)(vs u1:List aa)(c n kg m i:Nat)(L M:List Value)(R:ax)(now e frm z:Int)(ob:aY)(jds:List Int)(g:Nat→Value)(Q:Exit→St→Prop):let b0:af:=.cells 30 (oP ⟨0,ob.kind,ob.dest,ob.h,ob.l,ob.num⟩) false;let b1:af:=.cells 95 (cv R (vS f 3 u1.length (c2 f)) [Iv now] (vS fo 2 n 40) e) false;let b2:af:=.cells 95 (cv R (vS f 3 u1.length (c2 f)) [Iv now] (.slice (some ⟨6,0,none⟩) (n+1) 40) e) false;(((decide ((Int.ofNat i)<(Int.ofNat (kk fg kg))))=true→(fstV ((aIndexAddr Tryz.prog 56 (vS fg 5 kg 4) (iN i)).map fun v=>(v,none)):OV)=some (pb 5 i)∧((aLoad Tryz.prog (heapOf [b1,(bv f (LtA.ab vs)),(bv fo (aJ L)),(bv f (LtA.ab u1)),b0,(bv fg (iB jds)),.dead,.dead] aE).get 3 (pb 5 i):OV)=some (Iv z)∧(aAppend Tryz.prog (heapOf [b1,(bv f (LtA.ab vs)),(bv fo (aJ L)),(bv f (LtA.ab u1)),b0,(bv fg (iB jds)),.dead,.dead,.cells 28 [Iv ob.l.1,Iv ob.l.2.1,Iv ob.l.2.2] false,.cells 30 (oP ⟨0,(Int.ofNat 3),R.dest,zH,ob.l,(Int.ofNat 0)⟩) false,.cells 50 (oc ⟨z,(Int.ofNat 3),R.dest,zH,ob.l,(Int.ofNat 0)⟩) false] aE).get 11 [34,34] [vS fo 2 n 40,.slice (some ⟨10,0,none⟩) 1 40]=some (.slice (some ⟨11,0,none⟩) (n+1) 40,(gl fo 2 (aJ (L++oc ⟨z,(Int.ofNat 3),R.dest,zH,ob.l,(Int.ofNat 0)⟩))))∧((some (Iv (wrapF .i64 (Int.ofNat i+Int.ofNat 1))):OV)=some (iN (i+1))∧(lC 110 [b2,(bv f (LtA.ab vs)),.dead,(bv f (LtA.ab u1)),b0,(bv fg (iB jds)),(aJ (L++oc ⟨z,(Int.ofNat 3),R.dest,zH,ob.l,(Int.ofNat 0)⟩))]∧∀ g,Q .normal (av 66 g [(0,pb 0 0),(5,pb 4 0),(52,vS fg 5 kg 4),(53,iN (kk fg kg)),(54,iN (i+1))] [b2,(bv f (LtA.ab vs)),.dead,(bv f (LtA.ab u1)),b0,(bv fg (iB jds)),(aJ (L++oc ⟨z,(Int.ofNat 3),R.dest,zH,ob.l,(Int.ofNat 0)⟩))]))))))∧((decide ((Int.ofNat i)<(Int.ofNat (kk fg kg))))=false→lC 110 [b1,(bv f (LtA.ab vs)),(bv fo (aJ L)),(bv f (LtA.ab u1)),b0,(bv fg (iB jds)),.dead]∧∀ g,Q (.exit 0) (av 66 g [(0,pb 0 0)] [b1,(bv f (LtA.ab vs)),(bv fo (aJ L)),(bv f (LtA.ab u1)),b0,(bv fg (iB jds)),.dead])))=RM Tryz.prog SJ 66 3 60 HV (av 66 g [(0,pb 0 0),(5,pb 4 0),(52,vS fg 5 kg 4),(53,iN (kk fg kg)),(54,iN i)] [b1,(bv f (LtA.ab vs)),(bv fo (aJ L)),(bv f (LtA.ab u1)),b0,(bv fg (iB jds)),.dead]) (.b 0 (.v 1 (pb 5 i) (.v 2 (Iv z) (.e 32 (.slice (some ⟨11,0,none⟩) (n+1) 40) (gl fo 2 (aJ (L++oc ⟨z,(Int.ofNat 3),R.dest,zH,ob.l,(Int.ofNat 0)⟩))) (.v 36 (iN (i+1)) (.stop 110 [0,1,2,3,4,5,11] [0,5,52,53,54]))))) (.stop 110 [0,1,2,3,4,5,6] [0])) Q:=by cases f <;> cases fo <;> cases fg <;> (intros;kernel_rfl)
theorem IW(f fo fg:Bool)(vs u1:List aa)(c n kg m i:Nat)(L M:List Value)(R:ax)(now e frm z:Int)(ob:aY)(jds:List Int)(g:Nat→Value)(Q:Exit→St→Prop):let b0:af:=.cells 95 (cv R (vS f 3 u1.length (c2 f)) [Iv now] (.slice (some ⟨6,0,none⟩) m 40) e) false;let b1:af:=.cells 30 (oP ⟨0,ob.kind,ob.dest,ob.h,ob.l,ob.num⟩) false;let b2:af:=.cells 95 (cv R (vS f 3 u1.length (c2 f)) [Iv now] (.slice (some ⟨6,0,none⟩) (m+1) 40) e) false;(((decide ((Int.ofNat i)<(Int.ofNat (kk fg kg))))=true→(fstV ((aIndexAddr Tryz.prog 56 (vS fg 5 kg 4) (iN i)).map fun v=>(v,none)):OV)=some (pb 5 i)∧((aLoad Tryz.prog (heapOf [b0,(bv f (LtA.ab vs)),.dead,(bv f (LtA.ab u1)),b1,(bv fg (iB jds)),(aJ M),.dead] aE).get 3 (pb 5 i):OV)=some (Iv z)∧(aAppend Tryz.prog (heapOf [b0,(bv f (LtA.ab vs)),.dead,(bv f (LtA.ab u1)),b1,(bv fg (iB jds)),(aJ M),.dead,.cells 28 [Iv ob.l.1,Iv ob.l.2.1,Iv ob.l.2.2] false,.cells 30 (oP ⟨0,(Int.ofNat 3),R.dest,zH,ob.l,(Int.ofNat 0)⟩) false,.cells 50 (oc ⟨z,(Int.ofNat 3),R.dest,zH,ob.l,(Int.ofNat 0)⟩) false] aE).get 11 [34,34] [.slice (some ⟨6,0,none⟩) m 40,.slice (some ⟨10,0,none⟩) 1 40]=some (.slice (some ⟨11,0,none⟩) (m+1) 40,[.put 6 .dead,.push (aJ (M++oc ⟨z,(Int.ofNat 3),R.dest,zH,ob.l,(Int.ofNat 0)⟩))])∧((some (Iv (wrapF .i64 (Int.ofNat i+Int.ofNat 1))):OV)=some (iN (i+1))∧(lC 110 [b2,(bv f (LtA.ab vs)),.dead,(bv f (LtA.ab u1)),b1,(bv fg (iB jds)),(aJ (M++oc ⟨z,(Int.ofNat 3),R.dest,zH,ob.l,(Int.ofNat 0)⟩))]∧∀ g,Q .normal (av 66 g [(0,pb 0 0),(5,pb 4 0),(52,vS fg 5 kg 4),(53,iN (kk fg kg)),(54,iN (i+1))] [b2,(bv f (LtA.ab vs)),.dead,(bv f (LtA.ab u1)),b1,(bv fg (iB jds)),(aJ (M++oc ⟨z,(Int.ofNat 3),R.dest,zH,ob.l,(Int.ofNat 0)⟩))]))))))∧((decide ((Int.ofNat i)<(Int.ofNat (kk fg kg))))=false→lC 110 [b0,(bv f (LtA.ab vs)),.dead,(bv f (LtA.ab u1)),b1,(bv fg (iB jds)),(aJ M)]∧∀ g,Q (.exit 0) (av 66 g [(0,pb 0 0)] [b0,(bv f (LtA.ab vs)),.dead,(bv f (LtA.ab u1)),b1,(bv fg (iB jds)),(aJ M)])))=RM Tryz.prog SJ 66 3 60 HV (av 66 g [(0,pb 0 0),(5,pb 4 0),(52,vS fg 5 kg 4),(53,iN (kk fg kg)),(54,iN i)] [b0,(bv f (LtA.ab vs)),.dead,(bv f (LtA.ab u1)),b1,(bv fg (iB jds)),(aJ M)]) (.b 0 (.v 1 (pb 5 i) (.v 2 (Iv z) (.e 32 (.slice (some ⟨11,0,none⟩) (m+1) 40) [.put 6 .dead,.push (aJ (M++oc ⟨z,(Int.ofNat 3),R.dest,zH,ob.l,(Int.ofNat 0)⟩))] (.v 36 (iN (i+1)) (.stop 110 [0,1,2,3,4,5,11] [0,5,52,53,54]))))) (.stop 110 [0,1,2,3,4,5,6] [0])) Q:=by cases f <;> cases fo <;> cases fg <;> (intros;kernel_rfl)
theorem xV{t o p q s r x:af}(h1:aA o=true)(h2:aA p=true)(h3:aA q=true)(h4:aA r=true)(h5:aA x=true):lC 110 [t,o,p,q,s,r,x]:=fun i hi y hx=>by
 match i,hi with
 | 0,hi=>exact absurd hi (by decide)
 | 1,_=>cases hx; exact bb h1 0
 | 2,_=>cases hx; exact bb h2 0
 | 3,_=>cases hx; exact bb h3 0
 | 4,hi=>exact absurd hi (by decide)
 | 5,_=>cases hx; exact bb h4 0
 | 6,_=>cases hx; exact bb h5 0
 | i+7,_=>simp at hx
theorem Pa:tagg Tryz.prog 3=some false:=by kernel_rfl
theorem Fe:bZ Tryz.prog 3=some 1:=by kernel_rfl
theorem Um{b n i:Nat}(h:i<n):fstV ((aIndexAddr Tryz.prog 56 (vS true b n 4) (iN i)).map fun v=>(v,none))=some (pb b i):=by
 have h1:(0:Int)≤Int.ofNat i∧Int.ofNat i<(n:Int):=⟨Int.natCast_nonneg i,by simpa using h⟩
 simp only [aIndexAddr,iN,vS,ae,cond_true,Tryz.underlying56,Fe];rw [if_pos h1];simp [fstV,pb]
theorem PU{hp:Hp}{b i:Nat}{ids:List Int}{z:Int}(hg:hp.get b=some (iB ids))(h:ids[i]? = some z):aLoad Tryz.prog hp.get 3 (pb b i)=some (.int .i64 z):=by
 simp only [aLoad,pb,hg,iB,Pa,Fe];rw [List.getElem?_map,h]; rfl
set_option maxHeartbeats 1000000 in
theorem MP(f fo fg:Bool)(vs u1:List aa)(c n kg:Nat)(L:List Value)(R:ax)(now e frm:Int)(ob:aY)(jds:List Int)(gs:List aY)(hgs:gs=jds.map (TS.xn R.dest ob.l))(hfg:fg = !jds.isEmpty)(hkg:kg=jds.length)(hj:jds.length<1000000)
  (hLi:L.all inert=true) (hLl:L.length=n*13) (hLn:n<900000) (hfo:fo=false→n=0∧L = []) (W:bh) (X:fe) (g:Nat→Value) :
  bm Tryz.prog 66 W 3 X A0 (av 66 g [(0,pb 0 0),(5,pb 4 0),(52,vS fg 5 kg 4),(53,iN (kk fg kg)),(54,iN (0))] [.cells 95 (cv R (vS f 3 u1.length (c2 f)) [.int .i64 now] (vS fo 2 n 40) e) false,(bv f (LtA.ab vs)),(bv fo (aJ L)),(bv f (LtA.ab u1)),.cells 30 (oP ⟨0,ob.kind,ob.dest,ob.h,ob.l,ob.num⟩) false,(bv fg (iB jds)),.dead]) (ON (fun (_:Unit) g=>(.exit 0,av 66 g [(0,pb 0 0)] [.cells 95 (cv R (vS f 3 u1.length (c2 f)) [.int .i64 now] (vS fo 2 n 40) e) false,(bv f (LtA.ab vs)),(bv fo (aJ L)),(bv f (LtA.ab u1)),.cells 30 (oP ⟨0,ob.kind,ob.dest,ob.h,ob.l,ob.num⟩) false,(bv fg (iB jds)),.dead])) (fun (_:Unit)=>jds = []) (fun (_:Unit) g=>(.exit 0,av 66 g [(0,pb 0 0)] [.cells 95 (cv R (vS f 3 u1.length (c2 f)) [.int .i64 now] (.slice (some ⟨6,0,none⟩) (n+gs.length) 40) e) false,(bv f (LtA.ab vs)),.dead,(bv f (LtA.ab u1)),.cells 30 (oP ⟨0,ob.kind,ob.dest,ob.h,ob.l,ob.num⟩) false,(bv fg (iB jds)),(aJ (L++gs.flatMap oc))])) (fun (_:Unit)=>jds≠[])):=by
 rw [HZ];cases jds with
 | nil =>
   have hfg0:fg=false:=hfg
   subst hfg0 hkg;have hkk:kk false 0=0:=rfl
   have hMi:([]:List Value).all inert=true:=rfl
   refine bm.count 0 (fun i g=>(av 66 g [(0,pb 0 0),(5,pb 4 0),(52,vS false 5 (0:Nat) 4),(53,iN (kk false (0:Nat))),(54,iN (i))] [.cells 95 (cv R (vS f 3 u1.length (c2 f)) [.int .i64 now] (vS fo 2 n 40) e) false,(bv f (LtA.ab vs)),(bv fo (aJ L)),(bv f (LtA.ab u1)),.cells 30 (oP ⟨0,ob.kind,ob.dest,ob.h,ob.l,ob.num⟩) false,(bv false (iB ([]:List Int))),.dead])) (fun i hi=>absurd hi (Nat.not_lt_zero _)) (fun g=>?_) g
   refine bm.n4 pV follows Iu (IV f fo false vs u1 c n 0 0 0 L [] R now e frm 0 ob [] g _) ?_
   refine ⟨fun h_0=>Bool.noConfusion (h_0.symm.trans (Ei hkk)),fun h_0=>⟨xV (aB (LtA.aw _)) (aB (aZ hLi)) (aB (LtA.aw _)) (aB (dV _)) rfl,fun g=>?_⟩⟩
   exact ⟨by simp,.inl ⟨(),g,rfl,rfl,rfl⟩⟩
 | cons z0 jt =>
   have hfg1:fg=true:=hfg
   subst hfg1 hkg;have hkk:kk true (z0::jt).length=(z0::jt).length:=rfl
   have hmk:∀ i z,(z0::jt)[i]? = some z→gs.take (i+1)=gs.take i ++ [TS.xn R.dest ob.l z]:=fun i z hz=>by
     rw [List.take_add_one,hgs,List.getElem?_map,hz]; rfl
   have hcells:∀ i z,(z0::jt)[i]? = some z→L++(gs.take (i+1)).flatMap oc=(L++(gs.take i).flatMap oc)++oc (TS.xn R.dest ob.l z):=fun i z hz=>by
     rw [hmk i z hz,List.flatMap_append]; simp
   have hMI:∀ i,(L++(gs.take i).flatMap oc).all inert=true:=fun i=>jB hLi _
   have hgl:gs.length=(z0::jt).length:=by rw [hgs,List.length_map]
   have hML:∀ i,i≤(z0::jt).length→(L++(gs.take i).flatMap oc).length=(n+i)*13:=fun i hi=>by
     rw [List.length_append,Ep,hLl,List.length_take,hgl,Nat.min_eq_left hi,Nat.add_mul]
   have hld:∀ {i:Nat} {z:Int},(z0::jt)[i]? = some z→∀ {hp:Hp},hp.get 5=some (iB (z0::jt))→aLoad Tryz.prog hp.get 3 (pb 5 i)=some (.int .i64 z):=fun h _ hg=>PU hg h
   refine bm.count (z0::jt).length (fun i g=>match i with | 0=>(av 66 g [(0,pb 0 0),(5,pb 4 0),(52,vS true 5 (z0::jt).length 4),(53,iN (kk true (z0::jt).length)),(54,iN (0))] [.cells 95 (cv R (vS f 3 u1.length (c2 f)) [.int .i64 now] (vS fo 2 n 40) e) false,(bv f (LtA.ab vs)),(bv fo (aJ L)),(bv f (LtA.ab u1)),.cells 30 (oP ⟨0,ob.kind,ob.dest,ob.h,ob.l,ob.num⟩) false,(bv true (iB (z0::jt))),.dead]) | i+1=>(av 66 g [(0,pb 0 0),(5,pb 4 0),(52,vS true 5 (z0::jt).length 4),(53,iN (kk true (z0::jt).length)),(54,iN (i+1))] [.cells 95 (cv R (vS f 3 u1.length (c2 f)) [.int .i64 now] (.slice (some ⟨6,0,none⟩) (n+(i+1)) 40) e) false,(bv f (LtA.ab vs)),.dead,(bv f (LtA.ab u1)),.cells 30 (oP ⟨0,ob.kind,ob.dest,ob.h,ob.l,ob.num⟩) false,(bv true (iB (z0::jt))),(aJ (L++(gs.take (i+1)).flatMap oc))])) (fun i hlt g=>?_) (fun g=>?_) g
   ·have hz:(z0::jt)[i]? = some (z0::jt)[i]:=List.getElem?_eq_getElem hlt
    generalize (z0::jt)[i]=z at hz;have hix:=Um (b:=5) hlt
    have hw:(some (Value.int .i64 (wrapF .i64 (Int.ofNat i+Int.ofNat 1))))=some (iN (i+1)):=bz (by omega)
    have hld:=fun {hp:Hp} (h:hp.get 5=some (iB (z0::jt)))=>hld hz h
    cases i with
    | zero =>
      have hMi:=hMI 1
      rw [hcells 0 z hz] at hMi;have e0:L++(gs.take 0).flatMap oc=L:=by simp
      rw [e0] at hMi;refine bm.n4 pV follows Iu (IV f fo true vs u1 c n (z0::jt).length 0 0 L [] R now e frm z ob (z0::jt) g _) ?_
      refine ⟨fun h_0=>⟨hix,hld (bk rfl),ke hfo (by omega) hLl (bk rfl) (bk rfl),hw,xV (aB (LtA.aw _)) rfl (aB (LtA.aw _)) (aB (dV _)) (aZ hMi),fun g=>?_⟩,fun h_0=>Bool.noConfusion ((Ej hkk hlt).symm.trans h_0)⟩
      refine .inl ⟨rfl,g,?_⟩
      show _=(av 66 g [(0,pb 0 0),(5,pb 4 0),(52,vS true 5 (z0::jt).length 4),(53,iN (kk true (z0::jt).length)),(54,iN (0+1))] [.cells 95 (cv R (vS f 3 u1.length (c2 f)) [.int .i64 now] (.slice (some ⟨6,0,none⟩) (n+(0+1)) 40) e) false,(bv f (LtA.ab vs)),.dead,(bv f (LtA.ab u1)),.cells 30 (oP ⟨0,ob.kind,ob.dest,ob.h,ob.l,ob.num⟩) false,(bv true (iB (z0::jt))),(aJ (L++(gs.take (0+1)).flatMap oc))])
      rw [hcells 0 z hz,e0]; rfl
    | succ i =>
      have hMi:=hMI (i+1+1)
      rw [hcells (i+1) z hz] at hMi;have hMl:=hML (i+1) (by omega)
      have hmn:n+(i+1)<2000010:=by omega
      refine bm.n4 pV follows Iu (IW f fo true vs u1 c n (z0::jt).length (n+(i+1)) (i+1) L (L++(gs.take (i+1)).flatMap oc) R now e frm z ob (z0::jt) g _) ?_
      refine ⟨fun h_0=>⟨hix,hld (bk rfl),p5 hmn hMl (bk rfl) (bk rfl),hw,xV (aB (LtA.aw _)) rfl (aB (LtA.aw _)) (aB (dV _)) (aZ hMi),fun g=>?_⟩,fun h_0=>Bool.noConfusion ((Ej hkk hlt).symm.trans h_0)⟩
      refine .inl ⟨rfl,g,?_⟩
      show _=(av 66 g [(0,pb 0 0),(5,pb 4 0),(52,vS true 5 (z0::jt).length 4),(53,iN (kk true (z0::jt).length)),(54,iN (i+1+1))] [.cells 95 (cv R (vS f 3 u1.length (c2 f)) [.int .i64 now] (.slice (some ⟨6,0,none⟩) (n+(i+1+1)) 40) e) false,(bv f (LtA.ab vs)),.dead,(bv f (LtA.ab u1)),.cells 30 (oP ⟨0,ob.kind,ob.dest,ob.h,ob.l,ob.num⟩) false,(bv true (iB (z0::jt))),(aJ (L++(gs.take (i+1+1)).flatMap oc))])
      rw [hcells (i+1) z hz]; rfl
   ·have hMi:=hMI (jt.length+1)
    refine bm.n4 pV follows Iu (IW f fo true vs u1 c n (z0::jt).length (n+(jt.length+1)) (jt.length+1) L (L++(gs.take (jt.length+1)).flatMap oc) R now e frm 0 ob (z0::jt) g _) ?_
    refine ⟨fun h_0=>Bool.noConfusion (h_0.symm.trans (Ei hkk)),fun h_0=>⟨xV (aB (LtA.aw _)) rfl (aB (LtA.aw _)) (aB (dV _)) (aZ hMi),fun g=>?_⟩⟩
    have e1:gs.take (jt.length+1)=gs:=by rw [List.take_of_length_le]; rw [hgl]; exact Nat.le_refl _
    refine ⟨by simp,.inr ⟨(),g,by simp,rfl,?_⟩⟩
    rw [e1,← show gs.length=jt.length+1 from hgl]
end Go.Proofs.YtgeoommlmddgpaaGreat.LtL
