/- Part 6. -/
import Derived.Test.YtgeoommlmddgpaaGreatXeE
import Derived.Shelf.SlSortCmp.WholeK
set_option linter.unusedVariables false
set_option linter.unusedSimpArgs false
set_option maxRecDepth 100000
namespace Go.Proofs.YtgeoommlmddgpaaGreat.LtL
open Go Go.Proofs Go.Proofs.YtgeoommlmddgpaaGreat.AI Go.RowKit Go.Proofs.YtgeoommlmddgpaaGreat.LtA Go.Shelf
def XC:Nat→Nat
 | 6=>201
 | 14=>215
 | 15=>216
 | 20=>228
 | 21=>229
 | 22=>230
 | 23=>231
 | 24=>232
 | 25=>233
 | 26=>234
 | 27=>235
 | 28=>236
 | 29=>237
 | 46=>245
 | 47=>246
 | 48=>247
 | 49=>248
 | 50=>249
 | 57=>250
 | n=>n
def XF:Nat→Nat
 | 22=>172
 | 24=>28
 | 25=>133
 | 39=>147
 | 45=>220
 | 46=>221
 | 50=>75
 | 53=>104
 | 55=>228
 | 66=>231
 | 70=>235
 | 76=>237
 | 77=>238
 | n=>n
def XE:Ren:=⟨XC,XF,fun n=>n⟩
theorem XD:SlLaysF0.n6 Tryz.prog XE where
 mixed:=follows
 f6:=⟨Tryz.f201.name,by kernel_rfl,by kernel_rfl⟩
 f14:=⟨Tryz.f215.name,by kernel_rfl,by kernel_rfl⟩
 f15:=by kernel_rfl
 f20:=⟨Tryz.f228.name,by kernel_rfl,by kernel_rfl⟩
 f21:=⟨Tryz.f229.name,by kernel_rfl,by kernel_rfl⟩
 f22:=⟨Tryz.f230.name,by kernel_rfl,by kernel_rfl⟩
 f23:=⟨Tryz.f231.name,by kernel_rfl,by kernel_rfl⟩
 f24:=⟨Tryz.f232.name,by kernel_rfl,by kernel_rfl⟩
 f25:=⟨Tryz.f233.name,by kernel_rfl,by kernel_rfl⟩
 f26:=⟨Tryz.f234.name,by kernel_rfl,by kernel_rfl⟩
 f27:=⟨Tryz.f235.name,by kernel_rfl,by kernel_rfl⟩
 f28:=by kernel_rfl
 f29:=by kernel_rfl
 f46:=⟨Tryz.f245.name,by kernel_rfl,by kernel_rfl⟩
 f47:=by kernel_rfl
 f48:=by kernel_rfl
 f49:=⟨Tryz.f248.name,by kernel_rfl,by kernel_rfl⟩
 f50:=⟨Tryz.f249.name,by kernel_rfl,by kernel_rfl⟩
 f57:=⟨Tryz.f250.name,by kernel_rfl,by kernel_rfl⟩
 t0:=by kernel_rfl
 a0:=fun w=>by kernel_rfl
 z0:=fun w=>by kernel_rfl
 v0:=fun w=>by kernel_rfl
 t3:=by kernel_rfl
 a3:=fun w=>by kernel_rfl
 z3:=fun w=>by kernel_rfl
 v3:=fun w=>by kernel_rfl
 t4:=by kernel_rfl
 a4:=fun w=>by kernel_rfl
 z4:=fun w=>by kernel_rfl
 v4:=fun w=>by kernel_rfl
 t5:=by kernel_rfl
 a5:=fun w=>by kernel_rfl
 z5:=fun w=>by kernel_rfl
 v5:=fun w=>by kernel_rfl
 t9:=by kernel_rfl
 a9:=fun w=>by kernel_rfl
 z9:=fun w=>by kernel_rfl
 v9:=fun w=>by kernel_rfl
 t22:=by kernel_rfl
 a22:=fun w=>by kernel_rfl
 z22:=fun w=>by kernel_rfl
 v22:=fun w=>by kernel_rfl
 t25:=by kernel_rfl
 a25:=fun w=>by kernel_rfl
 z25:=fun w=>by kernel_rfl
 v25:=fun w=>by kernel_rfl
 t39:=by kernel_rfl
 a39:=fun w=>by kernel_rfl
 z39:=fun w=>by kernel_rfl
 v39:=fun w=>by kernel_rfl
 t45:=by kernel_rfl
 a45:=fun w=>by kernel_rfl
 z45:=fun w=>by kernel_rfl
 v45:=fun w=>by kernel_rfl
 t46:=by kernel_rfl
 a46:=fun w=>by kernel_rfl
 z46:=fun w=>by kernel_rfl
 v46:=fun w=>by kernel_rfl
 t50:=by kernel_rfl
 a50:=fun w=>by kernel_rfl
 z50:=fun w=>by kernel_rfl
 v50:=fun w=>by kernel_rfl
 t53:=by kernel_rfl
 a53:=fun w=>by kernel_rfl
 z53:=fun w=>by kernel_rfl
 v53:=fun w=>by kernel_rfl
 t55:=by kernel_rfl
 a55:=fun w=>by kernel_rfl
 z55:=fun w=>by kernel_rfl
 v55:=fun w=>by kernel_rfl
 t66:=by kernel_rfl
 a66:=fun w=>by kernel_rfl
 z66:=fun w=>by kernel_rfl
 v66:=fun w=>by kernel_rfl
 t70:=by kernel_rfl
 a70:=fun w=>by kernel_rfl
 z70:=fun w=>by kernel_rfl
 v70:=fun w=>by kernel_rfl
 t76:=by kernel_rfl
 a76:=fun w=>by kernel_rfl
 z76:=fun w=>by kernel_rfl
 v76:=fun w=>by kernel_rfl
 t77:=by kernel_rfl
 a77:=fun w=>by kernel_rfl
 z77:=fun w=>by kernel_rfl
 v77:=fun w=>by kernel_rfl
abbrev aQ:=Int×Int×Int
def lc(x:aQ):List Value:=[.int .i64 x.1,.int .i64 x.2.1,.int .i64 x.2.2]
def cL(ls:List aQ):List Value:=ls.flatMap lc
def lB(ls:List aQ):ae:=.cells 28 (cL ls) false
def wE(x y:aQ):Int:=qL x.1 x.2.1 x.2.2 y.1 y.2.1 y.2.2
def mB(x y:aQ):Bool:=Go.Proofs.ltOf wE x y
theorem Ae{x y:aQ}:wE x y<0↔(x.1<y.1∨x.1=y.1∧(x.2.1<y.2.1∨x.2.1=y.2.1∧x.2.2<y.2.2)):=by
 obtain ⟨a,b,c⟩:=x;obtain ⟨d,e,f⟩:=y;show qL a b c d e f<0↔(a<d∨a=d∧(b<e∨b=e∧c<f))
 unfold qL Iq dO;rcases Int.lt_trichotomy a d with h1 | h1 | h1
 ·have:¬ (a>d):=by omega
  simp [h1]
 ·subst h1
  rcases Int.lt_trichotomy b e with h2 | h2 | h2
  ·simp [h2]
  ·subst h2
   rcases Int.lt_trichotomy c f with h3 | h3 | h3
   ·simp [h3]
   ·subst h3; simp
   ·have q:¬ (c<f):=by omega
    simp [h3,q]
  ·have q:¬ (b<e):=by omega
   have q2:¬ (b=e):=by omega
   simp [h2,q,q2]
 ·have q:¬ (a<d):=by omega
  have q2:¬ (a=d):=by omega
  simp [h1,q,q2]
theorem ni{x y:aQ}:mB x y=true↔(x.1<y.1∨x.1=y.1∧(x.2.1<y.2.1∨x.2.1=y.2.1∧x.2.2<y.2.2)):=by
 unfold mB Go.Proofs.ltOf;rw [decide_eq_true_iff,Ae]
theorem iE{x y:aQ}:mB x y=false↔¬ (x.1<y.1∨x.1=y.1∧(x.2.1<y.2.1∨x.2.1=y.2.1∧x.2.2<y.2.2)):=by
 rw [← ni]; simp
theorem Sf:Go.Sort.SWO (Go.Proofs.ltOf wE) where
 irrefl x:=by
  show mB x x=false
  rw [iE]; omega
 trans x y z h1 h2:=by
  have h1:=ni.1 h1
  have h2:=ni.1 h2
  exact ni.2 (by omega)
 ntrans x y z h1 h2:=by
  have h1:=iE.1 h1
  have h2:=iE.1 h2
  exact iE.2 (by omega)
theorem Ey{x y:aQ}(h1:mB x y=false)(h2:mB y x=false):x=y:=by
 rw [iE] at h1 h2;obtain ⟨a,b,c⟩:=x;obtain ⟨d,e,f⟩:=y;simp only at h1 h2;have:a=d:=by omega
 have:b=e:=by omega
 have:c=f:=by omega
 simp [*]
def dp(ls:List aQ):List aQ:=ls.mergeSort fun x y=>!Go.Proofs.ltOf wE y x
theorem jk(ls:List aQ):(dp ls).length=ls.length:=List.length_mergeSort ..
theorem MK(x:aQ):(lc x).length=3:=rfl
theorem dZ(ls:List aQ):(cL ls).length=ls.length*3:=by unfold cL; rw [nb lc 3 ls fun _ _=>rfl]
theorem eQ(ls:List aQ):(cL ls).all inert=true:=by
 refine List.all_eq_true.2 fun v hv=>?_
 obtain ⟨x,-,hx⟩:=List.mem_flatMap.1 hv;simp only [lc,List.mem_cons,List.not_mem_nil,or_false] at hx;rcases hx with rfl | rfl | rfl <;> rfl
theorem ky(ls:List aQ):aD (lB ls)=true:=eQ ls
theorem vQ{w w':World}(b:I1 w.heap.size w w'):∃ q os,w'=Go.Sort.grow (w.drewN q) os:=by
 refine ⟨w'.drawn-w.drawn,w'.heap.extract w.heap.size w'.heap.size,?_⟩
 have hd:=b.tape.dr trivial
 have hh:w'.heap=w.heap++w'.heap.extract w.heap.size w'.heap.size:=by
  apply Array.ext_getElem?
  intro k;by_cases hk:k<w.heap.size
  ·rw [Array.getElem?_append_left hk,b.block k hk]
  ·rw [Array.getElem?_append_right (by omega),Array.getElem?_extract]
   have hs:=b.size
   by_cases uR:k<w'.heap.size
   ·rw [if_pos (by omega)]; congr 1; omega
   ·rw [if_neg (by omega)]; exact Array.getElem?_eq_none (by omega)
 obtain ⟨h1,t1,d1,o1,u1⟩:=w;obtain ⟨h2,t2,d2,o2,u2⟩:=w';have e1:o2=o1:=b.os
 have e2:t2=t1:=b.tape.eq
 have e3:u2=u1:=b.output
 have e4:d1+(d2-d1)=d2:=by have:d1≤d2:=hd; omega
 subst e1; subst e2; subst e3;show World.mk _ _ _ _ _=World.mk _ _ _ _ _
 simp only [World.drewN,e4];exact congrArg (fun h=>World.mk h _ _ _ _) hh
theorem Hj(GW off size:Nat)(w:World):CmpLays Tryz.prog 105 #[] lc 3 wE GW off size w:=fun m os dk _ x y =>
 (Mi.run [.agg (lc x).toArray,.agg (lc y).toArray] (.int .i64 (wE x y)) rfl _).mono fun e w' h=>⟨h.1,vQ h.2⟩
theorem Jm(ls:List aQ):(Go.Sort.flatK lc 3 ls.toArray).toList=cL ls:=by
 apply List.ext_getElem?
 intro t;have hs:(Go.Sort.flatK lc 3 ls.toArray).size=ls.length*3:=by rw [Go.Sort.size_flatK]; simp
 by_cases ht:t<ls.length*3
 ·have hq:t / 3<ls.length:=by omega
  have hg:ls[t / 3]? = some ls[t / 3]:=List.getElem?_eq_getElem hq
  have h1:=fk lc 3 ls (fun _ _=>rfl) (t / 3) (t % 3) _ hg (by omega)
  rw [show t / 3*3+t % 3=t by omega] at h1
  show _=(ls.flatMap lc)[t]?
  rw [h1,Array.getElem?_toList,Array.getElem?_eq_getElem (by omega),← getElem!_pos _ t (by omega),Go.Sort.get_flatK _ _ _ _ (by simpa using ht)]
  have e:ls.toArray[t / 3]! = ls[t / 3]:=by rw [getElem!_pos _ _ (by simpa using hq)]; simp
  rw [e];have h3:t % 3<(lc ls[t / 3]).length:=by rw [MK]; omega
  rw [List.getElem?_eq_getElem h3,getElem!_pos (lc ls[t / 3]) (t % 3) h3]
 ·rw [Array.getElem?_toList,Array.getElem?_eq_none (by omega),List.getElem?_eq_none (by rw [dZ]; omega)]
open Classical in
noncomputable def gSF:aB:=fun args hp=>match args with
 | [.slice (some ⟨b,0,none⟩) n c,f]=>if h:f = .func (.func 105) #[] #[]∧∃ ls:List aQ,hp.get b=some (lB ls)∧n=ls.length∧0<n∧n<4611686018427387904 then some (.tuple #[],hp.put b (lB (dp h.2.choose))) else none
 | _=>none
theorem qD:∀ {us vs:List aQ},cL us=cL vs→us=vs
 | [],[],_=>rfl
 | [],v::vs,h=>by simp [cL,lc] at h
 | u::us,[],h=>by simp [cL,lc] at h
 | u::us,v::vs,h=>by
   simp only [cL,List.flatMap_cons,lc,List.cons_append,List.nil_append,List.cons.injEq,Value.int.injEq,true_and] at h;obtain ⟨h1,h2,h3,h4⟩:=h;rw [qD (us:=us) (vs:=vs) h4];obtain ⟨a,b,c⟩:=u;obtain ⟨d,e,f⟩:=v;simp only at h1 h2 h3;rw [h1,h2,h3]
theorem Mc{ls:List aQ}{b n c:Nat}{hp:Hp}(hb:hp.get b=some (lB ls))(hn:n=ls.length)(h0:0<n)(h1:n<4611686018427387904):gSF [.slice (some ⟨b,0,none⟩) n c,.func (.func 105) #[] #[]] hp=some (.tuple #[],hp.put b (lB (dp ls))):=by
 unfold gSF;have hx:Value.func (.func 105) #[] #[] = .func (.func 105) #[] #[]∧∃ ls:List aQ,hp.get b=some (lB ls)∧n=ls.length∧0<n∧n<4611686018427387904:=⟨rfl,ls,hb,hn,h0,h1⟩
 simp only;rw [dif_pos hx];have e:=hx.2.choose_spec.1
 have e2:=hb.symm.trans e
 unfold lB at e2;injection e2 with e2
 injection e2 with _ e2 _
 have e3:=qD e2
 exact congrArg (fun l=>some (Value.tuple #[],hp.put b (lB (dp l)))) e3.symm
theorem TL:aq Tryz.prog 201 gSF:=by
 intro args hp v hp' he hk;unfold gSF at he;split at he
 case h_2=>cases he
 rename_i b n c f;split at he
 case isFalse=>cases he
 rename_i hx;obtain ⟨hf,hex⟩:=hx;obtain ⟨hb,hn,hn0,hn1⟩:=hex.choose_spec;generalize hex.choose=ls at *;cases he;subst hf;have hlt:=cU hk hb
 have hkput:(hp.put b (lB (dp ls))).ok:=fun c hc=>by
  rw [Hp.kL] at hc;rw [Hp.dv,if_neg (by omega)]
  exact hk c hc
 refine ⟨hkput,by rw [Hp.kL]; exact Nat.le_refl _,fun m h w args' hfr s ra=>.inr ⟨cA Tryz.func201 (by rfl) (by kernel_rfl),?_⟩⟩
 obtain ⟨v1,bs1,e1,r1,q1⟩:=ra.of_cons;obtain ⟨v2,bs2,e2,r2,q2⟩:=q1.of_cons;have e3:=q2.of_nil
 subst e3;obtain ⟨b',off,r,off',cap,ea,rfl,hcap,hd⟩:=r1.of_slice;cases ea;have gb:=bu hk h b _ hb
 rcases hd with hd | ⟨δ,E,hm,hoff,-⟩
 ·rw [gb] at hd; cases hd
 ·have ho:off' = δ:=by
   rcases hoff with h1 | h1
   ·omega
   ·omega
  subst ho;have ev2:v2 = .func (.func 105) #[] #[]:=by
    obtain ⟨a',c',rfl,⟨s1,_⟩,s3,_⟩:=r2.Aa;have z1:a' = #[]:=Array.eq_empty_of_size_eq_zero (by simpa using s1.symm)
    have z2:c' = #[]:=Array.eq_empty_of_size_eq_zero (by simpa using s3.symm)
    subst z1; subst z2; rfl
  subst ev2;have eargs:args' = #[.slice (some ⟨r,off',none⟩) n cap,.func (.func 105) #[] #[]]:=by
    have:args'.toList = [.slice (some ⟨r,off',none⟩) n cap,.func (.func 105) #[] #[]]:=by rw [e1,e2]
    cases args'; simp_all
  subst eargs;obtain ⟨o,ho',hbr⟩:=s.dom b _ hm;rw [gb] at ho'; cases ho';obtain ⟨cc,fr,g1,g2,g3,g4,g5⟩:=hbr;have hlen:(cL ls).length=ls.length*3:=dZ ls
  simp only at g1 g2 g3 g4 g5;have hr:r<w.heap.size:=(Array.getElem?_eq_some_iff.1 g1).1
  have hH:Go.Sort.HoldsK lc 3 w r off' ls.toArray:=by
    intro j hj;have hj':j<ls.length*3:=by rw [Go.Sort.size_flatK] at hj; simpa using hj
    have hjL:j<(cL ls).length:=by omega
    have hcj:off'+j<cc.size:=by omega
    have hv:=g4 j _ cc[off'+j] (List.getElem?_eq_getElem hjL) (Array.getElem?_eq_getElem hcj)
    have hin:=List.all_eq_true.1 (eQ ls) _ (List.getElem_mem hjL)
    have ev:cc[off'+j]=(cL ls)[j]:=by
      obtain ⟨x,-,hx⟩:=List.mem_flatMap.1 (List.getElem_mem hjL);simp only [lc,List.mem_cons,List.not_mem_nil,or_false] at hx;rcases hx with hx | hx | hx <;> (rw [hx] at hv ⊢; exact hv.of_int)
    constructor
    ·rw [cell_of g1,Array.getElem?_eq_getElem hcj,ev]
     have:=congrArg (fun l=>l[j]?) (Jm ls)
     simp only [Array.getElem?_toList] at this
     rw [Array.getElem?_eq_getElem hj,List.getElem?_eq_getElem hjL] at this
     rw [getElem!_pos _ j hj];simpa using this.symm
    ·unfold World.frozen?
     rw [g1];have:=g5.1 trivial (off'+j) (by omega)
     obtain ⟨lo,hi⟩:=fr;simp only at this ⊢;simp only [Bool.and_eq_false_imp,decide_eq_true_eq,decide_eq_false_iff_not];intro q; omega
  have eg:∀ args w,(callFunc 105 args).run Tryz.prog w = .ok (.enter 105 args) w:=fun args w=>cA Tryz.func105 (by rfl) (by kernel_rfl)
  have hcon:=AnyQ.slices_SortFunc XD 3 (fun w=>by kernel_rfl) (fun w=>by kernel_rfl) lc (fun _=>rfl) (fun x v hv=>by simp [lc] at hv; rcases hv with rfl | rfl | rfl <;> rfl) wE Sf 105 #[] r off' cap ls.toArray w eg (Hj r off' _ w) hH hr (by simp; omega)
  change Calls Tryz.prog 201 _ _ _ at hcon
  rw [show ls.toArray.size=n by simp [hn]] at hcon
  refine hcon.mono fun e w' hh=>?_
  obtain ⟨rfl,d',q,os,dg,hs1,rfl⟩:=hh;have hd':d'.toList=dp ls:=by
    have:=Go.Sort.sorted_unique_holds Sf (fun x y=>Ey) ls.toArray d' (by rw [show ls.toArray.size=n by simp [hn]]; exact dg) (by rw [show ls.toArray.size=n by simp [hn]]; exact hs1)
    simpa [dp] using this
  have hds:d'.size=n:=by
    have:=congrArg List.length hd'
    rw [jk,Array.length_toList] at this;omega
  have ed:d'=(dp ls).toArray:=by rw [← hd']
  refine ⟨.tuple #[],rfl,m,?_,.tuple rfl fun i v v' q1 _=>by simp at q1⟩

  have hheap:∀ k,(Go.Proofs.sortWorldK lc 3 w r off' q d' os).heap[k]? = if k<w.heap.size then (if k=r then (w.heap[k]?).map (Go.Sort.onCells (Go.Sort.putCells id off' (Go.Sort.flatK lc 3 d'))) else w.heap[k]?) else os[k-w.heap.size]?:=by
    intro k;unfold Go.Proofs.sortWorldK Go.Sort.grow Go.Sort.putRowK Go.Sort.putRow Go.Sort.mapBlock Go.Sort.ahead;simp only [Array.getElem?_append,Array.size_modify,Array.getElem?_modify]
    by_cases vR:k<w.heap.size
    ·rw [if_pos vR,if_pos vR]
     by_cases uR:r=k
     ·subst uR; simp
     ·rw [if_neg uR,if_neg (fun e=>uR e.symm)]
    ·rw [if_neg vR,if_neg vR]
  have kp:gF ⟨w,fun k=>k=(r,off',E).1⟩ (Go.Proofs.sortWorldK lc 3 w r off' q d' os):=by
    refine ⟨rfl,⟨rfl,fun _=>Nat.le_add_right _ _⟩,rfl,?_,fun k vR hne=>?_⟩
    ·unfold Go.Proofs.sortWorldK Go.Sort.grow Go.Sort.putRowK Go.Sort.putRow Go.Sort.mapBlock Go.Sort.ahead; simp
    ·rw [hheap,if_pos vR,if_neg hne]
  have e0:(heapOf [lB (dp ls),.dead] aE).get 0=some (lB (dp ls)):=by rw [al]; rfl
  have fsz:(Go.Sort.flatK lc 3 d').size=n*3:=by rw [Go.Sort.size_flatK,hds]
  have hsim:cd (fun b=>if b=0 then some (r,off',E) else none) (heapOf [lB (dp ls),.dead] aE).get (Go.Proofs.sortWorldK lc 3 w r off' q d' os):=by
    refine ⟨fun b x hx=>?_,fun b b' x x' hx hx' _ _ _=>?_⟩
    ·by_cases hb0:b=0
     ·subst hb0
      simp only [if_true,Option.some.injEq] at hx;subst hx;refine ⟨_,e0,Go.Sort.putCells id off' (Go.Sort.flatK lc 3 d') cc,fr,?_,?_,?_,fun i u u' p1 p2=>?_,?_⟩
      ·rw [hheap,if_pos hr,if_pos rfl,g1]; rfl
      ·rw [dZ,jk]; rw [hlen] at g2; exact g2
      ·show E≤_
       simpa [Go.Sort.putCells] using g3
      ·have hi:i<(cL (dp ls)).length:=(List.getElem?_eq_some_iff.1 p1).1
       have hi':i<n*3:=by rw [dZ,jk] at hi; omega
       have hci:off'+i<cc.size:=by omega
       have hu:u'=(Go.Sort.flatK lc 3 d')[i]!:=by
         simp only [Go.Sort.putCells,Array.getElem?_mapIdx,Array.getElem?_eq_getElem hci,Option.map_some,Option.some.injEq] at p2
         rw [if_pos ⟨by omega,by omega⟩,show off'+i-off'=i by omega] at p2
         exact p2.symm
       have hfl:(Go.Sort.flatK lc 3 d')[i]? = some u:=by
         have:=congrArg (fun l=>l[i]?) (Jm (dp ls))
         simp only [Array.getElem?_toList] at this
         rw [ed,this,p1]
       have:u'=u:=by
         rw [hu,getElem!_pos _ i (by omega)]
         rw [Array.getElem?_eq_getElem (by omega)] at hfl
         simpa using hfl
       subst this;have hin:=List.all_eq_true.1 (eQ (dp ls)) _ (List.mem_of_getElem? p1)
       obtain ⟨x,-,hx⟩:=List.mem_flatMap.1 (List.mem_of_getElem? p1);simp only [lc,List.mem_cons,List.not_mem_nil,or_false] at hx;rcases hx with rfl | rfl | rfl <;> exact .flat rfl
      ·refine ⟨fun _ j hj=>g5.1 trivial j (by simpa [Go.Sort.putCells] using hj),fun h=>by cases h⟩
     ·rw [if_neg hb0] at hx; cases hx
    ·by_cases hb0:b=0
     ·by_cases hb1:b'=0
      ·rw [hb0,hb1]
      ·rw [if_neg hb1] at hx'; cases hx'
     ·rw [if_neg hb0] at hx; cases hx
  exact wO (x:=(r,off',E)) hk s hb hm kp hsim (by simp) e0 (eQ _)
end Go.Proofs.YtgeoommlmddgpaaGreat.LtL
namespace Go.Proofs.YtgeoommlmddgpaaGreat.LtL
open Go Go.Proofs Go.Proofs.YtgeoommlmddgpaaGreat.AI Go.RowKit Go.Proofs.YtgeoommlmddgpaaGreat.Sort Go.Proofs.YtgeoommlmddgpaaGreat.LtA
def lA(x:aQ):Value:=.agg ⟨lc x⟩
def cp(off n:Nat):Value:=.slice (some ⟨0,off,none⟩) n 11
noncomputable def l5:Ext:=cR Tryz.prog []
theorem eM:ExtOk Tryz.prog l5:=aS .nil
noncomputable def pw:Code:=(Tryz.f202.body).getD .skip
theorem ntmps45:Tryz.f202.ntmps=61:=by kernel_rfl
theorem Xc(v:Value)(O:List ae)(g:Nat→Value):retVal Tryz.prog Tryz.f202 (av 61 g [(2,v)] O)=some v:=by kernel_rfl
def cT:Code→Code
 | .cond _ a _=>a
 | c=>c
noncomputable def MC:Code:=sL (pw)
theorem R9:codeSafe Tryz.prog 61 MC=true:=by kernel_rfl
noncomputable def D':Code:=sL (sL (sR (pw)))
theorem Sa:codeSafe Tryz.prog 61 D'=true:=by kernel_rfl
noncomputable def Ea:Code:=sR (sL (sR (pw)))
theorem Sb:codeSafe Tryz.prog 61 Ea=true:=by kernel_rfl
noncomputable def MD:Code:=sL (sL (sR (sR (pw))))
theorem Sc:codeSafe Tryz.prog 61 MD=true:=by kernel_rfl
noncomputable def zz:Code:=sL (nO (jn (sR (sL (sR (sR (pw)))))))
theorem Fw:codeSafe Tryz.prog 61 zz=true:=by kernel_rfl
noncomputable def tY:Code:=sL (jn (sL (sR (nO (jn (sR (sL (sR (sR (pw))))))))))
theorem IB:codeSafe Tryz.prog 61 tY=true:=by kernel_rfl
noncomputable def qA:Code:=cT (sR (jn (sL (sR (nO (jn (sR (sL (sR (sR (pw)))))))))))
noncomputable def Jx:Code:=sR (sR (nO (jn (sR (sL (sR (sR (pw))))))))
noncomputable def vW:Code:=sL (sL (sR (cT (sR (jn (sL (sR (nO (jn (sR (sL (sR (sR (pw))))))))))))))
theorem NG:codeSafe Tryz.prog 61 vW=true:=by kernel_rfl
noncomputable def qz:Code:=nO (jn (sR (sL (sR (cT (sR (jn (sL (sR (nO (jn (sR (sL (sR (sR (pw))))))))))))))))
theorem yx:codeSafe Tryz.prog 61 qz=true:=by kernel_rfl
noncomputable def vX:Code:=sR (sR (cT (sR (jn (sL (sR (nO (jn (sR (sL (sR (sR (pw)))))))))))))
theorem NH:codeSafe Tryz.prog 61 vX=true:=by kernel_rfl
noncomputable def ME:Code:=sR (sR (sR (pw)))
theorem Sd:codeSafe Tryz.prog 61 ME=true:=by kernel_rfl
noncomputable abbrev Di:Code:=.seq MC (.seq (.seq D' Ea) (.seq (.seq MD (.block 0 (.loop (.seq zz (.seq (.block 1 (.seq tY (.cond (.tmp 25) (.seq (sL qA) (.seq (.seq vW (.block 2 (.loop qz))) vX)) .skip))) Jx))))) ME))
theorem Hm:Tryz.f202.body=some Di:=by kernel_rfl
section
theorem WR(us:List aQ)(n:Nat):(execN Tryz.prog (aCall Tryz.prog l5 5) (callN Tryz.prog l5 5) 30 MC ⟨tmsOf [cp 0 n] 0 .leaf,heapOf [lB us,.dead] aE,[]⟩ (ei [])).map (fun y=>(look2 1 [0] [0] (y.1,y.2.1),y.2.2.q,y.2.2.r,y.2.2.x)) =
 some ((.normal,[lB us],[(0,cp 0 n)],true),[],[],[]):=by kernel_rfl
end
section
theorem WS(us:List aQ)(n:Nat)(g:Nat→Value):(execN Tryz.prog (aCall Tryz.prog l5 5) (callN Tryz.prog l5 5) 30 (.seq D' Ea) (av 61 g [(0,cp 0 n)] [lB us]) (ei [(2,.v (.bool true))])).map (fun y=>(look2 1 [0] [2] (y.1,y.2.1),y.2.2.q,y.2.2.r,y.2.2.x)) =
 some ((.ret,[lB us],[(2,cp 0 n)],true),[(some (.bool (decide ((Int.ofNat n)<(Int.ofNat 2)))),.bool true)],[],[]):=by kernel_rfl
theorem WT(us:List aQ)(n:Nat)(g:Nat→Value):(execN Tryz.prog (aCall Tryz.prog l5 5) (callN Tryz.prog l5 5) 30 (.seq D' Ea) (av 61 g [(0,cp 0 n)] [lB us]) (ei [(2,.v (.bool false))])).map (fun y=>(look2 1 [0] [0] (y.1,y.2.1),y.2.2.q,y.2.2.r,y.2.2.x)) =
 some ((.normal,[lB us],[(0,cp 0 n)],true),[(some (.bool (decide ((Int.ofNat n)<(Int.ofNat 2)))),.bool false)],[],[]):=by kernel_rfl
end
section
theorem WV(us:List aQ)(n:Nat)(g:Nat→Value):(execN Tryz.prog (aCall Tryz.prog l5 5) (callN Tryz.prog l5 5) 30 MD (av 61 g [(0,cp 0 n)] [lB us]) (ei [])).map (fun y=>(look2 1 [0] [0,3] (y.1,y.2.1),y.2.2.q,y.2.2.r,y.2.2.x)) =
 some ((.normal,[lB us],[(0,cp 0 n),(3,iN 1)],true),[],[],[]):=by kernel_rfl
end
section
theorem W4(us:List aQ)(n q:Nat)(g:Nat→Value):(execN Tryz.prog (aCall Tryz.prog l5 5) (callN Tryz.prog l5 5) 30 zz (av 61 g [(0,cp 0 n),(3,iN (q+1))] [lB us]) (ei [(3,.v (.bool true))])).map (fun y=>(look2 1 [0] [0,3] (y.1,y.2.1),y.2.2.q,y.2.2.r,y.2.2.x)) =
 some ((.normal,[lB us],[(0,cp 0 n),(3,iN (q+1))],true),[(some (.bool (decide ((Int.ofNat (q+1))<(Int.ofNat n)))),.bool true)],[],[]):=by kernel_rfl
theorem W5(us:List aQ)(n q:Nat)(g:Nat→Value):(execN Tryz.prog (aCall Tryz.prog l5 5) (callN Tryz.prog l5 5) 30 zz (av 61 g [(0,cp 0 n),(3,iN (q+1))] [lB us]) (ei [(3,.v (.bool false))])).map (fun y=>(look2 1 [0] [0,3] (y.1,y.2.1),y.2.2.q,y.2.2.r,y.2.2.x)) =
 some ((.exit 0,[lB us],[(0,cp 0 n),(3,iN (q+1))],true),[(some (.bool (decide ((Int.ofNat (q+1))<(Int.ofNat n)))),.bool false)],[],[]):=by kernel_rfl
end
section
theorem W6(us:List aQ)(n q:Nat)(x y:aQ)(g:Nat→Value):(execN Tryz.prog (aCall Tryz.prog l5 5) (callN Tryz.prog l5 5) 30 tY (av 61 g [(0,cp 0 n),(3,iN (q+1))] [lB us]) (ei [(9,.v (.bool true)),(8,.v (lA y)),(7,.v (pb 0 (q*3))),(6,.v (iN q)),(3,.v (lA x)),(2,.v (pb 0 ((q+1)*3)))])).map (fun y=>(look2 1 [0] [0,3,25] (y.1,y.2.1),y.2.2.q,y.2.2.r,y.2.2.x)) =
 some ((.normal,[lB us],[(0,cp 0 n),(3,iN (q+1)),(25,.bool true)],true),[(fstV ((aBin Tryz.prog .eql 28 (lA x) (lA y)).map fun v=>(v,none)),.bool true),(aLoad Tryz.prog (heapOf [lB us,.dead] aE).get 28 (pb 0 (q*3)),lA y),(fstV ((aIndexAddr Tryz.prog 172 (cp 0 n) (iN q)).map fun v=>(v,none)),pb 0 (q*3)),(some (.int .i64 (wrapF .i64 (Int.ofNat (q+1)-Int.ofNat 1))),iN q),(aLoad Tryz.prog (heapOf [lB us,.dead] aE).get 28 (pb 0 ((q+1)*3)),lA x),(fstV ((aIndexAddr Tryz.prog 172 (cp 0 n) (iN (q+1))).map fun v=>(v,none)),pb 0 ((q+1)*3))],[],[]):=by kernel_rfl
end
noncomputable abbrev PU:Code:=.seq (.block 1 (.seq tY (.cond (.tmp 25) (.seq (sL qA) (.seq (.seq vW (.block 2 (.loop qz))) vX)) .skip))) Jx
theorem V4:codeSafe Tryz.prog 61 PU=true:=by kernel_rfl
section
theorem W3(us:List aQ)(n q:Nat)(x y:aQ)(g:Nat→Value):(execN Tryz.prog (aCall Tryz.prog l5 5) (callN Tryz.prog l5 5) 30 PU (av 61 g [(0,cp 0 n),(3,iN (q+1))] [lB us]) (ei [(11,.v (iN ((q+1)+1))),(9,.v (.bool false)),(8,.v (lA y)),(7,.v (pb 0 (q*3))),(6,.v (iN q)),(3,.v (lA x)),(2,.v (pb 0 ((q+1)*3)))])).map (fun y=>(look2 1 [0] [0,3] (y.1,y.2.1),y.2.2.q,y.2.2.r,y.2.2.x)) =
 some ((.normal,[lB us],[(0,cp 0 n),(3,iN ((q+1)+1))],true),[(some (.int .i64 (wrapF .i64 (Int.ofNat (q+1)+Int.ofNat 1))),iN ((q+1)+1)),(fstV ((aBin Tryz.prog .eql 28 (lA x) (lA y)).map fun v=>(v,none)),.bool false),(aLoad Tryz.prog (heapOf [lB us,.dead] aE).get 28 (pb 0 (q*3)),lA y),(fstV ((aIndexAddr Tryz.prog 172 (cp 0 n) (iN q)).map fun v=>(v,none)),pb 0 (q*3)),(some (.int .i64 (wrapF .i64 (Int.ofNat (q+1)-Int.ofNat 1))),iN q),(aLoad Tryz.prog (heapOf [lB us,.dead] aE).get 28 (pb 0 ((q+1)*3)),lA x),(fstV ((aIndexAddr Tryz.prog 172 (cp 0 n) (iN (q+1))).map fun v=>(v,none)),pb 0 ((q+1)*3))],[],[]):=by kernel_rfl
end
section
end
section
theorem W2(us:List aQ)(n q:Nat)(g:Nat→Value):(execN Tryz.prog (aCall Tryz.prog l5 5) (callN Tryz.prog l5 5) 30 (sL qA) (av 61 g [(0,cp 0 n),(3,iN (q+1))] [lB us]) (ei [(2,.v (cp ((q+1)*3) (n-(q+1))))])).map (fun y=>(look2 1 [0] [0,3,4] (y.1,y.2.1),y.2.2.q,y.2.2.r,y.2.2.x)) =
 some ((.normal,[lB us],[(0,cp 0 n),(3,iN (q+1)),(4,cp ((q+1)*3) (n-(q+1)))],true),[(fstV ((aSlice Tryz.prog 172 (cp 0 n) (some (iN (q+1))) none none).map fun v=>(v,none)),cp ((q+1)*3) (n-(q+1)))],[],[]):=by kernel_rfl
end
section
theorem WX(us:List aQ)(n p:Nat)(g:Nat→Value):(execN Tryz.prog (aCall Tryz.prog l5 5) (callN Tryz.prog l5 5) 30 vW (av 61 g [(0,cp 0 n),(3,iN (p+1)),(4,cp ((p+1)*3) (n-(p+1)))] [lB us]) (ei [])).map (fun y=>(look2 1 [0] [0,3,4,5] (y.1,y.2.1),y.2.2.q,y.2.2.r,y.2.2.x)) =
 some ((.normal,[lB us],[(0,cp 0 n),(3,iN (p+1)),(4,cp ((p+1)*3) (n-(p+1))),(5,iN 1)],true),[],[],[]):=by kernel_rfl
end
section
theorem WY(us vs:List aQ)(n p j m:Nat)(x y:aQ)(g:Nat→Value):(execN Tryz.prog (aCall Tryz.prog l5 5) (callN Tryz.prog l5 5) 30 qz (av 61 g [(0,cp 0 n),(3,iN m),(4,cp ((p+1)*3) (n-(p+1))),(5,iN (j+1))] [lB us]) (ei [(26,.v (iN ((j+1)+1))),(23,.v (iN (m+1))),(21,.e undef [.put 0 (lB vs)]),(20,.v (pb 0 (m*3))),(19,.v (lA x)),(18,.v (pb 0 (((p+1)+(j+1))*3))),(13,.v (.bool true)),(12,.v (lA y)),(11,.v (pb 0 (((p+1)+j)*3))),(10,.v (iN j)),(7,.v (lA x)),(6,.v (pb 0 (((p+1)+(j+1))*3))),(3,.v (.bool true))])).map (fun y=>(look2 1 [0] [0,3,4,5] (y.1,y.2.1),y.2.2.q,y.2.2.r,y.2.2.x)) =
 some ((.normal,[lB vs],[(0,cp 0 n),(3,iN (m+1)),(4,cp ((p+1)*3) (n-(p+1))),(5,iN ((j+1)+1))],true),[(some (.int .i64 (wrapF .i64 (Int.ofNat (j+1)+Int.ofNat 1))),iN ((j+1)+1)),(some (.int .i64 (wrapF .i64 (Int.ofNat m+Int.ofNat 1))),iN (m+1)),(fstV ((aIndexAddr Tryz.prog 172 (cp 0 n) (iN m)).map fun v=>(v,none)),pb 0 (m*3)),(aLoad Tryz.prog (heapOf [lB us,.dead] aE).get 28 (pb 0 (((p+1)+(j+1))*3)),lA x),(fstV ((aIndexAddr Tryz.prog 172 (cp ((p+1)*3) (n-(p+1))) (iN (j+1))).map fun v=>(v,none)),pb 0 (((p+1)+(j+1))*3)),(fstV ((aBin Tryz.prog .neq 28 (lA x) (lA y)).map fun v=>(v,none)),.bool true),(aLoad Tryz.prog (heapOf [lB us,.dead] aE).get 28 (pb 0 (((p+1)+j)*3)),lA y),(fstV ((aIndexAddr Tryz.prog 172 (cp ((p+1)*3) (n-(p+1))) (iN j)).map fun v=>(v,none)),pb 0 (((p+1)+j)*3)),(some (.int .i64 (wrapF .i64 (Int.ofNat (j+1)-Int.ofNat 1))),iN j),(aLoad Tryz.prog (heapOf [lB us,.dead] aE).get 28 (pb 0 (((p+1)+(j+1))*3)),lA x),(fstV ((aIndexAddr Tryz.prog 172 (cp ((p+1)*3) (n-(p+1))) (iN (j+1))).map fun v=>(v,none)),pb 0 (((p+1)+(j+1))*3)),(some (.bool (decide ((Int.ofNat (j+1))<(Int.ofNat (n-(p+1)))))),.bool true)],[],[((aStore Tryz.prog (heapOf [lB us,.dead] aE).get 28 (pb 0 (m*3)) (lA x)).map (fun es=>(undef,es)),(undef,[.put 0 (lB vs)]))]):=by kernel_rfl
theorem WZ(us vs:List aQ)(n p j m:Nat)(x y:aQ)(g:Nat→Value):(execN Tryz.prog (aCall Tryz.prog l5 5) (callN Tryz.prog l5 5) 30 qz (av 61 g [(0,cp 0 n),(3,iN m),(4,cp ((p+1)*3) (n-(p+1))),(5,iN (j+1))] [lB us]) (ei [(15,.v (iN ((j+1)+1))),(13,.v (.bool false)),(12,.v (lA y)),(11,.v (pb 0 (((p+1)+j)*3))),(10,.v (iN j)),(7,.v (lA x)),(6,.v (pb 0 (((p+1)+(j+1))*3))),(3,.v (.bool true))])).map (fun y=>(look2 1 [0] [0,3,4,5] (y.1,y.2.1),y.2.2.q,y.2.2.r,y.2.2.x)) =
 some ((.normal,[lB us],[(0,cp 0 n),(3,iN m),(4,cp ((p+1)*3) (n-(p+1))),(5,iN ((j+1)+1))],true),[(some (.int .i64 (wrapF .i64 (Int.ofNat (j+1)+Int.ofNat 1))),iN ((j+1)+1)),(fstV ((aBin Tryz.prog .neq 28 (lA x) (lA y)).map fun v=>(v,none)),.bool false),(aLoad Tryz.prog (heapOf [lB us,.dead] aE).get 28 (pb 0 (((p+1)+j)*3)),lA y),(fstV ((aIndexAddr Tryz.prog 172 (cp ((p+1)*3) (n-(p+1))) (iN j)).map fun v=>(v,none)),pb 0 (((p+1)+j)*3)),(some (.int .i64 (wrapF .i64 (Int.ofNat (j+1)-Int.ofNat 1))),iN j),(aLoad Tryz.prog (heapOf [lB us,.dead] aE).get 28 (pb 0 (((p+1)+(j+1))*3)),lA x),(fstV ((aIndexAddr Tryz.prog 172 (cp ((p+1)*3) (n-(p+1))) (iN (j+1))).map fun v=>(v,none)),pb 0 (((p+1)+(j+1))*3)),(some (.bool (decide ((Int.ofNat (j+1))<(Int.ofNat (n-(p+1)))))),.bool true)],[],[]):=by kernel_rfl
theorem W0(us vs:List aQ)(n p j m:Nat)(x y:aQ)(g:Nat→Value):(execN Tryz.prog (aCall Tryz.prog l5 5) (callN Tryz.prog l5 5) 30 qz (av 61 g [(0,cp 0 n),(3,iN m),(4,cp ((p+1)*3) (n-(p+1))),(5,iN (j+1))] [lB us]) (ei [(3,.v (.bool false))])).map (fun y=>(look2 1 [0] [0,3] (y.1,y.2.1),y.2.2.q,y.2.2.r,y.2.2.x)) =
 some ((.exit 2,[lB us],[(0,cp 0 n),(3,iN m)],true),[(some (.bool (decide ((Int.ofNat (j+1))<(Int.ofNat (n-(p+1)))))),.bool false)],[],[]):=by kernel_rfl
end
section
theorem W7(us:List aQ)(zs:List Value)(n m:Nat)(g:Nat→Value):(execN Tryz.prog (aCall Tryz.prog l5 5) (callN Tryz.prog l5 5) 30 vX (av 61 g [(0,cp 0 n),(3,iN m)] [lB us]) (ei [(6,.v (cp 0 m)),(3,.e (.tuple #[]) [.put 0 (.cells 28 zs false)]),(2,.v (cp (m*3) (n-m)))])).map (fun y=>(look2 1 [0] [2] (y.1,y.2.1),y.2.2.q,y.2.2.r,y.2.2.x)) =
 some ((.ret,[.cells 28 zs false],[(2,cp 0 m)],true),[(fstV ((aSlice Tryz.prog 172 (cp 0 n) none (some (iN m)) none).map fun v=>(v,none)),cp 0 m),(fstV ((aSlice Tryz.prog 172 (cp 0 n) (some (iN m)) none none).map fun v=>(v,none)),cp (m*3) (n-m))],[],[(aClear Tryz.prog (heapOf [lB us,.dead] aE).get [172] [cp (m*3) (n-m)],(.tuple #[],[.put 0 (.cells 28 zs false)]))]):=by kernel_rfl
end
section
theorem WW(us:List aQ)(n:Nat)(g:Nat→Value):(execN Tryz.prog (aCall Tryz.prog l5 5) (callN Tryz.prog l5 5) 30 ME (av 61 g [(0,cp 0 n)] [lB us]) (ei [])).map (fun y=>(look2 1 [0] [2] (y.1,y.2.1),y.2.2.q,y.2.2.r,y.2.2.x)) =
 some ((.ret,[lB us],[(2,cp 0 n)],true),[],[],[]):=by kernel_rfl
end
def mX(a:List aQ)(y:aQ):List aQ:=if a.getLast? = some y then a else a ++ [y]
def iy(ls:List aQ):List aQ:=ls.foldl mX []
theorem vw(l:List aQ)(y:aQ):iy (l ++ [y])=mX (iy l) y:=by unfold iy; rw [List.foldl_append]; rfl
theorem AU(a:List aQ)(y:aQ):(mX a y).getLast? = some y:=by
 unfold mX;split
 ·assumption
 ·simp
theorem vv{l:List aQ}{y:aQ}(h:l.getLast? = some y):(iy l).getLast? = some y:=by
 rcases List.eq_nil_or_concat l with rfl | ⟨l',z,rfl⟩
 ·cases h
 ·rw [List.concat_eq_append] at h ⊢
  have:z=y:=by simpa using h
  rw [vw,AU,this]
theorem lF{l:List aQ}{i:Nat}{x:aQ}(h:l[i]? = some x):l.take (i+1)=l.take i ++ [x]:=by
 rw [List.take_add_one,h]; rfl
theorem BC{l:List aQ}{i:Nat}{x:aQ}(h:l[i]? = some x):(l.take (i+1)).getLast? = some x:=by
 rw [lF h]; simp
theorem Hq(l:List aQ):(iy l).length≤l.length:=by
 have key:∀ (l a:List aQ),(l.foldl mX a).length≤a.length+l.length:=by
  intro l;induction l with
  | nil=>intro a; simp
  | cons y l ih =>
    intro a;have h1:=ih (mX a y)
    have h2:(mX a y).length≤a.length+1:=by unfold mX; split <;> simp
    rw [List.foldl_cons,List.length_cons]; omega
 have:=key l []
 rw [List.length_nil,Nat.zero_add] at this;exact this
theorem qo{l:List aQ}{i:Nat}{x y:aQ}(h1:l[i]? = some y)(h2:l[i+1]? = some x):iy (l.take (i+1+1))=if y=x then iy (l.take (i+1)) else iy (l.take (i+1)) ++ [x]:=by
 rw [lF h2,vw];unfold mX;rw [vv (BC h1)];simp
theorem zr(x y:aQ):fstV ((aBin Tryz.prog .eql 28 (lA x) (lA y)).map fun v=>(v,none))=some (.bool (x==y)):=by
 obtain ⟨a,b,c⟩:=x;obtain ⟨d,e,f⟩:=y;have h:aBin Tryz.prog .eql 28 (lA (a,b,c)) (lA (d,e,f))=(du (a==d) (du (b==e) (du (c==f) (some true)))).map .bool:=by kernel_rfl
 rw [h];simp only [gw,Bool.and_true];rfl
theorem Qe(x y:aQ):fstV ((aBin Tryz.prog .neq 28 (lA x) (lA y)).map fun v=>(v,none))=some (.bool (!(x==y))):=by
 obtain ⟨a,b,c⟩:=x;obtain ⟨d,e,f⟩:=y;have h:aBin Tryz.prog .neq 28 (lA (a,b,c)) (lA (d,e,f))=(du (a==d) (du (b==e) (du (c==f) (some true)))).map fun b=>.bool (!b):=by kernel_rfl
 rw [h];simp only [gw,Bool.and_true];rfl
theorem o9:cx Tryz.prog 28=some 3:=by kernel_rfl
theorem KG:tagg Tryz.prog 28=some true:=by kernel_rfl
theorem PX{off m i:Nat}(h:i<m):fstV ((aIndexAddr Tryz.prog 172 (cp off m) (iN i)).map fun v=>(v,none))=some (.pointer (some ⟨0,off+i*3,none⟩)):=by
 have h1:(0:Int)≤Int.ofNat i∧Int.ofNat i<(m:Int):=⟨Int.natCast_nonneg i,by simpa using h⟩
 simp only [aIndexAddr,cp,iN,Tryz.underlying172,o9];rw [if_pos h1];simp [fstV]
theorem En{m i:Nat}(h:i<m):fstV ((aIndexAddr Tryz.prog 172 (cp 0 m) (iN i)).map fun v=>(v,none))=some (pb 0 (i*3)):=by rw [PX h,Nat.zero_add]; rfl
theorem Ep{p m i:Nat}(h:i<m):fstV ((aIndexAddr Tryz.prog 172 (cp (p*3) m) (iN i)).map fun v=>(v,none))=some (pb 0 ((p+i)*3)):=by rw [PX h,Nat.add_mul]; rfl
theorem wc{hp:Hp}{us:List aQ}{i:Nat}{x:aQ}(hg:hp.get 0=some (lB us))(h:us[i]? = some x):aLoad Tryz.prog hp.get 28 (pb 0 (i*3))=some (lA x):=by
 simp only [aLoad,pb,hg,lB,KG,o9];have:=kT (f:=lc) (k:=3) (ps:=us) (fun _ _=>rfl) h
 unfold cL;rw [this];rfl
theorem sJ{A B C D:List Value}{k:Nat}(hk:A.length=k)(hl:D.length=B.length):putL (A++B++C) k D=A++D++C:=by
 apply List.ext_getElem?
 intro j;rw [fS];by_cases h1:j<k
 ·rw [if_neg (by omega),List.append_assoc,List.append_assoc,List.getElem?_append_left (by omega),List.getElem?_append_left (by omega)]
 ·by_cases h2:j<k+D.length
  ·rw [if_pos ⟨by omega,h2,by simp; omega⟩,List.append_assoc A D C,List.getElem?_append_right (by omega),List.getElem?_append_left (by omega),hk]
  ·rw [if_neg (by omega),List.getElem?_append_right (by simp; omega),List.getElem?_append_right (by simp; omega)]
   congr 1; simp; omega
theorem wm(a b:List aQ):cL (a++b)=cL a++cL b:=by unfold cL; rw [List.flatMap_append]
theorem Ev{us:List aQ}{i:Nat}(h:i<us.length)(y:aQ):putL (cL us) (i*3) (lc y)=cL (us.set i y):=by
 have e1:us=us.take i++us[i]::us.drop (i+1):=by rw [List.getElem_cons_drop,List.take_append_drop]
 have e2:us.set i y=us.take i++y::us.drop (i+1):=List.set_eq_take_append_cons_drop.trans (if_pos h)
 have f:∀ z:aQ,cL (us.take i++z::us.drop (i+1))=cL (us.take i)++lc z++cL (us.drop (i+1)):=fun z=>by rw [wm]; show _++(lc z++cL _)=_; rw [List.append_assoc]
 have l1:(cL (us.take i)).length=i*3:=by rw [dZ,List.length_take]; congr 1; omega
 rw [e2,f];conv=>lhs; rw [e1,f]
 exact sJ l1 rfl
theorem MS{hp:Hp}{us:List aQ}{i:Nat}(hg:hp.get 0=some (lB us))(h:i<us.length)(y:aQ):(aStore Tryz.prog hp.get 28 (pb 0 (i*3)) (lA y)).map (fun es=>(undef,es))=some (undef,[.put 0 (lB (us.set i y))]):=by
 have hl:i*3+3≤(cL us).length:=by rw [dZ]; omega
 have e:aStore Tryz.prog hp.get 28 (pb 0 (i*3)) (lA y)=some [.put 0 (.cells 28 (putL (cL us) (i*3) (lc y)) false)]:=by
  unfold aStore;simp only [pb,hg,lB,o9];exact if_pos (by show (decide (3=3)&&true&&decide (i*3+3≤(cL us).length))=true; simp [hl])
 rw [e,Ev h];rfl
theorem Ew{n k:Nat}(h:k≤n):fstV ((aSlice Tryz.prog 172 (cp 0 n) (some (iN k)) none none).map fun v=>(v,none))=some (cp (k*3) (n-k)):=by
 have h1:(0:Int)≤Int.ofNat k∧Int.ofNat k≤(n:Int):=⟨Int.natCast_nonneg k,by simpa using h⟩
 have h0:(0:Int)≤(n:Int)∧(n:Int)≤((n+0:Nat):Int):=⟨Int.natCast_nonneg n,by simp⟩
 simp only [aSlice,cp,iN,Tryz.underlying172,o9,bound];rw [if_pos h1];simp [fstV,eN,wide]
theorem MR{n k:Nat}(h:k≤n):fstV ((aSlice Tryz.prog 172 (cp 0 n) none (some (iN k)) none).map fun v=>(v,none))=some (cp 0 k):=by
 have h1:(0:Int)≤Int.ofNat k∧Int.ofNat k≤((n+spareOf 11:Nat):Int):=⟨Int.natCast_nonneg k,by simp only [Int.ofNat_eq_natCast]; exact Int.ofNat_le.2 (by omega)⟩
 simp only [aSlice,cp,iN,Tryz.underlying172,o9,bound];rw [if_pos h1];simp [fstV,eN,wide]
noncomputable def z3:List Value:=(tzero Tryz.prog 28).getD []
theorem NU:tzero Tryz.prog 28=some z3:=by kernel_rfl
theorem NS:z3.length=3:=by kernel_rfl
theorem xl:z3.all inert=true:=by kernel_rfl
theorem wS(z:List Value):∀ n,(repL z n).length=n*z.length
 | 0=>by simp [repL]
 | n+1=>by rw [repL,List.length_append,wS z n,Nat.succ_mul]; omega
theorem mo{z:List Value}(h:z.all inert=true):∀ n,(repL z n).all inert=true
 | 0=>rfl
 | n+1=>by rw [repL,List.all_append,h,mo h n]; rfl
theorem ML{hp:Hp}{us:List aQ}{k:Nat}(hg:hp.get 0=some (lB us))(h:k<us.length):aClear Tryz.prog hp.get [172] [cp (k*3) (us.length-k)]=some (.tuple #[],[.put 0 (.cells 28 (cL (us.take k)++repL z3 (us.length-k)) false)]):=by
 have e1:cL us=cL (us.take k)++cL (us.drop k):=by rw [← wm,List.take_append_drop]
 have l1:(cL (us.take k)).length=k*3:=by rw [dZ,List.length_take]; congr 1; omega
 have l2:(cL (us.drop k)).length=(us.length-k)*3:=by rw [dZ,List.length_drop]
 have l3:(repL z3 (us.length-k)).length=(us.length-k)*3:=by rw [wS,NS]
 unfold aClear;simp only [cp,Tryz.underlying172];rw [if_neg (by omega)]
 simp only [NU,hg,lB];rw [if_pos (by rw [l3,dZ]; omega),e1]
 have:=sJ (A:=cL (us.take k)) (B:=cL (us.drop k)) (C:=[]) (D:=repL z3 (us.length-k)) l1 (by rw [l3,l2])
 rw [List.append_nil,List.append_nil] at this;rw [this]
noncomputable def kN(ls:List aQ):List Value:=cL (iy ls)++repL z3 (ls.length-(iy ls).length)
def jX(ls:List aQ)(e:Exit)(st:St):Prop:=e = .ret∧∃ g,st=av 61 g [(2,cp 0 (iy ls).length)] [.cells 28 (kN ls) false]
theorem vK(b:ae):(heapOf [b,.dead] aE).get 0=some b:=by rw [al]; rfl
theorem N8{a b:Nat}:decide (Int.ofNat a<Int.ofNat b)=decide (a<b):=decide_eq_decide.2 (by simp only [Int.ofNat_eq_natCast]; omega)
theorem xc(ls:List aQ):(kN ls).all inert=true:=by unfold kN; rw [List.all_append,eQ,mo xl]; rfl
theorem sZ{N:Nat}{g:Nat→Value}{L:List (Nat×Value)}{O:List ae}(L2:List (Nat×Value)):∃ g',av N g (L++L2) O=av N g' L O:=by
 refine ⟨frame g L2,?_⟩
 unfold av;congr 2
 funext t
 unfold frame;rw [List.find?_append]
 cases L.find? fun p=>Nat.beq p.1 t <;> rfl
theorem Dm(ls:List aQ)(hn:ls.length<1000000)(p:Nat)(hp:p+1<ls.length){y:aQ}(h1:ls[p]? = some y)(h2:ls[p+1]? = some y)(hd:iy (ls.take (p+1))=ls.take (p+1))(g:Nat→Value)(W:bj) :
  aj Tryz.prog 61 W (.seq (sL qA) (.seq (.seq vW (.block 2 (.loop qz))) vX)) (av 61 g [(0,cp 0 ls.length),(3,iN (p+1))] [lB ls]) (jX ls):=by
 have fx:∀ (us:List aQ) (r:List ae),∀ i,i<1→∀ o',(lB us::r)[i]? = some o'→dD 0 o':=fun us=>cj (ky us)
 have sT:codeSafe Tryz.prog 61 (sL qA)=true:=by kernel_rfl
 refine aj.seq (Q1:=fun e st=>e = .normal∧∃ g,st=av 61 g [(0,cp 0 ls.length),(3,iN (p+1)),(4,cp ((p+1)*3) (ls.length-(p+1)))] [lB ls]) (aj.bC eM follows 5 1 _ _ _ _ (W2 ls ls.length p g) (Met.cons (Ew (by omega)) Met.nil) ay.nil az.nil sT rfl rfl (fx ls _) fun g=>⟨rfl,g,rfl⟩) ?_ (fun x st hne hq=>absurd hq.1 hne)
 rintro st ⟨-,g,rfl⟩;refine aj.seq (Q1:=fun e st=>e = .normal∧∃ (us:List aQ) (m:Nat) (g:Nat→Value),m=(iy ls).length∧us=iy ls++ls.drop m∧m<ls.length∧st=av 61 g [(0,cp 0 ls.length),(3,iN m)] [lB us]) ?_ ?_ (fun x st hne hq=>absurd hq.1 hne)
 ·refine aj.seq (Q1:=fun e st=>e = .normal∧∃ g,st=av 61 g [(0,cp 0 ls.length),(3,iN (p+1)),(4,cp ((p+1)*3) (ls.length-(p+1))),(5,iN 1)] [lB ls]) (aj.bC eM follows 5 1 _ _ _ _ (WX ls ls.length p g) Met.nil ay.nil az.nil NG rfl rfl (fx ls _) fun g=>⟨rfl,g,rfl⟩) ?_ (fun x st hne hq=>absurd hq.1 hne)
  rintro st ⟨-,g,rfl⟩;refine aj.block ?_
  let I:Nat→St→Prop:=fun k st=>∃ (j m:Nat) (us a:List aQ) (g:Nat→Value),(p+1)+(j+1)≤ls.length∧k=ls.length-j∧m≤(p+1)+j∧a=iy (ls.take ((p+1)+(j+1)))∧a.length=m∧us=a++ls.drop m ∧
    st=av 61 g [(0,cp 0 ls.length),(3,iN m),(4,cp ((p+1)*3) (ls.length-(p+1))),(5,iN (j+1))] [lB us]
  have start:I ls.length (av 61 g [(0,cp 0 ls.length),(3,iN (p+1)),(4,cp ((p+1)*3) (ls.length-(p+1))),(5,iN 1)] [lB ls]):=by
    have hm:=qo h1 h2
    rw [if_pos rfl,hd] at hm;refine ⟨0,p+1,ls,ls.take (p+1),g,by omega,by omega,by omega,hm.symm,by rw [List.length_take]; omega,(List.take_append_drop _ _).symm,rfl⟩
  refine aj.loop I ?_ (k:=ls.length) start
  rintro k st ⟨j,m,us,a,g,hj,hk,hm,ha,hal,hus,rfl⟩;have hul:us.length=ls.length:=by rw [hus,List.length_append,hal,List.length_drop]; omega
  have hget:∀ i,m≤i→us[i]? = ls[i]?:=fun i hi=>by
    rw [hus,List.getElem?_append_right (by omega),List.getElem?_drop]
    congr 1; omega
  cases h:decide (Int.ofNat (j+1)<Int.ofNat (ls.length-(p+1))) with
  | false =>
    have h3:(p+1)+(j+1)=ls.length:=by rw [N8] at h; have:=of_decide_eq_false h; omega
    refine aj.bC eM follows 5 1 _ _ _ _ (W0 us us ls.length p j m y y g) (Met.cons (ba h) Met.nil) ay.nil az.nil yx rfl rfl (fx us _) fun g=>.inr ⟨by simp,?_⟩
    show (if (2:Nat)=2 then _ else _)
    rw [if_pos rfl];rw [h3,List.take_of_length_le (Nat.le_refl _)] at ha;subst ha;exact ⟨rfl,us,m,g,hal.symm,hus,by omega,rfl⟩
  | true =>
    have hlt:(p+1)+(j+1)<ls.length:=by rw [N8] at h; have:=of_decide_eq_true h; omega
    obtain ⟨x,hx⟩:∃ x,ls[(p+1)+(j+1)]? = some x:=⟨_,List.getElem?_eq_getElem hlt⟩
    obtain ⟨z,hz⟩:∃ z,ls[(p+1)+j]? = some z:=⟨_,List.getElem?_eq_getElem (by omega)⟩
    have hux:=(hget _ (by omega)).trans hx
    have huz:=(hget _ hm).trans hz
    have hmore:=qo (i:=(p+1)+j) hz hx
    have hR:∀ {b:Bool},(!(x==z))=b→AI.Met ([(fstV ((aBin Tryz.prog .neq 28 (lA x) (lA z)).map fun v=>(v,none)),.bool b),(aLoad Tryz.prog (heapOf [lB us,.dead] aE).get 28 (pb 0 (((p+1)+j)*3)),lA z),(fstV ((aIndexAddr Tryz.prog 172 (cp ((p+1)*3) (ls.length-(p+1))) (iN j)).map fun v=>(v,none)),pb 0 (((p+1)+j)*3)),(some (.int .i64 (wrapF .i64 (Int.ofNat (j+1)-Int.ofNat 1))),iN j),(aLoad Tryz.prog (heapOf [lB us,.dead] aE).get 28 (pb 0 (((p+1)+(j+1))*3)),lA x),(fstV ((aIndexAddr Tryz.prog 172 (cp ((p+1)*3) (ls.length-(p+1))) (iN (j+1))).map fun v=>(v,none)),pb 0 (((p+1)+(j+1))*3)),(some (.bool (decide ((Int.ofNat (j+1))<(Int.ofNat (ls.length-(p+1)))))),.bool true)]):=fun {b} hb =>
      Met.cons ((Qe x z).trans (ba hb)) (Met.cons (wc (vK _) huz) (Met.cons (Ep (by omega)) (Met.cons (gC (by omega)) (Met.cons (wc (vK _) hux) (Met.cons (Ep (by omega)) (Met.cons (ba h) Met.nil))))))
    cases hxz:(!(x==z)) with
    | true =>
      have hne:¬ z=x:=fun e=>by rw [e] at hxz; simp at hxz
      have hset:us.set m x=(a ++ [x])++ls.drop (m+1):=by
        rw [hus,List.set_append_right _ _ (by omega),hal,Nat.sub_self]
        obtain ⟨w,hw⟩:∃ w,ls[m]? = some w:=⟨_,List.getElem?_eq_getElem (by omega)⟩
        have e:ls.drop m=w::ls.drop (m+1):=by
          rw [List.getElem?_eq_getElem (by omega)] at hw
          rw [List.drop_eq_getElem_cons (by omega)]
          have:ls[m]=w:=by simpa using hw
          rw [this]
        rw [e];simp
      refine aj.bC eM follows 5 1 _ _ _ _ (WY us (us.set m x) ls.length p j m x z g)
        (Met.cons (bA (by omega)) (Met.cons (bA (by omega)) (Met.cons (En (by omega)) (Met.cons (wc (vK _) hux) (Met.cons (Ep (by omega)) (hR hxz))))))
        ay.nil (az.cons (MS (vK _) (by omega) x) az.nil) yx rfl rfl (fx _ _) fun g=>.inl ⟨rfl,ls.length-(j+1),by omega,j+1,m+1,us.set m x,a ++ [x],g,by omega,rfl,by omega,?_,by simp [hal],hset,rfl⟩
      rw [ha];exact (hmore.trans (if_neg hne)).symm
    | false =>
      have he:z=x:=by
        have:(x==z)=true:=by simpa using hxz
        exact (by simpa using this:x=z).symm
      refine aj.bC eM follows 5 1 _ _ _ _ (WZ us us ls.length p j m x z g)
        (Met.cons (bA (by omega)) (hR hxz))
        ay.nil az.nil yx rfl rfl (fx _ _) fun g=>.inl ⟨rfl,ls.length-(j+1),by omega,j+1,m,us,a,g,by omega,rfl,by omega,?_,hal,hus,rfl⟩
      rw [ha];exact (hmore.trans (if_pos he)).symm
 ·rintro st ⟨-,us,m,g,hm,hus,hlt,rfl⟩
  have hul:us.length=ls.length:=by rw [hus,List.length_append,List.length_drop]; omega
  have htk:us.take m=iy ls:=by rw [hus,hm]; simp
  have hcl:=ML (vK (lB us)) (by omega:m<us.length)
  rw [htk,hul] at hcl;have hsl:=MR (n:=ls.length) (k:=m) (by omega)
  have hsl2:=Ew (n:=ls.length) (k:=m) (by omega)
  refine aj.bC eM follows 5 1 _ _ _ _ (W7 us (cL (iy ls)++repL z3 (ls.length-m)) ls.length m g) (Met.cons hsl (Met.cons hsl2 Met.nil)) ay.nil (az.cons hcl az.nil) NH rfl rfl (cj (by show List.all _ inert=true; rw [List.all_append,eQ,mo xl]; rfl) _) fun g=>⟨rfl,g,?_⟩
  unfold kN;rw [hm]
theorem Hn(ls:List aQ)(hn:ls.length<1000000)(W:bj):aj Tryz.prog 61 W Di ⟨tmsOf [cp 0 ls.length] 0 .leaf,heapOf [lB ls,.dead] aE,[]⟩ (jX ls):=by
 have fx:∀ (us:List aQ) (r:List ae),∀ i,i<1→∀ o',(lB us::r)[i]? = some o'→dD 0 o':=fun us=>cj (ky us)
 have hall:iy ls=ls→∀ {e st},(e = .ret∧∃ g,st=av 61 g [(2,cp 0 ls.length)] [lB ls])→jX ls e st:=fun h e st q=>by
  unfold jX kN;rw [h,Nat.sub_self];show (_∧∃ g,st=av 61 g _ [.cells 28 (cL ls ++ []) false])
  rw [List.append_nil]; exact q
 refine aj.seq (Q1:=fun e st=>e = .normal∧∃ g,st=av 61 g [(0,cp 0 ls.length)] [lB ls]) (aj.bC eM follows 5 1 _ _ _ _ (WR ls ls.length) Met.nil ay.nil az.nil R9 rfl rfl (fx ls _) fun g=>⟨rfl,g,rfl⟩) ?_ (fun x st hne hq=>absurd hq.1 hne)
 rintro st ⟨-,g,rfl⟩;let Q1:Exit→St→Prop:=fun e st=>(e = .normal∧2≤ls.length∧∃ g,st=av 61 g [(0,cp 0 ls.length)] [lB ls])∨jX ls e st
 refine aj.seq (Q1:=Q1) ?_ ?_ ?_
 ·have hs:codeSafe Tryz.prog 61 (.seq D' Ea)=true:=by simp only [codeSafe,Sa,Sb]; rfl
  cases h:decide (Int.ofNat ls.length<Int.ofNat 2) with
  | true =>
    have h2:ls.length<2:=by rw [N8] at h; exact of_decide_eq_true h
    have hd:iy ls=ls:=by
      match ls,h2 with
      | [],_=>rfl
      | [x],_=>rfl
    exact aj.bC eM follows 5 1 _ _ _ _ (WS ls ls.length g) (Met.cons (ba h) Met.nil) ay.nil az.nil hs rfl rfl (fx ls _) fun g=>.inr (hall hd ⟨rfl,g,rfl⟩)
  | false =>
    have h2:2≤ls.length:=by rw [N8] at h; have:=of_decide_eq_false h; omega
    exact aj.bC eM follows 5 1 _ _ _ _ (WT ls ls.length g) (Met.cons (ba h) Met.nil) ay.nil az.nil hs rfl rfl (fx ls _) fun g=>.inl ⟨rfl,h2,g,rfl⟩
 ·rintro st (⟨-,h2,g,rfl⟩ | ⟨h,-⟩)
  ·let Q2:Exit→St→Prop:=fun e st=>(e = .normal∧iy ls=ls∧∃ g,st=av 61 g [(0,cp 0 ls.length)] [lB ls])∨jX ls e st
   refine aj.seq (Q1:=Q2) ?_ ?_ ?_
   ·refine aj.seq (Q1:=fun e st=>e = .normal∧∃ g,st=av 61 g [(0,cp 0 ls.length),(3,iN 1)] [lB ls]) (aj.bC eM follows 5 1 _ _ _ _ (WV ls ls.length g) Met.nil ay.nil az.nil Sc rfl rfl (fx ls _) fun g=>⟨rfl,g,rfl⟩) ?_ (fun x st hne hq=>absurd hq.1 hne)
    rintro st ⟨-,g,rfl⟩;refine aj.block ?_
    have start:∃ q g',q+1≤ls.length∧ls.length=ls.length-q∧iy (ls.take (q+1))=ls.take (q+1)∧av 61 g [(0,cp 0 ls.length),(3,iN 1)] [lB ls]=av 61 g' [(0,cp 0 ls.length),(3,iN (q+1))] [lB ls]:=by
      obtain ⟨x,hx⟩:∃ x,ls[0]? = some x:=⟨_,List.getElem?_eq_getElem (by omega)⟩
      exact ⟨0,g,by omega,by omega,by rw [lF hx]; rfl,rfl⟩
    refine aj.loop (fun k st=>∃ q g,q+1≤ls.length∧k=ls.length-q∧iy (ls.take (q+1))=ls.take (q+1)∧st=av 61 g [(0,cp 0 ls.length),(3,iN (q+1))] [lB ls]) ?_ (k:=ls.length) start
    rintro k st ⟨q,g,hq,hk,hd,rfl⟩;obtain ⟨y,hy⟩:∃ y,ls[q]? = some y:=⟨_,List.getElem?_eq_getElem (by omega)⟩
    refine aj.seq (Q1:=fun e st=>(e = .normal∧q+1<ls.length∧∃ g,st=av 61 g [(0,cp 0 ls.length),(3,iN (q+1))] [lB ls])∨(e = .exit 0∧q+1=ls.length∧∃ g,st=av 61 g [(0,cp 0 ls.length),(3,iN (q+1))] [lB ls])) ?_ ?_ ?_
    ·cases h:decide (Int.ofNat (q+1)<Int.ofNat ls.length) with
     | true =>
       have h3:q+1<ls.length:=by rw [N8] at h; exact of_decide_eq_true h
       exact aj.bC eM follows 5 1 _ _ _ _ (W4 ls ls.length q g) (Met.cons (ba h) Met.nil) ay.nil az.nil Fw rfl rfl (fx ls _) fun g=>.inl ⟨rfl,h3,g,rfl⟩
     | false =>
       have h3:q+1=ls.length:=by rw [N8] at h; have:=of_decide_eq_false h; omega
       exact aj.bC eM follows 5 1 _ _ _ _ (W5 ls ls.length q g) (Met.cons (ba h) Met.nil) ay.nil az.nil Fw rfl rfl (fx ls _) fun g=>.inr ⟨rfl,h3,g,rfl⟩
    ·rintro st (⟨-,hlt,g,rfl⟩ | ⟨h,-⟩)
     ·obtain ⟨x,hx⟩:∃ x,ls[q+1]? = some x:=⟨_,List.getElem?_eq_getElem hlt⟩
      have hm:=qo hy hx
      have met:∀ {b:Bool},(x==y)=b→AI.Met [(fstV ((aBin Tryz.prog .eql 28 (lA x) (lA y)).map fun v=>(v,none)),.bool b),(aLoad Tryz.prog (heapOf [lB ls,.dead] aE).get 28 (pb 0 (q*3)),lA y),(fstV ((aIndexAddr Tryz.prog 172 (cp 0 ls.length) (iN q)).map fun v=>(v,none)),pb 0 (q*3)),(some (.int .i64 (wrapF .i64 (Int.ofNat (q+1)-Int.ofNat 1))),iN q),(aLoad Tryz.prog (heapOf [lB ls,.dead] aE).get 28 (pb 0 ((q+1)*3)),lA x),(fstV ((aIndexAddr Tryz.prog 172 (cp 0 ls.length) (iN (q+1))).map fun v=>(v,none)),pb 0 ((q+1)*3))]:=fun h =>
        Met.cons ((zr x y).trans (ba h)) (Met.cons (wc (vK _) hy) (Met.cons (En (by omega)) (Met.cons (gC (by omega)) (Met.cons (wc (vK _) hx) (Met.cons (En (by omega)) Met.nil)))))
      cases hxy:(x==y) with
      | false =>
        have hne:¬ y=x:=fun e=>by rw [e] at hxy; simp at hxy
        refine aj.bC eM follows 5 1 _ _ _ _ (W3 ls ls.length q x y g) (Met.cons (bA (by omega)) (met hxy)) ay.nil az.nil V4 rfl rfl (fx ls _) fun g=>.inl ⟨rfl,ls.length-(q+1),by omega,q+1,g,by omega,rfl,?_,rfl⟩
        rw [hm,if_neg hne,hd,lF hx]
      | true =>
        have he:x=y:=by simpa using hxy
        subst he;refine aj.seq (Q1:=jX ls) (aj.block ?_) (fun st h=>by cases h.1) (fun e st hne h=>?_)
        ·have e1:∀ {e st},jX ls e st→(match e with | .exit i=>if i=1 then jX ls .normal st else jX ls (.exit i) st | e=>jX ls e st):=fun {e st} h=>by
            obtain ⟨rfl,h⟩:=h;exact ⟨rfl,h⟩
         refine aj.mono (?_:aj Tryz.prog 61 W _ _ (jX ls)) fun e st h=>e1 h
         refine aj.seq (Q1:=fun e st=>e = .normal∧∃ g,st=av 61 g [(0,cp 0 ls.length),(3,iN (q+1)),(25,.bool true)] [lB ls]) (aj.bC eM follows 5 1 _ _ _ _ (W6 ls ls.length q x x g) (met hxy) ay.nil az.nil IB rfl rfl (fx ls _) fun g=>⟨rfl,g,rfl⟩) ?_ (fun x st hne hq=>absurd hq.1 hne)
         rintro st ⟨-,g,rfl⟩;obtain ⟨g',eg⟩:=sZ (N:=61) (g:=g) (L:=[(0,cp 0 ls.length),(3,iN (q+1))]) (O:=[lB ls]) [(25,.bool true)];refine aj.cond_true rfl rfl ?_
         show aj Tryz.prog 61 W _ (av 61 g ([(0,cp 0 ls.length),(3,iN (q+1))] ++ [(25,.bool true)]) [lB ls]) _
         rw [eg];exact Dm ls hn q hlt hy hx hd g' W
        ·obtain ⟨rfl,h⟩:=h
         exact .inr ⟨by simp,.inr ⟨rfl,h⟩⟩
     ·cases h
    ·rintro e st hne (⟨h,-⟩ | ⟨rfl,h3,g,rfl⟩)
     ·exact absurd h hne
     ·refine .inr ⟨by simp,?_⟩
      show (if (0:Nat)=0 then Q2 .normal _ else Q2 (.exit 0) _)
      rw [if_pos rfl];refine .inl ⟨rfl,?_,?_⟩
      ·rw [h3,List.take_of_length_le (Nat.le_refl _)] at hd; exact hd
      ·exact sZ (L:=[(0,cp 0 ls.length)]) [(3,iN (q+1))]
   ·rintro st (⟨-,hd,g,rfl⟩ | ⟨h,-⟩)
    ·exact aj.bC eM follows 5 1 _ _ _ _ (WW ls ls.length g) Met.nil ay.nil az.nil Sd rfl rfl (fx ls _) fun g=>hall hd ⟨rfl,g,rfl⟩
    ·cases h
   ·rintro e st hne (⟨h,-⟩ | h)
    ·exact absurd h hne
    ·exact h
  ·cases h
 ·rintro e st hne (⟨h,-⟩ | h)
  ·exact absurd h hne
  ·exact h
theorem DS{L1 L2:List Value}{i:Nat}{v:Value}(h:L1[i]? = some v):(L1++L2)[i]? = some v:=by
 rw [List.getElem?_append_left (List.getElem?_eq_some_iff.1 h).1]; exact h
theorem AT{P:Program}{f:FuncId}{g g2:aB}(hg:aq P f g)
  (H:∀ args hp v hp2,g2 args hp=some (v,hp2)→hp.ok→∃ dg,g args hp=some (v,dg)∧hp2.ok∧hp2.sz=dg.sz ∧
    ∀ b,hp2.get b=dg.get b∨(hp.sz≤b∧b<dg.sz∧∃ ty L1 L2,dg.get b=some (.cells ty (L1++L2) false)∧hp2.get b=some (.cells ty L1 false))):aq P f g2:=by
 intro args hp v hp2 he hk;obtain ⟨dg,h1,uR,hsz,hcut⟩:=H args hp v hp2 he hk;obtain ⟨vR,hle,hgo⟩:=hg args hp v dg h1 hk;refine ⟨uR,by rw [hsz]; exact hle,fun m h w args' hfr s ra=>?_⟩
 have step:∀ v' w',(∃ m',dT m (aL hp h) w m' (aL dg h) w'∧ah m' (aL dg h) v v')→∃ m',dT m (aL hp h) w m' (aL hp2 h) w'∧ah m' (aL hp2 h) v v':=?_
 ·rcases hgo m h w args' (fun b a c=>hfr b a (by rw [hsz]; exact c)) s ra with ⟨v',w',q1,q2⟩ | ⟨q1,q2⟩
  ·exact .inl ⟨v',w',q1,step v' w' q2⟩
  ·exact .inr ⟨q1,q2.mono fun e w' hh=>by
      obtain ⟨v',h1,h2⟩:=hh;exact ⟨v',h1,step v' w' h2⟩⟩
 rintro v' w' ⟨m',go,rv⟩;have hov:∀ b,aL hp2 h b=aL dg h b∨(hp.sz≤b∧b<dg.sz∧∃ ty L1 L2,aL dg h b=some (.cells ty (L1++L2) false)∧aL hp2 h b=some (.cells ty L1 false)):=by
  intro b;unfold aL;rw [hsz];by_cases hb:b<dg.sz
  ·simp only [if_pos hb]
   rcases hcut b with e | ⟨q1,q2,q3⟩
   ·exact .inl e
   ·exact .inr ⟨q1,q2,q3⟩
  ·exact .inl (by rw [if_neg hb,if_neg hb])
 have hrw:∀ b,rw? (aL hp2 h) b=rw? (aL dg h) b:=fun b=>by
  unfold rw?;rcases hov b with e | ⟨_,_,ty,L1,L2,e1,e2⟩
  ·rw [e]
  ·rw [e1,e2]
 have hlv:∀ b,aU (aL hp2 h) b=aU (aL dg h) b:=fun b=>by
  unfold aU;rcases hov b with e | ⟨_,_,ty,L1,L2,e1,e2⟩
  ·rw [e]
  ·rw [e1,e2]
 have le2:Le m' (aL dg h) m' (aL hp2 h):=⟨fun b hb=>(by
  rcases hov b with e | ⟨_,_,ty,L1,L2,e1,_⟩
  ·rw [e]; exact hb
  ·rw [e1] at hb; cases hb),fun b x hx=>.inr hx⟩
 refine ⟨m',⟨go.le.trans le2,⟨fun b x hx=>?_,fun b b' x x' hx hx' hr hl e=>go.sim.inj b b' x x' hx hx' (by rw [← hrw]; exact hr) (by rw [← hlv]; exact hl) e⟩,go.size,go.new,go.frame,go.un,fun b o hb hm=>?_,fun b o hb=>?_,fun b x hx hr=>go.rwb b x hx (by rw [← hrw]; exact hr),go.os,go.tape,go.output⟩,rv.mono le2⟩
 ·obtain ⟨o,ho,hbr⟩:=go.sim.dom b x hx
  rcases hov b with e | ⟨_,_,ty,L1,L2,e1,e2⟩
  ·exact ⟨o,by rw [e]; exact ho,hbr.mono le2 rfl⟩
  ·rw [e1] at ho; cases ho
   obtain ⟨c,fr,k1,k2,k3,k4,k5⟩:=hbr;refine ⟨_,e2,c,fr,k1,by rw [List.length_append] at k2; omega,k3,fun i v v' p1 p2=>(k4 i v v' (DS p1) p2).mono le2,k5.1,fun h=>by cases h⟩
 ·have:=go.idle b o hb hm
  rcases hov b with e | ⟨q1,q2,_⟩
  ·rw [e]; exact this
  ·have hn:=hfr b q1 (by rw [hsz]; exact q2)
   unfold aL at hb;rw [if_neg (by omega)] at hb
   rw [hn] at hb; cases hb
 ·obtain ⟨o',ho'⟩:=go.ex b o hb
  rcases hov b with e | ⟨_,_,ty,L1,L2,e1,e2⟩
  ·exact ⟨o',by rw [e]; exact ho'⟩
  ·exact ⟨_,e2⟩
theorem yB{m:BM}{h:HG}{w:World}{hp:Hp}(s:cd m (aL hp h) w)(hk:hp.ok){b:Nat}{t1:TypeId}{L:List Value}(h1:hp.get b=some (.cells t1 L false))(i1:L.all inert=true)
  {r δ E:Nat} (hm:m b=some (r,δ,E)):cd (canM m [b]) (heapOf [.cells t1 L false,.dead] aE).get w:=by
 have g1:=bu hk h b _ h1
 obtain ⟨o',ho',hbr⟩:=s.dom b _ hm;rw [g1] at ho'; cases ho';obtain ⟨c,fr,q1,q2,q3,q4,q5⟩:=hbr;have e0:(heapOf [.cells t1 L false,.dead] aE).get 0=some (.cells t1 L false):=by rw [al]; rfl
 have cM:∀ i x,canM m [b] i=some x→(i=0∧m b=some x):=by
  intro i x hx;unfold canM at hx;match i with
  | 0=>exact ⟨rfl,hx⟩
  | i+1=>simp at hx
 refine ⟨fun i x hx=>?_,fun i i' x x' hx hx' hr hl hxx=>?_⟩
 ·obtain ⟨rfl,hy⟩:=cM i x hx
  rw [hm] at hy; cases hy;exact ⟨_,e0,c,fr,q1,q2,q3,fun i v v' p1 p2=>gy (List.all_eq_true.1 i1 v (List.mem_of_getElem? p1)) (q4 i v v' p1 p2),q5⟩
 ·obtain ⟨rfl,_⟩:=cM i x hx
  obtain ⟨rfl,_⟩:=cM i' x' hx';rfl
open Classical in
noncomputable def gCoF:aB:=fun args hp=>match args with
 | [.slice (some ⟨b,0,none⟩) n c]=>if h:∃ ls:List aQ,hp.get b=some (lB ls)∧n=ls.length∧0<n∧n<1000000 then some (.slice (some ⟨hp.sz,0,none⟩) (iy h.choose).length 11,heapOf ([.cells 28 (kN h.choose) false] ++ [.dead]) (killL [b] hp)) else none
 | _=>none
open Classical in
noncomputable def N3:aB:=fun args hp=>match args with
 | [.slice (some ⟨b,0,none⟩) n c]=>if h:∃ ls:List aQ,hp.get b=some (lB ls)∧n=ls.length∧0<n∧n<1000000 then some (.slice (some ⟨hp.sz,0,none⟩) (iy h.choose).length 11,heapOf ([lB (iy h.choose)] ++ [.dead]) (killL [b] hp)) else none
 | _=>none
theorem Fy{m:BM}{h:HG}{b n c:Nat}{x:Value}(r:ah m h (.slice (some ⟨b,0,none⟩) n c) x):ah m h (.slice (some ⟨b,0,none⟩) n 11) x:=by
 obtain ⟨_,_,r1,o1,cap,q1,rfl,h0,hh⟩:=r.dK;cases q1;refine .slice (.of h0.1 (by decide)) ?_
 rcases hh with hd | ⟨δ,E,h1,h2,_⟩
 ·exact .inl hd
 ·exact .inr ⟨δ,E,h1,h2,(fun h=>by cases h),fun h=>by cases h⟩
theorem Ps:aq Tryz.prog 202 gCoF:=ot follows Tryz.func202 Hm (by kernel_rfl) fun args hp v hp' he hk=>by
 unfold gCoF at he;split at he
 case h_2=>cases he
 rename_i b n c;split at he
 case isFalse=>cases he
 rename_i hx;obtain ⟨hb,hn,hn0,hn1⟩:=hx.choose_spec;generalize hx.choose=ls at *;cases he;refine ⟨[b],[.cells 28 (kN ls) false],rfl,fun b' hb'=>?_,fun m h w args' s ra=>?_⟩
 ·have:b'=b:=by simpa using hb'
  subst this;exact ⟨_,hb,rfl⟩
 obtain ⟨v1,bs1,e1,r1,ra1⟩:=ra.of_cons;have e4:=ra1.of_nil
 subst e4;obtain ⟨_,_,rr,oo,cap,q1,rfl,hcap,hh⟩:=r1.dK;cases q1;have gb:=bu hk h b _ hb
 rcases hh with hd | ⟨δ,E,hm,hoff,hcok⟩
 ·rw [gb] at hd; cases hd
 refine ⟨fun b' hb'=>?_,?_⟩
 ·have:b'=b:=by simpa using hb'
  subst this;exact ⟨_,hm⟩
 refine ⟨[0],[cp 0 n],heapOf [lB ls,.dead] aE,canM m [b],rfl,rfl,bE _ _ iO,yB s hk hb (eQ ls) hm,fun b' x hx _=>?_,?_,by rw [ntmps45]; simp,fun W=>?_⟩
 ·unfold canM at hx
  match b' with
  | 0=>exact ⟨b,by simp,x,hx,rfl⟩
  | b'+1=>simp at hx
 ·rw [e1]
  exact .cons (.slice (.of hcap.1 (by decide)) (.inr ⟨δ,E,hm,hoff,(fun h=>by cases h),fun h=>by cases h⟩)) .nil
 ·rw [ntmps45,hn]
  refine aj.mono (Hn ls (by omega) W) fun e st q=>?_
  obtain ⟨rfl,g,rfl⟩:=q;have hI:aD (.cells 28 (kN ls) false)=true:=xc ls
  have h0:(av 61 g [(2,cp 0 (iy ls).length)] [.cells 28 (kN ls) false]).hp.get 0=some (.cells 28 (kN ls) false):=vK _
  refine ⟨.inr rfl,rfl,_,Xc _ _ g,rfl,fun b' hb'=>?_,fun m h x hx=>?_,?_⟩
  ·have:b'=0:=by simpa using hb'
   subst this;exact ⟨_,h0,e8 hI,rfl⟩
  ·have:sh3 [0] hp.sz (cp 0 (iy ls).length) = .slice (some ⟨hp.sz,0,none⟩) (iy ls).length 11:=by simp [sh3,sh2,sh1,j9,idxOf,cp]
   rw [this] at hx;exact Fy hx
  ·simp only [cQ,List.map_cons,List.map_nil,h0,Option.getD_some,dh hI]
theorem TJ:aq Tryz.prog 202 N3:=AT Ps fun args hp v hp2 he hk=>by
 unfold N3 at he;split at he
 case h_2=>cases he
 rename_i b n c;split at he
 case isFalse=>cases he
 rename_i hx;cases he;have hlt:=cU hk hx.choose_spec.1
 refine ⟨heapOf ([.cells 28 (kN hx.choose) false] ++ [.dead]) (killL [b] hp),by unfold gCoF; simp only; rw [dif_pos hx],?_,?_,fun b'=>?_⟩
 ·refine bE _ _ fun c hc=>?_
  rw [cY] at hc;rw [k6,if_neg (by simp; omega)]
  exact hk c hc
 ·rw [cm,cm]; rfl
 ·rw [heapOf_get,heapOf_get,cY]
  by_cases h1:b'<hp.sz
  ·rw [if_pos h1,if_pos h1]; exact .inl rfl
  ·rw [if_neg h1,if_neg h1]
   by_cases h2:b'-hp.sz=0
   ·rw [h2]
    refine .inr ⟨by omega,by rw [cm,cY]; simp; omega,28,cL (iy hx.choose),repL z3 (hx.choose.length-(iy hx.choose).length),rfl,rfl⟩
   ·obtain ⟨k,uR⟩:∃ k,b'-hp.sz=k+1:=⟨b'-hp.sz-1,by omega⟩
    rw [uR]; exact .inl rfl
theorem Mb{ls:List aQ}{b n c:Nat}{hp:Hp}(hb:hp.get b=some (lB ls))(hn:n=ls.length)(h0:0<n)(h1:n<1000000):N3 [.slice (some ⟨b,0,none⟩) n c] hp=some (.slice (some ⟨hp.sz,0,none⟩) (iy ls).length 11,heapOf [lB (iy ls),.dead] (hp.put b .dead)):=by
 unfold N3;have hx:∃ ls:List aQ,hp.get b=some (lB ls)∧n=ls.length∧0<n∧n<1000000:=⟨ls,hb,hn,h0,h1⟩
 simp only;rw [dif_pos hx];have e2:=hb.symm.trans hx.choose_spec.1
 unfold lB at e2;injection e2 with e2
 injection e2 with _ e2 _
 have e3:=qD e2
 exact congrArg (fun l=>some (Value.slice (some ⟨hp.sz,0,none⟩) (iy l).length 11,heapOf ([lB (iy l)] ++ [.dead]) (killL [b] hp))) e3.symm
def bm(x:aa):aQ:=(kz x.n x.t x.o x.r x.d x.i,kA x.n x.t x.o x.r x.d x.i,kB x.n x.t x.o x.r x.d x.i)
def nj(b k:Nat):Value:=.slice (some ⟨b,0,none⟩) k 10
def F'(f:Bool)(b k:Nat):Value:=bif f then nj b k else ax
noncomputable def sb:Ext:=fq (cR Tryz.prog [(157,SC),(106,HO)]) [(201,gSF),(202,N3)]
theorem kc:ExtOk Tryz.prog sb:=bD (aS (.cons Pm (.cons xW .nil))) (.cons TL (.cons TJ .nil))
noncomputable def JZ:Ext:=cR Tryz.prog []
theorem Gs:ExtOk Tryz.prog JZ:=aS .nil
noncomputable def pv:Code:=(Tryz.f168.body).getD .skip
theorem ntmps21:Tryz.f168.ntmps=26:=by kernel_rfl
theorem SJ(v:Value)(O:List ae)(g:Nat→Value):retVal Tryz.prog Tryz.f168 (av 26 g [(2,v)] O)=some v:=by kernel_rfl
noncomputable def H2:Code:=sL (pv)
theorem JO:codeSafe Tryz.prog 26 H2=true:=by kernel_rfl
noncomputable def MA:Code:=sL (sR (pv))
theorem R7:codeSafe Tryz.prog 26 MA=true:=by kernel_rfl
noncomputable def MB:Code:=sL (sL (sR (sR (pv))))
theorem R8:codeSafe Tryz.prog 26 MB=true:=by kernel_rfl
noncomputable def D8:Code:=nO (jn (sR (sL (sR (sR (pv))))))
theorem Fu:codeSafe Tryz.prog 26 D8=true:=by kernel_rfl
noncomputable def D9:Code:=sR (sR (sR (pv)))
theorem JP:codeSafe Tryz.prog 26 D9=true:=by kernel_rfl
noncomputable abbrev ku:Code:=.seq H2 (.seq MA (.seq (.seq MB (.block 0 (.loop D8))) D9))
theorem xG:Tryz.f168.body=some ku:=by kernel_rfl
section
theorem P5(o:ae)(n c:Nat):(execN Tryz.prog (aCall Tryz.prog sb 60) (callN Tryz.prog sb 60) 60 H2 ⟨tmsOf [af 0 n c] 0 .leaf,heapOf [o,.dead] aE,[]⟩ (ei [])).map (fun y=>(look2 1 [0] [0] (y.1,y.2.1),y.2.2.q,y.2.2.r,y.2.2.x)) =
 some ((.normal,[o],[(0,vS true 0 n c)],true),[],[],[]):=by kernel_rfl
end
section
theorem MV  : (execN Tryz.prog (aCall Tryz.prog sb 60) (callN Tryz.prog sb 60) 60 H2 ⟨tmsOf [ax] 0 .leaf,heapOf [.dead] aE,[]⟩ (ei [])).map (fun y=>(look2 1 [0] [0] (y.1,y.2.1),y.2.2.q,y.2.2.r,y.2.2.x)) =
 some ((.normal,[.dead],[(0,ax)],true),[],[],[]):=by kernel_rfl
end
section
theorem P6(f:Bool)(o:ae)(n c:Nat)(g:Nat→Value):(execN Tryz.prog (aCall Tryz.prog sb 60) (callN Tryz.prog sb 60) 60 MA (av 26 g [(0,vS f 0 n c)] [o]) (ei [])).map (fun y=>(look2 2 [0,1] [0,3] (y.1,y.2.1),y.2.2.q,y.2.2.r,y.2.2.x)) =
 some ((.normal,[o,.dead],[(0,vS f 0 n c),(3,ax)],true),[],[],[]):=by cases f <;> kernel_rfl
end
section
theorem P7(f:Bool)(o:ae)(n c:Nat)(g:Nat→Value):(execN Tryz.prog (aCall Tryz.prog sb 60) (callN Tryz.prog sb 60) 60 MB (av 26 g [(0,vS f 0 n c),(3,ax)] [o,.dead]) (ei [])).map (fun y=>(look2 2 [0,1] [3,6,7,8] (y.1,y.2.1),y.2.2.q,y.2.2.r,y.2.2.x)) =
 some ((.normal,[o,.dead],[(3,ax),(6,vS f 0 n c),(7,iN (kk f n)),(8,iN 0)],true),[],[],[]):=by cases f <;> kernel_rfl
end
theorem Qa(f fu:Bool)(o U:ae)(n c u i:Nat)(x:aa)(zs:List aQ)(g:Nat→Value):(execN Tryz.prog (aCall Tryz.prog sb 60) (callN Tryz.prog sb 60) 60 D8 (av 26 g [(3,F' fu 1 u),(6,vS f 0 n c),(7,iN (kk f n)),(8,iN i)] [o,U]) (ei [(0,.v (.bool false))])).map (fun y=>(look2 1 [1] [3] (y.1,y.2.1),y.2.2.q,y.2.2.r,y.2.2.x)) =
 some ((.exit 0,[U],[(3,F' fu 0 u)],true),[(some (.bool (decide ((Int.ofNat i)<(Int.ofNat (kk f n))))),.bool false)],[],[]):=by cases f <;> cases fu <;> kernel_rfl
theorem P8(f fu:Bool)(o U:ae)(n c u i:Nat)(x:aa)(zs:List aQ)(g:Nat→Value):(execN Tryz.prog (aCall Tryz.prog sb 60) (callN Tryz.prog sb 60) 60 D8 (av 26 g [(3,F' fu 1 u),(6,vS true 0 n c),(7,iN (kk true n)),(8,iN i)] [o,U]) (ei [(15,.v (iN (i+1))),(13,.e (nj 5 (u+1)) (gj fu 1 (lB zs))),(7,.v (.bool true)),(2,.v (.agg ⟨vc x⟩)),(1,.v (pb 0 (i*7))),(0,.v (.bool true))])).map (fun y=>(look2 2 [0,5] [3,6,7,8] (y.1,y.2.1),y.2.2.q,y.2.2.r,y.2.2.x)) =
 some ((.normal,[o,lB zs],[(3,.slice (some ⟨1,0,none⟩) (u+1) 10),(6,vS true 0 n c),(7,iN (kk true n)),(8,iN (i+1))],true),[(some (.int .i64 (wrapF .i64 (Int.ofNat i+Int.ofNat 1))),iN (i+1)),(some (.bool (toldV x)),.bool true),(aLoad Tryz.prog (heapOf [o,U,.dead] aE).get 78 (pb 0 (i*7)),.agg ⟨vc x⟩),(fstV ((aIndexAddr Tryz.prog 24 (vS true 0 n c) (iN i)).map fun v=>(v,none)),pb 0 (i*7)),(some (.bool (decide ((Int.ofNat i)<(Int.ofNat (kk true n))))),.bool true)],[],[(aAppend Tryz.prog (heapOf [o,U,.dead,.cells 78 [.int .i64 x.id,.bool x.n,.int .i64 x.t,.int .i64 x.o,.int .i64 x.r,.int .i64 x.d,.int .i64 x.i] false,.cells 28 [.int .i64 ((bm x).1),.int .i64 ((bm x).2.1),.int .i64 ((bm x).2.2)] false] aE).get 5 [172,172] [F' fu 1 u,nj 4 1],(nj 5 (u+1),gj fu 1 (lB zs)))]):=by cases fu <;> kernel_rfl
theorem P9(f fu:Bool)(o U:ae)(n c u i:Nat)(x:aa)(zs:List aQ)(g:Nat→Value):(execN Tryz.prog (aCall Tryz.prog sb 60) (callN Tryz.prog sb 60) 60 D8 (av 26 g [(3,F' fu 1 u),(6,vS true 0 n c),(7,iN (kk true n)),(8,iN i)] [o,U]) (ei [(8,.v (iN (i+1))),(7,.v (.bool false)),(2,.v (.agg ⟨vc x⟩)),(1,.v (pb 0 (i*7))),(0,.v (.bool true))])).map (fun y=>(look2 2 [0,1] [3,6,7,8] (y.1,y.2.1),y.2.2.q,y.2.2.r,y.2.2.x)) =
 some ((.normal,[o,U],[(3,F' fu 1 u),(6,vS true 0 n c),(7,iN (kk true n)),(8,iN (i+1))],true),[(some (.int .i64 (wrapF .i64 (Int.ofNat i+Int.ofNat 1))),iN (i+1)),(some (.bool (toldV x)),.bool false),(aLoad Tryz.prog (heapOf [o,U,.dead] aE).get 78 (pb 0 (i*7)),.agg ⟨vc x⟩),(fstV ((aIndexAddr Tryz.prog 24 (vS true 0 n c) (iN i)).map fun v=>(v,none)),pb 0 (i*7)),(some (.bool (decide ((Int.ofNat i)<(Int.ofNat (kk true n))))),.bool true)],[],[]):=by cases fu <;> kernel_rfl
section
theorem Qb(us ss dd:List aQ)(k d:Nat)(g:Nat→Value):(execN Tryz.prog (aCall Tryz.prog sb 60) (callN Tryz.prog sb 60) 60 D9 (av 26 g [(3,.slice (some ⟨0,0,none⟩) k 10)] [lB us]) (ei [(3,.e (.slice (some ⟨2,0,none⟩) d 11) [.put 0 (.dead),.push (lB dd),.push (.dead)]),(1,.e (.tuple #[]) [.put 0 (lB ss)])])).map (fun y=>(look2 1 [2] [2] (y.1,y.2.1),y.2.2.q,y.2.2.r,y.2.2.x)) =
 some ((.ret,[lB dd],[(2,.slice (some ⟨0,0,none⟩) d 11)],true),[],[(N3 [.slice (some ⟨0,0,none⟩) k 10] (heapOf [lB ss,.dead] aE),(.slice (some ⟨2,0,none⟩) d 11,(heapOf [lB ss,.dead] aE).pE [.put 0 (.dead),.push (lB dd),.push (.dead)])),(gSF [.slice (some ⟨0,0,none⟩) k 10,.func (.func 105) #[] #[]] (heapOf [lB us,.dead] aE),(.tuple #[],(heapOf [lB us,.dead] aE).pE [.put 0 (lB ss)]))],[]):=by kernel_rfl
end
section
theorem MW(g:Nat→Value):(execN Tryz.prog (aCall Tryz.prog JZ 60) (callN Tryz.prog JZ 60) 60 D9 (av 26 g [(3,ax)] [.dead]) (ei [])).map (fun y=>(look2 0 [] [2] (y.1,y.2.1),y.2.2.q,y.2.2.r,y.2.2.x)) =
 some ((.ret,[],[(2,ax)],true),[],[],[]):=by kernel_rfl
end
def ownL(ls:List aQ):ae:=match ls with
 | []=>.dead
 | l::ls=>lB (l::ls)
theorem nq{ls:List aQ}(h:ls≠[]):ownL ls=lB ls:=by cases ls with
 | nil=>exact absurd rfl h
 | cons=>rfl
theorem qN(ls:List aQ):aD (ownL ls)=true:=by cases ls with
 | nil=>rfl
 | cons=>exact ky _
def o8(ls:List aQ)(b:Nat):Value:=match ls with
 | []=>ax
 | l::ls=>.slice (some ⟨b,0,none⟩) (ls.length+1) 11
def sN(ls:List aQ):List ae:=match ls with
 | []=>[]
 | l::ls=>[lB (l::ls)]
theorem E8(ls:List aQ):sN ls = []∨∃ B,sN ls = [B]∧aD B=true∧nT B=true:=by
 cases ls with
 | nil=>exact .inl rfl
 | cons i ids=>exact .inr ⟨lB (i::ids),rfl,ky _,rfl⟩
theorem Ix(ls:List aQ):gz (o8 ls 0)=true:=by cases ls <;> rfl
theorem pe:Tryz.prog.underlying 172=some (.slice 28):=by kernel_rfl
theorem PF:∃ i,Tryz.prog.info? 28=some i∧i.size=3∧i.bytes=24:=by
 have h:(Tryz.prog.info? 28).map (fun i=>(i.size,i.bytes))=some (3,24):=by kernel_rfl
 obtain ⟨i,h1,h2⟩:=Option.map_eq_some_iff.1 h;simp only [Prod.mk.injEq] at h2;exact ⟨i,h1,h2.1,h2.2⟩
theorem Sl:∃ z,tzero Tryz.prog 28=some z∧z.length=3:=by
 have h:(tzero Tryz.prog 28).map (fun z=>z.length)=some 3:=by kernel_rfl
 obtain ⟨z,h1,h2⟩:=Option.map_eq_some_iff.1 h;exact ⟨z,h1,h2⟩
theorem GR{get:Nat→Option ae}{sz b b2 k:Nat}{ls:List aQ}{x:aQ}{f:Bool}(hf:f = !ls.isEmpty)(hb:get b=some (ownL ls))(hb2:get b2=some (.cells 28 (lc x) false))(hk:k=ls.length)(hl:k<2000000) :
  aAppend Tryz.prog get sz [172,172] [F' f b k,nj b2 1]=some (nj sz (k+1),gj f b (lB (ls ++ [x]))):=by
 subst hf hk;obtain ⟨i,hi,h1,h8⟩:=PF;obtain ⟨z,hz,hzl⟩:=Sl;have hsrc:aSrc Tryz.prog get 3 z (.slice 28) (nj b2 1)=some (lc x,1):=by
  unfold aSrc nj;simp only [srcLen,srcCells,hb2];rw [if_neg (by omega),if_neg (by omega),cu (n:=1*3) rfl]
  rfl
 cases ls with
 | nil =>
   show aAppend Tryz.prog get sz [172,172] [ax,nj b2 1]=some (nj sz 1,[.push (lB [x])])
   unfold aAppend;simp only [pe,hi,hz,h1,h8,hzl];rw [if_neg (by decide)]
   simp only [hsrc];rw [if_neg (by simp [isOne,lc])]
   simp only [ax];rw [if_neg (by omega),if_neg (by omega)]
   rfl
 | cons w ws =>
   have hun:w::ws≠[]:=by simp
   rw [nq hun] at hb;generalize w::ws=ls at *;rw [kW hun];show aAppend Tryz.prog get sz [172,172] [nj b ls.length,nj b2 1]=some (nj sz (ls.length+1),[.put b .dead,.push (lB (ls ++ [x]))])
   unfold lB at hb;have hg:eO (cL ls) 0 (ls.length*3)=some (cL ls):=cu (dZ ls)
   unfold aAppend;simp only [pe,hi,hz,h1,h8,hzl];rw [if_neg (by decide)]
   simp only [hsrc];rw [if_neg (by simp [isOne,lc])]
   simp only [nj];rw [if_neg (by omega),if_neg (by omega)]
   simp only [hb,hg];rw [if_neg (by omega),if_pos (by decide),if_neg (by rw [dZ]; omega)]
   have e:cL (ls ++ [x])=cL ls++lc x:=by unfold cL; rw [List.flatMap_append]; simp
   unfold lB;rw [e]
def aT(vs:List aa):List aQ:=(vs.filter toldV).map bm
def bG(ls:List aQ):List aQ:=match ls with
 | []=>[]
 | l::ls=>iy (dp (l::ls))
def Em(us:List aQ)(x:aa):List aQ:=bif toldV x then us ++ [bm x] else us
theorem qC:∀ {vs:List aa} {us:List aQ},vs.foldl Em us=us++aT vs
 | [],us=>by simp [aT]
 | v::vs,us=>by
   rw [List.foldl_cons,qC];unfold Em aT;cases h:toldV v with
   | true=>rw [List.filter_cons_of_pos h]; simp
   | false=>rw [List.filter_cons_of_neg (by rw [h]; simp)]; rfl
theorem ov(vs:List aa):(aT vs).length≤vs.length:=by unfold aT; rw [List.length_map]; exact List.length_filter_le ..
theorem L0{ls:List aQ}(h:ls≠[]):iy ls≠[]:=fun e=>by
 obtain ⟨y,hy⟩:∃ y,ls.getLast? = some y:=⟨_,List.getLast?_eq_some_getLast h⟩
 have:=vv hy
 rw [e] at this; cases this
def levR(vs:List aa):xn:=fun rest=>match rest with
 | []=>some (o8 (bG (aT vs)) 0,sN (bG (aT vs)))
 | _=>none
theorem Tk{q:∀ (v:Value) (O:List ae) (g:Nat→Value),retVal Tryz.prog Tryz.f168 (av 26 g [(2,v)] O)=some v}{ls:List aQ}(h:ls≠[])(g:Nat→Value):BZ Tryz.f168 (o8 ls 0) (sN ls) .ret (av 26 g [(2,.slice (some ⟨0,0,none⟩) ls.length 11)] [lB ls]):=by
 cases ls with
 | nil=>exact absurd rfl h
 | cons l ls=>exact ⟨.inr rfl,rfl,q _ _ g,fun B hB=>by cases hB; show (heapOf _ aE).get 0=_; rw [al]; rfl⟩
theorem Re(vs:List aa)(hn:vs.length<1000000):∀ rest v0 O,levR vs rest=some (v0,O)→l7 Tryz.f168 ku 26 vs rest v0 O:=fun rest v0 O h=>by
 unfold levR at h;split at h
 case h_2=>cases h
 cases h;refine ⟨E8 _,Ix _,(by intro r hr; cases hr),by simp,fun f o c W ho hrow hfl=>?_⟩
 have hkk:=ou hfl
 have fx2:∀ us:List aQ,∀ r:List ae,∀ i,i<2→∀ o',(o::ownL us::r)[i]? = some o'→dD 0 o':=fun us=>vH ho (qN us)
 refine aj.seq (Q1:=fun e st=>e = .normal∧∃ g,st=av 26 g [(0,vS f 0 vs.length c)] [o]) ?_ ?_ (fun x st hne hq=>absurd hq.1 hne)
 ·cases f with
  | true=>exact aj.bC kc follows 60 1 _ _ _ _ (P5 o vs.length c) Met.nil ay.nil az.nil JO rfl rfl (cj ho _) fun g=>⟨rfl,g,rfl⟩
  | false =>
    obtain ⟨rfl,rfl⟩:=hfl rfl;exact aj.bC kc follows 60 1 _ _ _ _ MV Met.nil ay.nil az.nil JO rfl rfl (cj rfl _) fun g=>⟨rfl,g,rfl⟩
 rintro st ⟨-,g,rfl⟩;refine aj.seq (Q1:=fun e st=>e = .normal∧∃ g,st=av 26 g [(0,vS f 0 vs.length c),(3,ax)] [o,.dead]) (aj.bC kc follows 60 2 _ _ _ _ (P6 f o vs.length c g) Met.nil ay.nil az.nil R7 rfl rfl (fx2 [] _) fun g=>⟨rfl,g,rfl⟩) ?_ (fun x st hne hq=>absurd hq.1 hne)
 rintro st ⟨-,g,rfl⟩;let I:List aQ→Nat→(Nat→Value)→St:=fun us i g=>av 26 g [(3,F' (!us.isEmpty) 1 us.length),(6,vS f 0 vs.length c),(7,iN (kk f vs.length)),(8,iN i)] [o,ownL us]
 refine aj.seq (Q1:=fun e st=>e = .normal∧∃ g,st=av 26 g [(3,F' (!(aT vs).isEmpty) 0 (aT vs).length)] [ownL (aT vs)]) ?_ ?_ (fun x st hne hq=>absurd hq.1 hne)
 ·refine aj.seq (Q1:=fun e st=>e = .normal∧∃ g,st=I [] 0 g) (aj.bC kc follows 60 2 _ _ _ _ (P7 f o vs.length c g) Met.nil ay.nil az.nil R8 rfl rfl (fx2 [] _) fun g=>⟨rfl,g,rfl⟩) ?_ (fun x st hne hq=>absurd hq.1 hne)
  rintro st ⟨-,g,rfl⟩;refine aj.mono (jy Em [] I (fun us st=>∃ g,st=av 26 g [(3,F' (!us.isEmpty) 0 us.length)] [ownL us]) (fun us g hf=>?_) (fun i x us g hx hlt hf=>?_) g) fun e st q=>by rw [qC] at q; exact q
  ·exact aj.bC kc follows 60 1 _ _ _ _ (Qa f (!us.isEmpty) o (ownL us) vs.length c us.length vs.length ⟨0,false,0,0,0,0,0⟩ [] g) (Met.cons (ba (by rw [hkk]; simp)) Met.nil) ay.nil az.nil Fu rfl rfl (cj (qN us) []) fun g'=>⟨rfl,g',rfl⟩
  ·have hft:f=true:=by cases f with
      | true=>rfl
      | false=>rw [(hfl rfl).1] at hlt; simp at hlt
   subst hft;have hr:∃ ty ro,o = .cells ty (aI vs) ro:=by
     rcases hrow with h | h
     ·rw [h] at hlt; simp at hlt
     ·exact h
   have hul:us.length≤i:=by
     rw [← hf,qC];have:=ov (vs.take i)
     rw [List.length_take] at this;simp; omega
   have b0:dU (heapOf [o,ownL us,.dead] aE) 0 vs:=jI hr
   cases ht:toldV x with
   | false =>
     refine aj.bC kc follows 60 2 _ _ _ _ (P9 true (!us.isEmpty) o (ownL us) vs.length c us.length i x [] g)
       (Met.cons (bA (by omega)) (Met.cons (congrArg (fun b=>some (Value.bool b)) ht) (Met.cons (LtA.bU b0 hx) (Met.cons (LtA.bF hlt) (Met.cons (ba (decide_eq_true (by show ((i:Nat):Int)<((vs.length:Nat):Int); omega))) Met.nil))))) ay.nil az.nil Fu rfl rfl (fx2 us _) fun g'=>⟨rfl,g',?_⟩
     unfold Em; rw [ht]; rfl
   | true =>
     have happ:=GR (get:=(heapOf [o,ownL us,.dead,.cells 78 [.int .i64 x.id,.bool x.n,.int .i64 x.t,.int .i64 x.o,.int .i64 x.r,.int .i64 x.d,.int .i64 x.i] false,.cells 28 [.int .i64 ((bm x).1),.int .i64 ((bm x).2.1),.int .i64 ((bm x).2.2)] false] aE).get) (sz:=5) (b:=1) (b2:=4) (ls:=us) (x:=bm x) rfl (by rw [al]; rfl) (by rw [al]; rfl) rfl (by omega)
     refine aj.bC kc follows 60 2 _ _ _ _ (P8 true (!us.isEmpty) o (ownL us) vs.length c us.length i x (us ++ [bm x]) g)
       (Met.cons (bA (by omega)) (Met.cons (congrArg (fun b=>some (Value.bool b)) ht) (Met.cons (LtA.bU b0 hx) (Met.cons (LtA.bF hlt) (Met.cons (ba (decide_eq_true (by show ((i:Nat):Int)<((vs.length:Nat):Int); omega))) Met.nil))))) ay.nil (az.cons happ az.nil) Fu rfl rfl (by rw [← nq (by simp:us ++ [bm x]≠[])]; exact fx2 _ _) fun g'=>⟨rfl,g',?_⟩
     unfold Em;rw [ht,cond_true];show _=av 26 g' [(3,F' (!(us ++ [bm x]).isEmpty) 1 (us ++ [bm x]).length),_,_,_] [o,ownL (us ++ [bm x])]
     rw [pO,nq (by simp:us ++ [bm x]≠[])]
     have e1:(us ++ [bm x]).length=us.length+1:=by simp
     rw [e1]; rfl
 rintro st ⟨-,g,rfl⟩;have hl:=ov vs
 generalize aT vs=us at *;cases us with
 | nil=>exact aj.bC Gs follows 60 0 _ _ _ _ (MW g) Met.nil ay.nil az.nil JP rfl rfl (dE _) fun g=>⟨.inr rfl,rfl,SJ _ _ g,(fun B hB=>by cases hB)⟩
 | cons w ws =>
   show aj Tryz.prog 26 W D9 _ (BZ Tryz.f168 (o8 (iy (dp (w::ws))) 0) (sN (iy (dp (w::ws)))))
   have hun:w::ws≠[]:=by simp
   have hpos:0<(w::ws).length:=by simp
   generalize w::ws=us at *;rw [nq hun,kW hun];have hsl:=jk us
   have hsn:dp us≠[]:=fun e=>by rw [e] at hsl; simp at hsl; omega
   refine aj.bC kc follows 60 1 _ _ _ _ (Qb us (dp us) (iy (dp us)) us.length (iy (dp us)).length g) Met.nil
     (ay.cons (Mb (ls:=dp us) rfl (by omega) (by omega) (by omega)) (ay.cons (Mc (ls:=us) rfl rfl (by omega) (by omega)) ay.nil)) az.nil JP rfl rfl (cj (ky _) []) fun g=>Tk (q:=SJ) (L0 hsn) g
noncomputable def yX:aB:=padF (nL levR)
theorem PC:aq Tryz.prog 168 yX:=hU (jV Tryz.func168 xG (by kernel_rfl) ntmps21 fun vs hn=>Re vs hn)
theorem Cd{vs:List aa}{s:Value}{hp:Hp}(h:TN vs s hp)(hn:vs.length<1000000):yX [s] hp=some (o8 (bG (aT vs)) hp.sz,heapOf [ownL (bG (aT vs)),.dead] hp):=by
 unfold yX;have e:=rB (A:=levR) (rest:=[]) (v0:=o8 (bG (aT vs)) 0) (O:=sN (bG (aT vs))) h hn rfl
 generalize bG (aT vs)=ls at *;cases ls with
 | nil=>exact pT e
 | cons l ls =>
   refine nr (e.trans ?_)
   show some (sh3 [0] hp.sz (.slice (some ⟨0,0,none⟩) _ _),_)=_
   simp [sh3,sh2,sh1,j9,idxOf,o8]; rfl
end Go.Proofs.YtgeoommlmddgpaaGreat.LtL
namespace Go.Proofs.YtgeoommlmddgpaaGreat.LtA
open Go Go.Proofs Go.Proofs.YtgeoommlmddgpaaGreat.AI Go.RowKit Go.Proofs.YtgeoommlmddgpaaGreat.Sort Go.Proofs.YtgeoommlmddgpaaGreat.LtL
def Xo(y:aa)(p:Bool×List aa)(x:aa):Bool×List aa:=bif !p.1&&kH x y then (true,p.2) else (p.1,p.2 ++ [x])
def rest(us:List aa):List aa:=(us.foldl (Xo (eP us).1) (false,[])).2
theorem Ht(own x:aa):xN own x=bif toldV x then (bif toldV own then (bif aV x own then 1 else bif aV own x then 2 else 0) else 1) else 0:=rfl
theorem Wy:∀ {a b:Nat} {r:Bool},decide (a<b)=r→(some (Value.bool (decide (Int.ofNat a<Int.ofNat b))))=some (.bool r):=fun {a b r} h=>ba (by rw [← h]; exact decide_eq_decide.2 (by simp only [Int.ofNat_eq_natCast]; omega))
def zv:aa:=⟨0,false,0,0,0,0,0⟩
set_option maxHeartbeats 1000000
end Go.Proofs.YtgeoommlmddgpaaGreat.LtA
namespace Go.Proofs.YtgeoommlmddgpaaGreat.LtL
open Go Go.Proofs Go.Proofs.YtgeoommlmddgpaaGreat.AI Go.RowKit Go.Proofs.YtgeoommlmddgpaaGreat.Sort Go.Proofs.YtgeoommlmddgpaaGreat.LtA
theorem vu{a:List aQ}{x y:aQ}:x∈mX a y↔x∈a∨x=y:=by
 unfold mX;split
 ·rename_i h
  exact ⟨.inl,fun q=>q.elim id fun e=>by subst e; exact List.mem_of_getLast? h⟩
 ·simp
theorem Hr{l:List aQ}{x:aQ}:x∈iy l↔x∈l:=by
 have key:∀ (l a:List aQ),x∈l.foldl mX a↔x∈a∨x∈l:=by
  intro l;induction l with
  | nil=>intro a; simp
  | cons y l ih=>intro a; rw [List.foldl_cons,ih,vu,List.mem_cons,or_assoc]
 have:=key l []
 simpa [iy] using this
theorem Bp{l:List aQ}{x:aQ}:x∈dp l↔x∈l:=(List.mergeSort_perm l _).mem_iff
theorem vx{l:List aQ}{x:aQ}:x∈bG l↔x∈l:=by
 cases l with
 | nil=>exact Iff.rfl
 | cons y l=>show x∈iy (dp (y::l))↔_; rw [Hr,Bp]
theorem uI(l:List aQ):(dp l).Pairwise fun x y=>mB y x=false:=by
 have h:=List.pairwise_mergeSort (le:=fun x y=>!Go.Proofs.ltOf wE y x) (fun a b c h1 h2=>by
  have h1:mB b a=false:=by unfold mB; simpa using h1
  have h2:mB c b=false:=by unfold mB; simpa using h2
  show (!mB c a)=true
  rw [iE] at h1 h2;have:mB c a=false:=iE.2 (by omega)
  rw [this]; rfl) (fun a b=>by
  show (!mB b a || !mB a b)=true
  cases h1:mB b a with
  | false=>rfl
  | true =>
    have h1:=ni.1 h1
    have:mB a b=false:=iE.2 (by omega)
    rw [this]; rfl) l
 exact h.imp fun h=>by unfold mB; simpa using h
theorem Ds{l:List aQ}(h:l.Pairwise fun x y=>mB y x=false):(iy l).Pairwise fun x y=>mB x y=true:=by
 have key:∀ (l a:List aQ),l.Pairwise (fun x y=>mB y x=false)→a.Pairwise (fun x y=>mB x y=true)→(∀ x∈a,∀ y∈l,mB y x=false)→(l.foldl mX a).Pairwise fun x y=>mB x y=true:=by
  intro l;induction l with
  | nil=>intro a _ h _; exact h
  | cons y l ih =>
    intro a hl ha hx;rw [List.foldl_cons];obtain ⟨h1,h2⟩:=List.pairwise_cons.1 hl;refine ih _ h2 ?_ fun x hxm z hz=>?_
    ·unfold mX
     split
     ·exact ha
     ·rename_i hne
      refine List.pairwise_append.2 ⟨ha,List.pairwise_singleton _ _,fun x hxa z hz=>?_⟩
      obtain rfl:z=y:=by simpa using hz
      cases e:mB x z with
      | true=>rfl
      | false =>
        exfalso;have ez:x=z:=Ey e (hx x hxa z (.head _))
        subst ez;obtain ⟨b,w,rfl⟩:∃ b w,a=b ++ [w]:=by
          rcases List.eq_nil_or_concat a with rfl | ⟨b,w,h⟩
          ·cases hxa
          ·exact ⟨b,w,by rw [h,List.concat_eq_append]⟩
        simp only [List.getLast?_append,List.getLast?_singleton,Option.some_or,Option.some.injEq] at hne
        have hxb:x∈b:=by
          rcases List.mem_append.1 hxa with h | h
          ·exact h
          ·exact absurd (by simpa using h:x=w).symm hne
        have h3:=(List.pairwise_append.1 ha).2.2 x hxb w (by simp)
        have h4:=hx w (by simp) x (.head _)
        rw [h3] at h4; cases h4
    ·rcases vu.1 hxm with h | rfl
     ·exact hx x h z (.tail _ hz)
     ·exact h1 z hz
 exact key l [] h List.Pairwise.nil fun x hx=>by cases hx
theorem n4(l:List aQ):(bG l).Pairwise fun x y=>mB x y=true:=by
 cases l with
 | nil=>exact List.Pairwise.nil
 | cons y l=>exact Ds (uI _)
theorem Dq(l:List aQ):(bG l).length≤l.length:=by
 cases l with
 | nil=>exact Nat.le_refl _
 | cons y l=>have:=Hq (dp (y::l)); rw [jk] at this; exact this
def Pg(us:List aa)(y:aQ):Bool:=us.any fun x=>!x.n&&(bm x==y)
def aM(us:List aa)(x:aa)(ls:List aQ)(k:Nat):List Bool:=(ls.take k).map (Pg (us ++ [x]))++(ls.drop k).map (Pg us)
theorem yb{hp:Hp}{b:Nat}{us:List aQ}{i:Nat}{x:aQ}(hg:hp.get b=some (ownL us))(h:us[i]? = some x):aLoad Tryz.prog hp.get 28 (pb b (i*3))=some (lA x):=by
 have hne:us≠[]:=fun e=>by subst e; simp at h
 rw [nq hne] at hg;simp only [aLoad,pb,hg,lB,KG,o9];have:=kT (f:=lc) (k:=3) (ps:=us) (fun _ _=>rfl) h
 unfold cL;rw [this];rfl
theorem eY{o:ae}{r:List ae}:(heapOf (o::r) aE).get 0=some o:=by rw [al]; rfl
theorem bp{O:List ae}{b:Nat}{o:ae}(h:O[b]? = some o):(heapOf O aE).get b=some o:=by rw [al]; exact h
def zH:aa:=⟨0,false,0,0,0,0,0⟩
def OX(t o r d i:Int):aa×Int:=bif dG false t o r d i then (⟨0,false,t,o,r,d,i⟩,0) else (zH,1)
def wK(p:aa×Int):Value:=.tuple #[cN p.1,.int .i64 p.2]
theorem yj(p:aa×Int):eH (wK p):=⟨rfl,fun s=>by simp [mv3,mv2,mv1,wK,cN]⟩
theorem jv{n:Bool}{t o r d i:Int}:((cg n t o r d i) != Int.ofNat 0) = !dG n t o r d i:=by
 unfold cg;cases dG n t o r d i <;> rfl
def bW(me:Int)(vs:List aa):aa×Int :=
 bif !aF vs then (zH,1) else bif !dG false (Int.ofNat 0) (Int.ofNat 0) (Int.ofNat 0) (Int.ofNat 0) me then (zH,1) else bif !(eP vs).2 then (zH,7) else
 OX (bm (eP vs).1).1 (bm (eP vs).1).2.1 (bm (eP vs).1).2.2 (wrapF .i64 ((eP vs).1.d+Int.ofNat 1)) me
def adoptA(vs:List aa):List Value→Option Value
 | [.int .i64 me]=>some (wK (bW me vs))
 | _=>none
noncomputable def S1:Ext:=fq (cR Tryz.prog [(57,g15),(106,HO)]) [(58,j6),(180,Kg)]
theorem BU:ExtOk Tryz.prog S1:=bD (aS (.cons vT (.cons xW .nil))) (.cons tU (.cons Pu .nil))
noncomputable def DD:Code:=(Tryz.f159.body).getD .skip
theorem K2:Tryz.f159.body=some DD:=by kernel_rfl
theorem Uc:Tryz.f159.ntmps=39:=by kernel_rfl
theorem WN:codeSafe Tryz.prog 39 DD=true:=by kernel_rfl
theorem Oe(f:Bool)(o:ae)(n c:Nat)(me:Int)(y:aa)(lb:Bool)(Q:Value→List ae→List Nat→List ae→Prop):let v0:Value:=.agg #[.bool false,iN 0,iN 0,iN 0,iN 0,iN 0];let b1:ae:=.cells 23 [.bool false,iN 0,iN 0,iN 0,iN 0,iN 0] false;(HT (Kg [vS f 0 n c]) (heapOf [o,.dead,b1] aE) (.tuple #[.agg ⟨vc y⟩,.bool lb]) [.dead]∧(HT (j6 [vS f 0 n c]) (heapOf [o,.dead,b1,.dead,.cells 78 [Iv y.id,.bool y.n,Iv y.t,Iv y.o,Iv y.r,Iv y.d,Iv y.i] false] aE) (iN 0) [.dead]∧((((cg false (Int.ofNat 0) (Int.ofNat 0) (Int.ofNat 0) (Int.ofNat 0) me) != (Int.ofNat 0))=true→Q (.tuple #[v0,iN 1]) [o] [] [])∧(((cg false (Int.ofNat 0) (Int.ofNat 0) (Int.ofNat 0) (Int.ofNat 0) me) != (Int.ofNat 0))=false→((!lb)=true→Q (.tuple #[v0,iN 7]) [o] [] [])∧((!lb)=false→(((cg false ((bm y).1) ((bm y).2.1) ((bm y).2.2) (wrapF .i64 (y.d+(Int.ofNat 1))) me) != (Int.ofNat 0))=true→(some (Iv y.d):OV)=some (Iv y.d)∧(Q (.tuple #[v0,Iv (cg false ((bm y).1) ((bm y).2.1) ((bm y).2.2) (wrapF .i64 (y.d+(Int.ofNat 1))) me)]) [o] [] []))∧(((cg false ((bm y).1) ((bm y).2.1) ((bm y).2.2) (wrapF .i64 (y.d+(Int.ofNat 1))) me) != (Int.ofNat 0))=false→(some (Iv y.d):OV)=some (Iv y.d)∧(Q (.tuple #[.agg #[.bool false,Iv ((bm y).1),Iv ((bm y).2.1),Iv ((bm y).2.2),Iv (wrapF .i64 (y.d+(Int.ofNat 1))),Iv me],iN 0]) [o] [] [])))))))=RF Tryz.prog S1 Tryz.f159 60 DD ⟨tmsOf [vS f 0 n c,Iv me] 0 .leaf,heapOf [o,.dead] aE,[]⟩ (.h 3 (.tuple #[.agg ⟨vc y⟩,.bool lb]) [.dead] (.h 11 (iN 0) [.dead] (.b 21 (.stop 1 [] []) (.b 25 (.stop 1 [] []) (.b 54 (.stop 1 [] []) (.stop 1 [] [])))))) Q:=by cases f <;> (intros;kernel_rfl)
theorem Od(f:Bool)(o:ae)(n c:Nat)(me:Int)(y:aa)(lb:Bool)(Q:Value→List ae→List Nat→List ae→Prop):let b0:ae:=.cells 23 [.bool false,iN 0,iN 0,iN 0,iN 0,iN 0] false;(HT (Kg [vS f 0 n c]) (heapOf [o,.dead,b0] aE) (.tuple #[.agg ⟨vc y⟩,.bool lb]) [.dead]∧(HT (j6 [vS f 0 n c]) (heapOf [o,.dead,b0,.dead,.cells 78 [Iv y.id,.bool y.n,Iv y.t,Iv y.o,Iv y.r,Iv y.d,Iv y.i] false] aE) (iN 1) [.dead]∧(Q (.tuple #[.agg #[.bool false,iN 0,iN 0,iN 0,iN 0,iN 0],iN 1]) [o] [] [])))=RF Tryz.prog S1 Tryz.f159 60 DD ⟨tmsOf [vS f 0 n c,Iv me] 0 .leaf,heapOf [o,.dead] aE,[]⟩ (.h 3 (.tuple #[.agg ⟨vc y⟩,.bool lb]) [.dead] (.h 11 (iN 1) [.dead] (.stop 1 [] []))) Q:=by cases f <;> (intros;kernel_rfl)
theorem Rh(vs:List aa)(hn:vs.length<1000000):∀ rest v0,adoptA vs rest=some v0→Kz Tryz.f159 DD 39 0 vs rest v0:=fun rest v0 h=>by
 unfold adoptA at h;split at h
 case h_2=>cases h
 rename_i me;cases h;refine ⟨yj _,(by intro r hr; simp at hr; subst hr; exact jl _ _),by simp,fun f o c W X ho hrow hfl=>?_⟩
 have T0:∀ {hp:Hp},hp.get 0=some o→TN vs (vS f 0 vs.length c) hp:=fun hg=>gf ho hrow hfl hg
 have hr0:∀ {hp:Hp},hp.get 0=some o→j6 [vS f 0 vs.length c] hp=some (mc (aF vs),heapOf [.dead] hp):=fun hg=>pz (T0 hg) (by unfold Aw; omega)
 have hlow:∀ {hp:Hp},hp.get 0=some o→Kg [vS f 0 vs.length c] hp=some (Es vs,heapOf [.dead] hp):=fun hg=>Kh (T0 hg) hn
 cases hr:aF vs with
 | true =>
   rw [hr] at hr0;refine bh.cq BU follows WN (Oe f o vs.length c me (eP vs).1 (eP vs).2 _) ?_
   refine ⟨hlow eY,hr0 eY,fun h_21=>Q1.of ?_,fun h_21=>⟨fun h_25=>Q1.of ?_,fun h_25=>⟨fun h_54=>⟨rfl,Q1.of ?_⟩,fun h_54=>⟨rfl,Q1.of ?_⟩⟩⟩⟩
   all_goals ((try simp only [jv,Bool.not_eq_true',Bool.not_eq_false'] at *); simp only [bW,OX,cg, *,cond_true,cond_false,Bool.not_true,Bool.not_false,Bool.and_self,Bool.and_true,Bool.and_false,Bool.false_and]; rfl)
 | false =>
   rw [hr] at hr0;refine bh.cq BU follows WN (Od f o vs.length c me (eP vs).1 (eP vs).2 _) ?_
   refine ⟨hlow eY,hr0 eY,Q1.of ?_⟩
   all_goals ((try simp only [jv,Bool.not_eq_true',Bool.not_eq_false'] at *); simp only [bW,OX,cg, *,cond_true,cond_false,Bool.not_true,Bool.not_false,Bool.and_self,Bool.and_true,Bool.and_false,Bool.false_and]; rfl)
noncomputable def Oz:aB:=toldA 0 adoptA
theorem TG:aq Tryz.prog 159 Oz:=ru Tryz.func159 K2 (by kernel_rfl) Uc fun vs hn=>Rh vs hn
theorem Km{vs:List aa}{s:Value}{hp:Hp}(me:Int)(h:TN vs s hp)(hn:vs.length<1000000):Oz [s,.int .i64 me] hp=some (wK (bW me vs),heapOf [.dead] hp):=xf rfl h hn rfl
def o0(y:aQ):ae:=.cells 28 (lc y) false
theorem A6(y:aQ):aD (o0 y)=true:=rfl
theorem Ei{hp:Hp}{b:Nat}{y:aQ}(h:hp.get b=some (o0 y)):aLoad Tryz.prog hp.get 28 (pb b 0)=some (lA y):=by
 simp only [aLoad,pb,h,o0,KG,o9];rfl
def zl:aQ:=(0,0,0)
set_option maxHeartbeats 1000000
noncomputable def jo:Ext:=cR Tryz.prog [(106,HO)]
theorem gh:ExtOk Tryz.prog jo:=aS (.cons xW .nil)
noncomputable def vD:Code:=(Tryz.f197.body).getD .skip
theorem EE:Tryz.f197.ntmps=32:=by kernel_rfl
noncomputable def zA:Code:=sL (vD)
theorem Fx:codeSafe Tryz.prog 32 zA=true:=by kernel_rfl
noncomputable def Eb:Code:=sL (sR (vD))
theorem NI:codeSafe Tryz.prog 32 Eb=true:=by kernel_rfl
noncomputable def Ec:Code:=sL (sL (sR (sR (vD))))
theorem NJ:codeSafe Tryz.prog 32 Ec=true:=by kernel_rfl
noncomputable def sA:Code:=nO (jn (sR (sL (sR (sR (vD))))))
theorem uH:codeSafe Tryz.prog 32 sA=true:=by kernel_rfl
noncomputable def Ed:Code:=sR (sR (sR (vD)))
theorem NK:codeSafe Tryz.prog 32 Ed=true:=by kernel_rfl
noncomputable abbrev zm:Code:=.seq zA (.seq Eb (.seq (.seq Ec (.block 0 (.loop sA))) Ed))
theorem G0:Tryz.f197.body=some zm:=by kernel_rfl
theorem PY(f:Bool)(o:ae)(n c i:Nat)(k:Int)(x:aa)(v:aQ)(g:Nat→Value):(execN Tryz.prog (aCall Tryz.prog jo 60) (callN Tryz.prog jo 60) 60 zA ⟨tmsOf [vS f 0 n c,lA v] 0 .leaf,heapOf [o,.dead] aE,[]⟩ (ei [])).map (fun y=>(look2 1 [0,2] [0,3] (y.1,y.2.1),y.2.2.q,y.2.2.r,y.2.2.x)) =
 some ((.normal,[o,.cells 28 [.int .i64 v.1,.int .i64 v.2.1,.int .i64 v.2.2] false],[(0,vS f 0 n c),(3,pb 1 0)],true),[],[],[]):=by cases f <;> kernel_rfl
theorem MT(f:Bool)(o:ae)(n c i:Nat)(k:Int)(x:aa)(v:aQ)(g:Nat→Value):(execN Tryz.prog (aCall Tryz.prog jo 60) (callN Tryz.prog jo 60) 60 zA ⟨tmsOf [ax,lA v] 0 .leaf,heapOf [.dead] aE,[]⟩ (ei [])).map (fun y=>(look2 1 [0,1] [0,3] (y.1,y.2.1),y.2.2.q,y.2.2.r,y.2.2.x)) =
 some ((.normal,[.dead,.cells 28 [.int .i64 v.1,.int .i64 v.2.1,.int .i64 v.2.2] false],[(0,ax),(3,pb 1 0)],true),[],[],[]):=by kernel_rfl
theorem PZ(f:Bool)(o:ae)(n c i:Nat)(k:Int)(x:aa)(v:aQ)(g:Nat→Value):(execN Tryz.prog (aCall Tryz.prog jo 60) (callN Tryz.prog jo 60) 60 Eb (av 32 g [(0,vS f 0 n c),(3,pb 1 0)] [o,(o0 v)]) (ei [])).map (fun y=>(look2 2 [0,1] [0,3,5] (y.1,y.2.1),y.2.2.q,y.2.2.r,y.2.2.x)) =
 some ((.normal,[o,(o0 v)],[(0,vS f 0 n c),(3,pb 1 0),(5,iN 1099511627776)],true),[],[],[]):=by cases f <;> kernel_rfl
theorem P0(f:Bool)(o:ae)(n c i:Nat)(k:Int)(x:aa)(v:aQ)(g:Nat→Value):(execN Tryz.prog (aCall Tryz.prog jo 60) (callN Tryz.prog jo 60) 60 Ec (av 32 g [(0,vS f 0 n c),(3,pb 1 0),(5,.int .i64 k)] [o,(o0 v)]) (ei [])).map (fun y=>(look2 2 [0,1] [3,5,8,9,10] (y.1,y.2.1),y.2.2.q,y.2.2.r,y.2.2.x)) =
 some ((.normal,[o,(o0 v)],[(3,pb 1 0),(5,.int .i64 k),(8,vS f 0 n c),(9,iN (kk f n)),(10,iN 0)],true),[],[],[]):=by cases f <;> kernel_rfl
theorem MU(f:Bool)(o:ae)(n c i:Nat)(k:Int)(x:aa)(v:aQ)(g:Nat→Value):(execN Tryz.prog (aCall Tryz.prog jo 60) (callN Tryz.prog jo 60) 60 sA (av 32 g [(3,pb 1 0),(5,.int .i64 k),(8,vS f 0 n c),(9,iN (kk f n)),(10,iN i)] [o,(o0 v)]) (ei [(0,.v (.bool false))])).map (fun y=>(look2 0 [] [5] (y.1,y.2.1),y.2.2.q,y.2.2.r,y.2.2.x)) =
 some ((.exit 0,[],[(5,.int .i64 k)],true),[(some (.bool (decide ((Int.ofNat i)<(Int.ofNat (kk f n))))),.bool false)],[],[]):=by cases f <;> kernel_rfl
theorem P1(f:Bool)(o:ae)(n c i:Nat)(k:Int)(x:aa)(v:aQ)(g:Nat→Value):(execN Tryz.prog (aCall Tryz.prog jo 60) (callN Tryz.prog jo 60) 60 sA (av 32 g [(3,pb 1 0),(5,.int .i64 k),(8,vS true 0 n c),(9,iN (kk true n)),(10,iN i)] [o,(o0 v)]) (ei [(22,.v (iN (i+1))),(14,.v (.bool true)),(13,.v (lA v)),(8,.v (.bool true)),(2,.v (.agg ⟨vc x⟩)),(1,.v (pb 0 (i*7))),(0,.v (.bool true))])).map (fun y=>(look2 2 [0,1] [3,5,8,9,10] (y.1,y.2.1),y.2.2.q,y.2.2.r,y.2.2.x)) =
 some ((.normal,[o,(o0 v)],[(3,pb 1 0),(5,.int .i64 (if x.d<k then x.d else k)),(8,vS true 0 n c),(9,iN (kk true n)),(10,iN (i+1))],true),[(some (.int .i64 (wrapF .i64 (Int.ofNat i+Int.ofNat 1))),iN (i+1)),(aLoad Tryz.prog (heapOf [o,(o0 v),.dead,.cells 78 [.int .i64 x.id,.bool x.n,.int .i64 x.t,.int .i64 x.o,.int .i64 x.r,.int .i64 x.d,.int .i64 x.i] false] aE).get 28 (pb 1 0),lA v),(fstV ((aBin Tryz.prog .eql 28 (lA (bm x)) (lA v)).map fun v=>(v,none)),.bool true),(aLoad Tryz.prog (heapOf [o,(o0 v),.dead,.cells 78 [.int .i64 x.id,.bool x.n,.int .i64 x.t,.int .i64 x.o,.int .i64 x.r,.int .i64 x.d,.int .i64 x.i] false] aE).get 28 (pb 1 0),lA v),(some (.bool (!x.n)),.bool true),(aLoad Tryz.prog (heapOf [o,(o0 v),.dead] aE).get 78 (pb 0 (i*7)),.agg ⟨vc x⟩),(fstV ((aIndexAddr Tryz.prog 24 (vS true 0 n c) (iN i)).map fun v=>(v,none)),pb 0 (i*7)),(some (.bool (decide ((Int.ofNat i)<(Int.ofNat (kk true n))))),.bool true)],[],[]):=by kernel_rfl
theorem P2(f:Bool)(o:ae)(n c i:Nat)(k:Int)(x:aa)(v:aQ)(g:Nat→Value):(execN Tryz.prog (aCall Tryz.prog jo 60) (callN Tryz.prog jo 60) 60 sA (av 32 g [(3,pb 1 0),(5,.int .i64 k),(8,vS true 0 n c),(9,iN (kk true n)),(10,iN i)] [o,(o0 v)]) (ei [(16,.v (iN (i+1))),(14,.v (.bool false)),(13,.v (lA v)),(8,.v (.bool true)),(2,.v (.agg ⟨vc x⟩)),(1,.v (pb 0 (i*7))),(0,.v (.bool true))])).map (fun y=>(look2 2 [0,1] [3,5,8,9,10] (y.1,y.2.1),y.2.2.q,y.2.2.r,y.2.2.x)) =
 some ((.normal,[o,(o0 v)],[(3,pb 1 0),(5,.int .i64 k),(8,vS true 0 n c),(9,iN (kk true n)),(10,iN (i+1))],true),[(some (.int .i64 (wrapF .i64 (Int.ofNat i+Int.ofNat 1))),iN (i+1)),(aLoad Tryz.prog (heapOf [o,(o0 v),.dead,.cells 78 [.int .i64 x.id,.bool x.n,.int .i64 x.t,.int .i64 x.o,.int .i64 x.r,.int .i64 x.d,.int .i64 x.i] false] aE).get 28 (pb 1 0),lA v),(fstV ((aBin Tryz.prog .eql 28 (lA (bm x)) (lA v)).map fun v=>(v,none)),.bool false),(aLoad Tryz.prog (heapOf [o,(o0 v),.dead,.cells 78 [.int .i64 x.id,.bool x.n,.int .i64 x.t,.int .i64 x.o,.int .i64 x.r,.int .i64 x.d,.int .i64 x.i] false] aE).get 28 (pb 1 0),lA v),(some (.bool (!x.n)),.bool true),(aLoad Tryz.prog (heapOf [o,(o0 v),.dead] aE).get 78 (pb 0 (i*7)),.agg ⟨vc x⟩),(fstV ((aIndexAddr Tryz.prog 24 (vS true 0 n c) (iN i)).map fun v=>(v,none)),pb 0 (i*7)),(some (.bool (decide ((Int.ofNat i)<(Int.ofNat (kk true n))))),.bool true)],[],[]):=by kernel_rfl
theorem P3(f:Bool)(o:ae)(n c i:Nat)(k:Int)(x:aa)(v:aQ)(g:Nat→Value):(execN Tryz.prog (aCall Tryz.prog jo 60) (callN Tryz.prog jo 60) 60 sA (av 32 g [(3,pb 1 0),(5,.int .i64 k),(8,vS true 0 n c),(9,iN (kk true n)),(10,iN i)] [o,(o0 v)]) (ei [(11,.v (iN (i+1))),(8,.v (.bool false)),(2,.v (.agg ⟨vc x⟩)),(1,.v (pb 0 (i*7))),(0,.v (.bool true))])).map (fun y=>(look2 2 [0,1] [3,5,8,9,10] (y.1,y.2.1),y.2.2.q,y.2.2.r,y.2.2.x)) =
 some ((.normal,[o,(o0 v)],[(3,pb 1 0),(5,.int .i64 k),(8,vS true 0 n c),(9,iN (kk true n)),(10,iN (i+1))],true),[(some (.int .i64 (wrapF .i64 (Int.ofNat i+Int.ofNat 1))),iN (i+1)),(some (.bool (!x.n)),.bool false),(aLoad Tryz.prog (heapOf [o,(o0 v),.dead] aE).get 78 (pb 0 (i*7)),.agg ⟨vc x⟩),(fstV ((aIndexAddr Tryz.prog 24 (vS true 0 n c) (iN i)).map fun v=>(v,none)),pb 0 (i*7)),(some (.bool (decide ((Int.ofNat i)<(Int.ofNat (kk true n))))),.bool true)],[],[]):=by kernel_rfl
theorem P4(f:Bool)(o:ae)(n c i:Nat)(k:Int)(x:aa)(v:aQ)(g:Nat→Value):(execN Tryz.prog (aCall Tryz.prog jo 60) (callN Tryz.prog jo 60) 60 Ed (av 32 g [(5,.int .i64 k)] []) (ei [])).map (fun y=>(look2 0 [] [4] (y.1,y.2.1),y.2.2.q,y.2.2.r,y.2.2.x)) =
 some ((.ret,[],[(4,.int .i64 k)],true),[],[],[]):=by kernel_rfl
theorem Uv(v:Value)(O:List ae)(g:Nat→Value):retVal Tryz.prog Tryz.f197 (av 32 g [(4,v)] O)=some v:=by kernel_rfl
def je(v:aQ)(k:Int)(x:aa):Int:=bif !x.n&&(bm x==v) then (if x.d<k then x.d else k) else k
def gT(v:aQ)(vs:List aa):Int:=vs.foldl (je v) 1099511627776
def unL':Value→Option aQ
 | .agg cs=>match cs.toList with
   | [.int .i64 a,.int .i64 b,.int .i64 c]=>some (a,b,c)
   | _=>none
 | _=>none
theorem rC{v:Value}{y:aQ}(h:unL' v=some y):v=lA y:=by
 unfold unL' at h;split at h
 ·rename_i cs
  split at h
  ·rename_i a b c hcs
   cases h;obtain rfl:=cJ hcs;rfl
  ·cases h
 ·cases h
def lstR(vs:List aa):xn:=fun rest=>match rest with
 | [v]=>(unL' v).map fun y=>(.int .i64 (gT y vs),[])
 | _=>none
theorem IF(y:aQ):stay (lA y):=⟨rfl,fun _ _=>by simp [sh3,sh2,sh1,lA,lc]⟩
theorem Ro(vs:List aa)(hn:vs.length<1000000):∀ rest v0 O,lstR vs rest=some (v0,O)→l7 Tryz.f197 zm 32 vs rest v0 O:=fun rest0 v0 O h=>by
 unfold lstR at h;split at h
 case h_2=>cases h
 rename_i v';obtain ⟨v,hv,h2⟩:=Option.map_eq_some_iff.1 h;obtain rfl:=rC hv;cases h2;refine ⟨.inl rfl,rfl,(by intro r hr; have e:r=lA v:=(by simpa using hr); rw [e]; exact IF _),by simp,fun f o c W ho hrow hfl=>?_⟩
 have hkk:=ou hfl
 have fx2:∀ r:List ae,∀ i,i<2→∀ o',(o::o0 v::r)[i]? = some o'→dD 0 o':=vH ho (A6 v)
 refine aj.seq (Q1:=fun e st=>e = .normal∧∃ g,st=av 32 g [(0,vS f 0 vs.length c),(3,pb 1 0)] [o,o0 v]) ?_ ?_ (fun x st hne hq=>absurd hq.1 hne)
 ·cases f with
  | true=>exact aj.bC gh follows 60 1 _ _ _ _ (PY true o vs.length c 0 0 zv v (fun _=>ax)) Met.nil ay.nil az.nil Fx rfl rfl (cj ho _) fun g=>⟨rfl,g,rfl⟩
  | false =>
    obtain ⟨rfl,rfl⟩:=hfl rfl;exact aj.bC gh follows 60 1 _ _ _ _ (MT true .dead 0 c 0 0 zv v (fun _=>ax)) Met.nil ay.nil az.nil Fx rfl rfl (cj rfl _) fun g=>⟨rfl,g,rfl⟩
 rintro st ⟨-,g,rfl⟩;refine aj.seq (Q1:=fun e st=>e = .normal∧∃ g,st=av 32 g [(0,vS f 0 vs.length c),(3,pb 1 0),(5,.int .i64 1099511627776)] [o,o0 v]) (aj.bC gh follows 60 2 _ _ _ _ (PZ f o vs.length c 0 0 zv v g) Met.nil ay.nil az.nil NI rfl rfl (fx2 _) fun g=>⟨rfl,g,rfl⟩) ?_ (fun x st hne hq=>absurd hq.1 hne)
 rintro st ⟨-,g,rfl⟩;let J:Int→Nat→(Nat→Value)→St:=fun k i g=>av 32 g [(3,pb 1 0),(5,.int .i64 k),(8,vS f 0 vs.length c),(9,iN (kk f vs.length)),(10,iN i)] [o,o0 v]
 refine aj.seq (Q1:=fun e st=>e = .normal∧∃ g,st=av 32 g [(5,.int .i64 (gT v vs))] []) ?_ ?_ (fun x st hne hq=>absurd hq.1 hne)
 rotate_left
 ·rintro st ⟨-,g,rfl⟩
  exact aj.bC gh follows 60 0 _ _ _ _ (P4 false .dead 0 0 0 (gT v vs) zv v g) Met.nil ay.nil az.nil NK rfl rfl (dE _) fun g=>⟨.inr rfl,rfl,Uv _ _ g,(fun B hB=>by cases hB)⟩
 refine aj.seq (Q1:=fun e st=>e = .normal∧∃ g,st=J 1099511627776 0 g) (aj.bC gh follows 60 2 _ _ _ _ (P0 f o vs.length c 0 1099511627776 zv v g) Met.nil ay.nil az.nil NJ rfl rfl (fx2 _) fun g=>⟨rfl,g,rfl⟩) ?_ (fun x st hne hq=>absurd hq.1 hne)
 rintro st ⟨-,g,rfl⟩;refine jy (vs:=vs) (je v) 1099511627776 J (fun k st=>∃ g,st=av 32 g [(5,.int .i64 k)] []) (fun k g hf=>?_) (fun i x k g hx hlt hf=>?_) g
 ·exact aj.bC gh follows 60 0 _ _ _ _ (MU f o vs.length c vs.length k zv v g) (Met.cons (Wy (a:=vs.length) (b:=kk f vs.length) (r:=false) (by rw [hkk]; simp)) Met.nil) ay.nil az.nil uH rfl rfl (dE _) fun g=>⟨rfl,g,rfl⟩
 have hft:f=true:=by cases f with
  | true=>rfl
  | false=>rw [(hfl rfl).1] at hlt; simp at hlt
 subst hft;have hr:∃ ty ro,o = .cells ty (aI vs) ro:=by
  rcases hrow with h | h
  ·rw [h] at hlt; simp at hlt
  ·exact h
 have b0:∀ r:List ae,dU (heapOf (o::r) aE) 0 vs:=fun r=>jI hr
 have hw:(some (Value.int .i64 (wrapF .i64 (Int.ofNat i+Int.ofNat 1))))=some (iN (i+1)):=bA (by omega)
 have hl:=Wy (decide_eq_true hlt)
 have hv:∀ r:List ae,aLoad Tryz.prog (heapOf (o::o0 v::r) aE).get 28 (pb 1 0)=some (lA v):=fun r=>Ei (by rw [al]; rfl)
 cases hxn:x.n with
 | true =>
   have e:je v k x=k:=by unfold je; rw [hxn]; rfl
   rw [e];exact aj.bC gh follows 60 2 _ _ _ _ (P3 true o vs.length c i k x v g) (by repeat' (first | exact Go.Proofs.YtgeoommlmddgpaaGreat.AI.Met.nil | apply Go.Proofs.YtgeoommlmddgpaaGreat.AI.Met.cons | exact hw | exact hl | exact LtA.bU (b0 _) hx | exact LtA.bF hlt | exact ba (by rw [hxn]; rfl) | exact hv _)) ay.nil az.nil uH rfl rfl (fx2 _) fun g=>⟨rfl,g,rfl⟩
 | false =>
   cases he:(bm x==v) with
   | true =>
     have e:je v k x=if x.d<k then x.d else k:=by unfold je; rw [hxn,he]; rfl
     rw [e];exact aj.bC gh follows 60 2 _ _ _ _ (P1 true o vs.length c i k x v g) (by repeat' (first | exact Go.Proofs.YtgeoommlmddgpaaGreat.AI.Met.nil | apply Go.Proofs.YtgeoommlmddgpaaGreat.AI.Met.cons | exact hw | exact hl | exact LtA.bU (b0 _) hx | exact LtA.bF hlt | exact ba (by rw [hxn]; rfl) | exact hv _ | exact (zr (bm x) v).trans (ba he))) ay.nil az.nil uH rfl rfl (fx2 _) fun g=>⟨rfl,g,rfl⟩
   | false =>
     have e:je v k x=k:=by unfold je; rw [hxn,he]; rfl
     rw [e];exact aj.bC gh follows 60 2 _ _ _ _ (P2 true o vs.length c i k x v g) (by repeat' (first | exact Go.Proofs.YtgeoommlmddgpaaGreat.AI.Met.nil | apply Go.Proofs.YtgeoommlmddgpaaGreat.AI.Met.cons | exact hw | exact hl | exact LtA.bU (b0 _) hx | exact LtA.bF hlt | exact ba (by rw [hxn]; rfl) | exact hv _ | exact (zr (bm x) v).trans (ba he))) ay.nil az.nil uH rfl rfl (fx2 _) fun g=>⟨rfl,g,rfl⟩
noncomputable def Ca:aB:=nL lstR
theorem Mr:aq Tryz.prog 197 Ca:=jV Tryz.func197 G0 (by kernel_rfl) EE fun vs hn=>Ro vs hn
theorem GD{vs:List aa}{s:Value}{hp:Hp}(v:aQ)(h:TN vs s hp)(hn:vs.length<1000000):Ca [s,lA v] hp=some (.int .i64 (gT v vs),heapOf [.dead] hp):=yN (A:=lstR) h hn rfl rfl
abbrev BF:=aa×Int×Int
def Bi(r:BF):Value:=.tuple #[cN r.1,.int .i64 r.2.1,.int .i64 r.2.2]
theorem Bj(r:BF):eH (Bi r):=⟨rfl,fun s=>by simp [mv3,mv2,mv1,Bi,cN]⟩
theorem kE{own:aa}{b:Bool}(h:own.n=b):Value.tuple #[.agg #[.bool b,.int .i64 own.t,.int .i64 own.o,.int .i64 own.r,.int .i64 own.d,.int .i64 own.i],iN 0,iN 0]=Bi (own,0,0):=by rw [← h]; rfl
def bO(me:Int):aa:=⟨0,true,0,0,0,0,me⟩
def AF(c t o r d i:Int):BF:=bif dG false t o r d i then (⟨0,false,t,o,r,d,i⟩,c,0) else (zH,0,1)
def oV(own:aa)(k:Nat)(top:aQ)(lst now:Int)(lost:Bool):BF :=
 bif lost then AF 1 now own.i (Int.ofNat 0) (Int.ofNat 0) own.i else
 bif decide (Int.ofNat k>Int.ofNat 1) then AF 2 top.1 top.2.1 top.2.2 (wrapF .i64 (lst-Int.ofNat 1)) own.i else
 bif top.2.2==Int.ofNat 0 then AF 3 top.1 top.2.1 (Int.ofNat 1) (Int.ofNat 0) own.i else
 bif top.2.1==own.i then (bO own.i,4,0) else AF 5 now own.i (Int.ofNat 0) (Int.ofNat 0) own.i
def caseW(rb dn:Bool)(own:aa)(ls:List aQ)(lst:aQ→Int)(now:Int)(lost:Bool):BF :=
 bif !rb then (zH,0,1) else bif decide (now<Int.ofNat 0) then (zH,0,1) else bif decide (now>Int.ofNat 4611686018427387903) then (zH,0,1) else
 bif own.n then (own,0,0) else bif dn then (own,0,0) else
 match ls.getLast? with
 | none=>(bO own.i,6,0)
 | some top=>oV own ls.length top (lst top) now lost
def lQ(rb dn:Bool)(own:aa)(ls:List aQ)(lst:aQ→Int)(now:Int)(lost:Bool):BF :=
 bif !dG own.n own.t own.o own.r own.d own.i then (zH,0,1) else caseW rb dn own ls lst now lost
theorem jb{rb dn lost:Bool}{own:aa}{ls:List aQ}{lst:aQ→Int}{now:Int}(h:dG own.n own.t own.o own.r own.d own.i=true):lQ rb dn own ls lst now lost=caseW rb dn own ls lst now lost:=by
 unfold lQ; rw [h]; rfl
theorem ja{rb dn lost:Bool}{own:aa}{ls:List aQ}{lst:aQ→Int}{now:Int}(h:dG own.n own.t own.o own.r own.d own.i=false):lQ rb dn own ls lst now lost=(zH,0,1):=by
 unfold lQ; rw [h]; rfl
def bJ(own:aa)(vs:List aa)(now:Int)(lost:Bool):BF:=lQ (aF vs) (!(bM 1 own vs).isEmpty) own (bG (aT vs)) (fun y=>gT y vs) now lost
theorem Eo{b c m i:Nat}(h:i<m):fstV ((aIndexAddr Tryz.prog 172 (.slice (some ⟨b,0,none⟩) m c) (iN i)).map fun v=>(v,none))=some (pb b (i*3)):=by
 have h1:(0:Int)≤Int.ofNat i∧Int.ofNat i<(m:Int):=⟨Int.natCast_nonneg i,by simpa using h⟩
 simp only [aIndexAddr,iN,Tryz.underlying172,o9];rw [if_pos h1];simp [fstV,pb]
theorem It(m:Nat):decide ((Int.ofNat (m+1))>(Int.ofNat 0))=true:=decide_eq_true (by simp only [Int.ofNat_eq_natCast]; omega)
theorem Xa(m:Nat):(!((Int.ofNat (m+1))==(Int.ofNat 0)))=true:=by
 have:(Int.ofNat (m+1)==Int.ofNat 0)=false:=beq_false_of_ne (by simp only [Int.ofNat_eq_natCast]; omega)
 rw [this]; rfl
def caseA(vs:List aa):List Value→Option Value
 | [a,.int .i64 now,.bool lost]=>(unH a).map fun own=>Bi (bJ own vs now lost)
 | _=>none
theorem AN{rb dn lost:Bool}{own:aa}{ls:List aQ}{lst:aQ→Int}{now:Int}{top:aQ}(h:ls.getLast? = some top):lQ rb dn own ls lst now lost=lQ rb dn own ls (fun _=>lst top) now lost:=by
 unfold lQ caseW; rw [h]
theorem IU{own:aa}(h0:own.id=0):unH (cN own)=some own:=by
 obtain ⟨a,b,c,d,e,f,g⟩:=own;simp only at h0;subst h0; rfl
noncomputable def NY:Ext:=fq (cR Tryz.prog [(57,g15)]) [(168,yX),(58,j6),(28,yV),(197,Ca)]
theorem p9:ExtOk Tryz.prog NY:=bD (aS (.cons vT .nil)) (.cons PC (.cons tU (.cons Jt (.cons Mr .nil))))
noncomputable def vE:Code:=(Tryz.f167.body).getD .skip
theorem K5:Tryz.f167.body=some vE:=by kernel_rfl
theorem Uf:Tryz.f167.ntmps=105:=by kernel_rfl
theorem R5:codeSafe Tryz.prog 105 vE=true:=by kernel_rfl
theorem JU(f:Bool)(o:ae)(n c m q:Nat)(now lst:Int)(lost:Bool)(own:aa)(top:aQ)(ls:List aQ)(ds:List Int)(Q:Value→List ae→List Nat→List ae→Prop):let b0:ae:=.cells 23 [.bool own.n,Iv own.t,Iv own.o,Iv own.r,Iv own.d,Iv own.i] false;let v1:Value:=.agg #[.bool own.n,Iv own.t,Iv own.o,Iv own.r,Iv own.d,Iv own.i];let b2:ae:=.cells 23 [.bool false,iN 0,iN 0,iN 0,iN 0,iN 0] false;let v3:Value:=.slice (some ⟨9,0,none⟩) (m+1) 11;let v4:Value:=.tuple #[.agg #[.bool false,iN 0,iN 0,iN 0,iN 0,iN 0],iN 0,iN 1];let b5:ae:=.cells 3 [Iv now] false;let b6:ae:=.cells 24 [vS f 0 n c] false;let b7:ae:=.cells 4 [.bool lost] false;let b8:ae:=.cells 3 [Iv own.i] false;((((cg own.n own.t own.o own.r own.d own.i) != (Int.ofNat 0))=true→Q (v4) [o] [] [])∧(((cg own.n own.t own.o own.r own.d own.i) != (Int.ofNat 0))=false→HT (j6 [vS f 0 n c]) (heapOf [o,.dead,b0,b6,b5,b7,b2] aE) (iN 0) [.dead]∧(((decide (now<(Int.ofNat 0)))=true→Q (v4) [o] [] [])∧((decide (now<(Int.ofNat 0)))=false→((decide (now>(Int.ofNat 4611686018427387903)))=true→Q (v4) [o] [] [])∧((decide (now>(Int.ofNat 4611686018427387903)))=false→HT (yX [vS f 0 n c]) (heapOf [o,.dead,b0,b6,b5,b7,b2,.dead,b8] aE) (v3) [(ownL ls),.dead]∧((some (.bool (decide ((Int.ofNat (m+1))>(Int.ofNat 0)))):OV)=some (.bool true)∧((some (Iv (wrapF .i64 (Int.ofNat (m+1)-Int.ofNat 1))):OV)=some (iN m)∧((fstV ((aIndexAddr Tryz.prog 172 (v3) (iN m)).map fun v=>(v,none)):OV)=some (pb 9 (m*3))∧((aLoad Tryz.prog (heapOf [o,.dead,b0,b6,b5,b7,b2,.dead,b8,(ownL ls),.dead,.cells 172 [v3] false,.cells 28 [iN 0,iN 0,iN 0] false] aE).get 28 (pb 9 (m*3)):OV)=some (lA top)∧((own.n=true→(some (iN 0):OV)=some (iN 0)∧(Q (.tuple #[v1,iN 0,iN 0]) [o] [] []))∧(own.n=false→HT (yV [vS f 0 n c,v1]) (heapOf [o,.dead,b0,b6,b5,b7,b2,.dead,b8,(ownL ls),.dead,.cells 172 [v3] false,.cells 28 [Iv top.1,Iv top.2.1,Iv top.2.2] false,.cells 28 [Iv top.1,Iv top.2.1,iN 1] false,.cells 197 [iN 0,.func (.func 192) #[] #[pb 2 0,pb 3 0],.func (.func 187) #[] #[pb 2 0],iN 6,.func (.func 193) #[] #[pb 11 0],.func (.func 188) #[] #[pb 8 0],iN 1,.func (.func 194) #[] #[pb 5 0],.func (.func 189) #[] #[pb 4 0,pb 8 0],iN 2,.func (.func 195) #[] #[pb 11 0],.func (.func 196) #[] #[pb 12 0,pb 3 0,pb 8 0],iN 3,.func (.func 198) #[] #[pb 12 0],.func (.func 199) #[] #[pb 13 0,pb 8 0],iN 4,.func (.func 200) #[] #[pb 12 0,pb 8 0],.func (.func 188) #[] #[pb 8 0],iN 5,.func (.func 191) #[] #[],.func (.func 189) #[] #[pb 4 0,pb 8 0]] false,.cells 197 [iN 0,.func (.func 192) #[] #[pb 2 0,pb 3 0],.func (.func 187) #[] #[pb 2 0]] false] aE) (.slice (some ⟨16,0,none⟩) (q+1) 4) [(cS ds),.dead]∧((some (.bool (decide ((Int.ofNat (q+1))>(Int.ofNat 0)))):OV)=some (.bool true)∧((some (iN 0):OV)=some (iN 0)∧(Q (.tuple #[v1,iN 0,iN 0]) [o] [] []))))))))))))))=RF Tryz.prog NY Tryz.f167 300 vE ⟨tmsOf [cN own,vS f 0 n c,Iv now,.bool lost] 0 .leaf,heapOf [o,.dead] aE,[]⟩ (.b 9 (.stop 1 [] []) (.h 12 (iN 0) [.dead] (.b 17 (.stop 1 [] []) (.b 21 (.stop 1 [] []) (.h 28 (v3) [(ownL ls),.dead] (.v 36 (.bool true) (.v 40 (iN m) (.v 41 (pb 9 (m*3)) (.v 42 (lA top) (.b 90 (.stop 1 [] []) (.h 94 (.slice (some ⟨16,0,none⟩) (q+1) 4) [(cS ds),.dead] (.v 96 (.bool true) (.stop 1 [] []))))))))))))) Q:=by cases f <;> (intros;kernel_rfl)
theorem Oj(f:Bool)(o:ae)(n c m q:Nat)(now lst:Int)(lost:Bool)(own:aa)(top:aQ)(ls:List aQ)(ds:List Int)(Q:Value→List ae→List Nat→List ae→Prop):let b1:ae:=.cells 23 [.bool own.n,Iv own.t,Iv own.o,Iv own.r,Iv own.d,Iv own.i] false;let b2:ae:=.cells 23 [.bool false,iN 0,iN 0,iN 0,iN 0,iN 0] false;let v3:Value:=.agg #[.bool false,iN 0,iN 0,iN 0,iN 0,iN 0];let v4:Value:=.agg #[Iv top.1,Iv top.2.1,Iv top.2.2];let v5:Value:=.slice (some ⟨9,0,none⟩) (m+1) 11;let b6:ae:=.cells 3 [Iv now] false;let b7:ae:=.cells 24 [vS f 0 n c] false;let b8:ae:=.cells 4 [.bool lost] false;let v9:Value:=.agg #[.bool own.n,Iv own.t,Iv own.o,Iv own.r,Iv own.d,Iv own.i];let b10:ae:=.cells 197 [iN 0,.func (.func 192) #[] #[pb 2 0,pb 3 0],.func (.func 187) #[] #[pb 2 0]] false;let b11:ae:=.cells 3 [Iv own.i] false;let v12:Value:=.tuple #[v3,iN 0,Iv (cg false now own.i (Int.ofNat 0) (Int.ofNat 0) own.i)];let v13:Value:=.agg #[.bool false,Iv now,Iv own.i,iN 0,iN 0,Iv own.i];let v14:Value:=.func (.func 189) #[] #[pb 4 0,pb 8 0];let b15:ae:=.cells 28 [Iv top.1,Iv top.2.1,Iv top.2.2] false;let b16:ae:=.cells 28 [Iv top.1,Iv top.2.1,iN 1] false;let v17:Value:=.func (.func 188) #[] #[pb 8 0];let v18:Value:=.func (.func 196) #[] #[pb 12 0,pb 3 0,pb 8 0];let b0:ae:=.cells 197 [iN 0,.func (.func 192) #[] #[pb 2 0,pb 3 0],.func (.func 187) #[] #[pb 2 0],iN 6,.func (.func 193) #[] #[pb 11 0],v17,iN 1,.func (.func 194) #[] #[pb 5 0],v14,iN 2,.func (.func 195) #[] #[pb 11 0],v18,iN 3,.func (.func 198) #[] #[pb 12 0],.func (.func 199) #[] #[pb 13 0,pb 8 0],iN 4,.func (.func 200) #[] #[pb 12 0,pb 8 0],v17,iN 5,.func (.func 191) #[] #[],v14] false;let v19:Value:=.tuple #[v3,iN 0,iN 1];((((cg own.n own.t own.o own.r own.d own.i) != (Int.ofNat 0))=true→Q (v19) [o] [] [])∧(((cg own.n own.t own.o own.r own.d own.i) != (Int.ofNat 0))=false→HT (j6 [vS f 0 n c]) (heapOf [o,.dead,b1,b7,b6,b8,b2] aE) (iN 0) [.dead]∧(((decide (now<(Int.ofNat 0)))=true→Q (v19) [o] [] [])∧((decide (now<(Int.ofNat 0)))=false→((decide (now>(Int.ofNat 4611686018427387903)))=true→Q (v19) [o] [] [])∧((decide (now>(Int.ofNat 4611686018427387903)))=false→HT (yX [vS f 0 n c]) (heapOf [o,.dead,b1,b7,b6,b8,b2,.dead,b11] aE) (v5) [(ownL ls),.dead]∧((some (.bool (decide ((Int.ofNat (m+1))>(Int.ofNat 0)))):OV)=some (.bool true)∧((some (Iv (wrapF .i64 (Int.ofNat (m+1)-Int.ofNat 1))):OV)=some (iN m)∧((fstV ((aIndexAddr Tryz.prog 172 (v5) (iN m)).map fun v=>(v,none)):OV)=some (pb 9 (m*3))∧((aLoad Tryz.prog (heapOf [o,.dead,b1,b7,b6,b8,b2,.dead,b11,(ownL ls),.dead,.cells 172 [v5] false,.cells 28 [iN 0,iN 0,iN 0] false] aE).get 28 (pb 9 (m*3)):OV)=some (lA top)∧((own.n=true→(some (iN 0):OV)=some (iN 0)∧(Q (.tuple #[v9,iN 0,iN 0]) [o] [] []))∧(own.n=false→HT (yV [vS f 0 n c,v9]) (heapOf [o,.dead,b1,b7,b6,b8,b2,.dead,b11,(ownL ls),.dead,.cells 172 [v5] false,b15,b16,b0,b10] aE) (ax) [.dead,.dead]∧((some (.bool (!((Int.ofNat (m+1))==(Int.ofNat 0)))):OV)=some (.bool true)∧(((!lost)=true→((!(decide ((Int.ofNat (m+1))>(Int.ofNat 1))))=true→((!(top.2.2==(Int.ofNat 0)))=true→((!(top.2.1==own.i))=true→(((cg false now own.i (Int.ofNat 0) (Int.ofNat 0) own.i) != (Int.ofNat 0))=true→(some (.bool ((cg false now own.i (Int.ofNat 0) (Int.ofNat 0) own.i) != (Int.ofNat 0))):OV)=some (.bool true)∧(Q (v12) [o] [] []))∧(((cg false now own.i (Int.ofNat 0) (Int.ofNat 0) own.i) != (Int.ofNat 0))=false→(some (iN 5):OV)=some (iN 5)∧(Q (.tuple #[v13,iN 5,iN 0]) [o] [] [])))∧((!(top.2.1==own.i))=false→(some (iN 4):OV)=some (iN 4)∧(Q (.tuple #[.agg #[.bool true,iN 0,iN 0,iN 0,iN 0,Iv own.i],iN 4,iN 0]) [o] [] [])))∧((!(top.2.2==(Int.ofNat 0)))=false→(((cg false top.1 top.2.1 (Int.ofNat 1) (Int.ofNat 0) own.i) != (Int.ofNat 0))=true→(some (.bool ((cg false top.1 top.2.1 (Int.ofNat 1) (Int.ofNat 0) own.i) != (Int.ofNat 0))):OV)=some (.bool true)∧(Q (.tuple #[v3,iN 0,Iv (cg false top.1 top.2.1 (Int.ofNat 1) (Int.ofNat 0) own.i)]) [o] [] []))∧(((cg false top.1 top.2.1 (Int.ofNat 1) (Int.ofNat 0) own.i) != (Int.ofNat 0))=false→(some (iN 3):OV)=some (iN 3)∧(Q (.tuple #[.agg #[.bool false,Iv top.1,Iv top.2.1,iN 1,iN 0,Iv own.i],iN 3,iN 0]) [o] [] []))))∧((!(decide ((Int.ofNat (m+1))>(Int.ofNat 1))))=false→HT (Ca [vS f 0 n c,v4]) (heapOf [o,.dead,b1,b7,b6,b8,b2,.dead,b11,(ownL ls),.dead,.cells 172 [v5] false,b15,b16,b0,b10,.dead,.dead,.cells 197 [iN 6,.func (.func 193) #[] #[pb 11 0],v17] false,.cells 197 [iN 1,.func (.func 194) #[] #[pb 5 0],v14] false,.cells 197 [iN 2,.func (.func 195) #[] #[pb 11 0],v18] false,b2] aE) (Iv lst) [.dead]∧((((cg false top.1 top.2.1 top.2.2 (wrapF .i64 (lst-(Int.ofNat 1))) own.i) != (Int.ofNat 0))=true→(some (v4):OV)=some (v4)∧((some (Iv own.i):OV)=some (Iv own.i)∧((some (.bool ((cg false top.1 top.2.1 top.2.2 (wrapF .i64 (lst-(Int.ofNat 1))) own.i) != (Int.ofNat 0))):OV)=some (.bool true)∧(Q (.tuple #[v3,iN 0,Iv (cg false top.1 top.2.1 top.2.2 (wrapF .i64 (lst-(Int.ofNat 1))) own.i)]) [o] [] []))))∧(((cg false top.1 top.2.1 top.2.2 (wrapF .i64 (lst-(Int.ofNat 1))) own.i) != (Int.ofNat 0))=false→(some (v4):OV)=some (v4)∧((some (Iv own.i):OV)=some (Iv own.i)∧((some (iN 2):OV)=some (iN 2)∧(Q (.tuple #[.agg #[.bool false,Iv top.1,Iv top.2.1,Iv top.2.2,Iv (wrapF .i64 (lst-(Int.ofNat 1))),Iv own.i],iN 2,iN 0]) [o] [] [])))))))∧((!lost)=false→(((cg false now own.i (Int.ofNat 0) (Int.ofNat 0) own.i) != (Int.ofNat 0))=true→(some (.bool ((cg false now own.i (Int.ofNat 0) (Int.ofNat 0) own.i) != (Int.ofNat 0))):OV)=some (.bool true)∧(Q (v12) [o] [] []))∧(((cg false now own.i (Int.ofNat 0) (Int.ofNat 0) own.i) != (Int.ofNat 0))=false→(some (iN 1):OV)=some (iN 1)∧(Q (.tuple #[v13,iN 1,iN 0]) [o] [] []))))))))))))))))=RF Tryz.prog NY Tryz.f167 300 vE ⟨tmsOf [cN own,vS f 0 n c,Iv now,.bool lost] 0 .leaf,heapOf [o,.dead] aE,[]⟩ (.b 9 (.stop 1 [] []) (.h 12 (iN 0) [.dead] (.b 17 (.stop 1 [] []) (.b 21 (.stop 1 [] []) (.h 28 (v5) [(ownL ls),.dead] (.v 36 (.bool true) (.v 40 (iN m) (.v 41 (pb 9 (m*3)) (.v 42 (lA top) (.b 90 (.stop 1 [] []) (.h 94 (ax) [.dead,.dead] (.v 115 (.bool true) (.b 129 (.b 145 (.b 161 (.b 178 (.b 225 (.v 245 (.bool true) (.stop 1 [] [])) (.stop 1 [] [])) (.stop 1 [] [])) (.b 188 (.v 204 (.bool true) (.stop 1 [] [])) (.stop 1 [] []))) (.h 154 (Iv lst) [.dead] (.b 176 (.v 192 (.bool true) (.stop 1 [] [])) (.stop 1 [] [])))) (.b 163 (.v 183 (.bool true) (.stop 1 [] [])) (.stop 1 [] []))))))))))))))) Q:=by cases f <;> (intros;kernel_rfl)
theorem Oh(f:Bool)(o:ae)(n c m q:Nat)(now lst:Int)(lost:Bool)(own:aa)(top:aQ)(ls:List aQ)(ds:List Int)(Q:Value→List ae→List Nat→List ae→Prop):let b0:ae:=.cells 23 [.bool own.n,Iv own.t,Iv own.o,Iv own.r,Iv own.d,Iv own.i] false;let v1:Value:=.agg #[.bool own.n,Iv own.t,Iv own.o,Iv own.r,Iv own.d,Iv own.i];let v2:Value:=.tuple #[.agg #[.bool false,iN 0,iN 0,iN 0,iN 0,iN 0],iN 0,iN 1];let b3:ae:=.cells 23 [.bool false,iN 0,iN 0,iN 0,iN 0,iN 0] false;let b4:ae:=.cells 3 [Iv now] false;let b5:ae:=.cells 24 [vS f 0 n c] false;let b6:ae:=.cells 4 [.bool lost] false;((((cg own.n own.t own.o own.r own.d own.i) != (Int.ofNat 0))=true→Q (v2) [o] [] [])∧(((cg own.n own.t own.o own.r own.d own.i) != (Int.ofNat 0))=false→HT (j6 [vS f 0 n c]) (heapOf [o,.dead,b0,b5,b4,b6,b3] aE) (iN 0) [.dead]∧(((decide (now<(Int.ofNat 0)))=true→Q (v2) [o] [] [])∧((decide (now<(Int.ofNat 0)))=false→((decide (now>(Int.ofNat 4611686018427387903)))=true→Q (v2) [o] [] [])∧((decide (now>(Int.ofNat 4611686018427387903)))=false→HT (yX [vS f 0 n c]) (heapOf [o,.dead,b0,b5,b4,b6,b3,.dead,.cells 3 [Iv own.i] false] aE) (ax) [.dead,.dead]∧((own.n=true→(some (iN 0):OV)=some (iN 0)∧(Q (.tuple #[v1,iN 0,iN 0]) [o] [] []))∧(own.n=false→HT (yV [vS f 0 n c,v1]) (heapOf [o,.dead,b0,b5,b4,b6,b3,.dead,.cells 3 [Iv own.i] false,.dead,.dead,.cells 172 [ax] false,.cells 28 [iN 0,iN 0,iN 0] false,.cells 28 [iN 0,iN 0,iN 1] false,.cells 197 [iN 0,.func (.func 192) #[] #[pb 2 0,pb 3 0],.func (.func 187) #[] #[pb 2 0],iN 6,.func (.func 193) #[] #[pb 11 0],.func (.func 188) #[] #[pb 8 0],iN 1,.func (.func 194) #[] #[pb 5 0],.func (.func 189) #[] #[pb 4 0,pb 8 0],iN 2,.func (.func 195) #[] #[pb 11 0],.func (.func 196) #[] #[pb 12 0,pb 3 0,pb 8 0],iN 3,.func (.func 198) #[] #[pb 12 0],.func (.func 199) #[] #[pb 13 0,pb 8 0],iN 4,.func (.func 200) #[] #[pb 12 0,pb 8 0],.func (.func 188) #[] #[pb 8 0],iN 5,.func (.func 191) #[] #[],.func (.func 189) #[] #[pb 4 0,pb 8 0]] false,.cells 197 [iN 0,.func (.func 192) #[] #[pb 2 0,pb 3 0],.func (.func 187) #[] #[pb 2 0]] false] aE) (.slice (some ⟨16,0,none⟩) (q+1) 4) [(cS ds),.dead]∧((some (.bool (decide ((Int.ofNat (q+1))>(Int.ofNat 0)))):OV)=some (.bool true)∧((some (iN 0):OV)=some (iN 0)∧(Q (.tuple #[v1,iN 0,iN 0]) [o] [] []))))))))))=RF Tryz.prog NY Tryz.f167 300 vE ⟨tmsOf [cN own,vS f 0 n c,Iv now,.bool lost] 0 .leaf,heapOf [o,.dead] aE,[]⟩ (.b 9 (.stop 1 [] []) (.h 12 (iN 0) [.dead] (.b 17 (.stop 1 [] []) (.b 21 (.stop 1 [] []) (.h 28 (ax) [.dead,.dead] (.b 83 (.stop 1 [] []) (.h 87 (.slice (some ⟨16,0,none⟩) (q+1) 4) [(cS ds),.dead] (.v 89 (.bool true) (.stop 1 [] []))))))))) Q:=by cases f <;> (intros;kernel_rfl)
theorem Ol(f:Bool)(o:ae)(n c m q:Nat)(now lst:Int)(lost:Bool)(own:aa)(top:aQ)(ls:List aQ)(ds:List Int)(Q:Value→List ae→List Nat→List ae→Prop):let b0:ae:=.cells 23 [.bool own.n,Iv own.t,Iv own.o,Iv own.r,Iv own.d,Iv own.i] false;let v1:Value:=.tuple #[.agg #[.bool false,iN 0,iN 0,iN 0,iN 0,iN 0],iN 0,iN 1];let b2:ae:=.cells 23 [.bool false,iN 0,iN 0,iN 0,iN 0,iN 0] false;let v3:Value:=.agg #[.bool own.n,Iv own.t,Iv own.o,Iv own.r,Iv own.d,Iv own.i];let b4:ae:=.cells 3 [Iv now] false;let b5:ae:=.cells 24 [vS f 0 n c] false;let b6:ae:=.cells 4 [.bool lost] false;((((cg own.n own.t own.o own.r own.d own.i) != (Int.ofNat 0))=true→Q (v1) [o] [] [])∧(((cg own.n own.t own.o own.r own.d own.i) != (Int.ofNat 0))=false→HT (j6 [vS f 0 n c]) (heapOf [o,.dead,b0,b5,b4,b6,b2] aE) (iN 0) [.dead]∧(((decide (now<(Int.ofNat 0)))=true→Q (v1) [o] [] [])∧((decide (now<(Int.ofNat 0)))=false→((decide (now>(Int.ofNat 4611686018427387903)))=true→Q (v1) [o] [] [])∧((decide (now>(Int.ofNat 4611686018427387903)))=false→HT (yX [vS f 0 n c]) (heapOf [o,.dead,b0,b5,b4,b6,b2,.dead,.cells 3 [Iv own.i] false] aE) (ax) [.dead,.dead]∧((own.n=true→(some (iN 0):OV)=some (iN 0)∧(Q (.tuple #[v3,iN 0,iN 0]) [o] [] []))∧(own.n=false→HT (yV [vS f 0 n c,v3]) (heapOf [o,.dead,b0,b5,b4,b6,b2,.dead,.cells 3 [Iv own.i] false,.dead,.dead,.cells 172 [ax] false,.cells 28 [iN 0,iN 0,iN 0] false,.cells 28 [iN 0,iN 0,iN 1] false,.cells 197 [iN 0,.func (.func 192) #[] #[pb 2 0,pb 3 0],.func (.func 187) #[] #[pb 2 0],iN 6,.func (.func 193) #[] #[pb 11 0],.func (.func 188) #[] #[pb 8 0],iN 1,.func (.func 194) #[] #[pb 5 0],.func (.func 189) #[] #[pb 4 0,pb 8 0],iN 2,.func (.func 195) #[] #[pb 11 0],.func (.func 196) #[] #[pb 12 0,pb 3 0,pb 8 0],iN 3,.func (.func 198) #[] #[pb 12 0],.func (.func 199) #[] #[pb 13 0,pb 8 0],iN 4,.func (.func 200) #[] #[pb 12 0,pb 8 0],.func (.func 188) #[] #[pb 8 0],iN 5,.func (.func 191) #[] #[],.func (.func 189) #[] #[pb 4 0,pb 8 0]] false,.cells 197 [iN 0,.func (.func 192) #[] #[pb 2 0,pb 3 0],.func (.func 187) #[] #[pb 2 0]] false] aE) (ax) [.dead,.dead]∧((some (iN 6):OV)=some (iN 6)∧(Q (.tuple #[.agg #[.bool true,iN 0,iN 0,iN 0,iN 0,Iv own.i],iN 6,iN 0]) [o] [] [])))))))))=RF Tryz.prog NY Tryz.f167 300 vE ⟨tmsOf [cN own,vS f 0 n c,Iv now,.bool lost] 0 .leaf,heapOf [o,.dead] aE,[]⟩ (.b 9 (.stop 1 [] []) (.h 12 (iN 0) [.dead] (.b 17 (.stop 1 [] []) (.b 21 (.stop 1 [] []) (.h 28 (ax) [.dead,.dead] (.b 83 (.stop 1 [] []) (.h 87 (ax) [.dead,.dead] (.stop 1 [] [])))))))) Q:=by cases f <;> (intros;kernel_rfl)
theorem Oi(f:Bool)(o:ae)(n c m q:Nat)(now lst:Int)(lost:Bool)(own:aa)(top:aQ)(ls:List aQ)(ds:List Int)(Q:Value→List ae→List Nat→List ae→Prop):let v0:Value:=.tuple #[.agg #[.bool false,iN 0,iN 0,iN 0,iN 0,iN 0],iN 0,iN 1];((((cg own.n own.t own.o own.r own.d own.i) != (Int.ofNat 0))=true→Q (v0) [o] [] [])∧(((cg own.n own.t own.o own.r own.d own.i) != (Int.ofNat 0))=false→HT (j6 [vS f 0 n c]) (heapOf [o,.dead,.cells 23 [.bool own.n,Iv own.t,Iv own.o,Iv own.r,Iv own.d,Iv own.i] false,.cells 24 [vS f 0 n c] false,.cells 3 [Iv now] false,.cells 4 [.bool lost] false,.cells 23 [.bool false,iN 0,iN 0,iN 0,iN 0,iN 0] false] aE) (iN 1) [.dead]∧(Q (v0) [o] [] [])))=RF Tryz.prog NY Tryz.f167 300 vE ⟨tmsOf [cN own,vS f 0 n c,Iv now,.bool lost] 0 .leaf,heapOf [o,.dead] aE,[]⟩ (.b 9 (.stop 1 [] []) (.h 12 (iN 1) [.dead] (.stop 1 [] []))) Q:=by cases f <;> (intros;kernel_rfl)
theorem Rk(vs:List aa)(hn:vs.length<1000000):∀ rest v0,caseA vs rest=some v0→Kz Tryz.f167 vE 105 1 vs rest v0:=fun rest v0 h=>by
 unfold caseA at h;split at h
 case h_2=>cases h
 rename_i a now lost;obtain ⟨own,hown,h2⟩:=Option.map_eq_some_iff.1 h;obtain rfl:=nN hown;cases h2;refine ⟨Bj _,(by intro r hr; simp at hr; rcases hr with rfl | rfl | rfl; exact IE _; exact jl _ _; exact mu _),by simp,fun f o c W X ho hrow hfl=>?_⟩
 have T0:∀ {hp:Hp},hp.get 0=some o→TN vs (vS f 0 vs.length c) hp:=fun hg=>gf ho hrow hfl hg
 have hck:∀ {hp:Hp},hp.get 0=some o→j6 [vS f 0 vs.length c] hp=some (mc (aF vs),heapOf [.dead] hp):=fun hg=>pz (T0 hg) (by unfold Aw; omega)
 have hlv:∀ {hp:Hp},hp.get 0=some o→yX [vS f 0 vs.length c] hp=some (o8 (bG (aT vs)) hp.sz,heapOf [ownL (bG (aT vs)),.dead] hp):=fun hg=>Cd (T0 hg) hn
 have hdn:∀ {hp:Hp},hp.get 0=some o→yV [vS f 0 vs.length c,cN own] hp=some (rowIv (bM 1 own vs) hp.sz,heapOf [cS (bM 1 own vs),.dead] hp):=fun hg=>oJ (A:=wayR19) (T0 hg) hn rfl
 have hls':∀ (top:aQ) {hp:Hp},hp.get 0=some o→Ca [vS f 0 vs.length c,lA top] hp=some (.int .i64 (gT top vs),heapOf [.dead] hp):=fun top {hp} hg=>GD top (T0 hg) hn
 have hml:(bG (aT vs)).length≤vs.length:=Nat.le_trans (Dq _) (ov _)
 unfold bJ;generalize bG (aT vs)=ls at *;generalize bM 1 own vs=ds at *;cases hr:aF vs with
 | false =>
   rw [hr] at hck;refine bh.cq p9 follows R5 (Oi f o vs.length c 0 0 now 0 lost own zl [] [] _) ?_
   refine ⟨fun h_9=>Q1.of ?_,fun h_9=>⟨hck eY,Q1.of ?_⟩⟩
   all_goals ((try simp only [jv,Bool.not_eq_true',Bool.not_eq_false'] at *); first | (rw [ja (by assumption)]; rfl) | (rw [jb (by assumption)]; simp only [caseW,oV,AF,cg, *,cond_true,cond_false,Bool.not_true,Bool.not_false]; first | rfl | exact kE (by assumption)))
 | true =>
   rw [hr] at hck;cases ls with
   | nil =>
     cases ds with
     | nil =>
       refine bh.cq p9 follows R5 (Ol f o vs.length c 0 0 now 0 lost own zl [] [] _) ?_
       refine ⟨fun h_9=>Q1.of ?_,fun h_9=>⟨hck eY,fun h_17=>Q1.of ?_,fun h_17=>⟨fun h_21=>Q1.of ?_,fun h_21=>⟨hlv eY,fun h_83=>⟨rfl,Q1.of ?_⟩,fun h_83=>⟨hdn eY,rfl,Q1.of ?_⟩⟩⟩⟩⟩
       all_goals ((try simp only [jv,Bool.not_eq_true',Bool.not_eq_false'] at *); first | (rw [ja (by assumption)]; rfl) | (rw [jb (by assumption)]; simp only [caseW,List.getLast?_nil,List.isEmpty_nil,oV,AF,cg, *,cond_true,cond_false,Bool.not_true,Bool.not_false]; first | rfl | exact kE (by assumption)))
     | cons d ds =>
       refine bh.cq p9 follows R5 (Oh f o vs.length c 0 ds.length now 0 lost own zl [] (d::ds) _) ?_
       refine ⟨fun h_9=>Q1.of ?_,fun h_9=>⟨hck eY,fun h_17=>Q1.of ?_,fun h_17=>⟨fun h_21=>Q1.of ?_,fun h_21=>⟨hlv eY,fun h_83=>⟨rfl,Q1.of ?_⟩,fun h_83=>⟨hdn eY,ba (It _),rfl,Q1.of ?_⟩⟩⟩⟩⟩
       all_goals ((try simp only [jv,Bool.not_eq_true',Bool.not_eq_false'] at *); first | (rw [ja (by assumption)]; rfl) | (rw [jb (by assumption)]; simp only [caseW,List.getLast?_nil,List.isEmpty_cons,oV,AF,cg, *,cond_true,cond_false,Bool.not_true,Bool.not_false]; first | rfl | exact kE (by assumption)))
   | cons l ls =>
     have hlast:(l::ls).getLast? = some ((l::ls)[ls.length]'(by simp)):=by rw [List.getLast?_eq_getElem?]; simp
     have hget:(l::ls)[ls.length]? = some ((l::ls)[ls.length]'(by simp)):=List.getElem?_eq_getElem _
     rw [AN hlast];generalize (l::ls)[ls.length]'(by simp)=top at *
     generalize hL:l::ls=L at *;have hlen:L.length=ls.length+1:=by rw [← hL]; rfl
     have hls:=fun {hp:Hp} (hg:hp.get 0=some o)=>hls' top hg
     have hlv':∀ {hp:Hp},hp.get 0=some o→yX [vS f 0 vs.length c] hp=some (.slice (some ⟨hp.sz,0,none⟩) (ls.length+1) 11,heapOf [ownL L,.dead] hp):=by rw [← hL] at hlv ⊢; exact hlv
     clear hlv; have hlv:=fun {hp:Hp} (hg:hp.get 0=some o)=>hlv' hg
     have hm:ls.length<1000000:=by omega
     cases ds with
     | nil =>
       refine bh.cq p9 follows R5 (Oj f o vs.length c ls.length 0 now (gT top vs) lost own top L [] _) ?_
       refine ⟨fun h_9=>Q1.of ?_,fun h_9=>⟨hck eY,fun h_17=>Q1.of ?_,fun h_17=>⟨fun h_21=>Q1.of ?_,fun h_21=>⟨hlv eY,ba (It _),(gC (by omega)),Eo (Nat.lt_succ_self _),yb (us:=L) (by rw [al]; rfl) hget,fun h_90=>⟨rfl,Q1.of ?_⟩,fun h_90=>⟨hdn eY,ba (Xa _),fun h_129=>⟨fun h_145=>⟨fun h_161=>⟨fun h_178=>⟨fun h_225=>⟨ba h_225,Q1.of ?_⟩,fun h_225=>⟨rfl,Q1.of ?_⟩⟩,fun h_178=>⟨rfl,Q1.of ?_⟩⟩,fun h_161=>⟨fun h_188=>⟨ba h_188,Q1.of ?_⟩,fun h_188=>⟨rfl,Q1.of ?_⟩⟩⟩,fun h_145=>⟨hls eY,fun h_176=>⟨rfl,rfl,ba h_176,Q1.of ?_⟩,fun h_176=>⟨rfl,rfl,rfl,Q1.of ?_⟩⟩⟩,fun h_129=>⟨fun h_163=>⟨ba h_163,Q1.of ?_⟩,fun h_163=>⟨rfl,Q1.of ?_⟩⟩⟩⟩⟩⟩⟩
       all_goals ((try simp only [jv,Bool.not_eq_true',Bool.not_eq_false'] at *); first | (rw [ja (by assumption)]; rfl) | (rw [jb (by assumption)]; simp only [caseW,hlen,List.isEmpty_nil,oV,AF,cg, *,cond_true,cond_false,Bool.not_true,Bool.not_false]; first | rfl | exact kE (by assumption)))
     | cons d ds =>
       refine bh.cq p9 follows R5 (JU f o vs.length c ls.length ds.length now (gT top vs) lost own top L (d::ds) _) ?_
       refine ⟨fun h_9=>Q1.of ?_,fun h_9=>⟨hck eY,fun h_17=>Q1.of ?_,fun h_17=>⟨fun h_21=>Q1.of ?_,fun h_21=>⟨hlv eY,ba (It _),(gC (by omega)),Eo (Nat.lt_succ_self _),yb (us:=L) (by rw [al]; rfl) hget,fun h_90=>⟨rfl,Q1.of ?_⟩,fun h_90=>⟨hdn eY,ba (It _),rfl,Q1.of ?_⟩⟩⟩⟩⟩
       all_goals ((try simp only [jv,Bool.not_eq_true',Bool.not_eq_false'] at *); first | (rw [ja (by assumption)]; rfl) | (rw [jb (by assumption)]; simp only [caseW,hlen,List.isEmpty_cons,oV,AF,cg, *,cond_true,cond_false,Bool.not_true,Bool.not_false]; first | rfl | exact kE (by assumption)))
noncomputable def uX:aB:=toldA 1 caseA
theorem Ml:aq Tryz.prog 167 uX:=ru Tryz.func167 K5 (by kernel_rfl) Uf fun vs hn=>Rk vs hn
theorem Cb{vs:List aa}{s:Value}{hp:Hp}{own:aa}(h0:own.id=0)(now:Int)(lost:Bool)(h:TN vs s hp)(hn:vs.length<1000000):uX [cN own,s,.int .i64 now,.bool lost] hp=some (Bi (bJ own vs now lost),heapOf [.dead] hp) :=
 xf rfl h hn (by show caseA vs [cN own,.int .i64 now,.bool lost]=_; unfold caseA; simp only [IU h0]; rfl)
end Go.Proofs.YtgeoommlmddgpaaGreat.LtL
namespace Go.Proofs.YtgeoommlmddgpaaGreat.AI
open Go Go.Proofs Go.RowKit
def pL:Code→Code
 | .seq a _=>a
 | c=>c
def pR:Code→Code
 | .seq _ b=>b
 | c=>c
def pB:Code→Code
 | .block _ b=>b
 | c=>c
def pU:Code→Code
 | .loop b=>b
 | c=>c
section
variable {P:Program} {N z:Nat} {W:bj} {X:fj}
theorem bh.fold{b:Code}{α β : Type}{vs:List β}(F : α→β→α)(a0 : α)(I : α→Nat→(Nat→Value)→St){Q:Exit→St→Prop}
  (last:∀ a g,vs.foldl F a0=a→bh P N W z X b (I a vs.length g) (fun e st=>e≠.normal∧Q e st))
  (step:∀ i x a g,vs[i]? = some x→i<vs.length→(vs.take i).foldl F a0=a→bh P N W z X b (I a i g) (fun e st=>(e = .normal∧∃ g',st=I (F a x) (i+1) g')∨(e≠.normal∧Q e st)))
  (g:Nat→Value):bh P N W z X (.loop b) (I a0 0 g) Q:=by
 have:=bh.count (P:=P) (N:=N) (W:=W) (z:=z) (X:=X) (c:=b) (Q:=Q) vs.length (fun i g=>I ((vs.take i).foldl F a0) i g) (fun i hi g=>?_) (fun g=>?_) g
 ·simpa using this
 ·have hx:vs[i]? = some vs[i]:=List.getElem?_eq_getElem hi
  have e:(vs.take (i+1)).foldl F a0=F ((vs.take i).foldl F a0) vs[i]:=by
    rw [List.take_add_one,hx,List.foldl_append]; rfl
  simp only [e];exact step i vs[i] _ g hx hi rfl
 ·have:=last _ g rfl
  simpa using this
theorem bh.find{b:Code}{β : Type}{vs:List β}(p : β→Bool)(S:Nat→(Nat→Value)→St){Q:Exit→St→Prop}
  (last:∀ g,vs.any p=false→bh P N W z X b (S vs.length g) (fun e st=>e≠.normal∧Q e st))
  (hit:∀ i x g,vs[i]? = some x→i<vs.length→p x=true→vs.any p=true→bh P N W z X b (S i g) (fun e st=>e≠.normal∧Q e st))
  (step:∀ i x g,vs[i]? = some x→i<vs.length→p x=false→bh P N W z X b (S i g) (fun e st=>e = .normal∧∃ g',st=S (i+1) g'))
  (g:Nat→Value):bh P N W z X (.loop b) (S 0 g) Q:=by
 refine bh.loop (fun k st=>∃ i g,k+i=vs.length∧(∀ x∈vs.take i,p x=false)∧st=S i g) (fun k st=>?_) (k:=vs.length) ⟨0,g,by omega,by simp,rfl⟩
 rintro ⟨i,g,hk,hno,rfl⟩;rcases Nat.lt_or_ge i vs.length with hi | hi
 ·have hx:vs[i]? = some vs[i]:=List.getElem?_eq_getElem hi
  cases hp:p vs[i] with
  | true=>exact bh.mono (hit i vs[i] g hx hi hp (List.any_eq_true.2 ⟨_,List.getElem_mem hi,hp⟩)) fun e st q=>.inr q
  | false =>
    refine bh.mono (step i vs[i] g hx hi hp) fun e st q=>?_
    obtain ⟨rfl,g',rfl⟩:=q;refine .inl ⟨rfl,k-1,by omega,i+1,g',by omega,fun x hxm=>?_,rfl⟩
    rw [List.take_add_one,hx] at hxm;rcases List.mem_append.1 hxm with h | h
    ·exact hno x h
    ·simp at h; subst h; exact hp
 ·obtain rfl:i=vs.length:=by omega
  refine bh.mono (last g (List.any_eq_false.2 fun x hx=>by rw [hno x (by simpa using hx)]; decide)) fun e st q=>.inr q
theorem Tm{n:Nat}{O:List ae}(h:∀ i,i<n→∀ o,O[i]? = some o→aD o=true):rO n O:=fun i hi o ho=>bk (h i hi o ho) 0
theorem HL{o:ae}{r:List ae}(h:aD o=true):rO 1 (o::r):=Tm fun i hi o' ho=>by
 have:i=0:=by omega
 subst this; cases ho; exact h
end
end Go.Proofs.YtgeoommlmddgpaaGreat.AI
namespace Go.Proofs.YtgeoommlmddgpaaGreat.LtL
open Go Go.Proofs Go.Proofs.YtgeoommlmddgpaaGreat.AI Go.RowKit Go.Proofs.YtgeoommlmddgpaaGreat.Sort Go.Proofs.YtgeoommlmddgpaaGreat.LtA
theorem wo{f:Bool}{n i:Nat}(hkk:kk f n=n)(h:i<n):decide (Int.ofNat i<Int.ofNat (kk f n))=true:=by rw [hkk]; exact decide_eq_true (by simp only [Int.ofNat_eq_natCast]; omega)
theorem zV{f:Bool}{n:Nat}(hkk:kk f n=n):decide (Int.ofNat n<Int.ofNat (kk f n))=false:=by rw [hkk]; exact decide_eq_false (by simp)
def cP(now:Int)(x:aa):Bool:=decide (x.t≥now)
def iD(now:Int)(own:aa)(vs:List aa):Bool:=!vs.any (cP now)&&decide (own.t<now)
theorem lU{x:aa}(hn:x.n=false)(h:dG x.n x.t x.o x.r x.d x.i=true):Kn x:=by
 unfold Kn known; rw [h,hn]; rfl
theorem zF{x:aa}(h:Kn x):x.n=false∧dG x.n x.t x.o x.r x.d x.i=true:=by
 unfold Kn known at h;simpa using h
theorem iP{x:aa}(h:Kn x):bm x=(x.t,x.o,x.r):=by
 unfold Kn at h;unfold bm kz kA kB;rw [h]; rfl
theorem EG{n:Bool}{t o r d i:Int}(h:dG n t o r d i=true)(hn:n=false) : -1099511627776≤d∧d≤1099511627776:=by
 subst hn;unfold dG at h;simp only [cond_false,Bool.and_eq_true,decide_eq_true_eq,ge_iff_le] at h;exact h.2.2.2.2.2.2.2
def lN(a b:aQ):Prop:=a.1<b.1∨a.1=b.1∧(a.2.1<b.2.1∨a.2.1=b.2.1∧a.2.2<b.2.2)
theorem sB{x y:aQ}:mB x y=true↔lN x y:=by
 unfold mB;rw [Go.Proofs.ltOf,decide_eq_true_iff];exact Ae
theorem zP{u v:aa}(h:lN (u.t,u.o,u.r) (v.t,v.o,v.r)):Lex u v:=by
 unfold Lex; unfold lN at h; simp only at h; omega
inductive gE (own:aa) (vs:List aa) (now:Int) (lost:Bool):BF→Prop where
 | bad:gE own vs now lost (zH,0,1)
 | stay:own.n=true∨bM 1 own vs≠[]→gE own vs now lost (own,0,0)
 | alone:own.n=false→bM 1 own vs = []→bG (aT vs) = []→gE own vs now lost (bO own.i,6,0)
 | lost (top:aQ):Kn own→bM 1 own vs = []→(bG (aT vs)).getLast? = some top→lost=true→dG false now own.i 0 0 own.i=true→gE own vs now lost (⟨0,false,now,own.i,0,0,own.i⟩,1,0)
 | prop (top:aQ):Kn own→bM 1 own vs = []→(bG (aT vs)).getLast? = some top→1<(bG (aT vs)).length→dG false top.1 top.2.1 top.2.2 (wrapF .i64 (gT top vs-1)) own.i=true→gE own vs now lost (⟨0,false,top.1,top.2.1,top.2.2,wrapF .i64 (gT top vs-1),own.i⟩,2,0)
 | refl (top:aQ):Kn own→bM 1 own vs = []→(bG (aT vs)).getLast? = some top→(bG (aT vs)).length=1→top.2.2=0→dG false top.1 top.2.1 1 0 own.i=true→gE own vs now lost (⟨0,false,top.1,top.2.1,1,0,own.i⟩,3,0)
 | dete (top:aQ):Kn own→bM 1 own vs = []→(bG (aT vs)).getLast? = some top→(bG (aT vs)).length=1→top.2.2≠0→top.2.1=own.i→gE own vs now lost (bO own.i,4,0)
 | gene (top:aQ):Kn own→bM 1 own vs = []→(bG (aT vs)).getLast? = some top→(bG (aT vs)).length=1→dG false now own.i 0 0 own.i=true→gE own vs now lost (⟨0,false,now,own.i,0,0,own.i⟩,5,0)
theorem tG{own:aa}{vs:List aa}{now:Int}{lost:Bool}{c t o r d i:Int}(h:dG false t o r d i=true→gE own vs now lost (⟨0,false,t,o,r,d,i⟩,c,0)):gE own vs now lost (AF c t o r d i):=by
 unfold AF;cases hc:dG false t o r d i with
 | true=>exact h hc
 | false=>exact .bad
theorem mV(own:aa)(vs:List aa)(now:Int)(lost:Bool):gE own vs now lost (bJ own vs now lost)∧((bJ own vs now lost).2.2=0→aF vs=true∧dG own.n own.t own.o own.r own.d own.i=true):=by
 unfold bJ;cases hok:dG own.n own.t own.o own.r own.d own.i with
 | false=>rw [ja hok]; exact ⟨.bad,fun h=>absurd (show (1:Int)=0 from h) (by decide)⟩
 | true =>
 rw [jb hok];unfold caseW;cases hr:aF vs with
 | false=>exact ⟨.bad,fun h=>absurd (show (1:Int)=0 from h) (by decide)⟩
 | true =>
 simp only [Bool.not_true,cond_false];cases h1:decide (now<Int.ofNat 0) with
 | true=>exact ⟨.bad,fun h=>absurd (show (1:Int)=0 from h) (by decide)⟩
 | false =>
 cases h2:decide (now>Int.ofNat 4611686018427387903) with
 | true=>exact ⟨.bad,fun h=>absurd (show (1:Int)=0 from h) (by decide)⟩
 | false =>
 simp only [cond_false];refine ⟨?_,fun _=>⟨trivial,trivial⟩⟩
 cases hn:own.n with
 | true=>exact .stay (.inl hn)
 | false =>
 simp only [cond_false];have hK:Kn own:=lU hn hok
 cases hd:(bM 1 own vs) with
 | cons z zs=>exact .stay (.inr (by rw [hd]; simp))
 | nil =>
 simp only [List.isEmpty_nil,Bool.not_true,cond_false];cases hl:(bG (aT vs)).getLast? with
 | none=>exact .alone hn hd (List.getLast?_eq_none_iff.1 hl)
 | some top =>
 simp only;have hpos:0<(bG (aT vs)).length:=by
  cases e:bG (aT vs) with
  | nil=>rw [e] at hl; cases hl
  | cons a b=>simp
 unfold oV;cases lost with
 | true=>exact tG fun h=>.lost top hK hd hl rfl h
 | false =>
 simp only [cond_false];cases hk:decide (Int.ofNat (bG (aT vs)).length>Int.ofNat 1) with
 | true=>exact tG fun h=>.prop top hK hd hl (by have:=of_decide_eq_true hk; simp only [Int.ofNat_eq_natCast] at this; omega) h
 | false =>
 have vR:(bG (aT vs)).length=1:=by have:=of_decide_eq_false hk; simp only [Int.ofNat_eq_natCast] at this; omega
 simp only [cond_false];cases hr0:(top.2.2==Int.ofNat 0) with
 | true=>exact tG fun h=>.refl top hK hd hl vR (by simpa using hr0) h
 | false =>
 simp only [cond_false];cases ho:(top.2.1==own.i) with
 | true=>exact .dete top hK hd hl vR (by simpa using hr0) (by simpa using ho)
 | false=>exact tG fun h=>.gene top hK hd hl vR h
theorem ub{vs:List aa}{l:aQ}(h:l∈bG (aT vs)):∃ x∈vs,Kn x∧l=(x.t,x.o,x.r):=by
 have:=vx.1 h
 unfold aT at this;obtain ⟨x,hx,rfl⟩:=List.mem_map.1 this;obtain ⟨h1,h2⟩:=List.mem_filter.1 hx;exact ⟨x,h1,h2,iP h2⟩
theorem xR{ls:List aQ}{top:aQ}(hp:ls.Pairwise fun x y=>mB x y=true)(h:ls.getLast? = some top)(h1:1<ls.length):∃ a∈ls,lN a top:=by
 match ls,h1 with
 | a::b::r,_ =>
   refine ⟨a,by simp,sB.1 ?_⟩
   have:=(List.pairwise_cons.1 hp).1 top
   refine this ?_
   have e:(a::b::r).getLast? = (b::r).getLast?:=by simp [List.getLast?_cons_cons]
   rw [e] at h;exact List.mem_of_getLast? h
theorem uM{ls:List aQ}{top:aQ}(h:ls.getLast? = some top):top∈ls:=List.mem_of_getLast? h
theorem qd{me:Int}{vs:List aa}(h:(bW me vs).2=0):(eP vs).2=true∧aV (eP vs).1 (bW me vs).1=true∧(bW me vs).1.i=me∧bm (bW me vs).1=bm (eP vs).1∧(bW me vs).1.d=wrapF .i64 ((eP vs).1.d+1):=by
 unfold bW at h ⊢;cases hr:aF vs with
 | false=>rw [hr] at h; exact absurd (show (1:Int)=0 from h) (by decide)
 | true =>
 rw [hr] at h;simp only [Bool.not_true,cond_false] at h ⊢;cases hz:dG false (Int.ofNat 0) (Int.ofNat 0) (Int.ofNat 0) (Int.ofNat 0) me with
 | false=>rw [hz] at h; exact absurd (show (1:Int)=0 from h) (by decide)
 | true =>
 rw [hz] at h;simp only [Bool.not_true,cond_false] at h ⊢;have hlow:=Et vs
 cases hl:(eP vs).2 with
 | false=>rw [hl] at h; exact absurd (show (7:Int)=0 from h) (by decide)
 | true =>
 rw [hl] at h;simp only [Bool.not_true,cond_false] at h ⊢;obtain ⟨hm,hk,_⟩:=hlow.1 hl;generalize (eP vs).1=y at *;rw [iP hk] at h ⊢;unfold OX at h ⊢;cases ho:dG false y.t y.o y.r (wrapF .i64 (y.d+Int.ofNat 1)) me with
 | false=>rw [ho] at h; exact absurd (show (1:Int)=0 from h) (by decide)
 | true =>
 simp only [cond_true];have hK:Kn (⟨0,false,y.t,y.o,y.r,wrapF .i64 (y.d+Int.ofNat 1),me⟩:aa):=lU rfl ho
 have hd:=EG (zF hk).2 (zF hk).1
 have hw:wrapF .i64 (y.d+Int.ofNat 1)=y.d+1:=wrap64 (by simp only [Int.ofNat_eq_natCast]; omega) (by simp only [Int.ofNat_eq_natCast]; omega)
 refine ⟨trivial,(fK hk hK).2 (.inr ⟨rfl,.inr ⟨rfl,.inr ⟨rfl,.inl ?_⟩⟩⟩),trivial,iP hK,rfl⟩
 show y.d<wrapF .i64 (y.d+Int.ofNat 1)
 rw [hw]; omega
theorem tZ{vs:List aa}(hr:aF vs=true){x:aa}(hx:x∈vs):nn x=toldV x:=by
 have:=(lp ((cG.1 hr).1 x hx)).2.2.2
 unfold nn toldV told known;rw [this,Bool.and_true]
theorem yh{h x:aa}(hk:Kn h)(d:Int):pD d h x=((bif toldV x then (bif aV x h then 1 else bif aV h x then 2 else 0) else 0:Int)==d):=by
 unfold pD;rw [Ht,show toldV h=true from hk]; rfl
theorem um{h x:aa}(hk:Kn h)(hx:Kn x)(hl:Lex x h)(d:Int):pD d h x=((1:Int)==d):=by
 rw [yh hk,show toldV x=true from hx,(fK hx hk).2 hl]; rfl
theorem JF{h x:aa}(hk:Kn h)(hx:Kn x)(hl:Lex h x)(d:Int):pD d h x=((2:Int)==d):=by
 have:aV x h=false:=by
  cases e:aV x h with
  | false=>rfl
  | true=>have:=(fK hx hk).1 e; unfold Lex at *; omega
 rw [yh hk,show toldV x=true from hx,this,(fK hk hx).2 hl]; rfl
theorem yi{h x:aa}(hk:Kn h)(hx:¬ Kn x){d:Int}(hd:d≠0):pD d h x=false:=by
 have:toldV x=false:=by
  cases e:toldV x with
  | false=>rfl
  | true=>exact absurd e hx
 rw [yh hk,this];exact beq_false_of_ne (Ne.symm hd)
theorem zK{α : Type}{p q r : α→Bool}:∀ {l:List α},(∀ x∈l,r x=(p x||q x)∧(p x&&q x)=false)→(l.filter p).length+(l.filter q).length=(l.filter r).length
 | [],_=>rfl
 | x::l,h=>by
   have ih:=zK (l:=l) fun y hy=>h y (.tail _ hy)
   obtain ⟨h1,h2⟩:=h x (.head _);simp only [List.filter_cons];cases hp:p x <;> cases hq:q x <;> rw [hp,hq] at h1 h2 <;> simp only [h1,Bool.false_or,Bool.or_false,Bool.true_or,if_true,if_false,Bool.false_eq_true,List.length_cons]
   ·exact ih
   ·omega
   ·omega
   ·cases h2
theorem El{α : Type}{p q : α→Bool}{l:List α}(h:∀ x∈l,p x=q x):(l.filter p).length=(l.filter q).length:=by
 rw [List.filter_congr h]
theorem Ex{v:aQ}:∀ {vs:List aa} {k:Int},vs.foldl (je v) k≤k∧(∀ x∈vs,x.n=false→bm x=v→vs.foldl (je v) k≤x.d)∧(vs.foldl (je v) k=k∨∃ x∈vs,x.n=false∧vs.foldl (je v) k=x.d)
 | [],k=>⟨Int.le_refl _,(fun x hx=>by cases hx),.inl rfl⟩
 | y::vs,k=>by
   obtain ⟨h1,h2,h3⟩:=Ex (vs:=vs) (k:=je v k y) (v:=v);rw [List.foldl_cons];have hs:je v k y≤k∧(y.n=false→bm y=v→je v k y≤y.d)∧(je v k y=k∨y.n=false∧je v k y=y.d):=by
     unfold je;cases hn:y.n with
     | true=>simp
     | false =>
       cases he:(bm y==v) with
       | false =>
         have:bm y≠v:=by simpa using he
         simp [this]
       | true=>by_cases hd:y.d<k <;> simp [hd] <;> omega
   refine ⟨Int.le_trans h1 hs.1,fun x hx hn hv=>?_,?_⟩
   ·rcases List.mem_cons.1 hx with rfl | hx
    ·exact Int.le_trans h1 (hs.2.1 hn hv)
    ·exact h2 x hx hn hv
   ·rcases h3 with h | ⟨x,hx,q⟩
    ·rcases hs.2.2 with e | ⟨e1,e2⟩
     ·exact .inl (by rw [h,e])
     ·exact .inr ⟨y,.head _,e1,by rw [h,e2]⟩
    ·exact .inr ⟨x,.tail _ hx,q⟩
theorem ya{vs:List aa}{x:aa}(hx:x∈vs)(hk:Kn x):(x.t,x.o,x.r)∈bG (aT vs):=by
 refine vx.2 ?_
 unfold aT;rw [← iP hk];exact List.mem_map.2 ⟨x,List.mem_filter.2 ⟨hx,hk⟩,rfl⟩
theorem zG{ls:List aQ}{top a:aQ}(hp:ls.Pairwise fun x y=>mB x y=true)(h:ls.getLast? = some top)(ha:a∈ls):a=top∨lN a top:=by
 induction ls with
 | nil=>cases ha
 | cons b r ih =>
   cases r with
   | nil =>
     simp at h ha; subst h; exact .inl ha
   | cons c r =>
     have e:(b::c::r).getLast? = (c::r).getLast?:=by simp [List.getLast?_cons_cons]
     rw [e] at h;rcases List.mem_cons.1 ha with rfl | ha
     ·exact .inr (sB.1 ((List.pairwise_cons.1 hp).1 top (List.mem_of_getLast? h)))
     ·exact ih (List.pairwise_cons.1 hp).2 h ha
theorem Hl{vs:List aa}(hr:aF vs=true){x:aa}(hx:x∈vs)(hk:Kn x):0<(vs.filter nn).length:=by
 have:x∈vs.filter nn:=List.mem_filter.2 ⟨hx,by rw [tZ hr hx]; exact hk⟩
 exact List.length_pos_of_mem this
theorem qe{vs:List aa}(hr:aF vs=true){h:aa}(hk:Kn h)(hl:∀ x∈vs,Kn x→Lex x h):(bM 1 h vs).length=(vs.filter nn).length:=by
 rw [jd];refine El fun x hx=>?_
 rw [tZ hr hx];by_cases hkx:Kn x
 ·rw [um hk hkx (hl x hx hkx),show toldV x=true from hkx]; rfl
 ·rw [yi hk hkx (by decide)]
  cases e:toldV x with
  | false=>rfl
  | true=>exact absurd e hkx
structure JV (own:aa) (vs:List aa) (lt:Bool) (q:BF):Prop where
 bad:q.2.2≠0→q.2.1=0
 kind:q.2.2=0→q.2.1=0∨q.2.1=1∨q.2.1=2∨q.2.1=3∨q.2.1=4∨q.2.1=5∨q.2.1=6
 stay:q.2.2=0→q.2.1=0→dH q.1 own=true∧(own.n=false→0<(bM 1 q.1 vs).length)
 lost:q.2.2=0→q.2.1=1∨q.2.1=5→lt=true→(bM 1 q.1 vs).length=(vs.filter nn).length∧0<(vs.filter nn).length
 refl:q.2.2=0→q.2.1=3→(bM 1 q.1 vs).length=(vs.filter nn).length∧0<(vs.filter nn).length
 prop:q.2.2=0→q.2.1=2→0<(bM 1 q.1 vs).length∧0<(bM 2 q.1 vs).length∧(bM 1 q.1 vs).length+(bM 2 q.1 vs).length=(vs.filter nn).length ∧
  ∃ top,(bG (aT vs)).getLast? = some top∧∀ z∈bM 2 q.1 vs,∃ x,aH vs z=some x∧bm x=top
 null:q.2.2=0→q.2.1=4∨q.2.1=6→dH q.1 (bO own.i)=true∧(q.2.1=4↔0<(vs.filter nn).length)
theorem HI{vs:List aa}(hr:aF vs=true){x:aa}(hx:x∈vs):aH vs x.id=some x:=(vG (cG.1 hr).2).2 ⟨hx,rfl⟩
theorem AO{own:aa}{vs:List aa}{now:Int}{lost:Bool}(hid:∀ x∈vs,x.id≠own.i):JV own vs (iD now own vs) (bJ own vs now lost):=by
 obtain ⟨hi,hq⟩:=mV own vs now lost;generalize bJ own vs now lost=q at *;have late:iD now own vs=true→∀ x∈vs,x.t<now:=fun h x hx=>by
  unfold iD at h;have:=(Bool.and_eq_true_iff.1 h).1
  have h1:vs.any (cP now)=false:=by simpa using this
  have:=List.any_eq_false.1 h1 x hx
  unfold cP at this;simpa using this
 have nonempty:∀ {top:aQ},aF vs=true→(bG (aT vs)).getLast? = some top→0<(vs.filter nn).length:=fun hr hl=>by
  obtain ⟨x,hx,hk,_⟩:=ub (uM hl);exact Hl hr hx hk
 cases hi with
 | bad=>exact ⟨fun _=>rfl,fun h=>absurd h (by decide),fun h=>absurd h (by decide),fun h=>absurd h (by decide),fun h=>absurd h (by decide),fun h=>absurd h (by decide),fun h=>absurd h (by decide)⟩
 | stay hs =>
   refine ⟨fun _=>rfl,fun _=>.inl rfl,fun _ _=>⟨jj.2 ⟨rfl,rfl,rfl,rfl,rfl,rfl⟩,fun hn=>?_⟩,fun _ h=>by rcases h with h | h <;> simp at h,fun _ h=>by simp at h,fun _ h=>by simp at h,fun _ h=>by rcases h with h | h <;> simp at h⟩
   rcases hs with h | h
   ·rw [hn] at h; cases h
   ·exact List.length_pos_iff.2 h
 | alone hn hd hl =>
   refine ⟨fun _=>by first | rfl | contradiction,fun _=>by simp,fun _ h=>by simp at h,fun _ h=>by rcases h with h | h <;> simp at h,fun _ h=>by simp at h,fun _ h=>by simp at h,fun _ _=>⟨jj.2 ⟨rfl,rfl,rfl,rfl,rfl,rfl⟩,?_⟩⟩
   obtain ⟨hr,_⟩:=hq rfl;have:(vs.filter nn).length=0:=by
     cases e:(vs.filter nn) with
     | nil=>rfl
     | cons x l =>
       have hx:x∈vs.filter nn:=by rw [e]; simp
       obtain ⟨h1,h2⟩:=List.mem_filter.1 hx;rw [tZ hr h1] at h2;have:=ya h1 h2
       rw [hl] at this; cases this
   rw [this]; simp
 | lost top hk hd hl _ ho =>
   obtain ⟨hr,_⟩:=hq rfl;refine ⟨fun h=>absurd rfl h,fun _=>by simp,fun _ h=>by simp at h,fun _ _ hlt=>⟨qe hr (lU rfl ho) fun x hx hkx=>.inl (late hlt x hx),nonempty hr hl⟩,fun _ h=>by simp at h,fun _ h=>by simp at h,fun _ h=>by rcases h with h | h <;> simp at h⟩
 | gene top hk hd hl _ ho =>
   obtain ⟨hr,_⟩:=hq rfl;refine ⟨fun h=>absurd rfl h,fun _=>by simp,fun _ h=>by simp at h,fun _ _ hlt=>⟨qe hr (lU rfl ho) fun x hx hkx=>.inl (late hlt x hx),nonempty hr hl⟩,fun _ h=>by simp at h,fun _ h=>by simp at h,fun _ h=>by rcases h with h | h <;> simp at h⟩
 | dete top hk hd hl _ _ _ =>
   obtain ⟨hr,_⟩:=hq rfl;refine ⟨fun h=>absurd rfl h,fun _=>by simp,fun _ h=>by simp at h,fun _ h=>by rcases h with h | h <;> simp at h,fun _ h=>by simp at h,fun _ h=>by simp at h,fun _ _=>⟨jj.2 ⟨rfl,rfl,rfl,rfl,rfl,rfl⟩,?_⟩⟩
   have:=nonempty hr hl
   simp [this]
 | refl top hk hd hl h1 h0 ho =>
   obtain ⟨hr,_⟩:=hq rfl;refine ⟨fun h=>absurd rfl h,fun _=>by simp,fun _ h=>by simp at h,fun _ h=>by rcases h with h | h <;> simp at h,fun _ _=>⟨qe hr (lU rfl ho) fun x hx hkx=>?_,nonempty hr hl⟩,fun _ h=>by simp at h,fun _ h=>by rcases h with h | h <;> simp at h⟩
   refine zP ?_
   have hm:=ya hx hkx
   rcases zG (n4 _) hl hm with e | e
   ·show lN (x.t,x.o,x.r) (top.1,top.2.1,1)
    rw [← e] at h0 ⊢;have h0':x.r=0:=h0
    exact .inr ⟨rfl,.inr ⟨rfl,by show x.r<1; omega⟩⟩
   ·show lN (x.t,x.o,x.r) (top.1,top.2.1,1)
    unfold lN at *;rcases e with e | ⟨e1,e | ⟨e2,e⟩⟩
    ·exact .inl e
    ·exact .inr ⟨e1,.inl e⟩
    ·have e':x.r<top.2.2:=e
     exact .inr ⟨e1,.inr ⟨e2,by show x.r<1; omega⟩⟩
 | prop top hk hd hl h1 ho =>
   obtain ⟨hr,_⟩:=hq rfl;refine ⟨fun h=>absurd rfl h,fun _=>by simp,fun _ h=>by simp at h,fun _ h=>by rcases h with h | h <;> simp at h,fun _ h=>by simp at h,fun _ _=>?_,fun _ h=>by rcases h with h | h <;> simp at h⟩
   have hK:Kn (⟨0,false,top.1,top.2.1,top.2.2,wrapF .i64 (gT top vs-1),own.i⟩:aa):=lU rfl ho
   obtain ⟨l1,l2,l3⟩:=Ex (v:=top) (vs:=vs) (k:=1099511627776);have hrng : -1099511627776≤gT top vs:=by
     rcases l3 with e | ⟨x,hx,hn,e⟩
     ·show _≤vs.foldl (je top) 1099511627776; rw [e]; decide
     ·show _≤vs.foldl (je top) 1099511627776
      rw [e];exact (EG (lp ((cG.1 hr).1 x hx)).2.2.2 hn).1
   have hw:wrapF .i64 (gT top vs-1)=gT top vs-1:=wrap64 (by omega) (by have:gT top vs≤1099511627776:=l1; omega)
   rw [hw] at hK ⊢;have key:∀ x∈vs,Kn x→(bm x=top∧Lex ⟨0,false,top.1,top.2.1,top.2.2,gT top vs-1,own.i⟩ x)∨(bm x≠top∧Lex x ⟨0,false,top.1,top.2.1,top.2.2,gT top vs-1,own.i⟩):=fun x hx hkx=>by
     rcases zG (n4 _) hl (ya hx hkx) with e | e
     ·refine .inl ⟨by rw [iP hkx,e],?_⟩
      have:=l2 x hx (zF hkx).1 (by rw [iP hkx,e])
      have h3:gT top vs≤x.d:=this
      subst e;refine .inr ⟨rfl,.inr ⟨rfl,.inr ⟨rfl,.inl ?_⟩⟩⟩
      show gT _ vs-1<x.d
      omega
     ·refine .inr ⟨fun h=>?_,zP e⟩
      rw [iP hkx] at h;rw [h] at e;unfold lN at e; omega
   have up:∀ x∈vs,Kn x→bm x=top→pD 2 ⟨0,false,top.1,top.2.1,top.2.2,gT top vs-1,own.i⟩ x=true∧pD 1 ⟨0,false,top.1,top.2.1,top.2.2,gT top vs-1,own.i⟩ x=false:=fun x hx hkx e=>by
     rcases key x hx hkx with ⟨_,h⟩ | ⟨h,_⟩
     ·exact ⟨JF hK hkx h 2,JF hK hkx h 1⟩
     ·exact absurd e h
   have dn:∀ x∈vs,Kn x→bm x≠top→pD 1 ⟨0,false,top.1,top.2.1,top.2.2,gT top vs-1,own.i⟩ x=true∧pD 2 ⟨0,false,top.1,top.2.1,top.2.2,gT top vs-1,own.i⟩ x=false:=fun x hx hkx e=>by
     rcases key x hx hkx with ⟨h,_⟩ | ⟨_,h⟩
     ·exact absurd h e
     ·exact ⟨um hK hkx h 1,um hK hkx h 2⟩
   refine ⟨?_,?_,?_,top,hl,fun z hz=>?_⟩
   ·rw [jd]
    obtain ⟨a,ha,hat⟩:=xR (n4 _) hl h1;obtain ⟨x,hx,hkx,e⟩:=ub ha;refine List.length_pos_of_mem (List.mem_filter.2 ⟨hx,(dn x hx hkx ?_).1⟩)
    rw [iP hkx,← e];intro h; rw [h] at hat; unfold lN at hat; omega
   ·rw [jd]
    obtain ⟨x,hx,hkx,e⟩:=ub (uM hl);exact List.length_pos_of_mem (List.mem_filter.2 ⟨hx,(up x hx hkx (by rw [iP hkx,← e])).1⟩)
   ·rw [jd,jd]
    refine zK fun x hx=>?_
    rw [tZ hr hx];by_cases hkx:Kn x
    ·by_cases e:bm x=top
     ·rw [(up x hx hkx e).1,(up x hx hkx e).2,show toldV x=true from hkx]; simp
     ·rw [(dn x hx hkx e).1,(dn x hx hkx e).2,show toldV x=true from hkx]; simp
    ·rw [yi hK hkx (by decide),yi hK hkx (by decide)]
     cases e:toldV x with
     | false=>simp
     | true=>exact absurd e hkx
   ·unfold bM at hz
    obtain ⟨x,hx,rfl⟩:=List.mem_map.1 hz;have hx2:=k9.1 hx
    obtain ⟨hxm,hp⟩:=List.mem_filter.1 hx2;refine ⟨x,HI hr hxm,?_⟩
    have hkx:Kn x:=JE (.inr rfl) hp
    by_cases e:bm x=top
    ·exact e
    ·rw [(dn x hxm hkx e).2] at hp; cases hp
structure au where
 me:Int
 dest:Int
 own:aa
 asked:Bool
 want:Bool
 heard:Bool
 last:Int
structure bb where
 to:Int
 kind:Int
 dest:Int
 h:aa
 l:aQ
 num:Int
def fG(R:au)(s:Value):List Value:=[.int .i64 R.me,.int .i64 R.dest,.bool R.own.n,.int .i64 R.own.t,.int .i64 R.own.o,.int .i64 R.own.r,.int .i64 R.own.d,.int .i64 R.own.i,s,.bool R.asked,.bool R.want,.bool R.heard,.int .i64 R.last]
def cV(R:au)(s:Value):Value:=.agg (fG R s).toArray
def oc(x:bb):List Value:=[.int .i64 x.to,.int .i64 x.kind,.int .i64 x.dest,.bool x.h.n,.int .i64 x.h.t,.int .i64 x.h.o,.int .i64 x.h.r,.int .i64 x.h.d,.int .i64 x.h.i,.int .i64 x.l.1,.int .i64 x.l.2.1,.int .i64 x.l.2.2,.int .i64 x.num]
def unR:Value→Option (au×Value)
 | .agg cs=>match cs.toList with
   | [.int .i64 me,.int .i64 dest,.bool n,.int .i64 t,.int .i64 o,.int .i64 r,.int .i64 d,.int .i64 i,s,.bool a,.bool w,.bool h,.int .i64 l]=>some (⟨me,dest,⟨0,n,t,o,r,d,i⟩,a,w,h,l⟩,s)
   | _=>none
 | _=>none
theorem uO{R:au}{s:Value}(h0:R.own.id=0):unR (cV R s)=some (R,s):=by
 obtain ⟨me,dest,⟨id,n,t,o,r,d,i⟩,a,w,h,l⟩:=R;simp only at h0;subst h0; rfl
theorem rD{v:Value}{R:au}{s:Value}(h:unR v=some (R,s)):v=cV R s∧R.own.id=0:=by
 unfold unR at h;split at h
 ·rename_i cs
  split at h
  ·rename_i hcs
   cases h;obtain rfl:=cJ hcs;exact ⟨rfl,rfl⟩
  ·cases h
 ·cases h
structure OJ (fn:Func) (code:Code) (N:Nat) (R:au) (vs:List aa) (rest:List Value) (v0:Value):Prop where
 okv:eH v0
 flat:∀ r∈rest,eH r
 len:rest.length+1≤N
 run:∀ f o c W X,aD o=true→(vs = []∨∃ ty ro,o = .cells ty (aI vs) ro)→(f=false→vs = []∧o = .dead) →
  bh Tryz.prog N W 1 X code ⟨tmsOf (cV R (vS f 0 vs.length c)::rest) 0 .leaf,heapOf [o,.dead] aE,[]⟩ (ft Tryz.prog fn (Q1 o v0))
open Classical in
noncomputable def toldC(A:au→List aa→List Value→Option Value):aB:=fun args hp=>match args with
 | a::rest=>match unR a with
   | some (R,s)=>if h:∃ vs,TN vs s hp∧vs.length<1000000 then (A R h.choose rest).map fun v=>(v,heapOf [.dead] hp) else none
   | none=>none
 | _=>none
theorem yL{A:au→List aa→List Value→Option Value}{f:FuncId}{fn:Func}{code:Code}{N:Nat}(hf:Tryz.prog.funcs[f]? = some fn)(hb:fn.body=some code)(hnm:(fn.name == "runtime.NumGoroutine")=false)(hN:fn.ntmps=N)
  (H:∀ R vs,R.own.id=0→vs.length<1000000→∀ rest v0,A R vs rest=some v0→OJ fn code N R vs rest v0):aq Tryz.prog f (toldC A):=jf follows hf hb hnm fun args hp v hp' h hk=>by
 rw [hN];unfold toldC at h;split at h
 case h_2=>cases h
 rename_i a rest;split at h
 case h_2=>cases h
 rename_i R s ha;obtain ⟨rfl,h0⟩:=rD ha;split at h
 case isFalse=>cases h
 rename_i hx;obtain ⟨hT,hn⟩:=hx.choose_spec;generalize hx.choose=vs at *;obtain ⟨v0,hA,h2⟩:=Option.map_eq_some_iff.1 h;cases h2;have RR:=H R vs h0 hn _ v hA
 have key:∀ (K0:Ks) (f:Bool) (o:ae) (c:Nat),K0.length=1→dz K0→mv1 (fV K0) s=vS f 0 vs.length c→di K0 hp=heapOf [o,.dead] aE→aD o=true→(vs = []∨∃ ty ro,o = .cells ty (aI vs) ro)→(f=false→vs = []∧o = .dead)→gz (cV R s)=true →
    (∀ (i b:Nat) (wr:Bool),K0[i]? = some (some (b,wr))→(∃ o,hp.get b=some o∧(wr=true→o≠.dead)∧bP o=true)∧sf (cV R s::rest) hp b∧wr=false∧(o = .dead→hp.get b=some .dead)) →
    ∃ (K0:Ks) (O Nw:List ae),heapOf [.dead] hp=heapOf (Nw ++ [.dead]) (putO K0 O hp)∧dz K0 ∧
    (∀ (i b:Nat) (wr:Bool),K0[i]? = some (some (b,wr))→(∃ o,hp.get b=some o∧(wr=true→o≠.dead)∧bP o=true)∧sf (cV R s::rest) hp b)∧(cV R s::rest).all gz=true∧(cV R s::rest).length≤N ∧
    ∀ W X,bh Tryz.prog N W K0.length X code ⟨tmsOf ((cV R s::rest).map (mv3 (fV K0))) 0 .leaf,di K0 hp,[]⟩ fun e st=>(e = .normal∨e = .ret)∧st.df = []∧∃ v0 K,retVal Tryz.prog fn st=some v0∧gz v0=true∧Nw.length=K.length∧gW K∧Cf K0 O K∧rN K0 K hp.sz O Nw v v0 st.hp.get hp.get:=by
  intro K0 f o c rX hnd he hpn hi hr hfl hok hst;refine ⟨K0,[o],[],?_,hnd,fun i b wr hi=>⟨(hst i b wr hi).1,(hst i b wr hi).2.1⟩,?_,by have:=RR.len; simpa using this,fun W X=>?_⟩
  ·have e:putO K0 [o] hp=hp:=by
      match K0,rX with
      | [none],_=>rfl
      | [some (b,false)],_=>rfl
      | [some (b,true)],_=>exact absurd (hst 0 b true rfl).2.2.1 (by decide)
   rw [e]; rfl
  ·rw [List.all_cons,hok]
   exact List.all_eq_true.2 fun x hx=>(RR.flat x hx).1
  ·have ea:(cV R s::rest).map (mv3 (fV K0))=cV R (vS f 0 vs.length c)::rest:=by
      rw [List.map_cons,lj RR.flat,← he];simp [mv3,mv2,mv1,cV,fG]
   rw [ea,hpn,rX];refine bh.mono (RR.run f o c W X hi hr hfl) fun e st q=>?_
   have:=BV.fin (K0:=K0) (B:=hp.sz) (O:=[o]) (Nw:=[]) (v:=v) (g:=hp.get) (fn:=fn) (P:=Tryz.prog) (e:=e) (st:=st) (by
     obtain ⟨q1,q2,v1,z,O,K,Nw,q3,q4,q5,rfl,rfl,rfl,rfl⟩:=q;refine ⟨q1,q2,_,z,_,_,_,q3,q4,q5,?_⟩
     refine ⟨RR.okv.1,by simp [bN (vs:=vs) hi],rfl,rfl,by simp [rX],⟨[],[],[],rfl,rfl,(RR.okv.2 _).symm,fun i b hi'=>?_,rfl⟩,fun i b hi' hdd=>?_⟩
     ·exact absurd (hst i b true hi').2.2.1 (by decide)
     ·have h0:i=0:=by have:=(List.getElem?_eq_some_iff.1 hi').1; omega
      subst h0;exact (hst 0 b false hi').2.2.2 (by simpa using hdd))
   exact this
 rcases hT with ⟨rfl,rfl⟩ | ⟨b,c,ob,rfl,hb,hi,hr⟩
 ·exact key [none] false .dead 0 rfl (fun i j b wr wr' h1 h2=>by cases i <;> simp at h1) rfl rfl rfl (.inl rfl) (fun _=>⟨rfl,rfl⟩) rfl (fun i b wr h=>by cases i <;> simp at h)
 ·have e1:fV [some (b,false)] b=0:=by simp [fV,posO,Nat.beq_refl]
  refine key [some (b,false)] true (roBlk ob) c rfl (fun i j b wr wr' h1 h2=>?_) ?_ ?_ (bT hi) (eC hr) (fun h=>by cases h) rfl (fun i b' wr h=>?_)
  ·have:=(List.getElem?_eq_some_iff.1 h1).1
   have:=(List.getElem?_eq_some_iff.1 h2).1
   simp at *; omega
  ·simp [mv1,af,vS,e1]
  ·unfold di
   simp [pinB,hb,bQ hi,eD]
  ·have h0:i=0:=by have:=(List.getElem?_eq_some_iff.1 h).1; simpa using this
   subst h0;simp at h;obtain ⟨rfl,rfl⟩:=h;refine ⟨⟨ob,hb,(fun h=>by cases h),aY hi⟩,.arg (.head _) (by simp [j7,jD,af,cV,fG]),rfl,?_⟩
   intro h;cases ob <;> first | exact hb | cases h
theorem FU{A:au→List aa→List Value→Option Value}{R:au}{vs:List aa}{s:Value}{rest:List Value}{hp:Hp}{v0:Value}(h0:R.own.id=0)(h:TN vs s hp)(hn:vs.length<1000000)(hA:A R vs rest=some v0) :
  toldC A (cV R s::rest) hp=some (v0,heapOf [.dead] hp):=by
 unfold toldC;have hx:∃ vs,TN vs s hp∧vs.length<1000000:=⟨vs,h,hn⟩
 simp only [uO h0];rw [dif_pos hx,hx.choose_spec.1.uniq h,hA];rfl
theorem Ik(u v:aa):fstV ((aBin Tryz.prog .neq 23 (cN u) (cN v)).map fun v=>(v,none))=some (.bool (!dH u v)):=by
 have h:aBin Tryz.prog .neq 23 (cN u) (cN v) =
  (du (u.n==v.n) (du (u.t==v.t) (du (u.o==v.o) (du (u.r==v.r) (du (u.d==v.d) (du (u.i==v.i) (some true))))))).map fun b=>.bool !b:=by kernel_rfl
 rw [h];simp only [gw];rfl
def z8(i:Int):Bool:=decide (i≥Int.ofNat 0)&&decide (i<Int.ofNat 64)
def jZ(R:au)(vs:List aa):Bool :=
 z8 R.me&&z8 R.dest && !(R.own.i != R.me) && !(aH vs R.me).isSome&&dG R.own.n R.own.t R.own.o R.own.r R.own.d R.own.i&&aF vs && !(R.asked && !R.own.n) && !decide (R.last<Int.ofNat 0) && !decide (R.last>Int.ofNat 65535) && !(decide (R.last>Int.ofNat 0) && !R.heard) &&
 !((R.me==R.dest) && !dH R.own ⟨0,false,0,0,0,0,R.me⟩)
noncomputable def Wl:Ext:=fq (cR Tryz.prog [(57,g15)]) [(25,pj),(58,j6)]
theorem J8:ExtOk Tryz.prog Wl:=bD (aS (.cons vT .nil)) (.cons Ju (.cons tU .nil))
noncomputable def Hy:Code:=(Tryz.f22.body).getD .skip
theorem K3:Tryz.f22.body=some Hy:=by kernel_rfl
theorem Ud:Tryz.f22.ntmps=89:=by kernel_rfl
theorem Xt:codeSafe Tryz.prog 89 Hy=true:=by kernel_rfl
theorem SP(f:Bool)(o:ae)(n c:Nat)(R:au)(y:aa)(self rb:Bool)(ck:Int)(Q:Value→List ae→List Nat→List ae→Prop):let v0:Value:=.agg #[.bool R.own.n,Iv R.own.t,Iv R.own.o,Iv R.own.r,Iv R.own.d,Iv R.own.i];let b1:ae:=.cells 26 [Iv R.me,Iv R.dest,.bool R.own.n,Iv R.own.t,Iv R.own.o,Iv R.own.r,Iv R.own.d,Iv R.own.i,vS f 0 n c,.bool R.asked,.bool R.want,.bool R.heard,Iv R.last] false;let v2:Value:=.agg #[.bool false,iN 0,iN 0,iN 0,iN 0,Iv R.me];(HT (pj [vS f 0 n c,Iv R.me]) (heapOf [o,.dead,b1] aE) (.tuple #[cN y,.bool self]) [.dead]∧((self=true→((decide (R.me≥(Int.ofNat 0)))=true→((!(decide (R.me<(Int.ofNat 64))))=true→Q (iN 1) [o] [] [])∧((!(decide (R.me<(Int.ofNat 64))))=false→((decide (R.dest≥(Int.ofNat 0)))=true→((!(decide (R.dest<(Int.ofNat 64))))=true→Q (iN 1) [o] [] [])∧((!(decide (R.dest<(Int.ofNat 64))))=false→((R.own.i != R.me)=true→Q (iN 1) [o] [] [])∧((R.own.i != R.me)=false→Q (iN 1) [o] [] [])))∧((decide (R.dest≥(Int.ofNat 0)))=false→Q (iN 1) [o] [] [])))∧((decide (R.me≥(Int.ofNat 0)))=false→Q (iN 1) [o] [] []))∧(self=false→((decide (R.me≥(Int.ofNat 0)))=true→((!(decide (R.me<(Int.ofNat 64))))=true→Q (iN 1) [o] [] [])∧((!(decide (R.me<(Int.ofNat 64))))=false→((decide (R.dest≥(Int.ofNat 0)))=true→((!(decide (R.dest<(Int.ofNat 64))))=true→Q (iN 1) [o] [] [])∧((!(decide (R.dest<(Int.ofNat 64))))=false→((R.own.i != R.me)=true→Q (iN 1) [o] [] [])∧((R.own.i != R.me)=false→(((cg R.own.n R.own.t R.own.o R.own.r R.own.d R.own.i) != (Int.ofNat 0))=true→Q (iN 1) [o] [] [])∧(((cg R.own.n R.own.t R.own.o R.own.r R.own.d R.own.i) != (Int.ofNat 0))=false→HT (j6 [vS f 0 n c]) (heapOf [o,.dead,b1,.dead,.cells 23 [.bool y.n,Iv y.t,Iv y.o,Iv y.r,Iv y.d,Iv y.i] false] aE) (Iv ck) [.dead]∧(((ck != (Int.ofNat 0))=true→Q (iN 1) [o] [] [])∧((ck != (Int.ofNat 0))=false→(R.asked=true→((!R.own.n)=true→Q (iN 1) [o] [] [])∧((!R.own.n)=false→((decide (R.last<(Int.ofNat 0)))=true→Q (iN 1) [o] [] [])∧((decide (R.last<(Int.ofNat 0)))=false→((decide (R.last>(Int.ofNat 65535)))=true→Q (iN 1) [o] [] [])∧((decide (R.last>(Int.ofNat 65535)))=false→((decide (R.last>(Int.ofNat 0)))=true→((!R.heard)=true→Q (iN 1) [o] [] [])∧((!R.heard)=false→((R.me==R.dest)=true→(fstV ((aBin Tryz.prog .neq 23 (v0) (v2)).map fun v=>(v,none)):OV)=some (.bool (!(dH R.own (⟨0,false,(Int.ofNat 0),(Int.ofNat 0),(Int.ofNat 0),(Int.ofNat 0),R.me⟩:aa))))∧((!(dH R.own (⟨0,false,(Int.ofNat 0),(Int.ofNat 0),(Int.ofNat 0),(Int.ofNat 0),R.me⟩:aa)))=true→(some (v0):OV)=some (v0)∧(Q (iN 1) [o] [] []))∧((!(dH R.own (⟨0,false,(Int.ofNat 0),(Int.ofNat 0),(Int.ofNat 0),(Int.ofNat 0),R.me⟩:aa)))=false→(some (v0):OV)=some (v0)∧(Q (iN 0) [o] [] [])))∧((R.me==R.dest)=false→Q (iN 0) [o] [] [])))∧((decide (R.last>(Int.ofNat 0)))=false→((R.me==R.dest)=true→(fstV ((aBin Tryz.prog .neq 23 (v0) (v2)).map fun v=>(v,none)):OV)=some (.bool (!(dH R.own (⟨0,false,(Int.ofNat 0),(Int.ofNat 0),(Int.ofNat 0),(Int.ofNat 0),R.me⟩:aa))))∧((!(dH R.own (⟨0,false,(Int.ofNat 0),(Int.ofNat 0),(Int.ofNat 0),(Int.ofNat 0),R.me⟩:aa)))=true→(some (v0):OV)=some (v0)∧(Q (iN 1) [o] [] []))∧((!(dH R.own (⟨0,false,(Int.ofNat 0),(Int.ofNat 0),(Int.ofNat 0),(Int.ofNat 0),R.me⟩:aa)))=false→(some (v0):OV)=some (v0)∧(Q (iN 0) [o] [] [])))∧((R.me==R.dest)=false→Q (iN 0) [o] [] []))))))∧(R.asked=false→((decide (R.last<(Int.ofNat 0)))=true→Q (iN 1) [o] [] [])∧((decide (R.last<(Int.ofNat 0)))=false→((decide (R.last>(Int.ofNat 65535)))=true→Q (iN 1) [o] [] [])∧((decide (R.last>(Int.ofNat 65535)))=false→((decide (R.last>(Int.ofNat 0)))=true→((!R.heard)=true→Q (iN 1) [o] [] [])∧((!R.heard)=false→((R.me==R.dest)=true→(fstV ((aBin Tryz.prog .neq 23 (v0) (v2)).map fun v=>(v,none)):OV)=some (.bool (!(dH R.own (⟨0,false,(Int.ofNat 0),(Int.ofNat 0),(Int.ofNat 0),(Int.ofNat 0),R.me⟩:aa))))∧((!(dH R.own (⟨0,false,(Int.ofNat 0),(Int.ofNat 0),(Int.ofNat 0),(Int.ofNat 0),R.me⟩:aa)))=true→(some (v0):OV)=some (v0)∧(Q (iN 1) [o] [] []))∧((!(dH R.own (⟨0,false,(Int.ofNat 0),(Int.ofNat 0),(Int.ofNat 0),(Int.ofNat 0),R.me⟩:aa)))=false→(some (v0):OV)=some (v0)∧(Q (iN 0) [o] [] [])))∧((R.me==R.dest)=false→Q (iN 0) [o] [] [])))∧((decide (R.last>(Int.ofNat 0)))=false→((R.me==R.dest)=true→(fstV ((aBin Tryz.prog .neq 23 (v0) (v2)).map fun v=>(v,none)):OV)=some (.bool (!(dH R.own (⟨0,false,(Int.ofNat 0),(Int.ofNat 0),(Int.ofNat 0),(Int.ofNat 0),R.me⟩:aa))))∧((!(dH R.own (⟨0,false,(Int.ofNat 0),(Int.ofNat 0),(Int.ofNat 0),(Int.ofNat 0),R.me⟩:aa)))=true→(some (v0):OV)=some (v0)∧(Q (iN 1) [o] [] []))∧((!(dH R.own (⟨0,false,(Int.ofNat 0),(Int.ofNat 0),(Int.ofNat 0),(Int.ofNat 0),R.me⟩:aa)))=false→(some (v0):OV)=some (v0)∧(Q (iN 0) [o] [] [])))∧((R.me==R.dest)=false→Q (iN 0) [o] [] [])))))))))))∧((decide (R.dest≥(Int.ofNat 0)))=false→Q (iN 1) [o] [] [])))∧((decide (R.me≥(Int.ofNat 0)))=false→Q (iN 1) [o] [] []))))=RF Tryz.prog Wl Tryz.f22 60 Hy ⟨tmsOf [cV R (vS f 0 n c)] 0 .leaf,heapOf [o,.dead] aE,[]⟩ (.h 6 (.tuple #[cN y,.bool self]) [.dead] (.b 9 (.b 18 (.b 24 (.stop 1 [] []) (.b 31 (.b 37 (.stop 1 [] []) (.b 45 (.stop 1 [] []) (.stop 1 [] []))) (.stop 1 [] []))) (.stop 1 [] [])) (.b 18 (.b 24 (.stop 1 [] []) (.b 31 (.b 37 (.stop 1 [] []) (.b 45 (.stop 1 [] []) (.b 54 (.stop 1 [] []) (.h 58 (Iv ck) [.dead] (.b 59 (.stop 1 [] []) (.b 63 (.b 68 (.stop 1 [] []) (.b 73 (.stop 1 [] []) (.b 78 (.stop 1 [] []) (.b 83 (.b 87 (.stop 1 [] []) (.b 95 (.w 106 (!(dH R.own (⟨0,false,(Int.ofNat 0),(Int.ofNat 0),(Int.ofNat 0),(Int.ofNat 0),R.me⟩:aa))) (.stop 1 [] []) (.stop 1 [] [])) (.stop 1 [] []))) (.b 92 (.w 103 (!(dH R.own (⟨0,false,(Int.ofNat 0),(Int.ofNat 0),(Int.ofNat 0),(Int.ofNat 0),R.me⟩:aa))) (.stop 1 [] []) (.stop 1 [] [])) (.stop 1 [] [])))))) (.b 69 (.stop 1 [] []) (.b 74 (.stop 1 [] []) (.b 79 (.b 83 (.stop 1 [] []) (.b 91 (.w 102 (!(dH R.own (⟨0,false,(Int.ofNat 0),(Int.ofNat 0),(Int.ofNat 0),(Int.ofNat 0),R.me⟩:aa))) (.stop 1 [] []) (.stop 1 [] [])) (.stop 1 [] []))) (.b 88 (.w 99 (!(dH R.own (⟨0,false,(Int.ofNat 0),(Int.ofNat 0),(Int.ofNat 0),(Int.ofNat 0),R.me⟩:aa))) (.stop 1 [] []) (.stop 1 [] [])) (.stop 1 [] []))))))))))) (.stop 1 [] []))) (.stop 1 [] [])))) Q:=by cases f <;> (intros;kernel_rfl)
def ACk(R:au)(vs:List aa):List Value→Option Value
 | []=>some (.int .i64 (bif jZ R vs then 0 else 1))
 | _=>none
set_option maxHeartbeats 2000000
theorem Ri(R:au)(vs:List aa)(h0:R.own.id=0)(hn:vs.length<1000000):∀ rest v0,ACk R vs rest=some v0→OJ Tryz.f22 Hy 89 R vs rest v0:=fun rest v0 h=>by
 unfold ACk at h;split at h
 case h_2=>cases h
 cases h;refine ⟨⟨rfl,fun _=>rfl⟩,(by intro r hr; simp at hr),by simp,fun f o c W X ho hrow hfl=>?_⟩
 have T0:∀ {hp:Hp},hp.get 0=some o→TN vs (vS f 0 vs.length c) hp:=fun hg=>gf ho hrow hfl hg
 have hget:∀ {hp:Hp},hp.get 0=some o→pj [vS f 0 vs.length c,.int .i64 R.me] hp=some (.tuple #[cN ((aH vs R.me).getD (zeroV 0)),.bool (aH vs R.me).isSome],heapOf [.dead] hp):=fun hg=>fv (T0 hg).tq hn
 have hck:∀ {hp:Hp},hp.get 0=some o→j6 [vS f 0 vs.length c] hp=some (.int .i64 (bif aF vs then 0 else 1),heapOf [.dead] hp):=fun hg=>by have:=pz (T0 hg) (by unfold Aw; omega); cases h:aF vs <;> rw [h] at this <;> exact this
 refine bh.cq J8 follows Xt (SP f o vs.length c R ((aH vs R.me).getD (zeroV 0)) (aH vs R.me).isSome (aF vs) (bif aF vs then 0 else 1) _) ?_
 unfold jZ z8;generalize (aH vs R.me).isSome=self at *;generalize aF vs=rb at *;refine ⟨hget eY,fun h_9=>⟨fun h_18=>⟨fun h_24=>Q1.of ?_,fun h_24=>⟨fun h_31=>⟨fun h_37=>Q1.of ?_,fun h_37=>⟨fun h_45=>Q1.of ?_,fun h_45=>Q1.of ?_⟩⟩,fun h_31=>Q1.of ?_⟩⟩,fun h_18=>Q1.of ?_⟩,fun h_9=>⟨fun h_18=>⟨fun h_24=>Q1.of ?_,fun h_24=>⟨fun h_31=>⟨fun h_37=>Q1.of ?_,fun h_37=>⟨fun h_45=>Q1.of ?_,fun h_45=>⟨fun h_54=>Q1.of ?_,fun h_54=>⟨hck eY,fun h_59=>Q1.of ?_,fun h_59=>⟨fun h_63=>⟨fun h_68=>Q1.of ?_,fun h_68=>⟨fun h_73=>Q1.of ?_,fun h_73=>⟨fun h_78=>Q1.of ?_,fun h_78=>⟨fun h_83=>⟨fun h_87=>Q1.of ?_,fun h_87=>⟨fun h_95=>⟨Ik R.own (⟨0,false,(Int.ofNat 0),(Int.ofNat 0),(Int.ofNat 0),(Int.ofNat 0),R.me⟩:aa),fun h_106=>⟨rfl,Q1.of ?_⟩,fun h_106=>⟨rfl,Q1.of ?_⟩⟩,fun h_95=>Q1.of ?_⟩⟩,fun h_83=>⟨fun h_92=>⟨Ik R.own (⟨0,false,(Int.ofNat 0),(Int.ofNat 0),(Int.ofNat 0),(Int.ofNat 0),R.me⟩:aa),fun h_103=>⟨rfl,Q1.of ?_⟩,fun h_103=>⟨rfl,Q1.of ?_⟩⟩,fun h_92=>Q1.of ?_⟩⟩⟩⟩⟩,fun h_63=>⟨fun h_69=>Q1.of ?_,fun h_69=>⟨fun h_74=>Q1.of ?_,fun h_74=>⟨fun h_79=>⟨fun h_83=>Q1.of ?_,fun h_83=>⟨fun h_91=>⟨Ik R.own (⟨0,false,(Int.ofNat 0),(Int.ofNat 0),(Int.ofNat 0),(Int.ofNat 0),R.me⟩:aa),fun h_102=>⟨rfl,Q1.of ?_⟩,fun h_102=>⟨rfl,Q1.of ?_⟩⟩,fun h_91=>Q1.of ?_⟩⟩,fun h_79=>⟨fun h_88=>⟨Ik R.own (⟨0,false,(Int.ofNat 0),(Int.ofNat 0),(Int.ofNat 0),(Int.ofNat 0),R.me⟩:aa),fun h_99=>⟨rfl,Q1.of ?_⟩,fun h_99=>⟨rfl,Q1.of ?_⟩⟩,fun h_88=>Q1.of ?_⟩⟩⟩⟩⟩⟩⟩⟩⟩,fun h_31=>Q1.of ?_⟩⟩,fun h_18=>Q1.of ?_⟩⟩
 all_goals (clear hget hck T0 hrow hfl ho; (try simp only [jv,Bool.not_eq_true',Bool.not_eq_false'] at *); cases rb <;> first | (simp only [*,Bool.not_true,Bool.not_false,Bool.and_true,Bool.true_and,Bool.false_and,Bool.and_false,cond_true,cond_false]; done) | (simp only [*,Bool.not_true,Bool.not_false,Bool.and_true,Bool.true_and,Bool.false_and,Bool.and_false,cond_true,cond_false]; rfl) | (clear h0; simp_all; done) | (clear h0; simp_all <;> omega; done) | (clear h0; simp_all; rfl) | (clear h0; simp_all; have e1:decide (R.last<0)=false:=decide_eq_false (by omega); have e2:decide (65535<R.last)=false:=decide_eq_false (by omega); (try rw [beq_eq_false_iff_ne.2 (by assumption)]); (try simp only [decide_eq_false (show ¬ 0<R.last by omega)]); simp [e1,e2, *]; rfl))
noncomputable def lM:aB:=toldC ACk
theorem TH:aq Tryz.prog 22 lM:=yL Tryz.func22 K3 (by kernel_rfl) Ud fun R vs h0 hn=>Ri R vs h0 hn
theorem fX{R:au}{vs:List aa}{s:Value}{hp:Hp}(h0:R.own.id=0)(h:TN vs s hp)(hn:vs.length<1000000):lM [cV R s] hp=some (.int .i64 (bif jZ R vs then 0 else 1),heapOf [.dead] hp):=FU h0 h hn rfl
set_option maxHeartbeats 2000000
end Go.Proofs.YtgeoommlmddgpaaGreat.LtL
namespace Go.Proofs.YtgeoommlmddgpaaGreat.AI
open Go Go.Proofs Go.RowKit
structure As (K0:Ks) (B:Nat) (O' Nw':List ae) (v':Value) (g:HG) (v:Value) (O:List ae) (K:List Nat) (Nw:List ae):Prop where
 okv:gz v=true
 oko:O.all cZ=true
 nd:nodupB K=true
 len:O.length=K0.length
 plc:∃ r Nq Kq,nodupP r=true∧placed Nw K r=some (Nq,Kq)∧(∀ (j c:Nat) (o:ae),Kq[j]? = some (some c)→Nq[j]? = some o→cZ o=true∧nT o=true)∧Cf K0 O' Kq∧v'=mv3 (sgE K0 Kq B) v∧(∀ (i b:Nat),K0[i]? = some (some (b,true))→O'[i]? = (O[i]?).map (mvB (sgE K0 Kq B))∨O'[i]? = some .dead)∧Nw'=Nq.map (mvB (sgE K0 Kq B))
 ro:∀ (i b:Nat),K0[i]? = some (some (b,false))→O[i]? = some .dead→g b=some .dead
theorem As.fin{P:Program}{fn:Func}{K0:Ks}{B:Nat}{O Nw:List ae}{v:Value}{g:HG}{e:Exit}{st:St}(h:ft P fn (As K0 B O Nw v g) e st) :
  (e = .normal∨e = .ret)∧st.df = []∧∃ v0 K,retVal P fn st=some v0∧gz v0=true∧Nw.length=K.length∧gW K∧Cf K0 O K∧rN K0 K B O Nw v v0 st.hp.get g:=by
 obtain ⟨h1,h2,v0,z,O0,K,N0,h3,h4,h5,q⟩:=h;obtain ⟨l1,g1⟩:=gJ h4;obtain ⟨l2,g2⟩:=gJ h5;have n1:=q.nd
 obtain ⟨r,Nq,Kq,r1,r2,r0,rk,r3,r4,rfl⟩:=q.plc;obtain ⟨p1,p2,p3⟩:=jH g2 r2;simp only at p1 p2 p3;have hz:z=K0.length:=by have:=q.len; simp at l1; omega
 subst hz;refine ⟨h1,h2,v0,Kq,h3,q.okv,by simp [p1],fun i j c hi hj=>?_,rk,r3,fun i b hi=>?_,fun i b hi hdd=>?_,fun j c hc=>?_⟩
 ·obtain ⟨a,oa,a1,a2,_⟩:=p3 i c hi
  obtain ⟨b,ob,b1,b2,_⟩:=p3 j c hj;have:=ln n1 a2 b2
  subst this;exact lk r1 i j a a1 b1
 ·have hlt:i<K0.length:=(List.getElem?_eq_some_iff.1 hi).1
  obtain ⟨o,p1,p2⟩:=g1 i i (by simp [hlt])
  refine ⟨o,p1,List.all_eq_true.1 q.oko o (List.mem_of_getElem? p2),?_⟩
  rcases r4 i b hi with h | h
  ·exact .inl (by rw [h,p2]; rfl)
  ·exact .inr h
 ·have hlt:i<K0.length:=(List.getElem?_eq_some_iff.1 hi).1
  obtain ⟨o,p1,p2⟩:=g1 i i (by simp [hlt])
  refine q.ro i b hi ?_
  rw [p1] at hdd;rw [p2]; exact hdd
 ·obtain ⟨i,o,_,_,a3,a4,a5⟩:=p3 j c hc
  obtain ⟨r1,r2⟩:=r0 j c o hc a4;exact ⟨o,a3,r1,r2,by rw [List.getElem?_map,a4]; rfl⟩
def bv(f:Bool)(o:ae):ae:=bif f then o else .dead
def uW(tr:Nat→Bool)(z:Nat)(Of:Nat→Nat→List ae)(mk:Nat→Nat→Value)(f1 f2:Bool)(B1 B2:ae):Value→List ae→List Nat→List ae→Prop:=fun v O K Nw =>
 nodupB K=true∧∃ b1 b2,v=mk b1 b2∧O=Of b1 b2∧(f1=true→f2=true→b1≠b2)∧(f1=true→(Nat.ble z b1||tr b1)=true∧∃ i:Nat,K[i]? = some b1∧Nw[i]? = some (bv f1 B1))∧(f2=true→(Nat.ble z b2||tr b2)=true∧∃ i:Nat,K[i]? = some b2∧Nw[i]? = some (bv f2 B2))
theorem wN{b1 b2:Nat}(h:b1≠b2):posN b2 [some b1,some b2] 0=some 1:=by
 unfold posN;have h1:Nat.beq b1 b2=false:=by cases e:Nat.beq b1 b2 with
  | false=>rfl
  | true=>exact absurd (Nat.eq_of_beq_eq_true e) h
 rw [h1];simp only;unfold posN;rw [Nat.beq_refl]
theorem nt{b1:Nat}{r:Kw}:posN b1 (some b1::r) 0=some 0:=by
 unfold posN; rw [Nat.beq_refl]
theorem wM{b2:Nat}:posN b2 [none,some b2] 0=some 1:=by
 unfold posN; unfold posN; rw [Nat.beq_refl]
theorem uW.end{tr:Nat→Bool}{K0:Ks}{B:Nat}{O':List ae}{v':Value}{g:HG}{Of:Nat→Nat→List ae}{mk:Nat→Nat→Value}{f1 f2:Bool}{B1 B2:ae}{v:Value}{O:List ae}{K:List Nat}{Nw:List ae}(q:uW tr K0.length Of mk f1 f2 B1 B2 v O K Nw)
  (htr:∀ b,tr b=true→∃ c,K0[b]? = some (some (c,true))∧O'[b]? = some .dead)
  (okv:∀ b1 b2,gz (mk b1 b2)=true) (oko:∀ b1 b2,(Of b1 b2).all cZ=true) (len:∀ b1 b2,(Of b1 b2).length=K0.length)
  (hmv:∀ (s:Nat→Nat) b1 b2,(f1=true→s b1=B)→(f2=true→s b2=B+1)→(∀ (i b:Nat) (wr:Bool),K0[i]? = some (some (b,wr))→tr i=false→s i=b)→mv3 s (mk b1 b2)=v')
  (hO:∀ (s:Nat→Nat) b1 b2,(f1=true→s b1=B)→(f2=true→s b2=B+1)→(∀ (i b:Nat) (wr:Bool),K0[i]? = some (some (b,wr))→tr i=false→s i=b)→∀ (i b:Nat),K0[i]? = some (some (b,true))→O'[i]? = ((Of b1 b2)[i]?).map (mvB s)∨O'[i]? = some .dead)
  (h1:∀ s,mvB s B1=B1) (h1o:cZ B1=true) (h1r:nT B1=true) (h2:∀ s,mvB s B2=B2) (h2o:cZ B2=true) (h2r:nT B2=true)
  (ro:∀ b1 b2 (i b:Nat),K0[i]? = some (some (b,false))→(Of b1 b2)[i]? = some .dead→g b=some .dead):As K0 B O' [bv f1 B1,bv f2 B2] v' g v O K Nw:=by
 obtain ⟨nd,b1,b2,rfl,rfl,hne,p1,p2⟩:=q;have hdd:∀ s:Nat→Nat,mvB s .dead = .dead:=fun _=>rfl
 have hge:∀ {b:Nat},(Nat.ble K0.length b||tr b)=true→K0.length≤b∨∃ c,K0[b]? = some (some (c,true))∧O'[b]? = some .dead:=fun {b} h=>by
  rcases Bool.or_eq_true_iff.1 h with h | h
  ·exact .inl (by simpa [Nat.ble_eq] using h)
  ·exact .inr (htr b h)
 have hold:∀ (Kq:Kw),(∀ c,some c∈Kq→(Nat.ble K0.length c||tr c)=true)→∀ (i b:Nat) (wr:Bool),K0[i]? = some (some (b,wr))→tr i=false→sgE K0 Kq B i=b:=fun Kq hKq i b wr h ht=>by
  unfold sgE;cases hp:posN i Kq 0 with
  | none=>simp only [h]
  | some j =>
    obtain ⟨k,-,hk⟩:=lu hp;have:=hKq i (List.mem_of_getElem? hk)
    rw [ht,Bool.or_false] at this;have hl:=(List.getElem?_eq_some_iff.1 h).1
    have:K0.length≤i:=by simpa [Nat.ble_eq] using this
    omega
 have hnew:∀ (Kq:Kw) {b j:Nat},posN b Kq 0=some j→sgE K0 Kq B b=B+j:=fun Kq {b j} hp=>by
  unfold sgE; rw [hp]
 refine ⟨okv _ _,oko _ _,nd,len _ _,?_,ro _ _⟩
 cases f1 with
 | true =>
   obtain ⟨t1,i1,k1,n1⟩:=p1 rfl;cases f2 with
   | true =>
     obtain ⟨t2,i2,k2,n2⟩:=p2 rfl;have hb:=hne rfl rfl
     have hi:i1≠i2:=fun e=>by subst e; rw [k1] at k2; cases k2; exact hb rfl
     have hK:∀ c,some c∈[some b1,some b2]→(Nat.ble K0.length c||tr c)=true:=fun c hc=>by
       simp at hc;rcases hc with rfl | rfl <;> assumption
     refine ⟨[some i1,some i2],[B1,B2],[some b1,some b2],?_,?_,?_,fun c hc=>hge (hK c hc),?_,?_,?_⟩
     ·have:Nat.beq i1 i2=false:=by cases e:Nat.beq i1 i2 with
         | false=>rfl
         | true=>exact absurd (Nat.eq_of_beq_eq_true e) hi
      simp [nodupP,this]
     ·simp [placed,n1,n2,k1,k2,bv]
     ·intro j c o hc ho
      match j with
      | 0=>simp at ho; subst ho; exact ⟨h1o,h1r⟩
      | 1=>simp at ho; subst ho; exact ⟨h2o,h2r⟩
      | j+2=>simp at ho
     ·exact (hmv _ b1 b2 (fun _=>hnew _ nt) (fun _=>hnew _ (wN hb)) (hold _ hK)).symm
     ·exact hO _ b1 b2 (fun _=>hnew _ nt) (fun _=>hnew _ (wN hb)) (hold _ hK)
     ·simp [bv,h1,h2]
   | false =>
     have hK:∀ c,some c∈[some b1,none]→(Nat.ble K0.length c||tr c)=true:=fun c hc=>by
       simp at hc;subst hc; exact t1
     refine ⟨[some i1,none],[B1,.dead],[some b1,none],?_,?_,?_,fun c hc=>hge (hK c hc),?_,?_,?_⟩
     ·simp [nodupP]
     ·simp [placed,n1,k1,bv]
     ·intro j c o hc ho
      match j with
      | 0=>simp at ho; subst ho; exact ⟨h1o,h1r⟩
      | 1=>simp at hc
      | j+2=>simp at ho
     ·exact (hmv _ b1 b2 (fun _=>hnew _ nt) (fun h=>by cases h) (hold _ hK)).symm
     ·exact hO _ b1 b2 (fun _=>hnew _ nt) (fun h=>by cases h) (hold _ hK)
     ·simp [bv,h1,hdd]
 | false =>
   cases f2 with
   | true =>
     obtain ⟨t2,i2,k2,n2⟩:=p2 rfl;have hK:∀ c,some c∈[none,some b2]→(Nat.ble K0.length c||tr c)=true:=fun c hc=>by
       simp at hc;subst hc; exact t2
     refine ⟨[none,some i2],[.dead,B2],[none,some b2],?_,?_,?_,fun c hc=>hge (hK c hc),?_,?_,?_⟩
     ·simp [nodupP]
     ·simp [placed,n2,k2,bv]
     ·intro j c o hc ho
      match j with
      | 0=>simp at hc
      | 1=>simp at ho; subst ho; exact ⟨h2o,h2r⟩
      | j+2=>simp at ho
     ·exact (hmv _ b1 b2 (fun h=>by cases h) (fun _=>hnew _ wM) (hold _ hK)).symm
     ·exact hO _ b1 b2 (fun h=>by cases h) (fun _=>hnew _ wM) (hold _ hK)
     ·simp [bv,h2,hdd]
   | false =>
     have hK:∀ c,some c∈[(none:Option Nat),none]→(Nat.ble K0.length c||tr c)=true:=fun c hc=>by simp at hc
     refine ⟨[none,none],[.dead,.dead],[none,none],rfl,rfl,?_,fun c hc=>hge (hK c hc),?_,?_,?_⟩
     ·intro j c o hc ho
      match j with
      | 0=>simp at hc
      | 1=>simp at hc
      | j+2=>simp at ho
     ·exact (hmv _ b1 b2 (fun h=>by cases h) (fun h=>by cases h) (hold _ hK)).symm
     ·exact hO _ b1 b2 (fun h=>by cases h) (fun h=>by cases h) (hold _ hK)
     ·simp [bv,hdd]
def Qf:Nat→Bool:=fun _=>false
abbrev Ke(z:Nat)(Of:Nat→Nat→List ae)(mk:Nat→Nat→Value)(f1 f2:Bool)(B1 B2:ae):Value→List ae→List Nat→List ae→Prop:=uW Qf z Of mk f1 f2 B1 B2
theorem z6{K0:Ks}{O':List ae}(b:Nat)(h:Qf b=true):∃ c,K0[b]? = some (some (c,true))∧O'[b]? = some .dead:=by cases h
end Go.Proofs.YtgeoommlmddgpaaGreat.AI
namespace Go.Proofs.YtgeoommlmddgpaaGreat.LtL
open Go Go.Proofs Go.Proofs.YtgeoommlmddgpaaGreat.AI Go.RowKit Go.Proofs.YtgeoommlmddgpaaGreat.Sort Go.Proofs.YtgeoommlmddgpaaGreat.LtA
def zL:aQ:=(0,0,0)
def zR:au:=⟨0,0,zH,false,false,false,0⟩
structure TS where
 R:au
 vs:List aa
 f:Bool
 c:Nat
 out:List bb
 e:Int
def c2(f:Bool):Nat:=bif f then 22 else 0
namespace TS
def send(T:TS)(to kind:Int)(h:aa)(l:aQ)(num:Int):TS:=⟨T.R,T.vs,T.f,T.c,T.out ++ [⟨to,kind,T.R.dest,h,l,num⟩],T.e⟩
def tell(T:TS)(to:Int):TS:=T.send to 2 T.R.own zL 0
def own(T:TS)(h:aa):TS:=⟨⟨T.R.me,T.R.dest,h,T.R.asked,T.R.want,T.R.heard,T.R.last⟩,T.vs,T.f,T.c,T.out,T.e⟩
def ask(T:TS)(b:Bool):TS:=⟨⟨T.R.me,T.R.dest,T.R.own,b,T.R.want,T.R.heard,T.R.last⟩,T.vs,T.f,T.c,T.out,T.e⟩
def s8(T:TS)(b:Bool):TS:=⟨⟨T.R.me,T.R.dest,T.R.own,T.R.asked,b,T.R.heard,T.R.last⟩,T.vs,T.f,T.c,T.out,T.e⟩
def zx(T:TS)(k:Int):TS:=⟨⟨T.R.me,T.R.dest,T.R.own,T.R.asked,T.R.want,true,k⟩,T.vs,T.f,T.c,T.out,T.e⟩
def err(T:TS)(e:Int):TS:=⟨T.R,T.vs,T.f,T.c,T.out,e⟩
def home(T:TS):Bool:=T.R.me==T.R.dest
def sU(T:TS)(a:aa×Int):TS:=bif a.2==Int.ofNat 0 then ((T.own a.1).ask false).tell 255 else bif a.2==Int.ofNat 7 then (bif !T.R.asked then (T.ask true).send 255 1 zH zL 0 else T) else T.err a.2
def ga(T:TS):TS:=T.sU (bW T.R.me T.vs)
def dS(T:TS):TS:=bif T.R.own.n&&(T.R.want&&(!T.R.asked && !T.home)) then T.ga else T
def forget(T:TS)(l:aQ):TS:=⟨T.R,T.vs.map (kv l.1 l.2.1 l.2.2 T.R.dest),T.f,c2 T.f,T.out,T.e⟩
def clear(T:TS)(to:Int)(l:aQ):TS:=T.send to 3 zH l 0
def vY(T:TS)(r:BF)(l:aQ):TS:=bif r.2.2 != Int.ofNat 0 then T.err r.2.2 else bif r.2.1==Int.ofNat 0 then T else
 bif r.2.1==Int.ofNat 4 then (((((T.own r.1).tell 255).forget l).clear 255 l)).dS else ((T.own r.1).tell 255).dS
def A7(T:TS):aQ:=(bG (aT T.vs)).headD zL
def keep(T:TS)(now:Int)(lost:Bool):TS:=bif T.home||T.R.own.n then T else T.vY (bJ T.R.own T.vs now lost) T.A7
def rZ(T:TS)(now:Int):TS:=bif T.R.own.n then T.dS else T.keep now true
def set(T:TS)(y:aa):TS:=⟨T.R,cr T.vs y,true,(bif T.f then (bif fnd T.vs y.id then 22 else 23) else 22),T.out,0⟩
def Ao(T:TS)(y:aa)(now:Int):TS:=bif (T.set y).home then T.set y else bif !(T.set y).R.own.n then (T.set y).keep now false else bif (T.set y).R.asked then (T.set y).ga else (T.set y).dS
def BL(dest:Int)(l:aQ)(id:Int):bb:=⟨id,3,dest,zH,l,0⟩
def xM(T:TS)(ids:List Int)(l:aQ):TS:=⟨T.R,T.vs,T.f,T.c,T.out++ids.map (BL T.R.dest l),T.e⟩
def nv(T:TS)(k:Int):TS:=(T.zx k).send 255 4 T.R.own zL k
end TS
def na(e:Int):TS:=⟨zR,[],false,0,[],e⟩
def kq(R:au)(f:Bool)(vs:List aa):TS:=⟨R,vs,f,c2 f,[],0⟩
def bf(id:Int)(h:aa):aa:=⟨id,h.n,h.t,h.o,h.r,h.d,h.i⟩
def oF(l:List bb):Bool:=!l.isEmpty
def wF(l:List bb):ae:=.cells 50 (l.flatMap oc) false
def pr(T:TS)(b1 b2:Nat):Value:=.tuple #[cV T.R (vS T.f b1 T.vs.length T.c),vS (oF T.out) b2 T.out.length 40,.int .i64 T.e]
def cD(o:ae)(T:TS):Value→List ae→List Nat→List ae→Prop:=Ke 1 (fun _ _=>[o]) (pr T) T.f (oF T.out) (LtA.ab T.vs) (wF T.out)
def eT:Value→Bool
 | .slice none _ _=>false
 | _=>true
theorem pP{f:Bool}{b n c:Nat}:eT (vS f b n c)=f:=by cases f <;> rfl
theorem wz(l:List bb):(l.flatMap oc).all inert=true:=by
 rw [List.all_flatMap];exact List.all_eq_true.2 fun p _=>rfl
theorem qM(l:List bb):aD (wF l)=true:=wz l
theorem rE(f:Bool)(b n c:Nat):nice1 (vS f b n c)=true:=by cases f <;> rfl
theorem qH(s:Nat→Nat)(f:Bool)(b n c:Nat):mv1 s (vS f b n c)=vS f (s b) n c:=by cases f <;> rfl
theorem yQ{f:Bool}{b b' n c:Nat}(h:f=true→b=b'):vS f b n c=vS f b' n c:=by
 cases f with
 | false=>rfl
 | true=>rw [h rfl]
theorem GO(T:TS)(b1 b2:Nat):gz (pr T b1 b2)=true:=by
 unfold pr;generalize T.f=f;generalize oF T.out=g;cases f <;> cases g <;> rfl
theorem GN(T:TS)(s:Nat→Nat)(b1 b2:Nat):mv3 s (pr T b1 b2)=pr T (s b1) (s b2):=by
 unfold pr;generalize T.f=f;generalize oF T.out=g;cases f <;> cases g <;> simp [mv3,mv2,mv1,cV,fG,vS,af,ax]
structure RunT (fn:Func) (code:Code) (N:Nat) (R:au) (f:Bool) (vs:List aa) (rest:List Value) (T:TS):Prop where
 flat:∀ r∈rest,eH r
 len:rest.length+1≤N
 run:∀ o c W X,aD o=true→(vs = []∨∃ ty ro,o = .cells ty (aI vs) ro)→(f=false→vs = []∧o = .dead) →
  bh Tryz.prog N W 1 X code ⟨tmsOf (cV R (vS f 0 vs.length c)::rest) 0 .leaf,heapOf [o,.dead] aE,[]⟩ (ft Tryz.prog fn (cD o T))
open Classical in
noncomputable def toldT(A:au→Bool→List aa→List Value→Option TS):aB:=fun args hp=>match args with
 | a::rest=>match unR a with
   | some (R,s)=>if h:∃ vs,TN vs s hp∧vs.length<1000000 then (A R (eT s) h.choose rest).map fun T=>(pr T hp.sz (hp.sz+1),heapOf [bv T.f (LtA.ab T.vs),bv (oF T.out) (wF T.out),.dead] hp) else none
   | none=>none
 | _=>none
theorem yO{A:au→Bool→List aa→List Value→Option TS}{f:FuncId}{fn:Func}{code:Code}{N:Nat}(hf:Tryz.prog.funcs[f]? = some fn)(hb:fn.body=some code)(hnm:(fn.name == "runtime.NumGoroutine")=false)(hN:fn.ntmps=N)
  (H:∀ R f vs,R.own.id=0→vs.length<1000000→∀ rest T,A R f vs rest=some T→RunT fn code N R f vs rest T):aq Tryz.prog f (toldT A):=jf follows hf hb hnm fun args hp v hp' h hk=>by
 rw [hN];unfold toldT at h;split at h
 case h_2=>cases h
 rename_i a rest;split at h
 case h_2=>cases h
 rename_i R s ha;obtain ⟨rfl,h0⟩:=rD ha;split at h
 case isFalse=>cases h
 rename_i hx;obtain ⟨hT,hn⟩:=hx.choose_spec;generalize hx.choose=vs at *;obtain ⟨T,hA,h2⟩:=Option.map_eq_some_iff.1 h;cases h2;have RR:=H R _ vs h0 hn _ T hA
 have key:∀ (K0:Ks) (f:Bool) (o:ae) (c:Nat),eT s=f→K0.length=1→dz K0→mv1 (fV K0) s=vS f 0 vs.length c→di K0 hp=heapOf [o,.dead] aE→aD o=true→(vs = []∨∃ ty ro,o = .cells ty (aI vs) ro)→(f=false→vs = []∧o = .dead)→nice1 s=true →
    (∀ (i b:Nat) (wr:Bool),K0[i]? = some (some (b,wr))→(∃ o,hp.get b=some o∧(wr=true→o≠.dead)∧bP o=true)∧sf (cV R s::rest) hp b∧wr=false∧(o = .dead→hp.get b=some .dead)) →
    ∃ (K0:Ks) (O Nw:List ae),heapOf [bv T.f (LtA.ab T.vs),bv (oF T.out) (wF T.out),.dead] hp=heapOf (Nw ++ [.dead]) (putO K0 O hp)∧dz K0 ∧
    (∀ (i b:Nat) (wr:Bool),K0[i]? = some (some (b,wr))→(∃ o,hp.get b=some o∧(wr=true→o≠.dead)∧bP o=true)∧sf (cV R s::rest) hp b)∧(cV R s::rest).all gz=true∧(cV R s::rest).length≤N ∧
    ∀ W X,bh Tryz.prog N W K0.length X code ⟨tmsOf ((cV R s::rest).map (mv3 (fV K0))) 0 .leaf,di K0 hp,[]⟩ fun e st=>(e = .normal∨e = .ret)∧st.df = []∧∃ v0 K,retVal Tryz.prog fn st=some v0∧gz v0=true∧Nw.length=K.length∧gW K∧Cf K0 O K∧rN K0 K hp.sz O Nw (pr T hp.sz (hp.sz+1)) v0 st.hp.get hp.get:=by
  intro K0 f o c hf rX hnd he hpn hi hr hfl hok hst;refine ⟨K0,[o],[bv T.f (LtA.ab T.vs),bv (oF T.out) (wF T.out)],?_,hnd,fun i b wr hi=>⟨(hst i b wr hi).1,(hst i b wr hi).2.1⟩,?_,by have:=RR.len; simpa using this,fun W X=>?_⟩
  ·have e:putO K0 [o] hp=hp:=by
      match K0,rX with
      | [none],_=>rfl
      | [some (b,false)],_=>rfl
      | [some (b,true)],_=>exact absurd (hst 0 b true rfl).2.2.1 (by decide)
   rw [e]; rfl
  ·rw [List.all_cons,Bool.and_eq_true]
   refine ⟨?_,List.all_eq_true.2 fun x hx=>(RR.flat x hx).1⟩
   simp [gz,ok2,cV,fG,nice1];exact hok
  ·have ea:(cV R s::rest).map (mv3 (fV K0))=cV R (vS f 0 vs.length c)::rest:=by
      rw [List.map_cons,lj RR.flat,← he];simp [mv3,mv2,mv1,cV,fG]
   rw [ea,hpn,rX];rw [hf] at RR;refine bh.mono (RR.run o c W X hi hr hfl) fun e st q=>?_
   have:=As.fin (K0:=K0) (B:=hp.sz) (O:=[o]) (Nw:=[bv T.f (LtA.ab T.vs),bv (oF T.out) (wF T.out)]) (v:=pr T hp.sz (hp.sz+1)) (g:=hp.get) (fn:=fn) (P:=Tryz.prog) (e:=e) (st:=st) (by
     obtain ⟨q1,q2,v1,z,O,K,Nw,q3,q4,q5,q6⟩:=q;refine ⟨q1,q2,_,z,_,_,_,q3,q4,q5,?_⟩
     unfold cD at q6;rw [← rX] at q6;refine uW.end q6 z6 (fun _ _=>GO _ _ _) (fun _ _=>by simp [bN (vs:=vs) hi]) (fun _ _=>by simp [rX]) (fun s b1 b2 h1 h2 _=>?_) (fun s b1 b2 _ _ _ i b hi'=>.inl ?_) (fun s=>bQ (aw _)) (bN (vs:=vs) (aw _)) rfl (fun s=>bQ (qM _)) (bN (vs:=vs) (qM _)) rfl fun _ _ i b hi' hdd=>?_
     ·rw [GN]
      unfold pr;rw [yQ (b':=hp.sz) h1,yQ (b:=s b2) (b':=hp.sz+1) h2]
     ·exact absurd (hst i b true hi').2.2.1 (by decide)
     ·have h0:i=0:=by have:=(List.getElem?_eq_some_iff.1 hi').1; omega
      subst h0;exact (hst 0 b false hi').2.2.2 (by simpa using hdd))
   exact this
 rcases hT with ⟨rfl,rfl⟩ | ⟨b,c,ob,rfl,hb,hi,hr⟩
 ·exact key [none] false .dead 0 rfl rfl (fun i j b wr wr' h1 h2=>by cases i <;> simp at h1) rfl rfl rfl (.inl rfl) (fun _=>⟨rfl,rfl⟩) rfl (fun i b wr h=>by cases i <;> simp at h)
 ·have e1:fV [some (b,false)] b=0:=by simp [fV,posO,Nat.beq_refl]
  refine key [some (b,false)] true (roBlk ob) c rfl rfl (fun i j b wr wr' h1 h2=>?_) ?_ ?_ (bT hi) (eC hr) (fun h=>by cases h) rfl (fun i b' wr h=>?_)
  ·have:=(List.getElem?_eq_some_iff.1 h1).1
   have:=(List.getElem?_eq_some_iff.1 h2).1
   simp at *; omega
  ·simp [mv1,af,vS,e1]
  ·unfold di
   simp [pinB,hb,bQ hi,eD]
  ·have h0:i=0:=by have:=(List.getElem?_eq_some_iff.1 h).1; simpa using this
   subst h0;simp at h;obtain ⟨rfl,rfl⟩:=h;refine ⟨⟨ob,hb,(fun h=>by cases h),aY hi⟩,.arg (.head _) (by simp [j7,jD,af,cV,fG]),rfl,?_⟩
   intro h;cases ob <;> first | exact hb | cases h
theorem FX{A:au→Bool→List aa→List Value→Option TS}{R:au}{f:Bool}{vs:List aa}{s:Value}{rest:List Value}{hp:Hp}{T:TS}(h0:R.own.id=0)(hf:eT s=f)(h:TN vs s hp)(hn:vs.length<1000000)(hA:A R f vs rest=some T) :
  toldT A (cV R s::rest) hp=some (pr T hp.sz (hp.sz+1),heapOf [bv T.f (LtA.ab T.vs),bv (oF T.out) (wF T.out),.dead] hp):=by
 unfold toldT;have hx:∃ vs,TN vs s hp∧vs.length<1000000:=⟨vs,h,hn⟩
 simp only [uO h0];rw [dif_pos hx,hx.choose_spec.1.uniq h,hf,hA];rfl
def ct(R:au)(s:Value)(aM:List Value)(out:Value)(e:Int):List Value:=fG R s++(aM ++ [out,.int .i64 e])
def gd(aM:List Value):Prop:=aM = []∨∃ now,aM = [.int .i64 now]
structure mE where
 R:au
 f:Bool
 vs:List aa
 c:Nat
 e:Int
 k:Bool
 f2:Bool
 n2:Nat
 c2:Nat
 B2:ae
def mE.ok(r:mE):Prop:=aD r.B2=true∧nT r.B2=true
def mE.cells(r:mE)(aM:List Value)(out:Value)(b1 b2:Nat):List Value:=ct r.R (vS r.f b1 r.vs.length r.c) aM (bif r.k then out else vS r.f2 b2 r.n2 r.c2) r.e
def mE.Jd(r:mE)(b2:Nat):Value:=bif r.k then vS r.f2 b2 r.n2 r.c2 else .tuple #[]
def QW(TT:TypeId)(r:mE)(aM:List Value)(out:Value)(o p:ae):Value→List ae→List Nat→List ae→Prop:=Ke 3 (fun b1 b2=>[.cells TT (r.cells aM out b1 b2) false,o,p]) (fun _ b2=>r.Jd b2) r.f r.f2 (LtA.ab r.vs) r.B2
structure OL (TT:TypeId) (fn:Func) (code:Code) (N:Nat) (R:au) (f:Bool) (vs:List aa) (aM:List Value) (fo:Bool) (e:Int) (rest:List Value) (r:mE):Prop where
 flat:∀ x∈rest,eH x
 len:rest.length+1≤N
 ok:r.ok
 run:∀ o c p no co W X,aD o=true→(vs = []∨∃ ty ro,o = .cells ty (aI vs) ro)→(f=false→vs = []∧o = .dead)→aD p=true→(fo=false→p = .dead) →
  bh Tryz.prog N W 3 X code ⟨tmsOf (pb 0 0::rest) 0 .leaf,heapOf [.cells TT (ct R (vS f 1 vs.length c) aM (vS fo 2 no co) e) false,o,p,.dead] aE,[]⟩ (ft Tryz.prog fn (QW TT r aM (vS fo 2 no co) o p))
def lO(s out:Value)(hp:Hp):Prop:=out=ax∨∃ b n c p,out=af b n c∧hp.get b=some p∧aD p=true∧∀ b' n' c',s=af b' n' c'→b'≠b
def unC:List Value→Option (au×Value)
 | [.int .i64 me,.int .i64 dest,.bool n,.int .i64 t,.int .i64 o,.int .i64 r,.int .i64 d,.int .i64 i,s,.bool a,.bool w,.bool h,.int .i64 l]=>some (⟨me,dest,⟨0,n,t,o,r,d,i⟩,a,w,h,l⟩,s)
 | _=>none
def unE:List Value→Option (List Value×Value×Int)
 | [a,out,x]=>match a,x with
   | .int .i64 now,.int .i64 e=>some ([.int .i64 now],out,e)
   | _,_=>none
 | [out,x]=>match x with
   | .int .i64 e=>some ([],out,e)
   | _=>none
 | _=>none
def unW(cs:List Value):Option (au×Value×List Value×Value×Int):=match unC (cs.take 13),unE (cs.drop 13) with
 | some (R,s),some (aM,out,e)=>some (R,s,aM,out,e)
 | _,_=>none
theorem F5{R:au}{s out:Value}{aM:List Value}{e:Int}(h0:R.own.id=0)(hm:gd aM):unW (ct R s aM out e)=some (R,s,aM,out,e):=by
 obtain ⟨me,dest,⟨id,n,t,o,r,d,i⟩,a,w,h,l⟩:=R;simp only at h0;subst h0;rcases hm with rfl | ⟨now,rfl⟩ <;> rfl
theorem xh{cs:List Value}{R:au}{s out:Value}{aM:List Value}{e:Int}(h:unW cs=some (R,s,aM,out,e)):cs=ct R s aM out e∧R.own.id=0∧gd aM:=by
 unfold unW at h;split at h
 case h_2=>cases h
 rename_i R' s' mid' out' e' h1 h2;cases h;rw [← List.take_append_drop 13 cs];generalize cs.take 13=A at *;generalize cs.drop 13=B at *;have k1:A=fG R s∧R.own.id=0:=by
  unfold unC at h1;split at h1
  ·cases h1; exact ⟨rfl,rfl⟩
  ·cases h1
 have k2:B=aM ++ [out,.int .i64 e]∧gd aM:=by
  unfold unE at h2;split at h2
  ·split at h2
   ·cases h2; exact ⟨rfl,.inr ⟨_,rfl⟩⟩
   ·cases h2
  ·split at h2
   ·cases h2; exact ⟨rfl,.inl rfl⟩
   ·cases h2
  ·cases h2
 obtain ⟨rfl,k3⟩:=k1;obtain ⟨rfl,k4⟩:=k2;exact ⟨rfl,k3,k4⟩
abbrev Gp:=au→Bool→List aa→List Value→Bool→Int→List Value→Option mE
open Classical in
noncomputable def toldW(TT:TypeId)(A:Gp):aB:=fun args hp=>match args with
 | .pointer (some ⟨t,0,none⟩)::rest=>match hp.get t with
   | some (.cells ty cs false)=>match unW cs with
     | some (R,s,aM,out,e)=>if h:ty=TT∧lO s out hp∧∃ vs,TN vs s hp∧vs.length<1000000 then (A R (eT s) h.2.2.choose aM (eT out) e rest).map fun r=>(r.Jd (hp.sz+1),heapOf [bv r.f (LtA.ab r.vs),bv r.f2 r.B2,.dead] (hp.put t (.cells TT (r.cells aM out hp.sz (hp.sz+1)) false))) else none
     | none=>none
   | _=>none
 | _=>none
theorem wu{aM:List Value}(h:gd aM):(∀ s,aM.map (mv2 s)=aM)∧(∀ x∈aM,ok2 x=true)∧(aM.flatMap j7 = [])∧aM.all inert=true:=by
 rcases h with rfl | ⟨now,rfl⟩
 ·exact ⟨fun _=>rfl,fun x hx=>by simp at hx,rfl,rfl⟩
 ·exact ⟨fun _=>rfl,fun x hx=>by simp at hx; subst hx; rfl,rfl,rfl⟩
theorem zZ{out:Value}(s:Nat→Nat)(h:nice1 out=true):mv2 s out=mv1 s out:=by cases out <;> first | rfl | cases h
theorem uK{R:au}{s out:Value}{aM:List Value}{e:Int}(hm:gd aM)(hs:nice1 s=true)(ho:nice1 out=true)(g:Nat→Nat):(ct R s aM out e).map (mv2 g)=ct R (mv1 g s) aM (mv1 g out) e:=by
 unfold ct fG;rw [List.map_append,List.map_append,(wu hm).1];simp only [List.map_cons,List.map_nil,zZ g hs,zZ g ho];rfl
theorem uL{R:au}{s out:Value}{aM:List Value}{e:Int}(hm:gd aM)(hs:nice1 s=true)(ho:nice1 out=true):(ct R s aM out e).all ok2=true:=by
 have h2:∀ {v:Value},nice1 v=true→ok2 v=true:=fun {v} h=>by cases v <;> first | rfl | exact h | cases h
 unfold ct fG;rw [List.all_append,List.all_append,List.all_eq_true.2 (wu hm).2.1];simp only [List.all_cons,List.all_nil,h2 hs,h2 ho];rfl
theorem xe{R:au}{s out:Value}{aM:List Value}{e:Int}:keysBox (ct R s aM out e)=false:=rfl
theorem jU{R:au}{s out:Value}{aM:List Value}{e:Int}:s∈ct R s aM out e∧out∈ct R s aM out e:=by
 unfold ct fG;simp
theorem GM{vs:List aa}{s:Value}{hp:Hp}(h:TN vs s hp):nice1 s=true:=by
 rcases h with ⟨rfl,-⟩ | ⟨b,c,o,rfl,-⟩ <;> rfl
theorem xz{s out:Value}{hp:Hp}(h:lO s out hp):nice1 out=true:=by
 rcases h with rfl | ⟨b,n,c,p,rfl,-⟩ <;> rfl
theorem yP{TT:TypeId}{A:Gp}{f:FuncId}{fn:Func}{code:Code}{N:Nat}(hf:Tryz.prog.funcs[f]? = some fn)(hb:fn.body=some code)(hnm:(fn.name == "runtime.NumGoroutine")=false)(hN:fn.ntmps=N)
  (H:∀ R f vs aM fo e,R.own.id=0→vs.length<1000000→gd aM→∀ rest r,A R f vs aM fo e rest=some r→OL TT fn code N R f vs aM fo e rest r):aq Tryz.prog f (toldW TT A):=jf follows hf hb hnm fun args hp v hp' h hk=>by
 rw [hN];unfold toldW at h;split at h
 case h_2=>cases h
 rename_i t rest;split at h
 case h_2=>cases h
 rename_i ty cs hg;split at h
 case h_2=>cases h
 rename_i R s aM out e hu;obtain ⟨rfl,h0,hm⟩:=xh hu;split at h
 case isFalse=>cases h
 rename_i hx;obtain ⟨rfl,hO,hx⟩:=hx;obtain ⟨hT,hn⟩:=hx.choose_spec;generalize hx.choose=vs at *;obtain ⟨r,hA,h2⟩:=Option.map_eq_some_iff.1 h;cases h2;have RR:=H R _ vs aM _ e h0 hn hm _ r hA
 have hsn:=GM hT
 have hon:=xz hO
 have hlt:t<hp.sz:=cU hk hg
 have key:∀ (k1 k2:Option (Nat×Bool)) (f:Bool) (o:ae) (c:Nat) (fo:Bool) (p:ae) (no co:Nat),eT s=f→eT out=fo→dz [some (t,true),k1,k2] →
    mv1 (fV [some (t,true),k1,k2]) s=vS f 1 vs.length c→mv1 (fV [some (t,true),k1,k2]) out=vS fo 2 no co→pinB [some (t,true),k1,k2] hp k1=o→pinB [some (t,true),k1,k2] hp k2=p→aD o=true→(vs = []∨∃ ty ro,o = .cells ty (aI vs) ro)→(f=false→vs = []∧o = .dead)→aD p=true→(fo=false→p = .dead) →
    (∀ (b:Nat) (wr:Bool),k1=some (b,wr)→s=af b vs.length c∧wr=false∧(∃ x,hp.get b=some x∧bP x=true)∧(o = .dead→hp.get b=some .dead)) →
    (∀ (b:Nat) (wr:Bool),k2=some (b,wr)→out=af b no co∧wr=false∧(∃ x,hp.get b=some x∧bP x=true)∧(p = .dead→hp.get b=some .dead)) →
    ∃ (K0:Ks) (O Nw:List ae),heapOf [bv r.f (LtA.ab r.vs),bv r.f2 r.B2,.dead] (hp.put t (.cells ty (r.cells aM out hp.sz (hp.sz+1)) false))=heapOf (Nw ++ [.dead]) (putO K0 O hp)∧dz K0 ∧
    (∀ (i b:Nat) (wr:Bool),K0[i]? = some (some (b,wr))→(∃ o,hp.get b=some o∧(wr=true→o≠.dead)∧bP o=true)∧sf (.pointer (some ⟨t,0,none⟩)::rest) hp b)∧(Value.pointer (some ⟨t,0,none⟩)::rest).all gz=true∧(Value.pointer (some ⟨t,0,none⟩)::rest).length≤N ∧
    ∀ W X,bh Tryz.prog N W K0.length X code ⟨tmsOf ((Value.pointer (some ⟨t,0,none⟩)::rest).map (mv3 (fV K0))) 0 .leaf,di K0 hp,[]⟩ fun e st=>(e = .normal∨e = .ret)∧st.df = []∧∃ v0 K,retVal Tryz.prog fn st=some v0∧gz v0=true∧Nw.length=K.length∧gW K∧Cf K0 O K∧rN K0 K hp.sz O Nw (r.Jd (hp.sz+1)) v0 st.hp.get hp.get:=by
  intro k1 k2 f o c fo p no co hfs hfo hnd es eo dg hp2 hi hr hfl hpi hpl c1 c2;have hrt:sf (.pointer (some ⟨t,0,none⟩)::rest) hp t:=.arg (.head _) (by simp [j7,jD])
  have hR:∀ {b n c:Nat} {x:Value},x=af b n c→x∈ct R s aM out e→sf (.pointer (some ⟨t,0,none⟩)::rest) hp b:=fun {b n c x} hx hmem =>
    .GW hrt hg (List.mem_flatMap.2 ⟨x,hmem,by subst hx; simp [j7,jD,af]⟩)
  have hts:bP (.cells ty (ct R s aM out e) false)=true:=by
    show ((ct R s aM out e).all ok2&&(false || !keysBox (ct R s aM out e)))=true
    rw [uL hm hsn hon,xe]; rfl
  have hst:∀ (i b:Nat) (wr:Bool),[some (t,true),k1,k2][i]? = some (some (b,wr))→(∃ o,hp.get b=some o∧(wr=true→o≠.dead)∧bP o=true)∧sf (.pointer (some ⟨t,0,none⟩)::rest) hp b:=by
    intro i b wr hi;match i with
    | 0 =>
      simp at hi;obtain ⟨rfl,rfl⟩:=hi;exact ⟨⟨_,hg,(fun _ h=>by cases h),hts⟩,hrt⟩
    | 1 =>
      obtain ⟨e1,rfl,⟨x,hx,hs⟩,_⟩:=c1 b wr (by simpa using hi)
      exact ⟨⟨x,hx,(fun h=>by cases h),hs⟩,hR e1 jU.1⟩
    | 2 =>
      obtain ⟨e1,rfl,⟨x,hx,hs⟩,_⟩:=c2 b wr (by simpa using hi)
      exact ⟨⟨x,hx,(fun h=>by cases h),hs⟩,hR e1 jU.2⟩
    | i+3=>simp at hi
  refine ⟨[some (t,true),k1,k2],[.cells ty (r.cells aM out hp.sz (hp.sz+1)) false,o,p],[bv r.f (LtA.ab r.vs),bv r.f2 r.B2],?_,hnd,hst,?_,by have:=RR.len; simpa using this,fun W X=>?_⟩
  ·have e1:putO [k1,k2] [o,p] (hp.put t (.cells ty (r.cells aM out hp.sz (hp.sz+1)) false))=hp.put t (.cells ty (r.cells aM out hp.sz (hp.sz+1)) false):=by
      have d1:∀ b wr,k1=some (b,wr)→wr=false:=fun b wr h=>(c1 b wr h).2.1
      have d2:∀ b wr,k2=some (b,wr)→wr=false:=fun b wr h=>(c2 b wr h).2.1
      match k1,k2,d1,d2 with
      | none,none,_,_=>rfl
      | none,some (b,false),_,_=>rfl
      | some (b,false),none,_,_=>rfl
      | some (b,false),some (b',false),_,_=>rfl
      | some (b,true),_,d1,_=>exact absurd (d1 b true rfl) (by decide)
      | _,some (b,true),_,d2=>exact absurd (d2 b true rfl) (by decide)
   rw [putO,e1]; rfl
  ·rw [List.all_cons,Bool.and_eq_true]
   exact ⟨rfl,List.all_eq_true.2 fun x hx=>(RR.flat x hx).1⟩
  ·have e0:fV [some (t,true),k1,k2] t=0:=by simp [fV,posO,Nat.beq_refl]
   have ea:(Value.pointer (some ⟨t,0,none⟩)::rest).map (mv3 (fV [some (t,true),k1,k2]))=pb 0 0::rest:=by
     rw [List.map_cons,lj RR.flat];simp [mv3,mv2,mv1,pb,e0]
   have ep:di [some (t,true),k1,k2] hp=heapOf [.cells ty (ct R (vS f 1 vs.length c) aM (vS fo 2 no co) e) false,o,p,.dead] aE:=by
     unfold di;have h0:pinB [some (t,true),k1,k2] hp (some (t,true)) = .cells ty (ct R (vS f 1 vs.length c) aM (vS fo 2 no co) e) false:=by
       rw [← es,← eo,← uK hm hsn hon];simp [pinB,hg,eD,mvB]
     simp only [List.map_cons,List.map_nil,h0,dg,hp2];rfl
   rw [ea,ep];rw [hfs,hfo] at RR;refine bh.mono (RR.run o c p no co W X hi hr hfl hpi hpl) fun e' st q=>?_
   refine As.fin (K0:=[some (t,true),k1,k2]) (B:=hp.sz) (O:=[.cells ty (r.cells aM out hp.sz (hp.sz+1)) false,o,p]) (Nw:=[bv r.f (LtA.ab r.vs),bv r.f2 r.B2]) (v:=r.Jd (hp.sz+1)) (g:=hp.get) (fn:=fn) (P:=Tryz.prog) (e:=e') (st:=st) ?_
   obtain ⟨q1,q2,v1,z,O,K,Nw,q3,q4,q5,q6⟩:=q;refine ⟨q1,q2,_,z,_,_,_,q3,q4,q5,?_⟩
   unfold QW at q6;have hvo:∀ b,nice1 (bif r.k then vS fo 2 no co else vS r.f2 b r.n2 r.c2)=true:=fun b=>by cases r.k <;> simp [rE]
   refine uW.end (K0:=[some (t,true),k1,k2]) q6 z6 (fun _ b2=>?_) (fun b1 b2=>?_) (fun _ _=>rfl) (fun g b1 b2 h1 h2 _=>?_) (fun g b1 b2 h1 h2 hK i b hi'=>.inl ?_) (fun s=>bQ (aw _)) (bN (vs:=vs) (aw _)) rfl (fun s=>bQ RR.ok.1) (bN (vs:=vs) RR.ok.1) RR.ok.2 fun _ _ i b hi' hdd=>?_
   ·unfold mE.Jd
    cases r.k
    ·rfl
    ·cases r.f2 <;> rfl
   ·simp only [List.all_cons,List.all_nil,Bool.and_true,bN (vs:=vs) hi,bN (vs:=vs) hpi]
    exact uL hm (rE _ _ _ _) (hvo b2)
   ·unfold mE.Jd
    cases r.k
    ·simp [mv3]
    ·show mv3 g (vS r.f2 b2 r.n2 r.c2)=vS r.f2 (hp.sz+1) r.n2 r.c2
     rw [← yQ (b:=g b2) h2];cases r.f2 <;> rfl
   ·match i with
    | 0 =>
      simp at hi';subst hi';simp only [List.getElem?_cons_zero,Option.map_some,mvB,mE.cells]
      rw [uK hm (rE _ _ _ _) (hvo b2),qH,yQ (b':=hp.sz) h1];have e3:mv1 g (bif r.k then vS fo 2 no co else vS r.f2 b2 r.n2 r.c2)=bif r.k then out else vS r.f2 (hp.sz+1) r.n2 r.c2:=by
        cases r.k
        ·show mv1 g (vS r.f2 b2 r.n2 r.c2)=vS r.f2 (hp.sz+1) r.n2 r.c2
         rw [qH,yQ h2]
        ·show mv1 g (vS fo 2 no co)=out
         rw [qH];cases k2 with
         | none =>
           cases fo with
           | false =>
             rcases hO with rfl | ⟨b,n,c,p,rfl,-⟩
             ·rfl
             ·cases hfo
           | true =>
             rcases hO with rfl | ⟨b,n,c,pp,rfl,-⟩
             ·cases hfo
             ·exfalso
              simp [mv1,af,vS] at eo;have e4:=eo.1
              unfold fV at e4;cases hpo:posO b [some (t,true),k1,none] 0 with
              | none=>rw [hpo] at e4; simp at e4
              | some j =>
                rw [hpo] at e4;simp at e4;subst e4;obtain ⟨k,wr,uR,hk3⟩:=lv hpo;have:k=2:=by omega
                subst this;simp at hk3
         | some bw =>
           obtain ⟨b,wr⟩:=bw;obtain ⟨e1,rfl,_,_⟩:=c2 b wr rfl;have e5:=hK 2 b false rfl rfl
           rw [e5];cases fo with
           | false=>rw [e1] at hfo; cases hfo
           | true=>exact e1.symm
      rw [e3]
    | 1=>exact absurd (c1 b true (by simpa using hi')).2.1 (by decide)
    | 2=>exact absurd (c2 b true (by simpa using hi')).2.1 (by decide)
    | i+3=>simp at hi'
   ·match i with
    | 0=>simp at hi'
    | 1=>exact (c1 b false (by simpa using hi')).2.2.2 (by simpa using hdd)
    | 2=>exact (c2 b false (by simpa using hi')).2.2.2 (by simpa using hdd)
    | i+3=>simp at hi'
 have hnt:∀ {b:Nat} {o:ae} {x:Value} {n c:Nat},hp.get b=some o→aD o=true→x=af b n c→x∈ct R s aM out e→b≠t:=fun {b o x n c} hb hi hx hmem ebt=>by
  subst ebt;rw [hg] at hb; cases hb;have:=List.all_eq_true.1 hi x hmem
  rw [hx] at this; cases this
 have sgt:∀ {k1 k2:Option (Nat×Bool)} {b:Nat} {wr:Bool},k1=some (b,wr)→b≠t→fV [some (t,true),k1,k2] b=1:=fun {k1 k2 b wr} hk hne=>by
  subst hk;have h1:Nat.beq t b=false:=by cases e:Nat.beq t b with
    | false=>rfl
    | true=>exact absurd (Nat.eq_of_beq_eq_true e).symm hne
  simp [fV,posO,h1,Nat.beq_refl]
 have sgo:∀ {k1:Option (Nat×Bool)} {b:Nat} {wr:Bool},b≠t→(∀ c w,k1=some (c,w)→c≠b)→fV [some (t,true),k1,some (b,wr)] b=2:=fun {k1 b wr} hne hk=>by
  have h1:Nat.beq t b=false:=by cases e:Nat.beq t b with
    | false=>rfl
    | true=>exact absurd (Nat.eq_of_beq_eq_true e).symm hne
  cases k1 with
  | none=>simp [fV,posO,h1,Nat.beq_refl]
  | some cw =>
    obtain ⟨c,w⟩:=cw;have h2:Nat.beq c b=false:=by cases e:Nat.beq c b with
      | false=>rfl
      | true=>exact absurd (Nat.eq_of_beq_eq_true e) (hk c w rfl)
    simp [fV,posO,h1,h2,Nat.beq_refl]
 have nd3:∀ {k1 k2:Option (Nat×Bool)},(∀ c w,k1=some (c,w)→c≠t)→(∀ c w,k2=some (c,w)→c≠t)→(∀ c w c' w',k1=some (c,w)→k2=some (c',w')→c≠c')→dz [some (t,true),k1,k2]:=fun {k1 k2} h1 h2 h3 i j b wr wr' hi hj=>by
  match i,j with
  | 0,0=>rfl
  | 0,1=>simp at hi hj; exact absurd hi.1.symm (h1 b wr' hj)
  | 0,2=>simp at hi hj; exact absurd hi.1.symm (h2 b wr' hj)
  | 1,0=>simp at hi hj; exact absurd hj.1.symm (h1 b wr hi)
  | 1,1=>rfl
  | 1,2=>simp at hi hj; exact absurd rfl (h3 b wr b wr' hi hj)
  | 2,0=>simp at hi hj; exact absurd hj.1.symm (h2 b wr hi)
  | 2,1=>simp at hi hj; exact absurd rfl (h3 b wr' b wr hj hi)
  | 2,2=>rfl
  | i+3,_=>simp at hi
  | _,j+3=>simp at hj
 rcases hT with ⟨rfl,rfl⟩ | ⟨b,c,ob,rfl,hb,hi,hr⟩
 ·rcases hO with rfl | ⟨bo,n',c',po,rfl,hbo,hio,hne⟩
  ·exact key none none false .dead 0 false .dead 0 0 rfl rfl (nd3 (fun _ _ h=>by cases h) (fun _ _ h=>by cases h) (fun _ _ _ _ h=>by cases h)) rfl rfl rfl rfl rfl (.inl rfl) (fun _=>⟨rfl,rfl⟩) rfl (fun _=>rfl) (fun _ _ h=>by cases h) (fun _ _ h=>by cases h)
  ·have ht:=hnt hbo hio rfl jU.2
   refine key none (some (bo,false)) false .dead 0 true (roBlk po) n' c' rfl rfl (nd3 (fun _ _ h=>by cases h) (fun c w h=>by cases h; exact ht) (fun _ _ _ _ h=>by cases h)) rfl ?_ rfl ?_ rfl (.inl rfl) (fun _=>⟨rfl,rfl⟩) (bT hio) (fun h=>by cases h) (fun _ _ h=>by cases h) (fun b' wr h=>?_)
   ·simp [mv1,af,vS,sgo ht (k1:=none) (wr:=false) (fun c w h=>by cases h)]
   ·simp [pinB,hbo,bQ hio,eD]
   ·cases h
    refine ⟨rfl,rfl,⟨po,hbo,aY hio⟩,fun h=>?_⟩
    cases po <;> first | exact hbo | cases h
 ·have htb:=hnt hb hi rfl jU.1
  rcases hO with rfl | ⟨bo,n',c',po,rfl,hbo,hio,hne⟩
  ·refine key (some (b,false)) none true (roBlk ob) c false .dead 0 0 rfl rfl (nd3 (fun c w h=>by cases h; exact htb) (fun _ _ h=>by cases h) (fun _ _ _ _ _ h=>by cases h)) ?_ rfl ?_ rfl (bT hi) (eC hr) (fun h=>by cases h) rfl (fun _=>rfl) (fun b' wr h=>?_) (fun _ _ h=>by cases h)
   ·simp [mv1,af,vS,sgt (k1:=some (b,false)) (k2:=none) rfl htb]
   ·simp [pinB,hb,bQ hi,eD]
   ·cases h
    refine ⟨rfl,rfl,⟨ob,hb,aY hi⟩,fun h=>?_⟩
    cases ob <;> first | exact hb | cases h
  ·have ht:=hnt hbo hio rfl jU.2
   have hbb:b≠bo:=hne b _ c rfl
   refine key (some (b,false)) (some (bo,false)) true (roBlk ob) c true (roBlk po) n' c' rfl rfl (nd3 (fun c w h=>by cases h; exact htb) (fun c w h=>by cases h; exact ht) (fun c w c' w' h h'=>by cases h; cases h'; exact hbb)) ?_ ?_ ?_ ?_ (bT hi) (eC hr) (fun h=>by cases h) (bT hio) (fun h=>by cases h) (fun b' wr h=>?_) (fun b' wr h=>?_)
   ·simp [mv1,af,vS,sgt (k1:=some (b,false)) (k2:=some (bo,false)) rfl htb]
   ·simp [mv1,af,vS,sgo ht (k1:=some (b,false)) (wr:=false) (fun c w h=>by cases h; exact hbb)]
   ·simp [pinB,hb,bQ hi,eD]
   ·simp [pinB,hbo,bQ hio,eD]
   ·cases h
    refine ⟨rfl,rfl,⟨ob,hb,aY hi⟩,fun h=>?_⟩
    cases ob <;> first | exact hb | cases h
   ·cases h
    refine ⟨rfl,rfl,⟨po,hbo,aY hio⟩,fun h=>?_⟩
    cases po <;> first | exact hbo | cases h
theorem FY{TT:TypeId}{A:Gp}{R:au}{f fo:Bool}{vs:List aa}{s out:Value}{aM rest:List Value}{e:Int}{t:Nat}{hp:Hp}{r:mE}(h0:R.own.id=0)(hm:gd aM)(hg:hp.get t=some (.cells TT (ct R s aM out e) false))(hO:lO s out hp)(hf:eT s=f)(hfo:eT out=fo)(h:TN vs s hp)(hn:vs.length<1000000)(hA:A R f vs aM fo e rest=some r) :
  HE (toldW TT A (pb t 0::rest)) hp (r.Jd (hp.sz+1)) [.put t (.cells TT (r.cells aM out hp.sz (hp.sz+1)) false),.push (bv r.f (LtA.ab r.vs)),.push (bv r.f2 r.B2),.push .dead]:=by
 unfold HE toldW pb;have hx:TT=TT∧lO s out hp∧∃ vs,TN vs s hp∧vs.length<1000000:=⟨rfl,hO,vs,h,hn⟩
 simp only [hg,F5 h0 hm];rw [dif_pos hx,hx.2.2.choose_spec.1.uniq h,hf,hfo,hA];rfl
def lK(x:bb):List Value:=[.int .i64 x.kind,.int .i64 x.dest,.bool x.h.n,.int .i64 x.h.t,.int .i64 x.h.o,.int .i64 x.h.r,.int .i64 x.h.d,.int .i64 x.h.i,.int .i64 x.l.1,.int .i64 x.l.2.1,.int .i64 x.l.2.2,.int .i64 x.num]
def zO(n:Bool)(t o r d i a b c k:Int):Bool:=(n==false)&&((t==Int.ofNat 0)&&((o==Int.ofNat 0)&&((r==Int.ofNat 0)&&((d==Int.ofNat 0)&&((i==Int.ofNat 0)&&((a==Int.ofNat 0)&&((b==Int.ofNat 0)&&((c==Int.ofNat 0)&&(k==Int.ofNat 0)))))))))
def iQ(x:bb):Bool :=
 decide (x.dest≥Int.ofNat 0)&&(decide (x.dest<Int.ofNat 64) &&
 bif x.kind==Int.ofNat 1 then zO x.h.n x.h.t x.h.o x.h.r x.h.d x.h.i x.l.1 x.l.2.1 x.l.2.2 x.num
 else bif x.kind==Int.ofNat 4 then !x.h.n&&(decide (x.num≥Int.ofNat 0)&&(decide (x.num≤Int.ofNat 65535)&&(dG x.h.n x.h.t x.h.o x.h.r x.h.d x.h.i&&zO false (Int.ofNat 0) (Int.ofNat 0) (Int.ofNat 0) (Int.ofNat 0) (Int.ofNat 0) x.l.1 x.l.2.1 x.l.2.2 (Int.ofNat 0))))
 else bif x.kind==Int.ofNat 2 then dG x.h.n x.h.t x.h.o x.h.r x.h.d x.h.i&&zO false (Int.ofNat 0) (Int.ofNat 0) (Int.ofNat 0) (Int.ofNat 0) (Int.ofNat 0) x.l.1 x.l.2.1 x.l.2.2 x.num
 else bif x.kind==Int.ofNat 3 then dG false x.l.1 x.l.2.1 x.l.2.2 (Int.ofNat 0) (Int.ofNat 0)&&zO x.h.n x.h.t x.h.o x.h.r x.h.d x.h.i (Int.ofNat 0) (Int.ofNat 0) (Int.ofNat 0) x.num
 else false)
def gN(x:bb):Int:=bif iQ x then 0 else 1
theorem JB{x:bb}(h:iQ x=true):iN 0 = .int .i64 (gN x):=by unfold gN; rw [h]; rfl
theorem JA{x:bb}(h:iQ x=false):iN 1 = .int .i64 (gN x):=by unfold gN; rw [h]; rfl
theorem Df{n:Bool}{t o r d i:Int}:(cg n t o r d i==Int.ofNat 0)=dG n t o r d i:=by
 unfold cg;cases dG n t o r d i <;> rfl
theorem EA(n:Bool)(t o r d i a b c k:Int):fstV ((aBin Tryz.prog .neq 30 (.agg #[iN 0,iN 0,.bool n,.int .i64 t,.int .i64 o,.int .i64 r,.int .i64 d,.int .i64 i,.int .i64 a,.int .i64 b,.int .i64 c,.int .i64 k]) (.agg #[iN 0,iN 0,.bool false,iN 0,iN 0,iN 0,iN 0,iN 0,iN 0,iN 0,iN 0,iN 0])).map fun v=>(v,none))=some (.bool (!zO n t o r d i a b c k)):=by
 have h:aBin Tryz.prog .neq 30 (.agg #[iN 0,iN 0,.bool n,.int .i64 t,.int .i64 o,.int .i64 r,.int .i64 d,.int .i64 i,.int .i64 a,.int .i64 b,.int .i64 c,.int .i64 k]) (.agg #[iN 0,iN 0,.bool false,iN 0,iN 0,iN 0,iN 0,iN 0,iN 0,iN 0,iN 0,iN 0]) =
  (Cs (du (n==false) (du (t==Int.ofNat 0) (du (o==Int.ofNat 0) (du (r==Int.ofNat 0) (du (d==Int.ofNat 0) (du (i==Int.ofNat 0) (some true))))))) (Cs (du (a==Int.ofNat 0) (du (b==Int.ofNat 0) (du (c==Int.ofNat 0) (some true)))) (du (k==Int.ofNat 0) (some true)))).map fun b=>.bool (!b):=by kernel_rfl
 rw [h];unfold zO;cases n <;> cases (t==Int.ofNat 0) <;> cases (o==Int.ofNat 0) <;> cases (r==Int.ofNat 0) <;> cases (d==Int.ofNat 0) <;> cases (i==Int.ofNat 0) <;> first | rfl | skip
 all_goals (cases (a==Int.ofNat 0) <;> cases (b==Int.ofNat 0) <;> cases (c==Int.ofNat 0) <;> cases (k==Int.ofNat 0) <;> rfl)
noncomputable def Ss:Ext:=cR Tryz.prog [(57,g15)]
theorem Kb:ExtOk Tryz.prog Ss:=aS (.cons vT .nil)
theorem Sg(x:bb)(Q:Value→Prop):(((decide (x.dest≥(Int.ofNat 0)))=true→((decide (x.dest<(Int.ofNat 64)))=true→((x.kind==(Int.ofNat 1))=true→(fstV ((aBin Tryz.prog .neq 30 (.agg #[iN 0,iN 0,.bool x.h.n,.int .i64 x.h.t,.int .i64 x.h.o,.int .i64 x.h.r,.int .i64 x.h.d,.int .i64 x.h.i,.int .i64 x.l.1,.int .i64 x.l.2.1,.int .i64 x.l.2.2,.int .i64 x.num]) (.agg #[iN 0,iN 0,.bool false,iN 0,iN 0,iN 0,iN 0,iN 0,iN 0,iN 0,iN 0,iN 0])).map fun v=>(v,none)):Option Value)=some (.bool (!(zO x.h.n x.h.t x.h.o x.h.r x.h.d x.h.i x.l.1 x.l.2.1 x.l.2.2 x.num)))∧((!(zO x.h.n x.h.t x.h.o x.h.r x.h.d x.h.i x.l.1 x.l.2.1 x.l.2.2 x.num))=true→Q (iN 1))∧((!(zO x.h.n x.h.t x.h.o x.h.r x.h.d x.h.i x.l.1 x.l.2.1 x.l.2.2 x.num))=false→Q (iN 0)))∧((x.kind==(Int.ofNat 1))=false→((x.kind==(Int.ofNat 4))=true→((!x.h.n)=true→((decide (x.num≥(Int.ofNat 0)))=true→((decide (x.num≤(Int.ofNat 65535)))=true→((!((cg x.h.n x.h.t x.h.o x.h.r x.h.d x.h.i)==(Int.ofNat 0)))=true→Q (iN 1))∧((!((cg x.h.n x.h.t x.h.o x.h.r x.h.d x.h.i)==(Int.ofNat 0)))=false→(fstV ((aBin Tryz.prog .neq 30 (.agg #[iN 0,iN 0,.bool false,iN 0,iN 0,iN 0,iN 0,iN 0,.int .i64 x.l.1,.int .i64 x.l.2.1,.int .i64 x.l.2.2,iN 0]) (.agg #[iN 0,iN 0,.bool false,iN 0,iN 0,iN 0,iN 0,iN 0,iN 0,iN 0,iN 0,iN 0])).map fun v=>(v,none)):Option Value)=some (.bool (!(zO false (Int.ofNat 0) (Int.ofNat 0) (Int.ofNat 0) (Int.ofNat 0) (Int.ofNat 0) x.l.1 x.l.2.1 x.l.2.2 (Int.ofNat 0))))∧((!(zO false (Int.ofNat 0) (Int.ofNat 0) (Int.ofNat 0) (Int.ofNat 0) (Int.ofNat 0) x.l.1 x.l.2.1 x.l.2.2 (Int.ofNat 0)))=true→Q (iN 1))∧((!(zO false (Int.ofNat 0) (Int.ofNat 0) (Int.ofNat 0) (Int.ofNat 0) (Int.ofNat 0) x.l.1 x.l.2.1 x.l.2.2 (Int.ofNat 0)))=false→Q (iN 0))))∧((decide (x.num≤(Int.ofNat 65535)))=false→Q (iN 1)))∧((decide (x.num≥(Int.ofNat 0)))=false→Q (iN 1)))∧((!x.h.n)=false→Q (iN 1)))∧((x.kind==(Int.ofNat 4))=false→((x.kind==(Int.ofNat 2))=true→((!((cg x.h.n x.h.t x.h.o x.h.r x.h.d x.h.i)==(Int.ofNat 0)))=true→Q (iN 1))∧((!((cg x.h.n x.h.t x.h.o x.h.r x.h.d x.h.i)==(Int.ofNat 0)))=false→(fstV ((aBin Tryz.prog .neq 30 (.agg #[iN 0,iN 0,.bool false,iN 0,iN 0,iN 0,iN 0,iN 0,.int .i64 x.l.1,.int .i64 x.l.2.1,.int .i64 x.l.2.2,.int .i64 x.num]) (.agg #[iN 0,iN 0,.bool false,iN 0,iN 0,iN 0,iN 0,iN 0,iN 0,iN 0,iN 0,iN 0])).map fun v=>(v,none)):Option Value)=some (.bool (!(zO false (Int.ofNat 0) (Int.ofNat 0) (Int.ofNat 0) (Int.ofNat 0) (Int.ofNat 0) x.l.1 x.l.2.1 x.l.2.2 x.num)))∧((!(zO false (Int.ofNat 0) (Int.ofNat 0) (Int.ofNat 0) (Int.ofNat 0) (Int.ofNat 0) x.l.1 x.l.2.1 x.l.2.2 x.num))=true→Q (iN 1))∧((!(zO false (Int.ofNat 0) (Int.ofNat 0) (Int.ofNat 0) (Int.ofNat 0) (Int.ofNat 0) x.l.1 x.l.2.1 x.l.2.2 x.num))=false→Q (iN 0))))∧((x.kind==(Int.ofNat 2))=false→((x.kind==(Int.ofNat 3))=true→(((cg false x.l.1 x.l.2.1 x.l.2.2 (Int.ofNat 0) (Int.ofNat 0)) != (Int.ofNat 0))=true→((!((cg false x.l.1 x.l.2.1 x.l.2.2 (Int.ofNat 0) (Int.ofNat 0))==(Int.ofNat 0)))=true→Q (iN 1))∧((!((cg false x.l.1 x.l.2.1 x.l.2.2 (Int.ofNat 0) (Int.ofNat 0))==(Int.ofNat 0)))=false→(fstV ((aBin Tryz.prog .neq 30 (.agg #[iN 0,iN 0,.bool x.h.n,.int .i64 x.h.t,.int .i64 x.h.o,.int .i64 x.h.r,.int .i64 x.h.d,.int .i64 x.h.i,iN 0,iN 0,iN 0,.int .i64 x.num]) (.agg #[iN 0,iN 0,.bool false,iN 0,iN 0,iN 0,iN 0,iN 0,iN 0,iN 0,iN 0,iN 0])).map fun v=>(v,none)):Option Value)=some (.bool (!(zO x.h.n x.h.t x.h.o x.h.r x.h.d x.h.i (Int.ofNat 0) (Int.ofNat 0) (Int.ofNat 0) x.num)))∧((!(zO x.h.n x.h.t x.h.o x.h.r x.h.d x.h.i (Int.ofNat 0) (Int.ofNat 0) (Int.ofNat 0) x.num))=true→Q (iN 1))∧((!(zO x.h.n x.h.t x.h.o x.h.r x.h.d x.h.i (Int.ofNat 0) (Int.ofNat 0) (Int.ofNat 0) x.num))=false→Q (iN 0))))∧(((cg false x.l.1 x.l.2.1 x.l.2.2 (Int.ofNat 0) (Int.ofNat 0)) != (Int.ofNat 0))=false→(fstV ((aBin Tryz.prog .neq 30 (.agg #[iN 0,iN 0,.bool x.h.n,.int .i64 x.h.t,.int .i64 x.h.o,.int .i64 x.h.r,.int .i64 x.h.d,.int .i64 x.h.i,iN 0,iN 0,iN 0,.int .i64 x.num]) (.agg #[iN 0,iN 0,.bool false,iN 0,iN 0,iN 0,iN 0,iN 0,iN 0,iN 0,iN 0,iN 0])).map fun v=>(v,none)):Option Value)=some (.bool (!(zO x.h.n x.h.t x.h.o x.h.r x.h.d x.h.i (Int.ofNat 0) (Int.ofNat 0) (Int.ofNat 0) x.num)))∧((!(zO x.h.n x.h.t x.h.o x.h.r x.h.d x.h.i (Int.ofNat 0) (Int.ofNat 0) (Int.ofNat 0) x.num))=true→Q (iN 1))∧((!(zO x.h.n x.h.t x.h.o x.h.r x.h.d x.h.i (Int.ofNat 0) (Int.ofNat 0) (Int.ofNat 0) x.num))=false→Q (iN 0))))∧((x.kind==(Int.ofNat 3))=false→Q (iN 1))))))∧((decide (x.dest<(Int.ofNat 64)))=false→((x.kind==(Int.ofNat 1))=true→Q (iN 1))∧((x.kind==(Int.ofNat 1))=false→((x.kind==(Int.ofNat 4))=true→Q (iN 1))∧((x.kind==(Int.ofNat 4))=false→((x.kind==(Int.ofNat 2))=true→Q (iN 1))∧((x.kind==(Int.ofNat 2))=false→((x.kind==(Int.ofNat 3))=true→(((cg false x.l.1 x.l.2.1 x.l.2.2 (Int.ofNat 0) (Int.ofNat 0)) != (Int.ofNat 0))=true→Q (iN 1))∧(((cg false x.l.1 x.l.2.1 x.l.2.2 (Int.ofNat 0) (Int.ofNat 0)) != (Int.ofNat 0))=false→Q (iN 1)))∧((x.kind==(Int.ofNat 3))=false→Q (iN 1)))))))∧((decide (x.dest≥(Int.ofNat 0)))=false→((x.kind==(Int.ofNat 1))=true→Q (iN 1))∧((x.kind==(Int.ofNat 1))=false→((x.kind==(Int.ofNat 4))=true→Q (iN 1))∧((x.kind==(Int.ofNat 4))=false→((x.kind==(Int.ofNat 2))=true→Q (iN 1))∧((x.kind==(Int.ofNat 2))=false→((x.kind==(Int.ofNat 3))=true→(((cg false x.l.1 x.l.2.1 x.l.2.2 (Int.ofNat 0) (Int.ofNat 0)) != (Int.ofNat 0))=true→Q (iN 1))∧(((cg false x.l.1 x.l.2.1 x.l.2.2 (Int.ofNat 0) (Int.ofNat 0)) != (Int.ofNat 0))=false→Q (iN 1)))∧((x.kind==(Int.ofNat 3))=false→Q (iN 1)))))))=(CT Tryz.prog Ss 61 24 [.agg #[.int .i64 x.kind,.int .i64 x.dest,.bool x.h.n,.int .i64 x.h.t,.int .i64 x.h.o,.int .i64 x.h.r,.int .i64 x.h.d,.int .i64 x.h.i,.int .i64 x.l.1,.int .i64 x.l.2.1,.int .i64 x.l.2.2,.int .i64 x.num]] (.b 11 (.b 15 (.b 20 (.w 27 (!(zO x.h.n x.h.t x.h.o x.h.r x.h.d x.h.i x.l.1 x.l.2.1 x.l.2.2 x.num)) (.stop 0 [] []) (.stop 0 [] [])) (.b 22 (.b 29 (.b 34 (.b 39 (.b 56 (.stop 0 [] []) (.w 60 (!(zO false (Int.ofNat 0) (Int.ofNat 0) (Int.ofNat 0) (Int.ofNat 0) (Int.ofNat 0) x.l.1 x.l.2.1 x.l.2.2 (Int.ofNat 0))) (.stop 0 [] []) (.stop 0 [] []))) (.stop 0 [] [])) (.stop 0 [] [])) (.stop 0 [] [])) (.b 24 (.b 38 (.stop 0 [] []) (.w 42 (!(zO false (Int.ofNat 0) (Int.ofNat 0) (Int.ofNat 0) (Int.ofNat 0) (Int.ofNat 0) x.l.1 x.l.2.1 x.l.2.2 x.num)) (.stop 0 [] []) (.stop 0 [] []))) (.b 26 (.b 49 (.b 70 (.stop 0 [] []) (.w 74 (!(zO x.h.n x.h.t x.h.o x.h.r x.h.d x.h.i (Int.ofNat 0) (Int.ofNat 0) (Int.ofNat 0) x.num)) (.stop 0 [] []) (.stop 0 [] []))) (.w 73 (!(zO x.h.n x.h.t x.h.o x.h.r x.h.d x.h.i (Int.ofNat 0) (Int.ofNat 0) (Int.ofNat 0) x.num)) (.stop 0 [] []) (.stop 0 [] []))) (.stop 0 [] []))))) (.b 20 (.stop 0 [] []) (.b 22 (.stop 0 [] []) (.b 24 (.stop 0 [] []) (.b 26 (.b 49 (.stop 0 [] []) (.stop 0 [] [])) (.stop 0 [] [])))))) (.b 17 (.stop 0 [] []) (.b 19 (.stop 0 [] []) (.b 21 (.stop 0 [] []) (.b 23 (.b 46 (.stop 0 [] []) (.stop 0 [] [])) (.stop 0 [] [])))))) Q):=by kernel_rfl
theorem IP(x:bb):∃ hp,aCall Tryz.prog Ss 61 24 [.agg #[.int .i64 x.kind,.int .i64 x.dest,.bool x.h.n,.int .i64 x.h.t,.int .i64 x.h.o,.int .i64 x.h.r,.int .i64 x.h.d,.int .i64 x.h.i,.int .i64 x.l.1,.int .i64 x.l.2.1,.int .i64 x.l.2.2,.int .i64 x.num]] aE=some (.int .i64 (gN x),hp):=by
 refine tc (Sg x _) ?_
 refine ⟨fun h_11=>⟨fun h_15=>⟨fun h_20=>⟨EA x.h.n x.h.t x.h.o x.h.r x.h.d x.h.i x.l.1 x.l.2.1 x.l.2.2 x.num,fun h_27=>?_,fun h_27=>?_⟩,fun h_20=>⟨fun h_22=>⟨fun h_29=>⟨fun h_34=>⟨fun h_39=>⟨fun h_56=>?_,fun h_56=>⟨EA false (Int.ofNat 0) (Int.ofNat 0) (Int.ofNat 0) (Int.ofNat 0) (Int.ofNat 0) x.l.1 x.l.2.1 x.l.2.2 (Int.ofNat 0),fun h_60=>?_,fun h_60=>?_⟩⟩,fun h_39=>?_⟩,fun h_34=>?_⟩,fun h_29=>?_⟩,fun h_22=>⟨fun h_24=>⟨fun h_38=>?_,fun h_38=>⟨EA false (Int.ofNat 0) (Int.ofNat 0) (Int.ofNat 0) (Int.ofNat 0) (Int.ofNat 0) x.l.1 x.l.2.1 x.l.2.2 x.num,fun h_42=>?_,fun h_42=>?_⟩⟩,fun h_24=>⟨fun h_26=>⟨fun h_49=>⟨fun h_70=>?_,fun h_70=>⟨EA x.h.n x.h.t x.h.o x.h.r x.h.d x.h.i (Int.ofNat 0) (Int.ofNat 0) (Int.ofNat 0) x.num,fun h_74=>?_,fun h_74=>?_⟩⟩,fun h_49=>⟨EA x.h.n x.h.t x.h.o x.h.r x.h.d x.h.i (Int.ofNat 0) (Int.ofNat 0) (Int.ofNat 0) x.num,fun h_73=>?_,fun h_73=>?_⟩⟩,fun h_26=>?_⟩⟩⟩⟩,fun h_15=>⟨fun h_20=>?_,fun h_20=>⟨fun h_22=>?_,fun h_22=>⟨fun h_24=>?_,fun h_24=>⟨fun h_26=>⟨fun h_49=>?_,fun h_49=>?_⟩,fun h_26=>?_⟩⟩⟩⟩⟩,fun h_11=>⟨fun h_17=>?_,fun h_17=>⟨fun h_19=>?_,fun h_19=>⟨fun h_21=>?_,fun h_21=>⟨fun h_23=>⟨fun h_46=>?_,fun h_46=>?_⟩,fun h_23=>?_⟩⟩⟩⟩⟩
 all_goals ((try simp only [jv,Df,Bool.not_eq_true',Bool.not_eq_false'] at *); first | (refine JB ?_; unfold iQ; simp_all; done) | (refine JA ?_; unfold iQ; simp_all; done) | (refine JB ?_; unfold iQ; simp_all; omega) | (refine JA ?_; unfold iQ; simp_all; omega))
def unO:Value→Option bb
 | .agg cs=>match cs.toList with
   | [.int .i64 k,.int .i64 dd,.bool n,.int .i64 t,.int .i64 o,.int .i64 r,.int .i64 d,.int .i64 i,.int .i64 a,.int .i64 b,.int .i64 c,.int .i64 q]=>some ⟨0,k,dd,⟨0,n,t,o,r,d,i⟩,(a,b,c),q⟩
   | _=>none
 | _=>none
theorem nP{v:Value}{x:bb}(h:unO v=some x):v = .agg #[.int .i64 x.kind,.int .i64 x.dest,.bool x.h.n,.int .i64 x.h.t,.int .i64 x.h.o,.int .i64 x.h.r,.int .i64 x.h.d,.int .i64 x.h.i,.int .i64 x.l.1,.int .i64 x.l.2.1,.int .i64 x.l.2.2,.int .i64 x.num]:=by
 unfold unO at h;split at h
 ·rename_i cs
  split at h
  ·rename_i hcs
   cases h;obtain rfl:=cJ hcs;rfl
  ·cases h
 ·cases h
theorem Pc(x:bb):flatD (.agg #[.int .i64 x.kind,.int .i64 x.dest,.bool x.h.n,.int .i64 x.h.t,.int .i64 x.h.o,.int .i64 x.h.r,.int .i64 x.h.d,.int .i64 x.h.i,.int .i64 x.l.1,.int .i64 x.l.2.1,.int .i64 x.l.2.2,.int .i64 x.num])=true:=rfl
def gOC:List Value→Option Value
 | [a]=>(unO a).map fun x=>.int .i64 (gN x)
 | _=>none
theorem TK:bI Tryz.prog 24 gOC:=de (ext:=Ss) Kb follows Tryz.func24 (by kernel_rfl) fun args v h=>by
 unfold gOC at h;split at h
 case h_2=>cases h
 rename_i a;obtain ⟨x,hx,h2⟩:=Option.map_eq_some_iff.1 h;cases h2;obtain rfl:=nP hx;obtain ⟨hp,q⟩:=IP x;exact ⟨by rw [List.all_cons,Pc]; rfl,rfl,_,hp,q⟩
theorem FC(l:aQ):eH (lA l):=⟨rfl,fun _=>by simp [mv3,mv2,mv1,lA,lc]⟩
theorem Ub(u v:aa):fstV ((aBin Tryz.prog .neq 78 (.agg ⟨vc u⟩) (.agg ⟨vc v⟩)).map fun v=>(v,none))=some (.bool (!kH u v)):=by
 have h:aBin Tryz.prog .neq 78 (.agg ⟨vc u⟩) (.agg ⟨vc v⟩) =
  (du (u.id==v.id) (Cs (du (u.n==v.n) (du (u.t==v.t) (du (u.o==v.o) (du (u.r==v.r) (du (u.d==v.d) (du (u.i==v.i) (some true))))))) (some true))).map fun b=>.bool (!b):=by kernel_rfl
 rw [h];simp only [gw];unfold kH dA;cases (u.id==v.id) <;> cases (u.n==v.n) <;> cases (u.t==v.t) <;> cases (u.o==v.o) <;> cases (u.r==v.r) <;> cases (u.d==v.d) <;> cases (u.i==v.i) <;> rfl
theorem pd{f:Bool}{vs:List aa}{b c:Nat}{hp:Hp}(hg:hp.get b=some (bv f (LtA.ab vs)))(hf:f=false→vs = []):TN vs (vS f b vs.length c) hp:=by
 cases f with
 | false=>rw [hf rfl]; exact .inl ⟨rfl,rfl⟩
 | true=>exact TN.new rfl hg
theorem aA{f:Bool}{o:ae}(h:aD o=true):aD (bv f o)=true:=by cases f <;> first | rfl | exact h
theorem Kj{f:Bool}{vs:List aa}{hp:Hp}{b c:Nat}(l:aQ)(keep:Int)(h:TN vs (vS f b vs.length c) hp)(hn:vs.length<1000000)(hf:f=false→vs = []) :
  N1 [vS f b vs.length c,lA l,.int .i64 keep] hp=some (vS f hp.sz (vs.map (kv l.1 l.2.1 l.2.2 keep)).length (c2 f),heapOf [bv f (LtA.ab (vs.map (kv l.1 l.2.1 l.2.2 keep))),.dead] hp):=by
 rw [List.length_map];unfold N1;have e:=iU (P:=fun _=>True) (k:=g29) (r:=[lA l,.int .i64 keep]) h hn trivial
 cases f with
 | false =>
   obtain rfl:=hf rfl;exact pT (e.trans (HM (lt:=l.1) (lo:=l.2.1) (lr:=l.2.2)))
 | true =>
   have hT:TR vs (af b vs.length c) hp:=by
     rcases h with ⟨h,-⟩ | h
     ·cases h
     ·exact h
   exact nr (e.trans (HN (lt:=l.1) (lo:=l.2.1) (lr:=l.2.2) hT))
def bY(l:aQ)(keep:Int)(vs:List aa):List Int:=(vs.filter (kx l.1 l.2.1 l.2.2 keep)).map fun x=>x.id
def oZ(l:aQ)(keep:Int)(ids:List Int)(x:aa):List Int:=bif kx l.1 l.2.1 l.2.2 keep x then ids ++ [x.id] else ids
theorem og(l:aQ)(keep:Int):∀ (vs:List aa) (ids:List Int),vs.foldl (oZ l keep) ids=ids++bY l keep vs
 | [],ids=>by simp [bY]
 | x::vs,ids=>by
   rw [List.foldl_cons,og l keep vs];unfold oZ bY;rw [List.filter_cons];cases kx l.1 l.2.1 l.2.2 keep x <;> simp
theorem Bn(l:aQ)(keep:Int)(x:aa):kH x (kv l.1 l.2.1 l.2.2 keep x) = !kx l.1 l.2.1 l.2.2 keep x:=by
 unfold kv;cases h:kx l.1 l.2.1 l.2.2 keep x with
 | false=>exact yp x
 | true =>
   have hn:x.n=false:=by
     unfold kx told known at h;simp at h;exact h.2.1.1
   simp [kH,LtA.bO,dA,hn]
theorem sr(l:aQ)(keep:Int)(vs:List aa):(bY l keep vs).length≤vs.length:=by
 unfold bY;rw [List.length_map];exact List.length_filter_le _ _
noncomputable def S2:Ext:=fq (cR Tryz.prog []) [(169,N1)]
theorem xu:ExtOk Tryz.prog S2:=bD (aS .nil) (.cons Pw .nil)
noncomputable def DF:Code:=(Tryz.f143.body).getD .skip
theorem K7:Tryz.f143.body=some DF:=by kernel_rfl
theorem Uh:Tryz.f143.ntmps=50:=by kernel_rfl
theorem Xw:codeSafe Tryz.prog 50 DF=true:=by kernel_rfl
noncomputable def Ia:Code:=pB (pR (pL (pR (pR (pR (pR (DF)))))))
noncomputable def MI:Code:=pU Ia
theorem Ib:Ia = .loop MI:=by kernel_rfl
theorem Se:codeSafe Tryz.prog 50 MI=true:=by kernel_rfl
theorem S4(f fo fg:Bool)(o p:ae)(n c no co k:Nat)(now e:Int)(R:au)(l:aQ)(us:List aa)(ids:List Int)(W:bj)(X:fj)(Q:Value→List ae→List Nat→List ae→Prop):let b0:ae:=.cells 95 [Iv R.me,Iv R.dest,.bool R.own.n,Iv R.own.t,Iv R.own.o,Iv R.own.r,Iv R.own.d,Iv R.own.i,vS f 3 us.length (c2 f),.bool R.asked,.bool R.want,.bool R.heard,Iv R.last,Iv now,vS fo 2 no co,Iv e] false;let b1:ae:=.cells 95 [Iv R.me,Iv R.dest,.bool R.own.n,Iv R.own.t,Iv R.own.o,Iv R.own.r,Iv R.own.d,Iv R.own.i,vS f 1 n c,.bool R.asked,.bool R.want,.bool R.heard,Iv R.last,Iv now,vS fo 2 no co,Iv e] false;(HT (N1 [vS f 1 n c,.agg #[Iv l.1,Iv l.2.1,Iv l.2.2],Iv R.dest]) (heapOf [b1,o,p,.dead,.cells 28 [Iv l.1,Iv l.2.1,Iv l.2.2] false] aE) (vS f 5 us.length (c2 f)) [(bv f (LtA.ab us)),.dead]∧(lH 30 [b0,o,p,(bv f (LtA.ab us)),.dead]∧(∀ g,bh Tryz.prog 50 W 3 X Ia (av 50 g [(0,pb 0 0),(6,ax),(26,vS f 1 n c),(27,iN (kk f n)),(28,iN 0)] [b0,o,p,(bv f (LtA.ab us)),.dead]) (LQ (fun (_:Unit) g=>(.exit 0,av 50 g [(0,pb 0 0),(6,vI fg 4 k)] [b0,o,p,(bv f (LtA.ab us)),(cS ids)])) (fun (_:Unit)=>True)))∧(∀ (_:Unit) (g:Nat→Value),True→Q (vI fg 4 k) [b0,o,p] [4,3] [(cS ids),(bv f (LtA.ab us))])))=WF Tryz.prog S2 Tryz.f143 50 W 3 X 60 DF ⟨tmsOf [pb 0 0,lA l] 0 .leaf,heapOf [b1,o,p,.dead] aE,[]⟩ (.h 16 (vS f 5 us.length (c2 f)) [(bv f (LtA.ab us)),.dead] (.l 25 1030 [0,1,2,5,3] [0,6,26,27,28] Unit (fun (_:Unit) g=>(.exit 0,av 50 g [(0,pb 0 0),(6,vI fg 4 k)] [b0,o,p,(bv f (LtA.ab us)),(cS ids)])) (fun (_:Unit)=>True) (.stop 3 [4,3] []))) Q:=by cases f <;> cases fo <;> cases fg <;> (intros;kernel_rfl)
theorem I8(f fo fg:Bool)(o p:ae)(n c no co k i:Nat)(now e:Int)(R:au)(us:List aa)(ids ids2:List Int)(x y:aa)(g:Nat→Value)(Q:Exit→St→Prop):let b0:ae:=.cells 95 [Iv R.me,Iv R.dest,.bool R.own.n,Iv R.own.t,Iv R.own.o,Iv R.own.r,Iv R.own.d,Iv R.own.i,vS f 3 us.length (c2 f),.bool R.asked,.bool R.want,.bool R.heard,Iv R.last,Iv now,vS fo 2 no co,Iv e] false;let b1:ae:=.cells 78 [Iv x.id,.bool x.n,Iv x.t,Iv x.o,Iv x.r,Iv x.d,Iv x.i] false;(((decide ((Int.ofNat i)<(Int.ofNat (kk f n))))=true→(fstV ((aIndexAddr Tryz.prog 24 (vS f 1 n c) (iN i)).map fun v=>(v,none)):OV)=some (pb 1 (i*7))∧((aLoad Tryz.prog (heapOf [b0,o,p,(bv f (LtA.ab us)),(cS ids),.dead] aE).get 78 (pb 1 (i*7)):OV)=some (.agg ⟨vc x⟩)∧((fstV ((aIndexAddr Tryz.prog 24 (vS f 3 us.length (c2 f)) (iN i)).map fun v=>(v,none)):OV)=some (pb 3 (i*7))∧((aLoad Tryz.prog (heapOf [b0,o,p,(bv f (LtA.ab us)),(cS ids),.dead,b1] aE).get 78 (pb 3 (i*7)):OV)=some (.agg ⟨vc y⟩)∧((fstV ((aBin Tryz.prog .neq 78 (.agg #[Iv x.id,.bool x.n,Iv x.t,Iv x.o,Iv x.r,Iv x.d,Iv x.i]) (.agg ⟨vc y⟩)).map fun v=>(v,none)):OV)=some (.bool (!(kH x y)))∧((!(kH x y))=true→aAppend Tryz.prog (heapOf [b0,o,p,(bv f (LtA.ab us)),(cS ids),.dead,b1,.cells 3 [Iv x.id] false] aE).get 8 [56,56] [vI fg 4 k,.slice (some ⟨7,0,none⟩) 1 4]=some (.slice (some ⟨8,0,none⟩) (k+1) 4,(gj fg 4 (iB ids2)))∧((some (Iv (wrapF .i64 (Int.ofNat i+Int.ofNat 1))):OV)=some (iN (i+1))∧(lH 30 [b0,o,p,(bv f (LtA.ab us)),(iB ids2)]∧∀ g,Q .normal (av 50 g [(0,pb 0 0),(6,.slice (some ⟨4,0,none⟩) (k+1) 4),(26,vS f 1 n c),(27,iN (kk f n)),(28,iN (i+1))] [b0,o,p,(bv f (LtA.ab us)),(iB ids2)]))))∧((!(kH x y))=false→(some (Iv (wrapF .i64 (Int.ofNat i+Int.ofNat 1))):OV)=some (iN (i+1))∧(lH 30 [b0,o,p,(bv f (LtA.ab us)),(cS ids)]∧∀ g,Q .normal (av 50 g [(0,pb 0 0),(6,vI fg 4 k),(26,vS f 1 n c),(27,iN (kk f n)),(28,iN (i+1))] [b0,o,p,(bv f (LtA.ab us)),(cS ids)]))))))))∧((decide ((Int.ofNat i)<(Int.ofNat (kk f n))))=false→lH 30 [b0,o,p,(bv f (LtA.ab us)),(cS ids)]∧∀ g,Q (.exit 0) (av 50 g [(0,pb 0 0),(6,vI fg 4 k)] [b0,o,p,(bv f (LtA.ab us)),(cS ids)])))=RM Tryz.prog S2 50 3 60 MI (av 50 g [(0,pb 0 0),(6,vI fg 4 k),(26,vS f 1 n c),(27,iN (kk f n)),(28,iN i)] [b0,o,p,(bv f (LtA.ab us)),(cS ids)]) (.b 0 (.v 2 (pb 1 (i*7)) (.v 3 (.agg ⟨vc x⟩) (.v 14 (pb 3 (i*7)) (.v 15 (.agg ⟨vc y⟩) (.w 16 (!(kH x y)) (.e 21 (.slice (some ⟨8,0,none⟩) (k+1) 4) (gj fg 4 (iB ids2)) (.v 23 (iN (i+1)) (.stop 30 [0,1,2,3,8] [0,6,26,27,28]))) (.v 17 (iN (i+1)) (.stop 30 [0,1,2,3,4] [0,6,26,27,28]))))))) (.stop 30 [0,1,2,3,4] [0,6])) Q:=by cases f <;> cases fo <;> cases fg <;> (intros;kernel_rfl)
theorem HK{t o p q r:ae}(h1:aD o=true)(h2:aD p=true)(h3:aD q=true)(h4:aD r=true):lH 30 [t,o,p,q,r]:=fun i hi x hx=>by
 match i,hi with
 | 0,hi=>exact absurd hi (by decide)
 | 1,_=>cases hx; exact bk h1 0
 | 2,_=>cases hx; exact bk h2 0
 | 3,_=>cases hx; exact bk h3 0
 | 4,_=>cases hx; exact bk h4 0
 | i+5,_=>simp at hx
theorem MO(vs us:List aa)(hn:vs.length<1000000)(f fo:Bool)(o p:ae)(c no co:Nat)(ho:aD o=true)(hp:aD p=true)(hrow:vs = []∨∃ ty ro,o = .cells ty (aI vs) ro)(hfl:f=false→vs = []∧o = .dead)(R:au)(l:aQ)(hus:us=vs.map (kv l.1 l.2.1 l.2.2 R.dest))(now e:Int)(W:bj)(X:fj)(g:Nat→Value) :
  bh Tryz.prog 50 W 3 X Ia (av 50 g [(0,pb 0 0),(6,vI (!(([]:List Int)).isEmpty) 4 (([]:List Int)).length),(26,vS f 1 vs.length c),(27,iN (kk f vs.length)),(28,iN (0))] [.cells 95 [.int .i64 R.me,.int .i64 R.dest,.bool R.own.n,.int .i64 R.own.t,.int .i64 R.own.o,.int .i64 R.own.r,.int .i64 R.own.d,.int .i64 R.own.i,vS f 3 us.length (c2 f),.bool R.asked,.bool R.want,.bool R.heard,.int .i64 R.last,.int .i64 now,vS fo 2 no co,.int .i64 e] false,o,p,(bv f (LtA.ab us)),(cS (([]:List Int)))]) (LQ (fun (_:Unit) g=>(.exit 0,av 50 g [(0,pb 0 0),(6,vI (!(vs.foldl (oZ l R.dest) []).isEmpty) 4 (vs.foldl (oZ l R.dest) []).length)] [.cells 95 [.int .i64 R.me,.int .i64 R.dest,.bool R.own.n,.int .i64 R.own.t,.int .i64 R.own.o,.int .i64 R.own.r,.int .i64 R.own.d,.int .i64 R.own.i,vS f 3 us.length (c2 f),.bool R.asked,.bool R.want,.bool R.heard,.int .i64 R.last,.int .i64 now,vS fo 2 no co,.int .i64 e] false,o,p,(bv f (LtA.ab us)),(cS (vs.foldl (oZ l R.dest) []))])) (fun (_:Unit)=>True)):=by
 rw [Ib];have hkk:=ou hfl
 refine bh.fold (vs:=vs) (oZ l R.dest) [] (fun ids i g=>(av 50 g [(0,pb 0 0),(6,vI (!(ids).isEmpty) 4 (ids).length),(26,vS f 1 vs.length c),(27,iN (kk f vs.length)),(28,iN (i))] [.cells 95 [.int .i64 R.me,.int .i64 R.dest,.bool R.own.n,.int .i64 R.own.t,.int .i64 R.own.o,.int .i64 R.own.r,.int .i64 R.own.d,.int .i64 R.own.i,vS f 3 us.length (c2 f),.bool R.asked,.bool R.want,.bool R.heard,.int .i64 R.last,.int .i64 now,vS fo 2 no co,.int .i64 e] false,o,p,(bv f (LtA.ab us)),(cS (ids))])) (fun ids g hk=>?_) (fun i x ids g hx hlt hk=>?_) g
 ·refine bh.oA xu follows Se (I8 f fo (!ids.isEmpty) o p vs.length c no co ids.length vs.length now e R us ids [] (zeroV 0) (zeroV 0) g _) ?_
  refine ⟨fun h_0=>Bool.noConfusion (h_0.symm.trans (zV hkk)),fun h_0=>⟨HK ho hp (aA (aw _)) (eU _),fun g=>?_⟩⟩
  subst hk;exact ⟨by simp,(),g,trivial,rfl,rfl⟩
 ·have hft:f=true:=by cases f with
   | true=>rfl
   | false=>rw [(hfl rfl).1] at hlt; simp at hlt
  have hr:∃ ty ro,o = .cells ty (aI vs) ro:=by
    rcases hrow with h | h
    ·rw [h] at hlt; simp at hlt
    ·exact h
  have b1:∀ (a:ae) (r:List ae),dU (heapOf (a::o::r) aE) 1 vs:=fun a r=>by
    obtain ⟨ty,ro,h⟩:=hr;exact dU.of (ty:=ty) (ro:=ro) (by rw [al,← h]; rfl)
  have b3:∀ (a b d:ae) (r:List ae),dU (heapOf (a::b::d::bv true (LtA.ab us)::r) aE) 3 us:=fun a b d r=>dU.of (ty:=78) (ro:=false) (by rw [al]; rfl)
  have hy:us[i]? = some (kv l.1 l.2.1 l.2.2 R.dest x):=by rw [hus,List.getElem?_map,hx]; rfl
  have hlu:i<us.length:=by rw [hus,List.length_map]; exact hlt
  have hw:(some (Value.int .i64 (wrapF .i64 (Int.ofNat i+Int.ofNat 1))))=some (iN (i+1)):=bA (by omega)
  have hil:ids.length<2000000:=by
    rw [← hk,og];have:=sr l R.dest (vs.take i)
    simp at this ⊢;omega
  have happ:=fun {get:Nat→Option ae} {sz b2:Nat} (hb:get 4=some (cS ids)) (hb2:get b2=some (.cells 3 [iC x.id] false))=>va (sz:=sz) (x:=x.id) (f:=!ids.isEmpty) rfl hb hb2 rfl hil
  have hsame:=Bn l R.dest x
  subst hft;refine bh.oA xu follows Se (I8 true fo (!ids.isEmpty) o p vs.length c no co ids.length i now e R us ids (ids ++ [x.id]) x (kv l.1 l.2.1 l.2.2 R.dest x) g _) ?_
  refine ⟨fun h_0=>⟨LtA.bF (by first | exact hlt | exact hlu),LtA.bU (b1 _ _) hx,LtA.bF (by first | exact hlt | exact hlu),LtA.bU (b3 _ _ _ _) hy,Ub _ _,fun h_16=>⟨happ (bp rfl) (bp rfl),hw,HK ho hp (aA (aw _)) (dY _),fun g=>?_⟩,fun h_16=>⟨hw,HK ho hp (aA (aw _)) (eU _),fun g=>?_⟩⟩,fun h_0=>Bool.noConfusion ((wo hkk hlt).symm.trans h_0)⟩
  all_goals (refine .inl ⟨rfl,g,?_⟩; unfold oZ)
  all_goals (cases hat:kx l.1 l.2.1 l.2.2 R.dest x <;> rw [hat] at hsame)
  all_goals first
    | (exfalso; simp_all; done)
    | (simp only [cond_true,cond_false]; done)
    | (simp only [cond_true]; rw [pO,uk (qI ids x.id),List.length_append]; rfl)
    | rfl
theorem NN{f:Bool}{vs:List aa}{o:ae}{b c:Nat}{hp:Hp}(ho:aD o=true)(hrow:vs = []∨∃ ty ro,o = .cells ty (aI vs) ro)(hfl:f=false→vs = []∧o = .dead)(hg:hp.get b=some o):TN vs (vS f b vs.length c) hp:=by
 cases f with
 | false=>rw [(hfl rfl).1]; exact .inl ⟨rfl,rfl⟩
 | true=>exact .inr ⟨b,c,o,rfl,hg,ho,hrow⟩
def kU(R:au)(f:Bool)(vs:List aa)(l:aQ)(e:Int):mE:=⟨R,f,vs.map (kv l.1 l.2.1 l.2.2 R.dest),c2 f,e,true,!(bY l R.dest vs).isEmpty,(bY l R.dest vs).length,4,iB (bY l R.dest vs)⟩
def forgetA:Gp:=fun R f vs aM _ e rest=>match aM,rest with
 | [_],[v]=>(unL' v).map fun l=>kU R f vs l e
 | _,_=>none
theorem Rl(R:au)(f:Bool)(vs:List aa)(aM:List Value)(fo:Bool)(e:Int)(h0:R.own.id=0)(hn:vs.length<1000000)(hm:gd aM):∀ rest r,forgetA R f vs aM fo e rest=some r→OL 95 Tryz.f143 DF 50 R f vs aM fo e rest r:=fun rest r h=>by
 unfold forgetA at h;split at h
 case h_2=>cases h
 rename_i m v;obtain ⟨l,hl,h2⟩:=Option.map_eq_some_iff.1 h;obtain rfl:=rC hl;cases h2;obtain ⟨now,rfl⟩:∃ now,m = .int .i64 now:=by
  rcases hm with h | ⟨now,h⟩
  ·cases h
  ·exact ⟨now,by simpa using h⟩
 refine ⟨(by intro r hr; simp at hr; subst hr; exact FC _),by simp,⟨dY _,rfl⟩,fun o c p no co W X ho hrow hfl hp hpl=>?_⟩
 have hfg:∀ {hp:Hp},hp.get 1=some o→N1 [vS f 1 vs.length c,lA l,.int .i64 R.dest] hp=_:=fun hg=>Kj l R.dest (NN ho hrow hfl hg) hn fun h=>(hfl h).1
 have hgf:vs.foldl (oZ l R.dest) []=bY l R.dest vs:=by rw [og]; rfl
 have hloop:=fun g=>MO vs _ hn f fo o p c no co ho hp hrow hfl R l rfl now e W X g
 simp only [hgf] at hloop;refine bh.uo xu follows Xw (S4 f fo (!(bY l R.dest vs).isEmpty) o p vs.length c no co (bY l R.dest vs).length now e R l (vs.map (kv l.1 l.2.1 l.2.2 R.dest)) (bY l R.dest vs) W X _) ?_
 refine ⟨hfg (bp rfl),HK ho hp (aA (aw _)) rfl,hloop,fun _ g hok=>⟨rfl,3,4,rfl,rfl,fun _ _=>by decide,fun _=>⟨rfl,1,rfl,rfl⟩,fun _=>⟨rfl,0,rfl,?_⟩⟩⟩
 show some (cS (bY l R.dest vs))=some (bv (!(bY l R.dest vs).isEmpty) (iB (bY l R.dest vs)))
 generalize bY l R.dest vs=ids;cases ids <;> rfl
noncomputable def GF:aB:=toldW 95 forgetA
theorem Pt:aq Tryz.prog 143 GF:=yP Tryz.func143 K7 (by kernel_rfl) Uh Rl
theorem Kp{R:au}{f fo:Bool}{vs:List aa}{s out:Value}{now e:Int}{t:Nat}{hp:Hp}(l:aQ)(h0:R.own.id=0)(hg:hp.get t=some (.cells 95 (ct R s [.int .i64 now] out e) false))(hO:lO s out hp)(hf:eT s=f)(h:TN vs s hp)(hn:vs.length<1000000) :
  HE (GF [pb t 0,lA l]) hp ((kU R f vs l e).Jd (hp.sz+1)) [.put t (.cells 95 ((kU R f vs l e).cells [.int .i64 now] out hp.sz (hp.sz+1)) false),.push (bv f (LtA.ab (kU R f vs l e).vs)),.push (bv (kU R f vs l e).f2 (kU R f vs l e).B2),.push .dead] :=
 FY h0 (.inr ⟨now,rfl⟩) hg hO hf rfl h hn rfl
def aJ(L:List Value):ae:=.cells 50 L false
def Co(vs:List aa)(s:Value)(hp:Hp):Prop:=s=ax∧vs = []∨∃ b c,s=af b vs.length c∧hp.get b=some (LtA.ab vs)
def Ck(M n:Nat)(L:List Value)(o:Value)(hp:Hp):Prop:=o=ax∧n=0∧L = []∨∃ b,o=af b n 40∧hp.get b=some (aJ L)∧L.all inert=true∧L.length=n*13∧n<M
theorem Co.tn{vs:List aa}{s:Value}{hp:Hp}(h:Co vs s hp):TN vs s hp:=by
 rcases h with h | ⟨b,c,rfl,hb⟩
 ·exact .inl h
 ·exact TN.new rfl hb
def ql:Value→Nat
 | .slice _ _ c=>c
 | _=>0
def lenOf:Value→Nat
 | .slice _ n _=>n
 | _=>0
def cellsAt(o:Value)(hp:Hp):List Value:=match o with
 | .slice (some a) _ _=>match hp.get a.block with
   | some (.cells _ L _)=>L
   | _=>[]
 | _=>[]
theorem Ck.eqs{M n:Nat}{L:List Value}{o:Value}{hp:Hp}(h:Ck M n L o hp):n=lenOf o∧L=cellsAt o hp:=by
 rcases h with ⟨rfl,rfl,rfl⟩ | ⟨b,rfl,hb,-⟩
 ·exact ⟨rfl,rfl⟩
 ·exact ⟨rfl,by unfold cellsAt af; simp only [hb]; rfl⟩
def kZ:Value→Option (Nat×Bool)
 | .slice (some a) _ _=>some (a.block,true)
 | _=>none
abbrev uS:=au→Bool→List aa→Nat→List Value→Int→List Value→Option TS
def gL(T:TS)(aM:List Value)(fo:Bool)(n b1 b2:Nat):List Value:=ct T.R (vS T.f b1 T.vs.length T.c) aM (vS (fo||oF T.out) b2 (n+T.out.length) 40) T.e
def QV(TT:TypeId)(T:TS)(aM:List Value)(f fo:Bool)(n:Nat)(L:List Value):Value→List ae→List Nat→List ae→Prop :=
 fun v O K Nw=>∃ x1 x2,aD x1=true∧aD x2=true∧uW (fun c=>match c with | 1=>f | 2=>fo | _=>false) 3 (fun b1 b2=>[.cells TT (gL T aM fo n b1 b2) false,x1,x2]) (fun _ _=>.tuple #[]) T.f (fo||oF T.out) (LtA.ab T.vs) (aJ (L++T.out.flatMap oc)) v O K Nw
structure Ay (TT:TypeId) (M:Nat) (fn:Func) (code:Code) (N:Nat) (R:au) (f:Bool) (vs:List aa) (c:Nat) (aM:List Value) (e:Int) (rest:List Value) (T:TS):Prop where
 flat:∀ x∈rest,eH x
 len:rest.length+1≤N
 run:∀ fo n L W X,L.all inert=true→L.length=n*13→n<M→(f=false→vs = []∧c=0)→(fo=false→n=0∧L = []) →
  bh Tryz.prog N W 3 X code ⟨tmsOf (pb 0 0::rest) 0 .leaf,heapOf [.cells TT (ct R (vS f 1 vs.length c) aM (vS fo 2 n 40) e) false,bv f (LtA.ab vs),bv fo (aJ L),.dead] aE,[]⟩ (ft Tryz.prog fn (QV TT T aM f fo n L))
open Classical in
noncomputable def toldV(TT:TypeId)(M:Nat)(A:uS):aB:=fun args hp=>match args with
 | .pointer (some ⟨t,0,none⟩)::rest=>match hp.get t with
   | some (.cells ty cs false)=>match unW cs with
     | some (R,s,aM,o,e)=>if h:ty=TT∧TT≠78∧TT≠50∧0<M∧Ck M (lenOf o) (cellsAt o hp) o hp∧∃ vs,Co vs s hp∧vs.length<1000000 then (A R (eT s) h.2.2.2.2.2.choose (ql s) aM e rest).map fun T =>
         (.tuple #[],heapOf [bv T.f (LtA.ab T.vs),bv (eT o||oF T.out) (aJ (cellsAt o hp++T.out.flatMap oc)),.dead] (putO [some (t,true),kZ s,kZ o] [.cells TT (gL T aM (eT o) (lenOf o) hp.sz (hp.sz+1)) false,.dead,.dead] hp)) else none
     | none=>none
   | _=>none
 | _=>none
theorem aX{L:List Value}(h:L.all inert=true):aD (aJ L)=true:=h
theorem jE{L:List Value}(h:L.all inert=true)(us:List bb):(L++us.flatMap oc).all inert=true:=by
 rw [List.all_append,h,wz]; rfl
theorem Bg{t:Nat}{k1 k2:Option (Nat×Bool)}:fV [some (t,true),k1,k2] t=0:=by simp [fV,posO,Nat.beq_refl]
theorem Ij{a b:Nat}(h:a≠b):Nat.beq a b=false:=by
 cases e:Nat.beq a b with
 | false=>rfl
 | true=>exact absurd (Nat.eq_of_beq_eq_true e) h
theorem ND{t b:Nat}{k2:Option (Nat×Bool)}(h:t≠b):fV [some (t,true),some (b,true),k2] b=1:=by simp [fV,posO,Ij h,Nat.beq_refl]
theorem NF{t b:Nat}{k1:Option (Nat×Bool)}(h:t≠b)(h1:∀ c w,k1=some (c,w)→c≠b):fV [some (t,true),k1,some (b,true)] b=2:=by
 cases k1 with
 | none=>simp [fV,posO,Ij h,Nat.beq_refl]
 | some cw =>
   obtain ⟨c,w⟩:=cw;simp [fV,posO,Ij h,Ij (h1 c w rfl),Nat.beq_refl]
theorem MY{t:Nat}{k1 k2:Option (Nat×Bool)}(h1:∀ c w,k1=some (c,w)→t≠c)(h2:∀ c w,k2=some (c,w)→t≠c)(h3:∀ c w c' w',k1=some (c,w)→k2=some (c',w')→c≠c'):dz [some (t,true),k1,k2]:=fun i j b wr wr' hi hj=>by
 match i,j with
 | 0,0=>rfl
 | 0,1=>simp at hi hj; exact absurd hi.1 (h1 b wr' hj)
 | 0,2=>simp at hi hj; exact absurd hi.1 (h2 b wr' hj)
 | 1,0=>simp at hi hj; exact absurd hj.1 (h1 b wr hi)
 | 1,1=>rfl
 | 1,2=>simp at hi hj; exact absurd rfl (h3 b wr b wr' hi hj)
 | 2,0=>simp at hi hj; exact absurd hj.1 (h2 b wr hi)
 | 2,1=>simp at hi hj; exact absurd rfl (h3 b wr' b wr hj hi)
 | 2,2=>rfl
 | i+3,_=>simp at hi
 | _,j+3=>simp at hj
theorem iq{TT:TypeId}{M:Nat}{A:uS}{f:FuncId}{fn:Func}{code:Code}{N:Nat}(hf:Tryz.prog.funcs[f]? = some fn)(hb:fn.body=some code)(hnm:(fn.name == "runtime.NumGoroutine")=false)(hN:fn.ntmps=N)
  (H:∀ R f vs c aM e,R.own.id=0→vs.length<1000000→gd aM→∀ rest T,A R f vs c aM e rest=some T→Ay TT M fn code N R f vs c aM e rest T):aq Tryz.prog f (toldV TT M A):=jf follows hf hb hnm fun args hp v hp' h hk=>by
 rw [hN];unfold toldV at h;split at h
 case h_2=>cases h
 rename_i t rest;split at h
 case h_2=>cases h
 rename_i ty cs hg;split at h
 case h_2=>cases h
 rename_i R s aM o e hu;obtain ⟨rfl,h0,hm⟩:=xh hu;split at h
 case isFalse=>cases h
 rename_i hx;obtain ⟨rfl,h78,h50,hM,hO,hx⟩:=hx;obtain ⟨hV,hn⟩:=hx.choose_spec;generalize hx.choose=vs at *;obtain ⟨T,hA,h2⟩:=Option.map_eq_some_iff.1 h;cases h2;have RR:=H R _ vs _ aM e h0 hn hm _ T hA
 have hlt:t<hp.sz:=cU hk hg
 generalize W9:lenOf o=n at *;generalize hL1:cellsAt o hp=L at *

 have hrt:sf (.pointer (some ⟨t,0,none⟩)::rest) hp t:=.arg (.head _) (by simp [j7,jD])
 have hsR:∀ {b n c:Nat} {x:Value},x=af b n c→x∈ct R s aM o e→sf (.pointer (some ⟨t,0,none⟩)::rest) hp b:=fun {b n c x} hx hmem =>
  .GW hrt hg (List.mem_flatMap.2 ⟨x,hmem,by subst hx; simp [j7,jD,af]⟩)
 have hfL:eT o=false→n=0∧L = []:=fun h=>by
  rcases hO with ⟨-,h1,h2⟩ | ⟨b,rfl,-⟩
  ·exact ⟨h1,h2⟩
  ·cases h
 have hLi:L.all inert=true:=by
  rcases hO with ⟨-,-,rfl⟩ | ⟨b,-,-,h,-⟩
  ·rfl
  ·exact h
 have hLl:L.length=n*13:=by
  rcases hO with ⟨-,rfl,rfl⟩ | ⟨b,-,-,-,h,-⟩
  ·rfl
  ·exact h
 have hLn:n<M:=by
  rcases hO with ⟨-,rfl,rfl⟩ | ⟨b,-,-,-,-,h⟩
  ·exact hM
  ·exact h
 have hfV:eT s=false→vs = []∧ql s=0:=fun h=>by
  rcases hV with ⟨rfl,h1⟩ | ⟨b,c,rfl,-⟩
  ·exact ⟨h1,rfl⟩
  ·cases h
 have hV1:∀ {b:Nat} {w:Bool},kZ s=some (b,w)→w=true∧s=af b vs.length (ql s)∧hp.get b=some (LtA.ab vs):=fun {b w} h=>by
  rcases hV with ⟨rfl,-⟩ | ⟨b',c,rfl,hb⟩
  ·cases h
  ·cases h; exact ⟨rfl,rfl,hb⟩
 have hO1:∀ {b:Nat} {w:Bool},kZ o=some (b,w)→w=true∧o=af b n 40∧hp.get b=some (aJ L):=fun {b w} h=>by
  rcases hO with ⟨rfl,-⟩ | ⟨b',rfl,hb,-⟩
  ·cases h
  ·cases h; exact ⟨rfl,rfl,hb⟩
 have d1:∀ c w,kZ s=some (c,w)→t≠c:=fun c w h e=>by
  obtain ⟨-,-,h3⟩:=hV1 h;subst e;rw [hg] at h3;simp [LtA.ab] at h3;exact h78 h3.1
 have d2:∀ c w,kZ o=some (c,w)→t≠c:=fun c w h e=>by
  obtain ⟨-,-,h3⟩:=hO1 h;subst e;rw [hg] at h3;simp [aJ] at h3;exact h50 h3.1
 have d3:∀ c w c' w',kZ s=some (c,w)→kZ o=some (c',w')→c≠c':=fun c w c' w' h h' e=>by
  obtain ⟨-,-,h3⟩:=hV1 h;obtain ⟨-,-,h4⟩:=hO1 h';subst e;rw [h3] at h4;simp [LtA.ab,aJ] at h4
 have hsn:nice1 s=true:=by rcases hV with ⟨rfl,-⟩ | ⟨b,c,rfl,-⟩ <;> rfl
 have hon:nice1 o=true:=by rcases hO with ⟨rfl,-⟩ | ⟨b,rfl,-⟩ <;> rfl
 have es:mv1 (fV [some (t,true),kZ s,kZ o]) s=vS (eT s) 1 vs.length (ql s):=by
  rcases hV with ⟨rfl,h1⟩ | ⟨b,c,rfl,hb⟩
  ·rfl
  ·have:fV [some (t,true),kZ (af b vs.length c),kZ o] b=1:=ND (d1 b true rfl)
   show Value.slice (some ⟨fV _ b,0,none⟩) vs.length c=_
   rw [this]; rfl
 have eo:mv1 (fV [some (t,true),kZ s,kZ o]) o=vS (eT o) 2 n 40:=by
  rcases hO with ⟨rfl,h1,-⟩ | ⟨b,rfl,hb,-⟩
  ·rfl
  ·have:fV [some (t,true),kZ s,kZ (af b n 40)] b=2:=NF (d2 b true rfl) fun c w h=>d3 c w b true h rfl
   show Value.slice (some ⟨fV _ b,0,none⟩) n 40=_
   rw [this]; rfl
 have p1:pinB [some (t,true),kZ s,kZ o] hp (kZ s)=bv (eT s) (LtA.ab vs):=by
  rcases hV with ⟨rfl,h1⟩ | ⟨b,c,rfl,hb⟩
  ·rfl
  ·show eD (mvB _ ((hp.get b).getD .dead)) true=_
   rw [hb,Option.getD_some,bQ (o:=LtA.ab vs) (LtA.aw vs)]; rfl
 have p2:pinB [some (t,true),kZ s,kZ o] hp (kZ o)=bv (eT o) (aJ L):=by
  rcases hO with ⟨rfl,h1,-⟩ | ⟨b,rfl,hb,-⟩
  ·rfl
  ·show eD (mvB _ ((hp.get b).getD .dead)) true=_
   rw [hb,Option.getD_some,bQ (aX hLi)]; rfl
 have ep:di [some (t,true),kZ s,kZ o] hp=heapOf [.cells ty (ct R (vS (eT s) 1 vs.length (ql s)) aM (vS (eT o) 2 n 40) e) false,bv (eT s) (LtA.ab vs),bv (eT o) (aJ L),.dead] aE:=by
  unfold di;have hz:pinB [some (t,true),kZ s,kZ o] hp (some (t,true)) = .cells ty (ct R (vS (eT s) 1 vs.length (ql s)) aM (vS (eT o) 2 n 40) e) false:=by
    rw [← es,← eo,← uK hm hsn hon];simp [pinB,hg,eD,mvB]
  simp only [List.map_cons,List.map_nil,hz,p1,p2];rfl
 have ea:(Value.pointer (some ⟨t,0,none⟩)::rest).map (mv3 (fV [some (t,true),kZ s,kZ o]))=pb 0 0::rest:=by
  rw [List.map_cons,lj RR.flat];simp [mv3,mv2,mv1,pb,Bg]
 refine ⟨[some (t,true),kZ s,kZ o],[.cells ty (gL T aM (eT o) n hp.sz (hp.sz+1)) false,.dead,.dead],[bv T.f (LtA.ab T.vs),bv (eT o||oF T.out) (aJ (L++T.out.flatMap oc))],rfl,MY d1 d2 d3,fun i b wr hi=>?_,?_,by have:=RR.len; simpa using this,fun W X=>?_⟩
 ·match i with
  | 0 =>
    simp at hi;obtain ⟨rfl,rfl⟩:=hi;refine ⟨⟨_,hg,(fun _ h=>by cases h),?_⟩,hrt⟩
    show ((ct R s aM o e).all ok2&&(false || !keysBox (ct R s aM o e)))=true
    rw [uL hm hsn hon,xe]; rfl
  | 1 =>
    obtain ⟨rfl,e1,hb⟩:=hV1 (by simpa using hi)
    exact ⟨⟨_,hb,(fun _ h=>by cases h),aY (LtA.aw vs)⟩,hsR e1 jU.1⟩
  | 2 =>
    obtain ⟨rfl,e1,hb⟩:=hO1 (by simpa using hi)
    exact ⟨⟨_,hb,(fun _ h=>by cases h),aY (aX hLi)⟩,hsR e1 jU.2⟩
  | i+3=>simp at hi
 ·rw [List.all_cons,Bool.and_eq_true]
  exact ⟨rfl,List.all_eq_true.2 fun x hx=>(RR.flat x hx).1⟩
 ·rw [ea,ep]
  refine bh.mono (RR.run (eT o) n L W X hLi hLl hLn hfV hfL) fun e' st q=>?_
  refine As.fin (K0:=[some (t,true),kZ s,kZ o]) (B:=hp.sz) (O:=[.cells ty (gL T aM (eT o) n hp.sz (hp.sz+1)) false,.dead,.dead]) (Nw:=[bv T.f (LtA.ab T.vs),bv (eT o||oF T.out) (aJ (L++T.out.flatMap oc))]) (v:=.tuple #[]) (g:=hp.get) (fn:=fn) (P:=Tryz.prog) (e:=e') (st:=st) ?_
  obtain ⟨q1,q2,v1,z,O,K,Nw,q3,q4,q5,x1,x2,i1,i2,q6⟩:=q;refine ⟨q1,q2,_,z,_,_,_,q3,q4,q5,?_⟩
  refine uW.end (K0:=[some (t,true),kZ s,kZ o]) q6 (fun b hb=>?_) (fun _ _=>rfl) (fun b1 b2=>?_) (fun _ _=>rfl) (fun _ _ _ _ _ _=>by simp [mv3]) (fun g b1 b2 h1 h2 hK i b hi'=>?_) (fun s=>bQ (LtA.aw _)) (bN (vs:=vs) (LtA.aw _)) rfl (fun s=>bQ (aX (jE hLi _))) (bN (vs:=vs) (aX (jE hLi _))) rfl fun b1 b2 i b hi' hdd=>?_
  ·match b,hb with
   | 1,hb =>
     rcases hV with ⟨rfl,-⟩ | ⟨b,c,rfl,-⟩
     ·cases hb
     ·exact ⟨b,rfl,rfl⟩
   | 2,hb =>
     rcases hO with ⟨rfl,-⟩ | ⟨b,rfl,-⟩
     ·cases hb
     ·exact ⟨b,rfl,rfl⟩
  ·simp only [List.all_cons,List.all_nil,Bool.and_true,bN (vs:=vs) i1,bN (vs:=vs) i2]
   exact uL hm (rE _ _ _ _) (rE _ _ _ _)
  ·match i with
   | 0 =>
     left
     simp only [List.getElem?_cons_zero,Option.map_some,mvB,gL]
     rw [uK hm (rE _ _ _ _) (rE _ _ _ _),qH,qH,yQ (b':=hp.sz) h1,yQ (b:=g b2) (b':=hp.sz+1) h2]
   | 1=>exact .inr rfl
   | 2=>exact .inr rfl
   | i+3=>simp at hi'
  ·match i with
   | 0=>simp at hi'
   | 1=>have:=(hV1 (by simpa using hi')).1; cases this
   | 2=>have:=(hO1 (by simpa using hi')).1; cases this
   | i+3=>simp at hi'
def bL(f:Bool)(b:Nat):List eI:=bif f then [.put b .dead] else []
theorem kO{TT:TypeId}{M:Nat}{A:uS}{R:au}{f fo:Bool}{vs:List aa}{aM rest L:List Value}{e:Int}{t b c bo n:Nat}{hp:Hp}{T:TS}(h0:R.own.id=0)(hm:gd aM)(hTT:TT≠78∧TT≠50)(hg:hp.get t=some (.cells TT (ct R (vS f b vs.length c) aM (vS fo bo n 40) e) false))
  (hV:hp.get b=some (bv f (LtA.ab vs))) (hf:f=false→vs = []∧c=0) (hO:hp.get bo=some (bv fo (aJ L))) (hfo:fo=false→n=0∧L = []) (hLi:L.all inert=true) (hLl:L.length=n*13) (hLn:n<M) (hn:vs.length<1000000) (hA:A R f vs c aM e rest=some T) :
  HE (toldV TT M A (pb t 0::rest)) hp (.tuple #[]) ([.put t (.cells TT (gL T aM fo n hp.sz (hp.sz+1)) false)]++bL f b++bL fo bo ++ [.push (bv T.f (LtA.ab T.vs)),.push (bv (fo||oF T.out) (aJ (L++T.out.flatMap oc))),.push .dead]):=by
 have hOs:Ck M n L (vS fo bo n 40) hp:=by
  cases fo with
  | false=>obtain ⟨rfl,rfl⟩:=hfo rfl; exact .inl ⟨rfl,rfl,rfl⟩
  | true=>exact .inr ⟨bo,rfl,hO,hLi,hLl,hLn⟩
 have hVs:Co vs (vS f b vs.length c) hp:=by
  cases f with
  | false=>exact .inl ⟨rfl,(hf rfl).1⟩
  | true=>exact .inr ⟨b,c,rfl,hV⟩
 obtain ⟨e1,e2⟩:=hOs.eqs;have hc:ql (vS f b vs.length c)=c:=by
  cases f with
  | false=>rw [(hf rfl).2]; rfl
  | true=>rfl
 unfold HE toldV pb;have hx:TT=TT∧TT≠78∧TT≠50∧0<M∧Ck M (lenOf (vS fo bo n 40)) (cellsAt (vS fo bo n 40) hp) (vS fo bo n 40) hp∧∃ us,Co us (vS f b vs.length c) hp∧us.length<1000000:=⟨rfl,hTT.1,hTT.2,Nat.lt_of_le_of_lt (Nat.zero_le _) hLn,by rw [← e1,← e2]; exact hOs,vs,hVs,hn⟩
 simp only [hg,F5 h0 hm];rw [dif_pos hx,hx.2.2.2.2.2.choose_spec.1.tn.uniq hVs.tn,pP,pP,hc,← e1,← e2,hA];cases f <;> cases fo <;> rfl
theorem QV.of{TT:TypeId}{T T':TS}{aM:List Value}{f fo f2:Bool}{n n2:Nat}{L L2:List Value}{v:Value}{O:List ae}{K:List Nat}{Nw:List ae}(hL:L2=L++T'.out.flatMap oc)(hn:n2=n+T'.out.length)(hf:f2=(fo||oF T'.out))
  (q:∃ x1 x2,aD x1=true∧aD x2=true∧uW (fun c=>match c with | 1=>f | 2=>fo | _=>false) 3 (fun b1 b2=>[.cells TT (ct T'.R (vS T'.f b1 T'.vs.length T'.c) aM (vS f2 b2 n2 40) T'.e) false,x1,x2]) (fun _ _=>.tuple #[]) T'.f f2 (LtA.ab T'.vs) (aJ L2) v O K Nw) (h:T'=T):QV TT T aM f fo n L v O K Nw:=by
 subst h hL hn hf;exact q
theorem ug(x:bb):(oc x).all inert=true:=rfl
theorem Il(x:bb):(oc x).length=13:=rfl
theorem pf:Tryz.prog.underlying 34=some (.slice 50):=by kernel_rfl
theorem Jw:∃ i,Tryz.prog.info? 50=some i∧i.size=13∧i.bytes≤32768:=by
 have h:(Tryz.prog.info? 50).map (fun i=>(i.size,decide (i.bytes≤32768)))=some (13,true):=by kernel_rfl
 obtain ⟨i,h1,h2⟩:=Option.map_eq_some_iff.1 h;simp only [Prod.mk.injEq,decide_eq_true_eq] at h2;exact ⟨i,h1,h2.1,h2.2⟩
theorem JS:∃ z,tzero Tryz.prog 50=some z∧z.length=13:=by
 have h:(tzero Tryz.prog 50).map (fun z=>z.length)=some 13:=by kernel_rfl
 obtain ⟨z,h1,h2⟩:=Option.map_eq_some_iff.1 h;exact ⟨z,h1,h2⟩
theorem qf{get:Nat→Option ae}{sz b b2 n:Nat}{L:List Value}{x:bb}(hl:n<2000010)(hL:L.length=n*13)(hb:get b=some (aJ L))(hb2:get b2=some (.cells 50 (oc x) false)) :
  aAppend Tryz.prog get sz [34,34] [.slice (some ⟨b,0,none⟩) n 40,.slice (some ⟨b2,0,none⟩) 1 40]=some (.slice (some ⟨sz,0,none⟩) (n+1) 40,[.put b .dead,.push (aJ (L++oc x))]):=by
 obtain ⟨i,hi,h1,h8⟩:=Jw;obtain ⟨z,hz,hzl⟩:=JS;have hsrc:aSrc Tryz.prog get 13 z (.slice 50) (.slice (some ⟨b2,0,none⟩) 1 40)=some (oc x,1):=by
  unfold aSrc;simp only [srcLen,srcCells,hb2];rw [if_neg (by omega),if_neg (by omega),cu (n:=1*13) rfl]
  rfl
 unfold aAppend;simp only [pf,hi,hz,h1,hzl];rw [if_neg (by simp; omega)]
 simp only [hsrc];rw [if_neg (by simp [isOne,oc])]
 try simp only
 rw [if_neg (by omega),if_neg (by omega)]
 have hb':get b=some (.cells 50 L false):=hb
 simp only [hb'];rw [cu (n:=n*13) hL];try simp only
 rw [if_neg (by decide),if_pos ⟨trivial,trivial,trivial⟩,if_neg (by rw [hL]; omega)]
 rfl
theorem kl{get:Nat→Option ae}{sz b b2 n:Nat}{L:List Value}{x:bb}{f:Bool}(hf:f=false→n=0∧L = [])(hl:n<2000010)(hL:L.length=n*13)(hb:get b=some (bv f (aJ L)))(hb2:get b2=some (.cells 50 (oc x) false)) :
  aAppend Tryz.prog get sz [34,34] [vS f b n 40,.slice (some ⟨b2,0,none⟩) 1 40]=some (.slice (some ⟨sz,0,none⟩) (n+1) 40,gj f b (aJ (L++oc x))):=by
 cases f with
 | true=>exact qf hl hL hb hb2
 | false =>
   obtain ⟨rfl,rfl⟩:=hf rfl;obtain ⟨i,hi,h1,h8⟩:=Jw;obtain ⟨z,hz,hzl⟩:=JS;have hsrc:aSrc Tryz.prog get 13 z (.slice 50) (.slice (some ⟨b2,0,none⟩) 1 40)=some (oc x,1):=by
     unfold aSrc;simp only [srcLen,srcCells,hb2];rw [if_neg (by omega),if_neg (by omega),cu (n:=1*13) rfl]
     rfl
   show aAppend Tryz.prog get sz [34,34] [ax,.slice (some ⟨b2,0,none⟩) 1 40]=some (.slice (some ⟨sz,0,none⟩) 1 40,[.push (aJ (oc x))])
   unfold aAppend;simp only [pf,hi,hz,h1,hzl];rw [if_neg (by simp; omega)]
   simp only [hsrc];rw [if_neg (by simp [isOne,oc])]
   simp only [ax];rw [if_neg (by omega),if_neg (by omega)]
   rfl
theorem n3{own:aa}{vs:List aa}{now:Int}{lost:Bool}(h:((bJ own vs now lost).2.1==Int.ofNat 4)=true):bG (aT vs)≠[]:=by
 intro h0;unfold bJ lQ caseW at h;rw [h0] at h;simp only [List.getLast?_nil] at h
 revert h
 cases dG own.n own.t own.o own.r own.d own.i <;> cases aF vs <;> cases decide (now<Int.ofNat 0) <;> cases decide (now>Int.ofNat 4611686018427387903) <;> cases own.n <;> cases (!(bM 1 own vs).isEmpty) <;> simp
theorem DW{ls:List aQ}(h:ls≠[]):ls[0]? = some (ls.headD zL):=by
 cases ls with
 | nil=>exact absurd rfl h
 | cons=>rfl
theorem Kr{vs:List aa}{s:Value}{hp:Hp}(h:TN vs s hp)(hn:vs.length<1000000)(hne:bG (aT vs)≠[]):yX [s] hp=some (.slice (some ⟨hp.sz,0,none⟩) (bG (aT vs)).length 11,heapOf [ownL (bG (aT vs)),.dead] hp):=by
 rw [Cd h hn];generalize bG (aT vs)=ls at *;cases ls with
 | nil=>exact absurd rfl hne
 | cons=>rfl
theorem wG{f:Bool}{b n c bo no co:Nat}{p:ae}{hp:Hp}(hne:Nat.beq b bo=false)(hg:hp.get bo=some p)(hi:aD p=true):lO (vS f b n c) (af bo no co) hp :=
 .inr ⟨bo,no,co,p,rfl,hg,hi,fun b' n' c' h e=>by
  cases f with
  | false=>cases h
  | true =>
    simp [vS,af] at h;rw [h.1,e,Nat.beq_refl] at hne;cases hne⟩
theorem EL{f fo:Bool}{b n c bo no co:Nat}{p:ae}{hp:Hp}(hne:Nat.beq b bo=false)(hg:hp.get bo=some (bv fo p))(hi:aD p=true):lO (vS f b n c) (vS fo bo no co) hp:=by
 cases fo with
 | false=>exact .inl rfl
 | true=>exact wG hne hg hi
section
variable {R:au} {f:Bool} {vs:List aa} {out:Value} {now e:Int} {t b c:Nat} {hp:Hp} {l:aQ}
theorem yW(hf:f=false→vs = [])(hn:vs.length<1000000)(h0:R.own.id=0)(hg:hp.get t=some (.cells 95 (ct R (vS f b vs.length c) [.int .i64 now] out e) false))(hO:lO (vS f b vs.length c) out hp)(hb:hp.get b=some (bv f (LtA.ab vs))) :
  HE (GF [pb t 0,lA l]) hp (vS (!(bY l R.dest vs).isEmpty) (hp.sz+1) (bY l R.dest vs).length 4) [.put t (.cells 95 (ct R (vS f hp.sz (vs.map (kv l.1 l.2.1 l.2.2 R.dest)).length (c2 f)) [.int .i64 now] out e) false),.push (bv f (LtA.ab (vs.map (kv l.1 l.2.1 l.2.2 R.dest)))),.push (bv (!(bY l R.dest vs).isEmpty) (iB (bY l R.dest vs))),.push .dead] :=
 Kp (fo:=true) l h0 hg hO pP (pd hb hf) hn
end
theorem MM{b c n:Nat}(h:0<n):fstV ((aIndexAddr Tryz.prog 172 (.slice (some ⟨b,0,none⟩) n c) (iN 0)).map fun v=>(v,none))=some (pb b (0*3)):=Eo h
namespace TS
theorem Fm(R:au)(vs:List aa)(f:Bool)(c:Nat)(us:List bb)(e:Int):(⟨R,vs,f,c,us,e⟩:TS).ga=⟨((⟨R,vs,f,c,[],e⟩:TS).ga).R,((⟨R,vs,f,c,[],e⟩:TS).ga).vs,((⟨R,vs,f,c,[],e⟩:TS).ga).f,((⟨R,vs,f,c,[],e⟩:TS).ga).c,us++((⟨R,vs,f,c,[],e⟩:TS).ga).out,((⟨R,vs,f,c,[],e⟩:TS).ga).e⟩:=by
 simp only [ga,sU,own,ask,tell,send,err];cases ((bW R.me vs).2==Int.ofNat 0) <;> cases ((bW R.me vs).2==Int.ofNat 7) <;> cases R.asked <;> simp
theorem fQ(R:au)(vs:List aa)(f:Bool)(c:Nat)(us:List bb)(e:Int):(⟨R,vs,f,c,us,e⟩:TS).dS=⟨((⟨R,vs,f,c,[],e⟩:TS).dS).R,((⟨R,vs,f,c,[],e⟩:TS).dS).vs,((⟨R,vs,f,c,[],e⟩:TS).dS).f,((⟨R,vs,f,c,[],e⟩:TS).dS).c,us++((⟨R,vs,f,c,[],e⟩:TS).dS).out,((⟨R,vs,f,c,[],e⟩:TS).dS).e⟩:=by
 unfold dS home;simp only;cases (R.own.n&&(R.want&&(!R.asked && !R.me==R.dest)))
 ·simp
 ·simp only [cond_true]
  rw [Fm]
end TS
noncomputable def Wp:Ext:=fq (cR Tryz.prog []) [(159,Oz)]
theorem Kc:ExtOk Tryz.prog Wp:=bD (aS .nil) (.cons TG .nil)
noncomputable def HC:Code:=(Tryz.f129.body).getD .skip
theorem Lc:Tryz.f129.body=some HC:=by kernel_rfl
theorem Ul:Tryz.f129.ntmps=51:=by kernel_rfl
theorem XA:codeSafe Tryz.prog 51 HC=true:=by kernel_rfl
theorem S9(f fo:Bool)(vs:List aa)(c n:Nat)(L:List Value)(R:au)(now e:Int)(a0:aa×Int)(Q:Value→List ae→List Nat→List ae→Prop):let v0:Value:=.slice (some ⟨8,0,none⟩) (n+1) 40;let b1:ae:=.cells 95 (ct R (vS f 1 vs.length c) [Iv now] (vS fo 2 n 40) e) false;let b2:ae:=.cells 23 [.bool a0.1.n,Iv a0.1.t,Iv a0.1.o,Iv a0.1.r,Iv a0.1.d,Iv a0.1.i] false;let h3:Hp:=heapOf [b1,(bv f (LtA.ab vs)),(bv fo (aJ L)),.dead] aE;(HT (Oz [vS f 1 vs.length c,Iv R.me]) (h3) (.tuple #[cN a0.1,Iv a0.2]) [.dead]∧(((a0.2==(Int.ofNat 0))=true→aAppend Tryz.prog (heapOf [.cells 95 (ct (⟨R.me,R.dest,a0.1,false,R.want,R.heard,R.last⟩) (vS f 1 vs.length c) [Iv now] (vS fo 2 n 40) e) false,(bv f (LtA.ab vs)),(bv fo (aJ L)),.dead,.dead,b2,.cells 30 (lK ⟨0,(Int.ofNat 2),R.dest,a0.1,zL,(Int.ofNat 0)⟩) false,.cells 50 (oc ⟨(Int.ofNat 255),(Int.ofNat 2),R.dest,a0.1,zL,(Int.ofNat 0)⟩) false] aE).get 8 [34,34] [vS fo 2 n 40,.slice (some ⟨7,0,none⟩) 1 40]=some (v0,(gj fo 2 (aJ (L++oc ⟨(Int.ofNat 255),(Int.ofNat 2),R.dest,a0.1,zL,(Int.ofNat 0)⟩))))∧(Q (.tuple #[]) [.cells 95 (ct (⟨R.me,R.dest,a0.1,false,R.want,R.heard,R.last⟩) (vS f 1 vs.length c) [Iv now] (v0) e) false,(bv f (LtA.ab vs)),.dead] [1,8] [(bv f (LtA.ab vs)),(aJ (L++oc ⟨(Int.ofNat 255),(Int.ofNat 2),R.dest,a0.1,zL,(Int.ofNat 0)⟩))]))∧((a0.2==(Int.ofNat 0))=false→((a0.2==(Int.ofNat 7))=true→((!R.asked)=true→aAppend Tryz.prog (heapOf [.cells 95 (ct (⟨R.me,R.dest,R.own,true,R.want,R.heard,R.last⟩) (vS f 1 vs.length c) [Iv now] (vS fo 2 n 40) e) false,(bv f (LtA.ab vs)),(bv fo (aJ L)),.dead,.dead,b2,.cells 30 (lK ⟨0,(Int.ofNat 1),R.dest,zH,zL,(Int.ofNat 0)⟩) false,.cells 50 (oc ⟨(Int.ofNat 255),(Int.ofNat 1),R.dest,zH,zL,(Int.ofNat 0)⟩) false] aE).get 8 [34,34] [vS fo 2 n 40,.slice (some ⟨7,0,none⟩) 1 40]=some (v0,(gj fo 2 (aJ (L++oc ⟨(Int.ofNat 255),(Int.ofNat 1),R.dest,zH,zL,(Int.ofNat 0)⟩))))∧(Q (.tuple #[]) [.cells 95 (ct (⟨R.me,R.dest,R.own,true,R.want,R.heard,R.last⟩) (vS f 1 vs.length c) [Iv now] (v0) e) false,(bv f (LtA.ab vs)),.dead] [1,8] [(bv f (LtA.ab vs)),(aJ (L++oc ⟨(Int.ofNat 255),(Int.ofNat 1),R.dest,zH,zL,(Int.ofNat 0)⟩))]))∧((!R.asked)=false→Q (.tuple #[]) [b1,(bv f (LtA.ab vs)),(bv fo (aJ L))] [1,2] [(bv f (LtA.ab vs)),(bv fo (aJ L))]))∧((a0.2==(Int.ofNat 7))=false→Q (.tuple #[]) [.cells 95 (ct R (vS f 1 vs.length c) [Iv now] (vS fo 2 n 40) a0.2) false,(bv f (LtA.ab vs)),(bv fo (aJ L))] [1,2] [(bv f (LtA.ab vs)),(bv fo (aJ L))]))))=RF Tryz.prog Wp Tryz.f129 60 HC ⟨tmsOf [pb 0 0] 0 .leaf,h3,[]⟩ (.h 10 (.tuple #[cN a0.1,Iv a0.2]) [.dead] (.b 18 (.e 59 (v0) (gj fo 2 (aJ (L++oc ⟨(Int.ofNat 255),(Int.ofNat 2),R.dest,a0.1,zL,(Int.ofNat 0)⟩))) (.stop 3 [1,8] [])) (.b 20 (.b 27 (.e 53 (v0) (gj fo 2 (aJ (L++oc ⟨(Int.ofNat 255),(Int.ofNat 1),R.dest,zH,zL,(Int.ofNat 0)⟩))) (.stop 3 [1,8] [])) (.stop 3 [1,2] [])) (.stop 3 [1,2] [])))) Q:=by cases f <;> cases fo <;> (intros;kernel_rfl)
def seekA:uS:=fun R f vs c aM e rest=>match aM,rest with
 | [.int .i64 _],[]=>some (⟨R,vs,f,c,[],e⟩:TS).ga
 | _,_=>none
theorem Rq(R:au)(f:Bool)(vs:List aa)(c:Nat)(aM:List Value)(e:Int)(h0:R.own.id=0)(hn:vs.length<1000000)(hm:gd aM):∀ rest T,seekA R f vs c aM e rest=some T→Ay 95 2000000 Tryz.f129 HC 51 R f vs c aM e rest T:=fun rest T h=>by
 unfold seekA at h;split at h
 case h_2=>cases h
 rename_i now;cases h;refine ⟨(by intro x hx; simp at hx),by simp,fun fo n L W X hLi hLl hLn hf0 hfo=>?_⟩
 have had0:∀ {hp:Hp},hp.get 1=some (bv f (LtA.ab vs))→Oz [vS f 1 vs.length c,.int .i64 R.me] hp=some (wK (bW R.me vs),heapOf [.dead] hp):=fun hg=>Km R.me (pd hg fun h=>(hf0 h).1) hn
 refine bh.cq Kc follows XA (S9 f fo vs c n L R now e (bW R.me vs) _) ?_
 unfold TS.ga;simp only;generalize bW R.me vs=a0 at *;refine ⟨had0 (bp rfl),fun h_18=>⟨kl hfo (by omega) hLl (bp rfl) (bp rfl),QV.of (T':=(⟨⟨R.me,R.dest,a0.1,false,R.want,R.heard,R.last⟩,vs,f,c,[⟨(Int.ofNat 255),(Int.ofNat 2),R.dest,a0.1,zL,(Int.ofNat 0)⟩],e⟩:TS)) (f2:=true) (n2:=(n+1)) (L2:=(L++oc ⟨(Int.ofNat 255),(Int.ofNat 2),R.dest,a0.1,zL,(Int.ofNat 0)⟩)) (by simp) (by simp <;> omega) (by simp [oF]) ⟨_,_,(aA (LtA.aw _)),rfl,rfl,1,8,rfl,rfl,fun _ _=>by decide,fun h=>⟨h,0,rfl,rfl⟩,fun h=>⟨rfl,1,rfl,rfl⟩⟩ ?_⟩,fun h_18=>⟨fun h_20=>⟨fun h_27=>⟨kl hfo (by omega) hLl (bp rfl) (bp rfl),QV.of (T':=(⟨⟨R.me,R.dest,R.own,true,R.want,R.heard,R.last⟩,vs,f,c,[⟨(Int.ofNat 255),(Int.ofNat 1),R.dest,zH,zL,(Int.ofNat 0)⟩],e⟩:TS)) (f2:=true) (n2:=(n+1)) (L2:=(L++oc ⟨(Int.ofNat 255),(Int.ofNat 1),R.dest,zH,zL,(Int.ofNat 0)⟩)) (by simp) (by simp <;> omega) (by simp [oF]) ⟨_,_,(aA (LtA.aw _)),rfl,rfl,1,8,rfl,rfl,fun _ _=>by decide,fun h=>⟨h,0,rfl,rfl⟩,fun h=>⟨rfl,1,rfl,rfl⟩⟩ ?_⟩,fun h_27=>QV.of (T':=(⟨R,vs,f,c,[],e⟩:TS)) (f2:=fo) (n2:=n) (L2:=L) (by simp) (by simp <;> omega) (by simp [oF]) ⟨_,_,(aA (LtA.aw _)),(aA (aX hLi)),rfl,1,2,rfl,rfl,fun _ _=>by decide,fun h=>⟨h,0,rfl,rfl⟩,fun h=>⟨h,1,rfl,rfl⟩⟩ ?_⟩,fun h_20=>QV.of (T':=(⟨R,vs,f,c,[],a0.2⟩:TS)) (f2:=fo) (n2:=n) (L2:=L) (by simp) (by simp <;> omega) (by simp [oF]) ⟨_,_,(aA (LtA.aw _)),(aA (aX hLi)),rfl,1,2,rfl,rfl,fun _ _=>by decide,fun h=>⟨h,0,rfl,rfl⟩,fun h=>⟨h,1,rfl,rfl⟩⟩ ?_⟩⟩
 all_goals (simp only [TS.sU,TS.tell,TS.send,TS.own,TS.ask,TS.err, *,cond_true,cond_false]; try rfl)
noncomputable def GG:aB:=toldV 95 2000000 seekA
theorem HY:aq Tryz.prog 129 GG:=iq Tryz.func129 Lc (by kernel_rfl) Ul Rq
theorem xx{R:au}{f fo:Bool}{vs:List aa}{L:List Value}{now e:Int}{t b c bo n:Nat}{hp:Hp}{T:TS}(hT:(⟨R,vs,f,c,[],e⟩:TS).ga=T)(h0:R.own.id=0)(hg:hp.get t=some (.cells 95 (ct R (vS f b vs.length c) [.int .i64 now] (vS fo bo n 40) e) false))(hV:hp.get b=some (bv f (LtA.ab vs)))(hf:f=false→vs = []∧c=0)(hO:hp.get bo=some (bv fo (aJ L)))(hfo:fo=false→n=0∧L = [])
  (hLi:L.all inert=true) (hLl:L.length=n*13) (hLn:n<2000000) (hn:vs.length<1000000) :
  HE (GG ([pb t 0])) hp (.tuple #[]) ([.put t (.cells 95 (gL T [.int .i64 now] fo n hp.sz (hp.sz+1)) false)]++bL f b++bL fo bo ++ [.push (bv T.f (LtA.ab T.vs)),.push (bv (fo||oF T.out) (aJ (L++T.out.flatMap oc))),.push .dead]):=by
 subst hT;exact kO h0 (.inr ⟨now,rfl⟩) (by decide) hg hV hf hO hfo hLi hLl hLn hn rfl
noncomputable def Wo:Ext:=fq (cR Tryz.prog []) [(129,GG)]
theorem Ka:ExtOk Tryz.prog Wo:=bD (aS .nil) (.cons HY .nil)
noncomputable def HB:Code:=(Tryz.f67.body).getD .skip
theorem K':Tryz.f67.body=some HB:=by kernel_rfl
theorem Uk:Tryz.f67.ntmps=30:=by kernel_rfl
theorem Xz:codeSafe Tryz.prog 30 HB=true:=by kernel_rfl
theorem S7(f fo:Bool)(vs:List aa)(c n:Nat)(L:List Value)(R:au)(now e:Int)(T1:TS)(Q:Value→List ae→List Nat→List ae→Prop):let b0:ae:=.cells 95 (ct R (vS f 1 vs.length c) [Iv now] (vS fo 2 n 40) e) false;let b1:ae:=.cells 95 (ct T1.R (vS T1.f 4 T1.vs.length T1.c) [Iv now] (vS (fo||oF T1.out) 5 (n+T1.out.length) 40) T1.e) false;let b2:ae:=bv (fo||oF T1.out) (aJ (L++T1.out.flatMap oc));let h3:Hp:=heapOf [b0,(bv f (LtA.ab vs)),(bv fo (aJ L)),.dead] aE;let b4:ae:=bv T1.f (LtA.ab T1.vs);((R.own.n=true→(R.want=true→((!R.asked)=true→((!(R.me==R.dest))=true→HE (GG [pb 0 0]) (h3) (.tuple #[]) ([.put 0 (b1)]++bL f 1++bL fo 2 ++ [.push (b4),.push (b2),.push .dead])∧(Q (.tuple #[]) [b1,.dead,.dead] [4,5] [(b4),(b2)]))∧((!(R.me==R.dest))=false→Q (.tuple #[]) [b0,(bv f (LtA.ab vs)),(bv fo (aJ L))] [1,2] [(bv f (LtA.ab vs)),(bv fo (aJ L))]))∧((!R.asked)=false→Q (.tuple #[]) [b0,(bv f (LtA.ab vs)),(bv fo (aJ L))] [1,2] [(bv f (LtA.ab vs)),(bv fo (aJ L))]))∧(R.want=false→Q (.tuple #[]) [b0,(bv f (LtA.ab vs)),(bv fo (aJ L))] [1,2] [(bv f (LtA.ab vs)),(bv fo (aJ L))]))∧(R.own.n=false→Q (.tuple #[]) [b0,(bv f (LtA.ab vs)),(bv fo (aJ L))] [1,2] [(bv f (LtA.ab vs)),(bv fo (aJ L))]))=RF Tryz.prog Wo Tryz.f67 60 HB ⟨tmsOf [pb 0 0] 0 .leaf,h3,[]⟩ (.b 5 (.b 11 (.b 19 (.b 37 (.e 40 (.tuple #[]) ([.put 0 (b1)]++bL f 1++bL fo 2 ++ [.push (b4),.push (b2),.push .dead]) (.stop 3 [4,5] [])) (.stop 3 [1,2] [])) (.stop 3 [1,2] [])) (.stop 3 [1,2] [])) (.stop 3 [1,2] [])) Q:=by cases f <;> cases fo <;> (intros;kernel_rfl)
def Ez:uS:=fun R f vs c aM e rest=>match aM,rest with
 | [.int .i64 _],[]=>some (⟨R,vs,f,c,[],e⟩:TS).dS
 | _,_=>none
theorem Rp(R:au)(f:Bool)(vs:List aa)(c:Nat)(aM:List Value)(e:Int)(h0:R.own.id=0)(hn:vs.length<1000000)(hm:gd aM):∀ rest T,Ez R f vs c aM e rest=some T→Ay 95 1999990 Tryz.f67 HB 30 R f vs c aM e rest T:=fun rest T h=>by
 unfold Ez at h;split at h
 case h_2=>cases h
 rename_i now;cases h;refine ⟨(by intro x hx; simp at hx),by simp,fun fo n L W X hLi hLl hLn hf0 hfo=>?_⟩
 obtain ⟨T1,hT1⟩:∃ T,((⟨R,vs,f,c,[],e⟩:TS).ga)=T:=⟨_,rfl⟩;refine bh.cq Ka follows Xz (S7 f fo vs c n L R now e T1 _) ?_
 unfold TS.dS TS.home;refine ⟨fun h_5=>⟨fun h_11=>⟨fun h_19=>⟨fun h_37=>⟨xx hT1 h0 (bp rfl) (bp rfl) hf0 (bp rfl) hfo hLi hLl (by omega) hn,QV.of (T':=(⟨T1.R,T1.vs,T1.f,T1.c,T1.out,T1.e⟩:TS)) (f2:=(fo||oF T1.out)) (n2:=(n+T1.out.length)) (L2:=(L++T1.out.flatMap oc)) (by simp) (by simp <;> omega) (by simp [oF]) ⟨_,_,rfl,rfl,rfl,4,5,rfl,rfl,fun _ _=>by decide,fun h=>⟨rfl,0,rfl,rfl⟩,fun h=>⟨rfl,1,rfl,rfl⟩⟩ ?_⟩,fun h_37=>QV.of (T':=(⟨R,vs,f,c,[],e⟩:TS)) (f2:=fo) (n2:=n) (L2:=L) (by simp) (by simp <;> omega) (by simp [oF]) ⟨_,_,(aA (LtA.aw _)),(aA (aX hLi)),rfl,1,2,rfl,rfl,fun _ _=>by decide,fun h=>⟨h,0,rfl,rfl⟩,fun h=>⟨h,1,rfl,rfl⟩⟩ ?_⟩,fun h_19=>QV.of (T':=(⟨R,vs,f,c,[],e⟩:TS)) (f2:=fo) (n2:=n) (L2:=L) (by simp) (by simp <;> omega) (by simp [oF]) ⟨_,_,(aA (LtA.aw _)),(aA (aX hLi)),rfl,1,2,rfl,rfl,fun _ _=>by decide,fun h=>⟨h,0,rfl,rfl⟩,fun h=>⟨h,1,rfl,rfl⟩⟩ ?_⟩,fun h_11=>QV.of (T':=(⟨R,vs,f,c,[],e⟩:TS)) (f2:=fo) (n2:=n) (L2:=L) (by simp) (by simp <;> omega) (by simp [oF]) ⟨_,_,(aA (LtA.aw _)),(aA (aX hLi)),rfl,1,2,rfl,rfl,fun _ _=>by decide,fun h=>⟨h,0,rfl,rfl⟩,fun h=>⟨h,1,rfl,rfl⟩⟩ ?_⟩,fun h_5=>QV.of (T':=(⟨R,vs,f,c,[],e⟩:TS)) (f2:=fo) (n2:=n) (L2:=L) (by simp) (by simp <;> omega) (by simp [oF]) ⟨_,_,(aA (LtA.aw _)),(aA (aX hLi)),rfl,1,2,rfl,rfl,fun _ _=>by decide,fun h=>⟨h,0,rfl,rfl⟩,fun h=>⟨h,1,rfl,rfl⟩⟩ ?_⟩
 all_goals (simp only [*,cond_true,cond_false,Bool.not_true,Bool.not_false,Bool.and_true,Bool.and_false,Bool.true_and,Bool.false_and]; try first | rfl | (rw [← hT1]; rfl))
noncomputable def uQ:aB:=toldV 95 1999990 Ez
theorem HX:aq Tryz.prog 67 uQ:=iq Tryz.func67 K' (by kernel_rfl) Uk Rp
theorem fZ{R:au}{f fo:Bool}{vs:List aa}{L:List Value}{now e:Int}{t b c bo n:Nat}{hp:Hp}{T:TS}(hT:(⟨R,vs,f,c,[],e⟩:TS).dS=T)(h0:R.own.id=0)(hg:hp.get t=some (.cells 95 (ct R (vS f b vs.length c) [.int .i64 now] (vS fo bo n 40) e) false))(hV:hp.get b=some (bv f (LtA.ab vs)))(hf:f=false→vs = []∧c=0)(hO:hp.get bo=some (bv fo (aJ L)))(hfo:fo=false→n=0∧L = [])
  (hLi:L.all inert=true) (hLl:L.length=n*13) (hLn:n<1999990) (hn:vs.length<1000000) :
  HE (uQ ([pb t 0])) hp (.tuple #[]) ([.put t (.cells 95 (gL T [.int .i64 now] fo n hp.sz (hp.sz+1)) false)]++bL f b++bL fo bo ++ [.push (bv T.f (LtA.ab T.vs)),.push (bv (fo||oF T.out) (aJ (L++T.out.flatMap oc))),.push .dead]):=by
 subst hT;exact kO h0 (.inr ⟨now,rfl⟩) (by decide) hg hV hf hO hfo hLi hLl hLn hn rfl
noncomputable def Wn:Ext:=fq (cR Tryz.prog []) [(167,uX),(168,yX),(143,GF),(67,uQ)]
theorem J':ExtOk Tryz.prog Wn:=bD (aS .nil) (.cons Ml (.cons PC (.cons Pt (.cons HX .nil))))
noncomputable def HA:Code:=(Tryz.f142.body).getD .skip
theorem K8:Tryz.f142.body=some HA:=by kernel_rfl
theorem Ui:Tryz.f142.ntmps=71:=by kernel_rfl
theorem Xx:codeSafe Tryz.prog 71 HA=true:=by kernel_rfl
theorem S5(f fo:Bool)(vs:List aa)(c n:Nat)(L:List Value)(R:au)(now e:Int)(lost fg:Bool)(kg:Nat)(r:BF)(ls:List aQ)(l1:aQ)(u1:List aa)(jds:List Int)(T1:TS)(T2:TS)(Q:Value→List ae→List Nat→List ae→Prop):let b0:ae:=.cells 23 [.bool r.1.n,Iv r.1.t,Iv r.1.o,Iv r.1.r,Iv r.1.d,Iv r.1.i] false;let b1:ae:=.cells 50 (oc ⟨(Int.ofNat 255),(Int.ofNat 2),R.dest,r.1,zL,(Int.ofNat 0)⟩) false;let b3:ae:=.cells 30 (lK ⟨0,(Int.ofNat 2),R.dest,r.1,zL,(Int.ofNat 0)⟩) false;let b4:ae:=bv (true||oF T1.out) (aJ (((L++oc ⟨(Int.ofNat 255),(Int.ofNat 2),R.dest,r.1,zL,(Int.ofNat 0)⟩)++oc ⟨(Int.ofNat 255),(Int.ofNat 3),R.dest,zH,l1,(Int.ofNat 0)⟩)++T1.out.flatMap oc));let b6:ae:=.cells 95 (ct R (vS f 1 vs.length c) [Iv now] (vS fo 2 n 40) e) false;let b7:ae:=.cells 95 (ct T1.R (vS T1.f 19 T1.vs.length T1.c) [Iv now] (vS (true||oF T1.out) 20 (((n+1)+1)+T1.out.length) 40) T1.e) false;let b8:ae:=.cells 28 [Iv l1.1,Iv l1.2.1,Iv l1.2.2] false;let b9:ae:=.cells 95 (ct T2.R (vS T2.f 9 T2.vs.length T2.c) [Iv now] (vS (true||oF T2.out) 10 ((n+1)+T2.out.length) 40) T2.e) false;let b10:ae:=bv (true||oF T2.out) (aJ ((L++oc ⟨(Int.ofNat 255),(Int.ofNat 2),R.dest,r.1,zL,(Int.ofNat 0)⟩)++T2.out.flatMap oc));let v12:Value:=.slice (some ⟨8,0,none⟩) (n+1) 40;let b2:ae:=.cells 95 (ct (⟨R.me,R.dest,r.1,R.asked,R.want,R.heard,R.last⟩) (vS f 1 vs.length c) [Iv now] (v12) e) false;let b5:ae:=.cells 95 (ct (⟨R.me,R.dest,r.1,R.asked,R.want,R.heard,R.last⟩) (vS f 12 u1.length (c2 f)) [Iv now] (v12) e) false;let h11:Hp:=heapOf [b2,(bv f (LtA.ab vs)),.dead,.dead,.dead,b0,b3,b1,(aJ (L++oc ⟨(Int.ofNat 255),(Int.ofNat 2),R.dest,r.1,zL,(Int.ofNat 0)⟩))] aE;let v13:Value:=.slice (some ⟨18,0,none⟩) ((n+1)+1) 40;let b14:ae:=.cells 50 (oc ⟨(Int.ofNat 255),(Int.ofNat 3),R.dest,zH,l1,(Int.ofNat 0)⟩) false;let v15:Value:=.slice (some ⟨9,0,none⟩) ls.length 11;let b16:ae:=.cells 30 (lK ⟨0,(Int.ofNat 3),R.dest,zH,l1,(Int.ofNat 0)⟩) false;let h17:Hp:=heapOf [b6,(bv f (LtA.ab vs)),(bv fo (aJ L)),.dead] aE;let v18:Value:=.tuple #[cN r.1,Iv r.2.1,Iv r.2.2];let b19:ae:=bv T1.f (LtA.ab T1.vs);let b20:ae:=bv T2.f (LtA.ab T2.vs);(((R.me==R.dest)=true→Q (.tuple #[]) [b6,(bv f (LtA.ab vs)),(bv fo (aJ L))] [1,2] [(bv f (LtA.ab vs)),(bv fo (aJ L))])∧((R.me==R.dest)=false→(R.own.n=true→Q (.tuple #[]) [b6,(bv f (LtA.ab vs)),(bv fo (aJ L))] [1,2] [(bv f (LtA.ab vs)),(bv fo (aJ L))])∧(R.own.n=false→HT (uX [.agg #[.bool R.own.n,Iv R.own.t,Iv R.own.o,Iv R.own.r,Iv R.own.d,Iv R.own.i],vS f 1 vs.length c,Iv now,.bool lost]) (h17) (v18) [.dead]∧(((r.2.2 != (Int.ofNat 0))=true→Q (.tuple #[]) [.cells 95 (ct R (vS f 1 vs.length c) [Iv now] (vS fo 2 n 40) r.2.2) false,(bv f (LtA.ab vs)),(bv fo (aJ L))] [1,2] [(bv f (LtA.ab vs)),(bv fo (aJ L))])∧((r.2.2 != (Int.ofNat 0))=false→((r.2.1==(Int.ofNat 0))=true→Q (.tuple #[]) [b6,(bv f (LtA.ab vs)),(bv fo (aJ L))] [1,2] [(bv f (LtA.ab vs)),(bv fo (aJ L))])∧((r.2.1==(Int.ofNat 0))=false→aAppend Tryz.prog (heapOf [.cells 95 (ct (⟨R.me,R.dest,r.1,R.asked,R.want,R.heard,R.last⟩) (vS f 1 vs.length c) [Iv now] (vS fo 2 n 40) e) false,(bv f (LtA.ab vs)),(bv fo (aJ L)),.dead,.dead,b0,b3,b1] aE).get 8 [34,34] [vS fo 2 n 40,.slice (some ⟨7,0,none⟩) 1 40]=some (v12,(gj fo 2 (aJ (L++oc ⟨(Int.ofNat 255),(Int.ofNat 2),R.dest,r.1,zL,(Int.ofNat 0)⟩))))∧(((r.2.1==(Int.ofNat 4))=true→HT (yX [vS f 1 vs.length c]) (h11) (v15) [(ownL ls),.dead]∧((fstV ((aIndexAddr Tryz.prog 172 (v15) (iN 0)).map fun v=>(v,none)):OV)=some (pb 9 (0*3))∧((aLoad Tryz.prog (heapOf [b2,(bv f (LtA.ab vs)),.dead,.dead,.dead,b0,b3,b1,(aJ (L++oc ⟨(Int.ofNat 255),(Int.ofNat 2),R.dest,r.1,zL,(Int.ofNat 0)⟩)),(ownL ls),.dead] aE).get 28 (pb 9 (0*3)):OV)=some (lA l1)∧(HE (GF [pb 0 0,.agg #[Iv l1.1,Iv l1.2.1,Iv l1.2.2]]) (heapOf [b2,(bv f (LtA.ab vs)),.dead,.dead,.dead,b0,b3,b1,(aJ (L++oc ⟨(Int.ofNat 255),(Int.ofNat 2),R.dest,r.1,zL,(Int.ofNat 0)⟩)),(ownL ls),.dead,b8] aE) (vS fg 13 kg 4) [.put 0 (b5),.push ((bv f (LtA.ab u1))),.push ((bv fg (iB jds))),.push (.dead)]∧(aAppend Tryz.prog (heapOf [b5,(bv f (LtA.ab vs)),.dead,.dead,.dead,b0,b3,b1,(aJ (L++oc ⟨(Int.ofNat 255),(Int.ofNat 2),R.dest,r.1,zL,(Int.ofNat 0)⟩)),(ownL ls),.dead,b8,(bv f (LtA.ab u1)),(bv fg (iB jds)),.dead,b8,b16,b14] aE).get 18 [34,34] [v12,.slice (some ⟨17,0,none⟩) 1 40]=some (v13,[.put 8 .dead,.push (aJ ((L++oc ⟨(Int.ofNat 255),(Int.ofNat 2),R.dest,r.1,zL,(Int.ofNat 0)⟩)++oc ⟨(Int.ofNat 255),(Int.ofNat 3),R.dest,zH,l1,(Int.ofNat 0)⟩))])∧(HE (uQ [pb 0 0]) (heapOf [.cells 95 (ct (⟨R.me,R.dest,r.1,R.asked,R.want,R.heard,R.last⟩) (vS f 12 u1.length (c2 f)) [Iv now] (v13) e) false,(bv f (LtA.ab vs)),.dead,.dead,.dead,b0,b3,b1,.dead,(ownL ls),.dead,b8,(bv f (LtA.ab u1)),(bv fg (iB jds)),.dead,b8,b16,b14,(aJ ((L++oc ⟨(Int.ofNat 255),(Int.ofNat 2),R.dest,r.1,zL,(Int.ofNat 0)⟩)++oc ⟨(Int.ofNat 255),(Int.ofNat 3),R.dest,zH,l1,(Int.ofNat 0)⟩))] aE) (.tuple #[]) ([.put 0 (b7)]++bL f 12++bL true 18 ++ [.push (b19),.push (b4),.push .dead])∧(Q (.tuple #[]) [b7,(bv f (LtA.ab vs)),.dead] [19,20] [(b19),(b4)])))))))∧((r.2.1==(Int.ofNat 4))=false→HE (uQ [pb 0 0]) (h11) (.tuple #[]) ([.put 0 (b9)]++bL f 1++bL true 8 ++ [.push (b20),.push (b10),.push .dead])∧(Q (.tuple #[]) [b9,.dead,.dead] [9,10] [(b20),(b10)])))))))))=RF Tryz.prog Wn Tryz.f142 60 HA ⟨tmsOf [pb 0 0,.bool lost] 0 .leaf,h17,[]⟩ (.b 13 (.stop 3 [1,2] []) (.b 21 (.stop 3 [1,2] []) (.h 38 (v18) [.dead] (.b 48 (.stop 3 [1,2] []) (.b 50 (.stop 3 [1,2] []) (.e 85 (v12) (gj fo 2 (aJ (L++oc ⟨(Int.ofNat 255),(Int.ofNat 2),R.dest,r.1,zL,(Int.ofNat 0)⟩))) (.b 90 (.h 96 (v15) [(ownL ls),.dead] (.v 97 (pb 9 (0*3)) (.v 98 (lA l1) (.e 103 (vS fg 13 kg 4) [.put 0 (b5),.push ((bv f (LtA.ab u1))),.push ((bv fg (iB jds))),.push (.dead)] (.e 130 (v13) [.put 8 .dead,.push (aJ ((L++oc ⟨(Int.ofNat 255),(Int.ofNat 2),R.dest,r.1,zL,(Int.ofNat 0)⟩)++oc ⟨(Int.ofNat 255),(Int.ofNat 3),R.dest,zH,l1,(Int.ofNat 0)⟩))] (.e 135 (.tuple #[]) ([.put 0 (b7)]++bL f 12++bL true 18 ++ [.push (b19),.push (b4),.push .dead]) (.stop 3 [19,20] []))))))) (.e 92 (.tuple #[]) ([.put 0 (b9)]++bL f 1++bL true 8 ++ [.push (b20),.push (b10),.push .dead]) (.stop 3 [9,10] []))))))))) Q:=by cases f <;> cases fo <;> (intros;kernel_rfl)
def keepA:uS:=fun R f vs c aM e rest=>match aM,rest with
 | [.int .i64 now],[.bool lost]=>some ((⟨R,vs,f,c,[],e⟩:TS).keep now lost)
 | _,_=>none
def iz(vs:List aa)(l:aQ)(keep:Int):List aa:=vs.map (kv l.1 l.2.1 l.2.2 keep)
namespace TS
def Jy(T:TS)(r:BF)(l:aQ)(us:List aa):TS:=bif T.home||T.R.own.n then T else bif r.2.2 != Int.ofNat 0 then T.err r.2.2 else bif r.2.1==Int.ofNat 0 then T else
 bif r.2.1==Int.ofNat 4 then ((⟨((T.own r.1).tell 255).R,us,T.f,c2 T.f,((T.own r.1).tell 255).out,T.e⟩:TS).clear 255 l).dS else ((T.own r.1).tell 255).dS
end TS
theorem tF{c t o r d i:Int}:(AF c t o r d i).1.id=0:=by unfold AF; cases dG false t o r d i <;> rfl
theorem C7{own:aa}{vs:List aa}{now:Int}{lost:Bool}(h0:own.id=0):(bJ own vs now lost).1.id=0:=by
 unfold bJ lQ;cases dG own.n own.t own.o own.r own.d own.i
 ·rfl
 simp only [Bool.not_true,cond_false];unfold caseW;cases aF vs
 ·rfl
 simp only [Bool.not_true,cond_false];cases decide (now<Int.ofNat 0)
 case true=>rfl
 simp only [cond_false];cases decide (now>Int.ofNat 4611686018427387903)
 case true=>rfl
 simp only [cond_false];cases own.n
 case true=>exact h0
 simp only [cond_false];cases (!(bM 1 own vs).isEmpty)
 case true=>exact h0
 simp only [cond_false];cases (bG (aT vs)).getLast? with
 | none=>rfl
 | some top =>
   simp only;unfold oV;cases lost
   case true=>exact tF
   simp only [cond_false];cases decide (Int.ofNat (bG (aT vs)).length>Int.ofNat 1)
   case true=>exact tF
   simp only [cond_false];cases (top.2.2==Int.ofNat 0)
   case true=>exact tF
   simp only [cond_false];cases (top.2.1==own.i)
   case true=>rfl
   exact tF
theorem Rm(R:au)(f:Bool)(vs:List aa)(c:Nat)(aM:List Value)(e:Int)(h0:R.own.id=0)(hn:vs.length<1000000)(hm:gd aM):∀ rest T,keepA R f vs c aM e rest=some T→Ay 95 1999980 Tryz.f142 HA 71 R f vs c aM e rest T:=fun rest T h=>by
 unfold keepA at h;split at h
 case h_2=>cases h
 rename_i now lost;cases h;refine ⟨(by intro x hx; simp at hx; subst hx; exact mu _),by simp,fun fo n L W X hLi hLl hLn hf0 hfo=>?_⟩
 have hTN:∀ {hp:Hp},hp.get 1=some (bv f (LtA.ab vs))→TN vs (vS f 1 vs.length c) hp:=fun hg=>pd hg fun h=>(hf0 h).1
 have hcase:∀ {hp:Hp},hp.get 1=some (bv f (LtA.ab vs))→uX [cN R.own,vS f 1 vs.length c,.int .i64 now,.bool lost] hp=some (Bi (bJ R.own vs now lost),heapOf [.dead] hp):=fun hg=>Cb h0 now lost (hTN hg) hn
 have hlevs:((bJ R.own vs now lost).2.1==Int.ofNat 4)=true→∀ {hp:Hp},hp.get 1=some (bv f (LtA.ab vs))→yX [vS f 1 vs.length c] hp=_:=fun h _ hg=>Kr (hTN hg) hn (n3 h)
 have hls:((bJ R.own vs now lost).2.1==Int.ofNat 4)=true→0<(bG (aT vs)).length∧(bG (aT vs))[0]? = some ((bG (aT vs)).headD zL):=fun h=>⟨List.length_pos_iff.2 (n3 h),DW (n3 h)⟩
 have hr0:=C7 (vs:=vs) (now:=now) (lost:=lost) h0
 have hforg:∀ {R':au} {out:Value} {t b:Nat} {hp:Hp},R'.dest=R.dest→R'.own.id=0→hp.get t=some (.cells 95 (ct R' (vS f b vs.length c) [.int .i64 now] out e) false)→lO (vS f b vs.length c) out hp→hp.get b=some (bv f (LtA.ab vs)) →
   HE (GF [pb t 0,lA ((bG (aT vs)).headD zL)]) hp (vS (!(bY ((bG (aT vs)).headD zL) R.dest vs).isEmpty) (hp.sz+1) (bY ((bG (aT vs)).headD zL) R.dest vs).length 4) [.put t (.cells 95 (ct R' (vS f hp.sz (iz vs ((bG (aT vs)).headD zL) R.dest).length (c2 f)) [.int .i64 now] out e) false),.push (bv f (LtA.ab (iz vs ((bG (aT vs)).headD zL) R.dest))),.push (bv (!(bY ((bG (aT vs)).headD zL) R.dest vs).isEmpty) (iB (bY ((bG (aT vs)).headD zL) R.dest vs))),.push .dead]:=fun hd h0 hg hO hb=>by
  have:=yW (l:=(bG (aT vs)).headD zL) (fun h=>(hf0 h).1) hn h0 hg hO hb
  rw [hd] at this;exact this
 have hn1:(iz vs ((bG (aT vs)).headD zL) R.dest).length<1000000:=by unfold iz; rw [List.length_map]; exact hn
 have hf1:f=false→iz vs ((bG (aT vs)).headD zL) R.dest = []∧c2 f=0:=fun h=>by rw [(hf0 h).1,h]; exact ⟨rfl,rfl⟩
 show bh _ _ _ _ _ _ _ (ft _ _ (QV _ ((⟨R,vs,f,c,[],e⟩:TS).Jy (bJ R.own vs now lost) ((bG (aT vs)).headD zL) (iz vs ((bG (aT vs)).headD zL) R.dest)) _ _ _ _ _))
 generalize bJ R.own vs now lost=r at *;generalize iz vs ((bG (aT vs)).headD zL) R.dest=u1 at *;generalize bY ((bG (aT vs)).headD zL) R.dest vs=jds at *;generalize bG (aT vs)=ls at *;generalize ls.headD zL=l1 at *;generalize (!jds.isEmpty)=fg at *;generalize jds.length=kg at *;obtain ⟨T1,hT1⟩:∃ T,((⟨⟨R.me,R.dest,r.1,R.asked,R.want,R.heard,R.last⟩,u1,f,(c2 f),[],e⟩:TS).dS)=T:=⟨_,rfl⟩;obtain ⟨T2,hT2⟩:∃ T,((⟨⟨R.me,R.dest,r.1,R.asked,R.want,R.heard,R.last⟩,vs,f,c,[],e⟩:TS).dS)=T:=⟨_,rfl⟩;refine bh.cq J' follows Xx (S5 f fo vs c n L R now e lost fg kg r ls l1 u1 jds T1 T2 _) ?_
 refine ⟨fun h_13=>QV.of (T':=(⟨R,vs,f,c,[],e⟩:TS)) (f2:=fo) (n2:=n) (L2:=L) (by simp) (by simp <;> omega) (by simp [oF]) ⟨_,_,(aA (LtA.aw _)),(aA (aX hLi)),rfl,1,2,rfl,rfl,fun _ _=>by decide,fun h=>⟨h,0,rfl,rfl⟩,fun h=>⟨h,1,rfl,rfl⟩⟩ ?_,fun h_13=>⟨fun h_21=>QV.of (T':=(⟨R,vs,f,c,[],e⟩:TS)) (f2:=fo) (n2:=n) (L2:=L) (by simp) (by simp <;> omega) (by simp [oF]) ⟨_,_,(aA (LtA.aw _)),(aA (aX hLi)),rfl,1,2,rfl,rfl,fun _ _=>by decide,fun h=>⟨h,0,rfl,rfl⟩,fun h=>⟨h,1,rfl,rfl⟩⟩ ?_,fun h_21=>⟨hcase (bp rfl),fun h_48=>QV.of (T':=(⟨R,vs,f,c,[],r.2.2⟩:TS)) (f2:=fo) (n2:=n) (L2:=L) (by simp) (by simp <;> omega) (by simp [oF]) ⟨_,_,(aA (LtA.aw _)),(aA (aX hLi)),rfl,1,2,rfl,rfl,fun _ _=>by decide,fun h=>⟨h,0,rfl,rfl⟩,fun h=>⟨h,1,rfl,rfl⟩⟩ ?_,fun h_48=>⟨fun h_50=>QV.of (T':=(⟨R,vs,f,c,[],e⟩:TS)) (f2:=fo) (n2:=n) (L2:=L) (by simp) (by simp <;> omega) (by simp [oF]) ⟨_,_,(aA (LtA.aw _)),(aA (aX hLi)),rfl,1,2,rfl,rfl,fun _ _=>by decide,fun h=>⟨h,0,rfl,rfl⟩,fun h=>⟨h,1,rfl,rfl⟩⟩ ?_,fun h_50=>⟨kl hfo (by omega) hLl (bp rfl) (bp rfl),fun h_90=>⟨hlevs h_90 (bp rfl),MM (hls h_90).1,yb (us:=ls) (bp rfl) (hls h_90).2,hforg (R':=⟨R.me,R.dest,r.1,R.asked,R.want,R.heard,R.last⟩) rfl hr0 (bp rfl) (wG rfl (bp rfl) (aX (by simp [hLi,ug]))) (bp rfl),qf (by omega) (by simp [hLl,Il]; omega) (bp rfl) (bp rfl),fZ hT1 hr0 (bp rfl) (bp rfl) hf1 (bp rfl) (fun h=>by cases h) (by simp [hLi,ug]) (by simp [hLl,Il]; omega) (by omega) hn1,QV.of (T':=(⟨T1.R,T1.vs,T1.f,T1.c,([⟨(Int.ofNat 255),(Int.ofNat 2),R.dest,r.1,zL,(Int.ofNat 0)⟩,⟨(Int.ofNat 255),(Int.ofNat 3),R.dest,zH,l1,(Int.ofNat 0)⟩]++T1.out),T1.e⟩:TS)) (f2:=(true||oF T1.out)) (n2:=(((n+1)+1)+T1.out.length)) (L2:=(((L++oc ⟨(Int.ofNat 255),(Int.ofNat 2),R.dest,r.1,zL,(Int.ofNat 0)⟩)++oc ⟨(Int.ofNat 255),(Int.ofNat 3),R.dest,zH,l1,(Int.ofNat 0)⟩)++T1.out.flatMap oc)) (by simp) (by simp <;> omega) (by simp [oF]) ⟨_,_,(aA (LtA.aw _)),rfl,rfl,19,20,rfl,rfl,fun _ _=>by decide,fun h=>⟨rfl,0,rfl,rfl⟩,fun h=>⟨rfl,1,rfl,rfl⟩⟩ ?_⟩,fun h_90=>⟨fZ hT2 hr0 (bp rfl) (bp rfl) hf0 (bp rfl) (fun h=>by cases h) (by simp [hLi,ug]) (by simp [hLl,Il]; omega) (by omega) hn,QV.of (T':=(⟨T2.R,T2.vs,T2.f,T2.c,([⟨(Int.ofNat 255),(Int.ofNat 2),R.dest,r.1,zL,(Int.ofNat 0)⟩]++T2.out),T2.e⟩:TS)) (f2:=(true||oF T2.out)) (n2:=((n+1)+T2.out.length)) (L2:=((L++oc ⟨(Int.ofNat 255),(Int.ofNat 2),R.dest,r.1,zL,(Int.ofNat 0)⟩)++T2.out.flatMap oc)) (by simp) (by simp <;> omega) (by simp [oF]) ⟨_,_,rfl,rfl,rfl,9,10,rfl,rfl,fun _ _=>by decide,fun h=>⟨rfl,0,rfl,rfl⟩,fun h=>⟨rfl,1,rfl,rfl⟩⟩ ?_⟩⟩⟩⟩⟩⟩
 all_goals (simp only [TS.Jy,TS.home,TS.own,TS.tell,TS.send,TS.clear,TS.err, *,cond_true,cond_false,Bool.or_false,Bool.false_or,Bool.or_true,Bool.true_or]; try first | rfl | (rw [TS.fQ,hT1]; rfl) | (rw [TS.fQ,hT2]; rfl))
noncomputable def Au:aB:=toldV 95 1999980 keepA
theorem Ms:aq Tryz.prog 142 Au:=iq Tryz.func142 K8 (by kernel_rfl) Ui Rm
theorem ke{R:au}{f fo:Bool}{vs:List aa}{L:List Value}{now e:Int}{t b c bo n:Nat}{hp:Hp}{lost:Bool}{T:TS}(hT:((⟨R,vs,f,c,[],e⟩:TS).keep now lost)=T)(h0:R.own.id=0)(hg:hp.get t=some (.cells 95 (ct R (vS f b vs.length c) [.int .i64 now] (vS fo bo n 40) e) false))(hV:hp.get b=some (bv f (LtA.ab vs)))(hf:f=false→vs = []∧c=0)(hO:hp.get bo=some (bv fo (aJ L)))(hfo:fo=false→n=0∧L = [])
  (hLi:L.all inert=true) (hLl:L.length=n*13) (hLn:n<1999980) (hn:vs.length<1000000) :
  HE (Au ([pb t 0,.bool lost])) hp (.tuple #[]) ([.put t (.cells 95 (gL T [.int .i64 now] fo n hp.sz (hp.sz+1)) false)]++bL f b++bL fo bo ++ [.push (bv T.f (LtA.ab T.vs)),.push (bv (fo||oF T.out) (aJ (L++T.out.flatMap oc))),.push .dead]):=by
 subst hT;exact kO h0 (.inr ⟨now,rfl⟩) (by decide) hg hV hf hO hfo hLi hLl hLn hn rfl
end Go.Proofs.YtgeoommlmddgpaaGreat.LtL
